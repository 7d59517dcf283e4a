/-
  The walk of jalousielaw19.FilterWishes, in either mode: it answers true. Asked: the table of 64 words lies as the text lays it.
-/
import Derived.Test.YtdgbcieopkilcaaDoorFltO
namespace Go.Proofs.YtdgbcieopkilcaaDoor
open Go.ChangeShapes Go.WideShapes Go.ChangeAt Go.RowKit

def hdZz : Hd := ⟨0, 0, fun _ => 0, 0, false, 0, fun _ => 0, none, 0, 0, fun _ => 0, fun _ => 0, 0, fun _ => 0⟩
/-- A header with one token alone. -/
def hdTk (r : Nat) : Hd := ⟨0, 0, fun _ => 0, 0, false, 0, fun _ => 0, some ⟨r, 0, none⟩, 1, 1, fun _ => 0, fun _ => 0, 0, fun _ => 0⟩
set_option maxRecDepth 100000 in
theorem zero_hdW (w : World) : (zeroValue 48).run Tryd.prog w = .ok (.agg (hdV hdZz)) w := by kernel_rfl
set_option maxRecDepth 100000 in
theorem build_hd7 (w : World) (r : Nat) : (Instr.build 48 #[(7, .slice (some ⟨r, 0, none⟩) 1 1)]).run Tryd.prog w = .ok (.agg (hdV (hdTk r))) w := by kernel_rfl
set_option maxRecDepth 100000 in
theorem build_h1 (w : World) (x : Int) : (Instr.build 23 #[(0, .int .u8 x)]).run Tryd.prog w = .ok (.agg (rowArr 32 fun j => .int .u8 (if j = 0 then x else 0))) w := by kernel_rfl
theorem wp_build_h1 {ops : Array Oper} {Q : Exit → Act → World → Prop} {rest : List Oper} {o : Oper} {a : Act} {w : World} (hgd : o.guard = none) (x : Operand) (v : Int) (ho : o.op = .build 23 #[(0, x)]) (hx : a.eval x = .int .u8 v) (h : wpList Tryd.prog ops Q rest (a.put o.dst (.agg (rowArr 32 fun j => .int .u8 (if j = 0 then v else 0)))) w) : wpList Tryd.prog ops Q (o :: rest) a w := by
  refine wpList_plain hgd fun K hK => ?_
  unfold Oper.wp execOp
  simp only [ho, List.map_toArray, List.map_cons, List.map_nil, hx, Sem.run_bind, build_h1, Result.andThen_ok, Sem.run_pure]
  exact hK _ _ h
theorem ts_one {w : World} {r : Nat} {T : Nat → Int} {fr : Nat × Nat} {E : TypeId} (h : w.heap[r]? = some (.cells (rowArr 16 fun j => .int .u8 (T j)) E fr)) (hb : ∀ j, j < 16 → 0 ≤ T j ∧ T j < 256) : TsAt w (some ⟨r, 0, none⟩) 1 1 [T] := by
  refine ⟨rfl, Nat.le_refl _, by omega, by omega, fun t ht => ?_, fun _ => ⟨r, 0, rfl, fun i hi j hj => ?_⟩, fun e => by cases e⟩
  · obtain rfl := List.mem_singleton.1 ht
    exact hb
  · obtain rfl : i = 0 := by omega
    rw [show 0 + 0 * 16 + j = j by omega]
    exact row_cell h j hj
section
variable {w : World} {o : Oper} {ev : Operand → Value} {x : Operand} {S : Nat}
theorem lu_tk1 (ho : o.op = .buildSlice 32 1 #[(0, x)]) (T : Nat → Int) (hx : ev x = .agg (rowArr 16 fun j => .int .u8 (T j))) (hs : S ≤ w.heap.size) :
    lexUpon Tryd.prog w (.ab fun u w' => ∃ r, u = .slice (some ⟨r, 0, none⟩) 1 1 ∧ w'.heap[r]? = some (.cells (rowArr 16 fun j => .int .u8 (T j)) 35 (0, 0)) ∧ S ≤ r) ((execOp ev o).run Tryd.prog w) := by
  simp only [execOp, ho, List.map_toArray, List.map_cons, List.map_nil, hx, Sem.run_bind, build_tk1, Result.andThen_ok, Sem.run_pure]
  exact ⟨(Ext.refl _).alloc _, _, rfl, heap_new w _ _ rfl, hs⟩
theorem lu_hd7 (ho : o.op = .build 48 #[(7, x)]) (r : Nat) (hx : ev x = .slice (some ⟨r, 0, none⟩) 1 1) {ob : Obj} (h1 : w.heap[r]? = some ob) (h2 : S ≤ r) :
    lexUpon Tryd.prog w (.ab fun u w' => ∃ r, u = .agg (hdV (hdTk r)) ∧ w'.heap[r]? = some ob ∧ S ≤ r) ((execOp ev o).run Tryd.prog w) := by
  simp only [execOp, ho, List.map_toArray, List.map_cons, List.map_nil, hx, Sem.run_bind, build_hd7, Result.andThen_ok, Sem.run_pure]
  exact ⟨Ext.refl _, r, rfl, h1, h2⟩
end
theorem ts_kp {w w' : World} {g m : Nat} {a : Option Addr} {n c : Nat} {ts : List (Nat → Int)} (h : TsAt w a n c ts) (k : Kp2 g m w w') (hne : 0 < n → ∀ p : Addr, a = some p → p.block ≠ g ∧ p.block ≠ m) : TsAt w' a n c ts := by
  refine ⟨h.len, h.cap, h.lim, h.small, h.byte, fun hn => ?_, h.nil_⟩
  obtain ⟨b, off, ha, hc⟩ := h.at_ hn
  refine ⟨b, off, ha, fun i hi j hj => ?_⟩
  have h1 := hc i hi j hj
  have h2 := k.block b (World.block_lt_of_cell? w _ h1) (hne hn _ ha).1 (hne hn _ ha).2
  unfold World.cell? at h1 ⊢
  rw [h2]
  exact h1
/-- A formed filter's wish is formed, and no longer. -/
theorem fw_of {gb gm top : Nat} {f : Nat → Int} {b : Blinder gb gm top f} {s' : b.St} {al : Bool} {ss : List ByteArray} {vs : List (Nat → Int)} (hJ : flB al ss = true) (hs : TkSet b s' ss vs) (hl : vs.length ≤ ss.length) : fwB al vs = true := by
  unfold flB at hJ
  rw [Bool.and_eq_true, Bool.and_eq_true, decide_eq_true_eq] at hJ
  unfold fwB
  rw [rises_pw hs.up, decide_eq_true (show vs.length ≤ 8 by omega)]
  cases al with
  | false => rfl
  | true =>
    have h1 := hJ.2
    simp only [Bool.true_and, Bool.not_eq_true', decide_eq_false_iff_not] at h1
    show (true && true && !(true && decide (0 < vs.length))) = true
    rw [decide_eq_false (by omega)]
    rfl

set_option maxHeartbeats 4000000 in
set_option maxRecDepth 100000 in
theorem lawFw_any (K al : Bool) (a : Option Addr) (n c : Nat) (ss : List ByteArray) (h : Hd) (us : List (Nat → Int)) (w : World) (hs : SrAt w a n c ss) (hu : TsAt w h.ta h.tn h.tc us) (hk : KsAt 2 w) (hgl : 2 < w.heap.size) :
    Calls Tryd.prog 5 #[.bool K, .agg (fltV al (.slice a n c)), .agg (hdV h)] w fun e w' => e = .returned (.bool true) ∧ Ext w w' := by
  have hcap := hs.cap
  have hlim := hs.lim
  have htc := hu.cap
  have htl := hu.lim
  obtain ⟨HDV, hHDV⟩ : ∃ V, hdV h = V := ⟨_, rfl⟩
  obtain ⟨w2, hw2, hE2, hA2, hB2⟩ := two_box w (fltV al (.slice a n c)) HDV 44 48
  have Hsz := Lib.hid (show HDV.size = 125 by rw [← hHDV]; exact hdV_size h)
  have hE0 := hE2
  obtain ⟨g, hg⟩ : ∃ g, w.heap.size = g := ⟨_, rfl⟩
  rw [hg] at hA2 hB2
  have HTc := Lib.hid (show ∀ x, Ext w2 x → x.cell? ⟨g + 1, 53, none⟩ = some (.slice h.ta h.tn h.tc) from fun x hx => hd_toks (by rw [hHDV]; exact hx.keep hB2))
  have H0 := Lib.hid hs
  have HU0 := Lib.hid hu
  have HAw := Lib.hid (awake19_any w2)
  have HE2 := Lib.hid hE2
  have HRa := Lib.hid hA2
  have HRb := Lib.hid hB2
  have Hw2 := Lib.hid hw2
  have HK := Lib.hid hk
  have Hlen := Lib.hid hs.len
  have Hg := Lib.hid hg
  have HHDV := Lib.hid hHDV
  rw [hHDV]
  obtain ⟨ta, hta⟩ : ∃ x, h.ta = x := ⟨_, rfl⟩
  obtain ⟨tn, htn⟩ : ∃ x, h.tn = x := ⟨_, rfl⟩
  obtain ⟨tcc, htcc⟩ : ∃ x, h.tc = x := ⟨_, rfl⟩
  have Hta := Lib.hid hta
  have Htn := Lib.hid htn
  have Htcc := Lib.hid htcc
  rw [hta, htn, htcc] at HTc
  rw [htn, htcc] at htc
  rw [htcc] at htl
  clear hs hu hE2 hA2 hB2 hw2 hk hg hHDV hE0 hta htn htcc
  go_enter Tryd.func5, Tryd.ntmps5
  go_upto_region 1 with (fail)
  refine wp_world (w' := w2) Hw2.out ?_
  rw [Hg.out]
  clear Hw2
  go_wp2_with fail
  refine HAw.out.mono ?_
  rintro e w3 ⟨rfl, hE3⟩
  have HE3 := Lib.hid hE3
  have HFew := Lib.hid (few19_any al a n c ss w3 (H0.out.ext (HE2.out.trans hE3)))
  have HRa3 := Lib.hid (hE3.keep HRa.out)
  clear hE3 HAw
  go_wp2_with (refine wpList_load_rowW rfl 44 _ rfl g rfl _ _ _ _ HRa3.out Tryd.underlying44 rfl (by kernel_rfl) ?_)
  refine HFew.out.mono ?_
  rintro e w4 ⟨R, rfl, hR, hE4⟩
  have HE4 := Lib.hid (HE3.out.trans hE4)
  have HRn := Lib.hid hR
  clear hE4 hR HFew HE3 HRa3
  have HA4 := Lib.hid (awake19_any w4)
  have c53 := HTc.out w4 HE4.out
  cases R with
  | false =>
    go_wp2_with fail
    refine HA4.out.mono ?_
    rintro e w5 ⟨rfl, hE5⟩
    go_wp2
    go_ret
    exact ⟨rfl, HE2.out.trans (HE4.out.trans hE5)⟩
  | true =>
    have hn : n ≤ 20 := HRn.out (by first | rfl | trivial)
    by_cases h20 : 20 < tn
    · have x20 : (20 : Int) < (tn : Int) := by omega
      go_wp2_with fail
      refine HA4.out.mono ?_
      rintro e w5 ⟨rfl, hE5⟩
      go_wp2
      go_ret
      exact ⟨rfl, HE2.out.trans (HE4.out.trans hE5)⟩
    · have x20 : ¬ (20 : Int) < (tn : Int) := by omega
      clear HRn HA4
      go_upto_region 3 with (fail)
      clear c53
      obtain ⟨Sz, hSz⟩ : ∃ Sz, w4.heap.size = Sz := ⟨_, rfl⟩
      have HSz := Lib.hid hSz
      have HEw := Lib.hid (HE2.out.trans HE4.out)
      obtain ⟨f0, hf0⟩ : ∃ f0 : Nat → Int, (fun j => if j = 0 then 8 else 0) = f0 := ⟨_, rfl⟩
      obtain ⟨f1, hf1⟩ : ∃ f1 : Nat → Int, (fun j => if j = 0 then 1 else 0) = f1 := ⟨_, rfl⟩
      have hb0 : ∀ j, j < 32 → 0 ≤ f0 j ∧ f0 j < 256 := fun j _ => by rw [← hf0]; by_cases hj : j = 0 <;> simp [hj]
      have hb1 : ∀ j, j < 32 → 0 ≤ f1 j ∧ f1 j < 256 := fun j _ => by rw [← hf1]; by_cases hj : j = 0 <;> simp [hj]
      have e0 : (rowArr 32 fun j => Value.int .u8 (if j = 0 then 8 else 0)) = rowArr 32 fun j => .int .u8 (f0 j) := by rw [← hf0]
      have e1 : (rowArr 32 fun j => Value.int .u8 (if j = 0 then 1 else 0)) = rowArr 32 fun j => .int .u8 (f1 j) := by rw [← hf1]
      have HNew := Lib.hid (boxNew_both K f0 hb0 w4 (HK.out.ext' HEw.out))
      have Hb1 := Lib.hid hb1
      have He0 := Lib.hid e0
      have He1 := Lib.hid e1
      clear hSz hf0 hf1 hb0 hb1 e0 e1
      go_wp2_with (refine wp_build_h1 rfl _ 8 rfl rfl ?_; rw [He0.out])
      refine HNew.out.mono ?_
      rintro e z0 ⟨p, rfl, hp0, hEz⟩
      have HEz := Lib.hid hEz
      have Hp0 := Lib.hid hp0
      have HOf1 := Lib.hid (of_any f1 Hb1.out z0 (HK.out.ext' (HEw.out.trans hEz)))
      clear hEz hp0 HNew
      go_wp2_with (refine wp_build_h1 rfl _ 1 rfl rfl ?_; rw [He1.out])
      refine HOf1.out.mono ?_
      rintro e z ⟨rfl, hEz⟩
      have HEz2 := Lib.hid (HEz.out.trans hEz)
      have Hp := Lib.hid (Hp0.out.ext hEz)
      have hzs := zero_set
      clear hEz HOf1 Hp0 HEz
      go_upto_region 4 with (refine wpList_store_row rfl 30 (.tmp 8) (.tmp 32) rfl z.heap.size _ rfl rfl _ _ (heap_new z _ _ rfl) (by kernel_rfl) (by simp [rowArr_size]) (rowArr_one fun j _ => ofV_one f1 j) ?_; rw [setRow_new z _ _ _ _ rfl])
      obtain ⟨z1, hz1⟩ : ∃ z1, z.alloc (.cells (rowArr 128 (ofV f1)) 30) = z1 := ⟨_, rfl⟩
      obtain ⟨s0, hs00⟩ : ∃ s0, z.heap.size = s0 := ⟨_, rfl⟩
      have hE1 : Ext w4 z1 := by rw [← hz1]; exact HEz2.out.alloc _
      have hs1 : z1.heap[s0]? = some (.cells (rowArr 128 (ofV f1)) 30 (0, 0)) := by rw [← hz1]; exact heap_new z _ _ hs00.symm
      have hp1 : BoxIs K w4.heap.size p z1 := by rw [← hz1]; exact Hp.out.ext ((Ext.refl z).alloc _)
      have hps : p ≠ s0 := by
        have := World.block_lt_of_cell? _ _ Hp.out.mode
        have h2 : p < z.heap.size := this
        omega
      have hw2l := HE2.out.size
      have hw4l := HE4.out.size
      have hz1l := hE1.size
      have hg2 : g + 1 < w2.heap.size := (Array.getElem?_eq_some_iff.1 HRb.out).1
      obtain ⟨gm, hgm, bl, sA, hA1, -, hgms⟩ := hp1.blinder (HK.out.ext' (HEw.out.trans hE1)) (by omega) (tagK f1) (tagK_byte f1)
      have hpS := hp1.new
      have hpt := bl.gb_top
      have hgt := bl.gm_top
      have hst1 : s0 < z1.heap.size := (Array.getElem?_eq_some_iff.1 hs1).1
      have hms : gm ≠ s0 := hgms _ _ _ _ hs1 hps
      have hne : ∀ (b : Option Addr), (∀ x : Addr, b = some x → x.block < w.heap.size) → ∀ x : Addr, b = some x → x.block ≠ p ∧ x.block ≠ gm := fun b hb x hx => by have := hb x hx; omega
      have HNe := Lib.hid (show 0 < n → ∀ x : Addr, a = some x → x.block ≠ p ∧ x.block ≠ gm from fun h0 => hne a fun x hx => by
        obtain ⟨g0, off, h1, h2⟩ := H0.out.at_ h0
        rw [hx] at h1
        obtain rfl := Option.some.inj h1
        exact World.block_lt_of_cell? _ _ (h2 0 h0))
      have HNu := Lib.hid (show 0 < tn → ∀ x : Addr, ta = some x → x.block ≠ p ∧ x.block ≠ gm from fun h0 => hne ta fun x hx => by
        rw [← Htn.out] at h0
        obtain ⟨g0, off, h1, h2⟩ := HU0.out.at_ h0
        rw [Hta.out, hx] at h1
        obtain rfl := Option.some.inj h1
        exact World.block_lt_of_cell? _ _ (h2 0 h0 0 (by omega)))
      have HS1 := Lib.hid (H0.out.ext (HEw.out.trans hE1))
      have HU1 := Lib.hid (HU0.out.ext (HEw.out.trans hE1))
      have HO1 := Lib.hid (filterOf_any bl sA z1 hA1 (ofV f1) (fun i hi => ofV_tag f1 i hi) al a n c ss HS1.out HNe.out (by omega))
      have Hs1 := Lib.hid hs1
      have HE1 := Lib.hid (HEw.out.trans hE1)
      have HF1 := Lib.hid (hE1.keep (HE4.out.keep HRa.out))
      have HH1 := Lib.hid (hE1.keep (HE4.out.keep HRb.out))
      have HA1 := Lib.hid hA1
      have HOf := Lib.hid (fun i (hi : i < 32) => ofV_tag f1 i hi)
      rw [hs00]
      refine wp_world (w' := z1) hz1 ?_
      clear hz1 hp1 hs1 hE1 hne hA1 hgms hzs HEz2 Hp hs00
      go_wp2_with (first | (refine wpList_load_rowW rfl 30 _ rfl s0 rfl _ _ _ _ Hs1.out Tryd.underlying30 rfl (by kernel_rfl) ?_) | (refine wpList_load_rowW rfl 44 _ rfl g rfl _ _ _ _ HF1.out Tryd.underlying44 rfl (by kernel_rfl) ?_))
      refine HO1.out.mono ?_
      rintro e w5 hO
      have hcase : ∃ (J : Bool) (wal : Bool) (a1 : Option Addr) (m1 c1 : Nat) (vs : List (Nat → Int)) (s1 : bl.St), flB al ss = J ∧ e = .returned (.agg (fltV wal (.slice a1 m1 c1))) ∧ wal = (J && al) ∧ bl.At s1 w5 ∧ Kp2 p gm z1 w5 ∧ (∀ y, Kp2 p gm w5 y → TsAt y a1 m1 c1 vs) ∧ m1 ≤ n ∧ fwB wal vs = true ∧ (J = true → TkSet bl s1 ss vs) ∧ (J = false → m1 = 0) := by
        rcases hO with ⟨hJ, v, rfl, s1, ts, us1, a1, m1, c1, hTo, hSr, hm1, rfl, hown, hA5, hK5⟩ | ⟨hJ, rfl, hE5⟩
        · have hset := tokens_set hTo hSr
          have hml : m1 ≤ ss.length := by
            have h7 := cptN_le (us1.map (·.1)) (us1.map (·.1)).length
            have h8 : (us1.map (·.1)).length = ss.length := by rw [List.length_map, hSr.perm.length_eq, hTo.len]
            have h9 : m1 = (cptN (us1.map (·.1)) (us1.map (·.1)).length).length := hm1
            omega
          have hl := Hlen.out
          have hz := hK5.size
          refine ⟨true, al, a1, m1, c1, _, s1, hJ, rfl, rfl, hA5, hK5, fun y hy => own_ts1 (own_kp hown hy (by omega) (by omega)) (fun t ht j hj => ?_) (by omega), by omega, fw_of hJ hset (by omega), fun _ => hset, fun e => by cases e⟩
          obtain ⟨x, _, e⟩ := hset.from_ t ht
          exact bl.byte hA5 e j hj
        · exact ⟨false, false, none, 0, 0, [], sA, hJ, rfl, rfl, bl.kept HA1.out (Below.mono hE5 (bl.size HA1.out)), Kp2.of_ext hE5, fun y _ => ⟨rfl, Nat.le_refl _, by omega, by omega, fun t ht => (by cases ht), fun h => by omega, fun _ => rfl⟩, by omega, by decide, fun e => (by cases e), fun _ => rfl⟩
      clear hO
      obtain ⟨J, wal, a1, m1, c1, vs, s1, hJ, rfl, hwal, hA5, hK5, hV5, hmn, hfw, hset, hm0⟩ := hcase
      have Hwal := Lib.hid hwal
      clear hwal
      have hz5 := hK5.size
      have Hmn := Lib.hid hmn
      go_upto_region 5 with (refine wpList_store_row rfl 51 (.tmp 9) (.tmp 36) rfl w5.heap.size _ rfl rfl _ _ (heap_new w5 _ _ rfl) (by kernel_rfl) rfl (fltV_one _ _ _ _) ?_; rw [setRow_new w5 _ _ _ _ rfl])
      obtain ⟨w6, hw6⟩ : ∃ x, w5.alloc (.cells (fltV wal (.slice a1 m1 c1)) 51) = x := ⟨_, rfl⟩
      obtain ⟨q, hq⟩ : ∃ q, w5.heap.size = q := ⟨_, rfl⟩
      obtain ⟨S6, hS6⟩ : ∃ x, w6.heap.size = x := ⟨_, rfl⟩
      have hE6 : Ext w5 w6 := by rw [← hw6]; exact (Ext.refl w5).alloc _
      have hK6 : Kp2 p gm z1 w6 := hK5.trans (Kp2.of_ext hE6)
      have hW6 : w6.heap[q]? = some (.cells (fltV wal (.slice a1 m1 c1)) 51 (0, 0)) := by rw [← hw6]; exact heap_new w5 _ _ hq.symm
      have hz6 := hE6.size
      have HS6 := Lib.hid hS6
      have hqq : q < w6.heap.size := (Array.getElem?_eq_some_iff.1 hW6).1
      have Hpg := Lib.hid (show p < S6 ∧ gm < S6 ∧ z1.heap.size ≤ S6 by rw [← hS6]; omega)
      have HWi := Lib.hid (show ∀ y, Kp2 p gm w6 y → y.heap[q]? = some (.cells (fltV wal (.slice a1 m1 c1)) 51 (0, 0)) from fun y hy => (hy.block q hqq (by omega) (by omega)).trans hW6)
      have HFl := Lib.hid (show ∀ y, Kp2 p gm w6 y → y.heap[g]? = some (.cells (fltV al (.slice a n c)) 44 (0, 0)) from fun y hy => ((hK6.trans hy).block g (by omega) (by omega) (by omega)).trans HF1.out)
      have HHd := Lib.hid (show ∀ y, Kp2 p gm w6 y → y.heap[g + 1]? = some (.cells HDV 48 (0, 0)) from fun y hy => ((hK6.trans hy).block (g + 1) (by omega) (by omega) (by omega)).trans HH1.out)
      have HSt := Lib.hid (show ∀ y, Kp2 p gm w6 y → y.heap[s0]? = some (.cells (rowArr 128 (ofV f1)) 30 (0, 0)) from fun y hy => ((hK6.trans hy).block s0 hst1 (fun e => hps e.symm) (fun e => hms e.symm)).trans Hs1.out)
      have HSr := Lib.hid (show ∀ y, Kp2 p gm w6 y → SrAt y a n c ss from fun y hy => HS1.out.kp (hK6.trans hy) HNe.out)
      have HTu := Lib.hid (show ∀ y, Kp2 p gm w6 y → TsAt y h.ta h.tn h.tc us from fun y hy => ts_kp HU1.out (hK6.trans hy) (by rw [Hta.out, Htn.out]; exact HNu.out))
      have HV := Lib.hid (show ∀ y, Kp2 p gm w6 y → TsAt y a1 m1 c1 vs from fun y hy => hV5 y ((Kp2.of_ext hE6).trans hy))
      have HEx := Lib.hid (show ∀ y, Kp2 p gm w6 y → Ext w y from fun y hy => (hK6.trans hy).ext_of HE1.out (by omega) (by omega))
      have HC6 := Lib.hid (show ∀ y, Ext w6 y → KtC bl s1 w6 y from fun y hy => ⟨s1, bl.kept (bl.kept hA5 (Below.mono hE6 (bl.size hA5))) (Below.mono hy (by omega)), fun _ _ hu => hu, Kp2.of_ext hy⟩)
      have HKc := Lib.hid (show ∀ y, KtC bl s1 w6 y → Kp2 p gm w6 y from fun y ⟨_, _, _, hh⟩ => hh)
      have HRf := Lib.hid (show ∀ y, Kp2 p gm w6 y → Calls Tryd.prog 19 #[.agg (fltV al (.slice a n c))] y fun e w' => e = .returned (.bool J) ∧ Ext y w' from fun y hy => by rw [← hJ]; exact refFlt_any al a n c ss y (HSr.out y hy))
      have HFo := Lib.hid (show ∀ y, Kp2 p gm w6 y → Calls Tryd.prog 20 #[.agg (fltV al (.slice a n c))] y fun e w' => e = .returned (.bool J) ∧ Ext y w' from fun y hy => by rw [← hJ]; exact fltFormed_any al a n c ss y (HSr.out y hy))
      have HFw := Lib.hid (show ∀ y, Kp2 p gm w6 y → Calls Tryd.prog 21 #[.agg (fltV wal (.slice a1 m1 c1))] y fun e w' => e = .returned (.bool true) ∧ Ext y w' from fun y hy => by rw [← hfw]; exact fwish_any wal a1 m1 c1 vs y (HV.out y hy))
      obtain ⟨MB, hMB⟩ : ∃ x, meetsB wal vs us h.ctl = x := ⟨_, rfl⟩
      have HMe := Lib.hid (show ∀ y, Kp2 p gm w6 y → Calls Tryd.prog 22 #[.agg (fltV wal (.slice a1 m1 c1)), .agg HDV] y fun e w' => e = .returned (.bool MB) ∧ Ext y w' from fun y hy => by rw [← HHDV.out, ← hMB]; exact meets_any wal a1 m1 c1 vs h us y (HV.out y hy) (HTu.out y hy))
      have HMr := Lib.hid (show ∀ y, Kp2 p gm w6 y → Calls Tryd.prog 23 #[.agg (fltV wal (.slice a1 m1 c1)), .agg HDV] y fun e w' => e = .returned (.bool MB) ∧ Ext y w' from fun y hy => by rw [← HHDV.out, ← hMB]; exact refMeets_any wal a1 m1 c1 vs h us y (HV.out y hy) (HTu.out y hy))
      have Hset0 := Lib.hid hset
      have Hm00 := Lib.hid hm0
      have HTc6 := Lib.hid (show (0 : Nat) = 0 from rfl)
      rw [hq]
      refine wp_world (w' := w6) hw6 ?_
      clear hw6 hq hS6 hE6 hK6 hW6 hK5 hV5 hA5 hfw hset hm0 hMB hJ hmn HO1 Hs1 HF1 HH1 HU1 HTc HTc6
      have hz5 := HC6.out w6 (Ext.refl w6)
      clear hz5
      cases J with
      | true =>
        have Hset := Lib.hid (Hset0.out (by first | rfl | trivial))
        have hwal2 : wal = al := by rw [Hwal.out]; rfl
        clear Hset0 Hm00 Hwal
        subst hwal2
        go_wp2_with (refine wpList_load_rowW rfl 44 _ rfl g rfl _ _ _ _ (HFl.out _ (Kp2.refl p gm w6)) Tryd.underlying44 rfl (by kernel_rfl) ?_)
        refine (HRf.out w6 (Kp2.refl p gm w6)).mono ?_
        rintro e x5 ⟨rfl, hE5⟩
        have HX5 := Lib.hid hE5
        have HK5 := Lib.hid (Kp2.of_ext (g := p) (m := gm) hE5)
        clear hE5
        go_upto_region 6 with (fail)
        go_wp2_with (refine wpList_load_rowW rfl 44 _ rfl g rfl _ _ _ _ (HFl.out _ (HK5.out)) Tryd.underlying44 rfl (by kernel_rfl) ?_)
        refine (HFo.out x5 HK5.out).mono ?_
        rintro e x6 ⟨rfl, hE6⟩
        have HX6 := Lib.hid (HX5.out.trans hE6)
        have HK6 := Lib.hid (HK5.out.trans (Kp2.of_ext hE6))
        clear hE6
        go_wp2_with (refine wpList_load_rowW rfl 51 _ rfl q rfl _ _ _ _ (HWi.out _ (HK6.out)) Tryd.underlying51 rfl (by kernel_rfl) ?_)
        refine (HFw.out x6 HK6.out).mono ?_
        rintro e x7 ⟨rfl, hE7⟩
        have HK7 := Lib.hid (HK6.out.trans (Kp2.of_ext hE7))
        obtain ⟨c0, c1⟩ := flt_cell (HFl.out x7 HK7.out)
        obtain ⟨d0, d1⟩ := flt_cell (HWi.out x7 HK7.out)
        have HC7 := Lib.hid (HC6.out x7 (HX6.out.trans hE7))
        clear hE7
        go_upto_region 8 with (fail)
        clear c0 c1 d0 d1
        go_wp2
        go_loopw [11] (fun i y => ∃ k : Nat, k ≤ n ∧ i = .int .i64 (k : Int) ∧ KtC bl s1 w6 y) (fun i _ => n - (intOf i).toNat)
        case atStart => exact ⟨0, Nat.zero_le _, rfl, HC7.out⟩
        case round =>
          obtain ⟨k, hk, rfl, hS⟩ := hrel
          rename World => y
          have HS := Lib.hid hS
          have HKy := Lib.hid (HKc.out y hS)
          obtain ⟨c0, c1⟩ := flt_cell (HFl.out y HKy.out)
          clear hS
          by_cases hlt : k < n
          · have x2 : (k : Int) < (n : Int) := by omega
            obtain ⟨g0, off, rfl, hcell⟩ := (HSr.out y HKy.out).at_ (by omega)
            obtain ⟨x, hx⟩ : ∃ x, ss.getD k ⟨#[]⟩ = x := ⟨_, rfl⟩
            have hck := hcell k hlt
            rw [hx] at hck
            have Hxs := Lib.hid (show x.size ≤ 140737488351232 by rw [← hx]; exact H0.out.size _ (H0.out.get hlt))
            obtain ⟨T, hT, v, hv, hl⟩ := Hset.out.has x (by rw [← hx]; exact H0.out.get hlt)
            have HT := Lib.hid hT
            have Hin := Lib.hid (inB_of hv hl)
            have Hmt := Lib.hid (show meetB vs [T] = true from by
              unfold meetB
              rw [List.any_eq_true]
              exact ⟨v, hv, inB_of (List.mem_singleton.2 rfl) hl.symm⟩)
            have HTb := Lib.hid (show ∀ j, j < 16 → 0 ≤ T j ∧ T j < 256 from by
              obtain ⟨s', h1, h2, _⟩ := HS.out
              exact bl.byte h1 (h2 _ _ hT))
            have hg0 : g0 ≠ p ∧ g0 ≠ gm := HNe.out (by omega) _ rfl
            have hg0y : g0 < y.heap.size := World.block_lt_of_cell? _ _ hck
            have HCk := Lib.hid (show ∀ x1, Kp2 p gm w6 x1 → x1.cell? ⟨g0, off + k, none⟩ = some (.string x) from fun x1 hx1 => by
              obtain ⟨b1, o1, e1, h1⟩ := (HSr.out x1 hx1).at_ (by omega)
              simp only [Option.some.injEq, Addr.mk.injEq, and_true] at e1
              obtain ⟨rfl, rfl⟩ := e1
              rw [h1 k hlt, hx])
            have HST := Lib.hid (show ∀ (ph : Bool) (x1 x2 : World), KtC bl s1 w6 x1 → Ext x1 x2 → KtC bl s1 w6 x2 ∧ KtE p gm ph x1 x2 from fun ph x1 x2 h1 h2 => ⟨h1.ext h2, ktE_ext h2⟩)
            have hC0 : KtC bl s1 w6 y.drew := HS.out.ext (Ext.refl y).drew
            clear hcell hck hx hT hv hl hg0 hg0y
            go_upto_region 11 with (fail)
            clear c0 c1
            refine lq_start (C := fun _ => KtC bl s1 w6) (E := KtE p gm) 15 11 (by omega) (by kernel_rfl) (by kernel_rfl) (fun ph x1 => ktE_ext (Ext.refl _)) (fun x1 x2 h => Kp2.of_ext h) hC0 ?_
            simp only [List.take_succ_cons, List.take_zero]
            refine lq_s (.ex (.bool true)) [] (by decide) (by kernel_rfl) rfl (by rfl) trivial HST.out (fun ph w1 hw1 => ?_) ?_
            · simp only [pk, lexVals]
              clear hw1
              go_simp
              exact ⟨Ext.refl _, rfl⟩
            refine lq_s (.ex (.bool true)) [(0, 65)] (by decide) (by kernel_rfl) rfl (by rfl) trivial HST.out (fun ph w1 hw1 => ?_) ?_
            · simp only [pk, nthSp, lexVals]
              clear hw1
              go_simp
              exact ⟨Ext.refl _, rfl⟩
            refine lq_se (.ex (.pointer (some ⟨q, 1, none⟩))) [(0, 66)] 66 (by decide) (by kernel_rfl) rfl (by kernel_rfl) (by rfl) trivial HST.out (fun w1 => ?_) (fun ph w1 hw1 => ?_) ?_
            · simp only [pk, nthSp, lexVals]
              rfl
            · simp only [pk, nthSp, lexVals]
              clear hw1
              go_simp
              exact ⟨Ext.refl _, rfl⟩
            refine lq_se (.ex (.slice a1 m1 c1)) [(0, 67), (1, 66)] 66 (by decide) (by kernel_rfl) rfl (by kernel_rfl) (by rfl) trivial HST.out (fun w1 => ?_) (fun ph w1 hw1 => ?_) ?_
            · simp only [pk, nthSp, lexVals]
              rfl
            · simp only [pk, nthSp, lexVals]
              have hc := (flt_cell (HWi.out w1 (HKc.out w1 hw1))).2
              clear hw1
              go_simp
              exact ⟨Ext.refl _, rfl⟩
            refine lq_se (.ex (.pointer (some ⟨p, 0, none⟩))) [(2, 66)] 66 (by decide) (by kernel_rfl) rfl (by kernel_rfl) (by rfl) trivial HST.out (fun w1 => ?_) (fun ph w1 hw1 => ?_) ?_
            · simp only [pk, nthSp, lexVals]
              rfl
            · simp only [pk, nthSp, lexVals]
              clear hw1
              go_simp
              exact ⟨Ext.refl _, rfl⟩
            refine lq_se (.ex (.agg (rowArr 128 (ofV f1)))) [(3, 66)] 66 (by decide) (by kernel_rfl) rfl (by kernel_rfl) (by rfl) trivial HST.out (fun w1 => ?_) (fun ph w1 hw1 => ?_) ?_
            · simp only [pk, nthSp, lexVals]
              rfl
            · simp only [pk, nthSp, lexVals]
              exact lu_row rfl rfl (HSt.out w1 (HKc.out w1 hw1)) Tryd.underlying30 rfl (by kernel_rfl)
            refine lq_se (.ex (.pointer (some ⟨g, 1, none⟩))) [(4, 66)] 66 (by decide) (by kernel_rfl) rfl (by kernel_rfl) (by rfl) trivial HST.out (fun w1 => ?_) (fun ph w1 hw1 => ?_) ?_
            · simp only [pk, nthSp, lexVals]
              rfl
            · simp only [pk, nthSp, lexVals]
              clear hw1
              go_simp
              exact ⟨Ext.refl _, rfl⟩
            refine lq_se (.ex (.slice (some ⟨g0, off, none⟩) n c)) [(0, 71), (5, 66)] 66 (by decide) (by kernel_rfl) rfl (by kernel_rfl) (by rfl) trivial HST.out (fun w1 => ?_) (fun ph w1 hw1 => ?_) ?_
            · simp only [pk, nthSp, lexVals]
              rfl
            · simp only [pk, nthSp, lexVals]
              have hc := (flt_cell (HFl.out w1 (HKc.out w1 hw1))).2
              clear hw1
              go_simp
              exact ⟨Ext.refl _, rfl⟩
            refine lq_se (.ex (.int .i64 (k : Int))) [(6, 66)] 66 (by decide) (by kernel_rfl) rfl (by kernel_rfl) (by rfl) trivial HST.out (fun w1 => ?_) (fun ph w1 hw1 => ?_) ?_
            · simp only [pk, nthSp, lexVals]
              rfl
            · simp only [pk, nthSp, lexVals]
              clear hw1
              go_simp
              exact ⟨Ext.refl _, rfl⟩
            refine lq_se (.ex (.pointer (some ⟨g0, off + k, none⟩))) [(1, 72), (0, 73), (7, 66)] 66 (by decide) (by kernel_rfl) rfl (by kernel_rfl) (by rfl) trivial HST.out (fun w1 => ?_) (fun ph w1 hw1 => ?_) ?_
            · simp only [pk, nthSp, lexVals]
              rfl
            · simp only [pk, nthSp, lexVals]
              clear hw1
              go_simp
              exact ⟨Ext.refl _, rfl⟩
            refine lq_se (.ex (.string x)) [(0, 74), (8, 66)] 66 (by decide) (by kernel_rfl) rfl (by kernel_rfl) (by rfl) trivial HST.out (fun w1 => ?_) (fun ph w1 hw1 => ?_) ?_
            · simp only [pk, nthSp, lexVals]
              rfl
            · simp only [pk, nthSp, lexVals]
              have hc := HCk.out w1 (HKc.out w1 hw1)
              clear hw1
              go_simp
              exact ⟨Ext.refl _, rfl⟩
            refine lq_me (.ex (.agg (rowArr 16 fun j => .int .u8 (T j)))) [(6, 69), (5, 70), (0, 75), (9, 66)] 66 rfl (by kernel_rfl) rfl (by kernel_rfl) (by rfl) trivial (fun w1 => ?_) (fun w1 hw1 => ?_) ?_
            · simp only [pk, nthSp, lexVals]
              rfl
            · simp only [pk, nthSp, lexVals]
              obtain ⟨s2, hA, hG, hK⟩ := hw1
              have hm := token_any bl s2 w1 hA (ofV f1) HOf.out x Hxs.out
              have HM := Lib.hid hm
              have HG := Lib.hid hG
              have HKw := Lib.hid hK
              clear hm hA hG hK
              go_simp
              refine HM.out.mono ?_
              rintro e w2 ⟨s3, t, rfl, hA3, hT3, hG3, hK3⟩
              obtain rfl : t = T := Option.some.inj (hT3.symm.trans (hG3 _ _ (HG.out _ _ HT.out)))
              exact ⟨_, rfl, ⟨s3, hA3, fun ys u hu => hG3 _ _ (HG.out _ _ hu), HKw.out.trans hK3⟩, hK3, rfl⟩
            refine lq_se (.ex (.bool true)) [(8, 68), (0, 76), (10, 66)] 66 (by decide) (by kernel_rfl) rfl (by kernel_rfl) (by rfl) trivial HST.out (fun w1 => ?_) (fun ph w1 hw1 => ?_) ?_
            · simp only [pk, nthSp, lexVals]
              rfl
            · simp only [pk, nthSp, lexVals]
              have hm := refIn_any a1 m1 c1 vs T w1 (HV.out w1 (HKc.out w1 hw1))
              rw [Hin.out] at hm
              have HM := Lib.hid hm
              clear hm hw1
              go_simp
              refine HM.out.mono ?_
              rintro e w2 ⟨rfl, hE2⟩
              exact ⟨_, rfl, hE2, rfl⟩
            refine lq_se (.ex (.bool false)) [(0, 77), (11, 66)] 66 (by decide) (by kernel_rfl) rfl (by kernel_rfl) (by rfl) trivial HST.out (fun w1 => ?_) (fun ph w1 hw1 => ?_) ?_
            · simp only [pk, nthSp, lexVals]
              rfl
            · simp only [pk, nthSp, lexVals]
              clear hw1
              go_simp
              exact ⟨Ext.refl _, rfl⟩
            refine lq_s (.ex (.bool false)) [(12, 66), (0, 78)] (by decide) (by kernel_rfl) rfl (by rfl) trivial HST.out (fun ph w1 hw1 => ?_) ?_
            · simp only [pk, nthSp, lexVals]
              clear hw1
              go_simp
              exact ⟨Ext.refl _, rfl⟩
            refine lq_stop (by rfl) (by decide) fun y2 hy2 => ?_
            have HS2 := Lib.hid hy2
            clear hy2 HST hC0 HCk
            simp only [rv, pf, lexVals, List.drop_succ_cons, List.drop_zero]
            simp only [Act.put, List.setIfInBounds_toArray, List.set_cons_zero, List.set_cons_succ]
            go_wp2
            go_roundw
            case rel => exact ⟨k + 1, by omega, by go_num, HS2.out⟩
            case measure => simp [intOf]; omega
          · obtain rfl : k = n := by omega
            have x2 : ¬ (k : Int) < (k : Int) := by omega
            go_upto_region 13 with (fail)
            clear c0 c1
            have HX := Lib.hid (show ∀ x, Ext y.drew x → Ext y x from fun x hx => Ext.trans (Ext.refl y).drew hx)
            have HKy := Lib.hid (show ∀ x, Ext y x → Kp2 p gm w6 x from fun x hx => HKy.out.trans (Kp2.of_ext hx))
            refine wp_region_lexA (by kernel_rfl) (by kernel_rfl) ?_
            refine lx_e (.bool true) [] (by kernel_rfl) rfl (by rfl) (fun w1 hw1 => ?_) ?_
            · simp only [pk, lexVals]
              go_simp
              exact ⟨Ext.refl _, rfl⟩
            refine lx_e (.bool false) [(0, 80)] (by kernel_rfl) rfl (by rfl) (fun w1 hw1 => ?_) ?_
            · simp only [pk, nthSp, lexVals]
              go_simp
              exact ⟨Ext.refl _, rfl⟩
            refine lx_e (.bool false) [(0, 81)] (by kernel_rfl) rfl (by rfl) (fun w1 hw1 => ?_) ?_
            · simp only [pk, nthSp, lexVals]
              go_simp
              exact ⟨Ext.refl _, rfl⟩
            refine lx_no [(0, 82)] 82 (by kernel_rfl) rfl (by kernel_rfl) (by rfl) (fun w1 => ?_) ?_
            · simp only [pk, nthSp, lexVals]
              first | (go_simp; done) | (go_simp; exact fun h => by cases h)
            refine lx_no [(0, 83), (1, 82)] 82 (by kernel_rfl) rfl (by kernel_rfl) (by rfl) (fun w1 => ?_) ?_
            · simp only [pk, nthSp, lexVals]
              first | (go_simp; done) | (go_simp; exact fun h => by cases h)
            refine lx_no [(0, 84), (2, 82)] 82 (by kernel_rfl) rfl (by kernel_rfl) (by rfl) (fun w1 => ?_) ?_
            · simp only [pk, nthSp, lexVals]
              first | (go_simp; done) | (go_simp; exact fun h => by cases h)
            refine lx_no [(0, 85), (3, 82)] 82 (by kernel_rfl) rfl (by kernel_rfl) (by rfl) (fun w1 => ?_) ?_
            · simp only [pk, nthSp, lexVals]
              first | (go_simp; done) | (go_simp; exact fun h => by cases h)
            refine lx_e (.bool false) [(4, 82), (0, 86)] (by kernel_rfl) rfl (by rfl) (fun w1 hw1 => ?_) ?_
            · simp only [pk, nthSp, lexVals]
              go_simp
              exact ⟨Ext.refl _, rfl⟩
            refine lx_e (.bool false) [(0, 87)] (by kernel_rfl) rfl (by rfl) (fun w1 hw1 => ?_) ?_
            · simp only [pk, nthSp, lexVals]
              go_simp
              exact ⟨Ext.refl _, rfl⟩
            refine lx_ge (.pointer (some ⟨q, 1, none⟩)) [(0, 88)] 88 (by kernel_rfl) rfl (by kernel_rfl) (by rfl) (fun w1 => ?_) (fun w1 hw1 => ?_) ?_
            · simp only [pk, nthSp, lexVals]
              rfl
            · simp only [pk, nthSp, lexVals]
              go_simp
              exact ⟨Ext.refl _, rfl⟩
            refine lx_ge (.slice a1 m1 c1) [(0, 89), (1, 88)] 88 (by kernel_rfl) rfl (by kernel_rfl) (by rfl) (fun w1 => ?_) (fun w1 hw1 => ?_) ?_
            · simp only [pk, nthSp, lexVals]
              rfl
            · simp only [pk, nthSp, lexVals]
              have hc := (flt_cell (HWi.out w1 (HKy.out w1 (HX.out w1 hw1)))).2
              clear hw1
              go_simp
              exact ⟨Ext.refl _, rfl⟩
            refine lx_ge (.int .i64 (m1 : Int)) [(0, 90), (2, 88)] 88 (by kernel_rfl) rfl (by kernel_rfl) (by rfl) (fun w1 => ?_) (fun w1 hw1 => ?_) ?_
            · simp only [pk, nthSp, lexVals]
              rfl
            · simp only [pk, nthSp, lexVals]
              go_simp
              exact ⟨Ext.refl _, rfl⟩
            refine lx_ge (.pointer (some ⟨g, 1, none⟩)) [(3, 88)] 88 (by kernel_rfl) rfl (by kernel_rfl) (by rfl) (fun w1 => ?_) (fun w1 hw1 => ?_) ?_
            · simp only [pk, nthSp, lexVals]
              rfl
            · simp only [pk, nthSp, lexVals]
              go_simp
              exact ⟨Ext.refl _, rfl⟩
            refine lx_ge (.slice a k c) [(0, 92), (4, 88)] 88 (by kernel_rfl) rfl (by kernel_rfl) (by rfl) (fun w1 => ?_) (fun w1 hw1 => ?_) ?_
            · simp only [pk, nthSp, lexVals]
              rfl
            · simp only [pk, nthSp, lexVals]
              have hc := (flt_cell (HFl.out w1 (HKy.out w1 (HX.out w1 hw1)))).2
              clear hw1
              go_simp
              exact ⟨Ext.refl _, rfl⟩
            refine lx_ge (.int .i64 (k : Int)) [(0, 93), (5, 88)] 88 (by kernel_rfl) rfl (by kernel_rfl) (by rfl) (fun w1 => ?_) (fun w1 hw1 => ?_) ?_
            · simp only [pk, nthSp, lexVals]
              rfl
            · simp only [pk, nthSp, lexVals]
              go_simp
              exact ⟨Ext.refl _, rfl⟩
            refine lx_ge (.bool false) [(3, 91), (0, 94), (6, 88)] 88 (by kernel_rfl) rfl (by kernel_rfl) (by rfl) (fun w1 => ?_) (fun w1 hw1 => ?_) ?_
            · simp only [pk, nthSp, lexVals]
              rfl
            · simp only [pk, nthSp, lexVals]
              have x0 : ¬ (k : Int) < (m1 : Int) := by have := Hmn.out; omega
              clear hw1
              go_simp
              exact ⟨Ext.refl _, by first | rfl | (simp [x0]; done)⟩
            refine lx_e (.bool false) [(7, 88), (0, 95)] (by kernel_rfl) rfl (by rfl) (fun w1 hw1 => ?_) ?_
            · simp only [pk, nthSp, lexVals]
              go_simp
              exact ⟨Ext.refl _, rfl⟩
            refine lx_e (.bool false) [(0, 96)] (by kernel_rfl) rfl (by rfl) (fun w1 hw1 => ?_) ?_
            · simp only [pk, nthSp, lexVals]
              go_simp
              exact ⟨Ext.refl _, rfl⟩
            refine lx_ge (.agg (fltV wal (.slice a1 m1 c1))) [(0, 97)] 97 (by kernel_rfl) rfl (by kernel_rfl) (by rfl) (fun w1 => ?_) (fun w1 hw1 => ?_) ?_
            · simp only [pk, nthSp, lexVals]
              rfl
            · simp only [pk, nthSp, lexVals]
              exact lu_row rfl rfl (HWi.out w1 (HKy.out w1 (HX.out w1 hw1))) Tryd.underlying51 rfl (by kernel_rfl)
            refine lx_ge (.agg HDV) [(1, 97)] 97 (by kernel_rfl) rfl (by kernel_rfl) (by rfl) (fun w1 => ?_) (fun w1 hw1 => ?_) ?_
            · simp only [pk, nthSp, lexVals]
              rfl
            · simp only [pk, nthSp, lexVals]
              exact lu_row rfl rfl (HHd.out w1 (HKy.out w1 (HX.out w1 hw1))) Tryd.underlying48 rfl (by rw [Hsz.out]; kernel_rfl)
            refine lx_ge (.bool MB) [(1, 98), (0, 99), (2, 97)] 97 (by kernel_rfl) rfl (by kernel_rfl) (by rfl) (fun w1 => ?_) (fun w1 hw1 => ?_) ?_
            · simp only [pk, nthSp, lexVals]
              rfl
            · simp only [pk, nthSp, lexVals]
              have hm := HMe.out w1 (HKy.out w1 (HX.out w1 hw1))
              have HM := Lib.hid hm
              clear hm hw1
              go_simp
              refine HM.out.mono ?_
              rintro e w2 ⟨rfl, hE2⟩
              exact ⟨_, rfl, hE2, rfl⟩
            refine lx_ge (.agg (fltV wal (.slice a1 m1 c1))) [(3, 97)] 97 (by kernel_rfl) rfl (by kernel_rfl) (by rfl) (fun w1 => ?_) (fun w1 hw1 => ?_) ?_
            · simp only [pk, nthSp, lexVals]
              rfl
            · simp only [pk, nthSp, lexVals]
              exact lu_row rfl rfl (HWi.out w1 (HKy.out w1 (HX.out w1 hw1))) Tryd.underlying51 rfl (by kernel_rfl)
            refine lx_ge (.agg HDV) [(4, 97)] 97 (by kernel_rfl) rfl (by kernel_rfl) (by rfl) (fun w1 => ?_) (fun w1 hw1 => ?_) ?_
            · simp only [pk, nthSp, lexVals]
              rfl
            · simp only [pk, nthSp, lexVals]
              exact lu_row rfl rfl (HHd.out w1 (HKy.out w1 (HX.out w1 hw1))) Tryd.underlying48 rfl (by rw [Hsz.out]; kernel_rfl)
            refine lx_ge (.bool MB) [(1, 101), (0, 102), (5, 97)] 97 (by kernel_rfl) rfl (by kernel_rfl) (by rfl) (fun w1 => ?_) (fun w1 hw1 => ?_) ?_
            · simp only [pk, nthSp, lexVals]
              rfl
            · simp only [pk, nthSp, lexVals]
              have hm := HMr.out w1 (HKy.out w1 (HX.out w1 hw1))
              have HM := Lib.hid hm
              clear hm hw1
              go_simp
              refine HM.out.mono ?_
              rintro e w2 ⟨rfl, hE2⟩
              exact ⟨_, rfl, hE2, rfl⟩
            refine lx_ge (.bool false) [(3, 100), (0, 103), (6, 97)] 97 (by kernel_rfl) rfl (by kernel_rfl) (by rfl) (fun w1 => ?_) (fun w1 hw1 => ?_) ?_
            · simp only [pk, nthSp, lexVals]
              rfl
            · simp only [pk, nthSp, lexVals]
              clear hw1
              go_simp
              exact ⟨Ext.refl _, by cases MB <;> rfl⟩
            refine lx_e (.bool false) [(7, 97), (0, 104)] (by kernel_rfl) rfl (by rfl) (fun w1 hw1 => ?_) ?_
            · simp only [pk, nthSp, lexVals]
              go_simp
              exact ⟨Ext.refl _, rfl⟩
            refine lx_stopA (by rfl) fun y2 hy2 => ?_
            have HS2 := Lib.hid (HS.out.ext (HX.out y2 hy2))
            clear hy2 HX HKy
            simp only [rv, pf, lexVals]
            simp only [Act.put, List.setIfInBounds_toArray, List.set_cons_zero, List.set_cons_succ]
            go_upto_region 15 with (fail)
            obtain ⟨n, hn1⟩ : ∃ n, k = n := ⟨_, rfl⟩
            subst hn1
            clear HS
            go_wp2
            go_loopw [12] (fun i v => ∃ j : Nat, j ≤ k ∧ i = .int .i64 (j : Int) ∧ KtC bl s1 w6 v) (fun i _ => k - (intOf i).toNat)
            case atStart => exact ⟨0, Nat.zero_le _, rfl, HS2.out⟩
            case round =>
              obtain ⟨j, hj, rfl, hS⟩ := hrel
              rename World => v
              have HS := Lib.hid hS
              have HKy := Lib.hid (HKc.out v hS)
              obtain ⟨c0, c1⟩ := flt_cell (HFl.out v HKy.out)
              clear hS
              by_cases hlt : j < k
              · have x2 : (j : Int) < (k : Int) := by omega
                obtain ⟨g0, off, rfl, hcell⟩ := (HSr.out v HKy.out).at_ (by omega)
                obtain ⟨x, hx⟩ : ∃ x, ss.getD j ⟨#[]⟩ = x := ⟨_, rfl⟩
                have hck := hcell j hlt
                rw [hx] at hck
                have Hxs := Lib.hid (show x.size ≤ 140737488351232 by rw [← hx]; exact H0.out.size _ (H0.out.get hlt))
                obtain ⟨T, hT, vv, hv, hl⟩ := Hset.out.has x (by rw [← hx]; exact H0.out.get hlt)
                have HT := Lib.hid hT
                have Hin := Lib.hid (inB_of hv hl)
                have Hmt := Lib.hid (show meetB vs [T] = true from by
                  unfold meetB
                  rw [List.any_eq_true]
                  exact ⟨vv, hv, inB_of (List.mem_singleton.2 rfl) hl.symm⟩)
                have HTb := Lib.hid (show ∀ j, j < 16 → 0 ≤ T j ∧ T j < 256 from by
                  obtain ⟨s', h1, h2, _⟩ := HS.out
                  exact bl.byte h1 (h2 _ _ hT))
                have hg0 : g0 ≠ p ∧ g0 ≠ gm := HNe.out (by omega) _ rfl
                have hg0y : g0 < v.heap.size := World.block_lt_of_cell? _ _ hck
                have HCk := Lib.hid (show ∀ x1, Kp2 p gm w6 x1 → x1.cell? ⟨g0, off + j, none⟩ = some (.string x) from fun x1 hx1 => by
                  obtain ⟨b1, o1, e1, h1⟩ := (HSr.out x1 hx1).at_ (by omega)
                  simp only [Option.some.injEq, Addr.mk.injEq, and_true] at e1
                  obtain ⟨rfl, rfl⟩ := e1
                  rw [h1 j hlt, hx])
                have HST := Lib.hid (show ∀ (ph : Bool) (x1 x2 : World), KtC bl s1 w6 x1 → Ext x1 x2 → KtC bl s1 w6 x2 ∧ KtE p gm ph x1 x2 from fun ph x1 x2 h1 h2 => ⟨h1.ext h2, ktE_ext h2⟩)
                have hC0 : KtC bl s1 w6 v.drew := HS.out.ext (Ext.refl v).drew
                clear hcell hck hx hT hv hl hg0 hg0y
                have HKr := Lib.hid (show ∀ (x1 x2 : World), Kp2 p gm x1 x2 → ∀ r o, x1.heap[r]? = some o → S6 ≤ r → x2.heap[r]? = some o from fun x1 x2 hx r o h1 h2 => (hx.block r (Array.getElem?_eq_some_iff.1 h1).1 (by have := Hpg.out; omega) (by have := Hpg.out; omega)).trans h1)
                go_upto_region 18 with (fail)
                clear c0 c1
                refine lq_start (C := fun _ => KtC bl s1 w6) (E := KtE p gm) 11 7 (by omega) (by kernel_rfl) (by kernel_rfl) (fun ph x1 => ktE_ext (Ext.refl _)) (fun x1 x2 h => Kp2.of_ext h) hC0 ?_
                simp only [List.take_succ_cons, List.take_zero]
                refine lq_s (.ex (.pointer (some ⟨p, 0, none⟩))) [] (by decide) (by kernel_rfl) rfl (by rfl) trivial HST.out (fun ph w1 hw1 => ?_) ?_
                · simp only [pk, lexVals]
                  clear hw1
                  go_simp
                  exact ⟨Ext.refl _, rfl⟩
                refine lq_s (.ex (.agg (rowArr 128 (ofV f1)))) [] (by decide) (by kernel_rfl) rfl (by rfl) trivial HST.out (fun ph w1 hw1 => ?_) ?_
                · simp only [pk, lexVals]
                  exact lu_row rfl rfl (HSt.out w1 (HKc.out w1 hw1)) Tryd.underlying30 rfl (by kernel_rfl)
                refine lq_s (.ex (.pointer (some ⟨g, 1, none⟩))) [] (by decide) (by kernel_rfl) rfl (by rfl) trivial HST.out (fun ph w1 hw1 => ?_) ?_
                · simp only [pk, lexVals]
                  clear hw1
                  go_simp
                  exact ⟨Ext.refl _, rfl⟩
                refine lq_s (.ex (.slice (some ⟨g0, off, none⟩) k c)) [(0, 118)] (by decide) (by kernel_rfl) rfl (by rfl) trivial HST.out (fun ph w1 hw1 => ?_) ?_
                · simp only [pk, nthSp, lexVals]
                  have hc := (flt_cell (HFl.out w1 (HKc.out w1 hw1))).2
                  clear hw1
                  go_simp
                  exact ⟨Ext.refl _, rfl⟩
                refine lq_s (.ex (.int .i64 (j : Int))) [] (by decide) (by kernel_rfl) rfl (by rfl) trivial HST.out (fun ph w1 hw1 => ?_) ?_
                · simp only [pk, lexVals]
                  clear hw1
                  go_simp
                  exact ⟨Ext.refl _, rfl⟩
                refine lq_s (.ex (.pointer (some ⟨g0, off + j, none⟩))) [(1, 119), (0, 120)] (by decide) (by kernel_rfl) rfl (by rfl) trivial HST.out (fun ph w1 hw1 => ?_) ?_
                · simp only [pk, nthSp, lexVals]
                  clear hw1
                  go_simp
                  exact ⟨Ext.refl _, rfl⟩
                refine lq_s (.ex (.string x)) [(0, 121)] (by decide) (by kernel_rfl) rfl (by rfl) trivial HST.out (fun ph w1 hw1 => ?_) ?_
                · simp only [pk, nthSp, lexVals]
                  have hc := HCk.out w1 (HKc.out w1 hw1)
                  clear hw1
                  go_simp
                  exact ⟨Ext.refl _, rfl⟩
                refine lq_m (.ex (.agg (rowArr 16 fun j => .int .u8 (T j)))) [(6, 116), (5, 117), (0, 122)] rfl (by kernel_rfl) rfl (by rfl) trivial (fun w1 hw1 => ?_) ?_
                · simp only [pk, nthSp, lexVals]
                  obtain ⟨s2, hA, hG, hK⟩ := hw1
                  have hm := token_any bl s2 w1 hA (ofV f1) HOf.out x Hxs.out
                  have HM := Lib.hid hm
                  have HG := Lib.hid hG
                  have HKw := Lib.hid hK
                  clear hm hA hG hK
                  go_simp
                  refine HM.out.mono ?_
                  rintro e w2 ⟨s3, t, rfl, hA3, hT3, hG3, hK3⟩
                  obtain rfl : t = T := Option.some.inj (hT3.symm.trans (hG3 _ _ (HG.out _ _ HT.out)))
                  exact ⟨_, rfl, ⟨s3, hA3, fun ys u hu => hG3 _ _ (HG.out _ _ hu), HKw.out.trans hK3⟩, hK3, rfl⟩
                refine lq_s (.ab (fun u w => ∃ r, u = .slice (some ⟨r, 0, none⟩) 1 1 ∧ w.heap[r]? = some (.cells (rowArr 16 fun j => .int .u8 (T j)) 35 (0, 0)) ∧ S6 ≤ r)) [(0, 123)] (by decide) (by kernel_rfl) rfl (by rfl) (fun u x1 x2 hx ⟨r, h1, h2, h3⟩ => ⟨r, h1, HKr.out x1 x2 hx r _ h2 h3, h3⟩) HST.out (fun ph w1 hw1 => ?_) ?_
                · simp only [pk, nthSp, lexVals]
                  have hsz := (HKc.out w1 hw1).size
                  rw [HS6.out] at hsz
                  exact lu_tk1 rfl T rfl hsz
                refine lq_s (.ab (fun u w => ∃ r, u = .agg (hdV (hdTk r)) ∧ w.heap[r]? = some (.cells (rowArr 16 fun j => .int .u8 (T j)) 35 (0, 0)) ∧ S6 ≤ r)) [(0, 124)] (by decide) (by kernel_rfl) rfl (by rfl) (fun u x1 x2 hx ⟨r, h1, h2, h3⟩ => ⟨r, h1, HKr.out x1 x2 hx r _ h2 h3, h3⟩) HST.out (fun ph w1 hw1 => ?_) ?_
                · simp only [pk, nthSp, lexVals]
                  rintro u124 ⟨r, rfl, h124, k124⟩
                  exact lu_hd7 rfl r rfl h124 k124
                refine lq_s (.ab (fun u w => ∃ r, u = .pointer (some ⟨r, 0, none⟩) ∧ w.heap[r]? = some (.cells (hdV hdZz) 48 (0, 0)) ∧ S6 ≤ r)) [] (by decide) (by kernel_rfl) rfl (by rfl) (fun u x1 x2 hx ⟨r, h1, h2, h3⟩ => ⟨r, h1, HKr.out x1 x2 hx r _ h2 h3, h3⟩) HST.out (fun ph w1 hw1 => ?_) ?_
                · simp only [pk, lexVals]
                  have hsz := (HKc.out w1 hw1).size
                  rw [HS6.out] at hsz
                  have hz := zero_hdW
                  clear hw1
                  go_simp
                  exact ⟨(Ext.refl _).alloc _, _, rfl, heap_new w1 _ _ rfl, hsz⟩
                refine lq_stop (by rfl) (by decide) fun y3 hy3 => ?_
                simp only [rv, pf, lexVals, List.drop_succ_cons, List.drop_zero]
                rintro u124 - u125 ⟨r, rfl, hr, kr⟩ u13 ⟨r13, rfl, hr13, kr13⟩
                have HS3 := Lib.hid hy3
                have Hr := Lib.hid hr
                have Hr13 := Lib.hid hr13
                clear hy3 hr hr13 HST hC0 HCk HKr
                simp only [Act.put, List.setIfInBounds_toArray, List.set_cons_zero, List.set_cons_succ]
                obtain ⟨HD7, hHD7⟩ : ∃ V, hdV (hdTk r) = V := ⟨_, rfl⟩
                have Hz7 := Lib.hid (show HD7.size = 125 by rw [← hHD7]; exact hdV_size _)
                have Ho7 := Lib.hid (show HD7.all (·.oneCell') = true by rw [← hHD7]; exact hdV_one _)
                rw [hHD7]
                go_upto_region 19 with (refine wpList_store_row rfl 48 (.tmp 13) (.tmp 125) rfl r13 _ rfl rfl _ _ Hr13.out (by rw [Hz7.out]; kernel_rfl) (by rw [Hz7.out, hdV_size]) Ho7.out ?_)
                obtain ⟨y4, hy4⟩ : ∃ x1, y3.setRow r13 HD7 = x1 := ⟨_, rfl⟩
                have hne13 : r ≠ r13 := by
                  rintro rfl
                  have h1 := Hr.out
                  rw [Hr13.out] at h1
                  have h2 := congrArg (fun o : Option Obj => match o with | some (.cells cs _ _) => cs.size | _ => 0) h1
                  simp only [hdV_size, rowArr_size] at h2
                  omega
                have hB4 : Below S6 y3 y4 := by rw [← hy4]; exact below_setRow (Below.refl _ _) kr13 _
                have HS4 := Lib.hid (show KtC bl s1 w6 y4 from by
                  obtain ⟨s', h1, h2, h3⟩ := HS3.out
                  exact ⟨s', bl.kept h1 (Below.mono hB4 (by have := Hpg.out; omega)), h2, h3.new (by rw [HS6.out]; exact Nat.le_refl _) hB4⟩)
                have HR4 := Lib.hid (show y4.heap[r13]? = some (.cells HD7 48 (0, 0)) from by rw [← hy4]; exact setRow_heap y3 r13 _ _ _ _ Hr13.out)
                have HRr := Lib.hid (show y4.heap[r]? = some (.cells (rowArr 16 fun j => .int .u8 (T j)) 35 (0, 0)) from by rw [← hy4]; exact (setRow_other y3 r13 r _ hne13).trans Hr.out)
                have HK4 := Lib.hid (HKc.out y4 HS4.out)
                have HM4 := Lib.hid (meets_any wal a1 m1 c1 vs (hdTk r) [T] y4 (HV.out y4 HK4.out) (ts_one HRr.out HTb.out))
                rw [hHD7, show meetsB wal vs [T] (hdTk r).ctl = true by unfold meetsB; rw [Hmt.out]; simp] at HM4
                refine wp_world (w' := y4) hy4 ?_
                clear hy4 hB4 hne13 hHD7
                go_wp2_with (first | (refine wpList_load_rowW rfl 51 _ rfl q rfl _ _ _ _ (HWi.out _ (HK4.out)) Tryd.underlying51 rfl (by kernel_rfl) ?_) | (refine wpList_load_rowW rfl 48 _ rfl r13 rfl _ _ _ _ HR4.out Tryd.underlying48 rfl (by rw [Hz7.out]; kernel_rfl) ?_))
                refine HM4.out.mono ?_
                rintro e y5 ⟨rfl, hE5⟩
                have HS5 := Lib.hid (HS4.out.ext hE5)
                clear hE5 HM4
                go_wp2
                go_roundw
                case rel => exact ⟨j + 1, by omega, by go_num, HS5.out⟩
                case measure => simp [intOf]; omega
              · obtain rfl : j = k := by omega
                have x2 : ¬ (j : Int) < (j : Int) := by omega
                go_wp2
                go_ret
                exact ⟨rfl, HEx.out v HKy.out⟩
      | false =>
        have Hm0 := Lib.hid (Hm00.out (by first | rfl | trivial))
        have hwal2 : wal = false := by rw [Hwal.out]; rfl
        clear Hset0 Hm00 Hwal
        subst hwal2
        go_wp2_with (refine wpList_load_rowW rfl 44 _ rfl g rfl _ _ _ _ (HFl.out _ (Kp2.refl p gm w6)) Tryd.underlying44 rfl (by kernel_rfl) ?_)
        refine (HRf.out w6 (Kp2.refl p gm w6)).mono ?_
        rintro e x5 ⟨rfl, hE5⟩
        have HX5 := Lib.hid hE5
        have HK5 := Lib.hid (Kp2.of_ext (g := p) (m := gm) hE5)
        clear hE5
        go_upto_region 6 with (fail)
        go_wp2_with (refine wpList_load_rowW rfl 44 _ rfl g rfl _ _ _ _ (HFl.out _ (HK5.out)) Tryd.underlying44 rfl (by kernel_rfl) ?_)
        refine (HFo.out x5 HK5.out).mono ?_
        rintro e x6 ⟨rfl, hE6⟩
        have HX6 := Lib.hid (HX5.out.trans hE6)
        have HK6 := Lib.hid (HK5.out.trans (Kp2.of_ext hE6))
        clear hE6
        go_wp2_with (refine wpList_load_rowW rfl 51 _ rfl q rfl _ _ _ _ (HWi.out _ (HK6.out)) Tryd.underlying51 rfl (by kernel_rfl) ?_)
        refine (HFw.out x6 HK6.out).mono ?_
        rintro e x7 ⟨rfl, hE7⟩
        have HK7 := Lib.hid (HK6.out.trans (Kp2.of_ext hE7))
        obtain ⟨c0, c1⟩ := flt_cell (HFl.out x7 HK7.out)
        obtain ⟨d0, d1⟩ := flt_cell (HWi.out x7 HK7.out)
        have HC7 := Lib.hid (HC6.out x7 (HX6.out.trans hE7))
        clear hE7
        go_upto_region 8 with (fail)
        clear c0 c1 d0 d1
        go_wp2
        go_loopw [11] (fun i y => ∃ k : Nat, k ≤ n ∧ i = .int .i64 (k : Int) ∧ KtC bl s1 w6 y) (fun i _ => n - (intOf i).toNat)
        case atStart => exact ⟨0, Nat.zero_le _, rfl, HC7.out⟩
        case round =>
          obtain ⟨k, hk, rfl, hS⟩ := hrel
          rename World => y
          have HS := Lib.hid hS
          have HKy := Lib.hid (HKc.out y hS)
          obtain ⟨c0, c1⟩ := flt_cell (HFl.out y HKy.out)
          clear hS
          by_cases hlt : k < n
          · have x2 : (k : Int) < (n : Int) := by omega
            go_upto_region 11 with (fail)
            clear c0 c1
            refine wp_region_lexA (by kernel_rfl) (by kernel_rfl) ?_
            refine lx_e (.bool false) [] (by kernel_rfl) rfl (by rfl) (fun w1 hw1 => ?_) ?_
            · simp only [pk, lexVals]
              go_simp
              exact ⟨Ext.refl _, rfl⟩
            refine lx_e (.bool false) [(0, 65)] (by kernel_rfl) rfl (by rfl) (fun w1 hw1 => ?_) ?_
            · simp only [pk, nthSp, lexVals]
              go_simp
              exact ⟨Ext.refl _, rfl⟩
            refine lx_no [(0, 66)] 66 (by kernel_rfl) rfl (by kernel_rfl) (by rfl) (fun w1 => ?_) ?_
            · simp only [pk, nthSp, lexVals]
              first | (go_simp; done) | (go_simp; exact fun h => by cases h)
            refine lx_no [(0, 67), (1, 66)] 66 (by kernel_rfl) rfl (by kernel_rfl) (by rfl) (fun w1 => ?_) ?_
            · simp only [pk, nthSp, lexVals]
              first | (go_simp; done) | (go_simp; exact fun h => by cases h)
            refine lx_no [(2, 66)] 66 (by kernel_rfl) rfl (by kernel_rfl) (by rfl) (fun w1 => ?_) ?_
            · simp only [pk, nthSp, lexVals]
              first | (go_simp; done) | (go_simp; exact fun h => by cases h)
            refine lx_no [(3, 66)] 66 (by kernel_rfl) rfl (by kernel_rfl) (by rfl) (fun w1 => ?_) ?_
            · simp only [pk, nthSp, lexVals]
              first | (go_simp; done) | (go_simp; exact fun h => by cases h)
            refine lx_no [(4, 66)] 66 (by kernel_rfl) rfl (by kernel_rfl) (by rfl) (fun w1 => ?_) ?_
            · simp only [pk, nthSp, lexVals]
              first | (go_simp; done) | (go_simp; exact fun h => by cases h)
            refine lx_no [(0, 71), (5, 66)] 66 (by kernel_rfl) rfl (by kernel_rfl) (by rfl) (fun w1 => ?_) ?_
            · simp only [pk, nthSp, lexVals]
              first | (go_simp; done) | (go_simp; exact fun h => by cases h)
            refine lx_no [(6, 66)] 66 (by kernel_rfl) rfl (by kernel_rfl) (by rfl) (fun w1 => ?_) ?_
            · simp only [pk, nthSp, lexVals]
              first | (go_simp; done) | (go_simp; exact fun h => by cases h)
            refine lx_no [(1, 72), (0, 73), (7, 66)] 66 (by kernel_rfl) rfl (by kernel_rfl) (by rfl) (fun w1 => ?_) ?_
            · simp only [pk, nthSp, lexVals]
              first | (go_simp; done) | (go_simp; exact fun h => by cases h)
            refine lx_no [(0, 74), (8, 66)] 66 (by kernel_rfl) rfl (by kernel_rfl) (by rfl) (fun w1 => ?_) ?_
            · simp only [pk, nthSp, lexVals]
              first | (go_simp; done) | (go_simp; exact fun h => by cases h)
            refine lx_no [(6, 69), (5, 70), (0, 75), (9, 66)] 66 (by kernel_rfl) rfl (by kernel_rfl) (by rfl) (fun w1 => ?_) ?_
            · simp only [pk, nthSp, lexVals]
              first | (go_simp; done) | (go_simp; exact fun h => by cases h)
            refine lx_no [(8, 68), (0, 76), (10, 66)] 66 (by kernel_rfl) rfl (by kernel_rfl) (by rfl) (fun w1 => ?_) ?_
            · simp only [pk, nthSp, lexVals]
              first | (go_simp; done) | (go_simp; exact fun h => by cases h)
            refine lx_no [(0, 77), (11, 66)] 66 (by kernel_rfl) rfl (by kernel_rfl) (by rfl) (fun w1 => ?_) ?_
            · simp only [pk, nthSp, lexVals]
              first | (go_simp; done) | (go_simp; exact fun h => by cases h)
            refine lx_e (.bool false) [(12, 66), (0, 78)] (by kernel_rfl) rfl (by rfl) (fun w1 hw1 => ?_) ?_
            · simp only [pk, nthSp, lexVals]
              go_simp
              exact ⟨Ext.refl _, rfl⟩
            refine lx_stopA (by rfl) fun y2 hy2 => ?_
            have HS2 := Lib.hid (HS.out.ext (Ext.trans (Ext.refl y).drew hy2))
            clear hy2
            simp only [rv, pf, lexVals]
            simp only [Act.put, List.setIfInBounds_toArray, List.set_cons_zero, List.set_cons_succ]
            go_wp2
            go_roundw
            case rel => exact ⟨k + 1, by omega, by go_num, HS2.out⟩
            case measure => simp [intOf]; omega
          · obtain rfl : k = n := by omega
            have x2 : ¬ (k : Int) < (k : Int) := by omega
            go_upto_region 13 with (fail)
            clear c0 c1
            have HX := Lib.hid (show ∀ x, Ext y.drew x → Ext y x from fun x hx => Ext.trans (Ext.refl y).drew hx)
            have HKy := Lib.hid (show ∀ x, Ext y x → Kp2 p gm w6 x from fun x hx => HKy.out.trans (Kp2.of_ext hx))
            refine wp_region_lexA (by kernel_rfl) (by kernel_rfl) ?_
            refine lx_e (.bool false) [] (by kernel_rfl) rfl (by rfl) (fun w1 hw1 => ?_) ?_
            · simp only [pk, lexVals]
              go_simp
              exact ⟨Ext.refl _, rfl⟩
            refine lx_e (.bool true) [(0, 80)] (by kernel_rfl) rfl (by rfl) (fun w1 hw1 => ?_) ?_
            · simp only [pk, nthSp, lexVals]
              go_simp
              exact ⟨Ext.refl _, rfl⟩
            refine lx_e (.bool true) [(0, 81)] (by kernel_rfl) rfl (by rfl) (fun w1 hw1 => ?_) ?_
            · simp only [pk, nthSp, lexVals]
              go_simp
              exact ⟨Ext.refl _, rfl⟩
            refine lx_ge (.pointer (some ⟨q, 1, none⟩)) [(0, 82)] 82 (by kernel_rfl) rfl (by kernel_rfl) (by rfl) (fun w1 => ?_) (fun w1 hw1 => ?_) ?_
            · simp only [pk, nthSp, lexVals]
              rfl
            · simp only [pk, nthSp, lexVals]
              go_simp
              exact ⟨Ext.refl _, rfl⟩
            refine lx_ge (.slice a1 m1 c1) [(0, 83), (1, 82)] 82 (by kernel_rfl) rfl (by kernel_rfl) (by rfl) (fun w1 => ?_) (fun w1 hw1 => ?_) ?_
            · simp only [pk, nthSp, lexVals]
              rfl
            · simp only [pk, nthSp, lexVals]
              have hc := (flt_cell (HWi.out w1 (HKy.out w1 (HX.out w1 hw1)))).2
              clear hw1
              go_simp
              exact ⟨Ext.refl _, rfl⟩
            refine lx_ge (.int .i64 (m1 : Int)) [(0, 84), (2, 82)] 82 (by kernel_rfl) rfl (by kernel_rfl) (by rfl) (fun w1 => ?_) (fun w1 hw1 => ?_) ?_
            · simp only [pk, nthSp, lexVals]
              rfl
            · simp only [pk, nthSp, lexVals]
              go_simp
              exact ⟨Ext.refl _, rfl⟩
            refine lx_ge (.bool false) [(0, 85), (3, 82)] 82 (by kernel_rfl) rfl (by kernel_rfl) (by rfl) (fun w1 => ?_) (fun w1 hw1 => ?_) ?_
            · simp only [pk, nthSp, lexVals]
              rfl
            · simp only [pk, nthSp, lexVals]
              have x0 : ¬ 0 < m1 := by have := Hm0.out; omega
              clear hw1
              go_simp
              exact ⟨Ext.refl _, by first | rfl | (show Value.bool (decide (0 < m1)) = .bool false; rw [decide_eq_false x0])⟩
            refine lx_e (.bool false) [(4, 82), (0, 86)] (by kernel_rfl) rfl (by rfl) (fun w1 hw1 => ?_) ?_
            · simp only [pk, nthSp, lexVals]
              go_simp
              exact ⟨Ext.refl _, rfl⟩
            refine lx_e (.bool false) [(0, 87)] (by kernel_rfl) rfl (by rfl) (fun w1 hw1 => ?_) ?_
            · simp only [pk, nthSp, lexVals]
              go_simp
              exact ⟨Ext.refl _, rfl⟩
            refine lx_ge (.pointer (some ⟨q, 1, none⟩)) [(0, 88)] 88 (by kernel_rfl) rfl (by kernel_rfl) (by rfl) (fun w1 => ?_) (fun w1 hw1 => ?_) ?_
            · simp only [pk, nthSp, lexVals]
              rfl
            · simp only [pk, nthSp, lexVals]
              go_simp
              exact ⟨Ext.refl _, rfl⟩
            refine lx_ge (.slice a1 m1 c1) [(0, 89), (1, 88)] 88 (by kernel_rfl) rfl (by kernel_rfl) (by rfl) (fun w1 => ?_) (fun w1 hw1 => ?_) ?_
            · simp only [pk, nthSp, lexVals]
              rfl
            · simp only [pk, nthSp, lexVals]
              have hc := (flt_cell (HWi.out w1 (HKy.out w1 (HX.out w1 hw1)))).2
              clear hw1
              go_simp
              exact ⟨Ext.refl _, rfl⟩
            refine lx_ge (.int .i64 (m1 : Int)) [(0, 90), (2, 88)] 88 (by kernel_rfl) rfl (by kernel_rfl) (by rfl) (fun w1 => ?_) (fun w1 hw1 => ?_) ?_
            · simp only [pk, nthSp, lexVals]
              rfl
            · simp only [pk, nthSp, lexVals]
              go_simp
              exact ⟨Ext.refl _, rfl⟩
            refine lx_ge (.pointer (some ⟨g, 1, none⟩)) [(3, 88)] 88 (by kernel_rfl) rfl (by kernel_rfl) (by rfl) (fun w1 => ?_) (fun w1 hw1 => ?_) ?_
            · simp only [pk, nthSp, lexVals]
              rfl
            · simp only [pk, nthSp, lexVals]
              go_simp
              exact ⟨Ext.refl _, rfl⟩
            refine lx_ge (.slice a k c) [(0, 92), (4, 88)] 88 (by kernel_rfl) rfl (by kernel_rfl) (by rfl) (fun w1 => ?_) (fun w1 hw1 => ?_) ?_
            · simp only [pk, nthSp, lexVals]
              rfl
            · simp only [pk, nthSp, lexVals]
              have hc := (flt_cell (HFl.out w1 (HKy.out w1 (HX.out w1 hw1)))).2
              clear hw1
              go_simp
              exact ⟨Ext.refl _, rfl⟩
            refine lx_ge (.int .i64 (k : Int)) [(0, 93), (5, 88)] 88 (by kernel_rfl) rfl (by kernel_rfl) (by rfl) (fun w1 => ?_) (fun w1 hw1 => ?_) ?_
            · simp only [pk, nthSp, lexVals]
              rfl
            · simp only [pk, nthSp, lexVals]
              go_simp
              exact ⟨Ext.refl _, rfl⟩
            refine lx_ge (.bool false) [(3, 91), (0, 94), (6, 88)] 88 (by kernel_rfl) rfl (by kernel_rfl) (by rfl) (fun w1 => ?_) (fun w1 hw1 => ?_) ?_
            · simp only [pk, nthSp, lexVals]
              rfl
            · simp only [pk, nthSp, lexVals]
              have x0 : ¬ (k : Int) < (m1 : Int) := by have := Hmn.out; omega
              clear hw1
              go_simp
              exact ⟨Ext.refl _, by first | rfl | (simp [x0]; done)⟩
            refine lx_e (.bool false) [(7, 88), (0, 95)] (by kernel_rfl) rfl (by rfl) (fun w1 hw1 => ?_) ?_
            · simp only [pk, nthSp, lexVals]
              go_simp
              exact ⟨Ext.refl _, rfl⟩
            refine lx_e (.bool false) [(0, 96)] (by kernel_rfl) rfl (by rfl) (fun w1 hw1 => ?_) ?_
            · simp only [pk, nthSp, lexVals]
              go_simp
              exact ⟨Ext.refl _, rfl⟩
            refine lx_ge (.agg (fltV false (.slice a1 m1 c1))) [(0, 97)] 97 (by kernel_rfl) rfl (by kernel_rfl) (by rfl) (fun w1 => ?_) (fun w1 hw1 => ?_) ?_
            · simp only [pk, nthSp, lexVals]
              rfl
            · simp only [pk, nthSp, lexVals]
              exact lu_row rfl rfl (HWi.out w1 (HKy.out w1 (HX.out w1 hw1))) Tryd.underlying51 rfl (by kernel_rfl)
            refine lx_ge (.agg HDV) [(1, 97)] 97 (by kernel_rfl) rfl (by kernel_rfl) (by rfl) (fun w1 => ?_) (fun w1 hw1 => ?_) ?_
            · simp only [pk, nthSp, lexVals]
              rfl
            · simp only [pk, nthSp, lexVals]
              exact lu_row rfl rfl (HHd.out w1 (HKy.out w1 (HX.out w1 hw1))) Tryd.underlying48 rfl (by rw [Hsz.out]; kernel_rfl)
            refine lx_ge (.bool MB) [(1, 98), (0, 99), (2, 97)] 97 (by kernel_rfl) rfl (by kernel_rfl) (by rfl) (fun w1 => ?_) (fun w1 hw1 => ?_) ?_
            · simp only [pk, nthSp, lexVals]
              rfl
            · simp only [pk, nthSp, lexVals]
              have hm := HMe.out w1 (HKy.out w1 (HX.out w1 hw1))
              have HM := Lib.hid hm
              clear hm hw1
              go_simp
              refine HM.out.mono ?_
              rintro e w2 ⟨rfl, hE2⟩
              exact ⟨_, rfl, hE2, rfl⟩
            refine lx_ge (.agg (fltV false (.slice a1 m1 c1))) [(3, 97)] 97 (by kernel_rfl) rfl (by kernel_rfl) (by rfl) (fun w1 => ?_) (fun w1 hw1 => ?_) ?_
            · simp only [pk, nthSp, lexVals]
              rfl
            · simp only [pk, nthSp, lexVals]
              exact lu_row rfl rfl (HWi.out w1 (HKy.out w1 (HX.out w1 hw1))) Tryd.underlying51 rfl (by kernel_rfl)
            refine lx_ge (.agg HDV) [(4, 97)] 97 (by kernel_rfl) rfl (by kernel_rfl) (by rfl) (fun w1 => ?_) (fun w1 hw1 => ?_) ?_
            · simp only [pk, nthSp, lexVals]
              rfl
            · simp only [pk, nthSp, lexVals]
              exact lu_row rfl rfl (HHd.out w1 (HKy.out w1 (HX.out w1 hw1))) Tryd.underlying48 rfl (by rw [Hsz.out]; kernel_rfl)
            refine lx_ge (.bool MB) [(1, 101), (0, 102), (5, 97)] 97 (by kernel_rfl) rfl (by kernel_rfl) (by rfl) (fun w1 => ?_) (fun w1 hw1 => ?_) ?_
            · simp only [pk, nthSp, lexVals]
              rfl
            · simp only [pk, nthSp, lexVals]
              have hm := HMr.out w1 (HKy.out w1 (HX.out w1 hw1))
              have HM := Lib.hid hm
              clear hm hw1
              go_simp
              refine HM.out.mono ?_
              rintro e w2 ⟨rfl, hE2⟩
              exact ⟨_, rfl, hE2, rfl⟩
            refine lx_ge (.bool false) [(3, 100), (0, 103), (6, 97)] 97 (by kernel_rfl) rfl (by kernel_rfl) (by rfl) (fun w1 => ?_) (fun w1 hw1 => ?_) ?_
            · simp only [pk, nthSp, lexVals]
              rfl
            · simp only [pk, nthSp, lexVals]
              clear hw1
              go_simp
              exact ⟨Ext.refl _, by cases MB <;> rfl⟩
            refine lx_e (.bool false) [(7, 97), (0, 104)] (by kernel_rfl) rfl (by rfl) (fun w1 hw1 => ?_) ?_
            · simp only [pk, nthSp, lexVals]
              go_simp
              exact ⟨Ext.refl _, rfl⟩
            refine lx_stopA (by rfl) fun y2 hy2 => ?_
            have HS2 := Lib.hid (HS.out.ext (HX.out y2 hy2))
            clear hy2 HX HKy
            simp only [rv, pf, lexVals]
            simp only [Act.put, List.setIfInBounds_toArray, List.set_cons_zero, List.set_cons_succ]
            go_upto_region 15 with (fail)
            have HK2 := Lib.hid (HKc.out y2 HS2.out)
            clear HS
            go_wp2
            go_loopw [12] (fun i v => i = .int .i64 0 ∧ KtC bl s1 w6 v) (fun i _ => 0)
            case atStart => exact ⟨rfl, HS2.out⟩
            case round =>
              obtain ⟨rfl, hS⟩ := hrel
              rename World => v
              have HKv := Lib.hid (HKc.out v hS)
              obtain ⟨c0, c1⟩ := flt_cell (HFl.out v HKv.out)
              clear hS
              by_cases h0 : (0 : Int) < (k : Int)
              · go_wp2
                go_ret
                exact ⟨rfl, HEx.out v HKv.out⟩
              · go_wp2
                go_ret
                exact ⟨rfl, HEx.out v HKv.out⟩

end Go.Proofs.YtdgbcieopkilcaaDoor
