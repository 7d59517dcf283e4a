/-
  The walk of poly.Equal, of 32 bytes each: it tells whether they are the same. No conditions.
  The walk of box.New in real mode. Asked: the table of 64 words lies as the text lays it.
  The walks of Box.Code and Box.Right in real mode. Asked: the table of 64 words lies as the text lays it.
  The walk of Box.Right in real mode. Asked: the table of 64 words lies as the text lays it.
-/
import Derived.Test.YtpiebfhcfkncoaaDoorMix
import Derived.Test.YtpiebfhcfkncoaaDoorLu
import Derived.Test.YtpiebfhcfkncoaaDoorLess
import Derived.Laws.BitsAllLaws
import Derived.Test.YtpiebfhcfkncoaaDoorKeyB
namespace Go.Proofs.YtpiebfhcfkncoaaDoor
open Go.ChangeAt Go.ChangeShapes Go.RowKit Go.WideShapes

theorem xor8 (x y : Int) (h1 : 0 ≤ x) (h2 : x < 256) (h3 : 0 ≤ y) (h4 : y < 256) : ∃ k : Nat, bits .xor .u8 x y = (k : Int) ∧ k < 256 ∧ (k = 0 ↔ x = y) := by
  refine ⟨x.toNat ^^^ y.toNat, u8_xor x y h1 h2 h3 h4, Nat.xor_lt_two_pow (n := 8) (by omega) (by omega), ?_⟩
  constructor
  · intro h
    have h5 : x.toNat ^^^ y.toNat ^^^ y.toNat = 0 ^^^ y.toNat := by rw [h]
    rw [Nat.xor_assoc, Nat.xor_self, Nat.xor_zero, Nat.zero_xor] at h5
    omega
  · rintro rfl
    exact Nat.xor_self _
theorem or8 (a b : Nat) (h1 : a < 256) (h2 : b < 256) : ∃ k : Nat, bits .or .i64 (a : Int) (b : Int) = (k : Int) ∧ k < 256 ∧ (k = 0 ↔ a = 0 ∧ b = 0) := by
  have hx : a ||| b < 2 ^ 8 := Nat.or_lt_two_pow (by omega) (by omega)
  refine ⟨a ||| b, ?_, hx, Nat.or_eq_zero_iff⟩
  show IntKind.i64.wrap ((BitVec.ofInt 64 (a : Int) ||| BitVec.ofInt 64 (b : Int)).toNat : Int) = _
  have e1 : BitVec.ofInt 64 (a : Int) = BitVec.ofNat 64 a := by simp
  have e2 : BitVec.ofInt 64 (b : Int) = BitVec.ofNat 64 b := by simp
  rw [e1, e2, BitVec.toNat_or, BitVec.toNat_ofNat, BitVec.toNat_ofNat, Nat.mod_eq_of_lt (by omega), Nat.mod_eq_of_lt (by omega), IntKind.wrap_i64]
  omega
theorem take_eq_snoc {xs ys : List Int} {k : Nat} (h1 : k < xs.length) (h2 : k < ys.length) : xs.take (k + 1) = ys.take (k + 1) ↔ xs.take k = ys.take k ∧ xs.getD k 0 = ys.getD k 0 := by
  rw [take_snoc h1, take_snoc h2]
  constructor
  · intro h
    have h3 := List.append_inj h (by simp; omega)
    exact ⟨h3.1, List.singleton_inj.1 h3.2⟩
  · rintro ⟨e1, e2⟩
    rw [e1, e2]

/-- A byte's place in a slice. -/
theorem lu_bidx {w : World} {o : Oper} {ev : Operand → Value} {x y : Operand} {b off n c k : Nat} (ho : o.op = .indexAddr 53 x y) (hx : ev x = .slice (some ⟨b, off, none⟩) n c) (hy : ev y = .int .i64 (k : Int)) (hk : k < n) :
    lexUpon Tryd.prog w (.ex (.pointer (some ⟨b, off + k, none⟩))) ((execOp ev o).run Tryd.prog w) := by
  have hr : (Instr.indexAt 53 (.slice (some ⟨b, off, none⟩) n c) (.int .i64 (k : Int))).run Tryd.prog w = .ok (.pointer (some ⟨b, off + k, none⟩)) w := by
    have hb : (0 : Int) ≤ (k : Int) ∧ (k : Int) < (n : Int) := by omega
    simp only [Instr.indexAt, asIntOf, Sem.run_bind, Sem.run_pure, Result.andThen_ok, run_underlying Tryd.underlying53, hb, and_self, if_true, size_byte11, Int.toNat_natCast, add_none, Nat.mul_one]
  simp only [execOp, ho, hx, hy, Sem.run_bind, hr, Result.andThen_ok, Sem.run_pure]
  exact ⟨Ext.refl _, rfl⟩

set_option maxHeartbeats 1000000 in
set_option maxRecDepth 100000 in
theorem equ_any (a : Option Addr) (c : Nat) (xs : List Int) (a2 : Option Addr) (c2 : Nat) (ys : List Int) (w : World) (h : BsAt w a 32 c xs) (h2 : BsAt w a2 32 c2 ys) :
    Calls Tryd.prog 74 #[.slice a 32 c, .slice a2 32 c2] w fun e w' => e = .returned (.bool (decide (xs = ys))) ∧ Ext w w' := by
  have hl1 := h.len
  have hl2 := h2.len
  obtain ⟨b, off, rfl, hc⟩ := h.at_ (by omega)
  obtain ⟨b2, off2, rfl, hc2⟩ := h2.at_ (by omega)
  have H := Lib.hid h.byte
  have H2 := Lib.hid h2.byte
  have HC := Lib.hid hc
  have HC2 := Lib.hid hc2
  clear h h2 hc hc2
  have x0 : bits .xor .i64 32 32 = 0 := by decide
  go_enter Tryd.func74, Tryd.ntmps74
  go_wp2
  go_loopw [5, 17] (fun t i wr => ∃ k v : Nat, k ≤ 32 ∧ i = .int .i64 (k : Int) ∧ t = .int .i64 (v : Int) ∧ v < 256 ∧ (v = 0 ↔ xs.take k = ys.take k) ∧ Ext w wr) (fun _ i _ => 32 - (intOf i).toNat)
  case atStart => exact ⟨0, 0, Nat.zero_le _, rfl, by first | rfl | (rw [x0]; rfl), by omega, by simp, Ext.refl _⟩
  case round =>
    obtain ⟨k, v, hk, rfl, rfl, hv, hiff, hE⟩ := hrel
    have HE := Lib.hid hE
    by_cases hlt : k < 32
    · have y1 := HC.out k hlt
      have y2 := HC2.out k hlt
      have z1 := getD_byte H.out k
      have z2 := getD_byte H2.out k
      have hs := take_eq_snoc (k := k) (show k < xs.length by omega) (show k < ys.length by omega)
      obtain ⟨x, hx⟩ : ∃ x, xs.getD k 0 = x := ⟨_, rfl⟩
      obtain ⟨y, hy⟩ : ∃ y, ys.getD k 0 = y := ⟨_, rfl⟩
      rw [hx] at y1 z1 hs
      rw [hy] at y2 z2 hs
      obtain ⟨d, hd, hd2, hd3⟩ := xor8 x y z1.1 z1.2 z2.1 z2.2
      obtain ⟨e, he, he2, he3⟩ := or8 v d hv hd2
      have Hs := Lib.hid (show e = 0 ↔ xs.take (k + 1) = ys.take (k + 1) by rw [he3, hd3, hs, hiff])
      have HY1 := Lib.hid (show ∀ x', Ext wr.drew x' → x'.cell? ⟨b, off + k, none⟩ = some (.int .u8 x) from fun x' hx' => (hE.drew.trans hx').cell (World.block_lt_of_cell? w _ y1) |>.trans y1)
      have HY2 := Lib.hid (show ∀ x', Ext wr.drew x' → x'.cell? ⟨b2, off2 + k, none⟩ = some (.int .u8 y) from fun x' hx' => (hE.drew.trans hx').cell (World.block_lt_of_cell? w _ y2) |>.trans y2)
      have HX := Lib.hid (show ∀ x', Ext wr.drew x' → Ext w x' from fun x' hx' => hE.drew.trans hx')
      have Hk := Lib.hid hlt
      have x1 : (k : Int) < 32 := by omega
      have Hd := Lib.hid hd
      have He := Lib.hid he
      clear hs hiff hd3 he3 hx hy hE y1 y2 hd he
      go_upto_region 5 with (fail)
      refine wp_region_lexA (by kernel_rfl) (by kernel_rfl) ?_
      refine lx_e (.int .i64 (v : Int)) [] (by kernel_rfl) rfl (by rfl) (fun w1 hw1 => ?_) ?_
      · simp only [pk, lexVals]
        go_simp
        exact ⟨Ext.refl _, rfl⟩
      refine lx_e (.slice (some ⟨b, off, none⟩) 32 c) [] (by kernel_rfl) rfl (by rfl) (fun w1 hw1 => ?_) ?_
      · simp only [pk, lexVals]
        go_simp
        exact ⟨Ext.refl _, rfl⟩
      refine lx_e (.int .i64 (k : Int)) [] (by kernel_rfl) rfl (by rfl) (fun w1 hw1 => ?_) ?_
      · simp only [pk, lexVals]
        go_simp
        exact ⟨Ext.refl _, rfl⟩
      refine lx_e (.pointer (some ⟨b, off + k, none⟩)) [(1, 21), (0, 22)] (by kernel_rfl) rfl (by rfl) (fun w1 hw1 => ?_) ?_
      · simp only [pk, nthSp, lexVals]
        exact lu_bidx rfl rfl rfl Hk.out
      refine lx_e (.int .u8 x) [(0, 23)] (by kernel_rfl) rfl (by rfl) (fun w1 hw1 => ?_) ?_
      · simp only [pk, nthSp, lexVals]
        exact lu_u8 rfl rfl (HY1.out w1 hw1)
      refine lx_e (.slice (some ⟨b2, off2, none⟩) 32 c2) [] (by kernel_rfl) rfl (by rfl) (fun w1 hw1 => ?_) ?_
      · simp only [pk, lexVals]
        go_simp
        exact ⟨Ext.refl _, rfl⟩
      refine lx_e (.int .i64 (k : Int)) [] (by kernel_rfl) rfl (by rfl) (fun w1 hw1 => ?_) ?_
      · simp only [pk, lexVals]
        go_simp
        exact ⟨Ext.refl _, rfl⟩
      refine lx_e (.pointer (some ⟨b2, off2 + k, none⟩)) [(1, 25), (0, 26)] (by kernel_rfl) rfl (by rfl) (fun w1 hw1 => ?_) ?_
      · simp only [pk, nthSp, lexVals]
        exact lu_bidx rfl rfl rfl Hk.out
      refine lx_e (.int .u8 y) [(0, 27)] (by kernel_rfl) rfl (by rfl) (fun w1 hw1 => ?_) ?_
      · simp only [pk, nthSp, lexVals]
        exact lu_u8 rfl rfl (HY2.out w1 hw1)
      refine lx_e (.int .u8 (d : Int)) [(4, 24), (0, 28)] (by kernel_rfl) rfl (by rfl) (fun w1 hw1 => ?_) ?_
      · simp only [pk, nthSp, lexVals]
        go_simp
        exact ⟨Ext.refl _, by rw [Hd.out]; rfl⟩
      refine lx_e (.int .i64 (d : Int)) [(0, 29)] (by kernel_rfl) rfl (by rfl) (fun w1 hw1 => ?_) ?_
      · simp only [pk, nthSp, lexVals]
        go_simp
        exact ⟨Ext.refl _, by first | rfl | (show Value.int .i64 _ = Value.int .i64 _; congr 1; first | omega | (rw [IntKind.wrap_i64]; omega))⟩
      refine lx_e (.int .i64 (e : Int)) [(10, 20), (0, 30)] (by kernel_rfl) rfl (by rfl) (fun w1 hw1 => ?_) ?_
      · simp only [pk, nthSp, lexVals]
        go_simp
        exact ⟨Ext.refl _, by rw [He.out]; rfl⟩
      refine lx_e (.int .i64 (e : Int)) [(0, 31)] (by kernel_rfl) rfl (by rfl) (fun w1 hw1 => ?_) ?_
      · simp only [pk, nthSp, lexVals]
        go_simp
        exact ⟨Ext.refl _, rfl⟩
      refine lx_stopA (by rfl) fun w7 hw7 => ?_
      have HE7 := Lib.hid (HX.out w7 hw7)
      clear hw7
      simp only [rv, pf, lexVals]
      simp only [Act.put, List.setIfInBounds_toArray, List.set_cons_zero, List.set_cons_succ]
      go_wp2_with fail
      go_roundw
      case rel => exact ⟨k + 1, e, by omega, by go_num, rfl, he2, Hs.out, HE7.out⟩
      case measure => simp [intOf]; omega
    · obtain rfl : k = 32 := by omega
      rw [List.take_of_length_le (by omega), List.take_of_length_le (by omega)] at hiff
      have Hs := Lib.hid hiff
      clear hiff
      go_wp2
      go_ret
      refine ⟨?_, HE.out⟩
      show Ending.returned (Value.bool _) = _
      congr 2
      have := Hs.out
      by_cases hq : xs = ys
      · rw [decide_eq_true hq]
        simp [this.2 hq]
      · rw [decide_eq_false hq]
        have h0 : v ≠ 0 := fun e => hq (this.1 e)
        simp; omega

/-- The label "jalousie draw". -/
def labDraw : ByteArray := ⟨#[106, 97, 108, 111, 117, 115, 105, 101, 32, 100, 114, 97, 119]⟩
/-- A box's cells. -/
def boxA (b : Bool) (h : Nat → Value) (m1 m2 m3 : Option Nat) : Array Value := rowArr 37 fun i => if i = 0 then .bool b else if i < 33 then h (i - 1) else if i = 33 then .int .u64 0 else if i = 34 then .map m1 else if i = 35 then .map m2 else .map m3
set_option maxRecDepth 100000 in
theorem build_boxx (w : World) (b : Bool) (h : Nat → Value) (m1 m2 m3 : Option Nat) : (Instr.build 66 #[(0, .bool b), (1, .agg (rowArr 32 h)), (3, .map m1), (4, .map m2), (5, .map m3)]).run Tryd.prog w = .ok (.agg (boxA b h m1 m2 m3)) w := by kernel_rfl

theorem wp_build_box {ops : Array Oper} {Q : Exit → Act → World → Prop} {rest : List Oper} {o : Oper} {a : Act} {w : World} (hgd : o.guard = none) (x0 x1 x3 x4 x5 : Operand) (ho : o.op = .build 66 #[(0, x0), (1, x1), (3, x3), (4, x4), (5, x5)])
    (b : Bool) (h : Nat → Value) (m1 m2 m3 : Option Nat) (e0 : a.eval x0 = .bool b) (e1 : a.eval x1 = .agg (rowArr 32 h)) (e3 : a.eval x3 = .map m1) (e4 : a.eval x4 = .map m2) (e5 : a.eval x5 = .map m3)
    (hh : ∀ cs : Array Value, cs[0]? = some (.bool b) → wpList Tryd.prog ops Q rest (a.put o.dst (.agg cs)) w) : wpList Tryd.prog ops Q (o :: rest) a w := by
  refine wpList_plain hgd fun K hK => ?_
  unfold Oper.wp execOp
  simp only [ho, List.map_toArray, List.map_cons, List.map_nil, e0, e1, e3, e4, e5, Sem.run_bind, build_boxx, Result.andThen_ok, Sem.run_pure]
  exact hK _ _ (hh _ rfl)

set_option maxHeartbeats 1000000 in
set_option maxRecDepth 100000 in
theorem boxNew_any (f : Nat → Int) (hf : ∀ j, j < 32 → 0 ≤ f j ∧ f j < 256) (w : World) (hk : KsAt 1 w) :
    Calls Tryd.prog 8 #[.bool false, .agg (rowArr 32 fun j => .int .u8 (f j))] w fun e w' => ∃ g, e = .returned (.pointer (some ⟨g, 0, none⟩)) ∧ w'.cell? ⟨g, 0, none⟩ = some (.bool false) ∧ Ext w w' := by
  have HK := Lib.hid hk
  have Hf := Lib.hid hf
  have hmm := @run_makeMap Tryd.prog
  clear hk hf
  obtain ⟨w2, hw2⟩ : ∃ w2, w.alloc (.cells (rowArr 32 fun j => .int .u8 (f j)) 23) = w2 := ⟨_, rfl⟩
  have hE2 : Ext w w2 := by rw [← hw2]; exact (Ext.refl w).alloc _
  have hR2 : w2.heap[w.heap.size]? = some (.cells (rowArr 32 fun j => .int .u8 (f j)) 23 (0, 0)) := by rw [← hw2]; exact heap_new w _ _ rfl
  have HD := Lib.hid (derive_dv f Hf.out labDraw w2 (by decide) (HK.out.ext' hE2))
  have Hw2 := Lib.hid hw2
  have HE2 := Lib.hid hE2
  have HC2 := Lib.hid hR2
  clear hw2 hE2 hR2
  go_enter Tryd.func8, Tryd.ntmps8
  go_upto_region 1 with (fail)
  refine wp_world (w' := w2) Hw2.out ?_
  obtain ⟨g, hg⟩ : ∃ g, w.heap.size = g := ⟨_, rfl⟩
  rw [hg] at HC2 ⊢
  clear hg Hw2
  go_wp2_with (refine wpList_load_row rfl 23 _ rfl g rfl _ _ _ _ HC2.out Tryd.underlying23 rfl (by kernel_rfl) ?_)
  refine HD.out.mono ?_
  rintro e w3 ⟨rfl, hE3⟩
  have HE3 := Lib.hid (HE2.out.trans hE3)
  clear hE3 HD HC2 HE2
  go_wp2_with (refine wp_build_box rfl _ _ _ _ _ rfl false _ _ _ _ rfl rfl rfl rfl rfl ?_)
  intro cs hcs
  have Hcs := Lib.hid hcs
  clear hcs
  go_wp2_with fail
  go_ret
  refine ⟨_, rfl, ?_, (((HE3.out.alloc _).alloc _).alloc _).alloc _⟩
  unfold World.cell?
  have e3 : (((w3.alloc (.map #[] 0)).alloc (.map #[] 0)).alloc (.map #[] 0)).heap.size = w3.heap.size + 1 + 1 + 1 := by simp
  have h4 := heap_new (((w3.alloc (.map #[] 0)).alloc (.map #[] 0)).alloc (.map #[] 0)) (.cells cs 66) _ rfl
  rw [e3] at h4
  simp only [h4]
  exact Hcs.out

set_option maxHeartbeats 1000000 in
set_option maxRecDepth 100000 in
theorem boxCode_any (gb : Nat) (f : Nat → Int) (hf : ∀ j, j < 32 → 0 ≤ f j ∧ f j < 256) (a : Option Addr) (n c : Nat) (xs : List Int) (w : World) (hc : w.cell? ⟨gb, 0, none⟩ = some (.bool false)) (hb : BsAt w a n c xs) (hn : n ≤ 4096) (hk : KsAt 1 w) :
    Calls Tryd.prog 16 #[.pointer (some ⟨gb, 0, none⟩), .agg (rowArr 32 fun j => .int .u8 (f j)), .slice a n c] w fun e w' => e = .returned (.agg (rowArr 32 fun j => .int .u8 (macF (l32 f) xs j))) ∧ Ext w w' := by
  obtain ⟨w2, hw2, hE2, hR2, hZ2, hs2⟩ := key_box w f 23
  have hb2 : BsAt w2 (some ⟨w.heap.size, 0, none⟩) 32 32 (l32 f) := bs_row hR2 hf (by omega)
  have hc2 : w2.cell? ⟨gb, 0, none⟩ = some (.bool false) := (hE2.cell (World.block_lt_of_cell? w _ hc)).trans hc
  have hlen := hb.len
  have hP := ps_new (PsV.one (hb.ext hE2)) 53 (by omega)
  have hEP : Ext w2 (w2.alloc (.cells #[.slice a n c] 53)) := (Ext.refl w2).alloc _
  have hm := mac_any _ _ _ _ _ _ _ _ _ (hb2.ext hEP) hP (by simp; omega) (by omega) (by omega) (hk.ext' (hE2.trans hEP))
  rw [flat_one] at hm
  have HM := Lib.hid hm
  have HEP := Lib.hid hEP
  have Hw2 := Lib.hid hw2
  have HE2 := Lib.hid hE2
  have HZ2 := Lib.hid (rowIs_cells hZ2)
  clear hk hf hw2 hE2 hR2 hZ2 hb2 hc hb hP hEP hm
  go_enter Tryd.func16, Tryd.ntmps16
  go_upto_region 1 with (fail)
  refine wp_world (w' := w2) Hw2.out ?_
  obtain ⟨g, hg⟩ : ∃ g, w.heap.size = g := ⟨_, rfl⟩
  rw [hg] at HZ2 HM hs2 ⊢
  have Hg := Lib.hid (Nat.le_of_eq hg)
  clear hg Hw2
  go_wp2_with fail
  refine HM.out.mono ?_
  rintro e w3 ⟨rfl, hE3⟩
  have HZ3 := Lib.hid ((HEP.out.trans hE3).keep HZ2.out)
  have HE3 := Lib.hid (HE2.out.trans (HEP.out.trans hE3))
  clear hE3 HM HEP HZ2
  go_wp2_with (refine wpList_store_row rfl 23 _ _ rfl _ _ rfl rfl _ _ HZ3.out (by kernel_rfl) (by simp only [rowArr_size]) (rowArr_one fun _ _ => rfl) ?_)
  have hgg := Hg.out
  exact bodyPost_ret (results_cell_row rfl _ _ (g + 1) _ _ _ _ rfl (setRow_heap w3 (g + 1) _ _ _ _ HZ3.out) Tryd.underlying23 rfl (by kernel_rfl)) rfl ⟨rfl, below_setRow HE3.out (by omega) _⟩

set_option maxHeartbeats 8000000 in
set_option maxRecDepth 100000 in
theorem boxRight_any (gb : Nat) (f : Nat → Int) (hf : ∀ j, j < 32 → 0 ≤ f j ∧ f j < 256) (a : Option Addr) (n c : Nat) (xs : List Int) (d : Nat → Int) (hd : ∀ j, j < 32 → 0 ≤ d j ∧ d j < 256) (w : World) (hc : w.cell? ⟨gb, 0, none⟩ = some (.bool false)) (hb : BsAt w a n c xs) (hn : n ≤ 4096) (hk : KsAt 1 w) :
    Calls Tryd.prog 54 #[.pointer (some ⟨gb, 0, none⟩), .agg (rowArr 32 fun j => .int .u8 (f j)), .slice a n c, .agg (rowArr 32 fun j => .int .u8 (d j))] w fun e w' => e = .returned (.bool (decide (l32 (macF (l32 f) xs) = l32 d))) ∧ Ext w w' := by
  obtain ⟨w1, hw1⟩ : ∃ w1, w.alloc (.cells (rowArr 32 fun j => .int .u8 (f j)) 23) = w1 := ⟨_, rfl⟩
  have hE1 : Ext w w1 := by rw [← hw1]; exact (Ext.refl w).alloc _
  have hs1 : w1.heap.size = w.heap.size + 1 := by rw [← hw1]; simp
  have hR1 : w1.rowIs w.heap.size 23 32 (fun j => .int .u8 (f j)) := by rw [← hw1]; exact rowIs_of (heap_new w _ _ rfl)
  obtain ⟨w2, hw2⟩ : ∃ w2, w1.alloc (.cells (rowArr 32 fun j => .int .u8 (d j)) 23) = w2 := ⟨_, rfl⟩
  have hE2 : Ext w w2 := by rw [← hw2]; exact hE1.alloc _
  have hs2 : w2.heap.size = w.heap.size + 2 := by rw [← hw2]; simp; omega
  have hR2 : w2.rowIs w.heap.size 23 32 (fun j => .int .u8 (f j)) := by rw [← hw2]; exact hR1.alloc _
  have hD2 : w2.rowIs (w.heap.size + 1) 23 32 (fun j => .int .u8 (d j)) := by rw [← hw2]; exact rowIs_of (heap_new w1 _ _ (by omega))
  have hw12 : (w.alloc (.cells (rowArr 32 fun j => .int .u8 (f j)) 23)).alloc (.cells (rowArr 32 fun j => .int .u8 (d j)) 23) = w2 := by rw [hw1, hw2]
  have hb2 : BsAt w2 (some ⟨w.heap.size, 0, none⟩) 32 32 (l32 f) := bs_row hR2 hf (by omega)
  have hc2 : w2.cell? ⟨gb, 0, none⟩ = some (.bool false) := (hE2.cell (World.block_lt_of_cell? w _ hc)).trans hc
  have hlen := hb.len
  have hP := ps_new (PsV.one (hb.ext hE2)) 53 (by omega)
  have hEP : Ext w2 (w2.alloc (.cells #[.slice a n c] 53)) := (Ext.refl w2).alloc _
  have hm := mac_any _ _ _ _ _ _ _ _ _ (hb2.ext hEP) hP (by simp; omega) (by omega) (by omega) (hk.ext' (hE2.trans hEP))
  rw [flat_one] at hm
  have HM := Lib.hid hm
  have HEP := Lib.hid hEP
  have Hw2 := Lib.hid hw12
  have HE2 := Lib.hid hE2
  have HD2 := Lib.hid hD2
  have Hd := Lib.hid hd
  have HMb := Lib.hid (macF_byte (l32 f) xs)
  obtain ⟨F, hF⟩ : ∃ F, macF (l32 f) xs = F := ⟨_, rfl⟩
  rw [hF] at HM HMb ⊢
  clear hk hf hw1 hw2 hw12 hE1 hE2 hR1 hR2 hD2 hb2 hc hb hP hEP hm hd hF hs1 hs2
  go_enter Tryd.func54, Tryd.ntmps54
  go_upto_region 1 with (fail)
  refine wp_world (w' := w2) Hw2.out ?_
  obtain ⟨g, hg⟩ : ∃ g, w.heap.size = g := ⟨_, rfl⟩
  rw [hg] at HD2 HM ⊢
  have Hg := Lib.hid (Nat.le_of_eq hg)
  clear hg Hw2
  go_wp2_with fail
  refine HM.out.mono ?_
  rintro e w3 ⟨rfl, hE3⟩
  have HE3 := Lib.hid (HEP.out.trans hE3)
  have HZ4 := Lib.hid (rowIs_cells (start_zero32 23 w3))
  clear hE3 HM HEP
  go_upto_region 3 with (refine wpList_store_row rfl 23 _ _ rfl _ _ rfl rfl _ _ HZ4.out (by kernel_rfl) (by simp only [rowArr_size]) (rowArr_one fun _ _ => rfl) ?_; rw [setRow_new w3 _ _ _ _ rfl])
  obtain ⟨w5, hw5⟩ : ∃ w5, w3.alloc (.cells (rowArr 32 fun j => .int .u8 (F j)) 23) = w5 := ⟨_, rfl⟩
  obtain ⟨z, hz⟩ : ∃ z, w3.heap.size = z := ⟨_, rfl⟩
  have hF5 : w5.heap[z]? = some (.cells (rowArr 32 fun j => .int .u8 (F j)) 23 (0, 0)) := by rw [← hw5]; exact heap_new w3 _ _ hz.symm
  have hE5 : Ext w2 w5 := by rw [← hw5]; exact HE3.out.alloc _
  refine wp_world (w' := w5) hw5 ?_
  rw [hz]
  have HQ := Lib.hid (fun x (hx : Ext w5 x) => equ_any _ _ _ _ _ _ x ((bs_row (rowIs_of hF5) (fun j _ => HMb.out j) (by omega)).ext hx) ((bs_row (rowIs_of (hE5.keep (rowIs_cells HD2.out))) Hd.out (by omega)).ext hx))
  have HX := Lib.hid (show ∀ x, Ext w5.drew x → Ext w5 x from fun x hx => Ext.trans (Ext.refl w5).drew hx)
  have HE := Lib.hid (HE2.out.trans hE5)
  clear hw5 hz hF5 hE5 HE3 HZ4 HD2
  refine wp_region_lexA (by kernel_rfl) (by kernel_rfl) ?_
  refine lx_e (.slice (some ⟨z, 0, none⟩) 32 32) [] (by kernel_rfl) rfl (by rfl) (fun w1 hw1 => ?_) ?_
  · simp only [pk, lexVals]
    go_simp
    exact ⟨Ext.refl _, rfl⟩
  refine lx_e (.slice (some ⟨g + 1, 0, none⟩) 32 32) [] (by kernel_rfl) rfl (by rfl) (fun w1 hw1 => ?_) ?_
  · simp only [pk, lexVals]
    go_simp
    exact ⟨Ext.refl _, rfl⟩
  refine lx_e (.bool (decide (l32 F = l32 d))) [(1, 21), (0, 22)] (by kernel_rfl) rfl (by rfl) (fun w1 hw1 => ?_) ?_
  · simp only [pk, nthSp, lexVals]
    have hm := HQ.out w1 (HX.out w1 hw1)
    have HM := Lib.hid hm
    clear hm hw1
    go_simp
    refine HM.out.mono ?_
    rintro e w2 ⟨rfl, hE2⟩
    exact ⟨_, rfl, hE2, rfl⟩
  refine lx_e (.bool (decide (l32 F = l32 d))) [(0, 23)] (by kernel_rfl) rfl (by rfl) (fun w1 hw1 => ?_) ?_
  · simp only [pk, nthSp, lexVals]
    go_simp
    exact ⟨Ext.refl _, rfl⟩
  refine lx_stopA (by rfl) fun w7 hw7 => ?_
  have HE7 := Lib.hid (HE.out.trans (HX.out w7 hw7))
  clear hw7
  simp only [rv, pf, lexVals]
  simp only [Act.put, List.setIfInBounds_toArray, List.set_cons_zero, List.set_cons_succ]
  go_wp2
  go_ret
  exact ⟨rfl, HE7.out⟩

end Go.Proofs.YtpiebfhcfkncoaaDoor
