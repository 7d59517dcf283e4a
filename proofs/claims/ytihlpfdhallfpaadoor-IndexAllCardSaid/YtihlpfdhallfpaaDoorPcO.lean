/-
  A slice of pieces; the walk of jalousieref20.Headers. Asked: nothing.
  The walk of jalousielaw20.Right: a piece made to stand behind others. Asked: the reference's table lies as the text lays it.
  Rows of pieces of a call's own: appended to; pieces, and their headers, built. No conditions.
-/
import Derived.Test.YtihlpfdhallfpaaDoorIxA
namespace Go.Proofs.YtihlpfdhallfpaaDoor
open Go.ChangeAt Go.ChangeShapes Go.RowKit Go.WideShapes

def pcN : Pc := ⟨htN, none, 0, []⟩
structure PisAt (w : World) (a : Option Addr) (n c : Nat) (l : List Pc) : Prop where
  len : l.length = n
  cap : n ≤ c
  lim : c ≤ 9223372036854775807
  small : n ≤ 140737488355328
  each : ∀ x ∈ l, PcAt w x
  at_ : 0 < n → ∃ b off, a = some ⟨b, off, none⟩ ∧ ∀ i, i < n → ∀ j, j < 126 → w.cell? ⟨b, off + i * 126 + j, none⟩ = some (pcC (l.getD i pcN) j)
  nil_ : a = none → c = 0
theorem PisAt.ext {w w' : World} {a : Option Addr} {n c : Nat} {l : List Pc} (h : PisAt w a n c l) (he : Ext w w') : PisAt w' a n c l := by
  refine ⟨h.len, h.cap, h.lim, h.small, fun x hx => (h.each x hx).ext he, fun hn => ?_, h.nil_⟩
  obtain ⟨b, off, ha, hc⟩ := h.at_ hn
  exact ⟨b, off, ha, fun i hi j hj => by rw [Ext.cell he (World.block_lt_of_cell? w _ (hc i hi j hj))]; exact hc i hi j hj⟩
theorem take_pc (l : List Pc) (k : Nat) (hk : k < l.length) : (l.take (k + 1)).map (·.hd) = (l.take k).map (·.hd) ++ [(l.getD k pcN).hd] := by
  rw [List.take_add_one, List.map_append, List.getD_eq_getElem?_getD, List.getElem?_eq_getElem hk]
  rfl

set_option maxHeartbeats 4000000 in
set_option maxRecDepth 100000 in
theorem refHeaders_any (a : Option Addr) (n c : Nat) (l : List Pc) (w : World) (h : PisAt w a n c l) (hsm : n ≤ 100000) :
    Calls Tryd.prog 40 #[.slice a n c] w fun e w' => ∃ v, e = .returned v ∧ w'.ownsRow w.heap.size 34 125 v n (hsC (l.map (·.hd))) ∧ Ext w w' := by
  have H := Lib.hid h
  clear h
  go_enter Tryd.func40, Tryd.ntmps40
  go_wp2
  obtain ⟨Bw, hBw⟩ : ∃ x, w.heap.size = x := ⟨_, rfl⟩
  have HBw := Lib.hid hBw
  go_loopw [3, 4] (fun v i wr => ∃ (k : Nat) (ao : Option Addr) (co : Nat), k ≤ n ∧ v = .slice ao k co ∧ i = .int .i64 (k : Int) ∧ wr.ownsRow Bw 34 125 (.slice ao k co) k (hsC ((l.take k).map (·.hd))) ∧ Ext w wr) (fun _ i _ => n - (intOf i).toNat)
  case atStart => exact ⟨0, none, 0, Nat.zero_le _, rfl, rfl, by rw [List.take_zero]; exact World.ownsRow_nil _ _ _ _, Ext.refl w⟩
  case round =>
    obtain ⟨k, ao, co, hk, rfl, rfl, hO, hE⟩ := hrel
    have HO := Lib.hid hO
    have HE := Lib.hid hE
    clear hO hE
    by_cases hlt : k < n
    · have x1 : (k : Int) < (n : Int) := by omega
      have x2 : (0 : Int) ≤ (k : Int) := by omega
      obtain ⟨b, off, rfl, hcell⟩ := (H.out.ext HE.out).at_ (by omega)
      obtain ⟨x, hx⟩ : ∃ x, l.getD k pcN = x := ⟨_, rfl⟩
      have Hx := Lib.hid hx
      obtain ⟨A, hA⟩ : ∃ A, hdV x.hd.1 = A := ⟨_, rfl⟩
      have HAe := Lib.hid hA
      have Hr := Lib.hid (show ∀ y, Ext wr y → y.rangeAt b (off + k * 126) (hdL x.hd.1) from fun y hy => range_hd fun j hj => by
        have h1 := hcell k hlt j (by omega)
        rw [Ext.cell hy (World.block_lt_of_cell? _ _ h1), h1, hx]
        unfold pcC
        rw [if_pos hj])
      obtain ⟨LK, hLK⟩ : ∃ x, (l.take k).map (·.hd) = x := ⟨_, rfl⟩
      have HLK := Lib.hid hLK
      rw [hLK] at HO
      clear hLK
      have HO11 := Lib.hid (own_ext9 HO.out ((Ext.refl wr).alloc (.cells A 34)))
      have HQ11 := Lib.hid (show ∀ j, j < 125 → (wr.alloc (.cells A 34)).cell? ⟨wr.heap.size, j, none⟩ = some (hdC x.hd.1 j) from fun j hj => by
        rw [← HAe.out]
        exact row_cell (heap_new wr _ _ rfl) j hj)
      have hz := Below.size HE.out
      have HB11 := Lib.hid (show Bw ≤ (wr.alloc (.cells A 34)).heap.size by have := HBw.out; simp; omega)
      clear hcell hx hA hz
      go_wp2_with (first | (refine wp_hmidI rfl _ rfl b (off + k * 126) x.hd.1 rfl (Hr.out wr (Ext.refl wr)) ?_; rw [HAe.out]) | (refine wp_build_hd1 rfl _ rfl x.hd.1 A HAe.out rfl ?_) | (at_builtin; refine append_hd rfl _ _ rfl Bw (.slice ao k co) k LK rfl HO11.out wr.heap.size 1 x.hd rfl HQ11.out (by omega) HB11.out ?_))
      intro v' w12 hown12 hG12 _
      obtain ⟨a2, c2, rfl⟩ := own_hsl hown12
      have HE12 := Lib.hid (show Ext w w12 from Below.grown (HE.out.trans ((Ext.refl wr).alloc _)) hG12 (by rw [HBw.out]; exact HB11.out) (fun q hq => by rw [HBw.out]; exact (HO11.out.lt q hq).1))
      have HO12 := Lib.hid (show w12.ownsRow Bw 34 125 (.slice a2 (k + 1) c2) (k + 1) (hsC ((l.take (k + 1)).map (·.hd))) from by
        rw [take_pc l k (by rw [H.out.len]; exact hlt), Hx.out, HLK.out]
        exact hown12)
      clear hown12 hG12 HO11 HQ11 HB11 Hr
      go_wp2
      go_roundw
      case rel => exact ⟨k + 1, a2, c2, by omega, rfl, by go_num, HO12.out, HE12.out⟩
      case measure => simp [intOf]; omega
    · obtain rfl : k = n := by omega
      have x1 : ¬ (k : Int) < (k : Int) := by omega
      have HO2 := HO.out
      rw [List.take_of_length_le (by rw [H.out.len]; exact Nat.le_refl _)] at HO2
      have HO3 := Lib.hid HO2
      clear HO2
      go_wp2
      go_ret
      exact ⟨_, rfl, by first | exact HO3.out | (rw [HBw.out]; exact HO3.out), HE.out⟩

theorem hdC_setS (h : Hd) (F : Nat → Int) : ∀ j, j < 125 → (if 60 ≤ j ∧ j < 92 then .int .u8 (F (j - 60)) else hdC h j) = hdC { h with sum := F } j := by
  intro j hj
  by_cases hc : 60 ≤ j ∧ j < 92
  · rw [if_pos hc]
    unfold hdC
    rw [if_neg (by omega), if_neg (by omega), if_neg (by omega), if_neg (by omega), if_neg (by omega), if_neg (by omega), if_neg (by omega), if_neg (by omega), if_neg (by omega), if_pos (by omega)]
  · rw [if_neg hc]
    exact hdC_congr h { h with sum := F } j (by omega) (by intro c d; first | rfl | exact ⟨rfl, rfl, rfl⟩ | (exfalso; omega)) (by intro c d; first | rfl | exact ⟨rfl, rfl, rfl⟩ | (exfalso; omega)) (by intro c d; first | rfl | exact ⟨rfl, rfl, rfl⟩ | (exfalso; omega)) (by intro c d; first | rfl | exact ⟨rfl, rfl, rfl⟩ | (exfalso; omega)) (by intro c d; first | rfl | exact ⟨rfl, rfl, rfl⟩ | (exfalso; omega)) (by intro c d; first | rfl | exact ⟨rfl, rfl, rfl⟩ | (exfalso; omega)) (by intro c d; first | rfl | exact ⟨rfl, rfl, rfl⟩ | (exfalso; omega)) (by intro c d; first | rfl | exact ⟨rfl, rfl, rfl⟩ | (exfalso; omega)) (by intro c d; first | rfl | exact ⟨rfl, rfl, rfl⟩ | (exfalso; omega)) (by intro c d; first | rfl | exact ⟨rfl, rfl, rfl⟩ | (exfalso; omega)) (by intro c d; first | rfl | exact ⟨rfl, rfl, rfl⟩ | (exfalso; omega)) (by intro c d; first | rfl | exact ⟨rfl, rfl, rfl⟩ | (exfalso; omega))
theorem pcC_hd (p : Pc) (h : HT) (i : Nat) : (if i < 125 then hdC h.1 i else pcC p i) = pcC { p with hd := h } i := by
  unfold pcC
  by_cases h1 : i < 125
  · rw [if_pos h1, if_pos h1]
  · rw [if_neg h1, if_neg h1, if_neg h1]
/-- Eighty bytes alike. -/
def rep80 (x : Int) : List Int := (List.range 80).map fun _ => x
theorem rep80_length (x : Int) : (rep80 x).length = 80 := by unfold rep80; simp
/-- The piece made to stand behind others. -/
def rgtH (l : List HT) (wr : Int) (x : HT) (bd : List Int) : HT := ({ (bhd l wr x).1 with size := 80, sum := shaF bd }, x.2)
def rgtP (l : List HT) (wr : Int) (p : Pc) (x : Int) (q : Nat) : Pc := ⟨rgtH l wr p.hd (rep80 x), some ⟨q, 0, none⟩, 80, rep80 x⟩
theorem rgtC (l : List HT) (wr : Int) (p : Pc) (x : Int) (q : Nat) (F : Nat → Int) (hF : ∀ j, F j = shaF (rep80 x) j) : ∀ i, i < 126 →
    (if 60 ≤ i ∧ i < 92 then .int .u8 (F (i - 60)) else if i = 92 then .int .i64 80 else if i = 125 then .slice (some ⟨q, 0, none⟩) 80 80 else pcC { p with hd := bhd l wr p.hd } i) = pcC (rgtP l wr p x q) i := by
  intro i hi
  unfold pcC
  by_cases h1 : i < 125
  · rw [if_pos h1, if_pos h1]
    refine Eq.trans ?_ (hdC_setS { (bhd l wr p.hd).1 with size := 80 } (shaF (rep80 x)) i h1)
    by_cases h2 : 60 ≤ i ∧ i < 92
    · rw [if_pos h2, if_pos h2, hF]
    · rw [if_neg h2, if_neg h2]
      refine Eq.trans ?_ (hdC_set12 (bhd l wr p.hd).1 80 i h1)
      by_cases h3 : i = 92
      · rw [if_pos h3, if_pos h3]
      · rw [if_neg h3, if_neg h3, if_neg (by omega)]
  · have h2 : i = 125 := by omega
    subst h2
    rw [if_neg (by omega), if_neg (by omega), if_pos rfl, if_neg (by omega)]
    show _ = Value.slice (some ⟨q, 0, none⟩) (rep80 x).length 80
    rw [rep80_length]

def pcZ : Pc := ⟨(hdN, []), none, 0, []⟩
set_option maxRecDepth 100000 in
theorem pcZ0 (w : World) : (zeroValue 37).run Tryd.prog w = .ok (.agg (pcV pcZ)) w := by kernel_rfl
set_option maxRecDepth 100000 in
theorem run_mk80 (w : World) : (Instr.makeSlice 35 (.int .i64 80) (.int .i64 80)).run Tryd.prog w = .ok (.slice (some ⟨w.heap.size, 0, none⟩) 80 80) (w.alloc (.cells (rowArr 80 fun _ => .int .u8 0) 5)) := by kernel_rfl
theorem wp_mk80 {ops : Array Oper} {Q : Exit → Act → World → Prop} {rest : List Oper} {o : Oper} {a : Act} {w : World} (hw : Region.wanted o (yielded ops a.tmps) = true) (l c : Operand) (ho : o.op = .makeSlice 35 l c)
    (hl : a.eval l = .int .i64 80) (hc : a.eval c = .int .i64 80) (k : wpList Tryd.prog ops Q rest (a.put o.dst (.slice (some ⟨w.heap.size, 0, none⟩) 80 80)) (w.alloc (.cells (rowArr 80 fun _ => .int .u8 0) 5))) : wpList Tryd.prog ops Q (o :: rest) a w := by
  refine wpList_want hw fun K hK => ?_
  unfold Oper.wp execOp
  simp only [ho, hl, hc, Sem.run_bind, run_mk80, Result.andThen_ok, Sem.run_pure]
  exact hK _ _ k

set_option maxHeartbeats 8000000 in
set_option maxRecDepth 100000 in
theorem right_any (a : Option Addr) (n c : Nat) (l : List Pc) (wr : Int) (p : Pc) (w : World) (h : PisAt w a n c l) (hsm : n ≤ 100000) (hw : 1 ≤ wr ∧ wr ≤ 6) (hp : PcAt w p) (hk : KsAt 0 w) :
    Calls Tryd.prog 24 #[.slice a n c, .int .i64 wr, .agg (pcV p)] w fun e w' => ∃ x q, e = .returned (.agg (pcV (rgtP (l.map (·.hd)) wr p x q))) ∧ (0 ≤ x ∧ x < 256) ∧ w.heap.size ≤ q ∧ BsAt w' (some ⟨q, 0, none⟩) 80 80 (rep80 x) ∧ Ext w w' := by
  obtain ⟨w2, hw2, hE2, hB2, hZ2, hs2⟩ := hd2_box w (pcV p) (pcV pcZ) 37 37
  have hz := pcZ0
  obtain ⟨g, hg⟩ : ∃ g, w.heap.size = g := ⟨_, rfl⟩
  rw [hg] at hB2 hZ2
  obtain ⟨HL, hHL⟩ : ∃ x, l.map (·.hd) = x := ⟨_, rfl⟩
  have hln : HL.length = n := by rw [← hHL, List.length_map, h.len]
  have HHs := Lib.hid (show ∀ x, Ext w2 x → Calls Tryd.prog 40 #[.slice a n c] x fun e w' => ∃ ha hc, e = .returned (.slice ha n hc) ∧ HsAt w' ha n hc HL ∧ Ext x w' from fun x hx =>
    (refHeaders_any a n c l x (h.ext (hE2.trans hx)) hsm).mono fun e w' ⟨v, h1, h2, h3⟩ => by
      obtain ⟨ha, hc, rfl⟩ := own_hsl h2
      rw [hHL] at h2
      exact ⟨ha, hc, h1, own_hs h2 (fun y hy => by
        rw [← hHL] at hy
        obtain ⟨z, hz, rfl⟩ := List.mem_map.1 hy
        exact (h.each z hz).hd.ext (hE2.trans (hx.trans h3))) (by omega), h3⟩)
  obtain ⟨BV, hBV⟩ : ∃ x, hdV (bhd HL wr p.hd).1 = x := ⟨_, rfl⟩
  obtain ⟨HV, hHV⟩ : ∃ x, hdV p.hd.1 = x := ⟨_, rfl⟩
  have HBh := Lib.hid (show ∀ x, Ext w2 x → ∀ ha hc, HsAt x ha n hc HL → Calls Tryd.prog 39 #[.slice ha n hc, .int .i64 wr, .agg HV] x fun e w' => e = .returned (.agg BV) ∧ Ext x w' from fun x hx ha hc hh => by
    have h1 := behind_any ha n hc HL wr p.hd x hh hsm hw (hdKs_ext hk (hE2.trans hx))
    rw [hBV, hHV] at h1
    exact h1)
  have HRh := Lib.hid (fun x (hx : Ext w2 x) => pc_rh (hx.keep hB2))
  have HHV := Lib.hid hHV
  have HBV := Lib.hid hBV
  have HPp := Lib.hid hp
  have HK := Lib.hid hk
  have HHL := Lib.hid hHL
  have Hg := Lib.hid hg
  have Hw2 := Lib.hid hw2
  have HE2 := Lib.hid hE2
  have HB2 := Lib.hid hB2
  have HZ2 := Lib.hid hZ2
  have Hs2 := Lib.hid hs2
  have HX := Lib.hid (show ∀ x, Ext w2.drew x → Ext w2 x from fun x hx => Ext.trans (Ext.refl w2).drew hx)
  obtain ⟨PV, hPV⟩ : ∃ x, pcV p = x := ⟨_, rfl⟩
  have HPV := Lib.hid hPV
  rw [hPV] at Hw2 ⊢
  obtain ⟨cc, hcc⟩ : ∃ x, IntKind.u8.wrap (n : Int) = x := ⟨_, rfl⟩
  have hccb : 0 ≤ cc ∧ cc < 256 := by rw [← hcc, IntKind.wrap_u8]; omega
  have HCb := Lib.hid hccb
  rw [hHL]
  clear h hw hp hk hw2 hE2 hB2 hZ2 hs2 hg hHL hBV hHV hPV hccb hln
  go_enter Tryd.func24, Tryd.ntmps24
  go_upto_region 1 with (fail)
  refine wp_world (w' := w2) Hw2.out ?_
  rw [Hg.out]
  clear Hw2
  refine wp_region_lexT 7 (by kernel_rfl) (by kernel_rfl) ?_
  simp only [List.take_succ_cons, List.take_zero, List.drop_succ_cons, List.drop_zero]
  refine lx_e (.slice a n c) [] (by kernel_rfl) rfl (by rfl) (fun w1 hw1 => ?_) ?_
  · simp only [pk, lexVals]
    clear hw1
    go_simp
    exact ⟨Ext.refl _, rfl⟩
  refine lx_a (fun u w => ∃ ha hc, u = .slice ha n hc ∧ HsAt w ha n hc HL) [(0, 9)] (by kernel_rfl) rfl (by rfl) (fun u w w' he ⟨ha, hc, h1, h2⟩ => ⟨ha, hc, h1, h2.ext he⟩) (fun w1 hw1 => ?_) ?_
  · simp only [pk, nthSp, lexVals]
    have HM := Lib.hid (HHs.out w1 (HX.out w1 hw1))
    clear hw1
    go_simp
    refine HM.out.mono ?_
    rintro e w3 ⟨ha, hc, rfl, hs, hE3⟩
    exact ⟨_, rfl, hE3, ha, hc, rfl, hs⟩
  refine lx_e (.int .i64 wr) [] (by kernel_rfl) rfl (by rfl) (fun w1 hw1 => ?_) ?_
  · simp only [pk, lexVals]
    clear hw1
    go_simp
    exact ⟨Ext.refl _, rfl⟩
  refine lx_e (.pointer (some ⟨g, 0, none⟩)) [] (by kernel_rfl) rfl (by rfl) (fun w1 hw1 => ?_) ?_
  · simp only [pk, lexVals]
    clear hw1
    go_simp
    exact ⟨Ext.refl _, rfl⟩
  refine lx_e (.agg HV) [(0, 12)] (by kernel_rfl) rfl (by rfl) (fun w1 hw1 => ?_) ?_
  · simp only [pk, nthSp, lexVals]
    rw [← HHV.out]
    exact lu_hmid rfl rfl (HRh.out w1 (HX.out w1 hw1))
  refine lx_e (.agg BV) [(3, 10), (2, 11), (0, 13)] (by kernel_rfl) rfl (by rfl) (fun w1 hw1 => ?_) ?_
  · simp only [pk, nthSp, lexVals]
    rintro u10 ⟨ha10, hc10, rfl, h10⟩
    have HM := Lib.hid (HBh.out w1 (HX.out w1 hw1) _ _ h10)
    clear hw1 h10
    go_simp
    refine HM.out.mono ?_
    rintro e w3 ⟨rfl, hE3⟩
    exact ⟨_, rfl, hE3, rfl⟩
  refine lx_e (.pointer (some ⟨g, 0, none⟩)) [] (by kernel_rfl) rfl (by rfl) (fun w1 hw1 => ?_) ?_
  · simp only [pk, lexVals]
    clear hw1
    go_simp
    exact ⟨Ext.refl _, rfl⟩
  refine lx_stopT (by rfl) (by decide) fun w3 hw3 => ?_
  have HE3 := Lib.hid (HX.out w3 hw3)
  clear hw3 HX HHs HBh HRh
  simp only [rv, pf, lexVals, List.drop_succ_cons, List.drop_zero]
  rintro u10 ⟨ha10, hc10, rfl, -⟩
  simp only [Act.put, List.setIfInBounds_toArray, List.set_cons_zero, List.set_cons_succ]
  have hR3 : w3.rowIs g 37 126 (pcC p) := rowIs_of (HE3.out.keep HB2.out)
  have HTh := Lib.hid (show w3.there g 0 BV.size from fun j hj => by
    rw [← HBV.out, hdV_size] at hj
    exact ⟨by rw [hR3.cell (i := 0 + j) (by omega)]; rfl, hR3.frozen _⟩)
  have HBs := Lib.hid (show BV.size = 125 by rw [← HBV.out, hdV_size])
  have HBo := Lib.hid (show BV.all (·.oneCell') = true by rw [← HBV.out]; exact hdV_one _)
  have HR3 := Lib.hid hR3
  clear hR3
  go_upto_region 2 with (refine wpList_store_mid rfl 34 _ _ rfl g 0 BV rfl rfl HTh.out (by rw [HBs.out]; kernel_rfl) HBo.out ?_)
  obtain ⟨w4, hw4⟩ : ∃ x, w3.setCells g 0 BV.toList = x := ⟨_, rfl⟩
  have hG4 : w3.grownBy w4 (some g) := by rw [← hw4]; exact grown_setCells _ _ _ (World.grownBy.refl w3 _)
  have hR4 : w4.rowIs g 37 126 (pcC { p with hd := bhd HL wr p.hd }) := by
    rw [← hw4]
    refine ((rowIs_setCells _ 0 _ _ HR3.out).congr fun j hj => ?_).congr (fun j _ => pcC_hd p (bhd HL wr p.hd) j)
    rw [Array.length_toList, HBs.out]
    by_cases h1 : j < 125
    · rw [if_pos h1, if_pos (by omega), ← HBV.out, List.getD_eq_getElem?_getD, Array.getElem?_toList, Nat.sub_zero]
      show ((rowArr 125 _)[j]?).getD undef = _
      rw [rowArr_get _ _ _ h1]
      rfl
    · rw [if_neg h1, if_neg (by omega)]
  have HZ4 := Lib.hid (show w4.heap[g + 1]? = some (.cells (pcV pcZ) 37 (0, 0)) by
    have h1 := HE3.out.keep HZ2.out
    rw [hG4.block (g + 1) (Array.getElem?_eq_some_iff.1 h1).1 (fun e => by have := Option.some.inj e; omega)]
    exact h1)
  have HE4 := Lib.hid (show Ext w w4 from (HE2.out.trans HE3.out).grown hG4 (Below.size (HE2.out.trans HE3.out)) (fun k e => by have := Option.some.inj e; have := Hg.out; omega))
  refine wp_world (w' := w4) hw4 ?_
  have HR4 := Lib.hid hR4
  have c125 : w4.cell? ⟨g, 125, none⟩ = some (.slice p.ba p.bd.length p.bc) := hR4.cell (i := 125) (by omega)
  obtain ⟨m, hm⟩ : ∃ m, p.bd.length = m := ⟨_, rfl⟩
  rw [hm] at c125
  have Hm := Lib.hid hm
  clear hw4 hG4 hR4 HR3 HTh HBo hm
  go_upto_if 22 with (fail)
  go_cut [7] (fun v wc => ∃ x, v = .int .u8 x ∧ (0 ≤ x ∧ x < 256) ∧ wc = w4)
  case first =>
    by_cases h0 : 0 < m
    · have hbs := HPp.out.body.ext HE4.out
      obtain ⟨b, off, hba, hc⟩ := hbs.at_ (by rw [Hm.out]; exact h0)
      have c0 := hc 0 (by rw [Hm.out]; exact h0)
      rw [Nat.add_zero] at c0
      have hby := getD_byte hbs.byte 0
      have HBy := Lib.hid hby
      rw [hba] at c125 ⊢
      obtain ⟨x, hx⟩ : ∃ x, p.bd.getD 0 0 = x := ⟨_, rfl⟩
      rw [hx] at c0 HBy
      have x1 : decide (0 < m) = true := decide_eq_true h0
      have x2 : (0 : Int) < (m : Int) := by omega
      clear hbs hba hc hby hx
      go_wp2
      go_meet
      case rel => exact ⟨x, rfl, HBy.out, rfl⟩
    · have x1 : decide (0 < m) = false := decide_eq_false h0
      go_wp2
      go_meet
      case rel => exact ⟨cc, rfl, HCb.out, rfl⟩
  case rest =>
    obtain ⟨x, rfl, hxb, hwc⟩ := hcut
    subst hwc
    have HXb := Lib.hid hxb
    clear hxb c125 hcc
    have c125 := HR4.out.cell (i := 125) (by omega)
    have f125 := HR4.out.frozen 125
    obtain ⟨q, hq⟩ : ∃ q, wc.heap.size = q := ⟨_, rfl⟩
    obtain ⟨w5, hw5⟩ : ∃ y, (wc.alloc (.cells (rowArr 80 fun _ => .int .u8 0) 5)).setCell ⟨g, 125, none⟩ (.slice (some ⟨q, 0, none⟩) 80 80) = y := ⟨_, rfl⟩
    have hgl : g < q := by rw [← hq]; exact HR4.out.lt
    have hgl1 : g + 1 < q := by rw [← hq]; exact (Array.getElem?_eq_some_iff.1 HZ4.out).1
    have hA5 : Ext wc (wc.alloc (.cells (rowArr 80 fun _ => .int .u8 0) 5)) := (Ext.refl wc).alloc _
    have hR5 : w5.rowIs g 37 126 (fun j => if j = 125 then .slice (some ⟨q, 0, none⟩) 80 80 else pcC { p with hd := bhd HL wr p.hd } j) := by
      rw [← hw5]
      exact (HR4.out.of_block (hA5.block HR4.out.lt)).set 125 _
    have hQ5 : w5.rowIs q 5 80 (fun _ => .int .u8 0) := by
      rw [← hw5]
      exact (rowIs_of (heap_new wc _ _ hq.symm)).setOther (show q ≠ g by omega) _
    have hZ5 : w5.heap[g + 1]? = some (.cells (pcV pcZ) 37 (0, 0)) := by
      rw [← hw5]
      have h1 := hA5.keep HZ4.out
      rw [(grown_setCell (World.grownBy.refl _ (some g)) rfl _).block (g + 1) (Array.getElem?_eq_some_iff.1 h1).1 (fun e => by have := Option.some.inj e; omega)]
      exact h1
    have hE5 : Ext w w5 := by
      rw [← hw5]
      exact (HE4.out.trans hA5).setCell (by have := Hg.out; show w.heap.size ≤ g; omega) _
    have HR5 := Lib.hid hR5
    have HQ5 := Lib.hid hQ5
    have HZ5 := Lib.hid hZ5
    have HE5 := Lib.hid hE5
    have Hq := Lib.hid hq
    have Hgl := Lib.hid hgl
    have Hgl1 := Lib.hid hgl1
    have Hw5 := Lib.hid hw5
    have c125' : (wc.alloc (.cells (rowArr 80 fun _ => .int .u8 0) 5)).cell? ⟨g, 125, none⟩ = some (.slice p.ba p.bd.length p.bc) := by
      rw [Ext.cell hA5 HR4.out.lt]; exact c125
    have f125' : (wc.alloc (.cells (rowArr 80 fun _ => .int .u8 0) 5)).frozen? ⟨g, 125, none⟩ = false := (HR4.out.of_block (hA5.block HR4.out.lt)).frozen 125
    clear hR5 hQ5 hZ5 hE5 hq hgl hgl1 hw5 hA5 c125 f125
    go_upto_region 6 with (refine wp_mk80 rfl _ _ rfl rfl rfl ?_)
    refine wp_world (w' := w5) (by rw [Hq.out]; exact Hw5.out) ?_
    rw [Hq.out]
    clear Hw5 c125' f125'
    go_wp2
    go_loopw [8] (fun i y => ∃ k : Nat, k ≤ 80 ∧ i = .int .i64 (k : Int) ∧ y.rowIs g 37 126 (fun j => if j = 125 then .slice (some ⟨q, 0, none⟩) 80 80 else pcC { p with hd := bhd HL wr p.hd } j) ∧ y.rowIs q 5 80 (fun j => .int .u8 (if j < k then x else 0)) ∧ y.heap[g + 1]? = some (.cells (pcV pcZ) 37 (0, 0)) ∧ Ext w y) (fun i _ => 80 - (intOf i).toNat)
    case atStart => exact ⟨0, by omega, rfl, HR5.out, HQ5.out.congr (fun j _ => by rw [if_neg (by omega)]), HZ5.out, HE5.out⟩
    case round =>
      obtain ⟨k, hk, rfl, hRg, hRq, hZg, hE⟩ := hrel
      have HRg := Lib.hid hRg
      have HRq := Lib.hid hRq
      have HZg := Lib.hid hZg
      have HE := Lib.hid hE
      rename World => wy
      clear hRg hRq hZg hE
      by_cases hlt : k < 80
      · have x1 : (k : Int) < 80 := by omega
        have x2 : (0 : Int) ≤ (k : Int) := by omega
        have c125 := HRg.out.cell (i := 125) (by omega)
        have ck := HRq.out.cell (i := k) hlt
        have fk := HRq.out.frozen k
        rw [if_pos rfl] at c125
        have HN := Lib.hid (show (wy.setCell ⟨q, k, none⟩ (.int .u8 x)).rowIs g 37 126 (fun j => if j = 125 then .slice (some ⟨q, 0, none⟩) 80 80 else pcC { p with hd := bhd HL wr p.hd } j) ∧ (wy.setCell ⟨q, k, none⟩ (.int .u8 x)).rowIs q 5 80 (fun j => .int .u8 (if j < k + 1 then x else 0)) ∧ (wy.setCell ⟨q, k, none⟩ (.int .u8 x)).heap[g + 1]? = some (.cells (pcV pcZ) 37 (0, 0)) ∧ Ext w (wy.setCell ⟨q, k, none⟩ (.int .u8 x)) from by
          have hgl := Hgl.out
          have hgl1 := Hgl1.out
          refine ⟨HRg.out.setOther (show g ≠ q by omega) _, (HRq.out.set k _).congr fun j _ => ?_, ?_, HE.out.setCell (by have := Hg.out; show w.heap.size ≤ q; omega) _⟩
          · by_cases hj : j = k
            · rw [if_pos hj, if_pos (by omega)]
            · rw [if_neg hj]
              by_cases hj2 : j < k
              · rw [if_pos hj2, if_pos (by omega)]
              · rw [if_neg hj2, if_neg (by omega)]
          · rw [(grown_setCell (World.grownBy.refl wy (some q)) rfl _).block (g + 1) (Array.getElem?_eq_some_iff.1 HZg.out).1 (fun e => by have := Option.some.inj e; omega)]
            exact HZg.out)
        go_wp2
        go_roundw
        case rel => exact ⟨k + 1, by omega, by go_num, HN.out⟩
        case measure => simp [intOf]; omega
      · obtain rfl : k = 80 := by omega
        have x1 : ¬ ((80 : Nat) : Int) < 80 := by omega
        have c92 := HRg.out.cell (i := 92) (by omega)
        have f92 := HRg.out.frozen 92
        obtain ⟨w7, hw7⟩ : ∃ y, wy.setCell ⟨g, 92, none⟩ (.int .i64 80) = y := ⟨_, rfl⟩
        have hgl := Hgl.out
        have hgl1 := Hgl1.out
        have hR7 : w7.rowIs g 37 126 (fun j => if j = 92 then .int .i64 80 else if j = 125 then .slice (some ⟨q, 0, none⟩) 80 80 else pcC { p with hd := bhd HL wr p.hd } j) := by rw [← hw7]; exact HRg.out.set 92 _
        have hQ7 : w7.rowIs q 5 80 (fun _ => .int .u8 x) := by
          rw [← hw7]
          exact (HRq.out.congr fun j hj => by rw [if_pos hj]).setOther (show q ≠ g by omega) _
        have hZ7 : w7.heap[g + 1]? = some (.cells (pcV pcZ) 37 (0, 0)) := by
          rw [← hw7, (grown_setCell (World.grownBy.refl wy (some g)) rfl _).block (g + 1) (Array.getElem?_eq_some_iff.1 HZg.out).1 (fun e => by have := Option.some.inj e; omega)]
          exact HZg.out
        have hE7 : Ext w w7 := by
          rw [← hw7]
          exact HE.out.setCell (by have := Hg.out; show w.heap.size ≤ g; omega) _
        have c125 := hR7.cell (i := 125) (by omega)
        rw [if_neg (by omega), if_pos rfl] at c125
        rw [if_neg (by omega)] at c92
        have hB7 : BsAt w7 (some ⟨q, 0, none⟩) 80 80 (rep80 x) := bs_cells (f := fun _ => x) (fun i hi => by rw [Nat.zero_add]; exact hQ7.cell hi) (fun _ _ => HXb.out) (by omega)
        have HSu := Lib.hid (refSum_any (some ⟨q, 0, none⟩) 80 80 (rep80 x) w7 hB7 (by omega) (hdKs_ext HK.out hE7))
        have Hw7 := Lib.hid hw7
        have HR7 := Lib.hid hR7
        have HB7 := Lib.hid hB7
        have HZ7 := Lib.hid hZ7
        have HE7 := Lib.hid hE7
        obtain ⟨F, hF⟩ : ∃ F, shaF (rep80 x) = F := ⟨_, rfl⟩
        rw [hF] at HSu
        have HF := Lib.hid hF
        have hn92 : pcC { p with hd := bhd HL wr p.hd } 92 = .int .i64 (bhd HL wr p.hd).1.size := rfl
        rw [hn92] at c92
        obtain ⟨s92, hs92⟩ : ∃ s, (bhd HL wr p.hd).1.size = s := ⟨_, rfl⟩
        rw [hs92] at c92
        clear hR7 hQ7 hZ7 hE7 hB7 hw7 hF hs92 hn92 HRg HRq HZg HE hgl hgl1
        go_upto_region 11 with (fail)
        refine wp_world (w' := w7) Hw7.out ?_
        clear Hw7 c92 f92
        go_wp2_with fail
        refine HSu.out.mono ?_
        rintro e w8 ⟨rfl, hE8⟩
        have hR8 := HR7.out.of_block (hE8.block HR7.out.lt)
        have HTh := Lib.hid (show w8.there g 60 (rowArr 32 fun j => Value.int .u8 (F j)).size from fun j hj => by
          rw [rowArr_size] at hj
          refine ⟨?_, hR8.frozen _⟩
          rw [hR8.cell (i := 60 + j) (by omega)]
          rfl)
        have HR8 := Lib.hid hR8
        have HZ8 := Lib.hid (hE8.keep HZ7.out)
        have HB8 := Lib.hid (HB7.out.ext hE8)
        have HE8 := Lib.hid (HE7.out.trans hE8)
        clear hE8 hR8 HSu c125
        go_upto_region 12 with (refine wpList_store_mid rfl 28 _ _ rfl g 60 (rowArr 32 fun j => .int .u8 (F j)) rfl rfl HTh.out (by rw [rowArr_size]; kernel_rfl) (rowArr_one fun _ _ => rfl) ?_)
        obtain ⟨w9, hw9⟩ : ∃ y, w8.setCells g 60 (rowArr 32 fun j => Value.int .u8 (F j)).toList = y := ⟨_, rfl⟩
        have hG9 : w8.grownBy w9 (some g) := by rw [← hw9]; exact grown_setCells _ _ _ (World.grownBy.refl w8 _)
        have hR9 : w9.rowIs g 37 126 (pcC (rgtP HL wr p x q)) := by
          rw [← hw9]
          refine ((rowIs_setCells _ 60 _ _ HR8.out).congr fun j hj => ?_).congr (rgtC HL wr p x q F (fun j => by rw [HF.out]))
          rw [Array.length_toList, rowArr_size]
          by_cases h1 : 60 ≤ j ∧ j < 60 + 32
          · rw [if_pos h1, if_pos (by omega), List.getD_eq_getElem?_getD, Array.getElem?_toList, rowArr_get _ _ _ (by omega)]
            rfl
          · have h2 : ¬ (60 ≤ j ∧ j < 92) := by omega
            first | rw [if_neg h1, if_neg h2] | rw [if_neg h1]
        have hgl := Hgl.out
        have hgl1 := Hgl1.out
        have HR9 := Lib.hid (rowIs_cells hR9)
        have HZ9 := Lib.hid (show w9.heap[g + 1]? = some (.cells (pcV pcZ) 37 (0, 0)) by
          rw [hG9.block (g + 1) (Array.getElem?_eq_some_iff.1 HZ8.out).1 (fun e => by have := Option.some.inj e; omega)]
          exact HZ8.out)
        have HB9 := Lib.hid (show BsAt w9 (some ⟨q, 0, none⟩) 80 80 (rep80 x) from HB8.out.blk fun _ b off e hb => by
          simp only [Option.some.injEq, Addr.mk.injEq, and_true] at e
          obtain ⟨rfl, rfl⟩ := e
          exact hG9.block q hb (fun e => by have := Option.some.inj e; omega))
        have HE9 := Lib.hid (show Ext w w9 from HE8.out.grown hG9 (Below.size HE8.out) (fun k e => by have := Option.some.inj e; have := Hg.out; omega))
        refine wp_world (w' := w9) hw9 ?_
        have HA := Lib.hid (pcV_size (rgtP HL wr p x q))
        have HAo := Lib.hid (pcV_one (rgtP HL wr p x q))
        have HAd := Lib.hid (show rowArr 126 (pcC (rgtP HL wr p x q)) = pcV (rgtP HL wr p x q) from rfl)
        obtain ⟨A, hA⟩ : ∃ A, pcV (rgtP HL wr p x q) = A := ⟨_, rfl⟩
        have HAe := Lib.hid hA
        rw [hA] at HA HAo HAd
        rw [HAd.out] at HR9
        clear hw9 hG9 hR9 hA HTh hgl hgl1
        go_wp2_with (first
          | (refine wpList_load_rowW rfl 37 _ rfl g rfl _ _ _ _ HR9.out Tryd.underlying37 rfl (by rw [HA.out]; kernel_rfl) ?_)
          | (refine wpList_store_row rfl 37 _ _ rfl _ _ rfl rfl _ _ HZ9.out (by rw [HA.out]; kernel_rfl) (by rw [HA.out, pcV_size]) HAo.out ?_))
        have hgg := Hg.out
        have hgl := Hgl.out
        exact bodyPost_ret (results_cell_row rfl _ _ (g + 1) _ _ _ _ rfl (setRow_heap w9 (g + 1) _ _ _ _ HZ9.out) Tryd.underlying37 rfl (by rw [HA.out]; kernel_rfl)) rfl
          ⟨x, q, by rw [HAe.out], HXb.out, by omega, HB9.out.blk (fun _ b off e hb => by
            simp only [Option.some.injEq, Addr.mk.injEq, and_true] at e
            obtain ⟨rfl, rfl⟩ := e
            exact setRow_other w9 (g + 1) q _ (by have := Hgl1.out; omega)), below_setRow HE9.out (by omega) _⟩

def pcL (p : Pc) : List Value := (List.range 126).map (pcC p)
theorem pcL_length (p : Pc) : (pcL p).length = 126 := by simp [pcL]
theorem pcL_get (p : Pc) (j : Nat) (hj : j < 126) : (pcL p)[j]? = some (pcC p j) := by
  unfold pcL
  rw [List.getElem?_map, List.getElem?_range hj]
  rfl
theorem pcL_one (p : Pc) : ∀ u ∈ pcL p, u.oneCell' = true := fun u hu => by
  obtain ⟨j, _, rfl⟩ := List.mem_map.1 hu
  exact pcC_one _ _
def pisC : List Pc → List Value
  | [] => []
  | x :: l => pcL x ++ pisC l
theorem pisC_length : ∀ l : List Pc, (pisC l).length = l.length * 126
  | [] => rfl
  | x :: l => by rw [pisC, List.length_append, pcL_length, pisC_length l, List.length_cons]; omega
theorem pisC_append : ∀ (l m : List Pc), pisC (l ++ m) = pisC l ++ pisC m
  | [], m => rfl
  | x :: l, m => by rw [List.cons_append, pisC, pisC, pisC_append l m, List.append_assoc]
theorem pisC_get : ∀ (l : List Pc) (i j : Nat), i < l.length → j < 126 → (pisC l)[i * 126 + j]? = some (pcC (l.getD i pcN) j)
  | [], i, j, h, _ => by simp at h
  | x :: l, 0, j, _, hj => by
    rw [pisC, List.getElem?_append_left (by rw [pcL_length]; omega), Nat.zero_mul, Nat.zero_add, pcL_get x j hj]
    rfl
  | x :: l, i + 1, j, h, hj => by
    rw [pisC, List.getElem?_append_right (by rw [pcL_length]; omega), pcL_length, show (i + 1) * 126 + j - 126 = i * 126 + j by omega, pisC_get l i j (by simpa using h) hj]
    simp
theorem own_pisl {w : World} {B n : Nat} {v : Value} {l : List Pc} (h : w.ownsRow B 37 126 v n (pisC l)) : ∃ a c, v = .slice a n c := by
  rcases h.2 with ⟨rfl, rfl⟩ | ⟨g, cap, cur, rfl, _⟩
  · exact ⟨none, 0, rfl⟩
  · exact ⟨_, cap, rfl⟩
theorem own_pis {w : World} {B : Nat} {a : Option Addr} {n c : Nat} {l : List Pc} (h : w.ownsRow B 37 126 (.slice a n c) n (pisC l)) (he : ∀ x ∈ l, PcAt w x) (hs : n ≤ 140737488355328) : PisAt w a n c l := by
  have hl : l.length = n := by
    have := h.1
    rw [pisC_length] at this
    omega
  rcases h.2 with ⟨h1, h2⟩ | ⟨g, cap, cur, h1, _, _, hc1, hc2, _, _⟩
  · simp only [Value.slice.injEq] at h1
    obtain ⟨rfl, rfl, rfl⟩ := h1
    exact ⟨hl, Nat.le_refl _, by omega, by omega, he, fun h0 => by omega, fun _ => rfl⟩
  · simp only [Value.slice.injEq] at h1
    obtain ⟨rfl, _, rfl⟩ := h1
    refine ⟨hl, hc1, by unfold maxLen at hc2; omega, hs, he, fun h0 => ⟨g, 0, rfl, fun i hi j hj => ?_⟩, fun h0 => by cases h0⟩
    have h1 := h.cells (g := g) rfl (i * 126 + j) _ (pisC_get l i j (by omega) hj)
    rw [addr_add] at h1
    rw [← h1]
    simp
set_option maxRecDepth 100000 in
theorem info_pc : (Tryd.prog.info? 37).map (fun i => (i.zero, i.size, i.bytes)) = some (some (.agg (pcV pcZ)), 126, 256) := by kernel_rfl

theorem exec_append_pc {w : World} {o : Oper} {ev : Operand → Value} (s x : Operand) (ho : o.op = .call { callee := .builtin .append, args := #[s, x], argTypes := #[24, 24] })
    (B : Nat) (v : Value) (n : Nat) (l : List Pc) (hs : ev s = v) (hown : w.ownsRow B 37 126 v n (pisC l))
    (q c : Nat) (y : Pc) (hx : ev x = .slice (some ⟨q, 0, none⟩) 1 c) (hq : ∀ j, j < 126 → w.cell? ⟨q, j, none⟩ = some (pcC y j)) (hsz : n ≤ 100000) (hB : B ≤ w.heap.size) :
    ∃ v' w', (execOp ev o).run Tryd.prog w = .ok (.value v') w' ∧ w'.ownsRow B 37 126 v' (n + 1) (pisC (l ++ [y])) ∧ w.grownBy w' v.ownBlock ∧ (v'.ownBlock = v.ownBlock ∨ v'.ownBlock = some w.heap.size) := by
  obtain ⟨i0, hi, hz0, hz1, hz2⟩ := info_parts info_pc
  have hnews : ∀ j u, (pcL y)[j]? = some u → w.cell? ((⟨q, 0, none⟩ : Addr).add j) = some u := fun j u hu => by
    have hj : j < 126 := by
      have := (List.getElem?_eq_some_iff.1 hu).1
      rwa [pcL_length] at this
    rw [pcL_get y j hj] at hu
    obtain rfl := Option.some.inj hu
    rw [addr_add, Nat.zero_add]
    exact hq j hj
  have h63 : n + 1 ≤ maxLen := by unfold maxLen; omega
  obtain ⟨v', w', hr, h2, h3, _⟩ := run_append_own (P := Tryd.prog) w B 24 o.type 37 i0 (.agg (pcV pcZ)) 126 256 Tryd.underlying24 hi hz0 hz1 hz2 (by kernel_rfl) (by decide) v n (pisC l) hown ⟨q, 0, none⟩ 1 c (pcL y) (by rw [pcL_length]) hnews (pcL_one y) h63 (by omega) hB
  have h4 := append_where (P := Tryd.prog) Tryd.underlying24 hi hz0 hz1 hz2 hown (by rw [pcL_length]) hnews (pcL_one y) h63 (by omega) hr
  refine ⟨v', w', ?_, by rw [pisC_append, pisC, pisC, List.append_nil]; exact h2, h3, h4⟩
  simp only [execOp, ho, resolve, invoke, builtin, Sem.run_bind, Sem.run_pure, Result.andThen_ok, List.map_toArray, List.map_cons, List.map_nil, hs, hx, hr]
theorem append_pc {w : World} {ops : Array Oper} {rest : List Oper} {o : Oper} {a : Act} {Q : Exit → Act → World → Prop} (hw : Region.wanted o (yielded ops a.tmps) = true) (s x : Operand) (ho : o.op = .call { callee := .builtin .append, args := #[s, x], argTypes := #[24, 24] })
    (B : Nat) (v : Value) (n : Nat) (l : List Pc) (hs : a.eval s = v) (hown : w.ownsRow B 37 126 v n (pisC l))
    (q c : Nat) (y : Pc) (hx : a.eval x = .slice (some ⟨q, 0, none⟩) 1 c) (hq : ∀ j, j < 126 → w.cell? ⟨q, j, none⟩ = some (pcC y j)) (hsz : n ≤ 100000) (hB : B ≤ w.heap.size)
    (h : ∀ v' w', w'.ownsRow B 37 126 v' (n + 1) (pisC (l ++ [y])) → w.grownBy w' v.ownBlock → (v'.ownBlock = v.ownBlock ∨ v'.ownBlock = some w.heap.size) → wpList Tryd.prog ops Q rest (a.put o.dst v') w') : wpList Tryd.prog ops Q (o :: rest) a w := by
  obtain ⟨v', w', hr, h1, h2, h3⟩ := exec_append_pc (ev := a.eval) s x ho B v n l hs hown q c y hx hq hsz hB
  refine wpList_want hw fun K hK => ?_
  unfold Oper.wp
  rw [hr]
  exact hK _ _ (h v' w' h1 h2 h3)
theorem luc_append_pc {w : World} {o : Oper} {ev : Operand → Value} {C : World → Prop} {E : World → World → Prop} {sp : Sp} (s x : Operand) (ho : o.op = .call { callee := .builtin .append, args := #[s, x], argTypes := #[24, 24] })
    (B : Nat) (v : Value) (n : Nat) (l : List Pc) (hs : ev s = v) (hown : w.ownsRow B 37 126 v n (pisC l))
    (q c : Nat) (y : Pc) (hx : ev x = .slice (some ⟨q, 0, none⟩) 1 c) (hq : ∀ j, j < 126 → w.cell? ⟨q, j, none⟩ = some (pcC y j)) (hsz : n ≤ 100000) (hB : B ≤ w.heap.size)
    (hf : ∀ v' w', w'.ownsRow B 37 126 v' (n + 1) (pisC (l ++ [y])) → w.grownBy w' v.ownBlock → (v'.ownBlock = v.ownBlock ∨ v'.ownBlock = some w.heap.size) → C w' ∧ E w w' ∧ sp.holds v' w') : lexUponC Tryd.prog C E w sp ((execOp ev o).run Tryd.prog w) := by
  obtain ⟨v', w', hr, h1, h2, h3⟩ := exec_append_pc s x ho B v n l hs hown q c y hx hq hsz hB
  rw [hr]
  exact hf v' w' h1 h2 h3
set_option maxRecDepth 100000 in
theorem build_pc1 (w : World) (p : Pc) : (Instr.buildSlice 24 1 #[(0, .agg (pcV p))]).run Tryd.prog w = .ok (.slice (some ⟨w.heap.size, 0, none⟩) 1 1) (w.alloc (.cells (pcV p) 37)) := by kernel_rfl
theorem lu_pc1 {w : World} {o : Oper} {ev : Operand → Value} {x : Operand} {p : Pc} {F : Value → World → Prop} (ho : o.op = .buildSlice 24 1 #[(0, x)]) (hx : ev x = .agg (pcV p)) (hf : F (.slice (some ⟨w.heap.size, 0, none⟩) 1 1) (w.alloc (.cells (pcV p) 37))) : lexUpon Tryd.prog w (.ab F) ((execOp ev o).run Tryd.prog w) := by
  simp only [execOp, ho, List.map_toArray, List.map_cons, List.map_nil, hx, Sem.run_bind, build_pc1, Result.andThen_ok, Sem.run_pure]
  exact ⟨(Ext.refl w).alloc _, hf⟩
theorem wp_build_pc1 {ops : Array Oper} {Q : Exit → Act → World → Prop} {rest : List Oper} {o : Oper} {a : Act} {w : World} (hw : Region.wanted o (yielded ops a.tmps) = true) (x : Operand) (ho : o.op = .buildSlice 24 1 #[(0, x)])
    (p : Pc) (A : Array Value) (hA : pcV p = A) (hx : a.eval x = .agg A)
    (k : wpList Tryd.prog ops Q rest (a.put o.dst (.slice (some ⟨w.heap.size, 0, none⟩) 1 1)) (w.alloc (.cells A 37))) : wpList Tryd.prog ops Q (o :: rest) a w := by
  subst hA
  refine wpList_want hw fun K hK => ?_
  unfold Oper.wp execOp
  simp only [ho, List.map_toArray, List.map_cons, List.map_nil, hx, Sem.run_bind, build_pc1, Result.andThen_ok, Sem.run_pure]
  exact hK _ _ k

/-- A header of a writer's own, of 80 bytes. -/
def hdW (wr sq : Int) : Hd := { hdN with writer := wr, seq := sq, size := 80 }
set_option maxRecDepth 100000 in
theorem build_hdW (w : World) (wr sq : Int) : (Instr.build 34 #[(0, .int .i64 wr), (1, .int .u64 sq), (10, .int .i64 80)]).run Tryd.prog w = .ok (.agg (hdV (hdW wr sq))) w := by kernel_rfl
theorem wp_build_hdW {ops : Array Oper} {Q : Exit → Act → World → Prop} {rest : List Oper} {o : Oper} {a : Act} {w : World} (hw : Region.wanted o (yielded ops a.tmps) = true) (x y z : Operand) (ho : o.op = .build 34 #[(0, x), (1, y), (10, z)])
    (wr sq : Int) (hx : a.eval x = .int .i64 wr) (hy : a.eval y = .int .u64 sq) (hz : a.eval z = .int .i64 80) (A : Array Value) (hA : hdV (hdW wr sq) = A)
    (k : wpList Tryd.prog ops Q rest (a.put o.dst (.agg A)) w) : wpList Tryd.prog ops Q (o :: rest) a w := by
  subst hA
  refine wpList_want hw fun K hK => ?_
  unfold Oper.wp execOp
  simp only [ho, List.map_toArray, List.map_cons, List.map_nil, hx, hy, hz, Sem.run_bind, build_hdW, Result.andThen_ok, Sem.run_pure]
  exact hK _ _ k
theorem pcV_of (p : Pc) : pcV p = rowArr 126 (fun i => if i < 125 then hdC p.hd.1 i else .slice p.ba p.bd.length p.bc) := rfl
set_option maxRecDepth 100000 in
theorem build_pcW (w : World) (h : Hd) (a : Option Addr) (n c : Nat) : (Instr.build 37 #[(0, .agg (hdV h)), (1, .slice a n c)]).run Tryd.prog w = .ok (.agg (rowArr 126 (fun i => if i < 125 then hdC h i else .slice a n c))) w := by kernel_rfl
theorem wp_build_pcW {ops : Array Oper} {Q : Exit → Act → World → Prop} {rest : List Oper} {o : Oper} {a : Act} {w : World} (hw : Region.wanted o (yielded ops a.tmps) = true) (x y : Operand) (ho : o.op = .build 37 #[(0, x), (1, y)])
    (p : Pc) (H : Array Value) (hH : hdV p.hd.1 = H) (n : Nat) (hn : p.bd.length = n) (hx : a.eval x = .agg H) (hy : a.eval y = .slice p.ba n p.bc) (A : Array Value) (hA : pcV p = A)
    (k : wpList Tryd.prog ops Q rest (a.put o.dst (.agg A)) w) : wpList Tryd.prog ops Q (o :: rest) a w := by
  subst hA hH hn
  refine wpList_want hw fun K hK => ?_
  unfold Oper.wp execOp
  simp only [ho, List.map_toArray, List.map_cons, List.map_nil, hx, hy, Sem.run_bind, build_pcW, Result.andThen_ok, Sem.run_pure]
  exact hK _ _ k

/-- What a header must be to be formed, where it has no tokens. -/
theorem hdB_plain (h : Hd) (hw : 1 ≤ h.writer ∧ h.writer ≤ 6) (hs : 1 ≤ h.seq ∧ h.seq ≤ 1048576) (he : 0 ≤ h.epoch ∧ h.epoch ≤ 255) (ht : h.time ≤ 1099511627776) (hk : h.knows (h.writer - 1).toNat = h.seq - 1) (hkn : ∀ j, j < 6 → h.knows j ≤ 1048576)
    (hp : 1 < h.seq ∨ ∀ j, j < 32 → h.prev j = 0) (htn : h.tn = 0) (hsz : h.size = 80) (hc : h.ctl = false) : hdB h [] = true := by
  unfold hdB placedB numsB knB
  have h1 : (decide (1 ≤ h.writer ∧ h.writer ≤ 6 ∧ 1 ≤ h.seq ∧ h.seq ≤ 1048576 ∧ 0 ≤ h.epoch ∧ h.epoch ≤ 255 ∧ h.time ≤ 1099511627776 ∧ h.knows (h.writer - 1).toNat = h.seq - 1)) = true := decide_eq_true ⟨hw.1, hw.2, hs.1, hs.2, he.1, he.2, ht, hk⟩
  have h2 : ((List.range 6).all fun i => decide (h.knows i ≤ 1048576)) = true := by
    rw [List.all_eq_true]
    intro i hi
    exact decide_eq_true (hkn i (List.mem_range.1 hi))
  have h3 : (decide (1 < h.seq) || zeroB 32 h.prev) = true := by
    rcases hp with q | q
    · rw [decide_eq_true q]; rfl
    · unfold zeroB
      rw [decide_eq_true q, Bool.or_true]
  have h4 : isB (h.size - 16) = true := by rw [hsz]; decide
  rw [h1, h2, h3, h4, htn, hc]
  rfl
theorem arrB_self (n : Nat) (f : Nat → Int) : arrB n f f = true := by
  unfold arrB
  exact decide_eq_true (fun _ _ => rfl)

end Go.Proofs.YtihlpfdhallfpaaDoor
