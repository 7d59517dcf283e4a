/-
  The walk of jalousielaw18.ItemLater: it answers true. No conditions.
-/
import Derived.Test.YtegajjpfcjfadaaLater
namespace Go.Proofs.Ytegajjpfcjfadaa
open Go.ChangeShapes Go.WideShapes Go.ChangeAt Go.RowKit

theorem lu_row {P : Program} {w : World} {o : Oper} {ev : Operand → Value} {x : Operand} {T : TypeId} {g : Nat} {t : TypeId} {cs : Array Value} {fr : Nat × Nat} {d : TypeDesc} (ho : o.op = .load T x) (hx : ev x = .pointer (some ⟨g, 0, none⟩)) (hg : w.heap[g]? = some (.cells cs t fr))
    (hu : P.underlying T = some d) (hd : (match d with | .struct _ | .array _ _ => true | _ => false) = true) (hi : (P.info? T).map (·.size) = some cs.size) :
    lexUpon P w (.ex (.agg cs)) ((execOp ev o).run P w) := by
  simp only [execOp, ho, hx, Instr.loadAt, Instr.sureAddr, Sem.run_bind, Sem.run_pure, Result.andThen_ok, run_loadVar_row w g t T cs fr d hg hu hd hi]
  exact ⟨Ext.refl _, rfl⟩

/-- Three headers in three new blocks. -/
theorem three_boxes (w : World) (a b c : Array Value) (T : TypeId) : ∃ w3, ((w.alloc (.cells a T)).alloc (.cells b T)).alloc (.cells c T) = w3 ∧ Ext w w3 ∧
    w3.heap[w.heap.size]? = some (.cells a T (0, 0)) ∧ w3.heap[w.heap.size + 1]? = some (.cells b T (0, 0)) ∧ w3.heap[w.heap.size + 2]? = some (.cells c T (0, 0)) ∧ w.heap.size + 2 < w3.heap.size := by
  obtain ⟨w2, hw2, hE, _, _, h1, h2, h3⟩ := two_boxes w a b T
  have hs : w2.heap.size = w.heap.size + 2 := by rw [← hw2]; simp
  refine ⟨w2.alloc (.cells c T), by rw [hw2], hE.alloc _, ?_, ?_, heap_new w2 _ _ hs.symm, by simp; omega⟩
  · rw [Below.heap_alloc _ _ _ (by omega)]; exact h1
  · rw [Below.heap_alloc _ _ _ (by omega)]; exact h2

set_option maxHeartbeats 1000000 in
set_option maxRecDepth 100000 in
theorem lawLater_any (a b c : Array Value) (t1 n1 s1 t2 n2 s2 t3 n3 s3 : Int) (w : World) (ha : HdAt a t1 n1 s1) (hb : HdAt b t2 n2 s2) (hc : HdAt c t3 n3 s3) :
    Calls Try.prog 3 #[.agg a, .agg b, .agg c] w fun e w' => e = .returned (.bool true) ∧ Ext w w' := by
  obtain ⟨wB, hwB, hE, hg1, hg2, hg3, hg4⟩ := three_boxes w a b c 30
  have Hha := Lib.hid ha
  have Hhb := Lib.hid hb
  have Hhc := Lib.hid hc
  have HIa := Lib.hid (show (Try.prog.info? 30).map (·.size) = some a.size by rw [ha.size]; exact info_hd)
  have HIb := Lib.hid (show (Try.prog.info? 30).map (·.size) = some b.size by rw [hb.size]; exact info_hd)
  have HIc := Lib.hid (show (Try.prog.info? 30).map (·.size) = some c.size by rw [hc.size]; exact info_hd)
  have HE := Lib.hid hE
  have HwB := Lib.hid hwB
  obtain ⟨g, hg⟩ : ∃ g, w.heap.size = g := ⟨_, rfl⟩
  rw [hg] at hg1 hg2 hg3 hg4
  have Hg := Lib.hid hg
  have HGa := Lib.hid (show wB.drew.heap[g]? = _ from hg1)
  have HGb := Lib.hid (show wB.drew.heap[g + 1]? = _ from hg2)
  have HGc := Lib.hid (show wB.drew.heap[g + 1 + 1]? = _ from hg3)
  have hsa : g < wB.drew.heap.size := by show g < wB.heap.size; omega
  have hsb : g + 1 < wB.drew.heap.size := by show g + 1 < wB.heap.size; omega
  have hsc : g + 1 + 1 < wB.drew.heap.size := hg4
  obtain ⟨X, hX⟩ : ∃ X, laterB t1 n1 s1 t2 n2 s2 = X := ⟨_, rfl⟩
  obtain ⟨Y, hY⟩ : ∃ Y, laterB t2 n2 s2 t3 n3 s3 = Y := ⟨_, rfl⟩
  obtain ⟨Z, hZ⟩ : ∃ Z, laterB t1 n1 s1 t3 n3 s3 = Z := ⟨_, rfl⟩
  have HX := Lib.hid hX
  have HY := Lib.hid hY
  have HZ := Lib.hid hZ
  clear hE hwB ha hb hc hg1 hg2 hg3 hg4 hX hY hZ hg
  go_enter Try.func3, Try.ntmps3
  go_upto_region 1 with (fail)
  refine wp_world (w' := wB) HwB.out ?_
  rw [Hg.out]
  refine wp_region_lexA (by kernel_rfl) (by kernel_rfl) ?_
  refine lx_e (.agg a) [] (by kernel_rfl) rfl (by rfl) (fun w1 hw1 => ?_) ?_
  · simp only [pk, lexVals]
    exact lu_row rfl rfl ((hw1.block hsa).trans HGa.out) Try.underlying30 rfl HIa.out
  refine lx_e (.agg b) [] (by kernel_rfl) rfl (by rfl) (fun w1 hw1 => ?_) ?_
  · simp only [pk, lexVals]
    exact lu_row rfl rfl ((hw1.block hsb).trans HGb.out) Try.underlying30 rfl HIb.out
  refine lx_e (.bool X) [(1, 10), (0, 11)] (by kernel_rfl) rfl (by rfl) (fun w1 hw1 => ?_) ?_
  · simp only [pk, nthSp, lexVals]
    have hm := later_any a b _ _ _ _ _ _ w1 Hha.out Hhb.out
    rw [HX.out] at hm
    have HM := Lib.hid hm
    clear hm hw1
    go_simp
    refine HM.out.mono ?_
    rintro e w2 ⟨rfl, hE2⟩
    exact ⟨_, rfl, hE2, rfl⟩
  refine lx_e (.agg b) [] (by kernel_rfl) rfl (by rfl) (fun w1 hw1 => ?_) ?_
  · simp only [pk, lexVals]
    exact lu_row rfl rfl ((hw1.block hsb).trans HGb.out) Try.underlying30 rfl HIb.out
  refine lx_e (.agg c) [] (by kernel_rfl) rfl (by rfl) (fun w1 hw1 => ?_) ?_
  · simp only [pk, lexVals]
    exact lu_row rfl rfl ((hw1.block hsc).trans HGc.out) Try.underlying30 rfl HIc.out
  refine lx_e (.bool Y) [(1, 13), (0, 14)] (by kernel_rfl) rfl (by rfl) (fun w1 hw1 => ?_) ?_
  · simp only [pk, nthSp, lexVals]
    have hm := later_any b c _ _ _ _ _ _ w1 Hhb.out Hhc.out
    rw [HY.out] at hm
    have HM := Lib.hid hm
    clear hm hw1
    go_simp
    refine HM.out.mono ?_
    rintro e w2 ⟨rfl, hE2⟩
    exact ⟨_, rfl, hE2, rfl⟩
  refine lx_e (.agg a) [] (by kernel_rfl) rfl (by rfl) (fun w1 hw1 => ?_) ?_
  · simp only [pk, lexVals]
    exact lu_row rfl rfl ((hw1.block hsa).trans HGa.out) Try.underlying30 rfl HIa.out
  refine lx_e (.agg c) [] (by kernel_rfl) rfl (by rfl) (fun w1 hw1 => ?_) ?_
  · simp only [pk, lexVals]
    exact lu_row rfl rfl ((hw1.block hsc).trans HGc.out) Try.underlying30 rfl HIc.out
  refine lx_e (.bool Z) [(1, 16), (0, 17)] (by kernel_rfl) rfl (by rfl) (fun w1 hw1 => ?_) ?_
  · simp only [pk, nthSp, lexVals]
    have hm := later_any a c _ _ _ _ _ _ w1 Hha.out Hhc.out
    rw [HZ.out] at hm
    have HM := Lib.hid hm
    clear hm hw1
    go_simp
    refine HM.out.mono ?_
    rintro e w2 ⟨rfl, hE2⟩
    exact ⟨_, rfl, hE2, rfl⟩
  refine lx_e (.bool X) [(6, 12)] (by kernel_rfl) rfl (by rfl) (fun w1 hw1 => ?_) ?_
  · simp only [pk, nthSp, lexVals]
    go_simp
    exact ⟨Ext.refl _, rfl⟩
  refine lx_e (.bool Y) [(4, 15)] (by kernel_rfl) rfl (by rfl) (fun w1 hw1 => ?_) ?_
  · simp only [pk, nthSp, lexVals]
    go_simp
    exact ⟨Ext.refl _, rfl⟩
  refine lx_e (.bool Z) [(2, 18)] (by kernel_rfl) rfl (by rfl) (fun w1 hw1 => ?_) ?_
  · simp only [pk, nthSp, lexVals]
    go_simp
    exact ⟨Ext.refl _, rfl⟩
  refine lx_stopA (by rfl) fun w2 hw2 => ?_
  have HE2 := Lib.hid (HE.out.trans (Ext.trans (Ext.refl wB).drew hw2))
  have HGa2 := Lib.hid ((hw2.block hsa).trans HGa.out)
  have HGb2 := Lib.hid ((hw2.block hsb).trans HGb.out)
  have HGc2 := Lib.hid ((hw2.block hsc).trans HGc.out)
  have ga2 := Nat.lt_of_lt_of_le hsa (Below.size hw2)
  have gb2 := Nat.lt_of_lt_of_le hsb (Below.size hw2)
  have gc2 := Nat.lt_of_lt_of_le hsc (Below.size hw2)
  clear hw2 hsa hsb hsc HGa HGb HGc HE
  simp only [rv, pf, lexVals]
  simp only [Act.put, List.setIfInBounds_toArray, List.set_cons_zero, List.set_cons_succ]
  cases X with
  | true =>
    cases Y with
    | true =>
      obtain rfl : Z = true := by rw [← HZ.out]; exact laterB_trans HX.out HY.out
      go_wp2_with fail
      refine (awake18_any w2).mono ?_
      rintro e w3 ⟨rfl, hE⟩
      have HE3 := Lib.hid (HE2.out.trans hE)
      have HGa3 := Lib.hid ((hE.block ga2).trans HGa2.out)
      have HGb3 := Lib.hid ((hE.block gb2).trans HGb2.out)
      have HGc3 := Lib.hid ((hE.block gc2).trans HGc2.out)
      have ga3 := Nat.lt_of_lt_of_le ga2 (Below.size hE)
      have gb3 := Nat.lt_of_lt_of_le gb2 (Below.size hE)
      have gc3 := Nat.lt_of_lt_of_le gc2 (Below.size hE)
      clear hE
      go_wp2_with (first | (refine wpList_load_rowW rfl 30 (.tmp 3) rfl g rfl _ _ _ _ HGa3.out Try.underlying30 rfl HIa.out ?_) | (refine wpList_load_rowW rfl 30 (.tmp 4) rfl (g + 1) rfl _ _ _ _ HGb3.out Try.underlying30 rfl HIb.out ?_) | (refine wpList_load_rowW rfl 30 (.tmp 5) rfl (g + 1 + 1) rfl _ _ _ _ HGc3.out Try.underlying30 rfl HIc.out ?_))
      refine (refLater_any a b _ _ _ _ _ _ w3 Hha.out Hhb.out).mono ?_
      rintro e w4 ⟨rfl, hE⟩
      rw [HX.out]
      have HE4 := Lib.hid (HE3.out.trans hE)
      have HGa4 := Lib.hid ((hE.block ga3).trans HGa3.out)
      have HGb4 := Lib.hid ((hE.block gb3).trans HGb3.out)
      have HGc4 := Lib.hid ((hE.block gc3).trans HGc3.out)
      have ga4 := Nat.lt_of_lt_of_le ga3 (Below.size hE)
      have gb4 := Nat.lt_of_lt_of_le gb3 (Below.size hE)
      have gc4 := Nat.lt_of_lt_of_le gc3 (Below.size hE)
      clear hE
      go_wp2_with (first | (refine wpList_load_rowW rfl 30 (.tmp 3) rfl g rfl _ _ _ _ HGa4.out Try.underlying30 rfl HIa.out ?_) | (refine wpList_load_rowW rfl 30 (.tmp 4) rfl (g + 1) rfl _ _ _ _ HGb4.out Try.underlying30 rfl HIb.out ?_) | (refine wpList_load_rowW rfl 30 (.tmp 5) rfl (g + 1 + 1) rfl _ _ _ _ HGc4.out Try.underlying30 rfl HIc.out ?_))
      refine (refLater_any b c _ _ _ _ _ _ w4 Hhb.out Hhc.out).mono ?_
      rintro e w5 ⟨rfl, hE⟩
      rw [HY.out]
      have HE5 := Lib.hid (HE4.out.trans hE)
      have HGa5 := Lib.hid ((hE.block ga4).trans HGa4.out)
      have HGb5 := Lib.hid ((hE.block gb4).trans HGb4.out)
      have HGc5 := Lib.hid ((hE.block gc4).trans HGc4.out)
      have ga5 := Nat.lt_of_lt_of_le ga4 (Below.size hE)
      have gb5 := Nat.lt_of_lt_of_le gb4 (Below.size hE)
      have gc5 := Nat.lt_of_lt_of_le gc4 (Below.size hE)
      clear hE
      go_wp2_with (first | (refine wpList_load_rowW rfl 30 (.tmp 3) rfl g rfl _ _ _ _ HGa5.out Try.underlying30 rfl HIa.out ?_) | (refine wpList_load_rowW rfl 30 (.tmp 4) rfl (g + 1) rfl _ _ _ _ HGb5.out Try.underlying30 rfl HIb.out ?_) | (refine wpList_load_rowW rfl 30 (.tmp 5) rfl (g + 1 + 1) rfl _ _ _ _ HGc5.out Try.underlying30 rfl HIc.out ?_))
      refine (later_any b a _ _ _ _ _ _ w5 Hhb.out Hha.out).mono ?_
      rintro e w6 ⟨rfl, hE⟩
      rw [laterB_not HX.out]
      have HE6 := Lib.hid (HE5.out.trans hE)
      have HGa6 := Lib.hid ((hE.block ga5).trans HGa5.out)
      have HGb6 := Lib.hid ((hE.block gb5).trans HGb5.out)
      have HGc6 := Lib.hid ((hE.block gc5).trans HGc5.out)
      have ga6 := Nat.lt_of_lt_of_le ga5 (Below.size hE)
      have gb6 := Nat.lt_of_lt_of_le gb5 (Below.size hE)
      have gc6 := Nat.lt_of_lt_of_le gc5 (Below.size hE)
      clear hE
      go_wp2
      go_ret
      exact ⟨rfl, HE6.out⟩
    | false =>
      go_wp2_with fail
      refine (awake18_any w2).mono ?_
      rintro e w3 ⟨rfl, hE⟩
      have HE3 := Lib.hid (HE2.out.trans hE)
      have HGa3 := Lib.hid ((hE.block ga2).trans HGa2.out)
      have HGb3 := Lib.hid ((hE.block gb2).trans HGb2.out)
      have HGc3 := Lib.hid ((hE.block gc2).trans HGc2.out)
      have ga3 := Nat.lt_of_lt_of_le ga2 (Below.size hE)
      have gb3 := Nat.lt_of_lt_of_le gb2 (Below.size hE)
      have gc3 := Nat.lt_of_lt_of_le gc2 (Below.size hE)
      clear hE
      go_wp2_with (first | (refine wpList_load_rowW rfl 30 (.tmp 3) rfl g rfl _ _ _ _ HGa3.out Try.underlying30 rfl HIa.out ?_) | (refine wpList_load_rowW rfl 30 (.tmp 4) rfl (g + 1) rfl _ _ _ _ HGb3.out Try.underlying30 rfl HIb.out ?_) | (refine wpList_load_rowW rfl 30 (.tmp 5) rfl (g + 1 + 1) rfl _ _ _ _ HGc3.out Try.underlying30 rfl HIc.out ?_))
      refine (refLater_any a b _ _ _ _ _ _ w3 Hha.out Hhb.out).mono ?_
      rintro e w4 ⟨rfl, hE⟩
      rw [HX.out]
      have HE4 := Lib.hid (HE3.out.trans hE)
      have HGa4 := Lib.hid ((hE.block ga3).trans HGa3.out)
      have HGb4 := Lib.hid ((hE.block gb3).trans HGb3.out)
      have HGc4 := Lib.hid ((hE.block gc3).trans HGc3.out)
      have ga4 := Nat.lt_of_lt_of_le ga3 (Below.size hE)
      have gb4 := Nat.lt_of_lt_of_le gb3 (Below.size hE)
      have gc4 := Nat.lt_of_lt_of_le gc3 (Below.size hE)
      clear hE
      go_wp2_with (first | (refine wpList_load_rowW rfl 30 (.tmp 3) rfl g rfl _ _ _ _ HGa4.out Try.underlying30 rfl HIa.out ?_) | (refine wpList_load_rowW rfl 30 (.tmp 4) rfl (g + 1) rfl _ _ _ _ HGb4.out Try.underlying30 rfl HIb.out ?_) | (refine wpList_load_rowW rfl 30 (.tmp 5) rfl (g + 1 + 1) rfl _ _ _ _ HGc4.out Try.underlying30 rfl HIc.out ?_))
      refine (refLater_any b c _ _ _ _ _ _ w4 Hhb.out Hhc.out).mono ?_
      rintro e w5 ⟨rfl, hE⟩
      rw [HY.out]
      have HE5 := Lib.hid (HE4.out.trans hE)
      have HGa5 := Lib.hid ((hE.block ga4).trans HGa4.out)
      have HGb5 := Lib.hid ((hE.block gb4).trans HGb4.out)
      have HGc5 := Lib.hid ((hE.block gc4).trans HGc4.out)
      have ga5 := Nat.lt_of_lt_of_le ga4 (Below.size hE)
      have gb5 := Nat.lt_of_lt_of_le gb4 (Below.size hE)
      have gc5 := Nat.lt_of_lt_of_le gc4 (Below.size hE)
      clear hE
      go_wp2_with (first | (refine wpList_load_rowW rfl 30 (.tmp 3) rfl g rfl _ _ _ _ HGa5.out Try.underlying30 rfl HIa.out ?_) | (refine wpList_load_rowW rfl 30 (.tmp 4) rfl (g + 1) rfl _ _ _ _ HGb5.out Try.underlying30 rfl HIb.out ?_) | (refine wpList_load_rowW rfl 30 (.tmp 5) rfl (g + 1 + 1) rfl _ _ _ _ HGc5.out Try.underlying30 rfl HIc.out ?_))
      refine (later_any b a _ _ _ _ _ _ w5 Hhb.out Hha.out).mono ?_
      rintro e w6 ⟨rfl, hE⟩
      rw [laterB_not HX.out]
      have HE6 := Lib.hid (HE5.out.trans hE)
      have HGa6 := Lib.hid ((hE.block ga5).trans HGa5.out)
      have HGb6 := Lib.hid ((hE.block gb5).trans HGb5.out)
      have HGc6 := Lib.hid ((hE.block gc5).trans HGc5.out)
      have ga6 := Nat.lt_of_lt_of_le ga5 (Below.size hE)
      have gb6 := Nat.lt_of_lt_of_le gb5 (Below.size hE)
      have gc6 := Nat.lt_of_lt_of_le gc5 (Below.size hE)
      clear hE
      go_wp2
      go_ret
      exact ⟨rfl, HE6.out⟩
  | false =>
    cases Y with
    | true =>
      go_wp2_with fail
      refine (awake18_any w2).mono ?_
      rintro e w3 ⟨rfl, hE⟩
      have HE3 := Lib.hid (HE2.out.trans hE)
      have HGa3 := Lib.hid ((hE.block ga2).trans HGa2.out)
      have HGb3 := Lib.hid ((hE.block gb2).trans HGb2.out)
      have HGc3 := Lib.hid ((hE.block gc2).trans HGc2.out)
      have ga3 := Nat.lt_of_lt_of_le ga2 (Below.size hE)
      have gb3 := Nat.lt_of_lt_of_le gb2 (Below.size hE)
      have gc3 := Nat.lt_of_lt_of_le gc2 (Below.size hE)
      clear hE
      go_wp2_with (first | (refine wpList_load_rowW rfl 30 (.tmp 3) rfl g rfl _ _ _ _ HGa3.out Try.underlying30 rfl HIa.out ?_) | (refine wpList_load_rowW rfl 30 (.tmp 4) rfl (g + 1) rfl _ _ _ _ HGb3.out Try.underlying30 rfl HIb.out ?_) | (refine wpList_load_rowW rfl 30 (.tmp 5) rfl (g + 1 + 1) rfl _ _ _ _ HGc3.out Try.underlying30 rfl HIc.out ?_))
      refine (refLater_any a b _ _ _ _ _ _ w3 Hha.out Hhb.out).mono ?_
      rintro e w4 ⟨rfl, hE⟩
      rw [HX.out]
      have HE4 := Lib.hid (HE3.out.trans hE)
      have HGa4 := Lib.hid ((hE.block ga3).trans HGa3.out)
      have HGb4 := Lib.hid ((hE.block gb3).trans HGb3.out)
      have HGc4 := Lib.hid ((hE.block gc3).trans HGc3.out)
      have ga4 := Nat.lt_of_lt_of_le ga3 (Below.size hE)
      have gb4 := Nat.lt_of_lt_of_le gb3 (Below.size hE)
      have gc4 := Nat.lt_of_lt_of_le gc3 (Below.size hE)
      clear hE
      go_wp2_with (first | (refine wpList_load_rowW rfl 30 (.tmp 3) rfl g rfl _ _ _ _ HGa4.out Try.underlying30 rfl HIa.out ?_) | (refine wpList_load_rowW rfl 30 (.tmp 4) rfl (g + 1) rfl _ _ _ _ HGb4.out Try.underlying30 rfl HIb.out ?_) | (refine wpList_load_rowW rfl 30 (.tmp 5) rfl (g + 1 + 1) rfl _ _ _ _ HGc4.out Try.underlying30 rfl HIc.out ?_))
      refine (refLater_any b c _ _ _ _ _ _ w4 Hhb.out Hhc.out).mono ?_
      rintro e w5 ⟨rfl, hE⟩
      rw [HY.out]
      have HE5 := Lib.hid (HE4.out.trans hE)
      have HGa5 := Lib.hid ((hE.block ga4).trans HGa4.out)
      have HGb5 := Lib.hid ((hE.block gb4).trans HGb4.out)
      have HGc5 := Lib.hid ((hE.block gc4).trans HGc4.out)
      have ga5 := Nat.lt_of_lt_of_le ga4 (Below.size hE)
      have gb5 := Nat.lt_of_lt_of_le gb4 (Below.size hE)
      have gc5 := Nat.lt_of_lt_of_le gc4 (Below.size hE)
      clear hE
      go_wp2
      go_ret
      exact ⟨rfl, HE5.out⟩
    | false =>
      go_wp2_with fail
      refine (awake18_any w2).mono ?_
      rintro e w3 ⟨rfl, hE⟩
      have HE3 := Lib.hid (HE2.out.trans hE)
      have HGa3 := Lib.hid ((hE.block ga2).trans HGa2.out)
      have HGb3 := Lib.hid ((hE.block gb2).trans HGb2.out)
      have HGc3 := Lib.hid ((hE.block gc2).trans HGc2.out)
      have ga3 := Nat.lt_of_lt_of_le ga2 (Below.size hE)
      have gb3 := Nat.lt_of_lt_of_le gb2 (Below.size hE)
      have gc3 := Nat.lt_of_lt_of_le gc2 (Below.size hE)
      clear hE
      go_wp2_with (first | (refine wpList_load_rowW rfl 30 (.tmp 3) rfl g rfl _ _ _ _ HGa3.out Try.underlying30 rfl HIa.out ?_) | (refine wpList_load_rowW rfl 30 (.tmp 4) rfl (g + 1) rfl _ _ _ _ HGb3.out Try.underlying30 rfl HIb.out ?_) | (refine wpList_load_rowW rfl 30 (.tmp 5) rfl (g + 1 + 1) rfl _ _ _ _ HGc3.out Try.underlying30 rfl HIc.out ?_))
      refine (refLater_any a b _ _ _ _ _ _ w3 Hha.out Hhb.out).mono ?_
      rintro e w4 ⟨rfl, hE⟩
      rw [HX.out]
      have HE4 := Lib.hid (HE3.out.trans hE)
      have HGa4 := Lib.hid ((hE.block ga3).trans HGa3.out)
      have HGb4 := Lib.hid ((hE.block gb3).trans HGb3.out)
      have HGc4 := Lib.hid ((hE.block gc3).trans HGc3.out)
      have ga4 := Nat.lt_of_lt_of_le ga3 (Below.size hE)
      have gb4 := Nat.lt_of_lt_of_le gb3 (Below.size hE)
      have gc4 := Nat.lt_of_lt_of_le gc3 (Below.size hE)
      clear hE
      go_wp2_with (first | (refine wpList_load_rowW rfl 30 (.tmp 3) rfl g rfl _ _ _ _ HGa4.out Try.underlying30 rfl HIa.out ?_) | (refine wpList_load_rowW rfl 30 (.tmp 4) rfl (g + 1) rfl _ _ _ _ HGb4.out Try.underlying30 rfl HIb.out ?_) | (refine wpList_load_rowW rfl 30 (.tmp 5) rfl (g + 1 + 1) rfl _ _ _ _ HGc4.out Try.underlying30 rfl HIc.out ?_))
      refine (refLater_any b c _ _ _ _ _ _ w4 Hhb.out Hhc.out).mono ?_
      rintro e w5 ⟨rfl, hE⟩
      rw [HY.out]
      have HE5 := Lib.hid (HE4.out.trans hE)
      have HGa5 := Lib.hid ((hE.block ga4).trans HGa4.out)
      have HGb5 := Lib.hid ((hE.block gb4).trans HGb4.out)
      have HGc5 := Lib.hid ((hE.block gc4).trans HGc4.out)
      have ga5 := Nat.lt_of_lt_of_le ga4 (Below.size hE)
      have gb5 := Nat.lt_of_lt_of_le gb4 (Below.size hE)
      have gc5 := Nat.lt_of_lt_of_le gc4 (Below.size hE)
      clear hE
      go_wp2
      go_ret
      exact ⟨rfl, HE5.out⟩

end Go.Proofs.Ytegajjpfcjfadaa
