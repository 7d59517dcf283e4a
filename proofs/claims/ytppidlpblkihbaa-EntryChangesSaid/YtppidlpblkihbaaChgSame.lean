/-
  The walk of jalousieref12.SameChange of two changes that are the same. No conditions.
-/
import Derived.Test.YtppidlpblkihbaaChgQ
namespace Go.Proofs.Ytppidlpblkihbaa
open Go.ChangeShapes Go.WideShapes Go.ChangeAt Go.RowKit

set_option maxHeartbeats 2000000 in
set_option maxRecDepth 100000 in
theorem sameCh_any (op : Int) (name : ByteArray) (ta ta' : Option Addr) (tn tc tc' : Nat) (ss : List ByteArray) (value : ByteArray) (w : World) (h : SsAt w ta tn tc ss) (h' : SsAt w ta' tn tc' ss) :
    Calls Try.prog 14 #[.agg (chV op name (.slice ta tn tc) value), .agg (chV op name (.slice ta' tn tc') value)] w fun e w' => e = .returned (.bool true) ∧ Ext w w' := by
  obtain ⟨w2, hw2⟩ : ∃ w2, (w.alloc (.cells (chV op name (.slice ta tn tc) value) 24)).alloc (.cells (chV op name (.slice ta' tn tc') value) 24) = w2 := ⟨_, rfl⟩
  have hE2 : Ext w w2 := by rw [← hw2]; exact ((Ext.refl w).alloc _).alloc _
  have hB2 : w2.heap[w.heap.size]? = some (.cells (chV op name (.slice ta tn tc) value) 24 (0, 0)) := by
    rw [← hw2]
    exact ((Ext.refl (w.alloc _)).alloc _).keep (heap_new w _ _ rfl)
  have hB2' : w2.heap[w.heap.size + 1]? = some (.cells (chV op name (.slice ta' tn tc') value) 24 (0, 0)) := by rw [← hw2]; exact heap_new _ _ _ (by simp)
  have Hw2 := Lib.hid hw2
  have HE2 := Lib.hid hE2
  obtain ⟨g, hg⟩ : ∃ g, w.heap.size = g := ⟨_, rfl⟩
  rw [hg] at hB2 hB2'
  obtain ⟨g1, hg1⟩ : ∃ g1, g + 1 = g1 := ⟨_, rfl⟩
  rw [hg1] at hB2'
  have HB := Lib.hid hB2
  have HB' := Lib.hid hB2'
  have Hg := Lib.hid hg
  have Hg1 := Lib.hid hg1
  have H1 := Lib.hid (h.ext hE2)
  have H2 := Lib.hid (h'.ext hE2)
  have hsm := h.small
  obtain ⟨c0, c1, c2, c3⟩ := ch_cell hB2
  obtain ⟨d0, d1, d2, d3⟩ := ch_cell hB2'
  clear hw2 hE2 hB2 hB2' hg hg1 h h'
  go_enter Try.func14, Try.ntmps14
  go_upto_region 1 with (fail)
  refine wp_world (w' := w2) Hw2.out ?_
  rw [Hg.out, Hg1.out]
  clear Hw2
  go_wp2
  go_loopw [5] (fun i wr => ∃ k : Nat, k ≤ tn ∧ i = .int .i64 (k : Int) ∧ Ext w2 wr) (fun i _ => tn - (intOf i).toNat)
  case atStart => exact ⟨0, Nat.zero_le _, rfl, Ext.refl _⟩
  case round =>
    obtain ⟨k, hk, rfl, hE⟩ := hrel
    have HE := Lib.hid hE
    obtain ⟨c0, c1, c2, c3⟩ := ch_cell (hE.keep HB.out)
    obtain ⟨d0, d1, d2, d3⟩ := ch_cell (hE.keep HB'.out)
    clear hE
    by_cases hlt : k < tn
    · have x1 : (k : Int) < (tn : Int) := by omega
      have x2 : (0 : Int) ≤ (k : Int) := by omega
      obtain ⟨bt, offt, rfl, hc⟩ := H1.out.at_ (by omega)
      obtain ⟨bt', offt', rfl, hc'⟩ := H2.out.at_ (by omega)
      obtain ⟨S, hS⟩ : ∃ S, ss.getD k ByteArray.empty = S := ⟨_, rfl⟩
      have HCk := Lib.hid (show ∀ w', Ext w2 w' → w'.cell? ⟨bt, offt + k, none⟩ = some (.string S) from fun w' h' => by
        rw [Ext.cell h' (World.block_lt_of_cell? w2 _ (hc k hlt)), hc k hlt, hS])
      have HCk' := Lib.hid (show ∀ w', Ext w2 w' → w'.cell? ⟨bt', offt' + k, none⟩ = some (.string S) from fun w' h' => by
        rw [Ext.cell h' (World.block_lt_of_cell? w2 _ (hc' k hlt)), hc' k hlt, hS])
      have HX := Lib.hid (show ∀ x, Ext wr.drew x → Ext w2 x from fun x hx => HE.out.trans (Ext.trans (Ext.refl wr).drew hx))
      clear hc hc' hS
      go_upto_region 6 with (fail)
      clear c0 c1 c2 c3 d0 d1 d2 d3
      refine wp_region_lexA (by kernel_rfl) (by kernel_rfl) ?_
      refine lx_e (.pointer (some ⟨g, 2, none⟩)) [] (by kernel_rfl) rfl (by rfl) (fun w1 hw1 => ?_) ?_
      · simp only [pk, lexVals]
        go_simp
        exact ⟨Ext.refl _, rfl⟩
      refine lx_e (.slice (some ⟨bt, offt, none⟩) tn tc) [(0, 20)] (by kernel_rfl) rfl (by rfl) (fun w1 hw1 => ?_) ?_
      · simp only [pk, nthSp, lexVals]
        have q := (ch_cell ((HX.out w1 hw1).keep HB.out)).2.2.1
        clear hw1
        go_simp
        exact ⟨Ext.refl _, rfl⟩
      refine lx_e (.int .i64 (k : Int)) [] (by kernel_rfl) rfl (by rfl) (fun w1 hw1 => ?_) ?_
      · simp only [pk, lexVals]
        go_simp
        exact ⟨Ext.refl _, rfl⟩
      refine lx_e (.pointer (some ⟨bt, offt + k, none⟩)) [(1, 21), (0, 22)] (by kernel_rfl) rfl (by rfl) (fun w1 hw1 => ?_) ?_
      · simp only [pk, nthSp, lexVals]
        go_simp
        exact ⟨Ext.refl _, rfl⟩
      refine lx_e (.string S) [(0, 23)] (by kernel_rfl) rfl (by rfl) (fun w1 hw1 => ?_) ?_
      · simp only [pk, nthSp, lexVals]
        have q := HCk.out w1 (HX.out w1 hw1)
        clear hw1
        go_simp
        exact ⟨Ext.refl _, rfl⟩
      refine lx_e (.pointer (some ⟨g1, 2, none⟩)) [] (by kernel_rfl) rfl (by rfl) (fun w1 hw1 => ?_) ?_
      · simp only [pk, lexVals]
        go_simp
        exact ⟨Ext.refl _, rfl⟩
      refine lx_e (.slice (some ⟨bt', offt', none⟩) tn tc') [(0, 25)] (by kernel_rfl) rfl (by rfl) (fun w1 hw1 => ?_) ?_
      · simp only [pk, nthSp, lexVals]
        have q := (ch_cell ((HX.out w1 hw1).keep HB'.out)).2.2.1
        clear hw1
        go_simp
        exact ⟨Ext.refl _, rfl⟩
      refine lx_e (.int .i64 (k : Int)) [] (by kernel_rfl) rfl (by rfl) (fun w1 hw1 => ?_) ?_
      · simp only [pk, lexVals]
        go_simp
        exact ⟨Ext.refl _, rfl⟩
      refine lx_e (.pointer (some ⟨bt', offt' + k, none⟩)) [(1, 26), (0, 27)] (by kernel_rfl) rfl (by rfl) (fun w1 hw1 => ?_) ?_
      · simp only [pk, nthSp, lexVals]
        go_simp
        exact ⟨Ext.refl _, rfl⟩
      refine lx_e (.string S) [(0, 28)] (by kernel_rfl) rfl (by rfl) (fun w1 hw1 => ?_) ?_
      · simp only [pk, nthSp, lexVals]
        have q := HCk'.out w1 (HX.out w1 hw1)
        clear hw1
        go_simp
        exact ⟨Ext.refl _, rfl⟩
      refine lx_e (.bool false) [(5, 24), (0, 29)] (by kernel_rfl) rfl (by rfl) (fun w1 hw1 => ?_) ?_
      · simp only [pk, nthSp, lexVals]
        go_simp
        exact ⟨Ext.refl _, rfl⟩
      refine lx_stopA (by rfl) fun w5 hw5 => ?_
      have HE5 := Lib.hid (HX.out w5 hw5)
      clear hw5
      simp only [rv, pf, lexVals]
      simp only [Act.put, List.setIfInBounds_toArray, List.set_cons_zero, List.set_cons_succ]
      go_wp2
      go_roundw
      case rel => exact ⟨k + 1, by omega, by go_num, HE5.out⟩
      case measure => simp [intOf]; omega
    · obtain rfl : k = tn := by omega
      have x1 : ¬ (k : Int) < (k : Int) := by omega
      have HEw := Lib.hid (HE2.out.trans HE.out)
      go_wp2
      go_ret
      exact ⟨rfl, HEw.out⟩

end Go.Proofs.Ytppidlpblkihbaa
