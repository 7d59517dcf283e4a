/-
  The walks of jalousieref16.Few and Same. No conditions.
-/
import Derived.Test.YtppidlpblkihbaaDoorCtlQ
import Derived.Test.YtppidlpblkihbaaDoorLu
namespace Go.Proofs.YtppidlpblkihbaaDoor
open Go.ChangeShapes Go.WideShapes Go.ChangeAt Go.RowKit

def fewN (l : Nat → Nat) (k : Nat) : Bool := (List.range k).all fun i => decide (l i ≤ 200)
theorem fewN_succ (l : Nat → Nat) (k : Nat) : fewN l (k + 1) = (fewN l k && decide (l k ≤ 200)) := by
  unfold fewN
  rw [List.range_succ, List.all_append]
  simp
theorem fewN_bad (l : Nat → Nat) (k n : Nat) (hk : k < n) (h : ¬ l k ≤ 200) : fewN l n = false := by
  unfold fewN
  rw [List.all_eq_false]
  exact ⟨k, List.mem_range.2 hk, by simpa using h⟩
def fewB (l : Nat → Nat) (hl : Nat) : Bool := fewN l 6 && decide (hl ≤ 200)

set_option maxHeartbeats 1000000 in
set_option maxRecDepth 100000 in
theorem few16_any (op mem cut : Int) (A : Nat → Option Addr) (l C : Nat → Nat) (ha : Option Addr) (hl hc : Nat) (w : World) :
    Calls Tryd.prog 25 #[.agg (ctlV op mem cut (fun i => .slice (A i) (l i) (C i)) (.slice ha hl hc))] w fun e w' => e = .returned (.bool (fewB l hl)) ∧ Ext w w' := by
  obtain ⟨w2, hw2⟩ : ∃ w2, w.alloc (.cells (ctlV op mem cut (fun i => .slice (A i) (l i) (C i)) (.slice ha hl hc)) 45) = w2 := ⟨_, rfl⟩
  have hE2 : Ext w w2 := by rw [← hw2]; exact (Ext.refl w).alloc _
  have hB2 : w2.heap[w.heap.size]? = some (.cells (ctlV op mem cut (fun i => .slice (A i) (l i) (C i)) (.slice ha hl hc)) 45 (0, 0)) := by rw [← hw2]; exact heap_new w _ _ rfl
  have Hw2 := Lib.hid hw2
  have HE2 := Lib.hid hE2
  obtain ⟨g, hg⟩ : ∃ g, w.heap.size = g := ⟨_, rfl⟩
  rw [hg] at hB2
  obtain ⟨c0, c1, c2, c3, c9⟩ := ctl_cell hB2
  have Hg := Lib.hid hg
  have H3 := Lib.hid c3
  clear hw2 hE2 hB2 c3 hg
  go_enter Tryd.func25, Tryd.ntmps25
  go_upto_region 1 with (fail)
  refine wp_world (w' := w2) Hw2.out ?_
  rw [Hg.out]
  clear Hg Hw2
  go_wp2
  go_loopw [3] (fun i wr => ∃ k : Nat, k ≤ 6 ∧ i = .int .i64 (k : Int) ∧ fewN l k = true ∧ wr = w2) (fun i _ => 6 - (intOf i).toNat)
  case atStart => exact ⟨0, Nat.zero_le _, rfl, rfl, rfl⟩
  case round =>
    obtain ⟨k, hk, rfl, hok, rfl⟩ := hrel
    by_cases hlt : k < 6
    · have x1 : (k : Int) < 6 := by omega
      have ho := fewN_succ l k
      rw [hok, Bool.true_and] at ho
      have hc3 := H3.out k hlt
      by_cases h2 : l k ≤ 200
      · have x2 : ¬ 200 < ((l k : Nat) : Int) := by omega
        rw [decide_eq_true h2] at ho
        have Ho := Lib.hid ho
        clear ho hok
        go_wp2
        go_roundw
        case rel => exact ⟨k + 1, by omega, by go_num, Ho.out, by first | rfl | trivial⟩
        case measure => simp [intOf]; omega
      · have x2 : 200 < ((l k : Nat) : Int) := by omega
        have hbad : fewB l hl = false := by unfold fewB; rw [fewN_bad l k 6 hlt h2]; rfl
        have Hbad := Lib.hid hbad
        clear ho hok hbad
        go_wp2
        go_ret
        exact ⟨by rw [Hbad.out]; rfl, HE2.out⟩
    · obtain rfl : k = 6 := by omega
      have hb : fewB l hl = decide (hl ≤ 200) := by unfold fewB; rw [hok, Bool.true_and]
      have e1 : decide ((hl : Int) ≤ 200) = decide (hl ≤ 200) := by by_cases h : hl ≤ 200 <;> simp [h] <;> omega
      have Hb := Lib.hid hb
      have E1 := Lib.hid e1
      clear hb hok e1
      go_wp2
      go_ret
      refine ⟨?_, HE2.out⟩
      rw [Hb.out, ← E1.out]
      rfl

set_option maxHeartbeats 2000000 in
set_option maxRecDepth 100000 in
theorem same16_any (op mem cut : Int) (A A' : Nat → Option Addr) (l C l' C' : Nat → Nat) (ha ha' : Option Addr) (hl hc hl' hc' : Nat) (s : Nat → List Int) (hd : List Int) (w : World)
    (hs : ∀ i, i < 6 → BsAt w (A i) (l i) (C i) (s i)) (hh : BsAt w ha hl hc hd) (hs' : ∀ i, i < 6 → BsAt w (A' i) (l' i) (C' i) (s i)) (hh' : BsAt w ha' hl' hc' hd) :
    Calls Tryd.prog 28 #[.agg (ctlV op mem cut (fun i => .slice (A i) (l i) (C i)) (.slice ha hl hc)), .agg (ctlV op mem cut (fun i => .slice (A' i) (l' i) (C' i)) (.slice ha' hl' hc'))] w fun e w' => e = .returned (.bool true) ∧ Ext w w' := by
  obtain ⟨w2, hw2⟩ : ∃ w2, (w.alloc (.cells (ctlV op mem cut (fun i => .slice (A i) (l i) (C i)) (.slice ha hl hc)) 45)).alloc (.cells (ctlV op mem cut (fun i => .slice (A' i) (l' i) (C' i)) (.slice ha' hl' hc')) 45) = w2 := ⟨_, rfl⟩
  have hE2 : Ext w w2 := by rw [← hw2]; exact ((Ext.refl w).alloc _).alloc _
  have hB2 : w2.heap[w.heap.size]? = some (.cells (ctlV op mem cut (fun i => .slice (A i) (l i) (C i)) (.slice ha hl hc)) 45 (0, 0)) := by
    rw [← hw2]
    exact ((Ext.refl (w.alloc _)).alloc _).keep (heap_new w _ _ rfl)
  have hB2' : w2.heap[w.heap.size + 1]? = some (.cells (ctlV op mem cut (fun i => .slice (A' i) (l' i) (C' i)) (.slice ha' hl' hc')) 45 (0, 0)) := by rw [← hw2]; exact heap_new _ _ _ (by simp)
  have Hw2 := Lib.hid hw2
  have HE2 := Lib.hid hE2
  obtain ⟨g, hg⟩ : ∃ g, w.heap.size = g := ⟨_, rfl⟩
  rw [hg] at hB2 hB2'
  obtain ⟨g1, hg1⟩ : ∃ g1, g + 1 = g1 := ⟨_, rfl⟩
  rw [hg1] at hB2'
  have HB := Lib.hid hB2
  have HB' := Lib.hid hB2'
  have Hg := Lib.hid hg
  have Hg1 := Lib.hid hg1
  have Hs1 := Lib.hid hs
  have Hs2 := Lib.hid hs'
  have Hh1 := Lib.hid hh
  have Hh2 := Lib.hid hh'
  clear hw2 hE2 hB2 hB2' hg hg1 hs hs' hh hh'
  go_enter Tryd.func28, Tryd.ntmps28
  go_upto_region 1 with (fail)
  refine wp_world (w' := w2) Hw2.out ?_
  rw [Hg.out, Hg1.out]
  clear Hw2
  go_wp2
  go_loopw [5] (fun i wr => ∃ k : Nat, k ≤ 6 ∧ i = .int .i64 (k : Int) ∧ Ext w2 wr) (fun i _ => 6 - (intOf i).toNat)
  case atStart => exact ⟨0, Nat.zero_le _, rfl, Ext.refl _⟩
  case round =>
    obtain ⟨k, hk, rfl, hE⟩ := hrel
    have HE := Lib.hid hE
    clear hE
    by_cases hlt : k < 6
    · have x1 : (k : Int) < 6 := by omega
      have HX := Lib.hid (show ∀ x, Ext wr.drew x → Ext w2 x from fun x hx => HE.out.trans (Ext.trans (Ext.refl wr).drew hx))
      go_upto_region 4 with (fail)
      refine wp_region_lexA (by kernel_rfl) (by kernel_rfl) ?_
      refine lx_e (.int .i64 (k : Int)) [] (by kernel_rfl) rfl (by rfl) (fun w1 hw1 => ?_) ?_
      · simp only [pk, lexVals]
        go_simp
        exact ⟨Ext.refl _, rfl⟩
      refine lx_e (.pointer (some ⟨g, 3, none⟩)) [] (by kernel_rfl) rfl (by rfl) (fun w1 hw1 => ?_) ?_
      · simp only [pk, lexVals]
        go_simp
        exact ⟨Ext.refl _, rfl⟩
      refine lx_e (.pointer (some ⟨g, 3 + k, none⟩)) [(0, 11), (1, 10)] (by kernel_rfl) rfl (by rfl) (fun w1 hw1 => ?_) ?_
      · simp only [pk, nthSp, lexVals]
        go_simp
        exact ⟨Ext.refl _, rfl⟩
      refine lx_e (.slice (A k) (l k) (C k)) [(0, 12)] (by kernel_rfl) rfl (by rfl) (fun w1 hw1 => ?_) ?_
      · simp only [pk, nthSp, lexVals]
        have q := (ctl_cell ((HX.out w1 hw1).keep HB.out)).2.2.2.1 k hlt
        clear hw1
        go_simp
        exact ⟨Ext.refl _, rfl⟩
      refine lx_e (.string (strOf (s k))) [(0, 13)] (by kernel_rfl) rfl (by rfl) (fun w1 hw1 => ?_) ?_
      · simp only [pk, nthSp, lexVals]
        exact lu_str rfl rfl ((Hs1.out k hlt).ext (HE2.out.trans (HX.out w1 hw1)))
      refine lx_e (.int .i64 (k : Int)) [] (by kernel_rfl) rfl (by rfl) (fun w1 hw1 => ?_) ?_
      · simp only [pk, lexVals]
        go_simp
        exact ⟨Ext.refl _, rfl⟩
      refine lx_e (.pointer (some ⟨g1, 3, none⟩)) [] (by kernel_rfl) rfl (by rfl) (fun w1 hw1 => ?_) ?_
      · simp only [pk, lexVals]
        go_simp
        exact ⟨Ext.refl _, rfl⟩
      refine lx_e (.pointer (some ⟨g1, 3 + k, none⟩)) [(0, 16), (1, 15)] (by kernel_rfl) rfl (by rfl) (fun w1 hw1 => ?_) ?_
      · simp only [pk, nthSp, lexVals]
        go_simp
        exact ⟨Ext.refl _, rfl⟩
      refine lx_e (.slice (A' k) (l' k) (C' k)) [(0, 17)] (by kernel_rfl) rfl (by rfl) (fun w1 hw1 => ?_) ?_
      · simp only [pk, nthSp, lexVals]
        have q := (ctl_cell ((HX.out w1 hw1).keep HB'.out)).2.2.2.1 k hlt
        clear hw1
        go_simp
        exact ⟨Ext.refl _, rfl⟩
      refine lx_e (.string (strOf (s k))) [(0, 18)] (by kernel_rfl) rfl (by rfl) (fun w1 hw1 => ?_) ?_
      · simp only [pk, nthSp, lexVals]
        exact lu_str rfl rfl ((Hs2.out k hlt).ext (HE2.out.trans (HX.out w1 hw1)))
      refine lx_e (.bool false) [(5, 14), (0, 19)] (by kernel_rfl) rfl (by rfl) (fun w1 hw1 => ?_) ?_
      · simp only [pk, nthSp, lexVals]
        go_simp
        exact ⟨Ext.refl _, rfl⟩
      refine lx_stopA (by rfl) fun w5 hw5 => ?_
      have HE5 := Lib.hid (HX.out w5 hw5)
      clear hw5
      simp only [rv, pf, lexVals]
      simp only [Act.put, List.setIfInBounds_toArray, List.set_cons_zero, List.set_cons_succ]
      go_wp2
      go_roundw
      case rel => exact ⟨k + 1, by omega, by go_num, HE5.out⟩
      case measure => simp [intOf]; omega
    · obtain rfl : k = 6 := by omega
      obtain ⟨c0, c1, c2, _, c9⟩ := ctl_cell (HE.out.keep HB.out)
      obtain ⟨d0, d1, d2, _, d9⟩ := ctl_cell (HE.out.keep HB'.out)
      have HEw := Lib.hid (HE2.out.trans HE.out)
      have hh1 := Hh1.out.ext HEw.out
      have hh2 := Hh2.out.ext HEw.out
      have HH1 := Lib.hid hh1
      have HH2 := Lib.hid hh2
      clear hh1 hh2
      go_wp2_with (first | (refine conv_strW rfl (.tmp 42) rfl _ _ _ _ rfl HH1.out ?_) | (refine conv_strW rfl (.tmp 45) rfl _ _ _ _ rfl HH2.out ?_))
      go_ret
      exact ⟨rfl, HEw.out⟩

end Go.Proofs.YtppidlpblkihbaaDoor
