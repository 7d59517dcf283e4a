/-
  The walk of jalousieref16.Formed: it answers what control.Formed does. No conditions.
-/
import Derived.Test.YtppidlpblkihbaaDoorFormed
namespace Go.Proofs.YtppidlpblkihbaaDoor
open Go.ChangeShapes Go.WideShapes Go.ChangeAt Go.RowKit

/-- The bytes of the first k slots. -/
def sumN (l : Nat → Nat) : Nat → Nat
  | 0 => 0
  | k + 1 => sumN l k + l k
theorem sumN_le (l : Nat → Nat) : ∀ k, okB l k = true → sumN l k ≤ 48 * k
  | 0, _ => Nat.le_refl _
  | k + 1, h => by
    rw [okB_succ, Bool.and_eq_true] at h
    have h1 := sumN_le l k h.1
    have h2 : l k ≤ 48 := by
      have := h.2
      unfold slotB at this
      simp only [Bool.not_false, Bool.true_and, Bool.or_eq_true, decide_eq_true_eq] at this
      omega
    rw [sumN]
    omega
theorem sumN_pos (l : Nat → Nat) : ∀ k, posB l k = decide (0 < sumN l k)
  | 0 => rfl
  | k + 1 => by
    rw [posB_succ, sumN_pos l k, sumN, Bool.eq_iff_iff]
    simp only [Bool.or_eq_true, decide_eq_true_eq]
    omega

set_option maxHeartbeats 4000000 in
set_option maxRecDepth 100000 in
theorem refFormed_any (op mem cut : Int) (A : Nat → Option Addr) (l C : Nat → Nat) (ha : Option Addr) (hl hc : Nat) (w : World) (h0cut : 0 ≤ cut) :
    Calls Tryd.prog 23 #[.agg (ctlV op mem cut (fun i => .slice (A i) (l i) (C i)) (.slice ha hl hc))] w fun e w' => e = .returned (.bool (formedB op mem cut l hl)) ∧ Ext w w' := by
  obtain ⟨w2, hw2⟩ : ∃ w2, w.alloc (.cells (ctlV op mem cut (fun i => .slice (A i) (l i) (C i)) (.slice ha hl hc)) 45) = w2 := ⟨_, rfl⟩
  have hE2 : Ext w w2 := by rw [← hw2]; exact (Ext.refl w).alloc _
  have hB2 : w2.heap[w.heap.size]? = some (.cells (ctlV op mem cut (fun i => .slice (A i) (l i) (C i)) (.slice ha hl hc)) 45 (0, 0)) := by rw [← hw2]; exact heap_new w _ _ rfl
  have Hw2 := Lib.hid hw2
  have HE2 := Lib.hid hE2
  obtain ⟨g, hg⟩ : ∃ g, w.heap.size = g := ⟨_, rfl⟩
  rw [hg] at hB2
  obtain ⟨c0, c1, c2, c3, c9⟩ := ctl_cell hB2
  have Hg := Lib.hid hg
  have H3 := Lib.hid c3
  clear hw2 hE2 hB2 c3 hg
  go_enter Tryd.func23, Tryd.ntmps23
  go_upto_region 1 with (fail)
  refine wp_world (w' := w2) Hw2.out ?_
  rw [Hg.out]
  clear Hg Hw2
  go_wp2
  go_loopw [4, 3] (fun i v wr => ∃ k : Nat, k ≤ 6 ∧ i = .int .i64 (k : Int) ∧ v = .int .i64 (sumN l k : Int) ∧ okB l k = true ∧ wr = w2) (fun i _ _ => 6 - (intOf i).toNat)
  case atStart => exact ⟨0, Nat.zero_le _, rfl, rfl, rfl, rfl⟩
  case round =>
    obtain ⟨k, hk, rfl, rfl, hok, rfl⟩ := hrel
    have hle := sumN_le l k hok
    by_cases hlt : k < 6
    · have x1 : (k : Int) < 6 := by omega
      have ho := okB_succ l k
      rw [hok, Bool.true_and] at ho
      have hc3 := H3.out k hlt
      have hsum : sumN l (k + 1) = sumN l k + l k := rfl
      have Hs := Lib.hid hsum
      obtain ⟨S, hS⟩ : ∃ S, sumN l k = S := ⟨_, rfl⟩
      rw [hS] at Hs hle ⊢
      have Ho := Lib.hid ho
      clear ho hsum hS hok
      by_cases h0 : l k = 0
      · have x2 : ((l k : Nat) : Int) = 0 := by omega
        have X2 := Lib.hid h0
        rw [h0] at hc3 Hs
        clear h0 x2
        go_wp2
        go_roundw
        case rel => exact ⟨k + 1, by omega, by go_num, by rw [Hs.out]; go_num, by rw [Ho.out]; unfold slotB; rw [X2.out]; rfl, by first | rfl | trivial⟩
        case measure => simp [intOf]; omega
      · by_cases h48 : l k = 48
        · have X2 := Lib.hid h48
          rw [h48] at hc3 Hs
          clear h0 h48
          go_wp2
          go_roundw
          case rel => exact ⟨k + 1, by omega, by go_num, by rw [Hs.out]; go_num, by rw [Ho.out]; unfold slotB; rw [X2.out]; rfl, by first | rfl | trivial⟩
          case measure => simp [intOf]; omega
        · have hbad : formedB op mem cut l hl = false := by unfold formedB; rw [okB_bad l k 6 hlt (by simp [slotB, h0, h48])]; rfl
          have Hbad := Lib.hid hbad
          have x2 : ¬ ((l k : Nat) : Int) = 0 := by omega
          have x3 : ¬ ((l k : Nat) : Int) = 48 := by omega
          have x4 : (((l k : Nat) : Int) != 0) = true := by simpa using x2
          have x5 : (((l k : Nat) : Int) != 48) = true := by simpa using x3
          clear hbad h0 h48
          go_wp2
          go_ret
          exact ⟨by rw [Hbad.out]; rfl, HE2.out⟩
    · obtain rfl : k = 6 := by omega
      have hform : formedB op mem cut l hl = (if op = 1 ∨ op = 4 then decide (mem = 0 ∧ cut = 0 ∧ posB l 6 = true ∧ hl = 0)
          else if op = 2 then decide (1 ≤ mem ∧ mem ≤ 6 ∧ cut = 0 ∧ posB l 6 = true ∧ hl = 0)
          else if op = 3 then decide (1 ≤ mem ∧ mem ≤ 6 ∧ cut ≤ 1048576 ∧ posB l 6 = true ∧ hl = 0)
          else if op = 5 then decide (1 ≤ mem ∧ mem ≤ 6 ∧ cut = 0 ∧ posB l 6 = false ∧ hl = 48)
          else false) := by unfold formedB; rw [hok, Bool.true_and]
      have hp := sumN_pos l 6
      obtain ⟨S, hS⟩ : ∃ S, sumN l 6 = S := ⟨_, rfl⟩
      rw [hS] at hp hle ⊢
      rw [hp] at hform
      have Hform := Lib.hid hform
      clear hform hok H3 hp hS
      by_cases hlo : op < 1
      · have n2 : ¬ op = 2 := by omega
        have n3 : ¬ op = 3 := by omega
        have n5 : ¬ op = 5 := by omega
        have hf : formedB op mem cut l hl = false := by
          rw [Hform.out, if_neg (by omega), if_neg (by omega), if_neg (by omega), if_neg (by omega)]
        have HF := Lib.hid hf
        clear hf Hform
        go_wp2_with fail
        go_ret
        refine ⟨?_, HE2.out⟩
        rw [HF.out]
        first | rfl | (show Ending.returned (Value.bool ((hl : Int) == 0)) = _; rw [XH.out]) | (show Ending.returned (Value.bool (cut == 0)) = _; rw [XC.out])
      · have xlo : 1 ≤ op := by omega
        by_cases h1 : op = 1
        · subst h1
          by_cases hm0 : mem = 0
          · subst hm0
            by_cases hS0 : S = 0
            · subst hS0
              have hf : formedB 1 0 cut l hl = false := by
                rw [Hform.out, if_pos (Or.inl rfl)]; exact decide_eq_false (by rintro ⟨q1, q2, q3, q4⟩; simp only [decide_eq_true_eq, decide_eq_false_iff_not] at *; omega)
              have HF := Lib.hid hf
              clear hf Hform
              go_wp2_with fail
              go_ret
              refine ⟨?_, HE2.out⟩
              rw [HF.out]
              first | rfl | (show Ending.returned (Value.bool ((hl : Int) == 0)) = _; rw [XH.out]) | (show Ending.returned (Value.bool (cut == 0)) = _; rw [XC.out])
            · have xs0 : ¬ (S : Int) = 0 := by omega
              have xs1 : 0 < (S : Int) := by omega
              have xs2 : 0 < S := by omega
              by_cases hh : hl = 0
              · subst hh
                by_cases hc0 : cut = 0
                · subst hc0
                  have hf : formedB 1 0 0 l 0 = true := by
                    rw [Hform.out, if_pos (Or.inl rfl)]; exact decide_eq_true ⟨by omega, by omega, decide_eq_true (by omega), by omega⟩
                  have HF := Lib.hid hf
                  clear hf Hform
                  go_wp2_with fail
                  go_ret
                  refine ⟨?_, HE2.out⟩
                  rw [HF.out]
                  first | rfl | (show Ending.returned (Value.bool ((hl : Int) == 0)) = _; rw [XH.out]) | (show Ending.returned (Value.bool (cut == 0)) = _; rw [XC.out])
                · have XC := Lib.hid (show (cut == 0) = false by simpa using hc0)
                  have hf : formedB 1 0 cut l 0 = false := by
                    rw [Hform.out, if_pos (Or.inl rfl)]; exact decide_eq_false (by rintro ⟨q1, q2, q3, q4⟩; simp only [decide_eq_true_eq, decide_eq_false_iff_not] at *; omega)
                  have HF := Lib.hid hf
                  clear hf Hform
                  go_wp2_with fail
                  go_ret
                  refine ⟨?_, HE2.out⟩
                  rw [HF.out]
                  first | rfl | (show Ending.returned (Value.bool ((hl : Int) == 0)) = _; rw [XH.out]) | (show Ending.returned (Value.bool (cut == 0)) = _; rw [XC.out])
              · have xh : ¬ (hl : Int) = 0 := by omega
                have XH := Lib.hid (show ((hl : Int) == 0) = false by simpa using xh)
                have hf : formedB 1 0 cut l hl = false := by
                  rw [Hform.out, if_pos (Or.inl rfl)]; exact decide_eq_false (by rintro ⟨q1, q2, q3, q4⟩; simp only [decide_eq_true_eq, decide_eq_false_iff_not] at *; omega)
                have HF := Lib.hid hf
                clear hf Hform
                go_wp2_with fail
                go_ret
                refine ⟨?_, HE2.out⟩
                rw [HF.out]
                first | rfl | (show Ending.returned (Value.bool ((hl : Int) == 0)) = _; rw [XH.out]) | (show Ending.returned (Value.bool (cut == 0)) = _; rw [XC.out])
          · skip
            have hf : formedB 1 mem cut l hl = false := by
              rw [Hform.out, if_pos (Or.inl rfl)]; exact decide_eq_false (by rintro ⟨q1, q2, q3, q4⟩; simp only [decide_eq_true_eq, decide_eq_false_iff_not] at *; omega)
            have HF := Lib.hid hf
            clear hf Hform
            go_wp2_with fail
            go_ret
            refine ⟨?_, HE2.out⟩
            rw [HF.out]
            first | rfl | (show Ending.returned (Value.bool ((hl : Int) == 0)) = _; rw [XH.out]) | (show Ending.returned (Value.bool (cut == 0)) = _; rw [XC.out])
        · skip
          by_cases h4 : op = 4
          · subst h4
            by_cases hm0 : mem = 0
            · subst hm0
              by_cases hS0 : S = 0
              · subst hS0
                have hf : formedB 4 0 cut l hl = false := by
                  rw [Hform.out, if_pos (Or.inr rfl)]; exact decide_eq_false (by rintro ⟨q1, q2, q3, q4⟩; simp only [decide_eq_true_eq, decide_eq_false_iff_not] at *; omega)
                have HF := Lib.hid hf
                clear hf Hform
                go_wp2_with fail
                go_ret
                refine ⟨?_, HE2.out⟩
                rw [HF.out]
                first | rfl | (show Ending.returned (Value.bool ((hl : Int) == 0)) = _; rw [XH.out]) | (show Ending.returned (Value.bool (cut == 0)) = _; rw [XC.out])
              · have xs0 : ¬ (S : Int) = 0 := by omega
                have xs1 : 0 < (S : Int) := by omega
                have xs2 : 0 < S := by omega
                by_cases hh : hl = 0
                · subst hh
                  by_cases hc0 : cut = 0
                  · subst hc0
                    have hf : formedB 4 0 0 l 0 = true := by
                      rw [Hform.out, if_pos (Or.inr rfl)]; exact decide_eq_true ⟨by omega, by omega, decide_eq_true (by omega), by omega⟩
                    have HF := Lib.hid hf
                    clear hf Hform
                    go_wp2_with fail
                    go_ret
                    refine ⟨?_, HE2.out⟩
                    rw [HF.out]
                    first | rfl | (show Ending.returned (Value.bool ((hl : Int) == 0)) = _; rw [XH.out]) | (show Ending.returned (Value.bool (cut == 0)) = _; rw [XC.out])
                  · have XC := Lib.hid (show (cut == 0) = false by simpa using hc0)
                    have hf : formedB 4 0 cut l 0 = false := by
                      rw [Hform.out, if_pos (Or.inr rfl)]; exact decide_eq_false (by rintro ⟨q1, q2, q3, q4⟩; simp only [decide_eq_true_eq, decide_eq_false_iff_not] at *; omega)
                    have HF := Lib.hid hf
                    clear hf Hform
                    go_wp2_with fail
                    go_ret
                    refine ⟨?_, HE2.out⟩
                    rw [HF.out]
                    first | rfl | (show Ending.returned (Value.bool ((hl : Int) == 0)) = _; rw [XH.out]) | (show Ending.returned (Value.bool (cut == 0)) = _; rw [XC.out])
                · have xh : ¬ (hl : Int) = 0 := by omega
                  have XH := Lib.hid (show ((hl : Int) == 0) = false by simpa using xh)
                  have hf : formedB 4 0 cut l hl = false := by
                    rw [Hform.out, if_pos (Or.inr rfl)]; exact decide_eq_false (by rintro ⟨q1, q2, q3, q4⟩; simp only [decide_eq_true_eq, decide_eq_false_iff_not] at *; omega)
                  have HF := Lib.hid hf
                  clear hf Hform
                  go_wp2_with fail
                  go_ret
                  refine ⟨?_, HE2.out⟩
                  rw [HF.out]
                  first | rfl | (show Ending.returned (Value.bool ((hl : Int) == 0)) = _; rw [XH.out]) | (show Ending.returned (Value.bool (cut == 0)) = _; rw [XC.out])
            · skip
              have hf : formedB 4 mem cut l hl = false := by
                rw [Hform.out, if_pos (Or.inr rfl)]; exact decide_eq_false (by rintro ⟨q1, q2, q3, q4⟩; simp only [decide_eq_true_eq, decide_eq_false_iff_not] at *; omega)
              have HF := Lib.hid hf
              clear hf Hform
              go_wp2_with fail
              go_ret
              refine ⟨?_, HE2.out⟩
              rw [HF.out]
              first | rfl | (show Ending.returned (Value.bool ((hl : Int) == 0)) = _; rw [XH.out]) | (show Ending.returned (Value.bool (cut == 0)) = _; rw [XC.out])
          · skip
            by_cases h2 : op = 2
            · subst h2
              by_cases hm1 : mem < 1
              · skip
                have hf : formedB 2 mem cut l hl = false := by
                  rw [Hform.out, if_neg (by omega), if_pos rfl]; exact decide_eq_false (by rintro ⟨q1, q2, q3, q4⟩; simp only [decide_eq_true_eq, decide_eq_false_iff_not] at *; omega)
                have HF := Lib.hid hf
                clear hf Hform
                go_wp2_with fail
                go_ret
                refine ⟨?_, HE2.out⟩
                rw [HF.out]
                first | rfl | (show Ending.returned (Value.bool ((hl : Int) == 0)) = _; rw [XH.out]) | (show Ending.returned (Value.bool (cut == 0)) = _; rw [XC.out])
              · have xm1 : 1 ≤ mem := by omega
                by_cases hm6 : 6 < mem
                · skip
                  have hf : formedB 2 mem cut l hl = false := by
                    rw [Hform.out, if_neg (by omega), if_pos rfl]; exact decide_eq_false (by rintro ⟨q1, q2, q3, q4⟩; simp only [decide_eq_true_eq, decide_eq_false_iff_not] at *; omega)
                  have HF := Lib.hid hf
                  clear hf Hform
                  go_wp2_with fail
                  go_ret
                  refine ⟨?_, HE2.out⟩
                  rw [HF.out]
                  first | rfl | (show Ending.returned (Value.bool ((hl : Int) == 0)) = _; rw [XH.out]) | (show Ending.returned (Value.bool (cut == 0)) = _; rw [XC.out])
                · have xm6 : mem ≤ 6 := by omega
                  have hm0 : ¬ mem = 0 := by omega
                  by_cases hS0 : S = 0
                  · subst hS0
                    have hf : formedB 2 mem cut l hl = false := by
                      rw [Hform.out, if_neg (by omega), if_pos rfl]; exact decide_eq_false (by rintro ⟨q1, q2, q3, q4⟩; simp only [decide_eq_true_eq, decide_eq_false_iff_not] at *; omega)
                    have HF := Lib.hid hf
                    clear hf Hform
                    go_wp2_with fail
                    go_ret
                    refine ⟨?_, HE2.out⟩
                    rw [HF.out]
                    first | rfl | (show Ending.returned (Value.bool ((hl : Int) == 0)) = _; rw [XH.out]) | (show Ending.returned (Value.bool (cut == 0)) = _; rw [XC.out])
                  · have xs0 : ¬ (S : Int) = 0 := by omega
                    have xs1 : 0 < (S : Int) := by omega
                    have xs2 : 0 < S := by omega
                    by_cases hh : hl = 0
                    · subst hh
                      by_cases hc0 : cut = 0
                      · subst hc0
                        have hf : formedB 2 mem 0 l 0 = true := by
                          rw [Hform.out, if_neg (by omega), if_pos rfl]; exact decide_eq_true ⟨by omega, by omega, by omega, decide_eq_true (by omega), by omega⟩
                        have HF := Lib.hid hf
                        clear hf Hform
                        go_wp2_with fail
                        go_ret
                        refine ⟨?_, HE2.out⟩
                        rw [HF.out]
                        first | rfl | (show Ending.returned (Value.bool ((hl : Int) == 0)) = _; rw [XH.out]) | (show Ending.returned (Value.bool (cut == 0)) = _; rw [XC.out])
                      · have XC := Lib.hid (show (cut == 0) = false by simpa using hc0)
                        have hf : formedB 2 mem cut l 0 = false := by
                          rw [Hform.out, if_neg (by omega), if_pos rfl]; exact decide_eq_false (by rintro ⟨q1, q2, q3, q4⟩; simp only [decide_eq_true_eq, decide_eq_false_iff_not] at *; omega)
                        have HF := Lib.hid hf
                        clear hf Hform
                        go_wp2_with fail
                        go_ret
                        refine ⟨?_, HE2.out⟩
                        rw [HF.out]
                        first | rfl | (show Ending.returned (Value.bool ((hl : Int) == 0)) = _; rw [XH.out]) | (show Ending.returned (Value.bool (cut == 0)) = _; rw [XC.out])
                    · have xh : ¬ (hl : Int) = 0 := by omega
                      have XH := Lib.hid (show ((hl : Int) == 0) = false by simpa using xh)
                      have hf : formedB 2 mem cut l hl = false := by
                        rw [Hform.out, if_neg (by omega), if_pos rfl]; exact decide_eq_false (by rintro ⟨q1, q2, q3, q4⟩; simp only [decide_eq_true_eq, decide_eq_false_iff_not] at *; omega)
                      have HF := Lib.hid hf
                      clear hf Hform
                      go_wp2_with fail
                      go_ret
                      refine ⟨?_, HE2.out⟩
                      rw [HF.out]
                      first | rfl | (show Ending.returned (Value.bool ((hl : Int) == 0)) = _; rw [XH.out]) | (show Ending.returned (Value.bool (cut == 0)) = _; rw [XC.out])
            · skip
              by_cases h3 : op = 3
              · subst h3
                by_cases hm1 : mem < 1
                · skip
                  have hf : formedB 3 mem cut l hl = false := by
                    rw [Hform.out, if_neg (by omega), if_neg (by omega), if_pos rfl]; exact decide_eq_false (by rintro ⟨q1, q2, q3, q4⟩; simp only [decide_eq_true_eq, decide_eq_false_iff_not] at *; omega)
                  have HF := Lib.hid hf
                  clear hf Hform
                  go_wp2_with fail
                  go_ret
                  refine ⟨?_, HE2.out⟩
                  rw [HF.out]
                  first | rfl | (show Ending.returned (Value.bool ((hl : Int) == 0)) = _; rw [XH.out]) | (show Ending.returned (Value.bool (cut == 0)) = _; rw [XC.out])
                · have xm1 : 1 ≤ mem := by omega
                  by_cases hm6 : 6 < mem
                  · skip
                    have hf : formedB 3 mem cut l hl = false := by
                      rw [Hform.out, if_neg (by omega), if_neg (by omega), if_pos rfl]; exact decide_eq_false (by rintro ⟨q1, q2, q3, q4⟩; simp only [decide_eq_true_eq, decide_eq_false_iff_not] at *; omega)
                    have HF := Lib.hid hf
                    clear hf Hform
                    go_wp2_with fail
                    go_ret
                    refine ⟨?_, HE2.out⟩
                    rw [HF.out]
                    first | rfl | (show Ending.returned (Value.bool ((hl : Int) == 0)) = _; rw [XH.out]) | (show Ending.returned (Value.bool (cut == 0)) = _; rw [XC.out])
                  · have xm6 : mem ≤ 6 := by omega
                    have hm0 : ¬ mem = 0 := by omega
                    by_cases hS0 : S = 0
                    · subst hS0
                      have hf : formedB 3 mem cut l hl = false := by
                        rw [Hform.out, if_neg (by omega), if_neg (by omega), if_pos rfl]; exact decide_eq_false (by rintro ⟨q1, q2, q3, q4⟩; simp only [decide_eq_true_eq, decide_eq_false_iff_not] at *; omega)
                      have HF := Lib.hid hf
                      clear hf Hform
                      go_wp2_with fail
                      go_ret
                      refine ⟨?_, HE2.out⟩
                      rw [HF.out]
                      first | rfl | (show Ending.returned (Value.bool ((hl : Int) == 0)) = _; rw [XH.out]) | (show Ending.returned (Value.bool (cut == 0)) = _; rw [XC.out])
                    · have xs0 : ¬ (S : Int) = 0 := by omega
                      have xs1 : 0 < (S : Int) := by omega
                      have xs2 : 0 < S := by omega
                      by_cases hh : hl = 0
                      · subst hh
                        by_cases hc0 : cut = 0
                        · subst hc0
                          have hf : formedB 3 mem 0 l 0 = true := by
                            rw [Hform.out, if_neg (by omega), if_neg (by omega), if_pos rfl]; exact decide_eq_true ⟨by omega, by omega, by omega, decide_eq_true (by omega), by omega⟩
                          have HF := Lib.hid hf
                          clear hf Hform
                          go_wp2_with fail
                          go_ret
                          refine ⟨?_, HE2.out⟩
                          rw [HF.out]
                          first | rfl | (show Ending.returned (Value.bool ((hl : Int) == 0)) = _; rw [XH.out]) | (show Ending.returned (Value.bool (cut == 0)) = _; rw [XC.out])
                        · have XC := Lib.hid (show (cut == 0) = false by simpa using hc0)
                          by_cases hc3 : cut ≤ 1048576
                          · skip
                            have hf : formedB 3 mem cut l 0 = true := by
                              rw [Hform.out, if_neg (by omega), if_neg (by omega), if_pos rfl]; exact decide_eq_true ⟨by omega, by omega, by omega, decide_eq_true (by omega), by omega⟩
                            have HF := Lib.hid hf
                            clear hf Hform
                            go_wp2_with fail
                            go_ret
                            refine ⟨?_, HE2.out⟩
                            rw [HF.out]
                            first | rfl | (show Ending.returned (Value.bool ((hl : Int) == 0)) = _; rw [XH.out]) | (show Ending.returned (Value.bool (cut == 0)) = _; rw [XC.out])
                          · have xc : 1048576 < cut := by omega
                            have hf : formedB 3 mem cut l 0 = false := by
                              rw [Hform.out, if_neg (by omega), if_neg (by omega), if_pos rfl]; exact decide_eq_false (by rintro ⟨q1, q2, q3, q4⟩; simp only [decide_eq_true_eq, decide_eq_false_iff_not] at *; omega)
                            have HF := Lib.hid hf
                            clear hf Hform
                            go_wp2_with fail
                            go_ret
                            refine ⟨?_, HE2.out⟩
                            rw [HF.out]
                            first | rfl | (show Ending.returned (Value.bool ((hl : Int) == 0)) = _; rw [XH.out]) | (show Ending.returned (Value.bool (cut == 0)) = _; rw [XC.out])
                      · have xh : ¬ (hl : Int) = 0 := by omega
                        have XH := Lib.hid (show ((hl : Int) == 0) = false by simpa using xh)
                        have hf : formedB 3 mem cut l hl = false := by
                          rw [Hform.out, if_neg (by omega), if_neg (by omega), if_pos rfl]; exact decide_eq_false (by rintro ⟨q1, q2, q3, q4⟩; simp only [decide_eq_true_eq, decide_eq_false_iff_not] at *; omega)
                        have HF := Lib.hid hf
                        clear hf Hform
                        go_wp2_with fail
                        go_ret
                        refine ⟨?_, HE2.out⟩
                        rw [HF.out]
                        first | rfl | (show Ending.returned (Value.bool ((hl : Int) == 0)) = _; rw [XH.out]) | (show Ending.returned (Value.bool (cut == 0)) = _; rw [XC.out])
              · skip
                by_cases h5 : op = 5
                · subst h5
                  by_cases hm1 : mem < 1
                  · skip
                    have hf : formedB 5 mem cut l hl = false := by
                      rw [Hform.out, if_neg (by omega), if_neg (by omega), if_neg (by omega), if_pos rfl]; exact decide_eq_false (by rintro ⟨q1, q2, q3, q4⟩; simp only [decide_eq_true_eq, decide_eq_false_iff_not] at *; omega)
                    have HF := Lib.hid hf
                    clear hf Hform
                    go_wp2_with fail
                    go_ret
                    refine ⟨?_, HE2.out⟩
                    rw [HF.out]
                    first | rfl | (show Ending.returned (Value.bool ((hl : Int) == 0)) = _; rw [XH.out]) | (show Ending.returned (Value.bool (cut == 0)) = _; rw [XC.out])
                  · have xm1 : 1 ≤ mem := by omega
                    by_cases hm6 : 6 < mem
                    · skip
                      have hf : formedB 5 mem cut l hl = false := by
                        rw [Hform.out, if_neg (by omega), if_neg (by omega), if_neg (by omega), if_pos rfl]; exact decide_eq_false (by rintro ⟨q1, q2, q3, q4⟩; simp only [decide_eq_true_eq, decide_eq_false_iff_not] at *; omega)
                      have HF := Lib.hid hf
                      clear hf Hform
                      go_wp2_with fail
                      go_ret
                      refine ⟨?_, HE2.out⟩
                      rw [HF.out]
                      first | rfl | (show Ending.returned (Value.bool ((hl : Int) == 0)) = _; rw [XH.out]) | (show Ending.returned (Value.bool (cut == 0)) = _; rw [XC.out])
                    · have xm6 : mem ≤ 6 := by omega
                      have hm0 : ¬ mem = 0 := by omega
                      by_cases hS0 : S = 0
                      · subst hS0
                        by_cases hh : hl = 48
                        · subst hh
                          by_cases hc0 : cut = 0
                          · subst hc0
                            have hf : formedB 5 mem 0 l 48 = true := by
                              rw [Hform.out, if_neg (by omega), if_neg (by omega), if_neg (by omega), if_pos rfl]; exact decide_eq_true ⟨by omega, by omega, by omega, decide_eq_false (by omega), by omega⟩
                            have HF := Lib.hid hf
                            clear hf Hform
                            go_wp2_with fail
                            go_ret
                            refine ⟨?_, HE2.out⟩
                            rw [HF.out]
                            first | rfl | (show Ending.returned (Value.bool ((hl : Int) == 0)) = _; rw [XH.out]) | (show Ending.returned (Value.bool (cut == 0)) = _; rw [XC.out])
                          · have XC := Lib.hid (show (cut == 0) = false by simpa using hc0)
                            have hf : formedB 5 mem cut l 48 = false := by
                              rw [Hform.out, if_neg (by omega), if_neg (by omega), if_neg (by omega), if_pos rfl]; exact decide_eq_false (by rintro ⟨q1, q2, q3, q4⟩; simp only [decide_eq_true_eq, decide_eq_false_iff_not] at *; omega)
                            have HF := Lib.hid hf
                            clear hf Hform
                            go_wp2_with fail
                            go_ret
                            refine ⟨?_, HE2.out⟩
                            rw [HF.out]
                            first | rfl | (show Ending.returned (Value.bool ((hl : Int) == 0)) = _; rw [XH.out]) | (show Ending.returned (Value.bool (cut == 0)) = _; rw [XC.out])
                        · have xh : ¬ (hl : Int) = 48 := by omega
                          have XH := Lib.hid (show ((hl : Int) == 48) = false by simpa using xh)
                          have hf : formedB 5 mem cut l hl = false := by
                            rw [Hform.out, if_neg (by omega), if_neg (by omega), if_neg (by omega), if_pos rfl]; exact decide_eq_false (by rintro ⟨q1, q2, q3, q4⟩; simp only [decide_eq_true_eq, decide_eq_false_iff_not] at *; omega)
                          have HF := Lib.hid hf
                          clear hf Hform
                          go_wp2_with fail
                          go_ret
                          refine ⟨?_, HE2.out⟩
                          rw [HF.out]
                          first | rfl | (show Ending.returned (Value.bool ((hl : Int) == 0)) = _; rw [XH.out]) | (show Ending.returned (Value.bool (cut == 0)) = _; rw [XC.out])
                      · have xs0 : ¬ (S : Int) = 0 := by omega
                        have xs1 : 0 < (S : Int) := by omega
                        have xs2 : 0 < S := by omega
                        have hf : formedB 5 mem cut l hl = false := by
                          rw [Hform.out, if_neg (by omega), if_neg (by omega), if_neg (by omega), if_pos rfl]; exact decide_eq_false (by rintro ⟨q1, q2, q3, q4⟩; simp only [decide_eq_true_eq, decide_eq_false_iff_not] at *; omega)
                        have HF := Lib.hid hf
                        clear hf Hform
                        go_wp2_with fail
                        go_ret
                        refine ⟨?_, HE2.out⟩
                        rw [HF.out]
                        first | rfl | (show Ending.returned (Value.bool ((hl : Int) == 0)) = _; rw [XH.out]) | (show Ending.returned (Value.bool (cut == 0)) = _; rw [XC.out])
                · skip
                  have x5 : 5 < op := by omega
                  have hf : formedB op mem cut l hl = false := by
                    rw [Hform.out, if_neg (by omega), if_neg (by omega), if_neg (by omega), if_neg (by omega)]
                  have HF := Lib.hid hf
                  clear hf Hform
                  go_wp2_with fail
                  go_ret
                  refine ⟨?_, HE2.out⟩
                  rw [HF.out]
                  first | rfl | (show Ending.returned (Value.bool ((hl : Int) == 0)) = _; rw [XH.out]) | (show Ending.returned (Value.bool (cut == 0)) = _; rw [XC.out])

end Go.Proofs.YtppidlpblkihbaaDoor
