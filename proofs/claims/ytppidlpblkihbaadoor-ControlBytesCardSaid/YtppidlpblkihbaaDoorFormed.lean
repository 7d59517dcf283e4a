/-
  The walk of control.Formed. No conditions.
-/
import Derived.Test.YtppidlpblkihbaaDoorCtlV
namespace Go.Proofs.YtppidlpblkihbaaDoor
open Go.ChangeShapes Go.WideShapes Go.ChangeAt Go.RowKit

def posB (l : Nat → Nat) (k : Nat) : Bool := (List.range k).any fun i => decide (0 < l i)
def okB (l : Nat → Nat) (k : Nat) : Bool := (List.range k).all fun i => slotB (l i) false
theorem posB_succ (l : Nat → Nat) (k : Nat) : posB l (k + 1) = (posB l k || decide (0 < l k)) := by
  unfold posB
  rw [List.range_succ, List.any_append]
  simp
theorem okB_succ (l : Nat → Nat) (k : Nat) : okB l (k + 1) = (okB l k && slotB (l k) false) := by
  unfold okB
  rw [List.range_succ, List.all_append]
  simp
theorem okB_bad (l : Nat → Nat) (k n : Nat) (hk : k < n) (h : slotB (l k) false = false) : okB l n = false := by
  unfold okB
  rw [List.all_eq_false]
  exact ⟨k, List.mem_range.2 hk, by simp [h]⟩

/-- Whether a control is formed. -/
def formedB (op mem cut : Int) (l : Nat → Nat) (hl : Nat) : Bool :=
  okB l 6 && (if op = 1 ∨ op = 4 then decide (mem = 0 ∧ cut = 0 ∧ posB l 6 = true ∧ hl = 0)
    else if op = 2 then decide (1 ≤ mem ∧ mem ≤ 6 ∧ cut = 0 ∧ posB l 6 = true ∧ hl = 0)
    else if op = 3 then decide (1 ≤ mem ∧ mem ≤ 6 ∧ cut ≤ 1048576 ∧ posB l 6 = true ∧ hl = 0)
    else if op = 5 then decide (1 ≤ mem ∧ mem ≤ 6 ∧ cut = 0 ∧ posB l 6 = false ∧ hl = 48)
    else false)

set_option maxHeartbeats 2000000 in
set_option maxRecDepth 100000 in
theorem formed_any (op mem cut : Int) (A : Nat → Option Addr) (l C : Nat → Nat) (ha : Option Addr) (hl hc : Nat) (w : World) :
    Calls Tryd.prog 27 #[.agg (ctlV op mem cut (fun i => .slice (A i) (l i) (C i)) (.slice ha hl hc))] w fun e w' => e = .returned (.bool (formedB op mem cut l hl)) ∧ Ext w w' := by
  obtain ⟨w2, hw2⟩ : ∃ w2, w.alloc (.cells (ctlV op mem cut (fun i => .slice (A i) (l i) (C i)) (.slice ha hl hc)) 45) = w2 := ⟨_, rfl⟩
  have hE2 : Ext w w2 := by rw [← hw2]; exact (Ext.refl w).alloc _
  have hB2 : w2.heap[w.heap.size]? = some (.cells (ctlV op mem cut (fun i => .slice (A i) (l i) (C i)) (.slice ha hl hc)) 45 (0, 0)) := by rw [← hw2]; exact heap_new w _ _ rfl
  have Hw2 := Lib.hid hw2
  have HE2 := Lib.hid hE2
  obtain ⟨g, hg⟩ : ∃ g, w.heap.size = g := ⟨_, rfl⟩
  rw [hg] at hB2
  obtain ⟨c0, c1, c2, c3, c9⟩ := ctl_cell hB2
  have Hg := Lib.hid hg
  have H3 := Lib.hid c3
  clear hw2 hE2 hB2 c3 hg
  have hix := fun (w : World) (k : Nat) (hk : k < 6) => index_slot w (fun i => .slice (A i) (l i) (C i)) k hk
  have Hix := Lib.hid hix
  clear hix
  go_enter Tryd.func27, Tryd.ntmps27
  go_upto_region 1 with (fail)
  refine wp_world (w' := w2) Hw2.out ?_
  rw [Hg.out]
  clear Hg Hw2
  go_wp2_with (refine wp_slots rfl _ rfl g (fun i => .slice (A i) (l i) (C i)) rfl H3.out ?_)
  go_loopw [9, 3] (fun i v wr => ∃ k : Nat, k ≤ 6 ∧ i = .int .i64 (k : Int) ∧ v = .bool (posB l k) ∧ okB l k = true ∧ wr = w2) (fun i _ _ => 6 - (intOf i).toNat)
  case atStart => exact ⟨0, Nat.zero_le _, rfl, rfl, rfl, rfl⟩
  case round =>
    obtain ⟨k, hk, rfl, rfl, hok, rfl⟩ := hrel
    by_cases hlt : k < 6
    · have x1 : (k : Int) < 6 := by omega
      have hi := fun w => Hix.out w k hlt
      have HS := Lib.hid (slot_any (A k) (l k) (C k) false wr)
      have hp := posB_succ l k
      have ho := okB_succ l k
      obtain ⟨P, hP⟩ : ∃ P, posB l k = P := ⟨_, rfl⟩
      rw [hP] at hp ⊢
      rw [hok, Bool.true_and] at ho
      have Hp := Lib.hid hp
      have Ho := Lib.hid ho
      clear hp ho hP
      obtain ⟨S, hS⟩ : ∃ S, slotB (l k) false = S := ⟨_, rfl⟩
      have HSS := Lib.hid hS
      rw [hS] at HS Ho
      clear hS
      cases S with
      | false =>
        have hbad : formedB op mem cut l hl = false := by unfold formedB; rw [okB_bad l k 6 hlt HSS.out]; rfl
        have Hbad := Lib.hid hbad
        clear hbad
        go_wp2_with fail
        refine HS.out.mono ?_
        rintro e w3 ⟨rfl, rfl⟩
        go_wp2_with fail
        go_ret
        exact ⟨by rw [Hbad.out]; rfl, HE2.out⟩
      | true =>
        go_wp2_with fail
        refine HS.out.mono ?_
        rintro e w3 ⟨rfl, rfl⟩
        cases P with
        | true =>
          go_wp2_with fail
          go_roundw
          case rel => exact ⟨k + 1, by omega, by go_num, by rw [Hp.out]; rfl, Ho.out, by first | rfl | trivial⟩
          case measure => simp [intOf]; omega
        | false =>
          go_wp2_with fail
          go_roundw
          case rel => exact ⟨k + 1, by omega, by go_num, by rw [Hp.out, Bool.false_or], Ho.out, by first | rfl | trivial⟩
          case measure => simp [intOf]; omega
    · obtain rfl : k = 6 := by omega
      have hform : formedB op mem cut l hl = (if op = 1 ∨ op = 4 then decide (mem = 0 ∧ cut = 0 ∧ posB l 6 = true ∧ hl = 0)
          else if op = 2 then decide (1 ≤ mem ∧ mem ≤ 6 ∧ cut = 0 ∧ posB l 6 = true ∧ hl = 0)
          else if op = 3 then decide (1 ≤ mem ∧ mem ≤ 6 ∧ cut ≤ 1048576 ∧ posB l 6 = true ∧ hl = 0)
          else if op = 5 then decide (1 ≤ mem ∧ mem ≤ 6 ∧ cut = 0 ∧ posB l 6 = false ∧ hl = 48)
          else false) := by unfold formedB; rw [hok, Bool.true_and]
      obtain ⟨P, hP⟩ : ∃ P, posB l 6 = P := ⟨_, rfl⟩
      rw [hP] at hform ⊢
      have Hform := Lib.hid hform
      have HS := Lib.hid (slot_any ha hl hc true wr)
      have hsl : slotB hl true = decide (hl = 48) := by simp [slotB]
      have Hsl := Lib.hid hsl
      clear hform hP hok hsl Hix H3
      by_cases h1 : op = 1
      · subst h1
        by_cases hm1 : mem < 1
        · have xm1 : ¬ 1 ≤ mem := by omega
          by_cases hm0 : mem = 0
          · subst hm0
            by_cases hc0 : cut = 0
            · subst hc0
              cases P with
              | true =>
                by_cases hh : hl = 0
                · subst hh
                  have hf : formedB 1 0 0 l 0 = true := by
                    rw [Hform.out, if_pos (Or.inl rfl)]; exact decide_eq_true (by refine ⟨?_, ?_, ?_, ?_⟩ <;> first | omega | rfl | (refine ⟨?_, ?_, ?_⟩ <;> first | omega | rfl))
                  have HF := Lib.hid hf
                  clear hf Hform
                  go_wp2_with fail
                  go_ret
                  refine ⟨?_, HE2.out⟩
                  rw [HF.out]
                  first | rfl | (show Ending.returned (Value.bool ((hl : Int) == 0)) = _; rw [XH.out]) | (show Ending.returned (Value.bool (slotB hl true)) = _; rw [Hsl.out]; simp [*])
                · have xh : ¬ (hl : Int) = 0 := by omega
                  have XH := Lib.hid (show ((hl : Int) == 0) = false by simpa using xh)
                  have hf : formedB 1 0 0 l hl = false := by
                    rw [Hform.out, if_pos (Or.inl rfl)]; exact decide_eq_false (by first | (rintro ⟨q1, q2, q3, q4⟩; first | omega | (cases q3; done) | (obtain ⟨q4, q5⟩ := q4; first | omega | (cases q4; done))))
                  have HF := Lib.hid hf
                  clear hf Hform
                  go_wp2_with fail
                  go_ret
                  refine ⟨?_, HE2.out⟩
                  rw [HF.out]
                  first | rfl | (show Ending.returned (Value.bool ((hl : Int) == 0)) = _; rw [XH.out]) | (show Ending.returned (Value.bool (slotB hl true)) = _; rw [Hsl.out]; simp [*])
              | false =>
                have hf : formedB 1 0 0 l hl = false := by
                  rw [Hform.out, if_pos (Or.inl rfl)]; exact decide_eq_false (by first | (rintro ⟨q1, q2, q3, q4⟩; first | omega | (cases q3; done) | (obtain ⟨q4, q5⟩ := q4; first | omega | (cases q4; done))))
                have HF := Lib.hid hf
                clear hf Hform
                go_wp2_with fail
                go_ret
                refine ⟨?_, HE2.out⟩
                rw [HF.out]
                first | rfl | (show Ending.returned (Value.bool ((hl : Int) == 0)) = _; rw [XH.out]) | (show Ending.returned (Value.bool (slotB hl true)) = _; rw [Hsl.out]; simp [*])
            · skip
              have hf : formedB 1 0 cut l hl = false := by
                rw [Hform.out, if_pos (Or.inl rfl)]; exact decide_eq_false (by first | (rintro ⟨q1, q2, q3, q4⟩; first | omega | (cases q3; done) | (obtain ⟨q4, q5⟩ := q4; first | omega | (cases q4; done))))
              have HF := Lib.hid hf
              clear hf Hform
              go_wp2_with fail
              go_ret
              refine ⟨?_, HE2.out⟩
              rw [HF.out]
              first | rfl | (show Ending.returned (Value.bool ((hl : Int) == 0)) = _; rw [XH.out]) | (show Ending.returned (Value.bool (slotB hl true)) = _; rw [Hsl.out]; simp [*])
          · skip
            have hf : formedB 1 mem cut l hl = false := by
              rw [Hform.out, if_pos (Or.inl rfl)]; exact decide_eq_false (by first | (rintro ⟨q1, q2, q3, q4⟩; first | omega | (cases q3; done) | (obtain ⟨q4, q5⟩ := q4; first | omega | (cases q4; done))))
            have HF := Lib.hid hf
            clear hf Hform
            go_wp2_with fail
            go_ret
            refine ⟨?_, HE2.out⟩
            rw [HF.out]
            first | rfl | (show Ending.returned (Value.bool ((hl : Int) == 0)) = _; rw [XH.out]) | (show Ending.returned (Value.bool (slotB hl true)) = _; rw [Hsl.out]; simp [*])
        · have xm1 : 1 ≤ mem := by omega
          by_cases hm6 : mem ≤ 6
          · skip
            have hm0 : ¬ mem = 0 := by omega
            have hf : formedB 1 mem cut l hl = false := by
              rw [Hform.out, if_pos (Or.inl rfl)]; exact decide_eq_false (by first | (rintro ⟨q1, q2, q3, q4⟩; first | omega | (cases q3; done) | (obtain ⟨q4, q5⟩ := q4; first | omega | (cases q4; done))))
            have HF := Lib.hid hf
            clear hf Hform
            go_wp2_with fail
            go_ret
            refine ⟨?_, HE2.out⟩
            rw [HF.out]
            first | rfl | (show Ending.returned (Value.bool ((hl : Int) == 0)) = _; rw [XH.out]) | (show Ending.returned (Value.bool (slotB hl true)) = _; rw [Hsl.out]; simp [*])
          · have xm6 : 6 < mem := by omega
            have hm0 : ¬ mem = 0 := by omega
            have hf : formedB 1 mem cut l hl = false := by
              rw [Hform.out, if_pos (Or.inl rfl)]; exact decide_eq_false (by first | (rintro ⟨q1, q2, q3, q4⟩; first | omega | (cases q3; done) | (obtain ⟨q4, q5⟩ := q4; first | omega | (cases q4; done))))
            have HF := Lib.hid hf
            clear hf Hform
            go_wp2_with fail
            go_ret
            refine ⟨?_, HE2.out⟩
            rw [HF.out]
            first | rfl | (show Ending.returned (Value.bool ((hl : Int) == 0)) = _; rw [XH.out]) | (show Ending.returned (Value.bool (slotB hl true)) = _; rw [Hsl.out]; simp [*])
      · skip
        by_cases h4 : op = 4
        · subst h4
          by_cases hm1 : mem < 1
          · have xm1 : ¬ 1 ≤ mem := by omega
            by_cases hm0 : mem = 0
            · subst hm0
              by_cases hc0 : cut = 0
              · subst hc0
                cases P with
                | true =>
                  by_cases hh : hl = 0
                  · subst hh
                    have hf : formedB 4 0 0 l 0 = true := by
                      rw [Hform.out, if_pos (Or.inr rfl)]; exact decide_eq_true (by refine ⟨?_, ?_, ?_, ?_⟩ <;> first | omega | rfl | (refine ⟨?_, ?_, ?_⟩ <;> first | omega | rfl))
                    have HF := Lib.hid hf
                    clear hf Hform
                    go_wp2_with fail
                    go_ret
                    refine ⟨?_, HE2.out⟩
                    rw [HF.out]
                    first | rfl | (show Ending.returned (Value.bool ((hl : Int) == 0)) = _; rw [XH.out]) | (show Ending.returned (Value.bool (slotB hl true)) = _; rw [Hsl.out]; simp [*])
                  · have xh : ¬ (hl : Int) = 0 := by omega
                    have XH := Lib.hid (show ((hl : Int) == 0) = false by simpa using xh)
                    have hf : formedB 4 0 0 l hl = false := by
                      rw [Hform.out, if_pos (Or.inr rfl)]; exact decide_eq_false (by first | (rintro ⟨q1, q2, q3, q4⟩; first | omega | (cases q3; done) | (obtain ⟨q4, q5⟩ := q4; first | omega | (cases q4; done))))
                    have HF := Lib.hid hf
                    clear hf Hform
                    go_wp2_with fail
                    go_ret
                    refine ⟨?_, HE2.out⟩
                    rw [HF.out]
                    first | rfl | (show Ending.returned (Value.bool ((hl : Int) == 0)) = _; rw [XH.out]) | (show Ending.returned (Value.bool (slotB hl true)) = _; rw [Hsl.out]; simp [*])
                | false =>
                  have hf : formedB 4 0 0 l hl = false := by
                    rw [Hform.out, if_pos (Or.inr rfl)]; exact decide_eq_false (by first | (rintro ⟨q1, q2, q3, q4⟩; first | omega | (cases q3; done) | (obtain ⟨q4, q5⟩ := q4; first | omega | (cases q4; done))))
                  have HF := Lib.hid hf
                  clear hf Hform
                  go_wp2_with fail
                  go_ret
                  refine ⟨?_, HE2.out⟩
                  rw [HF.out]
                  first | rfl | (show Ending.returned (Value.bool ((hl : Int) == 0)) = _; rw [XH.out]) | (show Ending.returned (Value.bool (slotB hl true)) = _; rw [Hsl.out]; simp [*])
              · skip
                have hf : formedB 4 0 cut l hl = false := by
                  rw [Hform.out, if_pos (Or.inr rfl)]; exact decide_eq_false (by first | (rintro ⟨q1, q2, q3, q4⟩; first | omega | (cases q3; done) | (obtain ⟨q4, q5⟩ := q4; first | omega | (cases q4; done))))
                have HF := Lib.hid hf
                clear hf Hform
                go_wp2_with fail
                go_ret
                refine ⟨?_, HE2.out⟩
                rw [HF.out]
                first | rfl | (show Ending.returned (Value.bool ((hl : Int) == 0)) = _; rw [XH.out]) | (show Ending.returned (Value.bool (slotB hl true)) = _; rw [Hsl.out]; simp [*])
            · skip
              have hf : formedB 4 mem cut l hl = false := by
                rw [Hform.out, if_pos (Or.inr rfl)]; exact decide_eq_false (by first | (rintro ⟨q1, q2, q3, q4⟩; first | omega | (cases q3; done) | (obtain ⟨q4, q5⟩ := q4; first | omega | (cases q4; done))))
              have HF := Lib.hid hf
              clear hf Hform
              go_wp2_with fail
              go_ret
              refine ⟨?_, HE2.out⟩
              rw [HF.out]
              first | rfl | (show Ending.returned (Value.bool ((hl : Int) == 0)) = _; rw [XH.out]) | (show Ending.returned (Value.bool (slotB hl true)) = _; rw [Hsl.out]; simp [*])
          · have xm1 : 1 ≤ mem := by omega
            by_cases hm6 : mem ≤ 6
            · skip
              have hm0 : ¬ mem = 0 := by omega
              have hf : formedB 4 mem cut l hl = false := by
                rw [Hform.out, if_pos (Or.inr rfl)]; exact decide_eq_false (by first | (rintro ⟨q1, q2, q3, q4⟩; first | omega | (cases q3; done) | (obtain ⟨q4, q5⟩ := q4; first | omega | (cases q4; done))))
              have HF := Lib.hid hf
              clear hf Hform
              go_wp2_with fail
              go_ret
              refine ⟨?_, HE2.out⟩
              rw [HF.out]
              first | rfl | (show Ending.returned (Value.bool ((hl : Int) == 0)) = _; rw [XH.out]) | (show Ending.returned (Value.bool (slotB hl true)) = _; rw [Hsl.out]; simp [*])
            · have xm6 : 6 < mem := by omega
              have hm0 : ¬ mem = 0 := by omega
              have hf : formedB 4 mem cut l hl = false := by
                rw [Hform.out, if_pos (Or.inr rfl)]; exact decide_eq_false (by first | (rintro ⟨q1, q2, q3, q4⟩; first | omega | (cases q3; done) | (obtain ⟨q4, q5⟩ := q4; first | omega | (cases q4; done))))
              have HF := Lib.hid hf
              clear hf Hform
              go_wp2_with fail
              go_ret
              refine ⟨?_, HE2.out⟩
              rw [HF.out]
              first | rfl | (show Ending.returned (Value.bool ((hl : Int) == 0)) = _; rw [XH.out]) | (show Ending.returned (Value.bool (slotB hl true)) = _; rw [Hsl.out]; simp [*])
        · skip
          by_cases h2 : op = 2
          · subst h2
            by_cases hm1 : mem < 1
            · have xm1 : ¬ 1 ≤ mem := by omega
              have hf : formedB 2 mem cut l hl = false := by
                rw [Hform.out, if_neg (by omega), if_pos rfl]; exact decide_eq_false (by first | (rintro ⟨q1, q2, q3, q4⟩; first | omega | (cases q3; done) | (obtain ⟨q4, q5⟩ := q4; first | omega | (cases q4; done))))
              have HF := Lib.hid hf
              clear hf Hform
              go_wp2_with fail
              go_ret
              refine ⟨?_, HE2.out⟩
              rw [HF.out]
              first | rfl | (show Ending.returned (Value.bool ((hl : Int) == 0)) = _; rw [XH.out]) | (show Ending.returned (Value.bool (slotB hl true)) = _; rw [Hsl.out]; simp [*])
            · have xm1 : 1 ≤ mem := by omega
              by_cases hm6 : mem ≤ 6
              · skip
                by_cases hc0 : cut = 0
                · subst hc0
                  cases P with
                  | true =>
                    by_cases hh : hl = 0
                    · subst hh
                      have hf : formedB 2 mem 0 l 0 = true := by
                        rw [Hform.out, if_neg (by omega), if_pos rfl]; exact decide_eq_true ⟨by omega, by omega, by omega, rfl, by omega⟩
                      have HF := Lib.hid hf
                      clear hf Hform
                      go_wp2_with fail
                      go_ret
                      refine ⟨?_, HE2.out⟩
                      rw [HF.out]
                      first | rfl | (show Ending.returned (Value.bool ((hl : Int) == 0)) = _; rw [XH.out]) | (show Ending.returned (Value.bool (slotB hl true)) = _; rw [Hsl.out]; simp [*])
                    · have xh : ¬ (hl : Int) = 0 := by omega
                      have XH := Lib.hid (show ((hl : Int) == 0) = false by simpa using xh)
                      have hf : formedB 2 mem 0 l hl = false := by
                        rw [Hform.out, if_neg (by omega), if_pos rfl]; exact decide_eq_false (by first | (rintro ⟨q1, q2, q3, q4⟩; first | omega | (cases q3; done) | (obtain ⟨q4, q5⟩ := q4; first | omega | (cases q4; done))))
                      have HF := Lib.hid hf
                      clear hf Hform
                      go_wp2_with fail
                      go_ret
                      refine ⟨?_, HE2.out⟩
                      rw [HF.out]
                      first | rfl | (show Ending.returned (Value.bool ((hl : Int) == 0)) = _; rw [XH.out]) | (show Ending.returned (Value.bool (slotB hl true)) = _; rw [Hsl.out]; simp [*])
                  | false =>
                    have hf : formedB 2 mem 0 l hl = false := by
                      rw [Hform.out, if_neg (by omega), if_pos rfl]; exact decide_eq_false (by first | (rintro ⟨q1, q2, q3, q4⟩; first | omega | (cases q3; done) | (obtain ⟨q4, q5⟩ := q4; first | omega | (cases q4; done))))
                    have HF := Lib.hid hf
                    clear hf Hform
                    go_wp2_with fail
                    go_ret
                    refine ⟨?_, HE2.out⟩
                    rw [HF.out]
                    first | rfl | (show Ending.returned (Value.bool ((hl : Int) == 0)) = _; rw [XH.out]) | (show Ending.returned (Value.bool (slotB hl true)) = _; rw [Hsl.out]; simp [*])
                · skip
                  have hf : formedB 2 mem cut l hl = false := by
                    rw [Hform.out, if_neg (by omega), if_pos rfl]; exact decide_eq_false (by first | (rintro ⟨q1, q2, q3, q4⟩; first | omega | (cases q3; done) | (obtain ⟨q4, q5⟩ := q4; first | omega | (cases q4; done))))
                  have HF := Lib.hid hf
                  clear hf Hform
                  go_wp2_with fail
                  go_ret
                  refine ⟨?_, HE2.out⟩
                  rw [HF.out]
                  first | rfl | (show Ending.returned (Value.bool ((hl : Int) == 0)) = _; rw [XH.out]) | (show Ending.returned (Value.bool (slotB hl true)) = _; rw [Hsl.out]; simp [*])
              · have xm6 : 6 < mem := by omega
                have hf : formedB 2 mem cut l hl = false := by
                  rw [Hform.out, if_neg (by omega), if_pos rfl]; exact decide_eq_false (by first | (rintro ⟨q1, q2, q3, q4⟩; first | omega | (cases q3; done) | (obtain ⟨q4, q5⟩ := q4; first | omega | (cases q4; done))))
                have HF := Lib.hid hf
                clear hf Hform
                go_wp2_with fail
                go_ret
                refine ⟨?_, HE2.out⟩
                rw [HF.out]
                first | rfl | (show Ending.returned (Value.bool ((hl : Int) == 0)) = _; rw [XH.out]) | (show Ending.returned (Value.bool (slotB hl true)) = _; rw [Hsl.out]; simp [*])
          · skip
            by_cases h3 : op = 3
            · subst h3
              by_cases hm1 : mem < 1
              · have xm1 : ¬ 1 ≤ mem := by omega
                have hf : formedB 3 mem cut l hl = false := by
                  rw [Hform.out, if_neg (by omega), if_neg (by omega), if_pos rfl]; exact decide_eq_false (by first | (rintro ⟨q1, q2, q3, q4⟩; first | omega | (cases q3; done) | (obtain ⟨q4, q5⟩ := q4; first | omega | (cases q4; done))))
                have HF := Lib.hid hf
                clear hf Hform
                go_wp2_with fail
                go_ret
                refine ⟨?_, HE2.out⟩
                rw [HF.out]
                first | rfl | (show Ending.returned (Value.bool ((hl : Int) == 0)) = _; rw [XH.out]) | (show Ending.returned (Value.bool (slotB hl true)) = _; rw [Hsl.out]; simp [*])
              · have xm1 : 1 ≤ mem := by omega
                by_cases hm6 : mem ≤ 6
                · skip
                  by_cases hc3 : cut ≤ 1048576
                  · skip
                    cases P with
                    | true =>
                      by_cases hh : hl = 0
                      · subst hh
                        have hf : formedB 3 mem cut l 0 = true := by
                          rw [Hform.out, if_neg (by omega), if_neg (by omega), if_pos rfl]; exact decide_eq_true ⟨by omega, by omega, by omega, rfl, by omega⟩
                        have HF := Lib.hid hf
                        clear hf Hform
                        go_wp2_with fail
                        go_ret
                        refine ⟨?_, HE2.out⟩
                        rw [HF.out]
                        first | rfl | (show Ending.returned (Value.bool ((hl : Int) == 0)) = _; rw [XH.out]) | (show Ending.returned (Value.bool (slotB hl true)) = _; rw [Hsl.out]; simp [*])
                      · have xh : ¬ (hl : Int) = 0 := by omega
                        have XH := Lib.hid (show ((hl : Int) == 0) = false by simpa using xh)
                        have hf : formedB 3 mem cut l hl = false := by
                          rw [Hform.out, if_neg (by omega), if_neg (by omega), if_pos rfl]; exact decide_eq_false (by first | (rintro ⟨q1, q2, q3, q4⟩; first | omega | (cases q3; done) | (obtain ⟨q4, q5⟩ := q4; first | omega | (cases q4; done))))
                        have HF := Lib.hid hf
                        clear hf Hform
                        go_wp2_with fail
                        go_ret
                        refine ⟨?_, HE2.out⟩
                        rw [HF.out]
                        first | rfl | (show Ending.returned (Value.bool ((hl : Int) == 0)) = _; rw [XH.out]) | (show Ending.returned (Value.bool (slotB hl true)) = _; rw [Hsl.out]; simp [*])
                    | false =>
                      have hf : formedB 3 mem cut l hl = false := by
                        rw [Hform.out, if_neg (by omega), if_neg (by omega), if_pos rfl]; exact decide_eq_false (by first | (rintro ⟨q1, q2, q3, q4⟩; first | omega | (cases q3; done) | (obtain ⟨q4, q5⟩ := q4; first | omega | (cases q4; done))))
                      have HF := Lib.hid hf
                      clear hf Hform
                      go_wp2_with fail
                      go_ret
                      refine ⟨?_, HE2.out⟩
                      rw [HF.out]
                      first | rfl | (show Ending.returned (Value.bool ((hl : Int) == 0)) = _; rw [XH.out]) | (show Ending.returned (Value.bool (slotB hl true)) = _; rw [Hsl.out]; simp [*])
                  · have xc : 1048576 < cut := by omega
                    have hf : formedB 3 mem cut l hl = false := by
                      rw [Hform.out, if_neg (by omega), if_neg (by omega), if_pos rfl]; exact decide_eq_false (by first | (rintro ⟨q1, q2, q3, q4⟩; first | omega | (cases q3; done) | (obtain ⟨q4, q5⟩ := q4; first | omega | (cases q4; done))))
                    have HF := Lib.hid hf
                    clear hf Hform
                    go_wp2_with fail
                    go_ret
                    refine ⟨?_, HE2.out⟩
                    rw [HF.out]
                    first | rfl | (show Ending.returned (Value.bool ((hl : Int) == 0)) = _; rw [XH.out]) | (show Ending.returned (Value.bool (slotB hl true)) = _; rw [Hsl.out]; simp [*])
                · have xm6 : 6 < mem := by omega
                  have hf : formedB 3 mem cut l hl = false := by
                    rw [Hform.out, if_neg (by omega), if_neg (by omega), if_pos rfl]; exact decide_eq_false (by first | (rintro ⟨q1, q2, q3, q4⟩; first | omega | (cases q3; done) | (obtain ⟨q4, q5⟩ := q4; first | omega | (cases q4; done))))
                  have HF := Lib.hid hf
                  clear hf Hform
                  go_wp2_with fail
                  go_ret
                  refine ⟨?_, HE2.out⟩
                  rw [HF.out]
                  first | rfl | (show Ending.returned (Value.bool ((hl : Int) == 0)) = _; rw [XH.out]) | (show Ending.returned (Value.bool (slotB hl true)) = _; rw [Hsl.out]; simp [*])
            · skip
              by_cases h5 : op = 5
              · subst h5
                by_cases hm1 : mem < 1
                · have xm1 : ¬ 1 ≤ mem := by omega
                  have hf : formedB 5 mem cut l hl = false := by
                    rw [Hform.out, if_neg (by omega), if_neg (by omega), if_neg (by omega), if_pos rfl]; exact decide_eq_false (by first | (rintro ⟨q1, q2, q3, q4⟩; first | omega | (cases q3; done) | (obtain ⟨q4, q5⟩ := q4; first | omega | (cases q4; done))))
                  have HF := Lib.hid hf
                  clear hf Hform
                  go_wp2_with fail
                  go_ret
                  refine ⟨?_, HE2.out⟩
                  rw [HF.out]
                  first | rfl | (show Ending.returned (Value.bool ((hl : Int) == 0)) = _; rw [XH.out]) | (show Ending.returned (Value.bool (slotB hl true)) = _; rw [Hsl.out]; simp [*])
                · have xm1 : 1 ≤ mem := by omega
                  by_cases hm6 : mem ≤ 6
                  · skip
                    by_cases hc0 : cut = 0
                    · subst hc0
                      cases P with
                      | true =>
                        have hf : formedB 5 mem 0 l hl = false := by
                          rw [Hform.out, if_neg (by omega), if_neg (by omega), if_neg (by omega), if_pos rfl]; exact decide_eq_false (by first | (rintro ⟨q1, q2, q3, q4⟩; first | omega | (cases q3; done) | (obtain ⟨q4, q5⟩ := q4; first | omega | (cases q4; done))))
                        have HF := Lib.hid hf
                        clear hf Hform
                        go_wp2_with fail
                        go_ret
                        refine ⟨?_, HE2.out⟩
                        rw [HF.out]
                        first | rfl | (show Ending.returned (Value.bool ((hl : Int) == 0)) = _; rw [XH.out]) | (show Ending.returned (Value.bool (slotB hl true)) = _; rw [Hsl.out]; simp [*])
                      | false =>
                        by_cases hh : hl = 48
                        · subst hh
                          have hf : formedB 5 mem 0 l 48 = true := by
                            rw [Hform.out, if_neg (by omega), if_neg (by omega), if_neg (by omega), if_pos rfl]; exact decide_eq_true ⟨by omega, by omega, by omega, rfl, by omega⟩
                          have HF := Lib.hid hf
                          clear hf Hform
                          go_wp2_with (refine HS.out.mono ?_; rintro e w3 ⟨rfl, rfl⟩)
                          go_ret
                          refine ⟨?_, HE2.out⟩
                          rw [HF.out]
                          first | rfl | (show Ending.returned (Value.bool ((hl : Int) == 0)) = _; rw [XH.out]) | (show Ending.returned (Value.bool (slotB hl true)) = _; rw [Hsl.out]; simp [*])
                        · skip
                          have hf : formedB 5 mem 0 l hl = false := by
                            rw [Hform.out, if_neg (by omega), if_neg (by omega), if_neg (by omega), if_pos rfl]; exact decide_eq_false (by first | (rintro ⟨q1, q2, q3, q4⟩; first | omega | (cases q3; done) | (obtain ⟨q4, q5⟩ := q4; first | omega | (cases q4; done))))
                          have HF := Lib.hid hf
                          clear hf Hform
                          go_wp2_with (refine HS.out.mono ?_; rintro e w3 ⟨rfl, rfl⟩)
                          go_ret
                          refine ⟨?_, HE2.out⟩
                          rw [HF.out]
                          first | rfl | (show Ending.returned (Value.bool ((hl : Int) == 0)) = _; rw [XH.out]) | (show Ending.returned (Value.bool (slotB hl true)) = _; rw [Hsl.out]; simp [*])
                    · skip
                      have hf : formedB 5 mem cut l hl = false := by
                        rw [Hform.out, if_neg (by omega), if_neg (by omega), if_neg (by omega), if_pos rfl]; exact decide_eq_false (by first | (rintro ⟨q1, q2, q3, q4⟩; first | omega | (cases q3; done) | (obtain ⟨q4, q5⟩ := q4; first | omega | (cases q4; done))))
                      have HF := Lib.hid hf
                      clear hf Hform
                      go_wp2_with fail
                      go_ret
                      refine ⟨?_, HE2.out⟩
                      rw [HF.out]
                      first | rfl | (show Ending.returned (Value.bool ((hl : Int) == 0)) = _; rw [XH.out]) | (show Ending.returned (Value.bool (slotB hl true)) = _; rw [Hsl.out]; simp [*])
                  · have xm6 : 6 < mem := by omega
                    have hf : formedB 5 mem cut l hl = false := by
                      rw [Hform.out, if_neg (by omega), if_neg (by omega), if_neg (by omega), if_pos rfl]; exact decide_eq_false (by first | (rintro ⟨q1, q2, q3, q4⟩; first | omega | (cases q3; done) | (obtain ⟨q4, q5⟩ := q4; first | omega | (cases q4; done))))
                    have HF := Lib.hid hf
                    clear hf Hform
                    go_wp2_with fail
                    go_ret
                    refine ⟨?_, HE2.out⟩
                    rw [HF.out]
                    first | rfl | (show Ending.returned (Value.bool ((hl : Int) == 0)) = _; rw [XH.out]) | (show Ending.returned (Value.bool (slotB hl true)) = _; rw [Hsl.out]; simp [*])
              · skip
                by_cases hm1 : mem < 1
                · have xm1 : ¬ 1 ≤ mem := by omega
                  have hf : formedB op mem cut l hl = false := by
                    rw [Hform.out, if_neg (by omega), if_neg (by omega), if_neg (by omega), if_neg (by omega)]
                  have HF := Lib.hid hf
                  clear hf Hform
                  go_wp2_with fail
                  go_ret
                  refine ⟨?_, HE2.out⟩
                  rw [HF.out]
                  first | rfl | (show Ending.returned (Value.bool ((hl : Int) == 0)) = _; rw [XH.out]) | (show Ending.returned (Value.bool (slotB hl true)) = _; rw [Hsl.out]; simp [*])
                · have xm1 : 1 ≤ mem := by omega
                  by_cases hm6 : mem ≤ 6
                  · skip
                    have hf : formedB op mem cut l hl = false := by
                      rw [Hform.out, if_neg (by omega), if_neg (by omega), if_neg (by omega), if_neg (by omega)]
                    have HF := Lib.hid hf
                    clear hf Hform
                    go_wp2_with fail
                    go_ret
                    refine ⟨?_, HE2.out⟩
                    rw [HF.out]
                    first | rfl | (show Ending.returned (Value.bool ((hl : Int) == 0)) = _; rw [XH.out]) | (show Ending.returned (Value.bool (slotB hl true)) = _; rw [Hsl.out]; simp [*])
                  · have xm6 : 6 < mem := by omega
                    have hf : formedB op mem cut l hl = false := by
                      rw [Hform.out, if_neg (by omega), if_neg (by omega), if_neg (by omega), if_neg (by omega)]
                    have HF := Lib.hid hf
                    clear hf Hform
                    go_wp2_with fail
                    go_ret
                    refine ⟨?_, HE2.out⟩
                    rw [HF.out]
                    first | rfl | (show Ending.returned (Value.bool ((hl : Int) == 0)) = _; rw [XH.out]) | (show Ending.returned (Value.bool (slotB hl true)) = _; rw [Hsl.out]; simp [*])

end Go.Proofs.YtppidlpblkihbaaDoor
