/-
  Batch after batch: the pieces of each writer come one behind the other, and in the end all have come. Plain. No conditions.
-/
import Derived.Test.YtihlpfdhallfpaaDoorBatP
namespace Go.Proofs.YtihlpfdhallfpaaDoor
open Go.ChangeShapes Go.WideShapes Go.ChangeAt Go.RowKit

/-- How many of a writer there are. -/
def cntQ (i : Nat) (s : List (Nat × Nat)) : Nat := (s.filter fun q => decide (q.1 = i)).length
theorem cntQ_app (i : Nat) (s t : List (Nat × Nat)) : cntQ i (s ++ t) = cntQ i s + cntQ i t := by
  unfold cntQ
  rw [List.filter_append, List.length_append]
theorem cntQ_one (i : Nat) (q : Nat × Nat) : cntQ i [q] = if q.1 = i then 1 else 0 := by
  unfold cntQ
  by_cases h : q.1 = i
  · simp [h]
  · simp [h]
theorem cntQ_take (i : Nat) (s : List (Nat × Nat)) (T : Nat) : cntQ i (s.take T) ≤ cntQ i s := by
  conv => rhs; rw [← List.take_append_drop T s]
  rw [cntQ_app]
  omega
theorem take_push {α : Type} (s : List α) (d : α) {k : Nat} (h : k < s.length) : s.take (k + 1) = s.take k ++ [s.getD k d] := by
  rw [List.take_add_one, List.getElem?_eq_getElem h, List.getD_eq_getElem?_getD, List.getElem?_eq_getElem h]
  rfl
/-- Each is the next of its writer. -/
def SeqB (cu : Nat → Nat) (s : List (Nat × Nat)) : Prop := ∀ t, t < s.length → (s.getD t (0, 0)).2 = cu (s.getD t (0, 0)).1 + cntQ (s.getD t (0, 0)).1 (s.take t)
theorem SeqB.push {cu : Nat → Nat} {s : List (Nat × Nat)} (h : SeqB cu s) {q : Nat × Nat} (hq : q.2 = cu q.1 + cntQ q.1 s) : SeqB cu (s ++ [q]) := by
  intro t ht
  rw [List.length_append, List.length_singleton] at ht
  by_cases hl : t < s.length
  · have e1 : (s ++ [q]).getD t (0, 0) = s.getD t (0, 0) := by rw [List.getD_eq_getElem?_getD, List.getElem?_append_left hl, ← List.getD_eq_getElem?_getD]
    rw [e1, List.take_append_of_le_length (by omega)]
    exact h t hl
  · obtain rfl : t = s.length := by omega
    have e1 : (s ++ [q]).getD s.length (0, 0) = q := by
      rw [List.getD_eq_getElem?_getD, List.getElem?_append_right (Nat.le_refl _), Nat.sub_self]
      rfl
    rw [e1, List.take_append_of_le_length (Nat.le_refl _), List.take_of_length_le (Nat.le_refl _)]
    exact hq
theorem SeqB.take {cu : Nat → Nat} {s : List (Nat × Nat)} (h : SeqB cu s) (T : Nat) : SeqB cu (s.take T) := by
  intro t ht
  have h1 : t < s.length := by rw [List.length_take] at ht; omega
  have h2 : t < T := by rw [List.length_take] at ht; omega
  have e1 : (s.take T).getD t (0, 0) = s.getD t (0, 0) := by rw [List.getD_eq_getElem?_getD, List.getElem?_take_of_lt h2, ← List.getD_eq_getElem?_getD]
  rw [e1, List.take_take, Nat.min_eq_left (by omega)]
  exact h t h1
structure GoodB (len cu : Nat → Nat) (k i : Nat) : Prop where
  cnt : ∀ j, j < 6 → cntQ j (preB len cu k ++ lvlTo len cu (k + 1) i) = min (k + if j < i then 1 else 0) (len j - cu j)
  seq : SeqB cu (preB len cu k ++ lvlTo len cu (k + 1) i)
theorem GoodB.next {len cu : Nat → Nat} {k i : Nat} (h : GoodB len cu k i) (hi : i < 6) : GoodB len cu k (i + 1) := by
  by_cases hc : cu i + (k + 1) ≤ len i
  · have e : preB len cu k ++ lvlTo len cu (k + 1) (i + 1) = (preB len cu k ++ lvlTo len cu (k + 1) i) ++ [(i, cu i + (k + 1) - 1)] := by rw [lvlTo_yes hc, List.append_assoc]
    have hci := h.cnt i hi
    rw [if_neg (Nat.lt_irrefl i)] at hci
    constructor
    · intro j hj
      rw [e, cntQ_app, cntQ_one, h.cnt j hj]
      by_cases hij : i = j
      · subst hij
        rw [if_neg (Nat.lt_irrefl i), if_pos rfl, if_pos (Nat.lt_succ_self i)]
        omega
      · rw [if_neg hij]
        by_cases hlt : j < i
        · rw [if_pos hlt, if_pos (by omega)]
          omega
        · rw [if_neg hlt, if_neg (by omega)]
          omega
    · rw [e]
      refine h.seq.push ?_
      show cu i + (k + 1) - 1 = cu i + cntQ i _
      rw [hci]
      omega
  · have e : preB len cu k ++ lvlTo len cu (k + 1) (i + 1) = preB len cu k ++ lvlTo len cu (k + 1) i := by rw [lvlTo_no hc]
    constructor
    · intro j hj
      rw [e, h.cnt j hj]
      by_cases hij : i = j
      · subst hij
        rw [if_neg (Nat.lt_irrefl i), if_pos (Nat.lt_succ_self i)]
        omega
      · by_cases hlt : j < i
        · rw [if_pos hlt, if_pos (by omega)]
        · rw [if_neg hlt, if_neg (by omega)]
    · rw [e]
      exact h.seq
theorem GoodB.all {len cu : Nat → Nat} {k : Nat} (h : GoodB len cu k 0) : ∀ i, i ≤ 6 → GoodB len cu k i
  | 0, _ => h
  | i + 1, hi => (h.all i (by omega)).next (by omega)
theorem goodB (len cu : Nat → Nat) : ∀ k, GoodB len cu k 0
  | 0 => ⟨fun j _ => by
      rw [show preB len cu 0 ++ lvlTo len cu 1 0 = [] from rfl]
      exact (Nat.zero_min _).symm, fun t ht => absurd ht (Nat.not_lt_zero t)⟩
  | k + 1 => by
    have h := (goodB len cu k).all 6 (Nat.le_refl _)
    have e : preB len cu (k + 1) ++ lvlTo len cu (k + 1 + 1) 0 = preB len cu k ++ lvlTo len cu (k + 1) 6 := by rw [lvlTo_zero, List.append_nil, preB_succ]
    constructor
    · intro j hj
      rw [e, h.cnt j hj, if_pos hj, if_neg (Nat.not_lt_zero j)]
    · rw [e]
      exact h.seq
theorem allB_seq (len cu : Nat → Nat) : SeqB cu (allB len cu) := by
  have h := (goodB len cu 401).seq
  rw [lvlTo_zero, List.append_nil] at h
  exact h
theorem allB_cnt (len cu : Nat → Nat) (j : Nat) (hj : j < 6) : cntQ j (allB len cu) ≤ len j - cu j := by
  have h := (goodB len cu 401).cnt j hj
  rw [lvlTo_zero, List.append_nil] at h
  show cntQ j (preB len cu 401) ≤ _
  omega
theorem allB_some {len cu : Nat → Nat} {i : Nat} (hi : i < 6) (h : cu i < len i) : allB len cu ≠ [] := by
  have h1 : lvlTo len cu 1 (i + 1) ≠ [] := by
    rw [lvlTo_yes (by omega)]
    simp
  intro e
  have h2 := (lvlTo_pre (len := len) (cu := cu) 1 (i + 1) 6 (by omega))
  have h3 := preB_pre (len := len) (cu := cu) 1 400
  have h4 : preB len cu 1 = lvlTo len cu 1 6 := by rw [show (1 : Nat) = 0 + 1 from rfl, preB_succ]; rfl
  rw [h4] at h3
  rw [show preB len cu (1 + 400) = allB len cu from rfl, e] at h3
  have h5 := List.prefix_nil.1 (h2.trans h3)
  exact h1 h5
/-- What is still to come. -/
def remQ (len cu : Nat → Nat) : Nat := (len 0 - cu 0) + (len 1 - cu 1) + (len 2 - cu 2) + (len 3 - cu 3) + (len 4 - cu 4) + (len 5 - cu 5)
theorem six {i : Nat} (h : i < 6) : i = 0 ∨ i = 1 ∨ i = 2 ∨ i = 3 ∨ i = 4 ∨ i = 5 := by omega
/-- The cursor behind some. -/
def cuA (cu : Nat → Nat) (s : List (Nat × Nat)) (j : Nat) : Nat := cu j + cntQ j s
theorem cuA_le {len cu : Nat → Nat} (h : ∀ j, j < 6 → cu j ≤ len j) (T : Nat) : ∀ j, j < 6 → cuA cu ((allB len cu).take T) j ≤ len j := fun j hj => by
  have h1 := cntQ_take j (allB len cu) T
  have h2 := allB_cnt len cu j hj
  have h3 := h j hj
  unfold cuA
  omega
theorem rem_le {len cu cu' : Nat → Nat} (h : ∀ j, len j - cu' j ≤ len j - cu j) : remQ len cu' ≤ remQ len cu := by
  unfold remQ
  exact Nat.add_le_add (Nat.add_le_add (Nat.add_le_add (Nat.add_le_add (Nat.add_le_add (h 0) (h 1)) (h 2)) (h 3)) (h 4)) (h 5)
theorem rem_zero {len cu : Nat → Nat} (hr : remQ len cu = 0) : ∀ j, j < 6 → len j - cu j = 0 := fun j hj => by
  unfold remQ at hr
  rw [Nat.add_eq_zero_iff, Nat.add_eq_zero_iff, Nat.add_eq_zero_iff, Nat.add_eq_zero_iff, Nat.add_eq_zero_iff] at hr
  obtain ⟨⟨⟨⟨⟨h0, h1⟩, h2⟩, h3⟩, h4⟩, h5⟩ := hr
  rcases six hj with e | e | e | e | e | e <;> subst e <;> assumption
theorem rem_lt {len cu cu' : Nat → Nat} (h : ∀ j, len j - cu' j ≤ len j - cu j) {i : Nat} (hi : i < 6) (hlt : len i - cu' i + 1 ≤ len i - cu i) : remQ len cu' + 1 ≤ remQ len cu := by
  have h0 := h 0
  have h1 := h 1
  have h2 := h 2
  have h3 := h 3
  have h4 := h 4
  have h5 := h 5
  unfold remQ
  rcases six hi with e | e | e | e | e | e <;> subst e <;>
    (revert h0 h1 h2 h3 h4 h5 hlt
     generalize len 0 - cu 0 = a0
     generalize len 1 - cu 1 = a1
     generalize len 2 - cu 2 = a2
     generalize len 3 - cu 3 = a3
     generalize len 4 - cu 4 = a4
     generalize len 5 - cu 5 = a5
     generalize len 0 - cu' 0 = b0
     generalize len 1 - cu' 1 = b1
     generalize len 2 - cu' 2 = b2
     generalize len 3 - cu' 3 = b3
     generalize len 4 - cu' 4 = b4
     generalize len 5 - cu' 5 = b5
     intros
     omega)
/-- One batch more. -/
theorem rem_next {len cu : Nat → Nat} (h : ∀ j, j < 6 → cu j ≤ len j) {T n : Nat} (hT : 1 ≤ T) (hr : remQ len cu ≤ 30 - n) : remQ len (cuA cu ((allB len cu).take T)) ≤ 30 - (n + 1) := by
  have hm : ∀ j, len j - cuA cu ((allB len cu).take T) j ≤ len j - cu j := fun j => Nat.sub_le_sub_left (Nat.le_add_right _ _) _
  by_cases h0 : ∃ i, i < 6 ∧ cu i < len i
  · obtain ⟨i, hi, hlt⟩ := h0
    have hne := allB_some hi hlt
    obtain ⟨q, r, hqr⟩ := List.exists_cons_of_ne_nil hne
    have hq : q ∈ allB len cu := by rw [hqr]; exact List.mem_cons_self
    obtain ⟨hq1, hq2⟩ := allB_mem hq
    have hc : 1 ≤ cntQ q.1 ((allB len cu).take T) := by
      rw [hqr, show T = (T - 1) + 1 by omega, List.take_succ_cons, show q :: r.take (T - 1) = [q] ++ r.take (T - 1) from rfl, cntQ_app, cntQ_one, if_pos rfl]
      omega
    have hl := cuA_le h T q.1 hq1
    have hg : cu q.1 + 1 ≤ cuA cu ((allB len cu).take T) q.1 := by unfold cuA; omega
    have h1 := rem_lt hm hq1 (by omega)
    omega
  · have hz : remQ len cu = 0 := by
      have z : ∀ i, i < 6 → len i - cu i = 0 := fun i hi => by
        have : ¬ cu i < len i := fun k => h0 ⟨i, hi, k⟩
        omega
      unfold remQ
      rw [z 0 (by omega), z 1 (by omega), z 2 (by omega), z 3 (by omega), z 4 (by omega), z 5 (by omega)]
    have h1 := rem_le hm
    omega
theorem rem_done {len cu : Nat → Nat} (h : ∀ j, j < 6 → cu j ≤ len j) (hr : remQ len cu = 0) : ∀ j, j < 6 → cu j = len j := fun j hj => by
  have h1 := h j hj
  have h2 := rem_zero hr j hj
  omega

end Go.Proofs.YtihlpfdhallfpaaDoor
