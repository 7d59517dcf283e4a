/-
  What is parsed as a header was packed so: plain laws. No conditions.
-/
import Derived.Test.YtppidlpblkihbaaDoorHdP
namespace Go.Proofs.YtppidlpblkihbaaDoor
open Go.ChangeShapes Go.WideShapes Go.ChangeAt Go.RowKit

theorem ln_arF (n : Nat) (R : List Int) (h : R.length = n) : ln n (arF R) = R := by
  unfold ln arF
  apply List.ext_getElem
  · simp [h]
  · intro i h1 h2
    simp [List.getD_eq_getElem?_getD, List.getElem?_eq_getElem h2]
theorem rawP_back {xs R ys : List Int} {bad : Bool} {k : Nat} (h : rawP xs bad k = (R, ys, false)) : bad = false ∧ xs = R ++ ys ∧ R.length = k := by
  unfold rawP at h
  split at h
  · simp at h
  · rename_i hn
    simp only [Prod.mk.injEq, and_true] at h
    obtain ⟨rfl, rfl⟩ := h
    rw [Int.toNat_natCast]
    refine ⟨by cases bad; rfl; exact absurd (Or.inl rfl) hn, (List.take_append_drop _ _).symm, ?_⟩
    rw [List.length_take]
    omega
theorem flagP_back {xs ys : List Int} {bad f : Bool} (hb : ∀ c ∈ xs, 0 ≤ c ∧ c < 256) (h : flagP xs bad = (f, ys, false)) : bad = false ∧ xs = [if f then 1 else 0] ++ ys := by
  unfold flagP at h
  split at h
  · simp at h
  · rename_i hn
    simp only [Prod.mk.injEq, and_true] at h
    obtain ⟨rfl, rfl⟩ := h
    refine ⟨by cases bad; rfl; exact absurd (Or.inl rfl) hn, ?_⟩
    cases xs with
    | nil => exact absurd (Or.inr (Or.inl rfl)) hn
    | cons x l =>
      have h1 := hb x (List.mem_cons_self ..)
      have h2 : ¬ 1 < x := fun q => hn (Or.inr (Or.inr q))
      rcases (by omega : x = 0 ∨ x = 1) with rfl | rfl <;> rfl
theorem tokS_back {xs : List Int} {bad : Bool} : ∀ k, (tokS xs bad k).2 = false → bad = false ∧ ∀ ts : List (Nat → Int), (∀ i, i < k → ts.getD i (fun _ => 0) = tokX xs bad i) → xs = toksL ts k ++ (tokS xs bad k).1
  | 0, h => ⟨h, fun _ _ => rfl⟩
  | k + 1, h => by
    have h1 := rawP_back (xs := (tokS xs bad k).1) (bad := (tokS xs bad k).2) (k := 16) (R := (rawP (tokS xs bad k).1 (tokS xs bad k).2 16).1) (ys := (tokS xs bad (k + 1)).1) (Prod.ext rfl (Prod.ext rfl h))
    have h2 := tokS_back k h1.1
    refine ⟨h2.1, fun ts hts => ?_⟩
    rw [toksL, hts k (by omega), tokX, ln_arF 16 _ h1.2.2, List.append_assoc, ← h1.2.1]
    exact h2.2 ts (fun i hi => hts i (by omega))
theorem knS_back {xs : List Int} {bad : Bool} (hb : ∀ c ∈ xs, 0 ≤ c ∧ c < 256) : ∀ k, (knS xs bad k).2 = false → bad = false ∧ ∀ f : Nat → Int, (∀ i, i < k → f i = knX xs bad i) → xs = knL f k ++ (knS xs bad k).1
  | 0, h => ⟨h, fun _ _ => rfl⟩
  | k + 1, h => by
    have h1 := numP_back (xs := (knS xs bad k).1) (bad := (knS xs bad k).2) (most := 1048576) (v := knX xs bad k) (ys := (knS xs bad (k + 1)).1) (knS_byte hb k) (Prod.ext rfl (Prod.ext rfl h))
    have h2 := knS_back hb k h1.1
    refine ⟨h2.1, fun f hf => ?_⟩
    rw [knL, hf k (by omega), List.append_assoc, ← h1.2.1]
    exact h2.2 f (fun i hi => hf i (by omega))

/-- What is taken as a header is its bytes. -/
theorem hd_back {b : List Int} (hb : ∀ c ∈ b, 0 ≤ c ∧ c < 256) (h : hdTaken b = true) (a : Option Addr) (c : Nat) : b = bytesL (hdOf b a c) (tsOf b) := by
  unfold hdTaken at h
  simp only [Bool.and_eq_true, Bool.not_eq_true', decide_eq_true_eq] at h
  obtain ⟨⟨h0, h1⟩, hf⟩ := h
  have q11 := rawP_back (xs := (hq10 b).2.1) (bad := (hq10 b).2.2) (k := 32) (R := (hq11 b).1) (ys := (hq11 b).2.1) (Prod.ext rfl (Prod.ext rfl h0))
  have q10 := numP_back (xs := (hq9 b).2.1) (bad := (hq9 b).2.2) (most := 2064) (v := (hq10 b).1) (ys := (hq10 b).2.1) (hq9_byte hb) (Prod.ext rfl (Prod.ext rfl q11.1))
  have q9 := rawP_back (xs := (hqK b).1) (bad := (hqK b).2) (k := 32) (R := (hq9 b).1) (ys := (hq9 b).2.1) (Prod.ext rfl (Prod.ext rfl q10.1))
  have qK := knS_back (xs := (hqT b).1) (bad := (hqT b).2) (hqT_byte hb) 6 q9.1
  have qT := tokS_back (xs := (hq8 b).2.1) (bad := (hq8 b).2.2) (hq8 b).1.toNat qK.1
  have q8 := numP_back (xs := (hq7 b).2.1) (bad := (hq7 b).2.2) (most := 8) (v := (hq8 b).1) (ys := (hq8 b).2.1) (hq7_byte hb) (Prod.ext rfl (Prod.ext rfl qT.1))
  have q7 := rawP_back (xs := (hq6 b).2.1) (bad := (hq6 b).2.2) (k := 16) (R := (hq7 b).1) (ys := (hq7 b).2.1) (Prod.ext rfl (Prod.ext rfl q8.1))
  have q6 := numP_back (xs := (hq5 b).2.1) (bad := (hq5 b).2.2) (most := 1099511627776) (v := (hq6 b).1) (ys := (hq6 b).2.1) (hq5_byte hb) (Prod.ext rfl (Prod.ext rfl q7.1))
  have q5 := flagP_back (xs := (hq4 b).2.1) (bad := (hq4 b).2.2) (f := (hq5 b).1) (ys := (hq5 b).2.1) (hq4_byte hb) (Prod.ext rfl (Prod.ext rfl q6.1))
  have q4 := numP_back (xs := (hq3 b).2.1) (bad := (hq3 b).2.2) (most := 255) (v := (hq4 b).1) (ys := (hq4 b).2.1) (hq3_byte hb) (Prod.ext rfl (Prod.ext rfl q5.1))
  have q3 := rawP_back (xs := (hq2 b).2.1) (bad := (hq2 b).2.2) (k := 32) (R := (hq3 b).1) (ys := (hq3 b).2.1) (Prod.ext rfl (Prod.ext rfl q4.1))
  have q2 := numP_back (xs := (hq1 b).2.1) (bad := (hq1 b).2.2) (most := 1048576) (v := (hq2 b).1) (ys := (hq2 b).2.1) (hq1_byte hb) (Prod.ext rfl (Prod.ext rfl q3.1))
  have q1 := numP_back (xs := b) (bad := false) (most := 6) (v := (hq1 b).1) (ys := (hq1 b).2.1) hb (Prod.ext rfl (Prod.ext rfl q2.1))
  have e11 : (hq11 b).2.1 = [] := List.eq_nil_of_length_eq_zero h1
  have eT := qT.2 (tsOf b) (fun i hi => by
    unfold tsOf
    rw [List.getD_eq_getElem?_getD, List.getElem?_map, List.getElem?_range hi]
    rfl)
  have eK := qK.2 (hdOf b a c).knows (fun i hi => by
    show (if i < 6 then knX (hqT b).1 (hqT b).2 i else 0) = _
    rw [if_pos hi])
  unfold bytesL
  rw [hdOf_hdB, if_pos hf]
  have e8 : ((hdOf b a c).tn : Int) = (hq8 b).1 := by
    show (((hq8 b).1.toNat : Nat) : Int) = _
    have := q8.2.2.1
    omega
  unfold coreL
  rw [e8]
  show b = numL (hq1 b).1 ++ numL (hq2 b).1 ++ ln 32 (arF (hq3 b).1) ++ numL (hq4 b).1 ++ [if (hq5 b).1 then 1 else 0] ++ numL (hq6 b).1 ++ ln 16 (arF (hq7 b).1) ++ numL (hq8 b).1 ++ toksL (tsOf b) (hq8 b).1.toNat ++ knL (hdOf b a c).knows 6 ++ ln 32 (arF (hq9 b).1) ++ numL (hq10 b).1 ++ ln 32 (arF (hq11 b).1)
  rw [ln_arF 32 _ q3.2.2, ln_arF 16 _ q7.2.2, ln_arF 32 _ q9.2.2, ln_arF 32 _ q11.2.2]
  have f11 := q11.2.1
  rw [e11, List.append_nil] at f11
  simp only [List.append_assoc]
  rw [← f11, ← q10.2.1, ← q9.2.1]
  rw [show knL (hdOf b a c).knows 6 ++ (hqK b).1 = (hqT b).1 from eK.symm]
  rw [show toksL (tsOf b) (hq8 b).1.toNat ++ (hqT b).1 = (hq8 b).2.1 from eT.symm]
  rw [← q8.2.1, ← q7.2.1, ← q6.2.1, ← q5.2, ← q4.2.1, ← q3.2.1, ← q2.2.1]
  exact q1.2.1

end Go.Proofs.YtppidlpblkihbaaDoor
