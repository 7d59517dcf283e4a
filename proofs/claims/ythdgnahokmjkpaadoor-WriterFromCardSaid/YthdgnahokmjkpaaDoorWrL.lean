/-
  What a chain has taken is formed, and linked: plain laws. No conditions.
-/
import Derived.Test.YthdgnahokmjkpaaDoorLinked
namespace Go.Proofs.YthdgnahokmjkpaaDoor
open Go.ChangeShapes Go.WideShapes Go.ChangeAt Go.RowKit

def LkS (wv : Int) (lh : List HT) : Prop := ∀ i, i < lh.length → hdB (lh.getD i htN).1 (lh.getD i htN).2 = true ∧ (lh.getD i htN).1.writer = wv ∧ (lh.getD i htN).1.seq = (i : Int) + 1 ∧ (0 < i → arrB 32 (lh.getD i htN).1.prev (shaF (bytesL (lh.getD (i - 1) htN).1 (lh.getD (i - 1) htN).2)) = true)
theorem LkS.nil (wv : Int) : LkS wv [] := fun i hi => by simp at hi
theorem getD_left (l : List HT) (y : HT) (i : Nat) (h : i < l.length) : (l ++ [y]).getD i htN = l.getD i htN := by
  rw [List.getD_eq_getElem?_getD, List.getElem?_append_left h, ← List.getD_eq_getElem?_getD]
theorem getD_last (l : List HT) (y : HT) : (l ++ [y]).getD l.length htN = y := by
  rw [List.getD_eq_getElem?_getD, List.getElem?_append_right (Nat.le_refl _), Nat.sub_self]
  rfl
/-- What is asked of and told OK. -/
theorem askV_ok {wv : Int} {lc : List HT} {T : Nat → Int} {y : HT} (h : askV wv lc T y = 0) : hdB y.1 y.2 = true ∧ y.1.writer = wv ∧ y.1.seq = (lc.length : Int) + 1 ∧ arrB 32 y.1.prev T = true := by
  unfold askV at h
  split at h
  · omega
  · rename_i h1
    have hf : hdB y.1 y.2 = true := by
      cases hq : hdB y.1 y.2 with
      | true => rfl
      | false => exact absurd (Or.inl hq) h1
    have hw : y.1.writer = wv := by
      by_cases hq : y.1.writer = wv
      · exact hq
      · exact absurd (Or.inr hq) h1
    have hbd := hdB_bd hf
    split at h
    · split at h <;> omega
    · rename_i h2
      split at h
      · omega
      · rename_i h3
        split at h
        · rename_i h4
          exact ⟨hf, hw, by omega, h4⟩
        · omega
theorem LkS.push {wv : Int} {lc lh : List HT} {y : HT} (h : LkS wv lh) (hl : lc.length = lh.length) (ha : askV wv lc (tipF lh) y = 0) : LkS wv (lh ++ [y]) := by
  obtain ⟨h1, h2, h3, h4⟩ := askV_ok ha
  intro i hi
  rw [List.length_append] at hi
  have hi2 : i < lh.length + 1 := hi
  by_cases hlt : i < lh.length
  · rw [getD_left lh y i hlt]
    obtain ⟨a1, a2, a3, a4⟩ := h i hlt
    refine ⟨a1, a2, a3, fun h0 => ?_⟩
    rw [getD_left lh y (i - 1) (by omega)]
    exact a4 h0
  · obtain rfl : i = lh.length := by omega
    rw [getD_last]
    refine ⟨h1, h2, by rw [← hl]; exact h3, fun h0 => ?_⟩
    rw [getD_left lh y (lh.length - 1) (by omega)]
    unfold tipF at h4
    rw [if_neg (by omega)] at h4
    exact h4
/-- A run of them, each with tokens of its own, is linked. -/
theorem LkS.run {wv : Int} {lh lo : List HT} {q : Nat} (h : LkS wv lh) (hq : q + lo.length ≤ lh.length) (hs : lh.length ≤ 100000)
    (hl : ∀ x ∈ lh, x.2.length = x.1.tn) (hlo : ∀ x ∈ lo, x.2.length = x.1.tn) (he : ∀ i, i < lo.length → HdEq (lo.getD i htN).1 (lh.getD (q + i) htN).1 (lo.getD i htN).2 (lh.getD (q + i) htN).2) : lkFrom lo lo.length 0 = true := by
  have mem : ∀ (l : List HT) i, i < l.length → l.getD i htN ∈ l := fun l i hi => by
    rw [List.getD_eq_getElem?_getD, List.getElem?_eq_getElem hi]
    exact List.getElem_mem _
  rw [lkFrom_iff]
  intro i hi _
  have e1 := he i hi
  obtain ⟨a1, a2, a3, a4⟩ := h (q + i) (by omega)
  unfold lkJ
  rw [hdB_congr (hl _ (mem lh (q + i) (by omega))) (hlo _ (mem lo i hi)) e1.symm a1, Bool.true_and]
  by_cases h0 : i = 0
  · rw [decide_eq_true h0]
    rfl
  · rw [decide_eq_false h0, Bool.false_or]
    have e2 := he (i - 1) (by omega)
    obtain ⟨b1, b2, b3, _⟩ := h (q + (i - 1)) (by omega)
    rw [e1.writer, e2.writer, a2, b2, beq_self_eq_true, Bool.true_and, e1.seq, e2.seq, a3, b3]
    have hw : IntKind.u64.wrap (((q + (i - 1) : Nat) : Int) + 1 + 1) = ((q + i : Nat) : Int) + 1 := by
      rw [IntKind.wrap_u64]
      omega
    rw [hw, beq_self_eq_true, Bool.true_and]
    have h5 := a4 (by omega)
    rw [show q + i - 1 = q + (i - 1) by omega, ← bytesL_congr (hlo _ (mem lo (i - 1) (by omega))) (hl _ (mem lh (q + (i - 1)) (by omega))) e2] at h5
    unfold arrB at h5 ⊢
    have h6 := of_decide_eq_true h5
    exact decide_eq_true fun j hj => by rw [e1.prev j hj]; exact h6 j hj

end Go.Proofs.YthdgnahokmjkpaaDoor
