/-
  What is taken of bytes, and packed: plain; what is taken was packed so, and the other way round. No conditions.
-/
import Derived.Test.YtdhbkjajhbfihaaPackO
namespace Go.Proofs.Ytdhbkjajhbfihaa
open Go.ChangeShapes Go.WideShapes Go.ChangeAt Go.RowKit

/-- What Num takes: the number, what is left, whether it has failed. -/
def numP (xs : List Int) (bad : Bool) (most : Int) : Int × List Int × Bool :=
  if bad = true ∨ (numT xs).2 = 0 ∨ most < (numT xs).1 then (0, xs, true) else ((numT xs).1, xs.drop (numT xs).2, false)

/-- What Raw takes: the bytes, what is left, whether it has failed. -/
def rawP (xs : List Int) (bad : Bool) (k : Int) : List Int × List Int × Bool :=
  if bad = true ∨ k < 0 ∨ (xs.length : Int) < k then ([], xs, true) else (xs.take k.toNat, xs.drop k.toNat, false)

/-- What Text takes: the bytes, what is left, whether it has failed. -/
def textP (xs : List Int) (bad : Bool) (most : Int) : List Int × List Int × Bool :=
  if bad = true ∨ (numT xs).2 = 0 ∨ most < 0 ∨ min (min most 4096) ((xs.length : Int) - (numT xs).2) < (numT xs).1 then ([], xs, true)
  else ((xs.drop (numT xs).2).take (numT xs).1.toNat, (xs.drop (numT xs).2).drop (numT xs).1.toNat, false)

/-- What Flag takes. -/
def flagP (xs : List Int) (bad : Bool) : Bool × List Int × Bool :=
  if bad = true ∨ xs.length = 0 ∨ 1 < xs.getD 0 0 then (false, xs, true) else (decide (xs.getD 0 0 = 1), xs.tail, false)

theorem numP_back {xs ys : List Int} {bad : Bool} {most v : Int} (hb : ∀ c ∈ xs, 0 ≤ c ∧ c < 256) (h : numP xs bad most = (v, ys, false)) : bad = false ∧ xs = numL v ++ ys ∧ 0 ≤ v ∧ v ≤ most ∧ v < 18446744073709551616 := by
  unfold numP at h
  split at h
  · simp at h
  · rename_i hn
    rw [not_or, not_or] at hn
    obtain ⟨h1, h2, h3⟩ := hn
    simp only [Prod.mk.injEq, and_true] at h
    obtain ⟨rfl, rfl⟩ := h
    obtain ⟨k0, k1, k2, k3⟩ := numT_back hb (x := (numT xs).1) (m := (numT xs).2) rfl (by omega)
    refine ⟨by simpa using h1, ?_, k0, by omega, k1⟩
    rw [← k3, List.take_append_drop]

theorem numP_fwd (x most : Int) (r : List Int) (h0 : 0 ≤ x) (h1 : x ≤ most) (h2 : x < 18446744073709551616) : numP (numL x ++ r) false most = (x, r, false) := by
  unfold numP
  have hl := numL_length_pos x
  rw [numT_numL x r h0 h2, if_neg (by simp only [Bool.false_eq_true, false_or]; omega)]
  simp

theorem textP_back {xs t ys : List Int} {bad : Bool} {most : Int} (hb : ∀ c ∈ xs, 0 ≤ c ∧ c < 256) (h : textP xs bad most = (t, ys, false)) : bad = false ∧ xs = textL t ++ ys ∧ (t.length : Int) ≤ most ∧ t.length ≤ 4096 := by
  unfold textP at h
  split at h
  · simp at h
  · rename_i hn
    rw [not_or, not_or, not_or] at hn
    obtain ⟨h1, h2, h3, h4⟩ := hn
    simp only [Prod.mk.injEq, and_true] at h
    obtain ⟨rfl, rfl⟩ := h
    obtain ⟨k0, k1, k2, k3⟩ := numT_back hb (x := (numT xs).1) (m := (numT xs).2) rfl (by omega)
    have hlen : (((xs.drop (numT xs).2).take (numT xs).1.toNat).length : Int) = (numT xs).1 := by
      rw [List.length_take, List.length_drop]
      omega
    refine ⟨by simpa using h1, ?_, by omega, by omega⟩
    unfold textL
    rw [hlen, ← k3, List.append_assoc, List.take_append_drop, List.take_append_drop]

theorem textP_fwd (t : List Int) (most : Int) (r : List Int) (h0 : (t.length : Int) ≤ most) (h1 : t.length ≤ 4096) : textP (textL t ++ r) false most = (t, r, false) := by
  unfold textP textL
  have hl := numL_length_pos (t.length : Int)
  rw [List.append_assoc, numT_numL _ _ (by omega) (by omega), if_neg ?_]
  · simp
  · rw [not_or, not_or, not_or]
    refine ⟨by simp, by omega, by omega, ?_⟩
    simp only [List.length_append]
    omega

theorem numP_byte {xs : List Int} {bad : Bool} {most : Int} (hb : ∀ c ∈ xs, 0 ≤ c ∧ c < 256) : ∀ c ∈ (numP xs bad most).2.1, 0 ≤ c ∧ c < 256 := by
  unfold numP
  split
  · exact hb
  · exact fun c hc => hb c (List.mem_of_mem_drop hc)
theorem textP_byte {xs : List Int} {bad : Bool} {most : Int} (hb : ∀ c ∈ xs, 0 ≤ c ∧ c < 256) : ∀ c ∈ (textP xs bad most).2.1, 0 ≤ c ∧ c < 256 := by
  unfold textP
  split
  · exact hb
  · exact fun c hc => hb c (List.mem_of_mem_drop (List.mem_of_mem_drop hc))
theorem textP_byte1 {xs : List Int} {bad : Bool} {most : Int} (hb : ∀ c ∈ xs, 0 ≤ c ∧ c < 256) : ∀ c ∈ (textP xs bad most).1, 0 ≤ c ∧ c < 256 := by
  unfold textP
  split
  · exact fun c hc => by cases hc
  · exact fun c hc => hb c (List.mem_of_mem_drop (List.mem_of_mem_take hc))
theorem textP_le {xs : List Int} {bad : Bool} {most : Int} : (textP xs bad most).1.length ≤ xs.length := by
  unfold textP
  split
  · simp
  · simp only [List.length_take, List.length_drop]
    omega
theorem textP_le1 {xs : List Int} {bad : Bool} {most : Int} (hb : ∀ c ∈ xs, 0 ≤ c ∧ c < 256) (h0 : 0 ≤ most) : ((textP xs bad most).1.length : Int) ≤ most := by
  cases h : (textP xs bad most).2.2 with
  | false => exact (textP_back hb (t := (textP xs bad most).1) (ys := (textP xs bad most).2.1) (Prod.ext rfl (Prod.ext rfl h))).2.2.1
  | true =>
    unfold textP at h ⊢
    split at h
    · rename_i hc
      rw [if_pos hc]
      simpa using h0
    · simp at h

theorem textL_byte {xs : List Int} (h : ∀ x ∈ xs, 0 ≤ x ∧ x < 256) : ∀ x ∈ textL xs, 0 ≤ x ∧ x < 256 := by
  intro x hx
  rw [textL] at hx
  rcases List.mem_append.1 hx with h1 | h1
  · exact numL_byte _ (by omega) x h1
  · exact h x h1
theorem textL_le (xs : List Int) : (textL xs).length ≤ 10 + xs.length := by
  have h3 := numL_length_le (xs.length : Int)
  rw [textL, List.length_append]
  omega
theorem numP_bd {xs : List Int} {bad : Bool} {most : Int} (hb : ∀ c ∈ xs, 0 ≤ c ∧ c < 256) (h0 : 0 ≤ most) : 0 ≤ (numP xs bad most).1 ∧ (numP xs bad most).1 ≤ most := by
  unfold numP
  split
  · exact ⟨Int.le_refl _, h0⟩
  · rename_i hn
    rw [not_or, not_or] at hn
    have := numT_back hb (x := (numT xs).1) (m := (numT xs).2) rfl (by omega)
    exact ⟨this.1, by omega⟩

end Go.Proofs.Ytdhbkjajhbfihaa
