/-
  Names and rising tags, in plain words. No conditions.
-/
import Derived.Test.YtldaligeckjhaaaBase
namespace Go.Proofs.Ytldaligeckjhaaa

def lessS (a b : ByteArray) : Bool := Op.bytesLess a.toList b.toList
def nameB (s : ByteArray) : Bool := decide (1 ≤ s.size ∧ s.size ≤ 24)
def tagOk (ss : List ByteArray) (i : Nat) : Bool := nameB (ss.getD i ByteArray.empty) && (decide (i = 0) || lessS (ss.getD (i - 1) ByteArray.empty) (ss.getD i ByteArray.empty))
def tagsN (ss : List ByteArray) (k : Nat) : Bool := (List.range k).all (tagOk ss)
theorem tagsN_succ (ss : List ByteArray) (k : Nat) : tagsN ss (k + 1) = (tagsN ss k && tagOk ss k) := by
  unfold tagsN
  rw [List.range_succ, List.all_append]
  simp
theorem tagsN_bad (ss : List ByteArray) (k n : Nat) (hk : k < n) (h : tagOk ss k = false) : tagsN ss n = false := by
  unfold tagsN
  rw [List.all_eq_false]
  exact ⟨k, List.mem_range.2 hk, by simp [h]⟩
def tagsB (ss : List ByteArray) : Bool := tagsN ss ss.length && decide (ss.length ≤ 8)

theorem ba_empty {s : ByteArray} (h : s.size = 0) : s = ⟨#[]⟩ := by
  obtain ⟨d⟩ := s
  congr 1
  exact Array.eq_empty_of_size_eq_zero h
theorem ba_not {s : ByteArray} (h : ¬ s.size = 0) : s.toList.isEmpty = false ∧ ¬ s.toList = [] := by
  have h1 : s.toList.length = s.size := by rw [ByteArray.toList_eq, Array.length_toList]; rfl
  have h2 : ¬ s.toList = [] := fun e => by rw [e] at h1; simp at h1; omega
  exact ⟨by simpa using h2, h2⟩
theorem less_total : ∀ a b : List UInt8, (Op.bytesLess a b || a == b) = !(Op.bytesLess b a)
  | [], [] => rfl
  | [], _ :: _ => rfl
  | _ :: _, [] => rfl
  | x :: a, y :: b => by
    have ih := less_total a b
    simp only [Op.bytesLess]
    by_cases h : x < y
    · have h1 : ¬ y < x := by simp only [UInt8.lt_iff_toNat_lt] at *; omega
      have h2 : ¬ y = x := fun e => by subst e; exact h1 h
      simp [h, h1, h2]
    · by_cases h1 : y < x
      · have h2 : ¬ x = y := fun e => by subst e; exact h h1
        simp [h, h1, h2]
      · have h2 : x = y := by
          apply UInt8.toNat_inj.1
          simp only [UInt8.lt_iff_toNat_lt] at *
          omega
        subst h2
        simp only [h, decide_false, beq_self_eq_true, Bool.true_and, Bool.false_or]
        rw [← ih]
        simp

end Go.Proofs.Ytldaligeckjhaaa
