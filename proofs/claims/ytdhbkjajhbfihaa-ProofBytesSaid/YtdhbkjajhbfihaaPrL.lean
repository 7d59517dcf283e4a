/-
  A proof's bytes: plain. No conditions.
-/
import Derived.Test.YtdhbkjajhbfihaaPr
import Derived.Test.YtdhbkjajhbfihaaPkP
import Derived.Test.YtdhbkjajhbfihaaHdBy
namespace Go.Proofs.Ytdhbkjajhbfihaa
open Go.ChangeShapes Go.WideShapes Go.ChangeAt Go.RowKit

/-- A proof's bytes. -/
def prL (p : Pr) : List Int :=
  numL p.kind ++ (if p.kind = 3 then numL p.writer ++ numL p.floor ++ numL p.head else textL (bytesL p.a.1 p.a.2) ++ (if p.kind = 4 then numL (p.wn : Int) ++ toksL p.ws p.wn else textL (bytesL p.b.1 p.b.2)))
/-- What a formed proof's numbers are. -/
theorem prB_kind {p : Pr} (h : prB p = true) : p.kind = 1 ∨ p.kind = 2 ∨ p.kind = 3 ∨ p.kind = 4 := by
  unfold prB at h
  split at h
  · omega
  · split at h
    · omega
    · simp only [Bool.and_eq_true, decide_eq_true_eq] at h
      omega
theorem prB_3 {p : Pr} (h : prB p = true) (hk : p.kind = 3) : 1 ≤ p.writer ∧ p.writer ≤ 6 ∧ p.head < p.floor ∧ p.floor ≤ 1048576 := by
  unfold prB at h
  rw [if_neg (by omega), if_pos hk] at h
  simp only [Bool.and_eq_true, decide_eq_true_eq] at h
  omega
theorem prB_4 {p : Pr} (h : prB p = true) (hk : p.kind = 4) : p.wn ≤ 8 := by
  unfold prB at h
  rw [if_neg (by omega), if_neg (by omega)] at h
  simp only [Bool.and_eq_true, decide_eq_true_eq] at h
  omega
theorem prL_le {p : Pr} (h : prB p = true) : (prL p).length ≤ 1000 := by
  have h1 := bytesL_le p.a.1 p.a.2
  have h2 := bytesL_le p.b.1 p.b.2
  have h3 := textL_le (bytesL p.a.1 p.a.2)
  have h4 := textL_le (bytesL p.b.1 p.b.2)
  have h5 := numL_length_le p.kind
  have h6 := numL_length_le p.writer
  have h7 := numL_length_le p.floor
  have h8 := numL_length_le p.head
  have h9 := numL_length_le (p.wn : Int)
  unfold prL
  split
  · simp only [List.length_append]; omega
  · split
    · rename_i hk
      have h10 := prB_4 h hk
      simp only [List.length_append, toksL_length]
      omega
    · simp only [List.length_append]; omega
theorem prL_byte {w : World} {p : Pr} (h : PrAt w p) (hf : prB p = true) : ∀ x ∈ prL p, 0 ≤ x ∧ x < 256 := by
  have hb1 := bytesL_byte h.a.ok h.a.toks.len h.a.toks.byte
  have hb2 := bytesL_byte h.b.ok h.b.toks.len h.b.toks.byte
  have hk := prB_kind hf
  intro x hx
  unfold prL at hx
  rcases List.mem_append.1 hx with h1 | h1
  · exact numL_byte _ (by omega) x h1
  · split at h1
    · rename_i hk3
      have h3 := prB_3 hf hk3
      have h4 := h.head
      rcases List.mem_append.1 h1 with h1 | h1
      · rcases List.mem_append.1 h1 with h1 | h1
        · exact numL_byte _ (by omega) x h1
        · exact numL_byte _ (by omega) x h1
      · exact numL_byte _ (by omega) x h1
    · rcases List.mem_append.1 h1 with h1 | h1
      · exact textL_byte hb1 x h1
      · split at h1
        · rcases List.mem_append.1 h1 with h1 | h1
          · exact numL_byte _ (by omega) x h1
          · exact toksL_byte _ h.toks.byte _ (by rw [h.toks.len]; exact Nat.le_refl _) x h1
        · exact textL_byte hb2 x h1

end Go.Proofs.Ytdhbkjajhbfihaa
