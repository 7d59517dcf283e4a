/-
  The bytes of a header, in plain words. No conditions.
-/
import Derived.Test.YtihlpfdhallfpaaDoorHdF
import Derived.Test.YtihlpfdhallfpaaDoorNum
namespace Go.Proofs.YtihlpfdhallfpaaDoor
open Go.ChangeShapes Go.WideShapes Go.ChangeAt Go.RowKit

def ln (n : Nat) (f : Nat → Int) : List Int := (List.range n).map f
theorem ln_length (n : Nat) (f : Nat → Int) : (ln n f).length = n := by simp [ln]
theorem ln_byte {n : Nat} {f : Nat → Int} (h : ∀ j, j < n → 0 ≤ f j ∧ f j < 256) : ∀ x ∈ ln n f, 0 ≤ x ∧ x < 256 := by
  intro x hx
  obtain ⟨j, hj, rfl⟩ := List.mem_map.1 hx
  exact h j (List.mem_range.1 hj)
def tok0 : Nat → Int := fun _ => 0
/-- The first k tokens' bytes. -/
def toksL (ts : List (Nat → Int)) : Nat → List Int
  | 0 => []
  | k + 1 => toksL ts k ++ ln 16 (ts.getD k fun _ => 0)
theorem toksL_length (ts : List (Nat → Int)) : ∀ k, (toksL ts k).length = 16 * k
  | 0 => rfl
  | k + 1 => by rw [toksL, List.length_append, toksL_length ts k, ln_length]; omega
theorem toksL_byte (ts : List (Nat → Int)) (h : ∀ t ∈ ts, ∀ j, j < 16 → 0 ≤ t j ∧ t j < 256) : ∀ k, k ≤ ts.length → ∀ x ∈ toksL ts k, 0 ≤ x ∧ x < 256
  | 0, _, x, hx => by cases hx
  | k + 1, hk, x, hx => by
    rw [toksL] at hx
    rcases List.mem_append.1 hx with h1 | h1
    · exact toksL_byte ts h k (by omega) x h1
    · refine ln_byte (fun j hj => ?_) x h1
      rw [List.getD_eq_getElem?_getD, List.getElem?_eq_getElem (by omega : k < ts.length)]
      exact h _ (List.getElem_mem _) j hj
/-- The first k known numbers' bytes. -/
def knL (kn : Nat → Int) : Nat → List Int
  | 0 => []
  | k + 1 => knL kn k ++ numL (kn k)
theorem knL_le (kn : Nat → Int) : ∀ k, (knL kn k).length ≤ 10 * k
  | 0 => Nat.le_refl _
  | k + 1 => by
    have h1 := knL_le kn k
    have h2 := numL_length_le (kn k)
    rw [knL, List.length_append]
    omega
theorem knL_byte (kn : Nat → Int) (h : ∀ j, j < 6 → 0 ≤ kn j) : ∀ k, k ≤ 6 → ∀ x ∈ knL kn k, 0 ≤ x ∧ x < 256
  | 0, _, x, hx => by cases hx
  | k + 1, hk, x, hx => by
    rw [knL] at hx
    rcases List.mem_append.1 hx with h1 | h1
    · exact knL_byte kn h k (by omega) x h1
    · exact numL_byte _ (h k (by omega)) x h1
/-- A header's core. -/
def coreL (h : Hd) (ts : List (Nat → Int)) : List Int :=
  numL h.writer ++ numL h.seq ++ ln 32 h.prev ++ numL h.epoch ++ [if h.ctl then 1 else 0] ++ numL h.time ++ ln 16 h.item ++ numL (h.tn : Int) ++ toksL ts h.tn ++ knL h.knows 6 ++ ln 32 h.sum ++ numL h.size
/-- A formed header's bytes; none of another one. -/
def bytesL (h : Hd) (ts : List (Nat → Int)) : List Int := if hdB h ts = true then coreL h ts ++ ln 32 h.code else []

theorem hdB_bd {h : Hd} {ts : List (Nat → Int)} (hf : hdB h ts = true) : (1 ≤ h.writer ∧ h.writer ≤ 6) ∧ (1 ≤ h.seq ∧ h.seq ≤ 1048576) ∧ (0 ≤ h.epoch ∧ h.epoch ≤ 255) ∧ h.time ≤ 1099511627776 ∧ h.tn ≤ 8 ∧ (80 ≤ h.size ∧ h.size ≤ 2064) ∧ (∀ j, j < 6 → h.knows j ≤ 1048576) := by
  unfold hdB at hf
  simp only [Bool.and_eq_true] at hf
  obtain ⟨⟨⟨⟨h1, h2⟩, _⟩, h4⟩, _⟩ := hf
  unfold placedB at h1
  simp only [Bool.and_eq_true] at h1
  obtain ⟨h5, h6, _⟩ := h1
  have h7 := of_decide_eq_true h5
  have h8 := of_decide_eq_true h4
  have h9 := of_decide_eq_true h2
  refine ⟨⟨by omega, by omega⟩, ⟨by omega, by omega⟩, ⟨by omega, by omega⟩, by omega, h9, ⟨by omega, by omega⟩, fun j hj => ?_⟩
  unfold knB at h6
  rw [List.all_eq_true] at h6
  exact of_decide_eq_true (h6 j (List.mem_range.2 hj))

theorem coreL_byte {h : Hd} {ts : List (Nat → Int)} (hf : hdB h ts = true) (ho : HdOk h) (hl : ts.length = h.tn) (ht : ∀ t ∈ ts, ∀ j, j < 16 → 0 ≤ t j ∧ t j < 256) : ∀ x ∈ coreL h ts, 0 ≤ x ∧ x < 256 := by
  obtain ⟨b1, b2, b3, b4, b5, b6, b7⟩ := hdB_bd hf
  intro x hx
  unfold coreL at hx
  simp only [List.mem_append] at hx
  rcases hx with ((((((((((h1 | h1) | h1) | h1) | h1) | h1) | h1) | h1) | h1) | h1) | h1) | h1
  · exact numL_byte _ (by omega) x h1
  · exact numL_byte _ (by omega) x h1
  · exact ln_byte ho.prev x h1
  · exact numL_byte _ (by omega) x h1
  · simp only [List.mem_singleton] at h1
    subst h1
    split <;> omega
  · exact numL_byte _ ho.time.1 x h1
  · exact ln_byte ho.item x h1
  · exact numL_byte _ (by omega) x h1
  · exact toksL_byte ts ht _ (by omega) x h1
  · exact knL_byte _ (fun j hj => (ho.knows j hj).1) 6 (Nat.le_refl _) x h1
  · exact ln_byte ho.sum x h1
  · exact numL_byte _ (by omega) x h1
theorem coreL_le {h : Hd} {ts : List (Nat → Int)} (hf : hdB h ts = true) : (coreL h ts).length ≤ 400 := by
  obtain ⟨b1, b2, b3, b4, b5, b6, b7⟩ := hdB_bd hf
  unfold coreL
  simp only [List.length_append, ln_length, toksL_length, List.length_cons, List.length_nil]
  have n1 := numL_length_le h.writer
  have n2 := numL_length_le h.seq
  have n3 := numL_length_le h.epoch
  have n4 := numL_length_le h.time
  have n5 := numL_length_le (h.tn : Int)
  have n6 := numL_length_le h.size
  have n7 := knL_le h.knows 6
  omega

theorem own_mono {w : World} {B B' : Nat} {e : TypeId} {size : Nat} {v : Value} {n : Nat} {xs : List Value} (h : w.ownsRow B e size v n xs) (hB : B' ≤ B) : w.ownsRow B' e size v n xs := by
  refine ⟨h.1, ?_⟩
  rcases h.2 with hn | ⟨g, cap, cur, h1, h2, h3⟩
  · exact .inl hn
  · exact .inr ⟨g, cap, cur, h1, by omega, h3⟩
/-- A row's bytes as a slice of bytes. -/
theorem own_bsAt {w : World} {B : Nat} {v : Value} {xs : List Int} (h : w.ownsRow B 5 1 v xs.length (bv xs)) (hb : ∀ x ∈ xs, 0 ≤ x ∧ x < 256) (hs : xs.length ≤ 140737488355328) : ∃ a c, v = .slice a xs.length c ∧ BsAt w a xs.length c xs := by
  obtain ⟨a, c, rfl, hc1, hc2⟩ := owns_slice h
  exact ⟨a, c, rfl, owns_bs h hb (by unfold maxLen at hc2; omega) hs⟩
theorem bytesL_byte {h : Hd} {ts : List (Nat → Int)} (ho : HdOk h) (hl : ts.length = h.tn) (ht : ∀ t ∈ ts, ∀ j, j < 16 → 0 ≤ t j ∧ t j < 256) : ∀ x ∈ bytesL h ts, 0 ≤ x ∧ x < 256 := by
  intro x hx
  unfold bytesL at hx
  split at hx
  · rename_i hf
    rcases List.mem_append.1 hx with h1 | h1
    · exact coreL_byte hf ho hl ht x h1
    · exact ln_byte ho.code x h1
  · cases hx
theorem bytesL_le (h : Hd) (ts : List (Nat → Int)) : (bytesL h ts).length ≤ 432 := by
  unfold bytesL
  split
  · rename_i hf
    have := coreL_le hf
    rw [List.length_append, ln_length]
    omega
  · simp

end Go.Proofs.YtihlpfdhallfpaaDoor
