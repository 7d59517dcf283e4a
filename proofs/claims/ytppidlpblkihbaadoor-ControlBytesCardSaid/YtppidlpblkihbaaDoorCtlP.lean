/-
  What a control's bytes are parsed as, and what it is packed to: plain laws. No conditions.
-/
import Derived.Test.YtppidlpblkihbaaDoorRefText
namespace Go.Proofs.YtppidlpblkihbaaDoor
open Go.ChangeShapes Go.WideShapes Go.ChangeAt Go.RowKit

theorem numP_back {xs ys : List Int} {bad : Bool} {most v : Int} (hb : ∀ c ∈ xs, 0 ≤ c ∧ c < 256) (h : numP xs bad most = (v, ys, false)) : bad = false ∧ xs = numL v ++ ys ∧ 0 ≤ v ∧ v ≤ most ∧ v < 18446744073709551616 := by
  unfold numP at h
  split at h
  · simp at h
  · rename_i hn
    rw [not_or, not_or] at hn
    obtain ⟨h1, h2, h3⟩ := hn
    simp only [Prod.mk.injEq, and_true] at h
    obtain ⟨rfl, rfl⟩ := h
    obtain ⟨k0, k1, k2, k3⟩ := numT_back hb (x := (numT xs).1) (m := (numT xs).2) rfl (by omega)
    refine ⟨by simpa using h1, ?_, k0, by omega, k1⟩
    rw [← k3, List.take_append_drop]

theorem numP_fwd (x most : Int) (r : List Int) (h0 : 0 ≤ x) (h1 : x ≤ most) (h2 : x < 18446744073709551616) : numP (numL x ++ r) false most = (x, r, false) := by
  unfold numP
  have hl := numL_length_pos x
  rw [numT_numL x r h0 h2, if_neg (by simp only [Bool.false_eq_true, false_or]; omega)]
  simp

theorem textP_back {xs t ys : List Int} {bad : Bool} {most : Int} (hb : ∀ c ∈ xs, 0 ≤ c ∧ c < 256) (h : textP xs bad most = (t, ys, false)) : bad = false ∧ xs = textL t ++ ys ∧ (t.length : Int) ≤ most ∧ t.length ≤ 4096 := by
  unfold textP at h
  split at h
  · simp at h
  · rename_i hn
    rw [not_or, not_or, not_or] at hn
    obtain ⟨h1, h2, h3, h4⟩ := hn
    simp only [Prod.mk.injEq, and_true] at h
    obtain ⟨rfl, rfl⟩ := h
    obtain ⟨k0, k1, k2, k3⟩ := numT_back hb (x := (numT xs).1) (m := (numT xs).2) rfl (by omega)
    have hlen : (((xs.drop (numT xs).2).take (numT xs).1.toNat).length : Int) = (numT xs).1 := by
      rw [List.length_take, List.length_drop]
      omega
    refine ⟨by simpa using h1, ?_, by omega, by omega⟩
    unfold textL
    rw [hlen, ← k3, List.append_assoc, List.take_append_drop, List.take_append_drop]

theorem textP_fwd (t : List Int) (most : Int) (r : List Int) (h0 : (t.length : Int) ≤ most) (h1 : t.length ≤ 4096) : textP (textL t ++ r) false most = (t, r, false) := by
  unfold textP textL
  have hl := numL_length_pos (t.length : Int)
  rw [List.append_assoc, numT_numL _ _ (by omega) (by omega), if_neg ?_]
  · simp
  · rw [not_or, not_or, not_or]
    refine ⟨by simp, by omega, by omega, ?_⟩
    simp only [List.length_append]
    omega

theorem numP_byte {xs : List Int} {bad : Bool} {most : Int} (hb : ∀ c ∈ xs, 0 ≤ c ∧ c < 256) : ∀ c ∈ (numP xs bad most).2.1, 0 ≤ c ∧ c < 256 := by
  unfold numP
  split
  · exact hb
  · exact fun c hc => hb c (List.mem_of_mem_drop hc)
theorem textP_byte {xs : List Int} {bad : Bool} {most : Int} (hb : ∀ c ∈ xs, 0 ≤ c ∧ c < 256) : ∀ c ∈ (textP xs bad most).2.1, 0 ≤ c ∧ c < 256 := by
  unfold textP
  split
  · exact hb
  · exact fun c hc => hb c (List.mem_of_mem_drop (List.mem_of_mem_drop hc))
theorem textP_byte1 {xs : List Int} {bad : Bool} {most : Int} (hb : ∀ c ∈ xs, 0 ≤ c ∧ c < 256) : ∀ c ∈ (textP xs bad most).1, 0 ≤ c ∧ c < 256 := by
  unfold textP
  split
  · exact fun c hc => by cases hc
  · exact fun c hc => hb c (List.mem_of_mem_drop (List.mem_of_mem_take hc))
theorem textP_le {xs : List Int} {bad : Bool} {most : Int} : (textP xs bad most).1.length ≤ xs.length := by
  unfold textP
  split
  · simp
  · simp only [List.length_take, List.length_drop]
    omega
theorem textP_le1 {xs : List Int} {bad : Bool} {most : Int} (hb : ∀ c ∈ xs, 0 ≤ c ∧ c < 256) (h0 : 0 ≤ most) : ((textP xs bad most).1.length : Int) ≤ most := by
  cases h : (textP xs bad most).2.2 with
  | false => exact (textP_back hb (t := (textP xs bad most).1) (ys := (textP xs bad most).2.1) (Prod.ext rfl (Prod.ext rfl h))).2.2.1
  | true =>
    unfold textP at h ⊢
    split at h
    · rename_i hc
      rw [if_pos hc]
      simpa using h0
    · simp at h

/-- What is left, and whether it has failed, where k slots were taken. -/
def slotS (xs : List Int) (bad : Bool) : Nat → List Int × Bool
  | 0 => (xs, bad)
  | k + 1 => (textP (slotS xs bad k).1 (slotS xs bad k).2 48).2
/-- The slot number k. -/
def slotX (xs : List Int) (bad : Bool) (k : Nat) : List Int := (textP (slotS xs bad k).1 (slotS xs bad k).2 48).1

theorem slotS_byte {xs : List Int} {bad : Bool} (hb : ∀ c ∈ xs, 0 ≤ c ∧ c < 256) : ∀ k, ∀ c ∈ (slotS xs bad k).1, 0 ≤ c ∧ c < 256
  | 0 => hb
  | k + 1 => textP_byte (slotS_byte hb k)

/-- Slots, one behind the other. -/
def slotsL (s : Nat → List Int) : Nat → List Int
  | 0 => []
  | k + 1 => slotsL s k ++ textL (s k)

theorem slotS_back {xs : List Int} {bad : Bool} (hb : ∀ c ∈ xs, 0 ≤ c ∧ c < 256) : ∀ k, (slotS xs bad k).2 = false → bad = false ∧ xs = slotsL (slotX xs bad) k ++ (slotS xs bad k).1
  | 0, h => ⟨h, rfl⟩
  | k + 1, h => by
    have h1 := textP_back (xs := (slotS xs bad k).1) (bad := (slotS xs bad k).2) (most := 48) (t := slotX xs bad k) (ys := (slotS xs bad (k + 1)).1) (slotS_byte hb k) (Prod.ext rfl (Prod.ext rfl h))
    have h2 := slotS_back hb k h1.1
    refine ⟨h2.1, ?_⟩
    rw [slotsL, List.append_assoc, ← h1.2.1]
    exact h2.2

theorem slotS_fwd (s : Nat → List Int) : ∀ (n : Nat) (r : List Int), (∀ k, k < n → (s k).length ≤ 48) → slotS (slotsL s n ++ r) false n = (r, false)
  | 0, _, _ => rfl
  | n + 1, r, h => by
    have h1 := slotS_fwd s n (textL (s n) ++ r) (fun k hk => h k (by omega))
    have h2 := h n (by omega)
    rw [slotS, slotsL, List.append_assoc, h1, textP_fwd _ _ _ (by omega) (by omega)]
theorem slotsL_part (s : Nat → List Int) (k : Nat) : ∀ n, k < n → ∃ r, slotsL s n = slotsL s k ++ (textL (s k) ++ r)
  | 0, h => by omega
  | n + 1, h => by
    by_cases hk : k = n
    · subst hk
      exact ⟨[], by rw [slotsL, List.append_nil]⟩
    · obtain ⟨r, hr⟩ := slotsL_part s k n (by omega)
      exact ⟨r ++ textL (s n), by rw [slotsL, hr]; simp⟩
theorem slotX_fwd (s : Nat → List Int) (r : List Int) (h : ∀ k, k < 6 → (s k).length ≤ 48) (k : Nat) (hk : k < 6) : slotX (slotsL s 6 ++ r) false k = s k := by
  obtain ⟨q, hq⟩ := slotsL_part s k 6 hk
  have h2 := h k hk
  unfold slotX
  rw [hq, List.append_assoc, slotS_fwd s k _ (fun j hj => h j (by omega)), List.append_assoc, textP_fwd _ _ _ (by omega) (by omega)]

/-- A control's parts as they are parsed. -/
structure Ctl where
  op : Int
  mem : Int
  cut : Int
  slots : Nat → List Int
  hand : List Int

def opS (b : List Int) := numP b false 5
def memS (b : List Int) := numP (opS b).2.1 (opS b).2.2 6
def cutS (b : List Int) := numP (memS b).2.1 (memS b).2.2 1048576
def slotQ (b : List Int) (k : Nat) := slotS (cutS b).2.1 (cutS b).2.2 k
def handS (b : List Int) := textP (slotQ b 6).1 (slotQ b 6).2 48
def ctlOf (b : List Int) : Ctl := ⟨(opS b).1, (memS b).1, (cutS b).1, slotX (cutS b).2.1 (cutS b).2.2, (handS b).1⟩

/-- A control's bytes. -/
def ctlL (c : Ctl) : List Int := numL c.op ++ numL c.mem ++ numL c.cut ++ slotsL c.slots 6 ++ textL c.hand

theorem textL_byte {xs : List Int} (h : ∀ x ∈ xs, 0 ≤ x ∧ x < 256) : ∀ x ∈ textL xs, 0 ≤ x ∧ x < 256 := by
  intro x hx
  rw [textL] at hx
  rcases List.mem_append.1 hx with h1 | h1
  · exact numL_byte _ (by omega) x h1
  · exact h x h1
theorem textL_le (xs : List Int) : (textL xs).length ≤ 10 + xs.length := by
  have h3 := numL_length_le (xs.length : Int)
  rw [textL, List.length_append]
  omega
theorem slotsL_byte (s : Nat → List Int) (hs : ∀ i, i < 6 → ∀ x ∈ s i, 0 ≤ x ∧ x < 256) : ∀ k, k ≤ 6 → ∀ x ∈ slotsL s k, 0 ≤ x ∧ x < 256
  | 0, _, x, hx => by cases hx
  | k + 1, h, x, hx => by
    rw [slotsL] at hx
    rcases List.mem_append.1 hx with h1 | h1
    · exact slotsL_byte s hs k (by omega) x h1
    · exact textL_byte (hs k (by omega)) x h1
theorem slotsL_le (s : Nat → List Int) (hs : ∀ i, i < 6 → (s i).length ≤ 48) : ∀ k, k ≤ 6 → (slotsL s k).length ≤ 58 * k
  | 0, _ => Nat.le_refl _
  | k + 1, h => by
    have h1 := slotsL_le s hs k (by omega)
    have h2 := hs k (by omega)
    have h3 := textL_le (s k)
    rw [slotsL, List.length_append]
    omega
theorem ctlL_byte (c : Ctl) (h1 : 0 ≤ c.op) (h2 : 0 ≤ c.mem) (h3 : 0 ≤ c.cut) (hs : ∀ i, i < 6 → ∀ x ∈ c.slots i, 0 ≤ x ∧ x < 256) (hh : ∀ x ∈ c.hand, 0 ≤ x ∧ x < 256) : ∀ x ∈ ctlL c, 0 ≤ x ∧ x < 256 := by
  intro x hx
  rw [ctlL] at hx
  simp only [List.mem_append] at hx
  rcases hx with (((h | h) | h) | h) | h
  · exact numL_byte _ h1 x h
  · exact numL_byte _ h2 x h
  · exact numL_byte _ h3 x h
  · exact slotsL_byte _ hs 6 (Nat.le_refl _) x h
  · exact textL_byte hh x h
theorem ctlL_le (c : Ctl) (hs : ∀ i, i < 6 → (c.slots i).length ≤ 48) (hh : c.hand.length ≤ 48) : (ctlL c).length ≤ 440 := by
  have h1 := slotsL_le c.slots hs 6 (Nat.le_refl _)
  have h2 := textL_le c.hand
  have h3 := numL_length_le c.op
  have h4 := numL_length_le c.mem
  have h5 := numL_length_le c.cut
  rw [ctlL]
  simp only [List.length_append]
  omega

theorem ctl_back {b : List Int} (hb : ∀ c ∈ b, 0 ≤ c ∧ c < 256) (hbad : (handS b).2.2 = false) (hend : (handS b).2.1 = []) : b = ctlL (ctlOf b) ∧ 0 ≤ (ctlOf b).op ∧ (ctlOf b).op ≤ 5 ∧ 0 ≤ (ctlOf b).mem ∧ (ctlOf b).mem ≤ 6 ∧ 0 ≤ (ctlOf b).cut ∧ (ctlOf b).cut ≤ 1048576 := by
  have b1 := numP_byte (bad := false) (most := 5) hb
  have b2 := numP_byte (bad := (opS b).2.2) (most := 6) b1
  have b3 := numP_byte (bad := (memS b).2.2) (most := 1048576) b2
  have b4 := slotS_byte (xs := (cutS b).2.1) (bad := (cutS b).2.2) b3 6
  have h5 := textP_back (xs := (slotQ b 6).1) (bad := (slotQ b 6).2) (most := 48) (t := (handS b).1) (ys := (handS b).2.1) b4 (Prod.ext rfl (Prod.ext rfl hbad))
  have h4 := slotS_back (xs := (cutS b).2.1) (bad := (cutS b).2.2) b3 6 h5.1
  have h3 := numP_back (xs := (memS b).2.1) (bad := (memS b).2.2) (most := 1048576) (v := (cutS b).1) (ys := (cutS b).2.1) b2 (Prod.ext rfl (Prod.ext rfl h4.1))
  have h2 := numP_back (xs := (opS b).2.1) (bad := (opS b).2.2) (most := 6) (v := (memS b).1) (ys := (memS b).2.1) b1 (Prod.ext rfl (Prod.ext rfl h3.1))
  have h1 := numP_back (xs := b) (bad := false) (most := 5) (v := (opS b).1) (ys := (opS b).2.1) hb (Prod.ext rfl (Prod.ext rfl h2.1))
  refine ⟨?_, h1.2.2.1, h1.2.2.2.1, h2.2.2.1, h2.2.2.2.1, h3.2.2.1, h3.2.2.2.1⟩
  have e5 := h5.2.1
  rw [hend, List.append_nil] at e5
  unfold ctlL ctlOf
  simp only
  rw [← e5, List.append_assoc, List.append_assoc, List.append_assoc]
  rw [show slotsL (slotX (cutS b).2.1 (cutS b).2.2) 6 ++ (slotQ b 6).1 = (cutS b).2.1 from h4.2.symm, ← h3.2.1, ← h2.2.1]
  exact h1.2.1

theorem ctl_fwd (c : Ctl) (h1 : 0 ≤ c.op ∧ c.op ≤ 5) (h2 : 0 ≤ c.mem ∧ c.mem ≤ 6) (h3 : 0 ≤ c.cut ∧ c.cut ≤ 1048576) (hs : ∀ k, k < 6 → (c.slots k).length ≤ 48) (hh : c.hand.length ≤ 48) :
    (ctlOf (ctlL c)).op = c.op ∧ (ctlOf (ctlL c)).mem = c.mem ∧ (ctlOf (ctlL c)).cut = c.cut ∧ (∀ k, k < 6 → (ctlOf (ctlL c)).slots k = c.slots k) ∧ (ctlOf (ctlL c)).hand = c.hand ∧ (handS (ctlL c)).2 = ([], false) := by
  have e1 : opS (ctlL c) = (c.op, numL c.mem ++ (numL c.cut ++ (slotsL c.slots 6 ++ (textL c.hand ++ []))), false) := by
    unfold opS ctlL
    rw [← numP_fwd c.op 5 _ h1.1 h1.2 (by omega)]
    simp
  have e2 : memS (ctlL c) = (c.mem, numL c.cut ++ (slotsL c.slots 6 ++ (textL c.hand ++ [])), false) := by
    unfold memS
    rw [e1]
    exact numP_fwd c.mem 6 _ h2.1 h2.2 (by omega)
  have e3 : cutS (ctlL c) = (c.cut, slotsL c.slots 6 ++ (textL c.hand ++ []), false) := by
    unfold cutS
    rw [e2]
    exact numP_fwd c.cut 1048576 _ h3.1 h3.2 (by omega)
  have e4 : slotQ (ctlL c) 6 = (textL c.hand ++ [], false) := by
    unfold slotQ
    rw [e3]
    exact slotS_fwd c.slots 6 _ hs
  have e5 : handS (ctlL c) = (c.hand, [], false) := by
    unfold handS
    rw [e4]
    exact textP_fwd c.hand 48 [] (by omega) (by omega)
  refine ⟨by unfold ctlOf; rw [e1], by unfold ctlOf; rw [e2], by unfold ctlOf; rw [e3], fun k hk => ?_, by unfold ctlOf; rw [e5], by rw [e5]⟩
  unfold ctlOf
  simp only
  rw [e3]
  exact slotX_fwd c.slots _ hs k hk

end Go.Proofs.YtppidlpblkihbaaDoor
