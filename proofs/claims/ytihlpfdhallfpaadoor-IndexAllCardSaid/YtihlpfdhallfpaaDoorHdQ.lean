/-
  What is taken of bytes, and packed: plain; what is taken was packed so, and the other way round. No conditions.
  What a header's bytes are parsed as: plain. No conditions.
  What is parsed as a header was packed so: plain laws. No conditions.
  A formed header's bytes are parsed as that header; equal bytes are the bytes of equal headers: plain laws. No conditions.
-/
import Derived.Test.YtihlpfdhallfpaaDoorPackO
import Derived.Test.YtihlpfdhallfpaaDoorHdBy
import Derived.Test.YtihlpfdhallfpaaDoorHdEq
namespace Go.Proofs.YtihlpfdhallfpaaDoor
open Go.ChangeAt Go.ChangeShapes Go.RowKit Go.WideShapes

/-- What Num takes: the number, what is left, whether it has failed. -/
def numP (xs : List Int) (bad : Bool) (most : Int) : Int × List Int × Bool :=
  if bad = true ∨ (numT xs).2 = 0 ∨ most < (numT xs).1 then (0, xs, true) else ((numT xs).1, xs.drop (numT xs).2, false)

/-- What Raw takes: the bytes, what is left, whether it has failed. -/
def rawP (xs : List Int) (bad : Bool) (k : Int) : List Int × List Int × Bool :=
  if bad = true ∨ k < 0 ∨ (xs.length : Int) < k then ([], xs, true) else (xs.take k.toNat, xs.drop k.toNat, false)

/-- What Text takes: the bytes, what is left, whether it has failed. -/
def textP (xs : List Int) (bad : Bool) (most : Int) : List Int × List Int × Bool :=
  if bad = true ∨ (numT xs).2 = 0 ∨ most < 0 ∨ min (min most 4096) ((xs.length : Int) - (numT xs).2) < (numT xs).1 then ([], xs, true)
  else ((xs.drop (numT xs).2).take (numT xs).1.toNat, (xs.drop (numT xs).2).drop (numT xs).1.toNat, false)

/-- What Flag takes. -/
def flagP (xs : List Int) (bad : Bool) : Bool × List Int × Bool :=
  if bad = true ∨ xs.length = 0 ∨ 1 < xs.getD 0 0 then (false, xs, true) else (decide (xs.getD 0 0 = 1), xs.tail, false)

theorem numP_back {xs ys : List Int} {bad : Bool} {most v : Int} (hb : ∀ c ∈ xs, 0 ≤ c ∧ c < 256) (h : numP xs bad most = (v, ys, false)) : bad = false ∧ xs = numL v ++ ys ∧ 0 ≤ v ∧ v ≤ most ∧ v < 18446744073709551616 := by
  unfold numP at h
  split at h
  · simp at h
  · rename_i hn
    rw [not_or, not_or] at hn
    obtain ⟨h1, h2, h3⟩ := hn
    simp only [Prod.mk.injEq, and_true] at h
    obtain ⟨rfl, rfl⟩ := h
    obtain ⟨k0, k1, k2, k3⟩ := numT_back hb (x := (numT xs).1) (m := (numT xs).2) rfl (by omega)
    refine ⟨by simpa using h1, ?_, k0, by omega, k1⟩
    rw [← k3, List.take_append_drop]

theorem numP_fwd (x most : Int) (r : List Int) (h0 : 0 ≤ x) (h1 : x ≤ most) (h2 : x < 18446744073709551616) : numP (numL x ++ r) false most = (x, r, false) := by
  unfold numP
  have hl := numL_length_pos x
  rw [numT_numL x r h0 h2, if_neg (by simp only [Bool.false_eq_true, false_or]; omega)]
  simp

theorem textP_back {xs t ys : List Int} {bad : Bool} {most : Int} (hb : ∀ c ∈ xs, 0 ≤ c ∧ c < 256) (h : textP xs bad most = (t, ys, false)) : bad = false ∧ xs = textL t ++ ys ∧ (t.length : Int) ≤ most ∧ t.length ≤ 4096 := by
  unfold textP at h
  split at h
  · simp at h
  · rename_i hn
    rw [not_or, not_or, not_or] at hn
    obtain ⟨h1, h2, h3, h4⟩ := hn
    simp only [Prod.mk.injEq, and_true] at h
    obtain ⟨rfl, rfl⟩ := h
    obtain ⟨k0, k1, k2, k3⟩ := numT_back hb (x := (numT xs).1) (m := (numT xs).2) rfl (by omega)
    have hlen : (((xs.drop (numT xs).2).take (numT xs).1.toNat).length : Int) = (numT xs).1 := by
      rw [List.length_take, List.length_drop]
      omega
    refine ⟨by simpa using h1, ?_, by omega, by omega⟩
    unfold textL
    rw [hlen, ← k3, List.append_assoc, List.take_append_drop, List.take_append_drop]

theorem textP_fwd (t : List Int) (most : Int) (r : List Int) (h0 : (t.length : Int) ≤ most) (h1 : t.length ≤ 4096) : textP (textL t ++ r) false most = (t, r, false) := by
  unfold textP textL
  have hl := numL_length_pos (t.length : Int)
  rw [List.append_assoc, numT_numL _ _ (by omega) (by omega), if_neg ?_]
  · simp
  · rw [not_or, not_or, not_or]
    refine ⟨by simp, by omega, by omega, ?_⟩
    simp only [List.length_append]
    omega

theorem numP_byte {xs : List Int} {bad : Bool} {most : Int} (hb : ∀ c ∈ xs, 0 ≤ c ∧ c < 256) : ∀ c ∈ (numP xs bad most).2.1, 0 ≤ c ∧ c < 256 := by
  unfold numP
  split
  · exact hb
  · exact fun c hc => hb c (List.mem_of_mem_drop hc)
theorem textP_byte {xs : List Int} {bad : Bool} {most : Int} (hb : ∀ c ∈ xs, 0 ≤ c ∧ c < 256) : ∀ c ∈ (textP xs bad most).2.1, 0 ≤ c ∧ c < 256 := by
  unfold textP
  split
  · exact hb
  · exact fun c hc => hb c (List.mem_of_mem_drop (List.mem_of_mem_drop hc))
theorem textP_byte1 {xs : List Int} {bad : Bool} {most : Int} (hb : ∀ c ∈ xs, 0 ≤ c ∧ c < 256) : ∀ c ∈ (textP xs bad most).1, 0 ≤ c ∧ c < 256 := by
  unfold textP
  split
  · exact fun c hc => by cases hc
  · exact fun c hc => hb c (List.mem_of_mem_drop (List.mem_of_mem_take hc))
theorem textP_le {xs : List Int} {bad : Bool} {most : Int} : (textP xs bad most).1.length ≤ xs.length := by
  unfold textP
  split
  · simp
  · simp only [List.length_take, List.length_drop]
    omega
theorem textP_le1 {xs : List Int} {bad : Bool} {most : Int} (hb : ∀ c ∈ xs, 0 ≤ c ∧ c < 256) (h0 : 0 ≤ most) : ((textP xs bad most).1.length : Int) ≤ most := by
  cases h : (textP xs bad most).2.2 with
  | false => exact (textP_back hb (t := (textP xs bad most).1) (ys := (textP xs bad most).2.1) (Prod.ext rfl (Prod.ext rfl h))).2.2.1
  | true =>
    unfold textP at h ⊢
    split at h
    · rename_i hc
      rw [if_pos hc]
      simpa using h0
    · simp at h

theorem textL_byte {xs : List Int} (h : ∀ x ∈ xs, 0 ≤ x ∧ x < 256) : ∀ x ∈ textL xs, 0 ≤ x ∧ x < 256 := by
  intro x hx
  rw [textL] at hx
  rcases List.mem_append.1 hx with h1 | h1
  · exact numL_byte _ (by omega) x h1
  · exact h x h1
theorem textL_le (xs : List Int) : (textL xs).length ≤ 10 + xs.length := by
  have h3 := numL_length_le (xs.length : Int)
  rw [textL, List.length_append]
  omega
theorem numP_bd {xs : List Int} {bad : Bool} {most : Int} (hb : ∀ c ∈ xs, 0 ≤ c ∧ c < 256) (h0 : 0 ≤ most) : 0 ≤ (numP xs bad most).1 ∧ (numP xs bad most).1 ≤ most := by
  unfold numP
  split
  · exact ⟨Int.le_refl _, h0⟩
  · rename_i hn
    rw [not_or, not_or] at hn
    have := numT_back hb (x := (numT xs).1) (m := (numT xs).2) rfl (by omega)
    exact ⟨this.1, by omega⟩

/-- An array's numbers, some bytes copied into it. -/
def arF (R : List Int) : Nat → Int := fun j => R.getD j 0

def tokS (xs : List Int) (bad : Bool) : Nat → List Int × Bool
  | 0 => (xs, bad)
  | k + 1 => (rawP (tokS xs bad k).1 (tokS xs bad k).2 16).2
def tokX (xs : List Int) (bad : Bool) (k : Nat) : Nat → Int := arF (rawP (tokS xs bad k).1 (tokS xs bad k).2 16).1
def knS (xs : List Int) (bad : Bool) : Nat → List Int × Bool
  | 0 => (xs, bad)
  | k + 1 => (numP (knS xs bad k).1 (knS xs bad k).2 1048576).2
def knX (xs : List Int) (bad : Bool) (k : Nat) : Int := (numP (knS xs bad k).1 (knS xs bad k).2 1048576).1

def hq1 (b : List Int) := numP b false 6
def hq2 (b : List Int) := numP (hq1 b).2.1 (hq1 b).2.2 1048576
def hq3 (b : List Int) := rawP (hq2 b).2.1 (hq2 b).2.2 32
def hq4 (b : List Int) := numP (hq3 b).2.1 (hq3 b).2.2 255
def hq5 (b : List Int) := flagP (hq4 b).2.1 (hq4 b).2.2
def hq6 (b : List Int) := numP (hq5 b).2.1 (hq5 b).2.2 1099511627776
def hq7 (b : List Int) := rawP (hq6 b).2.1 (hq6 b).2.2 16
def hq8 (b : List Int) := numP (hq7 b).2.1 (hq7 b).2.2 8
def hqT (b : List Int) := tokS (hq8 b).2.1 (hq8 b).2.2 (hq8 b).1.toNat
def hqK (b : List Int) := knS (hqT b).1 (hqT b).2 6
def hq9 (b : List Int) := rawP (hqK b).1 (hqK b).2 32
def hq10 (b : List Int) := numP (hq9 b).2.1 (hq9 b).2.2 2064
def hq11 (b : List Int) := rawP (hq10 b).2.1 (hq10 b).2.2 32

/-- The tokens that are parsed. -/
def tsOf (b : List Int) : List (Nat → Int) := (List.range (hq8 b).1.toNat).map (tokX (hq8 b).2.1 (hq8 b).2.2)
/-- The header that is parsed; its tokens lie at (a, c). -/
def hdOf (b : List Int) (a : Option Addr) (c : Nat) : Hd :=
  ⟨(hq1 b).1, (hq2 b).1, arF (hq3 b).1, (hq4 b).1, (hq5 b).1, (hq6 b).1, arF (hq7 b).1, a, (hq8 b).1.toNat, c, fun k => if k < 6 then knX (hqT b).1 (hqT b).2 k else 0, arF (hq9 b).1, (hq10 b).1, arF (hq11 b).1⟩
/-- Whether a header is taken of some bytes. -/
def hdTaken (b : List Int) : Bool := !(hq11 b).2.2 && decide ((hq11 b).2.1.length = 0) && hdB (hdOf b none 0) (tsOf b)
theorem hdOf_hdB (b : List Int) (a : Option Addr) (c : Nat) : hdB (hdOf b a c) (tsOf b) = hdB (hdOf b none 0) (tsOf b) := rfl

def hdZ : Hd := ⟨0, 0, fun _ => 0, 0, false, 0, fun _ => 0, none, 0, 0, fun _ => 0, fun _ => 0, 0, fun _ => 0⟩

theorem rawP_byte {xs : List Int} {bad : Bool} {k : Int} (hb : ∀ c ∈ xs, 0 ≤ c ∧ c < 256) : (∀ c ∈ (rawP xs bad k).1, 0 ≤ c ∧ c < 256) ∧ ∀ c ∈ (rawP xs bad k).2.1, 0 ≤ c ∧ c < 256 := by
  unfold rawP
  split
  · exact ⟨by simp, hb⟩
  · exact ⟨fun c hc => hb c (List.mem_of_mem_take hc), fun c hc => hb c (List.mem_of_mem_drop hc)⟩
theorem flagP_byte {xs : List Int} {bad : Bool} (hb : ∀ c ∈ xs, 0 ≤ c ∧ c < 256) : ∀ c ∈ (flagP xs bad).2.1, 0 ≤ c ∧ c < 256 := by
  unfold flagP
  split
  · exact hb
  · exact fun c hc => hb c (List.mem_of_mem_tail hc)
theorem arF_byte {R : List Int} (hb : ∀ c ∈ R, 0 ≤ c ∧ c < 256) : ∀ j, 0 ≤ arF R j ∧ arF R j < 256 := fun j => getD_byte hb j
theorem tokS_byte {xs : List Int} {bad : Bool} (hb : ∀ c ∈ xs, 0 ≤ c ∧ c < 256) : ∀ k, ∀ c ∈ (tokS xs bad k).1, 0 ≤ c ∧ c < 256
  | 0 => hb
  | k + 1 => (rawP_byte (tokS_byte hb k)).2
theorem tokX_byte {xs : List Int} {bad : Bool} (hb : ∀ c ∈ xs, 0 ≤ c ∧ c < 256) (k j : Nat) : 0 ≤ tokX xs bad k j ∧ tokX xs bad k j < 256 := arF_byte (rawP_byte (tokS_byte hb k)).1 j
theorem knS_byte {xs : List Int} {bad : Bool} (hb : ∀ c ∈ xs, 0 ≤ c ∧ c < 256) : ∀ k, ∀ c ∈ (knS xs bad k).1, 0 ≤ c ∧ c < 256
  | 0 => hb
  | k + 1 => numP_byte (knS_byte hb k)
theorem knX_bd {xs : List Int} {bad : Bool} (hb : ∀ c ∈ xs, 0 ≤ c ∧ c < 256) (k : Nat) : 0 ≤ knX xs bad k ∧ knX xs bad k ≤ 1048576 := numP_bd (knS_byte hb k) (by omega)

section
variable {b : List Int} (hb : ∀ c ∈ b, 0 ≤ c ∧ c < 256)
include hb
theorem hq1_byte : ∀ c ∈ (hq1 b).2.1, 0 ≤ c ∧ c < 256 := numP_byte hb
theorem hq2_byte : ∀ c ∈ (hq2 b).2.1, 0 ≤ c ∧ c < 256 := numP_byte (hq1_byte hb)
theorem hq3_byte : ∀ c ∈ (hq3 b).2.1, 0 ≤ c ∧ c < 256 := (rawP_byte (hq2_byte hb)).2
theorem hq4_byte : ∀ c ∈ (hq4 b).2.1, 0 ≤ c ∧ c < 256 := numP_byte (hq3_byte hb)
theorem hq5_byte : ∀ c ∈ (hq5 b).2.1, 0 ≤ c ∧ c < 256 := flagP_byte (hq4_byte hb)
theorem hq6_byte : ∀ c ∈ (hq6 b).2.1, 0 ≤ c ∧ c < 256 := numP_byte (hq5_byte hb)
theorem hq7_byte : ∀ c ∈ (hq7 b).2.1, 0 ≤ c ∧ c < 256 := (rawP_byte (hq6_byte hb)).2
theorem hq8_byte : ∀ c ∈ (hq8 b).2.1, 0 ≤ c ∧ c < 256 := numP_byte (hq7_byte hb)
theorem hqT_byte : ∀ c ∈ (hqT b).1, 0 ≤ c ∧ c < 256 := tokS_byte (hq8_byte hb) _
theorem hqK_byte : ∀ c ∈ (hqK b).1, 0 ≤ c ∧ c < 256 := knS_byte (hqT_byte hb) _
theorem hq9_byte : ∀ c ∈ (hq9 b).2.1, 0 ≤ c ∧ c < 256 := (rawP_byte (hqK_byte hb)).2
theorem hq10_byte : ∀ c ∈ (hq10 b).2.1, 0 ≤ c ∧ c < 256 := numP_byte (hq9_byte hb)
theorem hq1_bd : 0 ≤ (hq1 b).1 ∧ (hq1 b).1 ≤ 6 := numP_bd hb (by omega)
theorem hq2_bd : 0 ≤ (hq2 b).1 ∧ (hq2 b).1 ≤ 1048576 := numP_bd (hq1_byte hb) (by omega)
theorem hq4_bd : 0 ≤ (hq4 b).1 ∧ (hq4 b).1 ≤ 255 := numP_bd (hq3_byte hb) (by omega)
theorem hq6_bd : 0 ≤ (hq6 b).1 ∧ (hq6 b).1 ≤ 1099511627776 := numP_bd (hq5_byte hb) (by omega)
theorem hq8_bd : 0 ≤ (hq8 b).1 ∧ (hq8 b).1 ≤ 8 := numP_bd (hq7_byte hb) (by omega)
theorem hq10_bd : 0 ≤ (hq10 b).1 ∧ (hq10 b).1 ≤ 2064 := numP_bd (hq9_byte hb) (by omega)
theorem hdOf_ok (a : Option Addr) (c : Nat) : HdOk (hdOf b a c) := by
  have h1 := hq1_bd hb; have h2 := hq2_bd hb; have h4 := hq4_bd hb; have h6 := hq6_bd hb; have h10 := hq10_bd hb
  refine ⟨?_, ?_, fun j _ => arF_byte (rawP_byte (hq2_byte hb)).1 j, ?_, ?_, fun j _ => arF_byte (rawP_byte (hq6_byte hb)).1 j, fun j hj => ?_, fun j _ => arF_byte (rawP_byte (hqK_byte hb)).1 j, ?_, fun j _ => arF_byte (rawP_byte (hq10_byte hb)).1 j⟩
  · show -9223372036854775808 ≤ (hq1 b).1 ∧ (hq1 b).1 ≤ 9223372036854775807; omega
  · show 0 ≤ (hq2 b).1 ∧ (hq2 b).1 < 18446744073709551616; omega
  · show -9223372036854775808 ≤ (hq4 b).1 ∧ (hq4 b).1 ≤ 9223372036854775807; omega
  · show 0 ≤ (hq6 b).1 ∧ (hq6 b).1 < 18446744073709551616; omega
  · have h := knX_bd (bad := (hqT b).2) (hqT_byte hb) j
    show 0 ≤ (if j < 6 then knX (hqT b).1 (hqT b).2 j else 0) ∧ (if j < 6 then knX (hqT b).1 (hqT b).2 j else 0) < 18446744073709551616
    rw [if_pos hj]
    omega
  · show -9223372036854775808 ≤ (hq10 b).1 ∧ (hq10 b).1 ≤ 9223372036854775807; omega
theorem tsOf_byte : ∀ t ∈ tsOf b, ∀ j, j < 16 → 0 ≤ t j ∧ t j < 256 := by
  intro t ht j _
  obtain ⟨k, _, rfl⟩ := List.mem_map.1 ht
  exact tokX_byte (hq8_byte hb) k j
end

theorem ln_arF (n : Nat) (R : List Int) (h : R.length = n) : ln n (arF R) = R := by
  unfold ln arF
  apply List.ext_getElem
  · simp [h]
  · intro i h1 h2
    simp [List.getD_eq_getElem?_getD, List.getElem?_eq_getElem h2]
theorem rawP_back {xs R ys : List Int} {bad : Bool} {k : Nat} (h : rawP xs bad k = (R, ys, false)) : bad = false ∧ xs = R ++ ys ∧ R.length = k := by
  unfold rawP at h
  split at h
  · simp at h
  · rename_i hn
    simp only [Prod.mk.injEq, and_true] at h
    obtain ⟨rfl, rfl⟩ := h
    rw [Int.toNat_natCast]
    refine ⟨by cases bad; rfl; exact absurd (Or.inl rfl) hn, (List.take_append_drop _ _).symm, ?_⟩
    rw [List.length_take]
    omega
theorem flagP_back {xs ys : List Int} {bad f : Bool} (hb : ∀ c ∈ xs, 0 ≤ c ∧ c < 256) (h : flagP xs bad = (f, ys, false)) : bad = false ∧ xs = [if f then 1 else 0] ++ ys := by
  unfold flagP at h
  split at h
  · simp at h
  · rename_i hn
    simp only [Prod.mk.injEq, and_true] at h
    obtain ⟨rfl, rfl⟩ := h
    refine ⟨by cases bad; rfl; exact absurd (Or.inl rfl) hn, ?_⟩
    cases xs with
    | nil => exact absurd (Or.inr (Or.inl rfl)) hn
    | cons x l =>
      have h1 := hb x (List.mem_cons_self ..)
      have h2 : ¬ 1 < x := fun q => hn (Or.inr (Or.inr q))
      rcases (by omega : x = 0 ∨ x = 1) with rfl | rfl <;> rfl
theorem tokS_back {xs : List Int} {bad : Bool} : ∀ k, (tokS xs bad k).2 = false → bad = false ∧ ∀ ts : List (Nat → Int), (∀ i, i < k → ts.getD i (fun _ => 0) = tokX xs bad i) → xs = toksL ts k ++ (tokS xs bad k).1
  | 0, h => ⟨h, fun _ _ => rfl⟩
  | k + 1, h => by
    have h1 := rawP_back (xs := (tokS xs bad k).1) (bad := (tokS xs bad k).2) (k := 16) (R := (rawP (tokS xs bad k).1 (tokS xs bad k).2 16).1) (ys := (tokS xs bad (k + 1)).1) (Prod.ext rfl (Prod.ext rfl h))
    have h2 := tokS_back k h1.1
    refine ⟨h2.1, fun ts hts => ?_⟩
    rw [toksL, hts k (by omega), tokX, ln_arF 16 _ h1.2.2, List.append_assoc, ← h1.2.1]
    exact h2.2 ts (fun i hi => hts i (by omega))
theorem knS_back {xs : List Int} {bad : Bool} (hb : ∀ c ∈ xs, 0 ≤ c ∧ c < 256) : ∀ k, (knS xs bad k).2 = false → bad = false ∧ ∀ f : Nat → Int, (∀ i, i < k → f i = knX xs bad i) → xs = knL f k ++ (knS xs bad k).1
  | 0, h => ⟨h, fun _ _ => rfl⟩
  | k + 1, h => by
    have h1 := numP_back (xs := (knS xs bad k).1) (bad := (knS xs bad k).2) (most := 1048576) (v := knX xs bad k) (ys := (knS xs bad (k + 1)).1) (knS_byte hb k) (Prod.ext rfl (Prod.ext rfl h))
    have h2 := knS_back hb k h1.1
    refine ⟨h2.1, fun f hf => ?_⟩
    rw [knL, hf k (by omega), List.append_assoc, ← h1.2.1]
    exact h2.2 f (fun i hi => hf i (by omega))

/-- What is taken as a header is its bytes. -/
theorem hd_back {b : List Int} (hb : ∀ c ∈ b, 0 ≤ c ∧ c < 256) (h : hdTaken b = true) (a : Option Addr) (c : Nat) : b = bytesL (hdOf b a c) (tsOf b) := by
  unfold hdTaken at h
  simp only [Bool.and_eq_true, Bool.not_eq_true', decide_eq_true_eq] at h
  obtain ⟨⟨h0, h1⟩, hf⟩ := h
  have q11 := rawP_back (xs := (hq10 b).2.1) (bad := (hq10 b).2.2) (k := 32) (R := (hq11 b).1) (ys := (hq11 b).2.1) (Prod.ext rfl (Prod.ext rfl h0))
  have q10 := numP_back (xs := (hq9 b).2.1) (bad := (hq9 b).2.2) (most := 2064) (v := (hq10 b).1) (ys := (hq10 b).2.1) (hq9_byte hb) (Prod.ext rfl (Prod.ext rfl q11.1))
  have q9 := rawP_back (xs := (hqK b).1) (bad := (hqK b).2) (k := 32) (R := (hq9 b).1) (ys := (hq9 b).2.1) (Prod.ext rfl (Prod.ext rfl q10.1))
  have qK := knS_back (xs := (hqT b).1) (bad := (hqT b).2) (hqT_byte hb) 6 q9.1
  have qT := tokS_back (xs := (hq8 b).2.1) (bad := (hq8 b).2.2) (hq8 b).1.toNat qK.1
  have q8 := numP_back (xs := (hq7 b).2.1) (bad := (hq7 b).2.2) (most := 8) (v := (hq8 b).1) (ys := (hq8 b).2.1) (hq7_byte hb) (Prod.ext rfl (Prod.ext rfl qT.1))
  have q7 := rawP_back (xs := (hq6 b).2.1) (bad := (hq6 b).2.2) (k := 16) (R := (hq7 b).1) (ys := (hq7 b).2.1) (Prod.ext rfl (Prod.ext rfl q8.1))
  have q6 := numP_back (xs := (hq5 b).2.1) (bad := (hq5 b).2.2) (most := 1099511627776) (v := (hq6 b).1) (ys := (hq6 b).2.1) (hq5_byte hb) (Prod.ext rfl (Prod.ext rfl q7.1))
  have q5 := flagP_back (xs := (hq4 b).2.1) (bad := (hq4 b).2.2) (f := (hq5 b).1) (ys := (hq5 b).2.1) (hq4_byte hb) (Prod.ext rfl (Prod.ext rfl q6.1))
  have q4 := numP_back (xs := (hq3 b).2.1) (bad := (hq3 b).2.2) (most := 255) (v := (hq4 b).1) (ys := (hq4 b).2.1) (hq3_byte hb) (Prod.ext rfl (Prod.ext rfl q5.1))
  have q3 := rawP_back (xs := (hq2 b).2.1) (bad := (hq2 b).2.2) (k := 32) (R := (hq3 b).1) (ys := (hq3 b).2.1) (Prod.ext rfl (Prod.ext rfl q4.1))
  have q2 := numP_back (xs := (hq1 b).2.1) (bad := (hq1 b).2.2) (most := 1048576) (v := (hq2 b).1) (ys := (hq2 b).2.1) (hq1_byte hb) (Prod.ext rfl (Prod.ext rfl q3.1))
  have q1 := numP_back (xs := b) (bad := false) (most := 6) (v := (hq1 b).1) (ys := (hq1 b).2.1) hb (Prod.ext rfl (Prod.ext rfl q2.1))
  have e11 : (hq11 b).2.1 = [] := List.eq_nil_of_length_eq_zero h1
  have eT := qT.2 (tsOf b) (fun i hi => by
    unfold tsOf
    rw [List.getD_eq_getElem?_getD, List.getElem?_map, List.getElem?_range hi]
    rfl)
  have eK := qK.2 (hdOf b a c).knows (fun i hi => by
    show (if i < 6 then knX (hqT b).1 (hqT b).2 i else 0) = _
    rw [if_pos hi])
  unfold bytesL
  rw [hdOf_hdB, if_pos hf]
  have e8 : ((hdOf b a c).tn : Int) = (hq8 b).1 := by
    show (((hq8 b).1.toNat : Nat) : Int) = _
    have := q8.2.2.1
    omega
  unfold coreL
  rw [e8]
  show b = numL (hq1 b).1 ++ numL (hq2 b).1 ++ ln 32 (arF (hq3 b).1) ++ numL (hq4 b).1 ++ [if (hq5 b).1 then 1 else 0] ++ numL (hq6 b).1 ++ ln 16 (arF (hq7 b).1) ++ numL (hq8 b).1 ++ toksL (tsOf b) (hq8 b).1.toNat ++ knL (hdOf b a c).knows 6 ++ ln 32 (arF (hq9 b).1) ++ numL (hq10 b).1 ++ ln 32 (arF (hq11 b).1)
  rw [ln_arF 32 _ q3.2.2, ln_arF 16 _ q7.2.2, ln_arF 32 _ q9.2.2, ln_arF 32 _ q11.2.2]
  have f11 := q11.2.1
  rw [e11, List.append_nil] at f11
  simp only [List.append_assoc]
  rw [← f11, ← q10.2.1, ← q9.2.1]
  rw [show knL (hdOf b a c).knows 6 ++ (hqK b).1 = (hqT b).1 from eK.symm]
  rw [show toksL (tsOf b) (hq8 b).1.toNat ++ (hqT b).1 = (hq8 b).2.1 from eT.symm]
  rw [← q8.2.1, ← q7.2.1, ← q6.2.1, ← q5.2, ← q4.2.1, ← q3.2.1, ← q2.2.1]
  exact q1.2.1

theorem rawP_fwd (L r : List Int) (k : Nat) (h : L.length = k) : rawP (L ++ r) false k = (L, r, false) := by
  unfold rawP
  rw [if_neg (by simp only [Bool.false_eq_true, false_or, List.length_append]; omega)]
  subst h
  simp
theorem flagP_fwd (f : Bool) (r : List Int) : flagP ([if f then 1 else 0] ++ r) false = (f, r, false) := by
  unfold flagP
  cases f <;> simp
theorem tokS_fwd (ts : List (Nat → Int)) : ∀ (k : Nat) (r : List Int), tokS (toksL ts k ++ r) false k = (r, false)
  | 0, r => rfl
  | k + 1, r => by
    have h1 := tokS_fwd ts k (ln 16 (ts.getD k fun _ => 0) ++ r)
    rw [tokS, toksL, List.append_assoc, h1]
    simp only
    rw [show (16 : Int) = ((16 : Nat) : Int) from rfl, rawP_fwd _ r 16 (ln_length _ _)]
theorem toksL_split (ts : List (Nat → Int)) (i : Nat) : ∀ d, ∃ m, toksL ts (i + d) = toksL ts i ++ m
  | 0 => ⟨[], by simp⟩
  | d + 1 => by
    obtain ⟨m, hm⟩ := toksL_split ts i d
    exact ⟨m ++ ln 16 (ts.getD (i + d) fun _ => 0), by rw [show i + (d + 1) = (i + d) + 1 by omega, toksL, hm, List.append_assoc]⟩
theorem ln_getD (n : Nat) (f : Nat → Int) (j : Nat) (h : j < n) : (ln n f).getD j 0 = f j := by
  unfold ln
  rw [List.getD_eq_getElem?_getD, List.getElem?_map, List.getElem?_range h]
  rfl
theorem tokX_fwd (ts : List (Nat → Int)) (K i : Nat) (hi : i < K) (r : List Int) (j : Nat) (hj : j < 16) : tokX (toksL ts K ++ r) false i j = (ts.getD i fun _ => 0) j := by
  obtain ⟨m, hm⟩ := toksL_split ts (i + 1) (K - (i + 1))
  rw [show i + 1 + (K - (i + 1)) = K by omega] at hm
  unfold tokX
  rw [hm, toksL, List.append_assoc, List.append_assoc, tokS_fwd ts i]
  simp only
  rw [show (16 : Int) = ((16 : Nat) : Int) from rfl, rawP_fwd _ _ 16 (ln_length _ _)]
  exact ln_getD 16 _ j hj
theorem knS_fwd (f : Nat → Int) : ∀ (k : Nat) (r : List Int), (∀ i, i < k → 0 ≤ f i ∧ f i ≤ 1048576) → knS (knL f k ++ r) false k = (r, false)
  | 0, r, _ => rfl
  | k + 1, r, h => by
    have h1 := knS_fwd f k (numL (f k) ++ r) (fun i hi => h i (by omega))
    have h2 := h k (by omega)
    rw [knS, knL, List.append_assoc, h1]
    simp only
    rw [numP_fwd (f k) 1048576 r h2.1 h2.2 (by omega)]
theorem knL_split (f : Nat → Int) (i : Nat) : ∀ d, ∃ m, knL f (i + d) = knL f i ++ m
  | 0 => ⟨[], by simp⟩
  | d + 1 => by
    obtain ⟨m, hm⟩ := knL_split f i d
    exact ⟨m ++ numL (f (i + d)), by rw [show i + (d + 1) = (i + d) + 1 by omega, knL, hm, List.append_assoc]⟩
theorem knX_fwd (f : Nat → Int) (K i : Nat) (hi : i < K) (r : List Int) (h : ∀ i, i < K → 0 ≤ f i ∧ f i ≤ 1048576) : knX (knL f K ++ r) false i = f i := by
  obtain ⟨m, hm⟩ := knL_split f (i + 1) (K - (i + 1))
  rw [show i + 1 + (K - (i + 1)) = K by omega] at hm
  have h2 := h i hi
  unfold knX
  rw [hm, knL, List.append_assoc, List.append_assoc, knS_fwd f i _ (fun j hj => h j (by omega))]
  simp only
  rw [numP_fwd (f i) 1048576 _ h2.1 h2.2 (by omega)]

/-- What is formed is parsed of its bytes. -/
theorem hd_fwd {h : Hd} {ts : List (Nat → Int)} (ho : HdOk h) (hl : ts.length = h.tn) (hf : hdB h ts = true) (a : Option Addr) (c : Nat) :
    hdTaken (bytesL h ts) = true ∧ (hq8 (bytesL h ts)).1.toNat = h.tn ∧ HdEq (hdOf (bytesL h ts) a c) h (tsOf (bytesL h ts)) ts := by
  obtain ⟨d1, d2, d3, d4, d5, d6, d7⟩ := hdB_bd hf
  have d8 := ho.time.1
  obtain ⟨b, hb⟩ : ∃ b, bytesL h ts = b := ⟨_, rfl⟩
  rw [hb]
  unfold bytesL at hb
  rw [if_pos hf] at hb
  unfold coreL at hb
  simp only [List.append_assoc] at hb
  obtain ⟨r11, h11⟩ : ∃ r, ln 32 h.code = r := ⟨_, rfl⟩
  rw [h11] at hb
  obtain ⟨r10, h10⟩ : ∃ r, numL h.size ++ r11 = r := ⟨_, rfl⟩
  rw [h10] at hb
  obtain ⟨r9, h9⟩ : ∃ r, ln 32 h.sum ++ r10 = r := ⟨_, rfl⟩
  rw [h9] at hb
  obtain ⟨rK, hK⟩ : ∃ r, knL h.knows 6 ++ r9 = r := ⟨_, rfl⟩
  rw [hK] at hb
  obtain ⟨rT, hT⟩ : ∃ r, toksL ts h.tn ++ rK = r := ⟨_, rfl⟩
  rw [hT] at hb
  obtain ⟨r8, h8⟩ : ∃ r, numL (h.tn : Int) ++ rT = r := ⟨_, rfl⟩
  rw [h8] at hb
  obtain ⟨r7, h7⟩ : ∃ r, ln 16 h.item ++ r8 = r := ⟨_, rfl⟩
  rw [h7] at hb
  obtain ⟨r6, h6⟩ : ∃ r, numL h.time ++ r7 = r := ⟨_, rfl⟩
  rw [h6] at hb
  obtain ⟨r5, h5⟩ : ∃ r, [if h.ctl then 1 else 0] ++ r6 = r := ⟨_, rfl⟩
  rw [h5] at hb
  obtain ⟨r4, h4⟩ : ∃ r, numL h.epoch ++ r5 = r := ⟨_, rfl⟩
  rw [h4] at hb
  obtain ⟨r3, h3⟩ : ∃ r, ln 32 h.prev ++ r4 = r := ⟨_, rfl⟩
  rw [h3] at hb
  obtain ⟨r2, h2⟩ : ∃ r, numL h.seq ++ r3 = r := ⟨_, rfl⟩
  rw [h2] at hb
  have q1 : hq1 b = (h.writer, r2, false) := by unfold hq1; rw [← hb]; exact numP_fwd _ 6 _ (by omega) (by omega) (by omega)
  have q2 : hq2 b = (h.seq, r3, false) := by unfold hq2; rw [q1, ← h2]; exact numP_fwd _ 1048576 _ (by omega) (by omega) (by omega)
  have q3 : hq3 b = (ln 32 h.prev, r4, false) := by unfold hq3; rw [q2, ← h3]; exact rawP_fwd _ _ 32 (ln_length _ _)
  have q4 : hq4 b = (h.epoch, r5, false) := by unfold hq4; rw [q3, ← h4]; exact numP_fwd _ 255 _ (by omega) (by omega) (by omega)
  have q5 : hq5 b = (h.ctl, r6, false) := by unfold hq5; rw [q4, ← h5]; exact flagP_fwd _ _
  have q6 : hq6 b = (h.time, r7, false) := by unfold hq6; rw [q5, ← h6]; exact numP_fwd _ 1099511627776 _ (by omega) (by omega) (by omega)
  have q7 : hq7 b = (ln 16 h.item, r8, false) := by unfold hq7; rw [q6, ← h7]; exact rawP_fwd _ _ 16 (ln_length _ _)
  have q8 : hq8 b = ((h.tn : Int), rT, false) := by unfold hq8; rw [q7, ← h8]; exact numP_fwd _ 8 _ (by omega) (by omega) (by omega)
  have qn : (hq8 b).1.toNat = h.tn := by rw [q8]; simp
  have qT : hqT b = (rK, false) := by unfold hqT; rw [qn, q8, ← hT]; exact tokS_fwd ts h.tn rK
  have hkn : ∀ i, i < 6 → 0 ≤ h.knows i ∧ h.knows i ≤ 1048576 := fun i hi => ⟨(ho.knows i hi).1, d7 i hi⟩
  have qK : hqK b = (r9, false) := by unfold hqK; rw [qT, ← hK]; exact knS_fwd h.knows 6 r9 hkn
  have q9 : hq9 b = (ln 32 h.sum, r10, false) := by unfold hq9; rw [qK, ← h9]; exact rawP_fwd _ _ 32 (ln_length _ _)
  have q10 : hq10 b = (h.size, r11, false) := by unfold hq10; rw [q9, ← h10]; exact numP_fwd _ 2064 _ (by omega) (by omega) (by omega)
  have q11 : hq11 b = (ln 32 h.code, [], false) := by unfold hq11; rw [q10, ← h11]; simpa using rawP_fwd (ln 32 h.code) [] 32 (ln_length _ _)
  have hts : ∀ i, i < h.tn → ∀ j, j < 16 → ((tsOf b).getD i fun _ => 0) j = (ts.getD i fun _ => 0) j := fun i hi j hj => by
    unfold tsOf
    rw [qn, List.getD_eq_getElem?_getD, List.getElem?_map, List.getElem?_range hi]
    show tokX (hq8 b).2.1 (hq8 b).2.2 i j = _
    rw [q8, ← hT]
    exact tokX_fwd ts h.tn i hi rK j hj
  have heq : ∀ a c, HdEq (hdOf b a c) h (tsOf b) ts := fun a c => by
    refine ⟨?_, ?_, fun j hj => ?_, ?_, ?_, ?_, fun j hj => ?_, ?_, fun i hi j hj => ?_, fun j hj => ?_, fun j hj => ?_, ?_, fun j hj => ?_⟩
    · show (hq1 b).1 = _; rw [q1]
    · show (hq2 b).1 = _; rw [q2]
    · show arF (hq3 b).1 j = _; rw [q3]; exact ln_getD 32 _ j hj
    · show (hq4 b).1 = _; rw [q4]
    · show (hq5 b).1 = _; rw [q5]
    · show (hq6 b).1 = _; rw [q6]
    · show arF (hq7 b).1 j = _; rw [q7]; exact ln_getD 16 _ j hj
    · exact qn
    · exact hts i (by rw [← qn]; exact hi) j hj
    · show (if j < 6 then knX (hqT b).1 (hqT b).2 j else 0) = _; rw [if_pos hj, qT, ← hK]; exact knX_fwd h.knows 6 j hj r9 hkn
    · show arF (hq9 b).1 j = _; rw [q9]; exact ln_getD 32 _ j hj
    · show (hq10 b).1 = _; rw [q10]
    · show arF (hq11 b).1 j = _; rw [q11]; exact ln_getD 32 _ j hj
  have hlen : (tsOf b).length = h.tn := by unfold tsOf; rw [List.length_map, List.length_range, qn]
  have hB : hdB (hdOf b none 0) (tsOf b) = true := hdB_congr (h := h) (ts := ts) hl (by rw [hlen]; exact qn.symm) (heq none 0).symm hf
  refine ⟨?_, qn, heq a c⟩
  unfold hdTaken
  rw [q11, hB]
  rfl

theorem tsOf_len (b : List Int) (a : Option Addr) (c : Nat) : (tsOf b).length = (hdOf b a c).tn := by
  unfold tsOf
  rw [List.length_map, List.length_range]
  rfl

/-- Two formed headers are the same if their bytes are. -/
theorem same_bytes {h g : Hd} {ts us : List (Nat → Int)} (ho : HdOk h) (go : HdOk g) (h1 : ts.length = h.tn) (h2 : us.length = g.tn) (hf : hdB h ts = true) (gf : hdB g us = true) : sameB h g ts us = decide (bytesL h ts = bytesL g us) := by
  rw [Bool.eq_iff_iff, sameB_iff h1 h2, decide_eq_true_eq]
  constructor
  · exact bytesL_congr h1 h2
  · intro e
    have e1 := (hd_fwd ho h1 hf none 0).2.2
    have e2 := (hd_fwd go h2 gf none 0).2.2
    rw [e] at e1
    exact e1.symm.trans e2

theorem taken_nil : hdTaken [] = false := by decide +kernel

end Go.Proofs.YtihlpfdhallfpaaDoor
