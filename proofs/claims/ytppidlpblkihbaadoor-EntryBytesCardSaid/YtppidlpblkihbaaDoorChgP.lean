/-
  A change's bytes, and what they are parsed as: plain laws. No conditions.
-/
import Derived.Test.YtppidlpblkihbaaDoorChgF
import Derived.Test.YtppidlpblkihbaaDoorPackP
namespace Go.Proofs.YtppidlpblkihbaaDoor
open Go.ChangeShapes Go.WideShapes Go.ChangeAt Go.RowKit

/-- The first k tags' bytes. -/
def tagsL (ss : List ByteArray) : Nat → List Int
  | 0 => []
  | k + 1 => tagsL ss k ++ textL (strB (ss.getD k ByteArray.empty))
/-- A change's bytes. -/
def chgL (op : Int) (name : ByteArray) (ss : List ByteArray) (value : ByteArray) : List Int :=
  numL op ++ textL (strB name) ++ numL (ss.length : Int) ++ tagsL ss ss.length ++ textL (strB value)

theorem changeB_bd {op : Int} {name : ByteArray} {ss : List ByteArray} {value : ByteArray} (h : changeB op name ss value = true) : (1 ≤ op ∧ op ≤ 3) ∧ name.size ≤ 24 ∧ ss.length ≤ 8 ∧ (∀ i, i < ss.length → (ss.getD i ByteArray.empty).size ≤ 24) ∧ value.size ≤ 512 := by
  unfold changeB at h
  rw [Bool.and_eq_true, Bool.and_eq_true, Bool.and_eq_true] at h
  obtain ⟨⟨⟨h1, h2⟩, h3⟩, h4⟩ := h
  have h1 := of_decide_eq_true h1
  have h3 := of_decide_eq_true h3
  unfold tagsB at h2
  rw [Bool.and_eq_true] at h2
  have h5 := of_decide_eq_true h2.2
  refine ⟨?_, by omega, h5, fun i hi => ?_, h3⟩
  · split at h4
    · omega
    · split at h4
      · omega
      · have := of_decide_eq_true h4
        omega
  · have h6 := h2.1
    unfold tagsN at h6
    rw [List.all_eq_true] at h6
    have h7 := h6 i (List.mem_range.2 hi)
    unfold tagOk at h7
    rw [Bool.and_eq_true] at h7
    have h8 := of_decide_eq_true h7.1
    omega

theorem tagsL_byte (ss : List ByteArray) : ∀ k, ∀ x ∈ tagsL ss k, 0 ≤ x ∧ x < 256
  | 0, x, hx => by cases hx
  | k + 1, x, hx => by
    rw [tagsL] at hx
    rcases List.mem_append.1 hx with h | h
    · exact tagsL_byte ss k x h
    · exact textL_byte (strB_byte _) x h
theorem tagsL_le (ss : List ByteArray) (n : Nat) (hs : ∀ i, i < n → (ss.getD i ByteArray.empty).size ≤ 24) : ∀ k, k ≤ n → (tagsL ss k).length ≤ 34 * k
  | 0, _ => Nat.le_refl _
  | k + 1, h => by
    have h1 := tagsL_le ss n hs k (by omega)
    have h2 := hs k (by omega)
    have h3 := textL_le (strB (ss.getD k ByteArray.empty))
    rw [strB_length] at h3
    rw [tagsL, List.length_append]
    omega
theorem chgL_byte {op : Int} (h0 : 0 ≤ op) (name : ByteArray) (ss : List ByteArray) (value : ByteArray) : ∀ x ∈ chgL op name ss value, 0 ≤ x ∧ x < 256 := by
  intro x hx
  rw [chgL] at hx
  simp only [List.mem_append] at hx
  rcases hx with (((h | h) | h) | h) | h
  · exact numL_byte _ h0 x h
  · exact textL_byte (strB_byte _) x h
  · exact numL_byte _ (by omega) x h
  · exact tagsL_byte _ _ x h
  · exact textL_byte (strB_byte _) x h

/-- What is left, and whether it has failed, where k tags were taken. -/
def tagS (xs : List Int) (bad : Bool) : Nat → List Int × Bool
  | 0 => (xs, bad)
  | k + 1 => (textP (tagS xs bad k).1 (tagS xs bad k).2 24).2
def tagX (xs : List Int) (bad : Bool) (k : Nat) : List Int := (textP (tagS xs bad k).1 (tagS xs bad k).2 24).1
theorem tagS_byte {xs : List Int} {bad : Bool} (hb : ∀ c ∈ xs, 0 ≤ c ∧ c < 256) : ∀ k, ∀ c ∈ (tagS xs bad k).1, 0 ≤ c ∧ c < 256
  | 0 => hb
  | k + 1 => textP_byte (tagS_byte hb k)
theorem tagX_byte {xs : List Int} {bad : Bool} (hb : ∀ c ∈ xs, 0 ≤ c ∧ c < 256) (k : Nat) : ∀ c ∈ tagX xs bad k, 0 ≤ c ∧ c < 256 := textP_byte1 (tagS_byte hb k)

/-- The tags that were taken. -/
def tagsOf (xs : List Int) (bad : Bool) (n : Nat) : List ByteArray := (List.range n).map fun i => strOf (tagX xs bad i)
theorem tagsOf_length (xs : List Int) (bad : Bool) (n : Nat) : (tagsOf xs bad n).length = n := by simp [tagsOf]
theorem tagsOf_get (xs : List Int) (bad : Bool) (n i : Nat) (hi : i < n) : (tagsOf xs bad n).getD i ByteArray.empty = strOf (tagX xs bad i) := by
  unfold tagsOf
  rw [List.getD_eq_getElem?_getD, List.getElem?_map, List.getElem?_range hi]
  rfl
theorem tagsOf_succ (xs : List Int) (bad : Bool) (n : Nat) : tagsOf xs bad (n + 1) = tagsOf xs bad n ++ [strOf (tagX xs bad n)] := by
  unfold tagsOf
  rw [List.range_succ, List.map_append]
  rfl
theorem tagsL_congr (ss ts : List ByteArray) : ∀ k, (∀ i, i < k → ss.getD i ByteArray.empty = ts.getD i ByteArray.empty) → tagsL ss k = tagsL ts k
  | 0, _ => rfl
  | k + 1, h => by rw [tagsL, tagsL, tagsL_congr ss ts k (fun i hi => h i (by omega)), h k (by omega)]

theorem tagS_back {xs : List Int} {bad : Bool} (hb : ∀ c ∈ xs, 0 ≤ c ∧ c < 256) (n : Nat) : ∀ k, k ≤ n → (tagS xs bad k).2 = false → bad = false ∧ xs = tagsL (tagsOf xs bad n) k ++ (tagS xs bad k).1
  | 0, _, h => ⟨h, rfl⟩
  | k + 1, hk, h => by
    have h1 := textP_back (xs := (tagS xs bad k).1) (bad := (tagS xs bad k).2) (most := 24) (t := tagX xs bad k) (ys := (tagS xs bad (k + 1)).1) (tagS_byte hb k) (Prod.ext rfl (Prod.ext rfl h))
    have h2 := tagS_back hb n k (by omega) h1.1
    refine ⟨h2.1, ?_⟩
    rw [tagsL, List.append_assoc, tagsOf_get xs bad n k (by omega), strB_strOf (tagX_byte hb k), ← h1.2.1]
    exact h2.2

theorem tagS_fwd (ss : List ByteArray) : ∀ (n : Nat) (r : List Int), (∀ i, i < n → (ss.getD i ByteArray.empty).size ≤ 24) → tagS (tagsL ss n ++ r) false n = (r, false)
  | 0, _, _ => rfl
  | n + 1, r, h => by
    have h1 := tagS_fwd ss n (textL (strB (ss.getD n ByteArray.empty)) ++ r) (fun k hk => h k (by omega))
    have h2 := h n (by omega)
    rw [tagS, tagsL, List.append_assoc, h1, textP_fwd _ _ _ (by rw [strB_length]; omega) (by rw [strB_length]; omega)]
theorem tagsL_part (ss : List ByteArray) (k : Nat) : ∀ n, k < n → ∃ r, tagsL ss n = tagsL ss k ++ (textL (strB (ss.getD k ByteArray.empty)) ++ r)
  | 0, h => by omega
  | n + 1, h => by
    by_cases hk : k = n
    · subst hk
      exact ⟨[], by rw [tagsL, List.append_nil]⟩
    · obtain ⟨r, hr⟩ := tagsL_part ss k n (by omega)
      exact ⟨r ++ textL (strB (ss.getD n ByteArray.empty)), by rw [tagsL, hr]; simp⟩
theorem tagX_fwd (ss : List ByteArray) (n : Nat) (r : List Int) (h : ∀ i, i < n → (ss.getD i ByteArray.empty).size ≤ 24) (k : Nat) (hk : k < n) : tagX (tagsL ss n ++ r) false k = strB (ss.getD k ByteArray.empty) := by
  obtain ⟨q, hq⟩ := tagsL_part ss k n hk
  have h2 := h k hk
  unfold tagX
  rw [hq, List.append_assoc, tagS_fwd ss k _ (fun j hj => h j (by omega)), List.append_assoc, textP_fwd _ _ _ (by rw [strB_length]; omega) (by rw [strB_length]; omega)]

/-- The steps of a change's parsing. -/
def copS (b : List Int) := numP b false 3
def cnmS (b : List Int) := textP (copS b).2.1 (copS b).2.2 24
def cntS (b : List Int) := numP (cnmS b).2.1 (cnmS b).2.2 8
def ctgS (b : List Int) := tagS (cntS b).2.1 (cntS b).2.2 (cntS b).1.toNat
def cvaS (b : List Int) := textP (ctgS b).1 (ctgS b).2 512
def copX (b : List Int) : Int := (copS b).1
def cnmX (b : List Int) : ByteArray := strOf (cnmS b).1
def ctgX (b : List Int) : List ByteArray := tagsOf (cntS b).2.1 (cntS b).2.2 (cntS b).1.toNat
def cvaX (b : List Int) : ByteArray := strOf (cvaS b).1
def chOk (b : List Int) : Bool := !(cvaS b).2.2 && decide ((cvaS b).2.1.length = 0) && changeB (copX b) (cnmX b) (ctgX b) (cvaX b)

theorem chOk_back {b : List Int} (hb : ∀ c ∈ b, 0 ≤ c ∧ c < 256) (h : chOk b = true) : b = chgL (copX b) (cnmX b) (ctgX b) (cvaX b) ∧ changeB (copX b) (cnmX b) (ctgX b) (cvaX b) = true := by
  unfold chOk at h
  rw [Bool.and_eq_true, Bool.and_eq_true] at h
  obtain ⟨⟨h1, h2⟩, h3⟩ := h
  have e2 : (cvaS b).2.1 = [] := List.eq_nil_of_length_eq_zero (of_decide_eq_true h2)
  have hbad : (cvaS b).2.2 = false := by simpa using h1
  have b1 := numP_byte (bad := false) (most := 3) hb
  have b2 := textP_byte (bad := (copS b).2.2) (most := 24) b1
  have b2' : ∀ c ∈ (cnmS b).1, 0 ≤ c ∧ c < 256 := textP_byte1 (bad := (copS b).2.2) (most := 24) b1
  have b3 := numP_byte (bad := (cnmS b).2.2) (most := 8) b2
  have b4 := tagS_byte (xs := (cntS b).2.1) (bad := (cntS b).2.2) b3 (cntS b).1.toNat
  have b4' : ∀ c ∈ (cvaS b).1, 0 ≤ c ∧ c < 256 := textP_byte1 (xs := (ctgS b).1) (bad := (ctgS b).2) (most := 512) b4
  have k5 := textP_back (xs := (ctgS b).1) (bad := (ctgS b).2) (most := 512) (t := (cvaS b).1) (ys := (cvaS b).2.1) b4 (Prod.ext rfl (Prod.ext rfl hbad))
  have k4 := tagS_back (xs := (cntS b).2.1) (bad := (cntS b).2.2) b3 (cntS b).1.toNat (cntS b).1.toNat (Nat.le_refl _) k5.1
  have k3 := numP_back (xs := (cnmS b).2.1) (bad := (cnmS b).2.2) (most := 8) (v := (cntS b).1) (ys := (cntS b).2.1) b2 (Prod.ext rfl (Prod.ext rfl k4.1))
  have k2 := textP_back (xs := (copS b).2.1) (bad := (copS b).2.2) (most := 24) (t := (cnmS b).1) (ys := (cnmS b).2.1) b1 (Prod.ext rfl (Prod.ext rfl k3.1))
  have k1 := numP_back (xs := b) (bad := false) (most := 3) (v := (copS b).1) (ys := (copS b).2.1) hb (Prod.ext rfl (Prod.ext rfl k2.1))
  refine ⟨?_, h3⟩
  have e5 := k5.2.1
  rw [e2, List.append_nil] at e5
  unfold chgL cnmX ctgX cvaX copX
  rw [strB_strOf b2', strB_strOf b4', tagsOf_length, ← e5]
  have e3 : (((cntS b).1.toNat : Nat) : Int) = (cntS b).1 := by have := k3.2.2.1; omega
  rw [e3, List.append_assoc, List.append_assoc, List.append_assoc]
  rw [show tagsL (tagsOf (cntS b).2.1 (cntS b).2.2 (cntS b).1.toNat) (cntS b).1.toNat ++ (ctgS b).1 = (cntS b).2.1 from k4.2.symm, ← k3.2.1, ← k2.2.1]
  exact k1.2.1

theorem strOf_strB (s : ByteArray) : strOf (strB s) = s := by
  obtain ⟨d⟩ := s
  unfold strOf strB u8s Lib.bytesOf
  congr 1
  apply Array.ext'
  rw [List.map_map]
  show List.map _ d.toList = d.toList
  conv => rhs; rw [← List.map_id d.toList]
  refine List.map_congr_left fun x _ => ?_
  simp

theorem list_of_get {ss : List ByteArray} {n : Nat} (hl : ss.length = n) : (List.range n).map (fun i => ss.getD i ByteArray.empty) = ss := by
  apply List.ext_getElem?
  intro i
  rw [List.getElem?_map]
  by_cases hi : i < n
  · rw [List.getElem?_range hi, List.getElem?_eq_getElem (by omega)]
    simp [List.getD_eq_getElem?_getD, List.getElem?_eq_getElem (show i < ss.length by omega)]
  · rw [List.getElem?_eq_none (by simpa using hi), List.getElem?_eq_none (by omega)]
    rfl

theorem chOk_fwd {op : Int} {name : ByteArray} {ss : List ByteArray} {value : ByteArray} (h : changeB op name ss value = true) :
    chOk (chgL op name ss value) = true ∧ copX (chgL op name ss value) = op ∧ cnmX (chgL op name ss value) = name ∧ ctgX (chgL op name ss value) = ss ∧ cvaX (chgL op name ss value) = value := by
  obtain ⟨h1, h2, h3, h4, h5⟩ := changeB_bd h
  have e1 : copS (chgL op name ss value) = (op, textL (strB name) ++ (numL (ss.length : Int) ++ (tagsL ss ss.length ++ (textL (strB value) ++ []))), false) := by
    unfold copS chgL
    rw [← numP_fwd op 3 _ (by omega) h1.2 (by omega)]
    simp
  have e2 : cnmS (chgL op name ss value) = (strB name, numL (ss.length : Int) ++ (tagsL ss ss.length ++ (textL (strB value) ++ [])), false) := by
    unfold cnmS
    rw [e1]
    exact textP_fwd _ _ _ (by rw [strB_length]; omega) (by rw [strB_length]; omega)
  have e3 : cntS (chgL op name ss value) = ((ss.length : Int), tagsL ss ss.length ++ (textL (strB value) ++ []), false) := by
    unfold cntS
    rw [e2]
    exact numP_fwd _ 8 _ (by omega) (by omega) (by omega)
  have e4 : ctgS (chgL op name ss value) = (textL (strB value) ++ [], false) := by
    unfold ctgS
    rw [e3]
    exact tagS_fwd ss ss.length _ h4
  have e5 : cvaS (chgL op name ss value) = (strB value, [], false) := by
    unfold cvaS
    rw [e4]
    exact textP_fwd _ _ _ (by rw [strB_length]; omega) (by rw [strB_length]; omega)
  have k1 : copX (chgL op name ss value) = op := by unfold copX; rw [e1]
  have k2 : cnmX (chgL op name ss value) = name := by unfold cnmX; rw [e2, strOf_strB]
  have k3 : ctgX (chgL op name ss value) = ss := by
    unfold ctgX tagsOf
    rw [e3]
    show (List.range ss.length).map (fun i => strOf (tagX (tagsL ss ss.length ++ (textL (strB value) ++ [])) false i)) = ss
    refine Eq.trans (List.map_congr_left fun i hi => ?_) (list_of_get (ss := ss) rfl)
    have hi := List.mem_range.1 hi
    rw [tagX_fwd ss ss.length _ h4 i hi, strOf_strB]
  have k4 : cvaX (chgL op name ss value) = value := by unfold cvaX; rw [e5, strOf_strB]
  refine ⟨?_, k1, k2, k3, k4⟩
  unfold chOk
  rw [k1, k2, k3, k4, h, e5]
  rfl

end Go.Proofs.YtppidlpblkihbaaDoor
