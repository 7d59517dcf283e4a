/-
  Items of the same rows, and how many of the first are shown: plain laws. No conditions.
-/
import Derived.Test.YtldaligeckjhaaaShown
namespace Go.Proofs.Ytldaligeckjhaaa

/-- Items of the same rows are the same in all that a filter looks at. -/
theorem FoldIs.pair {cs : List Rw} {xs ys : List It} (h : FoldIs cs xs) (k : FoldIs cs ys) : ∀ i, i < xs.length → (itAt xs i).kn = (itAt ys i).kn ∧ (itAt xs i).al = (itAt ys i).al ∧ (itAt xs i).tags = (itAt ys i).tags := by
  have e := h.one k
  have hl : xs.length = ys.length := by
    have := congrArg List.length e
    simpa using this
  intro i hi
  have e1 := congrArg (fun l => l[i]?) e
  simp only [List.getElem?_map, List.getElem?_eq_getElem hi, List.getElem?_eq_getElem (show i < ys.length by omega), Option.map_some, Option.some.injEq] at e1
  have gx : itAt xs i = xs[i] := by unfold itAt; rw [List.getD_eq_getElem?_getD, List.getElem?_eq_getElem hi]; rfl
  have gy : itAt ys i = ys[i] := by unfold itAt; rw [List.getD_eq_getElem?_getD, List.getElem?_eq_getElem (show i < ys.length by omega)]; rfl
  rw [gx, gy]
  have hq := (tkK_iff _ _).2 e1
  have h1 := (h.made xs[i] (List.getElem_mem _)).1
  have h2 := (k.made ys[i] (List.getElem_mem _)).1
  rw [ofTok_congr hq cs] at h1
  have hm := same_made h1 h2
  exact ⟨hm.1, hm.2.1, hm.2.2.2.1⟩
/-- How many of the first j are shown. -/
def cntI (p : It → Bool) (l : List It) (j : Nat) : Nat := ((l.take j).filter p).length
theorem cntI_zero (p : It → Bool) (l : List It) : cntI p l 0 = 0 := rfl
theorem cntI_le (p : It → Bool) (l : List It) (j : Nat) : cntI p l j ≤ j := by
  have h1 := List.length_filter_le p (l.take j)
  rw [List.length_take] at h1
  unfold cntI
  omega
theorem cntI_all (p : It → Bool) (l : List It) : cntI p l l.length = (l.filter p).length := by
  unfold cntI
  rw [List.take_length]
theorem cntI_yes {p : It → Bool} {l : List It} {j : Nat} (hj : j < l.length) (h : p (itAt l j) = true) : cntI p l (j + 1) = cntI p l j + 1 := by
  unfold cntI
  rw [filterI_keep hj h, List.length_append]
  rfl
theorem cntI_no {p : It → Bool} {l : List It} {j : Nat} (hj : j < l.length) (h : p (itAt l j) = false) : cntI p l (j + 1) = cntI p l j := by
  unfold cntI
  rw [filterI_skip hj h]
theorem cntI_at {p : It → Bool} {l : List It} {j : Nat} (hj : j < l.length) (h : p (itAt l j) = true) : cntI p l j < (l.filter p).length ∧ itAt (l.filter p) (cntI p l j) = itAt l j := by
  have e : l = l.take (j + 1) ++ l.drop (j + 1) := (List.take_append_drop _ _).symm
  have e2 : l.filter p = (l.take j).filter p ++ [itAt l j] ++ (l.drop (j + 1)).filter p := by
    conv => lhs; rw [e]
    rw [List.filter_append, filterI_keep hj h]
  unfold cntI
  constructor
  · rw [e2, List.length_append, List.length_append, List.length_singleton]
    omega
  · rw [e2]
    unfold itAt
    rw [List.getD_eq_getElem?_getD, List.append_assoc, List.getElem?_append_right (Nat.le_refl _), Nat.sub_self]
    rfl

end Go.Proofs.Ytldaligeckjhaaa
