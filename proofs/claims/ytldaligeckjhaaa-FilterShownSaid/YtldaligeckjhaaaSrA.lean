/-
  Strings side by side. No conditions.
-/
import Derived.Test.YtldaligeckjhaaaBys
namespace Go.Proofs.Ytldaligeckjhaaa
open Go.ChangeShapes Go.WideShapes Go.ChangeAt Go.RowKit

/-- Strings side by side. -/
structure SrAt (w : World) (a : Option Addr) (n c : Nat) (ss : List ByteArray) : Prop where
  len : ss.length = n
  cap : n ≤ c
  lim : c ≤ 9223372036854775807
  size : ∀ s ∈ ss, s.size ≤ 140737488351232
  at_ : 0 < n → ∃ g off, a = some ⟨g, off, none⟩ ∧ ∀ i, i < n → w.cell? ⟨g, off + i, none⟩ = some (.string (ss.getD i ⟨#[]⟩))
theorem SrAt.get {w : World} {a : Option Addr} {n c : Nat} {ss : List ByteArray} (h : SrAt w a n c ss) {i : Nat} (hi : i < n) : (ss.getD i ⟨#[]⟩) ∈ ss := by
  have hl := h.len
  rw [List.getD_eq_getElem?_getD, List.getElem?_eq_getElem (by omega)]
  exact List.getElem_mem _
theorem SrAt.ext {w w' : World} {a : Option Addr} {n c : Nat} {ss : List ByteArray} (h : SrAt w a n c ss) (he : Ext w w') : SrAt w' a n c ss := by
  refine ⟨h.len, h.cap, h.lim, h.size, fun hn => ?_⟩
  obtain ⟨g, off, ha, hc⟩ := h.at_ hn
  exact ⟨g, off, ha, fun i hi => by rw [Ext.cell he (World.block_lt_of_cell? w _ (hc i hi))]; exact hc i hi⟩

end Go.Proofs.Ytldaligeckjhaaa
