/-
  Steps of the walk: bytes behind bytes that the call owns. No conditions but lengths.
-/
import Derived.Test.YthdgnahokmjkpaaDoorSumB
import Derived.Laws.AppendOwnNone
namespace Go.Proofs.YthdgnahokmjkpaaDoor
open Go.ChangeShapes Go.WideShapes Go.ChangeAt Go.RowKit

/-- Parts that lie at the head of a block. -/
theorem ps_one {w : World} {pa : Option Addr} {m pc : Nat} {xs : List Int} (h : BsAt w pa m pc xs) (T : TypeId) : PsAt (w.alloc (.cells #[.slice pa m pc] T)) (some ⟨w.heap.size, 0, none⟩) 1 1 [xs] := by
  refine ⟨rfl, Nat.le_refl _, by omega, fun _ => ⟨w.heap.size, 0, rfl, fun i hi => ⟨pa, m, pc, ?_, ?_⟩⟩⟩
  · obtain rfl : i = 0 := by omega
    rw [cell_of_row _ w.heap.size _ _ _ _ (heap_new w _ _ rfl)]
    rfl
  · obtain rfl : i = 0 := by omega
    exact h.ext ((Ext.refl w).alloc _)

end Go.Proofs.YthdgnahokmjkpaaDoor
