/-
  A control by value: ten cells; its six slots loaded, one of them taken. No conditions.
-/
import Derived.Test.YtppidlpblkihbaaDoorRefText
namespace Go.Proofs.YtppidlpblkihbaaDoor
open Go.ChangeShapes Go.WideShapes Go.ChangeAt Go.RowKit

/-- A control's cells. -/
def ctlV (op mem cut : Int) (s : Nat → Value) (hand : Value) : Array Value := #[.int .i64 op, .int .i64 mem, .int .u64 cut, s 0, s 1, s 2, s 3, s 4, s 5, hand]

set_option maxRecDepth 100000 in
theorem index_slot (w : World) (s : Nat → Value) (k : Nat) (hk : k < 6) : (Instr.index 43 (.agg (rowArr 6 s)) (.int .i64 (k : Int))).run Tryd.prog w = .ok (s k) w := by
  rcases (by omega : k = 0 ∨ k = 1 ∨ k = 2 ∨ k = 3 ∨ k = 4 ∨ k = 5) with rfl | rfl | rfl | rfl | rfl | rfl <;> kernel_rfl

theorem ctl_cell {w : World} {g : Nat} {op mem cut : Int} {s : Nat → Value} {hand : Value} (h : w.heap[g]? = some (.cells (ctlV op mem cut s hand) 45 (0, 0))) :
    w.cell? ⟨g, 0, none⟩ = some (.int .i64 op) ∧ w.cell? ⟨g, 1, none⟩ = some (.int .i64 mem) ∧ w.cell? ⟨g, 2, none⟩ = some (.int .u64 cut) ∧ (∀ i, i < 6 → w.cell? ⟨g, 3 + i, none⟩ = some (s i)) ∧ w.cell? ⟨g, 9, none⟩ = some hand := by
  unfold World.cell?
  simp only [h]
  refine ⟨rfl, rfl, rfl, fun i hi => ?_, rfl⟩
  rcases (by omega : i = 0 ∨ i = 1 ∨ i = 2 ∨ i = 3 ∨ i = 4 ∨ i = 5) with rfl | rfl | rfl | rfl | rfl | rfl <;> rfl

end Go.Proofs.YtppidlpblkihbaaDoor
