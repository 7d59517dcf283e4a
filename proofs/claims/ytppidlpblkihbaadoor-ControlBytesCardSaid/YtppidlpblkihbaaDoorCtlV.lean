/-
  A control by value: ten cells; its six slots loaded, one of them taken. No conditions.
  The six slots of a control loaded out of its block. No conditions.
-/
import Derived.Test.YtppidlpblkihbaaDoorRefText
namespace Go.Proofs.YtppidlpblkihbaaDoor
open Go.ChangeAt Go.ChangeShapes Go.RowKit Go.WideShapes

/-- A control's cells. -/
def ctlV (op mem cut : Int) (s : Nat → Value) (hand : Value) : Array Value := #[.int .i64 op, .int .i64 mem, .int .u64 cut, s 0, s 1, s 2, s 3, s 4, s 5, hand]

set_option maxRecDepth 100000 in
theorem index_slot (w : World) (s : Nat → Value) (k : Nat) (hk : k < 6) : (Instr.index 43 (.agg (rowArr 6 s)) (.int .i64 (k : Int))).run Tryd.prog w = .ok (s k) w := by
  rcases (by omega : k = 0 ∨ k = 1 ∨ k = 2 ∨ k = 3 ∨ k = 4 ∨ k = 5) with rfl | rfl | rfl | rfl | rfl | rfl <;> kernel_rfl

theorem ctl_cell {w : World} {g : Nat} {op mem cut : Int} {s : Nat → Value} {hand : Value} (h : w.heap[g]? = some (.cells (ctlV op mem cut s hand) 45 (0, 0))) :
    w.cell? ⟨g, 0, none⟩ = some (.int .i64 op) ∧ w.cell? ⟨g, 1, none⟩ = some (.int .i64 mem) ∧ w.cell? ⟨g, 2, none⟩ = some (.int .u64 cut) ∧ (∀ i, i < 6 → w.cell? ⟨g, 3 + i, none⟩ = some (s i)) ∧ w.cell? ⟨g, 9, none⟩ = some hand := by
  unfold World.cell?
  simp only [h]
  refine ⟨rfl, rfl, rfl, fun i hi => ?_, rfl⟩
  rcases (by omega : i = 0 ∨ i = 1 ∨ i = 2 ∨ i = 3 ∨ i = 4 ∨ i = 5) with rfl | rfl | rfl | rfl | rfl | rfl <;> rfl

set_option maxRecDepth 100000 in
theorem size_slots (w : World) : (sizeOf 43).run Tryd.prog w = .ok 6 w := by kernel_rfl

theorem wp_slots {ops : Array Oper} {Q : Exit → Act → World → Prop} {rest : List Oper} {o : Oper} {a : Act} {w : World} (hgd : o.guard = none) (x : Operand) (ho : o.op = .load 43 x)
    (b : Nat) (s : Nat → Value) (hx : a.eval x = .pointer (some ⟨b, 3, none⟩)) (hc : ∀ i, i < 6 → w.cell? ⟨b, 3 + i, none⟩ = some (s i))
    (h : wpList Tryd.prog ops Q rest (a.put o.dst (.agg (rowArr 6 s))) w) : wpList Tryd.prog ops Q (o :: rest) a w := by
  refine wpList_plain hgd fun K hK => ?_
  have h1 := run_loadCells_list (P := Tryd.prog) w ⟨b, 3, none⟩ ((List.range 6).map s) (fun j v hv => by
    have hj : j < 6 := by
      have := (List.getElem?_eq_some_iff.1 hv).1
      simpa using this
    rw [List.getElem?_map, List.getElem?_range hj] at hv
    obtain rfl := Option.some.inj hv
    have e : (⟨b, 3, none⟩ : Addr).add j = ⟨b, 3 + j, none⟩ := by unfold Addr.add; split <;> simp_all
    rw [e]
    exact hc j hj)
  rw [List.length_map, List.length_range] at h1
  have hagg : (isAgg 43).run Tryd.prog w = .ok true w := by
    unfold isAgg
    rw [Sem.run_bind, run_underlying Tryd.underlying43 w]
    rfl
  have hv : (loadVar 43 ⟨b, 3, none⟩).run Tryd.prog w = .ok (.agg (rowArr 6 s)) w := by
    simp only [loadVar, Sem.run_bind, hagg, size_slots, Result.andThen_ok, if_true, h1, Sem.run_pure]
    rfl
  unfold Oper.wp execOp
  simp only [ho, hx, Instr.loadAt, Instr.sureAddr, Sem.run_bind, Sem.run_pure, Result.andThen_ok, hv]
  exact hK _ _ h

end Go.Proofs.YtppidlpblkihbaaDoor
