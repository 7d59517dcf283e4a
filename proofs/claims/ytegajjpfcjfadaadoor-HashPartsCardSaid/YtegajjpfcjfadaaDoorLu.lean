/-
  Cuts of a slice of bytes inside a region that draws its order.
-/
import Derived.Test.YtegajjpfcjfadaaDoorConv
import Derived.Test.YtegajjpfcjfadaaDoorLx
namespace Go.Proofs.YtegajjpfcjfadaaDoor
open Go.ChangeShapes Go.WideShapes Go.ChangeAt Go.RowKit

/-- Where a slice lies behind its first k elements. -/
def cutA (a : Option Addr) (c k : Nat) : Option Addr := if c = k then a else a.map (·.add k)

theorem BsAt.drop {w : World} {a : Option Addr} {n c : Nat} {xs : List Int} (h : BsAt w a n c xs) (k : Nat) (hk : k ≤ n) : BsAt w (cutA a c k) (n - k) (c - k) (xs.drop k) := by
  have hc := h.cap
  have hl := h.lim
  have hs := h.small
  refine ⟨by rw [List.length_drop, h.len], by omega, by omega, by omega, fun x hx => h.byte x (List.mem_of_mem_drop hx), fun h0 => ?_, fun e => ?_⟩
  · obtain ⟨b, off, rfl, hcell⟩ := h.at_ (by omega)
    refine ⟨b, off + k, by unfold cutA; rw [if_neg (by omega)]; simp [addr_add], fun i hi => ?_⟩
    rw [Nat.add_assoc, hcell (k + i) (by omega), List.getD_eq_getElem?_getD, List.getD_eq_getElem?_getD, List.getElem?_drop]
  · have : a = none := by
      unfold cutA at e
      split at e
      · exact e
      · cases a with
        | none => rfl
        | some ad => cases e
    have := h.nil_ this
    omega

theorem lu_from {w : World} {o : Oper} {ev : Operand → Value} {x y : Operand} {a : Option Addr} {n c k : Nat} (ho : o.op = .slice 29 x (some y) none none) (hx : ev x = .slice a n c) (hy : ev y = .int .i64 (k : Int)) (hk : k ≤ n) :
    lexUpon Tryd.prog w (.ex (.slice (cutA a c k) (n - k) (c - k))) ((execOp ev o).run Tryd.prog w) := by
  have h0 : (0 : Int) ≤ (k : Int) := by omega
  have h1 : (k : Int) ≤ (n : Int) := by omega
  have hs := run_slice_l (P := Tryd.prog) (w := w) 29 a n c Tryd.underlying29 .i64 (k : Int) h0 h1
  have hz : ∀ w, (sizeOf (Tryd.prog.elem 29)).run Tryd.prog w = .ok 1 w := fun _ => by kernel_rfl
  have hr : (Instr.sliceAt 29 (.slice a n c) (some (.int .i64 (k : Int))) none none).run Tryd.prog w = .ok (.slice (cutA a c k) (n - k) (c - k)) w := by
    rw [run_sliceAt_slice w _ _ _ _ _ Tryd.underlying29, hs, hz]
    unfold sliced cutA
    simp [Result.andThen]
  simp only [execOp, ho, hx, hy, Option.map_some, Option.map_none, Sem.run_bind, hr, Result.andThen_ok, Sem.run_pure]
  exact ⟨Ext.refl _, rfl⟩

end Go.Proofs.YtegajjpfcjfadaaDoor
