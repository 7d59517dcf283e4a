/-
  One piece out of a slice of pieces. No conditions.
-/
import Derived.Test.YtihlpfdhallfpaaDoorIxG
import Derived.Test.YtihlpfdhallfpaaDoorIxS
namespace Go.Proofs.YtihlpfdhallfpaaDoor
open Go.ChangeShapes Go.WideShapes Go.ChangeAt Go.RowKit

theorem pis_one {w : World} {g : Nat} {p : Pc} {T : TypeId} {fr : Nat × Nat} (hb : w.heap[g]? = some (.cells (pcV p) T fr)) (h : PcAt w p) : PisAt w (some ⟨g, 0, none⟩) 1 1 [p] := by
  refine ⟨rfl, Nat.le_refl _, by omega, by omega, fun x hx => ?_, fun _ => ⟨g, 0, rfl, fun i hi j hj => ?_⟩, fun h => by cases h⟩
  · obtain rfl := List.mem_singleton.1 hx
    exact h
  · obtain rfl : i = 0 := by omega
    rw [Nat.zero_mul, Nat.zero_add]
    exact row_cell hb j hj
theorem PisAt.one {w : World} {b off n c : Nat} {l : List Pc} (h : PisAt w (some ⟨b, off, none⟩) n c l) (k : Nat) (hk : k < n) : PisAt w (some ⟨b, off + k * 126, none⟩) 1 (c - k) [l.getD k pcN] := by
  obtain ⟨b', off', ha, hc⟩ := h.at_ (by omega)
  simp only [Option.some.injEq, Addr.mk.injEq, and_true] at ha
  obtain ⟨rfl, rfl⟩ := ha
  have hcap := h.cap
  have hlim := h.lim
  refine ⟨rfl, by omega, by omega, by omega, fun x hx => ?_, fun _ => ⟨b, off + k * 126, rfl, fun i hi j hj => ?_⟩, fun h => by cases h⟩
  · obtain rfl := List.mem_singleton.1 hx
    exact h.get k hk
  · obtain rfl : i = 0 := by omega
    rw [Nat.zero_mul, Nat.add_zero]
    exact hc k hk j hj
set_option maxRecDepth 100000 in
theorem lu_oneP {w : World} {o : Oper} {ev : Operand → Value} {x y z : Operand} {b n c k : Nat} {F : Value → World → Prop} (ho : o.op = .slice 24 x (some y) (some z) none) (hx : ev x = .slice (some ⟨b, 0, none⟩) n c) (hy : ev y = .int .i64 (k : Int)) (hz : ev z = .int .i64 ((k : Int) + 1)) (hk : k < n) (hc : n ≤ c)
    (hf : F (.slice (some ⟨b, 0 + k * 126, none⟩) 1 (c - k)) w) : lexUpon Tryd.prog w (.ab F) ((execOp ev o).run Tryd.prog w) := by
  have hs := run_slice_lh (P := Tryd.prog) (w := w) 24 (some ⟨b, 0, none⟩) n c Tryd.underlying24 .i64 .i64 (k : Int) ((k : Int) + 1) (by omega) (by omega) (by omega)
  have hz2 : ∀ w, (sizeOf (Tryd.prog.elem 24)).run Tryd.prog w = .ok 126 w := fun _ => by kernel_rfl
  have hr : (Instr.sliceAt 24 (.slice (some ⟨b, 0, none⟩) n c) (some (.int .i64 (k : Int))) (some (.int .i64 ((k : Int) + 1))) none).run Tryd.prog w = .ok (.slice (some ⟨b, 0 + k * 126, none⟩) 1 (c - k)) w := by
    rw [run_sliceAt_slice w _ _ _ _ _ Tryd.underlying24, hs, hz2]
    simp only [Result.andThen_ok]
    unfold sliced
    rw [show ((k : Int)).toNat = k by omega, show ((k : Int) + 1).toNat = k + 1 by omega, show k + 1 - k = 1 by omega, if_neg (show ¬ c = k by omega)]
    simp only [Option.map_some, addr_add]
  simp only [execOp, ho, hx, hy, hz, Option.map_some, Option.map_none, Sem.run_bind, hr, Result.andThen_ok, Sem.run_pure]
  exact ⟨Ext.refl _, hf⟩
theorem pcEq_got {x' : HT} {a' : Option Addr} {c' : Nat} {a : Option Addr} {c : Nat} {xs : List Int} {x : Pc} (h : HdEq x'.1 x.hd.1 x'.2 x.hd.2) (hb : xs = x.bd) : PcEq (gotP x' a' c' a c xs) x := ⟨hb, (reT_eq x' a' c').trans h⟩

end Go.Proofs.YtihlpfdhallfpaaDoor
