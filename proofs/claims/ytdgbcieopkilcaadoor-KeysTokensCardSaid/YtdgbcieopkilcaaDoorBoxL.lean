/-
  A box's map in ideal mode: laws for its walks. No conditions.
-/
import Derived.Test.YtdgbcieopkilcaaDoorBoxI
import Derived.Test.YtdgbcieopkilcaaDoorLexG
namespace Go.Proofs.YtdgbcieopkilcaaDoor
open Go.ChangeShapes Go.WideShapes Go.ChangeAt Go.RowKit

theorem tok_box' (w : World) (A B : Array Value) (T U : TypeId) : ∃ w2, (w.alloc (.cells A T)).alloc (.cells B U) = w2 ∧ Ext w w2 ∧ w2.heap[w.heap.size]? = some (.cells A T (0, 0)) ∧ w2.heap[w.heap.size + 1]? = some (.cells B U (0, 0)) := by
  refine ⟨_, rfl, ((Ext.refl w).alloc _).alloc _, ?_, ?_⟩
  · exact Ext.keep ((Ext.refl (w.alloc (.cells A T))).alloc _) (heap_new w _ _ rfl)
  · exact heap_new _ _ _ (by simp)
section
variable {w : World} {o : Oper} {ev : Operand → Value}
theorem rl_row {P : Program} {x : Operand} {T : TypeId} {g : Nat} {t : TypeId} {cs : Array Value} {fr : Nat × Nat} {d : TypeDesc} (ho : o.op = .load T x) (hx : ev x = .pointer (some ⟨g, 0, none⟩)) (hg : w.heap[g]? = some (.cells cs t fr))
    (hu : P.underlying T = some d) (hd : (match d with | .struct _ | .array _ _ => true | _ => false) = true) (hi : (P.info? T).map (·.size) = some cs.size) : (execOp ev o).run P w = .ok (.value (.agg cs)) w := by
  simp only [execOp, ho, hx, Instr.loadAt, Instr.sureAddr, Sem.run_bind, Sem.run_pure, Result.andThen_ok, run_loadVar_row w g t T cs fr d hg hu hd hi]
theorem rl_str {x : Operand} {src : Option Addr} {n c : Nat} {xs : List Int} (ho : o.op = .convert 40 9 x) (hx : ev x = .slice src n c) (hb : BsAt w src n c xs) : (execOp ev o).run Tryd.prog w = .ok (.value (.string (strOf xs))) w := by
  have hr := run_conv_str hb
  simp only [execOp, ho, hx, Sem.run_bind, hr, Result.andThen_ok, Sem.run_pure]
set_option maxRecDepth 100000 in
theorem build_nm (w : World) (f : Nat → Int) (s : ByteArray) : (Instr.build 83 #[(0, .agg (rowArr 32 fun j => .int .u8 (f j))), (1, .string s)]).run Tryd.prog w = .ok (.agg (nmV f s)) w := by kernel_rfl
theorem rl_build_nm {x0 x1 : Operand} {f : Nat → Int} {s : ByteArray} (ho : o.op = .build 83 #[(0, x0), (1, x1)]) (h0 : ev x0 = .agg (rowArr 32 fun j => .int .u8 (f j))) (h1 : ev x1 = .string s) : (execOp ev o).run Tryd.prog w = .ok (.value (.agg (nmV f s))) w := by
  have hb := build_nm w f s
  simp only [execOp, ho, List.map_toArray, List.map_cons, List.map_nil, h0, h1, Sem.run_bind, hb, Result.andThen_ok, Sem.run_pure]
theorem rl_lookup {P : Program} {T : TypeId} {x y : Operand} {vx vy r : Value} (ho : o.op = .lookup T x y true) (hx : ev x = vx) (hy : ev y = vy) (h : (Instr.lookup T vx vy true).run P w = .ok r w) : (execOp ev o).run P w = .ok (.value r) w := by
  simp only [execOp, ho, hx, hy, Sem.run_bind, h, Result.andThen_ok, Sem.run_pure]
end
theorem box_cell {w : World} {gb : Nat} {h : Nat → Int} {dr : Int} {m1 m2 m3 : Nat} {T : TypeId} (hb : w.heap[gb]? = some (.cells (rowArr 37 (boxJ h dr m1 m2 m3)) T (0, 0))) : w.cell? ⟨gb, 0, none⟩ = some (.bool true) ∧ w.cell? ⟨gb, 33, none⟩ = some (.int .u64 dr) ∧ w.cell? ⟨gb, 35, none⟩ = some (.map (some m2)) ∧ w.cell? ⟨gb, 36, none⟩ = some (.map (some m3)) :=
  ⟨row_cell hb 0 (by omega), row_cell hb 33 (by omega), row_cell hb 35 (by omega), row_cell hb 36 (by omega)⟩
set_option maxRecDepth 100000 in
theorem zero_nm (w : World) : (zeroValue 83).run Tryd.prog w = .ok (.agg (nmV (fun _ => 0) ⟨#[]⟩)) w := by kernel_rfl
theorem wp_build_nm {ops : Array Oper} {Q : Exit → Act → World → Prop} {rest : List Oper} {o : Oper} {a : Act} {w : World} (hw : Region.wanted o (yielded ops a.tmps) = true) (x0 x1 : Operand) (ho : o.op = .build 83 #[(0, x0), (1, x1)])
    (f : Nat → Int) (s : ByteArray) (h0 : a.eval x0 = .agg (rowArr 32 fun j => .int .u8 (f j))) (h1 : a.eval x1 = .string s) (A : Array Value) (hA : nmV f s = A)
    (h : wpList Tryd.prog ops Q rest (a.put o.dst (.agg A)) w) : wpList Tryd.prog ops Q (o :: rest) a w := by
  subst hA
  refine wpList_want hw fun K hK => ?_
  unfold Oper.wp execOp
  simp only [ho, List.map_toArray, List.map_cons, List.map_nil, h0, h1, Sem.run_bind, build_nm, Result.andThen_ok, Sem.run_pure]
  exact hK _ _ h
theorem setBlock_other (w : World) (m k : Nat) (o : Obj) (hne : k ≠ m) : (ChangeMaps.setBlock w m o).heap[k]? = w.heap[k]? := by
  unfold ChangeMaps.setBlock
  simp [Ne.symm hne]
theorem below_setBlock {B m : Nat} {a w : World} (h : Below B a w) (hm : B ≤ m) (o : Obj) : Below B a (ChangeMaps.setBlock w m o) :=
  h.trans ⟨rfl, rfl, rfl, by unfold ChangeMaps.setBlock; simp, fun k hk => setBlock_other w m k o (by omega)⟩
theorem below_grown {B g : Nat} {a w w' : World} (h : Below B a w) (hs : B ≤ w.heap.size) (hg : w.grownBy w' (some g)) (hB : B ≤ g) : Below B a w' :=
  h.trans ⟨hg.os, hg.tape, hg.output, hg.size, fun k hk => hg.block k (by omega) (fun e => by have := Option.some.inj e; omega)⟩

/-- All blocks but two are as they were. -/
def Kept (g m : Nat) (w w' : World) : Prop := w.heap.size ≤ w'.heap.size ∧ ∀ k, k < w.heap.size → k ≠ g → k ≠ m → w'.heap[k]? = w.heap[k]?

end Go.Proofs.YtdgbcieopkilcaaDoor
