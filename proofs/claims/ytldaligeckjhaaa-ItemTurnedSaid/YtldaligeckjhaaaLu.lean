/-
  Cuts of a slice of bytes inside a region that draws its order.
  Laws of guarded operations. No conditions.
-/
import Derived.Test.YtldaligeckjhaaaBys
import Derived.Test.YtldaligeckjhaaaLx
namespace Go.Proofs.Ytldaligeckjhaaa
open Go.ChangeAt Go.ChangeShapes Go.RowKit Go.WideShapes

/-- Where a slice lies behind its first k elements. -/
def cutA (a : Option Addr) (c k : Nat) : Option Addr := if c = k then a else a.map (·.add k)

theorem BsAt.drop {w : World} {a : Option Addr} {n c : Nat} {xs : List Int} (h : BsAt w a n c xs) (k : Nat) (hk : k ≤ n) : BsAt w (cutA a c k) (n - k) (c - k) (xs.drop k) := by
  have hc := h.cap
  have hl := h.lim
  have hs := h.small
  refine ⟨by rw [List.length_drop, h.len], by omega, by omega, by omega, fun x hx => h.byte x (List.mem_of_mem_drop hx), fun h0 => ?_, fun e => ?_⟩
  · obtain ⟨b, off, rfl, hcell⟩ := h.at_ (by omega)
    refine ⟨b, off + k, by unfold cutA; rw [if_neg (by omega)]; simp [addr_add], fun i hi => ?_⟩
    rw [Nat.add_assoc, hcell (k + i) (by omega), List.getD_eq_getElem?_getD, List.getD_eq_getElem?_getD, List.getElem?_drop]
  · have : a = none := by
      unfold cutA at e
      split at e
      · exact e
      · cases a with
        | none => rfl
        | some ad => cases e
    have := h.nil_ this
    omega

set_option maxRecDepth 100000 in
theorem lu_from {w : World} {o : Oper} {ev : Operand → Value} {x y : Operand} {a : Option Addr} {n c k : Nat} (ho : o.op = .slice 70 x (some y) none none) (hx : ev x = .slice a n c) (hy : ev y = .int .i64 (k : Int)) (hk : k ≤ n) :
    lexUpon Try.prog w (.ex (.slice (cutA a c k) (n - k) (c - k))) ((execOp ev o).run Try.prog w) := by
  have h0 : (0 : Int) ≤ (k : Int) := by omega
  have h1 : (k : Int) ≤ (n : Int) := by omega
  have hs := run_slice_l (P := Try.prog) (w := w) 70 a n c Try.underlying70 .i64 (k : Int) h0 h1
  have hz : ∀ w, (sizeOf (Try.prog.elem 70)).run Try.prog w = .ok 1 w := fun _ => by kernel_rfl
  have hr : (Instr.sliceAt 70 (.slice a n c) (some (.int .i64 (k : Int))) none none).run Try.prog w = .ok (.slice (cutA a c k) (n - k) (c - k)) w := by
    rw [run_sliceAt_slice w _ _ _ _ _ Try.underlying70, hs, hz]
    unfold sliced cutA
    simp [Result.andThen]
  simp only [execOp, ho, hx, hy, Option.map_some, Option.map_none, Sem.run_bind, hr, Result.andThen_ok, Sem.run_pure]
  exact ⟨Ext.refl _, rfl⟩

theorem run_conv_str {w : World} {src : Option Addr} {n c : Nat} {xs : List Int} (hb : BsAt w src n c xs) : (convert 70 9 (.slice src n c)).run Try.prog w = .ok (.string (strOf xs)) w := by
  have hlen := hb.len
  cases src with
  | none =>
    have h0 := hb.nil_ rfl
    have h1 := hb.cap
    obtain rfl : n = 0 := by omega
    obtain rfl : xs = [] := List.eq_nil_of_length_eq_zero hlen
    rw [run_convert_bytes_string w 70 9 5 none 0 c Try.underlying70 Try.underlying5 Try.underlying9]
    rfl
  | some ad =>
    have := run_convert_bytes_back (P := Try.prog) w 70 9 5 ad c (u8s xs) Try.underlying70 Try.underlying5 Try.underlying9 (fun j hj => by
      obtain ⟨hi, he⟩ := u8s_get xs hb.byte j _ (List.getElem?_eq_getElem hj)
      have h1 := hb.news j (.int .u8 (xs.getD j 0)) (by
        unfold bv
        rw [List.getElem?_map, List.getElem?_eq_getElem hi, List.getD_eq_getElem?_getD, List.getElem?_eq_getElem hi]
        rfl)
      rw [h1, he])
    rw [u8s_length, hlen] at this
    exact this

theorem lu_str {w : World} {o : Oper} {ev : Operand → Value} {x : Operand} {src : Option Addr} {n c : Nat} {xs : List Int} (ho : o.op = .convert 70 9 x) (hx : ev x = .slice src n c) (hb : BsAt w src n c xs) :
    lexUpon Try.prog w (.ex (.string (strOf xs))) ((execOp ev o).run Try.prog w) := by
  have hr := run_conv_str hb
  simp only [execOp, ho, hx, Sem.run_bind, hr, Result.andThen_ok, Sem.run_pure]
  exact ⟨Ext.refl _, rfl⟩

theorem lu_row {P : Program} {w : World} {o : Oper} {ev : Operand → Value} {x : Operand} {T : TypeId} {g : Nat} {t : TypeId} {cs : Array Value} {fr : Nat × Nat} {d : TypeDesc} (ho : o.op = .load T x) (hx : ev x = .pointer (some ⟨g, 0, none⟩)) (hg : w.heap[g]? = some (.cells cs t fr))
    (hu : P.underlying T = some d) (hd : (match d with | .struct _ | .array _ _ => true | _ => false) = true) (hi : (P.info? T).map (·.size) = some cs.size) :
    lexUpon P w (.ex (.agg cs)) ((execOp ev o).run P w) := by
  simp only [execOp, ho, hx, Instr.loadAt, Instr.sureAddr, Sem.run_bind, Sem.run_pure, Result.andThen_ok, run_loadVar_row w g t T cs fr d hg hu hd hi]
  exact ⟨Ext.refl _, rfl⟩

theorem conv_strW {w : World} {ops : Array Oper} {rest : List Oper} {o : Oper} {a : Act} {Q : Exit → Act → World → Prop} (hw : Region.wanted o (yielded ops a.tmps) = true) (x : Operand) (ho : o.op = .convert 70 9 x)
    (src : Option Addr) (n c : Nat) (xs : List Int) (hx : a.eval x = .slice src n c) (hb : BsAt w src n c xs)
    (h : wpList Try.prog ops Q rest (a.put o.dst (.string (strOf xs))) w) : wpList Try.prog ops Q (o :: rest) a w := by
  refine wpList_want hw fun K hK => ?_
  unfold Oper.wp execOp
  simp only [ho, hx, Sem.run_bind, run_conv_str hb, Result.andThen_ok, Sem.run_pure]
  exact hK _ _ h

end Go.Proofs.Ytldaligeckjhaaa
