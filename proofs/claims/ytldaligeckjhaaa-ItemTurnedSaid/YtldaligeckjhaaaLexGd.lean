/-
  A region that draws its order, one of whose operations writes: the same as in LexP, for operations whose guard says yes. No conditions.
-/
import Derived.Test.YtldaligeckjhaaaLexP
namespace Go.Proofs.Ytldaligeckjhaaa
open Go.RowKit

section
variable {P : Program} {C : Bool → World → Prop} {E : Bool → World → World → Prop} {m : Nat} {ops : List Oper} {a0 : Act} {F : List Sp → Prop} {i : Nat} {done : List Sp} {o : Oper} {rest : List Oper}

/-- A guarded operation that only makes memory grow. -/
theorem lq_se (s : Sp) (rs : List (Nat × Tmp)) (g : Tmp) (him : i ≠ m) (hr : relOkR ops i rs = true) {j : Nat} {b : Bool} (hg : o.guard = some (j, b)) (hj : (ops[j]?).bind (·.dst) = some g) (hk : (rs.all fun p => decide (p.1 < done.length)) = true) (hm : s.mono (E false))
    (hst : ∀ ph w w', C ph w → Ext w w' → C ph w' ∧ E ph w w') (hy : ∀ w, lexVals w (pk done rs) a0 fun a => a.tmps[g]? = some (.bool b))
    (hs : ∀ ph w, C ph w → lexVals w (pk done rs) a0 fun a => lexUpon P w s ((execOp a.eval o).run P w))
    (h : lexGoQ P C E m ops a0 F (i + 1) (s :: done) rest) : lexGoQ P C E m ops a0 F i done (o :: rest) := fun hi => by
  subst hi
  unfold relOkR at hr
  rw [Bool.and_eq_true] at hr
  have hp := picks_of done rs hk
  refine ⟨s, rs.map fun p => done.length - 1 - p.1, by rw [List.length_reverse]; exact hr.1, (show monoQ E m done.reverse.length s by unfold monoQ; rw [List.length_reverse, if_neg him]; exact hm), ⟨fun e => absurd (by rw [← e, List.length_reverse]) him, fun _ ph w hw => ?_⟩, ?_⟩
  · rw [picks_eq hp hr.2]
    refine lexVals_mono _ a0 _ _ (fun a ⟨hya, ha⟩ => ?_) (lex_ge.lexVals_and _ a0 _ _ (hy w) (hs ph w hw))
    have hwt : Region.wanted o (yielded ops.toArray a.tmps) = true := by simp [Region.wanted, hg, yielded, hj, hya]
    rw [if_pos hwt]
    generalize (execOp a.eval o).run P w = r at ha ⊢
    cases r with
    | ok x w' =>
      cases x <;> simp only [lexUpon] at ha <;> simp only [lexUponC]
      case value u => exact ⟨(hst ph w w' hw ha.1).1, (hst ph w w' hw ha.1).2, ha.2⟩
      case skip => exact ⟨(hst ph w w' hw ha.1).1, (hst ph w w' hw ha.1).2, ha.2⟩
      case enter f args => exact ha.mono fun e w'' ⟨v, he, hx, hv⟩ => ⟨v, he, (hst ph w w'' hw hx).1, (hst ph w w'' hw hx).2, hv⟩
    | halt x w' => simp only [lexUpon] at ha
  · have := h rfl
    rwa [List.reverse_cons] at this

/-- The guarded operation that turns what holds. -/
theorem lq_me (s : Sp) (rs : List (Nat × Tmp)) (g : Tmp) (him : i = m) (hr : relOkR ops i rs = true) {j : Nat} {b : Bool} (hg : o.guard = some (j, b)) (hj : (ops[j]?).bind (·.dst) = some g) (hk : (rs.all fun p => decide (p.1 < done.length)) = true) (hm : s.mono (E true))
    (hy : ∀ w, lexVals w (pk done rs) a0 fun a => a.tmps[g]? = some (.bool b))
    (hs : ∀ w, C false w → lexVals w (pk done rs) a0 fun a => lexUponC P (C true) (E false) w s ((execOp a.eval o).run P w))
    (h : lexGoQ P C E m ops a0 F (i + 1) (s :: done) rest) : lexGoQ P C E m ops a0 F i done (o :: rest) := fun hi => by
  subst hi
  unfold relOkR at hr
  rw [Bool.and_eq_true] at hr
  have hp := picks_of done rs hk
  refine ⟨s, rs.map fun p => done.length - 1 - p.1, by rw [List.length_reverse]; exact hr.1, (show monoQ E m done.reverse.length s by unfold monoQ; rw [List.length_reverse, if_pos him]; exact hm), ⟨fun _ w hw => ?_, fun e => absurd (by rw [List.length_reverse]; exact him) e⟩, ?_⟩
  · rw [picks_eq hp hr.2]
    refine lexVals_mono _ a0 _ _ (fun a ⟨hya, ha⟩ => ⟨by simp [Region.wanted, hg, yielded, hj, hya], ha⟩) (lex_ge.lexVals_and _ a0 _ _ (hy w) (hs w hw))
  · have := h rfl
    rwa [List.reverse_cons] at this
end

end Go.Proofs.Ytldaligeckjhaaa
