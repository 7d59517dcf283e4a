/-
  The same steps of a region that draws its order as in Lex, what an operation looks at being reckoned.
-/
import Derived.Test.YtldaligeckjhaaaLex
namespace Go.Proofs.Ytldaligeckjhaaa
open Go.RowKit

def nthSp : List Sp → Nat → Sp
  | [], _ => .ex undef
  | s :: _, 0 => s
  | _ :: l, k + 1 => nthSp l k

def pk (done : List Sp) : List (Nat × Tmp) → List (Option Tmp × Sp)
  | [] => []
  | (k, d) :: r => (some d, nthSp done k) :: pk done r

theorem nth_of : ∀ (l : List Sp) (k : Nat), k < l.length → Nth l k (nthSp l k)
  | [], k, h => by simp at h
  | s :: l, 0, _ => .zero s l
  | s :: l, k + 1, h => .succ _ _ _ _ (nth_of l k (by simpa using h))

theorem picks_of (done : List Sp) : ∀ (rs : List (Nat × Tmp)), (rs.all fun p => decide (p.1 < done.length)) = true → Picks done rs (pk done rs)
  | [], _ => .nil
  | (k, d) :: r, h => by
    rw [List.all_cons, Bool.and_eq_true, decide_eq_true_eq] at h
    exact .cons _ _ _ _ _ (nth_of done k h.1) (picks_of done r h.2)

def rv : List Sp → List Sp → List Sp
  | [], acc => acc
  | s :: l, acc => rv l (s :: acc)
theorem rv_eq : ∀ (l acc : List Sp), rv l acc = l.reverse ++ acc
  | [], acc => rfl
  | s :: l, acc => by rw [rv, rv_eq l, List.reverse_cons, List.append_assoc]; rfl

def pf : List Sp → List Oper → List (Option Tmp × Sp)
  | s :: l, o :: r => (o.dst, s) :: pf l r
  | [], _ => []
  | _ :: _, [] => []

theorem pf_eq (ops : List Oper) (d : List Sp) (h : d.length ≤ ops.length) : lexPick ops d (List.range d.length) = pf d ops := by
  have key : ∀ (d : List Sp) (ops : List Oper), d.length ≤ ops.length → (List.range d.length).map (fun j => ((ops[j]?).bind (·.dst), (d[j]?).getD (.ex undef))) = pf d ops := by
    intro d
    induction d with
    | nil => intro ops _; simp [pf]
    | cons s l ih =>
      intro ops h
      cases ops with
      | nil => simp at h
      | cons o r =>
        rw [List.length_cons, List.range_succ_eq_map, List.map_cons, List.map_map, pf, ← ih r (by simpa using h)]
        rfl
  exact key d ops h

section
variable {P : Program} {ops : List Oper} {a0 : Act} {w0 : World} {F : List Sp → Prop} {i : Nat} {done : List Sp} {o : Oper} {rest : List Oper}

theorem lx_e (e : Value) (rs : List (Nat × Tmp)) (hr : relOkR ops i rs = true) (hg : o.guard = none) (hk : (rs.all fun p => decide (p.1 < done.length)) = true)
    (hs : ∀ w, Ext w0 w → lexVals w (pk done rs) a0 fun a => lexUpon P w (.ex e) ((execOp a.eval o).run P w))
    (h : lexGo P ops a0 w0 F (i + 1) (.ex e :: done) rest) : lexGo P ops a0 w0 F i done (o :: rest) :=
  lex_e e rs hr hg (picks_of done rs hk) hs h

theorem lx_a (f : Value → World → Prop) (rs : List (Nat × Tmp)) (hr : relOkR ops i rs = true) (hg : o.guard = none) (hk : (rs.all fun p => decide (p.1 < done.length)) = true) (hm : ∀ v w w', Ext w w' → f v w → f v w')
    (hs : ∀ w, Ext w0 w → lexVals w (pk done rs) a0 fun a => lexUpon P w (.ab f) ((execOp a.eval o).run P w))
    (h : lexGo P ops a0 w0 F (i + 1) (.ab f :: done) rest) : lexGo P ops a0 w0 F i done (o :: rest) :=
  lex_a f rs hr hg hm (picks_of done rs hk) hs h

theorem lx_ge (e : Value) (rs : List (Nat × Tmp)) (g : Tmp) (hr : relOkR ops i rs = true) {j : Nat} {b : Bool} (hg : o.guard = some (j, b)) (hj : (ops[j]?).bind (·.dst) = some g) (hk : (rs.all fun p => decide (p.1 < done.length)) = true)
    (hy : ∀ w, lexVals w (pk done rs) a0 fun a => a.tmps[g]? = some (.bool b))
    (hs : ∀ w, Ext w0 w → lexVals w (pk done rs) a0 fun a => lexUpon P w (.ex e) ((execOp a.eval o).run P w))
    (h : lexGo P ops a0 w0 F (i + 1) (.ex e :: done) rest) : lexGo P ops a0 w0 F i done (o :: rest) :=
  lex_ge e rs hr hg hj (picks_of done rs hk) hy hs h

theorem lx_ga (f : Value → World → Prop) (rs : List (Nat × Tmp)) (g : Tmp) (hr : relOkR ops i rs = true) {j : Nat} {b : Bool} (hg : o.guard = some (j, b)) (hj : (ops[j]?).bind (·.dst) = some g) (hk : (rs.all fun p => decide (p.1 < done.length)) = true)
    (hm : ∀ v w w', Ext w w' → f v w → f v w')
    (hy : ∀ w, lexVals w (pk done rs) a0 fun a => a.tmps[g]? = some (.bool b))
    (hs : ∀ w, Ext w0 w → lexVals w (pk done rs) a0 fun a => lexUpon P w (.ab f) ((execOp a.eval o).run P w))
    (h : lexGo P ops a0 w0 F (i + 1) (.ab f :: done) rest) : lexGo P ops a0 w0 F i done (o :: rest) :=
  lex_ga f rs hr hg hj hm (picks_of done rs hk) hy hs h

theorem lx_no (rs : List (Nat × Tmp)) (g : Tmp) (hr : relOkR ops i rs = true) {j : Nat} {b : Bool} (hg : o.guard = some (j, b)) (hj : (ops[j]?).bind (·.dst) = some g) (hk : (rs.all fun p => decide (p.1 < done.length)) = true)
    (hy : ∀ w, lexVals w (pk done rs) a0 fun a => a.tmps[g]? ≠ some (.bool b))
    (h : lexGo P ops a0 w0 F (i + 1) (.ex undef :: done) rest) : lexGo P ops a0 w0 F i done (o :: rest) :=
  lex_no rs hr hg hj (picks_of done rs hk) hy h
end

theorem lx_stopA {P : Program} {ops : List Oper} {a0 : Act} {w : World} {Q : Exit → Act → World → Prop} {i : Nat} {done : List Sp} (hl : done.length = ops.length) (h : ∀ w', Ext w.drew w' → lexVals w' (pf (rv done []) ops) a0 fun a => Q .normal a w') :
    lexGo P ops a0 w.drew (fun done => ∀ w', Ext w.drew w' → lexVals w' (lexPick ops done (List.range ops.length)) a0 fun a => Q .normal a w') i done [] := by
  refine lex_stop fun w' hw' => ?_
  have h1 := h w' hw'
  rw [rv_eq, List.append_nil, ← pf_eq ops done.reverse (by rw [List.length_reverse]; omega), List.length_reverse, hl] at h1
  exact h1

theorem lx_stopT {P : Program} {ops : List Oper} {a0 : Act} {w : World} {Q : Exit → Act → World → Prop} {i n : Nat} {done : List Sp} (hl : done.length = n) (hn : n ≤ ops.length) (h : ∀ w', Ext w.drew w' → lexVals w' (pf (rv done []) ops) a0 fun a => wpList P ops.toArray Q (ops.drop n) a w') :
    lexGo P ops a0 w.drew (fun done => ∀ w', Ext w.drew w' → lexVals w' (lexPick ops done (List.range n)) a0 fun a => wpList P ops.toArray Q (ops.drop n) a w') i done [] := by
  refine lex_stop fun w' hw' => ?_
  have h1 := h w' hw'
  rw [rv_eq, List.append_nil, ← pf_eq ops done.reverse (by rw [List.length_reverse]; omega), List.length_reverse, hl] at h1
  exact h1

end Go.Proofs.Ytldaligeckjhaaa
