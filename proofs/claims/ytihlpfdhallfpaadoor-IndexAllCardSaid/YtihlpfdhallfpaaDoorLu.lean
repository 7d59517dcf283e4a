/-
  The same steps of a region that draws its order as in Lex, what an operation looks at being reckoned.
  Cuts of a slice of bytes inside a region that draws its order.
  Laws of guarded operations. No conditions.
-/
import Derived.Test.YtihlpfdhallfpaaDoorLex
import Derived.Test.YtihlpfdhallfpaaDoorBys
namespace Go.Proofs.YtihlpfdhallfpaaDoor
open Go.ChangeAt Go.ChangeShapes Go.RowKit Go.WideShapes

def nthSp : List Sp → Nat → Sp
  | [], _ => .ex undef
  | s :: _, 0 => s
  | _ :: l, k + 1 => nthSp l k

def pk (done : List Sp) : List (Nat × Tmp) → List (Option Tmp × Sp)
  | [] => []
  | (k, d) :: r => (some d, nthSp done k) :: pk done r

theorem nth_of : ∀ (l : List Sp) (k : Nat), k < l.length → Nth l k (nthSp l k)
  | [], k, h => by simp at h
  | s :: l, 0, _ => .zero s l
  | s :: l, k + 1, h => .succ _ _ _ _ (nth_of l k (by simpa using h))

theorem picks_of (done : List Sp) : ∀ (rs : List (Nat × Tmp)), (rs.all fun p => decide (p.1 < done.length)) = true → Picks done rs (pk done rs)
  | [], _ => .nil
  | (k, d) :: r, h => by
    rw [List.all_cons, Bool.and_eq_true, decide_eq_true_eq] at h
    exact .cons _ _ _ _ _ (nth_of done k h.1) (picks_of done r h.2)

def rv : List Sp → List Sp → List Sp
  | [], acc => acc
  | s :: l, acc => rv l (s :: acc)
theorem rv_eq : ∀ (l acc : List Sp), rv l acc = l.reverse ++ acc
  | [], acc => rfl
  | s :: l, acc => by rw [rv, rv_eq l, List.reverse_cons, List.append_assoc]; rfl

def pf : List Sp → List Oper → List (Option Tmp × Sp)
  | s :: l, o :: r => (o.dst, s) :: pf l r
  | [], _ => []
  | _ :: _, [] => []

theorem pf_eq (ops : List Oper) (d : List Sp) (h : d.length ≤ ops.length) : lexPick ops d (List.range d.length) = pf d ops := by
  have key : ∀ (d : List Sp) (ops : List Oper), d.length ≤ ops.length → (List.range d.length).map (fun j => ((ops[j]?).bind (·.dst), (d[j]?).getD (.ex undef))) = pf d ops := by
    intro d
    induction d with
    | nil => intro ops _; simp [pf]
    | cons s l ih =>
      intro ops h
      cases ops with
      | nil => simp at h
      | cons o r =>
        rw [List.length_cons, List.range_succ_eq_map, List.map_cons, List.map_map, pf, ← ih r (by simpa using h)]
        rfl
  exact key d ops h

section
variable {P : Program} {ops : List Oper} {a0 : Act} {w0 : World} {F : List Sp → Prop} {i : Nat} {done : List Sp} {o : Oper} {rest : List Oper}

theorem lx_e (e : Value) (rs : List (Nat × Tmp)) (hr : relOkR ops i rs = true) (hg : o.guard = none) (hk : (rs.all fun p => decide (p.1 < done.length)) = true)
    (hs : ∀ w, Ext w0 w → lexVals w (pk done rs) a0 fun a => lexUpon P w (.ex e) ((execOp a.eval o).run P w))
    (h : lexGo P ops a0 w0 F (i + 1) (.ex e :: done) rest) : lexGo P ops a0 w0 F i done (o :: rest) :=
  lex_e e rs hr hg (picks_of done rs hk) hs h

theorem lx_a (f : Value → World → Prop) (rs : List (Nat × Tmp)) (hr : relOkR ops i rs = true) (hg : o.guard = none) (hk : (rs.all fun p => decide (p.1 < done.length)) = true) (hm : ∀ v w w', Ext w w' → f v w → f v w')
    (hs : ∀ w, Ext w0 w → lexVals w (pk done rs) a0 fun a => lexUpon P w (.ab f) ((execOp a.eval o).run P w))
    (h : lexGo P ops a0 w0 F (i + 1) (.ab f :: done) rest) : lexGo P ops a0 w0 F i done (o :: rest) :=
  lex_a f rs hr hg hm (picks_of done rs hk) hs h

theorem lx_ge (e : Value) (rs : List (Nat × Tmp)) (g : Tmp) (hr : relOkR ops i rs = true) {j : Nat} {b : Bool} (hg : o.guard = some (j, b)) (hj : (ops[j]?).bind (·.dst) = some g) (hk : (rs.all fun p => decide (p.1 < done.length)) = true)
    (hy : ∀ w, lexVals w (pk done rs) a0 fun a => a.tmps[g]? = some (.bool b))
    (hs : ∀ w, Ext w0 w → lexVals w (pk done rs) a0 fun a => lexUpon P w (.ex e) ((execOp a.eval o).run P w))
    (h : lexGo P ops a0 w0 F (i + 1) (.ex e :: done) rest) : lexGo P ops a0 w0 F i done (o :: rest) :=
  lex_ge e rs hr hg hj (picks_of done rs hk) hy hs h

theorem lx_ga (f : Value → World → Prop) (rs : List (Nat × Tmp)) (g : Tmp) (hr : relOkR ops i rs = true) {j : Nat} {b : Bool} (hg : o.guard = some (j, b)) (hj : (ops[j]?).bind (·.dst) = some g) (hk : (rs.all fun p => decide (p.1 < done.length)) = true)
    (hm : ∀ v w w', Ext w w' → f v w → f v w')
    (hy : ∀ w, lexVals w (pk done rs) a0 fun a => a.tmps[g]? = some (.bool b))
    (hs : ∀ w, Ext w0 w → lexVals w (pk done rs) a0 fun a => lexUpon P w (.ab f) ((execOp a.eval o).run P w))
    (h : lexGo P ops a0 w0 F (i + 1) (.ab f :: done) rest) : lexGo P ops a0 w0 F i done (o :: rest) :=
  lex_ga f rs hr hg hj hm (picks_of done rs hk) hy hs h

theorem lx_no (rs : List (Nat × Tmp)) (g : Tmp) (hr : relOkR ops i rs = true) {j : Nat} {b : Bool} (hg : o.guard = some (j, b)) (hj : (ops[j]?).bind (·.dst) = some g) (hk : (rs.all fun p => decide (p.1 < done.length)) = true)
    (hy : ∀ w, lexVals w (pk done rs) a0 fun a => a.tmps[g]? ≠ some (.bool b))
    (h : lexGo P ops a0 w0 F (i + 1) (.ex undef :: done) rest) : lexGo P ops a0 w0 F i done (o :: rest) :=
  lex_no rs hr hg hj (picks_of done rs hk) hy h
end

theorem lx_stopA {P : Program} {ops : List Oper} {a0 : Act} {w : World} {Q : Exit → Act → World → Prop} {i : Nat} {done : List Sp} (hl : done.length = ops.length) (h : ∀ w', Ext w.drew w' → lexVals w' (pf (rv done []) ops) a0 fun a => Q .normal a w') :
    lexGo P ops a0 w.drew (fun done => ∀ w', Ext w.drew w' → lexVals w' (lexPick ops done (List.range ops.length)) a0 fun a => Q .normal a w') i done [] := by
  refine lex_stop fun w' hw' => ?_
  have h1 := h w' hw'
  rw [rv_eq, List.append_nil, ← pf_eq ops done.reverse (by rw [List.length_reverse]; omega), List.length_reverse, hl] at h1
  exact h1

theorem lx_stopT {P : Program} {ops : List Oper} {a0 : Act} {w : World} {Q : Exit → Act → World → Prop} {i n : Nat} {done : List Sp} (hl : done.length = n) (hn : n ≤ ops.length) (h : ∀ w', Ext w.drew w' → lexVals w' (pf (rv done []) ops) a0 fun a => wpList P ops.toArray Q (ops.drop n) a w') :
    lexGo P ops a0 w.drew (fun done => ∀ w', Ext w.drew w' → lexVals w' (lexPick ops done (List.range n)) a0 fun a => wpList P ops.toArray Q (ops.drop n) a w') i done [] := by
  refine lex_stop fun w' hw' => ?_
  have h1 := h w' hw'
  rw [rv_eq, List.append_nil, ← pf_eq ops done.reverse (by rw [List.length_reverse]; omega), List.length_reverse, hl] at h1
  exact h1

/-- Where a slice lies behind its first k elements. -/
def cutA (a : Option Addr) (c k : Nat) : Option Addr := if c = k then a else a.map (·.add k)

theorem BsAt.drop {w : World} {a : Option Addr} {n c : Nat} {xs : List Int} (h : BsAt w a n c xs) (k : Nat) (hk : k ≤ n) : BsAt w (cutA a c k) (n - k) (c - k) (xs.drop k) := by
  have hc := h.cap
  have hl := h.lim
  have hs := h.small
  refine ⟨by rw [List.length_drop, h.len], by omega, by omega, by omega, fun x hx => h.byte x (List.mem_of_mem_drop hx), fun h0 => ?_, fun e => ?_⟩
  · obtain ⟨b, off, rfl, hcell⟩ := h.at_ (by omega)
    refine ⟨b, off + k, by unfold cutA; rw [if_neg (by omega)]; simp [addr_add], fun i hi => ?_⟩
    rw [Nat.add_assoc, hcell (k + i) (by omega), List.getD_eq_getElem?_getD, List.getD_eq_getElem?_getD, List.getElem?_drop]
  · have : a = none := by
      unfold cutA at e
      split at e
      · exact e
      · cases a with
        | none => rfl
        | some ad => cases e
    have := h.nil_ this
    omega

set_option maxRecDepth 100000 in
theorem lu_from {w : World} {o : Oper} {ev : Operand → Value} {x y : Operand} {a : Option Addr} {n c k : Nat} (ho : o.op = .slice 35 x (some y) none none) (hx : ev x = .slice a n c) (hy : ev y = .int .i64 (k : Int)) (hk : k ≤ n) :
    lexUpon Tryd.prog w (.ex (.slice (cutA a c k) (n - k) (c - k))) ((execOp ev o).run Tryd.prog w) := by
  have h0 : (0 : Int) ≤ (k : Int) := by omega
  have h1 : (k : Int) ≤ (n : Int) := by omega
  have hs := run_slice_l (P := Tryd.prog) (w := w) 35 a n c Tryd.underlying35 .i64 (k : Int) h0 h1
  have hz : ∀ w, (sizeOf (Tryd.prog.elem 35)).run Tryd.prog w = .ok 1 w := fun _ => by kernel_rfl
  have hr : (Instr.sliceAt 35 (.slice a n c) (some (.int .i64 (k : Int))) none none).run Tryd.prog w = .ok (.slice (cutA a c k) (n - k) (c - k)) w := by
    rw [run_sliceAt_slice w _ _ _ _ _ Tryd.underlying35, hs, hz]
    unfold sliced cutA
    simp [Result.andThen]
  simp only [execOp, ho, hx, hy, Option.map_some, Option.map_none, Sem.run_bind, hr, Result.andThen_ok, Sem.run_pure]
  exact ⟨Ext.refl _, rfl⟩

theorem run_conv_str {w : World} {src : Option Addr} {n c : Nat} {xs : List Int} (hb : BsAt w src n c xs) : (convert 35 9 (.slice src n c)).run Tryd.prog w = .ok (.string (strOf xs)) w := by
  have hlen := hb.len
  cases src with
  | none =>
    have h0 := hb.nil_ rfl
    have h1 := hb.cap
    obtain rfl : n = 0 := by omega
    obtain rfl : xs = [] := List.eq_nil_of_length_eq_zero hlen
    rw [run_convert_bytes_string w 35 9 5 none 0 c Tryd.underlying35 Tryd.underlying5 Tryd.underlying9]
    rfl
  | some ad =>
    have := run_convert_bytes_back (P := Tryd.prog) w 35 9 5 ad c (u8s xs) Tryd.underlying35 Tryd.underlying5 Tryd.underlying9 (fun j hj => by
      obtain ⟨hi, he⟩ := u8s_get xs hb.byte j _ (List.getElem?_eq_getElem hj)
      have h1 := hb.news j (.int .u8 (xs.getD j 0)) (by
        unfold bv
        rw [List.getElem?_map, List.getElem?_eq_getElem hi, List.getD_eq_getElem?_getD, List.getElem?_eq_getElem hi]
        rfl)
      rw [h1, he])
    rw [u8s_length, hlen] at this
    exact this

theorem lu_str {w : World} {o : Oper} {ev : Operand → Value} {x : Operand} {src : Option Addr} {n c : Nat} {xs : List Int} (ho : o.op = .convert 35 9 x) (hx : ev x = .slice src n c) (hb : BsAt w src n c xs) :
    lexUpon Tryd.prog w (.ex (.string (strOf xs))) ((execOp ev o).run Tryd.prog w) := by
  have hr := run_conv_str hb
  simp only [execOp, ho, hx, Sem.run_bind, hr, Result.andThen_ok, Sem.run_pure]
  exact ⟨Ext.refl _, rfl⟩

theorem lu_row {P : Program} {w : World} {o : Oper} {ev : Operand → Value} {x : Operand} {T : TypeId} {g : Nat} {t : TypeId} {cs : Array Value} {fr : Nat × Nat} {d : TypeDesc} (ho : o.op = .load T x) (hx : ev x = .pointer (some ⟨g, 0, none⟩)) (hg : w.heap[g]? = some (.cells cs t fr))
    (hu : P.underlying T = some d) (hd : (match d with | .struct _ | .array _ _ => true | _ => false) = true) (hi : (P.info? T).map (·.size) = some cs.size) :
    lexUpon P w (.ex (.agg cs)) ((execOp ev o).run P w) := by
  simp only [execOp, ho, hx, Instr.loadAt, Instr.sureAddr, Sem.run_bind, Sem.run_pure, Result.andThen_ok, run_loadVar_row w g t T cs fr d hg hu hd hi]
  exact ⟨Ext.refl _, rfl⟩

theorem conv_strW {w : World} {ops : Array Oper} {rest : List Oper} {o : Oper} {a : Act} {Q : Exit → Act → World → Prop} (hw : Region.wanted o (yielded ops a.tmps) = true) (x : Operand) (ho : o.op = .convert 35 9 x)
    (src : Option Addr) (n c : Nat) (xs : List Int) (hx : a.eval x = .slice src n c) (hb : BsAt w src n c xs)
    (h : wpList Tryd.prog ops Q rest (a.put o.dst (.string (strOf xs))) w) : wpList Tryd.prog ops Q (o :: rest) a w := by
  refine wpList_want hw fun K hK => ?_
  unfold Oper.wp execOp
  simp only [ho, hx, Sem.run_bind, run_conv_str hb, Result.andThen_ok, Sem.run_pure]
  exact hK _ _ h

end Go.Proofs.YtihlpfdhallfpaaDoor
