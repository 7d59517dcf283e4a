/-
  All pieces behind a cursor: which they are (plain), and the walk of index.behind's function, which hands them over one by one. Asked: at most 400 pieces of each writer.
-/
import Derived.Test.YtihlpfdhallfpaaDoorEach
import Derived.Test.YtihlpfdhallfpaaDoorIxG
import Derived.Test.YtihlpfdhallfpaaDoorLexH
import Derived.Test.YtihlpfdhallfpaaDoorLexG
namespace Go.Proofs.YtihlpfdhallfpaaDoor
open Go.ChangeShapes Go.WideShapes Go.ChangeAt Go.RowKit

/-! Plain: which pieces, in which order. -/
def lvlTo (len cu : Nat → Nat) (k i : Nat) : List (Nat × Nat) := ((List.range i).filter fun j => decide (cu j + k ≤ len j)).map fun j => (j, cu j + k - 1)
def preB (len cu : Nat → Nat) (k : Nat) : List (Nat × Nat) := (List.range k).flatMap fun k => lvlTo len cu (k + 1) 6
def allB (len cu : Nat → Nat) : List (Nat × Nat) := preB len cu 401
section
variable {len cu : Nat → Nat}
theorem lvlTo_zero (k : Nat) : lvlTo len cu k 0 = [] := rfl
theorem lvlTo_yes {k i : Nat} (h : cu i + k ≤ len i) : lvlTo len cu k (i + 1) = lvlTo len cu k i ++ [(i, cu i + k - 1)] := by
  unfold lvlTo
  rw [List.range_succ, List.filter_append, List.map_append]
  congr 1
  simp [h]
theorem lvlTo_no {k i : Nat} (h : ¬ cu i + k ≤ len i) : lvlTo len cu k (i + 1) = lvlTo len cu k i := by
  unfold lvlTo
  rw [List.range_succ, List.filter_append, List.map_append]
  simp [h]
theorem lvlTo_pre (k : Nat) : ∀ i j, i ≤ j → lvlTo len cu k i <+: lvlTo len cu k j := by
  intro i j h
  obtain ⟨d, rfl⟩ : ∃ d, j = i + d := ⟨j - i, by omega⟩
  clear h
  induction d with
  | zero => exact List.prefix_refl _
  | succ d ih =>
    rw [← Nat.add_assoc]
    by_cases h : cu (i + d) + k ≤ len (i + d)
    · rw [lvlTo_yes h]
      exact ih.trans (List.prefix_append _ _)
    · rw [lvlTo_no h]
      exact ih
theorem lvlTo_nil {k : Nat} : ∀ i, (∀ j, j < i → ¬ cu j + k ≤ len j) → lvlTo len cu k i = []
  | 0, _ => rfl
  | i + 1, h => by rw [lvlTo_no (h i (by omega)), lvlTo_nil i fun j hj => h j (by omega)]
theorem preB_succ (k : Nat) : preB len cu (k + 1) = preB len cu k ++ lvlTo len cu (k + 1) 6 := by
  unfold preB
  rw [List.range_succ, List.flatMap_append]
  simp
theorem preB_pre : ∀ i d, preB len cu i <+: preB len cu (i + d)
  | i, 0 => List.prefix_refl _
  | i, d + 1 => by
    rw [← Nat.add_assoc, preB_succ]
    exact (preB_pre i d).trans (List.prefix_append _ _)
theorem preB_all {k i : Nat} (hk : k ≤ 400) (hi : i ≤ 6) : preB len cu k ++ lvlTo len cu (k + 1) i <+: allB len cu := by
  have h1 : preB len cu k ++ lvlTo len cu (k + 1) i <+: preB len cu (k + 1) := by
    rw [preB_succ]
    exact (List.prefix_append_right_inj _).2 (lvlTo_pre (k + 1) i 6 hi)
  have h2 := preB_pre (len := len) (cu := cu) (k + 1) (400 - k)
  rw [show k + 1 + (400 - k) = 401 by omega] at h2
  exact h1.trans h2
theorem preB_stay {k : Nat} (h : ∀ j, j < 6 → ¬ cu j + (k + 1) ≤ len j) : ∀ d, preB len cu (k + d) = preB len cu k
  | 0 => rfl
  | d + 1 => by
    rw [← Nat.add_assoc, preB_succ, preB_stay h d, lvlTo_nil 6 fun j hj => by have := h j hj; omega, List.append_nil]
theorem preB_end {k : Nat} (hk : k ≤ 400) (h : ∀ j, j < 6 → ¬ cu j + (k + 1) ≤ len j) : preB len cu k = allB len cu := by
  have h1 := preB_stay h (401 - k)
  rw [show k + (401 - k) = 401 by omega] at h1
  exact h1.symm
end

/-! What a piece that is handed over is. -/
/-- What index S has at a place, wherever its copy lies. -/
def IsGot (S : Nat → CSt) (q : Nat × Nat) (p : Pc) : Prop := ∃ a' c' a c, p = gotP ((S q.1).l.getD q.2 htN) a' c' a c ((S q.1).bl.getD q.2 bdN).1
def lenS (S : Nat → CSt) (i : Nat) : Nat := (S i).l.length
/-- From state s on a piece may come: s' is the state behind it. -/
def NxB (B : Nat) (S : Nat → CSt) (cu : Nat → Nat) (s : List (Nat × Nat)) (p : Pc) (A : World) (s' : List (Nat × Nat)) : Prop :=
  ∃ q, s' = s ++ [q] ∧ s' <+: allB (lenS S) cu ∧ q.1 < 6 ∧ q.2 < (S q.1).l.length ∧ IsGot S q p ∧ PcOwn B A p
/-- Where the function's captured variables lie. -/
structure SrcB (B gx : Nat) (G : Nat → Nat) (S : Nat → CSt) (cnt : Int) (cu : Nat → Nat) (gp gc : Nat) (A : World) : Prop where
  ix : IxAt A B gx G S cnt
  box : A.cell? ⟨gp, 0, none⟩ = some (.pointer (some ⟨gx, 0, none⟩))
  cur : ∀ i, i < 6 → A.cell? ⟨gc, i, none⟩ = some (.int .u64 (cu i : Int))
theorem SrcB.ext {B gx : Nat} {G : Nat → Nat} {S : Nat → CSt} {cnt : Int} {cu : Nat → Nat} {gp gc : Nat} {A A' : World} (h : SrcB B gx G S cnt cu gp gc A) (he : Ext A A') : SrcB B gx G S cnt cu gp gc A' :=
  ⟨h.ix.ext he, by rw [he.cell (World.block_lt_of_cell? _ _ h.box)]; exact h.box, fun i hi => by rw [he.cell (World.block_lt_of_cell? _ _ (h.cur i hi))]; exact h.cur i hi⟩
/-- What stays while a piece is stored. -/
structure PgE (ph : Bool) (z z' : World) : Prop where
  keep : ∀ (b : Nat) (cs : Array Value) (T : TypeId) (fr : Nat × Nat), T ≠ 37 → z.heap[b]? = some (.cells cs T fr) → z'.heap[b]? = some (.cells cs T fr)
  blk : ∀ (b : Nat) (cs : Array Value), cs.size = 126 → z.heap[b]? = some (.cells cs 37 (0, 0)) → ∃ cs', cs'.size = 126 ∧ z'.heap[b]? = some (.cells cs' 37 (0, 0))
  said : ph = true → ∀ (b : Nat) (cs : Array Value), z.heap[b]? = some (.cells cs 37 (0, 0)) → z'.heap[b]? = some (.cells cs 37 (0, 0))
theorem PgE.ext {ph : Bool} {z z' : World} (h : Ext z z') : PgE ph z z' := ⟨fun _ _ _ _ _ k => h.keep k, fun _ cs hs k => ⟨cs, hs, h.keep k⟩, fun _ _ _ k => h.keep k⟩
theorem PgE.le {z z' : World} (h : PgE true z z') : PgE false z z' := ⟨h.keep, h.blk, fun k => by cases k⟩
theorem PgE.store {z : World} {g : Nat} {cs0 : Array Value} (hg : z.heap[g]? = some (.cells cs0 37 (0, 0))) {cs : Array Value} (hs : cs.size = 126) : PgE false z (z.setRow g cs) := by
  refine ⟨fun b cs' T fr hT k => ?_, fun b cs' hs' k => ?_, fun k => by cases k⟩
  · rw [setRow_other z g b cs (fun e => by
      subst e
      rw [hg] at k
      simp only [Option.some.injEq, Obj.cells.injEq] at k
      exact hT k.2.1.symm)]
    exact k
  · by_cases e : b = g
    · subst e
      exact ⟨cs, hs, setRow_heap z b cs0 cs _ _ hg⟩
    · exact ⟨cs', hs', by rw [setRow_other z g b cs e]; exact k⟩
theorem PgE.own {ph : Bool} {z z' : World} (h : PgE ph z z') {B size n : Nat} {e : TypeId} {v : Value} {xs : List Value} (he : e ≠ 37) (k : z.ownsRow B e size v n xs) : z'.ownsRow B e size v n xs := by
  rcases k.2 with ⟨h1, h2⟩ | ⟨q, cap, cur, h1, h2, h3, h4⟩
  · exact ⟨k.1, .inl ⟨h1, h2⟩⟩
  · exact ⟨k.1, .inr ⟨q, cap, cur, h1, h2, h.keep _ _ _ _ he h3, h4⟩⟩
theorem PcOwn.pg {ph : Bool} {B : Nat} {z z' : World} {p : Pc} (h : PcOwn B z p) (k : PgE ph z z') : PcOwn B z' p := by
  have h1 := k.own (by decide) h.ts
  have h2 := k.own (by decide) h.bs
  refine ⟨⟨⟨h.at_.hd.ok, own_ts1 h1 h.at_.hd.toks.byte h.at_.hd.toks.small⟩, ?_, h.at_.room⟩, h1, h2⟩
  have h3 := h2
  obtain ⟨_, cc, e, _, h4⟩ := owns_slice1 h3
  simp only [Value.slice.injEq, true_and] at e
  obtain ⟨rfl, rfl⟩ := e
  exact owns_bs h3 h.at_.body.byte (by unfold maxLen at h4; omega) h.at_.body.small
theorem PcOwn.ext {B : Nat} {z z' : World} {p : Pc} (h : PcOwn B z p) (k : Ext z z') : PcOwn B z' p := h.pg (PgE.ext (ph := false) k)
/-- A block for a piece. -/
def PgB (S : Nat) (v : Value) (w : World) : Prop := ∃ (g : Nat) (cs : Array Value), v = .pointer (some ⟨g, 0, none⟩) ∧ S ≤ g ∧ w.heap[g]? = some (.cells cs 37 (0, 0)) ∧ cs.size = 126
theorem PgB.pg {ph : Bool} {S : Nat} {v : Value} {z z' : World} (h : PgB S v z) (k : PgE ph z z') : PgB S v z' := by
  obtain ⟨g, cs, h1, h2, h3, h4⟩ := h
  obtain ⟨cs', h5, h6⟩ := k.blk g cs h4 h3
  exact ⟨g, cs', h1, h2, h6, h5⟩
/-- What Get hands back of place i: the piece, or none. -/
def GotA (S : Nat → CSt) (B : Nat) (q : Nat × Nat) (is : Bool) (z : World) (p : Pc) : Prop := if is = true then IsGot S q p ∧ PcOwn B z p else p = pcZ
theorem GotA.pg {S : Nat → CSt} {B : Nat} {q : Nat × Nat} {is : Bool} {ph : Bool} {z z' : World} {p : Pc} (h : GotA S B q is z p) (k : PgE ph z z') : GotA S B q is z' p := by
  unfold GotA at h ⊢
  split
  · rename_i e
    rw [if_pos e] at h
    exact ⟨h.1, h.2.pg k⟩
  · rename_i e
    rw [if_neg e] at h
    exact h
/-- The answer's two parts. -/
def GotT (S : Nat → CSt) (B : Nat) (q : Nat × Nat) (is : Bool) (u : Value) (z : World) : Prop := ∃ p, u = .tuple #[.agg (pcV p), .int .i64 (if is = true then 0 else 11)] ∧ GotA S B q is z p
def GotV (S : Nat → CSt) (B : Nat) (q : Nat × Nat) (is : Bool) (u : Value) (z : World) : Prop := ∃ p, u = .agg (pcV p) ∧ GotA S B q is z p
/-- A block with the piece in it. -/
def GotB (S : Nat → CSt) (B : Nat) (q : Nat × Nat) (is : Bool) (u : Value) (z : World) : Prop := ∃ (g : Nat) (p : Pc), u = .pointer (some ⟨g, 0, none⟩) ∧ B ≤ g ∧ z.heap[g]? = some (.cells (pcV p) 37 (0, 0)) ∧ GotA S 0 q is z p
theorem lu_extP {P : Program} {w : World} {o : Oper} {ev : Operand → Value} {x : Operand} {i : Nat} {sp : Sp} (ho : o.op = .extract x i) {vs : Array Value} {v : Value} (hx : ev x = .tuple vs) (hv : vs[i]? = some v) (hf : sp.holds v w) : lexUpon P w sp ((execOp ev o).run P w) := by
  simp only [execOp, ho, hx, Instr.extract, hv, Sem.run_bind, Sem.run_pure, Result.andThen_ok]
  exact ⟨Ext.refl _, hf⟩
theorem lu_newP {w : World} {o : Oper} {ev : Operand → Value} {S : Nat} (ho : o.op = .alloc 37) (hS : S ≤ w.heap.size) : lexUpon Tryd.prog w (.ab (PgB S)) ((execOp ev o).run Tryd.prog w) := by
  have hz := pcZ0
  have hzs := pcV_size pcZ
  obtain ⟨Z, hZ⟩ : ∃ z, pcV pcZ = z := ⟨_, rfl⟩
  rw [hZ] at hz hzs
  have hb : (w.alloc (.cells Z 37)).heap[w.heap.size]? = some (.cells Z 37 (0, 0)) := heap_new w _ _ rfl
  simp only [execOp, ho]
  go_simp
  exact ⟨(Ext.refl w).alloc _, _, _, rfl, hS, hb, hzs⟩
/-- A piece stored into a block of its own. -/
theorem luc_storeP {w w0 : World} {o : Oper} {ev : Operand → Value} {x y : Operand} (ho : o.op = .store 37 x y) {v : Value} (hx : ev x = v) (hb : PgB w0.heap.size v w) {p : Pc} (hy : ev y = .agg (pcV p)) (hE : Ext w0 w) :
    lexUponC Tryd.prog (Ext w0) (PgE false) w (.ab fun _ _ => True) ((execOp ev o).run Tryd.prog w) := by
  obtain ⟨g, cs, rfl, h2, h3, h4⟩ := hb
  have hm : PgE false w (w.setRow g (pcV p)) := PgE.store h3 (pcV_size p)
  simp only [execOp, ho, hx, hy, Instr.storeAt, Instr.sureAddr, Sem.run_bind, Sem.run_pure, Result.andThen_ok, run_storeVar_row (P := Tryd.prog) w g 37 37 cs (pcV p) h3 (by rw [pcV_size]; kernel_rfl) (by rw [pcV_size, h4]) (pcV_one p)]
  exact ⟨below_setRow hE h2 _, hm, trivial⟩
theorem luc_storeG {w w0 : World} {o : Oper} {ev : Operand → Value} {x y : Operand} (ho : o.op = .store 37 x y) {v : Value} (hx : ev x = v) (hb : PgB w0.heap.size v w) {p : Pc} (hy : ev y = .agg (pcV p)) {S : Nat → CSt} {q : Nat × Nat} {is : Bool} (hp : GotA S 0 q is w p) :
    GUpon (GotB S w0.heap.size q is v) ((execOp ev o).run Tryd.prog w) := by
  obtain ⟨g, cs, rfl, h2, h3, h4⟩ := hb
  have hm : PgE false w (w.setRow g (pcV p)) := PgE.store h3 (pcV_size p)
  simp only [execOp, ho, hx, hy, Instr.storeAt, Instr.sureAddr, Sem.run_bind, Sem.run_pure, Result.andThen_ok, run_storeVar_row (P := Tryd.prog) w g 37 37 cs (pcV p) h3 (by rw [pcV_size]; kernel_rfl) (by rw [pcV_size, h4]) (pcV_one p)]
  exact ⟨g, p, rfl, h2, setRow_heap w g cs _ _ _ h3, hp.pg hm⟩
theorem rq_rowP {P : Program} {w : World} {o : Oper} {ev : Operand → Value} {x : Operand} {T : TypeId} {g : Nat} {t : TypeId} {cs : Array Value} {fr : Nat × Nat} {d : TypeDesc} (ho : o.op = .load T x) (hx : ev x = .pointer (some ⟨g, 0, none⟩)) (hg : w.heap[g]? = some (.cells cs t fr))
    (hu : P.underlying T = some d) (hd : (match d with | .struct _ | .array _ _ => true | _ => false) = true) (hi : (P.info? T).map (·.size) = some cs.size) : (execOp ev o).run P w = .ok (.value (.agg cs)) w := by
  simp only [execOp, ho, hx, Instr.loadAt, Instr.sureAddr, Sem.run_bind, Sem.run_pure, Result.andThen_ok, run_loadVar_row w g t T cs fr d hg hu hd hi]
/-- What the round's flag says. -/
def SmB (len cu : Nat → Nat) (k i : Nat) (b : Bool) : Prop := (b = false → ∀ j, j < i → ¬ cu j + (k + 1) ≤ len j) ∧ (b = true → k + 1 ≤ 400)
theorem SmB.no {len cu : Nat → Nat} {k i : Nat} {b : Bool} (h : SmB len cu k i b) (hn : ¬ cu i + (k + 1) ≤ len i) : SmB len cu k (i + 1) b := by
  refine ⟨fun e j hj => ?_, h.2⟩
  by_cases ej : j = i
  · rw [ej]; exact hn
  · exact h.1 e j (by omega)
theorem SmB.yes {len cu : Nat → Nat} {k i : Nat} (hl : len i ≤ 400) (hn : cu i + (k + 1) ≤ len i) : SmB len cu k (i + 1) true := ⟨(fun e => by cases e), (fun _ => by omega)⟩
/-- Whether a piece is there. -/
theorem got_is {S : Nat → CSt} {cu : Nat → Nat} {k i mn : Nat} (hi : i < 6) (hl : (S i).l.length ≤ 400) (hmn : mn = if cu i ≤ 1048576 then cu i else 1048576) {w w' : World} {e : Ending} (h : GetOwn S ((i : Int) + 1) ((mn + (k + 1) : Nat) : Int) w e w') :
    ∃ p, e = .returned (.tuple #[.agg (pcV p), .int .i64 (if decide (cu i + (k + 1) ≤ lenS S i) = true then 0 else 11)]) ∧ GotA S 0 (i, cu i + (k + 1) - 1) (decide (cu i + (k + 1) ≤ lenS S i)) w' p ∧ Ext w w' := by
  have hii : ((i : Int) + 1 - 1).toNat = i := by omega
  obtain ⟨h1, h2, h3⟩ := h
  rw [hii] at h1 h2
  by_cases hc : cu i + (k + 1) ≤ lenS S i
  · have hc' : cu i + (k + 1) ≤ (S i).l.length := hc
    have hm : mn = cu i := by rw [hmn, if_pos (by omega)]
    obtain ⟨a', c', a, c, e1, e2⟩ := h2 ⟨by omega, by omega, by omega, by omega⟩
    have ht : (((mn + (k + 1) : Nat) : Int)).toNat - 1 = cu i + (k + 1) - 1 := by omega
    rw [ht] at e1 e2
    refine ⟨_, by rw [e1, decide_eq_true hc]; rfl, ?_, h3⟩
    unfold GotA
    rw [decide_eq_true hc, if_pos rfl]
    exact ⟨⟨a', c', a, c, rfl⟩, e2.at_, own_mono e2.ts (Nat.zero_le _), own_mono e2.bs (Nat.zero_le _)⟩
  · have hc' : ¬ cu i + (k + 1) ≤ (S i).l.length := hc
    have hno : ¬ (1 ≤ (i : Int) + 1 ∧ (i : Int) + 1 ≤ 6 ∧ 1 ≤ ((mn + (k + 1) : Nat) : Int) ∧ ((mn + (k + 1) : Nat) : Int) ≤ ((S i).l.length : Int)) := by
      intro ⟨_, _, _, h5⟩
      rw [hmn] at h5
      split at h5 <;> omega
    refine ⟨pcZ, by rw [h1 hno, decide_eq_false hc]; rfl, ?_, h3⟩
    unfold GotA
    rw [decide_eq_false hc, if_neg Bool.false_ne_true]

set_option maxHeartbeats 4000000 in
set_option maxRecDepth 100000 in
/-- **What index.behind's function owes.** -/
theorem behind1_it {B gx : Nat} {G : Nat → Nat} {S : Nat → CSt} {cnt : Int} {cu : Nat → Nat} {gp gc : Nat} (hm : Modest S) (he : Even S) (hl : ∀ i, i < 6 → (S i).l.length ≤ 400) (hcu : ∀ i, i < 6 → cu i < 18446744073709551616) (n : Nat) :
    IterOk Fence.wide n Tryd.prog 54 #[.pointer (some ⟨gp, 0, none⟩), .pointer (some ⟨gc, 0, none⟩)] (fun p : Pc => #[.agg (pcV p)]) (NxB 0 S cu) [] (fun s => s = allB (lenS S) cu) (SrcB B gx G S cnt cu gp gc) := by
  intro l J Jx W hJe hJs hY h0
  refine callsIn_wide.2 ?_
  show Calls Tryd.prog 54 #[.func (.yield l) #[] #[], .pointer (some ⟨gp, 0, none⟩), .pointer (some ⟨gc, 0, none⟩)] W _
  have HJe := Lib.hid hJe
  have HJs := Lib.hid hJs
  have HYd := Lib.hid hY
  have HMo := Lib.hid hm
  have HEv := Lib.hid he
  have Hl := Lib.hid hl
  have Hcu := Lib.hid hcu
  clear hJe hJs hY hm he hl hcu
  go_enter Tryd.func54, Tryd.ntmps54
  go_wp2_with fail
  go_loopw [4] (fun kv y => ∃ k : Nat, k ≤ 400 ∧ kv = .int .u64 ((k : Int) + 1) ∧ J (preB (lenS S) cu k) y) (fun kv _ => 402 - (intOf kv).toNat)
  case atStart => exact ⟨0, by omega, rfl, h0⟩
  case round =>
    obtain ⟨k, hk, rfl, hj⟩ := hrel
    rename World => y0
    have HJ0 := Lib.hid hj
    clear hj h0
    go_wp2_with fail
    go_loopw [5, 11] (fun sm iv y => ∃ (i : Nat) (b : Bool), i ≤ 6 ∧ iv = .int .i64 (i : Int) ∧ sm = .bool b ∧ SmB (lenS S) cu k i b ∧ J (preB (lenS S) cu k ++ lvlTo (lenS S) cu (k + 1) i) y) (fun _ iv _ => 6 - (intOf iv).toNat)
    case atStart => exact ⟨0, false, by omega, rfl, rfl, ⟨(fun _ j hj => absurd hj (Nat.not_lt_zero _)), (fun e => by cases e)⟩, by rw [lvlTo_zero, List.append_nil]; exact HJ0.out⟩
    case round =>
      obtain ⟨i, b, hi, rfl, rfl, hb, hj⟩ := hrel
      rename World => y
      have HJ := Lib.hid hj
      have HB := Lib.hid hb
      have HS := Lib.hid (HJs.out _ _ hj)
      clear hj hb
      by_cases hi6 : i < 6
      · have x1 : (i : Int) < 6 := by omega
        have Hi := Lib.hid hi6
        obtain ⟨ci, hci⟩ : ∃ z, cu i = z := ⟨_, rfl⟩
        obtain ⟨mn, hmn⟩ : ∃ z, (if ci ≤ 1048576 then ci else 1048576) = z := ⟨_, rfl⟩
        obtain ⟨is, his⟩ : ∃ z, decide (cu i + (k + 1) ≤ lenS S i) = z := ⟨_, rfl⟩
        obtain ⟨ec, hec⟩ : ∃ z : Int, (if is = true then 0 else 11) = z := ⟨_, rfl⟩
        have Hmn := Lib.hid (show mn ≤ 1048576 by rw [← hmn]; split <;> omega)
        have Hci := Lib.hid (show mn = if ci ≤ 1048576 then ci else 1048576 from hmn.symm)
        have Hk := Lib.hid hk
        have HG := Lib.hid (show ∀ z, Ext y z → Calls Tryd.prog 17 #[.pointer (some ⟨gx, 0, none⟩), .int .i64 ((i : Int) + 1), .int .u64 ((mn + (k + 1) : Nat) : Int)] z fun e w' => ∃ u, e = .returned u ∧ Ext z w' ∧ ∃ p, u = .tuple #[.agg (pcV p), .int .i64 ec] ∧ GotA S 0 (i, cu i + (k + 1) - 1) is w' p from fun z hz => by
          have h := ixGetO_any (HS.out.ix.ext hz) HMo.out HEv.out ((i : Int) + 1) ((mn + (k + 1) : Nat) : Int) (by omega) (by have := Hmn.out; omega)
          refine h.mono ?_
          intro e w' hg
          obtain ⟨p, e1, e2, e3⟩ := got_is (cu := cu) hi6 (Hl.out i hi6) (by rw [hci]; exact hmn.symm) hg
          rw [his] at e1 e2
          rw [hec] at e1
          exact ⟨_, e1, e3, p, rfl, e2⟩)
        have HCu := Lib.hid (show ∀ z, Ext y z → z.cell? ⟨gp, 0, none⟩ = some (.pointer (some ⟨gx, 0, none⟩)) ∧ z.cell? ⟨gc, i, none⟩ = some (.int .u64 (ci : Int)) from fun z hz => ⟨(HS.out.ext hz).box, by rw [← hci]; exact (HS.out.ext hz).cur i hi6⟩)
        have Hcb := Lib.hid (show ci < 18446744073709551616 by rw [← hci]; exact Hcu.out i hi6)
        have His := Lib.hid his
        have Hec := Lib.hid hec
        clear hci hmn his hec
        go_upto_region 6 with (fail)
        obtain ⟨GB, hGB⟩ : ∃ z : Value → World → Prop, GotB S y.heap.size (i, cu i + (k + 1) - 1) is = z := ⟨_, rfl⟩
        have HGB := Lib.hid hGB
        clear hGB
        refine lh_start (C := fun _ => Ext y) (E := PgE) 16 14 13 7 _ [13, 11] GB (by omega) (by kernel_rfl) (by kernel_rfl) (by decide) (by kernel_rfl) rfl rfl (by kernel_rfl) (by kernel_rfl) (fun v z z' he h => by
          rw [← HGB.out] at h ⊢
          obtain ⟨g, p, h1, h2, h3, h4⟩ := h
          exact ⟨g, p, h1, h2, he.said rfl _ _ h3, h4.pg he⟩) (fun _ z => PgE.ext (Ext.refl z)) (fun _ _ h => h.le) (Ext.refl y).drew ?_
        simp only [List.take_succ_cons, List.take_zero]
        have HST := Lib.hid (show ∀ (ph : Bool) (z z' : World), Ext y z → Ext z z' → Ext y z' ∧ PgE ph z z' from fun ph z z' h he => ⟨h.trans he, PgE.ext he⟩)
        refine lq_s (.ex (.pointer (some ⟨gx, 0, none⟩))) [] (by omega) (by kernel_rfl) rfl (by rfl) trivial HST.out (fun ph w1 hw1 => ?_) ?_
        · simp only [pk, lexVals]
          have hc := (HCu.out w1 hw1).1
          clear hw1
          go_simp
          exact ⟨Ext.refl _, rfl⟩
        refine lq_s (.ex (.int .i64 (i : Int))) [] (by omega) (by kernel_rfl) rfl (by rfl) trivial HST.out (fun ph w1 hw1 => ?_) ?_
        · simp only [pk, lexVals]
          clear hw1
          go_simp
          exact ⟨Ext.refl _, by first | rfl | simp⟩
        refine lq_s (.ex (.int .i64 ((i : Int) + 1))) [(0, 16)] (by omega) (by kernel_rfl) rfl (by rfl) trivial HST.out (fun ph w1 hw1 => ?_) ?_
        · simp only [pk, nthSp, lexVals]
          have hi := Hi.out
          clear hw1
          go_simp
          exact ⟨Ext.refl _, by first | rfl | (show Value.int .i64 _ = Value.int .i64 _; congr 1; first | omega | (rw [IntKind.wrap_i64]; omega))⟩
        refine lq_s (.ex (.int .i64 (i : Int))) [] (by omega) (by kernel_rfl) rfl (by rfl) trivial HST.out (fun ph w1 hw1 => ?_) ?_
        · simp only [pk, lexVals]
          clear hw1
          go_simp
          exact ⟨Ext.refl _, by first | rfl | simp⟩
        refine lq_s (.ex (.pointer (some ⟨gc, i, none⟩))) [(0, 18)] (by omega) (by kernel_rfl) rfl (by rfl) trivial HST.out (fun ph w1 hw1 => ?_) ?_
        · simp only [pk, nthSp, lexVals]
          have hi := Hi.out
          clear hw1
          go_simp
          exact ⟨Ext.refl _, by first | rfl | simp⟩
        refine lq_s (.ex (.int .u64 (ci : Int))) [(0, 19)] (by omega) (by kernel_rfl) rfl (by rfl) trivial HST.out (fun ph w1 hw1 => ?_) ?_
        · simp only [pk, nthSp, lexVals]
          have hc := (HCu.out w1 hw1).2
          clear hw1
          go_simp
          exact ⟨Ext.refl _, rfl⟩
        refine lq_s (.ex (.int .u64 (mn : Int))) [(0, 20)] (by omega) (by kernel_rfl) rfl (by rfl) trivial HST.out (fun ph w1 hw1 => ?_) ?_
        · simp only [pk, nthSp, lexVals]
          have hm := Hci.out
          clear hw1
          go_simp
          exact ⟨Ext.refl _, by show Value.int .u64 _ = Value.int .u64 _; congr 1; split at hm <;> (subst hm; first | omega | (simp; omega) | (split <;> omega))⟩
        refine lq_s (.ex (.int .u64 ((k : Int) + 1))) [] (by omega) (by kernel_rfl) rfl (by rfl) trivial HST.out (fun ph w1 hw1 => ?_) ?_
        · simp only [pk, lexVals]
          clear hw1
          go_simp
          exact ⟨Ext.refl _, by first | rfl | simp⟩
        refine lq_s (.ex (.int .u64 ((mn + (k + 1) : Nat) : Int))) [(1, 21), (0, 22)] (by omega) (by kernel_rfl) rfl (by rfl) trivial HST.out (fun ph w1 hw1 => ?_) ?_
        · simp only [pk, nthSp, lexVals]
          have hm := Hmn.out
          have hk := Hk.out
          clear hw1
          go_simp
          exact ⟨Ext.refl _, by first | rfl | (show Value.int .u64 _ = Value.int .u64 _; congr 1; first | omega | (rw [IntKind.wrap_u64]; omega))⟩
        refine lq_s (.ab (fun u z => ∃ p, u = .tuple #[.agg (pcV p), .int .i64 ec] ∧ GotA S 0 (i, cu i + (k + 1) - 1) is z p)) [(8, 15), (6, 17), (0, 23)] (by omega) (by kernel_rfl) rfl (by rfl) (fun u z z' he ⟨p, h1, h2⟩ => ⟨p, h1, h2.pg he⟩) HST.out (fun ph w1 hw1 => ?_) ?_
        · simp only [pk, nthSp, lexVals]
          have HC := Lib.hid (HG.out w1 hw1)
          clear hw1
          go_simp
          refine HC.out.mono ?_
          rintro e w3 ⟨u, rfl, h1, p, rfl, h2⟩
          exact ⟨_, rfl, h1, p, rfl, h2⟩
        refine lq_s (.ab (fun u z => ∃ p, u = .tuple #[.agg (pcV p), .int .i64 ec] ∧ GotA S 0 (i, cu i + (k + 1) - 1) is z p)) [(0, 24)] (by omega) (by kernel_rfl) rfl (by rfl) (fun u z z' he ⟨p, h1, h2⟩ => ⟨p, h1, h2.pg he⟩) HST.out (fun ph w1 hw1 => ?_) ?_
        · simp only [pk, nthSp, lexVals]
          rintro u24 ⟨p, rfl, h24⟩
          clear hw1
          go_simp
          exact ⟨Ext.refl _, p, rfl, h24⟩
        refine lq_s (.ab (fun u z => ∃ p, u = .agg (pcV p) ∧ GotA S 0 (i, cu i + (k + 1) - 1) is z p)) [(0, 14)] (by omega) (by kernel_rfl) rfl (by rfl) (fun u z z' he ⟨p, h1, h2⟩ => ⟨p, h1, h2.pg he⟩) HST.out (fun ph w1 hw1 => ?_) ?_
        · simp only [pk, nthSp, lexVals]
          rintro u14 ⟨p, rfl, h14⟩
          exact lu_extP rfl rfl rfl ⟨p, rfl, h14⟩
        refine lq_s (.ex (.int .i64 ec)) [(1, 14)] (by omega) (by kernel_rfl) rfl (by rfl) trivial HST.out (fun ph w1 hw1 => ?_) ?_
        · simp only [pk, nthSp, lexVals]
          rintro u14 ⟨p, rfl, h14⟩
          exact lu_extP rfl rfl rfl rfl
        refine lq_s (.ab (PgB y.heap.size)) [] (by omega) (by kernel_rfl) rfl (by rfl) (fun u z z' he h => h.pg he) HST.out (fun ph w1 hw1 => ?_) ?_
        · simp only [pk, lexVals]
          exact lu_newP rfl (Below.size hw1)
        refine lq_m (.ab (fun _ _ => True)) [(0, 7), (2, 25)] rfl (by kernel_rfl) rfl (by rfl) (fun _ _ _ _ _ => trivial) (fun w1 hw1 => ?_) ?_
        · simp only [pk, nthSp, lexVals]
          rintro u7 h7
          rintro u25 ⟨p, rfl, h25⟩
          exact luc_storeP (w0 := y) rfl rfl h7 rfl hw1
        refine lq_s (.ex (.int .i64 ec)) [(2, 26)] (by omega) (by kernel_rfl) rfl (by rfl) trivial HST.out (fun ph w1 hw1 => ?_) ?_
        · simp only [pk, nthSp, lexVals]
          clear hw1
          go_simp
          exact ⟨Ext.refl _, by first | rfl | simp⟩
        refine lh_stop (t := 7) (G := GB) [(2, 7), (4, 25)] (by rfl) (by decide) (by rfl) (by kernel_rfl) rfl (fun w1 hw1 => ?_) (fun v2 hv2 => ?_)
        · simp only [pk, nthSp, lexVals]
          rintro u7 h7 u25 ⟨p, rfl, h25⟩
          simp only [Act.put, List.setIfInBounds_toArray, List.set_cons_zero, List.set_cons_succ]
          rw [← HGB.out]
          exact luc_storeG (v := u7) (w0 := y) rfl rfl h7 rfl h25
        · have HE2 := Lib.hid hv2
          clear hv2
          simp only [rv, pf, lexVals, List.drop_succ_cons, List.drop_zero]
          rintro u24 - u14 - u25 - u7 - u0 -
          simp only [Act.put, List.setIfInBounds_toArray, List.set_cons_zero, List.set_cons_succ]
          intro hg
          have hg7 : GB u7 v2 := hg
          clear hg
          rw [← HGB.out] at hg7
          obtain ⟨g7, p, rfl, hS7, hP7, hA7⟩ := hg7
          have HP7 := Lib.hid hP7
          have HA7 := Lib.hid hA7
          clear hS7 hP7 hA7 HST HGB
          cases is with
          | false =>
            have hec : ec = 11 := Hec.out.symm
            subst hec
            have hno : ¬ cu i + (k + 1) ≤ lenS S i := of_decide_eq_false His.out
            have Hno := Lib.hid hno
            clear hno
            go_wp2_with fail
            go_roundw
            case rel => exact ⟨i + 1, b, by omega, by go_num, rfl, HB.out.no Hno.out, by rw [lvlTo_no Hno.out]; exact HJe.out _ _ _ HJ.out HE2.out⟩
            case measure => simp [intOf]; omega
          | true =>
            have hec : ec = 0 := Hec.out.symm
            subst hec
            have Hyes := Lib.hid (show cu i + (k + 1) ≤ lenS S i from of_decide_eq_true His.out)
            obtain ⟨PV, hPV⟩ : ∃ z, pcV p = z := ⟨_, rfl⟩
            have HPs := Lib.hid (show PV.size = 126 by rw [← hPV]; exact pcV_size _)
            rw [hPV] at HP7
            have HYi := Lib.hid (show YieldAt Fence.wide (n - 1) Tryd.prog l #[.agg PV] v2 fun e A' => (e = .returned (.bool true) ∧ J (preB (lenS S) cu k ++ lvlTo (lenS S) cu (k + 1) (i + 1)) A') ∨ (e = .returned (.bool false) ∧ Jx A') from by
              rw [← hPV, lvlTo_yes Hyes.out, ← List.append_assoc]
              refine HYd.out _ p _ v2 (HJe.out _ _ _ HJ.out HE2.out) ⟨(i, cu i + (k + 1) - 1), rfl, ?_, hi6, ?_, ?_⟩
              · rw [List.append_assoc, ← lvlTo_yes Hyes.out]
                exact preB_all hk (by omega)
              · have h1 : cu i + (k + 1) ≤ (S i).l.length := Hyes.out
                show cu i + (k + 1) - 1 < (S i).l.length
                omega
              · have h1 := HA7.out
                unfold GotA at h1
                rw [if_pos rfl] at h1
                exact h1)
            clear hPV
            go_upto_region 9 with (fail)
            refine (wpIn_wide (n := n)).1 ?_
            refine wpIn_region_lit ?_
            refine listIn_val (v := .func (.yield l) #[] #[]) (w' := v2) rfl rfl ?_
            simp only [Act.put, List.setIfInBounds_toArray, List.set_cons_zero, List.set_cons_succ]
            refine listIn_val (v := .agg PV) (w' := v2) rfl (rq_rowP rfl rfl HP7.out Tryd.underlying37 rfl (by rw [HPs.out]; kernel_rfl)) ?_
            simp only [Act.put, List.setIfInBounds_toArray, List.set_cons_zero, List.set_cons_succ]
            refine listIn_yield rfl rfl rfl rfl HYi.out ?_
            rintro e z (⟨rfl, hj2⟩ | ⟨rfl, hx2⟩)
            · have HJ2 := Lib.hid hj2
              clear hj2
              refine ⟨_, rfl, ?_⟩
              simp only [Act.put, List.setIfInBounds_toArray, List.set_cons_zero, List.set_cons_succ]
              refine listIn_val (v := .bool false) (w' := z) rfl rfl ?_
              simp only [Act.put, List.setIfInBounds_toArray, List.set_cons_zero, List.set_cons_succ]
              show wpListIn _ _ _ _ _ [] _ _
              unfold wpListIn
              go_wp2_with fail
              go_roundw
              case rel => exact ⟨i + 1, true, by omega, by go_num, rfl, SmB.yes (Hl.out i hi6) Hyes.out, HJ2.out⟩
              case measure => simp [intOf]; omega
            · have HX2 := Lib.hid hx2
              clear hx2
              refine ⟨_, rfl, ?_⟩
              simp only [Act.put, List.setIfInBounds_toArray, List.set_cons_zero, List.set_cons_succ]
              refine listIn_val (v := .bool true) (w' := z) rfl rfl ?_
              simp only [Act.put, List.setIfInBounds_toArray, List.set_cons_zero, List.set_cons_succ]
              show wpListIn _ _ _ _ _ [] _ _
              unfold wpListIn
              go_wp2_with fail
              refine bodyPost_ret (results_none rfl _ _ _) rfl ?_
              exact ⟨⟨_, rfl⟩, .inr HX2.out⟩
      · obtain rfl : i = 6 := by omega
        have x1 : ¬ ((6 : Nat) : Int) < 6 := by omega
        cases b with
        | false =>
          have HEnd := Lib.hid (HB.out.1 rfl)
          go_wp2_with fail
          refine bodyPost_ret (results_none rfl _ _ _) rfl ?_
          have hJe : J (allB (lenS S) cu) y := by
            have h1 := HJ.out
            rw [lvlTo_nil 6 HEnd.out, List.append_nil, preB_end hk HEnd.out] at h1
            exact h1
          first | exact ⟨⟨_, rfl⟩, .inl hJe⟩ | exact ⟨⟨_, rfl⟩, .inl ⟨_, rfl, hJe⟩⟩
        | true =>
          have Hk4 := Lib.hid (HB.out.2 rfl)
          go_wp2_with fail
          go_roundw
          case rel => exact ⟨k + 1, Hk4.out, by go_num, by rw [preB_succ]; exact HJ.out⟩
          case measure => simp [intOf]; omega

end Go.Proofs.YtihlpfdhallfpaaDoor
