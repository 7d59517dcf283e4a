/-
  A chain of tests joined by &&, each of a field of two structs, walked at a frame that is a variable. No conditions.
-/
import Derived.Test.YthdgnahokmjkpaaDoorBase
namespace Go.Proofs.YthdgnahokmjkpaaDoor
open Go.RowKit

/-- What is known of the frame: two pointers, and what the tests have told. -/
structure Fr (a : Act) (n : Nat) (p q : Option Addr) (sp sq s : Nat) (t : Bool) : Prop where
  size : a.tmps.size = n
  defers : a.defers = []
  hp : a.tmps[sp]? = some (.pointer p)
  hq : a.tmps[sq]? = some (.pointer q)
  hs : a.tmps[s]? = some (.bool t)

theorem put_same {a : Act} {n d : Nat} (h : a.tmps.size = n) (hd : d < n) (v : Value) : (a.put (some d) v).tmps[d]? = some v := by
  show (a.tmps.setIfInBounds d v)[d]? = some v
  rw [Array.getElem?_setIfInBounds_self_of_lt (by omega)]
theorem put_other {a : Act} {d e : Nat} (h : d ≠ e) (v : Value) : (a.put (some d) v).tmps[e]? = a.tmps[e]? := by
  show (a.tmps.setIfInBounds d v)[e]? = _
  rw [Array.getElem?_setIfInBounds_ne h]
theorem put_size (a : Act) (d : Nat) (v : Value) : (a.put (some d) v).tmps.size = a.tmps.size := by
  show (a.tmps.setIfInBounds d v).size = _
  rw [Array.size_setIfInBounds]
theorem eval_of {a : Act} {d : Nat} {v : Value} (h : a.tmps[d]? = some v) : a.eval (.tmp d) = v := by
  show a.tmps.getD d undef = v
  rw [Array.getD_eq_getD_getElem?, h]
  rfl
theorem Fr.put {a : Act} {n : Nat} {p q : Option Addr} {sp sq s : Nat} {t : Bool} (F : Fr a n p q sp sq s t) {d : Nat} (h1 : d ≠ sp) (h2 : d ≠ sq) (h3 : d ≠ s) (v : Value) : Fr (a.put (some d) v) n p q sp sq s t :=
  ⟨by rw [put_size]; exact F.size, F.defers, by rw [put_other h1]; exact F.hp, by rw [put_other h2]; exact F.hq, by rw [put_other h3]; exact F.hs⟩
theorem Fr.new {a : Act} {n : Nat} {p q : Option Addr} {sp sq s : Nat} {t : Bool} (F : Fr a n p q sp sq s t) {d : Nat} (h1 : d ≠ sp) (h2 : d ≠ sq) (hd : d < n) (u : Bool) : Fr (a.put (some d) (.bool u)) n p q sp sq d u :=
  ⟨by rw [put_size]; exact F.size, F.defers, by rw [put_other h1]; exact F.hp, by rw [put_other h2]; exact F.hq, put_same F.size hd _⟩

section
variable {P : Program} {ops : Array Oper} {Q : Exit → Act → World → Prop} {rest : List Oper} {a : Act} {w : World}
theorem wp_yes {o : Oper} {v : Value} (hw : Region.wanted o (yielded ops a.tmps) = true) (hr : (execOp a.eval o).run P w = .ok (.value v) w) (h : wpList P ops Q rest (a.put o.dst v) w) : wpList P ops Q (o :: rest) a w :=
  wpList_want hw fun K hK => by
    unfold Oper.wp
    rw [hr]
    exact hK _ _ h
theorem wp_nop {o : Oper} (hw : Region.wanted o (yielded ops a.tmps) = false) (h : wpList P ops Q rest (a.put o.dst undef) w) : wpList P ops Q (o :: rest) a w :=
  wpList_step fun K hK => by
    rw [if_neg (by rw [hw]; exact Bool.false_ne_true)]
    exact hK _ _ h
theorem wanted_yes {o : Oper} {j s : Nat} (hg : o.guard = some (j, true)) (hj : (ops[j]?).bind (·.dst) = some s) (hs : a.tmps[s]? = some (.bool true)) : Region.wanted o (yielded ops a.tmps) = true := by
  unfold Region.wanted yielded
  rw [hg]
  simp only [hj, Option.bind_some, hs]
  rfl
theorem wanted_no {o : Oper} {j s : Nat} (hg : o.guard = some (j, true)) (hj : (ops[j]?).bind (·.dst) = some s) (hs : a.tmps[s]? = some (.bool false)) : Region.wanted o (yielded ops a.tmps) = false := by
  unfold Region.wanted yielded
  rw [hg]
  simp only [hj, Option.bind_some, hs]
  rfl
theorem wanted_free {o : Oper} (hg : o.guard = none) : Region.wanted o (yielded ops a.tmps) = true := by
  unfold Region.wanted
  rw [hg]

theorem run_move {ev : Operand → Value} {x : Operand} {d : Option Tmp} {ty : TypeId} {ps : String} {af : Array Edge} {gd : Option (Nat × Bool)} : (execOp ev ⟨d, .move x, ty, ps, af, gd⟩).run P w = .ok (.value (ev x)) w := by
  simp [execOp]
theorem run_assign {ev : Operand → Value} {x : Operand} {d : Option Tmp} {ty : TypeId} {ps : String} {af : Array Edge} {gd : Option (Nat × Bool)} : (execOp ev ⟨d, .assign x, ty, ps, af, gd⟩).run P w = .ok (.value (ev x)) w := by
  simp [execOp]
theorem run_pick {ev : Operand → Value} {x y : Operand} {d : Option Tmp} {ty : TypeId} {ps : String} {af : Array Edge} {gd : Option (Nat × Bool)} {t : Bool} (h : ev x = .bool t) :
    (execOp ev ⟨d, .pick x y (.const (.bool false)), ty, ps, af, gd⟩).run P w = .ok (.value (if t then ev y else ev (.const (.bool false)))) w := by
  simp [execOp, h, asBool]

/-- One test of the chain: two fields' addresses, two loads, a comparison, the pick. -/
theorem wp_and {n : Nat} {p q : Option Addr} {sp sq s : Nat} {t b : Bool} (F : Fr a n p q sp sq s t) (hsp : sp < s) (hsq : sq < s) (hn : s + 6 < n) (j : Nat) (hj : (ops[j]?).bind (·.dst) = some s) {HT T : TypeId} {i : Nat} {p1 q1 : Option Addr} {v1 v2 : Value}
    {y1 y2 y3 y4 y5 y6 : TypeId} {z1 z2 z3 z4 z5 z6 : String} {f1 f2 f3 f4 f5 f6 : Array Edge} {T2 : TypeId}
    (hA : ∀ ev : Operand → Value, ev (.tmp sp) = .pointer p → (execOp ev ⟨some (s + 1), .fieldAddr HT (.tmp sp) i, y1, z1, f1, some (j, true)⟩).run P w = .ok (.value (.pointer p1)) w)
    (hA' : ∀ ev : Operand → Value, ev (.tmp sq) = .pointer q → (execOp ev ⟨some (s + 3), .fieldAddr HT (.tmp sq) i, y3, z3, f3, some (j, true)⟩).run P w = .ok (.value (.pointer q1)) w)
    (hL : ∀ ev : Operand → Value, ev (.tmp (s + 1)) = .pointer p1 → (execOp ev ⟨some (s + 2), .load T (.tmp (s + 1)), y2, z2, f2, some (j, true)⟩).run P w = .ok (.value v1) w)
    (hL' : ∀ ev : Operand → Value, ev (.tmp (s + 3)) = .pointer q1 → (execOp ev ⟨some (s + 4), .load T (.tmp (s + 3)), y4, z4, f4, some (j, true)⟩).run P w = .ok (.value v2) w)
    (hE : ∀ ev : Operand → Value, ev (.tmp (s + 2)) = v1 → ev (.tmp (s + 4)) = v2 → (execOp ev ⟨some (s + 5), .binOp .eql T (.tmp (s + 2)) (.tmp (s + 4)) T2, y5, z5, f5, some (j, true)⟩).run P w = .ok (.value (.bool b)) w)
    (h : ∀ a', Fr a' n p q sp sq (s + 6) (t && b) → wpList P ops Q rest a' w) :
    wpList P ops Q (⟨some (s + 1), .fieldAddr HT (.tmp sp) i, y1, z1, f1, some (j, true)⟩ :: ⟨some (s + 2), .load T (.tmp (s + 1)), y2, z2, f2, some (j, true)⟩ :: ⟨some (s + 3), .fieldAddr HT (.tmp sq) i, y3, z3, f3, some (j, true)⟩ ::
      ⟨some (s + 4), .load T (.tmp (s + 3)), y4, z4, f4, some (j, true)⟩ :: ⟨some (s + 5), .binOp .eql T (.tmp (s + 2)) (.tmp (s + 4)) T2, y5, z5, f5, some (j, true)⟩ :: ⟨some (s + 6), .pick (.tmp s) (.tmp (s + 5)) (.const (.bool false)), y6, z6, f6, none⟩ :: rest) a w := by
  cases t with
  | true =>
    have F1 := F.put (d := s + 1) (by omega) (by omega) (by omega) (.pointer p1)
    refine wp_yes (wanted_yes rfl hj F.hs) (hA _ (eval_of F.hp)) ?_
    have F2 := F1.put (d := s + 2) (by omega) (by omega) (by omega) v1
    refine wp_yes (wanted_yes rfl hj F1.hs) (hL _ (eval_of (put_same F.size (by omega) _))) ?_
    have F3 := F2.put (d := s + 3) (by omega) (by omega) (by omega) (.pointer q1)
    refine wp_yes (wanted_yes rfl hj F2.hs) (hA' _ (eval_of F2.hq)) ?_
    have F4 := F3.put (d := s + 4) (by omega) (by omega) (by omega) v2
    refine wp_yes (wanted_yes rfl hj F3.hs) (hL' _ (eval_of (put_same F2.size (by omega) _))) ?_
    have F5 := F4.put (d := s + 5) (by omega) (by omega) (by omega) (.bool b)
    refine wp_yes (wanted_yes rfl hj F4.hs) (hE _ (eval_of ?_) (eval_of ?_)) ?_
    · rw [put_other (by omega), put_other (by omega)]
      exact put_same F1.size (by omega) _
    · exact put_same F3.size (by omega) _
    refine wp_yes (wanted_free rfl) (run_pick (eval_of F5.hs)) ?_
    simp only [if_true, Bool.true_and] at h ⊢
    rw [eval_of (put_same F4.size (by omega) _)]
    exact h _ (F5.new (by omega) (by omega) (by omega) b)
  | false =>
    have F1 := F.put (d := s + 1) (by omega) (by omega) (by omega) undef
    refine wp_nop (wanted_no rfl hj F.hs) ?_
    have F2 := F1.put (d := s + 2) (by omega) (by omega) (by omega) undef
    refine wp_nop (wanted_no rfl hj F1.hs) ?_
    have F3 := F2.put (d := s + 3) (by omega) (by omega) (by omega) undef
    refine wp_nop (wanted_no rfl hj F2.hs) ?_
    have F4 := F3.put (d := s + 4) (by omega) (by omega) (by omega) undef
    refine wp_nop (wanted_no rfl hj F3.hs) ?_
    have F5 := F4.put (d := s + 5) (by omega) (by omega) (by omega) undef
    refine wp_nop (wanted_no rfl hj F4.hs) ?_
    refine wp_yes (wanted_free rfl) (run_pick (eval_of F5.hs)) ?_
    simp only [Bool.false_and] at h ⊢
    exact h _ (F5.new (by omega) (by omega) (by omega) false)

/-- The test's value, moved. -/
theorem wp_andMove {n : Nat} {p q : Option Addr} {sp sq s : Nat} {t : Bool} (F : Fr a n p q sp sq s t) (hsp : sp < s) (hsq : sq < s) (hn : s + 1 < n) {y : TypeId} {z : String} {f : Array Edge}
    (h : ∀ a', Fr a' n p q sp sq (s + 1) t → wpList P ops Q rest a' w) : wpList P ops Q (⟨some (s + 1), .move (.tmp s), y, z, f, none⟩ :: rest) a w := by
  refine wp_yes (wanted_free rfl) run_move ?_
  rw [eval_of F.hs]
  exact h _ (F.new (by omega) (by omega) (by omega) t)
theorem wp_andAssign {n : Nat} {p q : Option Addr} {sp sq s d : Nat} {t : Bool} (F : Fr a n p q sp sq s t) (hsp : sp ≠ d) (hsq : sq ≠ d) (hn : d < n) {y : TypeId} {z : String} {f : Array Edge}
    (h : ∀ a', Fr a' n p q sp sq d t → wpList P ops Q rest a' w) : wpList P ops Q (⟨some d, .assign (.tmp s), y, z, f, none⟩ :: rest) a w := by
  refine wp_yes (wanted_free rfl) run_assign ?_
  rw [eval_of F.hs]
  exact h _ (F.new (by omega) (by omega) (by omega) t)

/-- The chain's first test, that no guard stands ahead of. -/
theorem wp_and0 {n : Nat} {p q : Option Addr} {sp sq s : Nat} {t b : Bool} (F : Fr a n p q sp sq s t) (hsp : sp < s) (hsq : sq < s) (hn : s + 6 < n) {HT T : TypeId} {i : Nat} {p1 q1 : Option Addr} {v1 v2 : Value}
    {y1 y2 y3 y4 y5 y6 : TypeId} {z1 z2 z3 z4 z5 z6 : String} {f1 f2 f3 f4 f5 f6 : Array Edge} {T2 : TypeId}
    (hA : ∀ ev : Operand → Value, ev (.tmp sp) = .pointer p → (execOp ev ⟨some (s + 1), .fieldAddr HT (.tmp sp) i, y1, z1, f1, none⟩).run P w = .ok (.value (.pointer p1)) w)
    (hA' : ∀ ev : Operand → Value, ev (.tmp sq) = .pointer q → (execOp ev ⟨some (s + 3), .fieldAddr HT (.tmp sq) i, y3, z3, f3, none⟩).run P w = .ok (.value (.pointer q1)) w)
    (hL : ∀ ev : Operand → Value, ev (.tmp (s + 1)) = .pointer p1 → (execOp ev ⟨some (s + 2), .load T (.tmp (s + 1)), y2, z2, f2, none⟩).run P w = .ok (.value v1) w)
    (hL' : ∀ ev : Operand → Value, ev (.tmp (s + 3)) = .pointer q1 → (execOp ev ⟨some (s + 4), .load T (.tmp (s + 3)), y4, z4, f4, none⟩).run P w = .ok (.value v2) w)
    (hE : ∀ ev : Operand → Value, ev (.tmp (s + 2)) = v1 → ev (.tmp (s + 4)) = v2 → (execOp ev ⟨some (s + 5), .binOp .eql T (.tmp (s + 2)) (.tmp (s + 4)) T2, y5, z5, f5, none⟩).run P w = .ok (.value (.bool b)) w)
    (h : ∀ a', Fr a' n p q sp sq (s + 6) b → wpList P ops Q rest a' w) :
    wpList P ops Q (⟨some (s + 1), .fieldAddr HT (.tmp sp) i, y1, z1, f1, none⟩ :: ⟨some (s + 2), .load T (.tmp (s + 1)), y2, z2, f2, none⟩ :: ⟨some (s + 3), .fieldAddr HT (.tmp sq) i, y3, z3, f3, none⟩ ::
      ⟨some (s + 4), .load T (.tmp (s + 3)), y4, z4, f4, none⟩ :: ⟨some (s + 5), .binOp .eql T (.tmp (s + 2)) (.tmp (s + 4)) T2, y5, z5, f5, none⟩ :: ⟨some (s + 6), .move (.tmp (s + 5)), y6, z6, f6, none⟩ :: rest) a w := by
  have F1 := F.put (d := s + 1) (by omega) (by omega) (by omega) (.pointer p1)
  refine wp_yes (wanted_free rfl) (hA _ (eval_of F.hp)) ?_
  have F2 := F1.put (d := s + 2) (by omega) (by omega) (by omega) v1
  refine wp_yes (wanted_free rfl) (hL _ (eval_of (put_same F.size (by omega) _))) ?_
  have F3 := F2.put (d := s + 3) (by omega) (by omega) (by omega) (.pointer q1)
  refine wp_yes (wanted_free rfl) (hA' _ (eval_of F2.hq)) ?_
  have F4 := F3.put (d := s + 4) (by omega) (by omega) (by omega) v2
  refine wp_yes (wanted_free rfl) (hL' _ (eval_of (put_same F2.size (by omega) _))) ?_
  have F5 := F4.put (d := s + 5) (by omega) (by omega) (by omega) (.bool b)
  refine wp_yes (wanted_free rfl) (hE _ (eval_of ?_) (eval_of ?_)) ?_
  · rw [put_other (by omega), put_other (by omega)]
    exact put_same F1.size (by omega) _
  · exact put_same F3.size (by omega) _
  refine wp_yes (wanted_free rfl) run_move ?_
  rw [eval_of (put_same F4.size (by omega) _)]
  exact h _ (F5.new (by omega) (by omega) (by omega) b)

end

end Go.Proofs.YthdgnahokmjkpaaDoor
