/-
  The walk of slices.Equal at tokens. No conditions.
  A chain of tests joined by &&, each of a field of two structs, walked at a frame that is a variable. No conditions.
  The walk of entry.Same. No conditions.
  Two headers that say the same: plain laws. No conditions.
-/
import Derived.Test.YtihlpfdhallfpaaDoorHdF
import Derived.Test.YtihlpfdhallfpaaDoorHdA
import Derived.Test.YtihlpfdhallfpaaDoorBase
import Derived.Test.YtihlpfdhallfpaaDoorHdBy
namespace Go.Proofs.YtihlpfdhallfpaaDoor
open Go.ChangeAt Go.ChangeShapes Go.RowKit Go.WideShapes

/-- From the k-th on the tokens are the same. -/
def tsFrom (ts us : List (Nat → Int)) (n k : Nat) : Bool := (List.range n).all fun i => decide (i < k) || arrB 16 (ts.getD i fun _ => 0) (us.getD i fun _ => 0)
theorem tsFrom_iff (ts us : List (Nat → Int)) (n k : Nat) : tsFrom ts us n k = true ↔ ∀ i, i < n → k ≤ i → arrB 16 (ts.getD i fun _ => 0) (us.getD i fun _ => 0) = true := by
  unfold tsFrom
  rw [List.all_eq_true]
  constructor
  · intro q i h1 h2
    have := q i (List.mem_range.2 h1)
    rw [decide_eq_false (by omega)] at this
    exact this
  · intro q i hi
    by_cases h : i < k
    · rw [decide_eq_true h]; rfl
    · rw [q i (List.mem_range.1 hi) (by omega)]; simp
theorem tsFrom_step (ts us : List (Nat → Int)) (n k : Nat) (h : k < n) : tsFrom ts us n k = (arrB 16 (ts.getD k fun _ => 0) (us.getD k fun _ => 0) && tsFrom ts us n (k + 1)) := by
  rw [Bool.eq_iff_iff, Bool.and_eq_true, tsFrom_iff, tsFrom_iff]
  constructor
  · exact fun q => ⟨q k h (Nat.le_refl _), fun i h1 h2 => q i h1 (by omega)⟩
  · rintro ⟨q1, q2⟩ i h1 h2
    by_cases hi : i = k
    · subst hi; exact q1
    · exact q2 i h1 (by omega)
theorem tsFrom_end (ts us : List (Nat → Int)) (n : Nat) : tsFrom ts us n n = true := (tsFrom_iff ts us n n).2 (fun i h1 h2 => by omega)
def tsB (ts us : List (Nat → Int)) : Bool := decide (ts.length = us.length) && tsFrom ts us ts.length 0

set_option maxHeartbeats 1000000 in
set_option maxRecDepth 100000 in
theorem tsEq_any (a : Option Addr) (n c : Nat) (ts : List (Nat → Int)) (a' : Option Addr) (n' c' : Nat) (us : List (Nat → Int)) (w : World) (h : TsAt w a n c ts) (h' : TsAt w a' n' c' us) :
    Calls Tryd.prog 84 #[.slice a n c, .slice a' n' c'] w fun e w' => e = .returned (.bool (tsB ts us)) ∧ Ext w w' := by
  have hlen := h.len
  have hlen' := h'.len
  have hsm := h.small
  have hsm' := h'.small
  have kne := neq_t
  have H := Lib.hid h
  have H' := Lib.hid h'
  by_cases hn : n = n'
  · subst hn
    have hT : tsB ts us = tsFrom ts us n 0 := by unfold tsB; rw [decide_eq_true (by omega), hlen]; rfl
    rw [hT]
    have Hst := Lib.hid (fun k hk => tsFrom_step ts us n k hk)
    have Hen := Lib.hid (tsFrom_end ts us n)
    obtain ⟨F, hF⟩ : ∃ F, tsFrom ts us n = F := ⟨_, rfl⟩
    rw [hF] at Hst Hen ⊢
    obtain ⟨R, hR⟩ : ∃ R, F 0 = R := ⟨_, rfl⟩
    have H0 := Lib.hid hR
    rw [hR]
    clear h h' hlen hlen' hT hF hR
    go_enter Tryd.func84, Tryd.ntmps84
    go_wp2
    go_loopw [13] (fun i wr => ∃ m : Nat, m ≤ n ∧ i = .int .i64 (m : Int) ∧ F m = R ∧ Ext w wr) (fun i _ => n - (intOf i).toNat)
    case atStart => exact ⟨0, Nat.zero_le _, rfl, H0.out, Ext.refl _⟩
    case round =>
      obtain ⟨m, hm, rfl, hr, hE⟩ := hrel
      have HE := Lib.hid hE
      by_cases hlt : m < n
      · obtain ⟨b, off, rfl, hc⟩ := H.out.at_ (by omega)
        obtain ⟨b', off', rfl, hc'⟩ := H'.out.at_ (by omega)
        have hs := Hst.out m hlt
        rw [hr] at hs
        obtain ⟨X, hX⟩ : ∃ X, (ts.getD m fun _ => 0) = X := ⟨_, rfl⟩
        obtain ⟨Y, hY⟩ : ∃ Y, (us.getD m fun _ => 0) = Y := ⟨_, rfl⟩
        rw [hX, hY] at hs
        have hE1 : Ext w wr.drew := HE.out.drew
        have HC := Lib.hid (show ∀ j, j < 16 → wr.drew.cell? ⟨b, off + m * 16 + j, none⟩ = some (.int .u8 (X j)) from fun j hj => by
          have h1 := hc m hlt j hj
          rw [hX] at h1
          rw [Ext.cell hE1 (World.block_lt_of_cell? w _ h1)]
          exact h1)
        have HC' := Lib.hid (show ∀ j, j < 16 → wr.drew.cell? ⟨b', off' + m * 16 + j, none⟩ = some (.int .u8 (Y j)) from fun j hj => by
          have h1 := hc' m hlt j hj
          rw [hY] at h1
          rw [Ext.cell hE1 (World.block_lt_of_cell? w _ h1)]
          exact h1)
        have HX0 := Lib.hid (show ∀ x, Ext wr.drew x → Ext w x from fun x hx => hE1.trans hx)
        have Hs := Lib.hid hs
        have x1 : (m : Int) < (n : Int) := by omega
        have x3 : (m : Int) ≤ 140737488355328 := by omega
        clear hc hc' hX hY hE1 hs hr hE
        go_upto_region 6 with (fail)
        refine wp_region_lexA (by kernel_rfl) (by kernel_rfl) ?_
        refine lx_e (.slice (some ⟨b, off, none⟩) n c) [] (by kernel_rfl) rfl (by rfl) (fun w1 hw1 => ?_) ?_
        · simp only [pk, lexVals]
          go_simp
          exact ⟨Ext.refl _, rfl⟩
        refine lx_e (.int .i64 (m : Int)) [] (by kernel_rfl) rfl (by rfl) (fun w1 hw1 => ?_) ?_
        · simp only [pk, lexVals]
          go_simp
          exact ⟨Ext.refl _, rfl⟩
        refine lx_e (.pointer (some ⟨b, off + m * 16, none⟩)) [(1, 16), (0, 17)] (by kernel_rfl) rfl (by rfl) (fun w1 hw1 => ?_) ?_
        · simp only [pk, nthSp, lexVals]
          exact lu_idx rfl rfl rfl (by omega)
        refine lx_e (.agg (rowArr 16 fun j => .int .u8 (X j))) [(0, 18)] (by kernel_rfl) rfl (by rfl) (fun w1 hw1 => ?_) ?_
        · simp only [pk, nthSp, lexVals]
          exact lu_tok rfl rfl (fun j hj => by rw [Ext.cell (hw1) (World.block_lt_of_cell? _ _ (HC.out j hj))]; exact HC.out j hj)
        refine lx_e (.slice (some ⟨b', off', none⟩) n c') [] (by kernel_rfl) rfl (by rfl) (fun w1 hw1 => ?_) ?_
        · simp only [pk, lexVals]
          go_simp
          exact ⟨Ext.refl _, rfl⟩
        refine lx_e (.int .i64 (m : Int)) [] (by kernel_rfl) rfl (by rfl) (fun w1 hw1 => ?_) ?_
        · simp only [pk, lexVals]
          go_simp
          exact ⟨Ext.refl _, rfl⟩
        refine lx_e (.pointer (some ⟨b', off' + m * 16, none⟩)) [(1, 20), (0, 21)] (by kernel_rfl) rfl (by rfl) (fun w1 hw1 => ?_) ?_
        · simp only [pk, nthSp, lexVals]
          exact lu_idx rfl rfl rfl (by omega)
        refine lx_e (.agg (rowArr 16 fun j => .int .u8 (Y j))) [(0, 22)] (by kernel_rfl) rfl (by rfl) (fun w1 hw1 => ?_) ?_
        · simp only [pk, nthSp, lexVals]
          exact lu_tok rfl rfl (fun j hj => by rw [Ext.cell (hw1) (World.block_lt_of_cell? _ _ (HC'.out j hj))]; exact HC'.out j hj)
        refine lx_e (.bool (!arrB 16 X Y)) [(4, 19), (0, 23)] (by kernel_rfl) rfl (by rfl) (fun w1 hw1 => ?_) ?_
        · simp only [pk, nthSp, lexVals]
          go_simp
          exact ⟨Ext.refl _, rfl⟩
        refine lx_stopA (by rfl) fun w7 hw7 => ?_
        have HE7 := Lib.hid (HX0.out w7 hw7)
        clear hw7
        simp only [rv, pf, lexVals]
        simp only [Act.put, List.setIfInBounds_toArray, List.set_cons_zero, List.set_cons_succ]
        obtain ⟨B, hB⟩ : ∃ B, arrB 16 X Y = B := ⟨_, rfl⟩
        rw [hB] at Hs ⊢
        clear hB
        cases B with
        | false =>
          have hR : R = false := Hs.out
          go_wp2_with fail
          go_ret
          exact ⟨by first | rfl | (rw [hR]; rfl), HE7.out⟩
        | true =>
          have HR := Lib.hid (show R = F (m + 1) from Hs.out)
          go_wp2_with fail
          go_roundw
          case rel => exact ⟨m + 1, by omega, by go_num, HR.out.symm, HE7.out⟩
          case measure => simp [intOf]; omega
      · obtain rfl : m = n := by omega
        have x1 : ¬ (m : Int) < (m : Int) := by omega
        have hR : R = true := by rw [← hr]; exact Hen.out
        go_wp2_with fail
        go_ret
        exact ⟨by first | rfl | (rw [hR]; rfl), HE.out⟩
  · have hT : tsB ts us = false := by unfold tsB; rw [decide_eq_false (by omega)]; rfl
    rw [hT]
    have x1 : ¬ (n : Int) = (n' : Int) := by omega
    have x2 : ((n : Int) == (n' : Int)) = false := beq_eq_false_iff_ne.2 x1
    clear h h' hlen hlen' hT
    go_enter Tryd.func84, Tryd.ntmps84
    go_wp2
    go_ret
    exact ⟨rfl, Ext.refl _⟩

/-- What is known of the frame: two pointers, and what the tests have told. -/
structure Fr (a : Act) (n : Nat) (p q : Option Addr) (sp sq s : Nat) (t : Bool) : Prop where
  size : a.tmps.size = n
  defers : a.defers = []
  hp : a.tmps[sp]? = some (.pointer p)
  hq : a.tmps[sq]? = some (.pointer q)
  hs : a.tmps[s]? = some (.bool t)

theorem put_same {a : Act} {n d : Nat} (h : a.tmps.size = n) (hd : d < n) (v : Value) : (a.put (some d) v).tmps[d]? = some v := by
  show (a.tmps.setIfInBounds d v)[d]? = some v
  rw [Array.getElem?_setIfInBounds_self_of_lt (by omega)]
theorem put_other {a : Act} {d e : Nat} (h : d ≠ e) (v : Value) : (a.put (some d) v).tmps[e]? = a.tmps[e]? := by
  show (a.tmps.setIfInBounds d v)[e]? = _
  rw [Array.getElem?_setIfInBounds_ne h]
theorem put_size (a : Act) (d : Nat) (v : Value) : (a.put (some d) v).tmps.size = a.tmps.size := by
  show (a.tmps.setIfInBounds d v).size = _
  rw [Array.size_setIfInBounds]
theorem eval_of {a : Act} {d : Nat} {v : Value} (h : a.tmps[d]? = some v) : a.eval (.tmp d) = v := by
  show a.tmps.getD d undef = v
  rw [Array.getD_eq_getD_getElem?, h]
  rfl
theorem Fr.put {a : Act} {n : Nat} {p q : Option Addr} {sp sq s : Nat} {t : Bool} (F : Fr a n p q sp sq s t) {d : Nat} (h1 : d ≠ sp) (h2 : d ≠ sq) (h3 : d ≠ s) (v : Value) : Fr (a.put (some d) v) n p q sp sq s t :=
  ⟨by rw [put_size]; exact F.size, F.defers, by rw [put_other h1]; exact F.hp, by rw [put_other h2]; exact F.hq, by rw [put_other h3]; exact F.hs⟩
theorem Fr.new {a : Act} {n : Nat} {p q : Option Addr} {sp sq s : Nat} {t : Bool} (F : Fr a n p q sp sq s t) {d : Nat} (h1 : d ≠ sp) (h2 : d ≠ sq) (hd : d < n) (u : Bool) : Fr (a.put (some d) (.bool u)) n p q sp sq d u :=
  ⟨by rw [put_size]; exact F.size, F.defers, by rw [put_other h1]; exact F.hp, by rw [put_other h2]; exact F.hq, put_same F.size hd _⟩

section
variable {P : Program} {ops : Array Oper} {Q : Exit → Act → World → Prop} {rest : List Oper} {a : Act} {w : World}
theorem wp_yes {o : Oper} {v : Value} (hw : Region.wanted o (yielded ops a.tmps) = true) (hr : (execOp a.eval o).run P w = .ok (.value v) w) (h : wpList P ops Q rest (a.put o.dst v) w) : wpList P ops Q (o :: rest) a w :=
  wpList_want hw fun K hK => by
    unfold Oper.wp
    rw [hr]
    exact hK _ _ h
theorem wp_nop {o : Oper} (hw : Region.wanted o (yielded ops a.tmps) = false) (h : wpList P ops Q rest (a.put o.dst undef) w) : wpList P ops Q (o :: rest) a w :=
  wpList_step fun K hK => by
    rw [if_neg (by rw [hw]; exact Bool.false_ne_true)]
    exact hK _ _ h
theorem wanted_yes {o : Oper} {j s : Nat} (hg : o.guard = some (j, true)) (hj : (ops[j]?).bind (·.dst) = some s) (hs : a.tmps[s]? = some (.bool true)) : Region.wanted o (yielded ops a.tmps) = true := by
  unfold Region.wanted yielded
  rw [hg]
  simp only [hj, Option.bind_some, hs]
  rfl
theorem wanted_no {o : Oper} {j s : Nat} (hg : o.guard = some (j, true)) (hj : (ops[j]?).bind (·.dst) = some s) (hs : a.tmps[s]? = some (.bool false)) : Region.wanted o (yielded ops a.tmps) = false := by
  unfold Region.wanted yielded
  rw [hg]
  simp only [hj, Option.bind_some, hs]
  rfl
theorem wanted_free {o : Oper} (hg : o.guard = none) : Region.wanted o (yielded ops a.tmps) = true := by
  unfold Region.wanted
  rw [hg]

theorem run_move {ev : Operand → Value} {x : Operand} {d : Option Tmp} {ty : TypeId} {ps : String} {af : Array Edge} {gd : Option (Nat × Bool)} : (execOp ev ⟨d, .move x, ty, ps, af, gd⟩).run P w = .ok (.value (ev x)) w := by
  simp [execOp]
theorem run_assign {ev : Operand → Value} {x : Operand} {d : Option Tmp} {ty : TypeId} {ps : String} {af : Array Edge} {gd : Option (Nat × Bool)} : (execOp ev ⟨d, .assign x, ty, ps, af, gd⟩).run P w = .ok (.value (ev x)) w := by
  simp [execOp]
theorem run_pick {ev : Operand → Value} {x y : Operand} {d : Option Tmp} {ty : TypeId} {ps : String} {af : Array Edge} {gd : Option (Nat × Bool)} {t : Bool} (h : ev x = .bool t) :
    (execOp ev ⟨d, .pick x y (.const (.bool false)), ty, ps, af, gd⟩).run P w = .ok (.value (if t then ev y else ev (.const (.bool false)))) w := by
  simp [execOp, h, asBool]

/-- One test of the chain: two fields' addresses, two loads, a comparison, the pick. -/
theorem wp_and {n : Nat} {p q : Option Addr} {sp sq s : Nat} {t b : Bool} (F : Fr a n p q sp sq s t) (hsp : sp < s) (hsq : sq < s) (hn : s + 6 < n) (j : Nat) (hj : (ops[j]?).bind (·.dst) = some s) {HT T : TypeId} {i : Nat} {p1 q1 : Option Addr} {v1 v2 : Value}
    {y1 y2 y3 y4 y5 y6 : TypeId} {z1 z2 z3 z4 z5 z6 : String} {f1 f2 f3 f4 f5 f6 : Array Edge} {T2 : TypeId}
    (hA : ∀ ev : Operand → Value, ev (.tmp sp) = .pointer p → (execOp ev ⟨some (s + 1), .fieldAddr HT (.tmp sp) i, y1, z1, f1, some (j, true)⟩).run P w = .ok (.value (.pointer p1)) w)
    (hA' : ∀ ev : Operand → Value, ev (.tmp sq) = .pointer q → (execOp ev ⟨some (s + 3), .fieldAddr HT (.tmp sq) i, y3, z3, f3, some (j, true)⟩).run P w = .ok (.value (.pointer q1)) w)
    (hL : ∀ ev : Operand → Value, ev (.tmp (s + 1)) = .pointer p1 → (execOp ev ⟨some (s + 2), .load T (.tmp (s + 1)), y2, z2, f2, some (j, true)⟩).run P w = .ok (.value v1) w)
    (hL' : ∀ ev : Operand → Value, ev (.tmp (s + 3)) = .pointer q1 → (execOp ev ⟨some (s + 4), .load T (.tmp (s + 3)), y4, z4, f4, some (j, true)⟩).run P w = .ok (.value v2) w)
    (hE : ∀ ev : Operand → Value, ev (.tmp (s + 2)) = v1 → ev (.tmp (s + 4)) = v2 → (execOp ev ⟨some (s + 5), .binOp .eql T (.tmp (s + 2)) (.tmp (s + 4)) T2, y5, z5, f5, some (j, true)⟩).run P w = .ok (.value (.bool b)) w)
    (h : ∀ a', Fr a' n p q sp sq (s + 6) (t && b) → wpList P ops Q rest a' w) :
    wpList P ops Q (⟨some (s + 1), .fieldAddr HT (.tmp sp) i, y1, z1, f1, some (j, true)⟩ :: ⟨some (s + 2), .load T (.tmp (s + 1)), y2, z2, f2, some (j, true)⟩ :: ⟨some (s + 3), .fieldAddr HT (.tmp sq) i, y3, z3, f3, some (j, true)⟩ ::
      ⟨some (s + 4), .load T (.tmp (s + 3)), y4, z4, f4, some (j, true)⟩ :: ⟨some (s + 5), .binOp .eql T (.tmp (s + 2)) (.tmp (s + 4)) T2, y5, z5, f5, some (j, true)⟩ :: ⟨some (s + 6), .pick (.tmp s) (.tmp (s + 5)) (.const (.bool false)), y6, z6, f6, none⟩ :: rest) a w := by
  cases t with
  | true =>
    have F1 := F.put (d := s + 1) (by omega) (by omega) (by omega) (.pointer p1)
    refine wp_yes (wanted_yes rfl hj F.hs) (hA _ (eval_of F.hp)) ?_
    have F2 := F1.put (d := s + 2) (by omega) (by omega) (by omega) v1
    refine wp_yes (wanted_yes rfl hj F1.hs) (hL _ (eval_of (put_same F.size (by omega) _))) ?_
    have F3 := F2.put (d := s + 3) (by omega) (by omega) (by omega) (.pointer q1)
    refine wp_yes (wanted_yes rfl hj F2.hs) (hA' _ (eval_of F2.hq)) ?_
    have F4 := F3.put (d := s + 4) (by omega) (by omega) (by omega) v2
    refine wp_yes (wanted_yes rfl hj F3.hs) (hL' _ (eval_of (put_same F2.size (by omega) _))) ?_
    have F5 := F4.put (d := s + 5) (by omega) (by omega) (by omega) (.bool b)
    refine wp_yes (wanted_yes rfl hj F4.hs) (hE _ (eval_of ?_) (eval_of ?_)) ?_
    · rw [put_other (by omega), put_other (by omega)]
      exact put_same F1.size (by omega) _
    · exact put_same F3.size (by omega) _
    refine wp_yes (wanted_free rfl) (run_pick (eval_of F5.hs)) ?_
    simp only [if_true, Bool.true_and] at h ⊢
    rw [eval_of (put_same F4.size (by omega) _)]
    exact h _ (F5.new (by omega) (by omega) (by omega) b)
  | false =>
    have F1 := F.put (d := s + 1) (by omega) (by omega) (by omega) undef
    refine wp_nop (wanted_no rfl hj F.hs) ?_
    have F2 := F1.put (d := s + 2) (by omega) (by omega) (by omega) undef
    refine wp_nop (wanted_no rfl hj F1.hs) ?_
    have F3 := F2.put (d := s + 3) (by omega) (by omega) (by omega) undef
    refine wp_nop (wanted_no rfl hj F2.hs) ?_
    have F4 := F3.put (d := s + 4) (by omega) (by omega) (by omega) undef
    refine wp_nop (wanted_no rfl hj F3.hs) ?_
    have F5 := F4.put (d := s + 5) (by omega) (by omega) (by omega) undef
    refine wp_nop (wanted_no rfl hj F4.hs) ?_
    refine wp_yes (wanted_free rfl) (run_pick (eval_of F5.hs)) ?_
    simp only [Bool.false_and] at h ⊢
    exact h _ (F5.new (by omega) (by omega) (by omega) false)

/-- The test's value, moved. -/
theorem wp_andMove {n : Nat} {p q : Option Addr} {sp sq s : Nat} {t : Bool} (F : Fr a n p q sp sq s t) (hsp : sp < s) (hsq : sq < s) (hn : s + 1 < n) {y : TypeId} {z : String} {f : Array Edge}
    (h : ∀ a', Fr a' n p q sp sq (s + 1) t → wpList P ops Q rest a' w) : wpList P ops Q (⟨some (s + 1), .move (.tmp s), y, z, f, none⟩ :: rest) a w := by
  refine wp_yes (wanted_free rfl) run_move ?_
  rw [eval_of F.hs]
  exact h _ (F.new (by omega) (by omega) (by omega) t)
theorem wp_andAssign {n : Nat} {p q : Option Addr} {sp sq s d : Nat} {t : Bool} (F : Fr a n p q sp sq s t) (hsp : sp ≠ d) (hsq : sq ≠ d) (hn : d < n) {y : TypeId} {z : String} {f : Array Edge}
    (h : ∀ a', Fr a' n p q sp sq d t → wpList P ops Q rest a' w) : wpList P ops Q (⟨some d, .assign (.tmp s), y, z, f, none⟩ :: rest) a w := by
  refine wp_yes (wanted_free rfl) run_assign ?_
  rw [eval_of F.hs]
  exact h _ (F.new (by omega) (by omega) (by omega) t)

/-- The chain's first test, that no guard stands ahead of. -/
theorem wp_and0 {n : Nat} {p q : Option Addr} {sp sq s : Nat} {t b : Bool} (F : Fr a n p q sp sq s t) (hsp : sp < s) (hsq : sq < s) (hn : s + 6 < n) {HT T : TypeId} {i : Nat} {p1 q1 : Option Addr} {v1 v2 : Value}
    {y1 y2 y3 y4 y5 y6 : TypeId} {z1 z2 z3 z4 z5 z6 : String} {f1 f2 f3 f4 f5 f6 : Array Edge} {T2 : TypeId}
    (hA : ∀ ev : Operand → Value, ev (.tmp sp) = .pointer p → (execOp ev ⟨some (s + 1), .fieldAddr HT (.tmp sp) i, y1, z1, f1, none⟩).run P w = .ok (.value (.pointer p1)) w)
    (hA' : ∀ ev : Operand → Value, ev (.tmp sq) = .pointer q → (execOp ev ⟨some (s + 3), .fieldAddr HT (.tmp sq) i, y3, z3, f3, none⟩).run P w = .ok (.value (.pointer q1)) w)
    (hL : ∀ ev : Operand → Value, ev (.tmp (s + 1)) = .pointer p1 → (execOp ev ⟨some (s + 2), .load T (.tmp (s + 1)), y2, z2, f2, none⟩).run P w = .ok (.value v1) w)
    (hL' : ∀ ev : Operand → Value, ev (.tmp (s + 3)) = .pointer q1 → (execOp ev ⟨some (s + 4), .load T (.tmp (s + 3)), y4, z4, f4, none⟩).run P w = .ok (.value v2) w)
    (hE : ∀ ev : Operand → Value, ev (.tmp (s + 2)) = v1 → ev (.tmp (s + 4)) = v2 → (execOp ev ⟨some (s + 5), .binOp .eql T (.tmp (s + 2)) (.tmp (s + 4)) T2, y5, z5, f5, none⟩).run P w = .ok (.value (.bool b)) w)
    (h : ∀ a', Fr a' n p q sp sq (s + 6) b → wpList P ops Q rest a' w) :
    wpList P ops Q (⟨some (s + 1), .fieldAddr HT (.tmp sp) i, y1, z1, f1, none⟩ :: ⟨some (s + 2), .load T (.tmp (s + 1)), y2, z2, f2, none⟩ :: ⟨some (s + 3), .fieldAddr HT (.tmp sq) i, y3, z3, f3, none⟩ ::
      ⟨some (s + 4), .load T (.tmp (s + 3)), y4, z4, f4, none⟩ :: ⟨some (s + 5), .binOp .eql T (.tmp (s + 2)) (.tmp (s + 4)) T2, y5, z5, f5, none⟩ :: ⟨some (s + 6), .move (.tmp (s + 5)), y6, z6, f6, none⟩ :: rest) a w := by
  have F1 := F.put (d := s + 1) (by omega) (by omega) (by omega) (.pointer p1)
  refine wp_yes (wanted_free rfl) (hA _ (eval_of F.hp)) ?_
  have F2 := F1.put (d := s + 2) (by omega) (by omega) (by omega) v1
  refine wp_yes (wanted_free rfl) (hL _ (eval_of (put_same F.size (by omega) _))) ?_
  have F3 := F2.put (d := s + 3) (by omega) (by omega) (by omega) (.pointer q1)
  refine wp_yes (wanted_free rfl) (hA' _ (eval_of F2.hq)) ?_
  have F4 := F3.put (d := s + 4) (by omega) (by omega) (by omega) v2
  refine wp_yes (wanted_free rfl) (hL' _ (eval_of (put_same F2.size (by omega) _))) ?_
  have F5 := F4.put (d := s + 5) (by omega) (by omega) (by omega) (.bool b)
  refine wp_yes (wanted_free rfl) (hE _ (eval_of ?_) (eval_of ?_)) ?_
  · rw [put_other (by omega), put_other (by omega)]
    exact put_same F1.size (by omega) _
  · exact put_same F3.size (by omega) _
  refine wp_yes (wanted_free rfl) run_move ?_
  rw [eval_of (put_same F4.size (by omega) _)]
  exact h _ (F5.new (by omega) (by omega) (by omega) b)

end

def sm0 (h g : Hd) : Bool := (h.writer == g.writer)
def sm1 (h g : Hd) : Bool := sm0 h g && (h.seq == g.seq)
def sm2 (h g : Hd) : Bool := sm1 h g && arrB 32 h.prev g.prev
def sm3 (h g : Hd) : Bool := sm2 h g && (h.epoch == g.epoch)
def sm4 (h g : Hd) : Bool := sm3 h g && (h.ctl == g.ctl)
def sm5 (h g : Hd) : Bool := sm4 h g && (h.time == g.time)
def sm6 (h g : Hd) : Bool := sm5 h g && arrB 16 h.item g.item
def sm7 (h g : Hd) : Bool := sm6 h g && arrB 6 h.knows g.knows
def sm8 (h g : Hd) : Bool := sm7 h g && arrB 32 h.sum g.sum
def sm9 (h g : Hd) : Bool := sm8 h g && (h.size == g.size)
def sm10 (h g : Hd) : Bool := sm9 h g && arrB 32 h.code g.code
/-- Two headers are the same. -/
def sameB (h g : Hd) (ts us : List (Nat → Int)) : Bool := tsB ts us && sm10 h g
theorem hd_box (w : World) (h g : Hd) : ∃ w2, (w.alloc (.cells (hdV h) 34)).alloc (.cells (hdV g) 34) = w2 ∧ Ext w w2 ∧ w2.heap[w.heap.size]? = some (.cells (hdV h) 34 (0, 0)) ∧ w2.heap[w.heap.size + 1]? = some (.cells (hdV g) 34 (0, 0)) := by
  refine ⟨_, rfl, ((Ext.refl w).alloc _).alloc _, ?_, ?_⟩
  · exact Ext.keep ((Ext.refl (w.alloc (.cells (hdV h) 34))).alloc _) (heap_new w _ _ rfl)
  · exact heap_new _ _ _ (by simp)
set_option maxRecDepth 100000 in
theorem size_t16 (w : World) : (sizeOf 30).run Tryd.prog w = .ok 16 w := by kernel_rfl

section
variable {ev : Operand → Value} {x y : Operand} {d : Option Tmp} {ty : TypeId} {ps : String} {af : Array Edge} {gd : Option (Nat × Bool)} {p : Nat} {w : World}
set_option maxRecDepth 100000 in
theorem fld_hd0 (he : ev x = .pointer (some ⟨p, 0, none⟩)) : (execOp ev ⟨d, .fieldAddr 34 x 0, ty, ps, af, gd⟩).run Tryd.prog w = .ok (.value (.pointer (some ⟨p, 0, none⟩))) w := by
  simp only [execOp, he]
  kernel_rfl
set_option maxRecDepth 100000 in
theorem fld_hd1 (he : ev x = .pointer (some ⟨p, 0, none⟩)) : (execOp ev ⟨d, .fieldAddr 34 x 1, ty, ps, af, gd⟩).run Tryd.prog w = .ok (.value (.pointer (some ⟨p, 1, none⟩))) w := by
  simp only [execOp, he]
  kernel_rfl
set_option maxRecDepth 100000 in
theorem fld_hd2 (he : ev x = .pointer (some ⟨p, 0, none⟩)) : (execOp ev ⟨d, .fieldAddr 34 x 2, ty, ps, af, gd⟩).run Tryd.prog w = .ok (.value (.pointer (some ⟨p, 2, none⟩))) w := by
  simp only [execOp, he]
  kernel_rfl
set_option maxRecDepth 100000 in
theorem fld_hd3 (he : ev x = .pointer (some ⟨p, 0, none⟩)) : (execOp ev ⟨d, .fieldAddr 34 x 3, ty, ps, af, gd⟩).run Tryd.prog w = .ok (.value (.pointer (some ⟨p, 34, none⟩))) w := by
  simp only [execOp, he]
  kernel_rfl
set_option maxRecDepth 100000 in
theorem fld_hd4 (he : ev x = .pointer (some ⟨p, 0, none⟩)) : (execOp ev ⟨d, .fieldAddr 34 x 4, ty, ps, af, gd⟩).run Tryd.prog w = .ok (.value (.pointer (some ⟨p, 35, none⟩))) w := by
  simp only [execOp, he]
  kernel_rfl
set_option maxRecDepth 100000 in
theorem fld_hd5 (he : ev x = .pointer (some ⟨p, 0, none⟩)) : (execOp ev ⟨d, .fieldAddr 34 x 5, ty, ps, af, gd⟩).run Tryd.prog w = .ok (.value (.pointer (some ⟨p, 36, none⟩))) w := by
  simp only [execOp, he]
  kernel_rfl
set_option maxRecDepth 100000 in
theorem fld_hd6 (he : ev x = .pointer (some ⟨p, 0, none⟩)) : (execOp ev ⟨d, .fieldAddr 34 x 6, ty, ps, af, gd⟩).run Tryd.prog w = .ok (.value (.pointer (some ⟨p, 37, none⟩))) w := by
  simp only [execOp, he]
  kernel_rfl
set_option maxRecDepth 100000 in
theorem fld_hd8 (he : ev x = .pointer (some ⟨p, 0, none⟩)) : (execOp ev ⟨d, .fieldAddr 34 x 8, ty, ps, af, gd⟩).run Tryd.prog w = .ok (.value (.pointer (some ⟨p, 54, none⟩))) w := by
  simp only [execOp, he]
  kernel_rfl
set_option maxRecDepth 100000 in
theorem fld_hd9 (he : ev x = .pointer (some ⟨p, 0, none⟩)) : (execOp ev ⟨d, .fieldAddr 34 x 9, ty, ps, af, gd⟩).run Tryd.prog w = .ok (.value (.pointer (some ⟨p, 60, none⟩))) w := by
  simp only [execOp, he]
  kernel_rfl
set_option maxRecDepth 100000 in
theorem fld_hd10 (he : ev x = .pointer (some ⟨p, 0, none⟩)) : (execOp ev ⟨d, .fieldAddr 34 x 10, ty, ps, af, gd⟩).run Tryd.prog w = .ok (.value (.pointer (some ⟨p, 92, none⟩))) w := by
  simp only [execOp, he]
  kernel_rfl
set_option maxRecDepth 100000 in
theorem fld_hd11 (he : ev x = .pointer (some ⟨p, 0, none⟩)) : (execOp ev ⟨d, .fieldAddr 34 x 11, ty, ps, af, gd⟩).run Tryd.prog w = .ok (.value (.pointer (some ⟨p, 93, none⟩))) w := by
  simp only [execOp, he]
  kernel_rfl
theorem ld_i64 {off : Nat} {a : Int} (hc : w.cell? ⟨p, off, none⟩ = some (.int .i64 a)) (he : ev x = .pointer (some ⟨p, off, none⟩)) : (execOp ev ⟨d, .load 3 x, ty, ps, af, gd⟩).run Tryd.prog w = .ok (.value (.int .i64 a)) w := by
  have hu := Tryd.underlying3
  go_simp
theorem eq_i64 {T2 : TypeId} {a b : Int} (h1 : ev x = .int .i64 a) (h2 : ev y = .int .i64 b) : (execOp ev ⟨d, .binOp .eql 3 x y T2, ty, ps, af, gd⟩).run Tryd.prog w = .ok (.value (.bool (a == b))) w := by
  have hu := Tryd.underlying3
  go_simp
theorem ld_u64 {off : Nat} {a : Int} (hc : w.cell? ⟨p, off, none⟩ = some (.int .u64 a)) (he : ev x = .pointer (some ⟨p, off, none⟩)) : (execOp ev ⟨d, .load 26 x, ty, ps, af, gd⟩).run Tryd.prog w = .ok (.value (.int .u64 a)) w := by
  have hu := Tryd.underlying26
  go_simp
theorem eq_u64 {T2 : TypeId} {a b : Int} (h1 : ev x = .int .u64 a) (h2 : ev y = .int .u64 b) : (execOp ev ⟨d, .binOp .eql 26 x y T2, ty, ps, af, gd⟩).run Tryd.prog w = .ok (.value (.bool (a == b))) w := by
  have hu := Tryd.underlying26
  go_simp
theorem ld_b {off : Nat} {a : Bool} (hc : w.cell? ⟨p, off, none⟩ = some (.bool a)) (he : ev x = .pointer (some ⟨p, off, none⟩)) : (execOp ev ⟨d, .load 4 x, ty, ps, af, gd⟩).run Tryd.prog w = .ok (.value (.bool a)) w := by
  have hu := Tryd.underlying4
  go_simp
theorem eq_b {T2 : TypeId} {a b : Bool} (h1 : ev x = .bool a) (h2 : ev y = .bool b) : (execOp ev ⟨d, .binOp .eql 4 x y T2, ty, ps, af, gd⟩).run Tryd.prog w = .ok (.value (.bool (a == b))) w := by
  have hu := Tryd.underlying4
  go_simp
theorem ld_h {off : Nat} {f : Nat → Int} (hc : ∀ i, i < 32 → w.cell? ⟨p, off + i, none⟩ = some (.int .u8 (f i))) (he : ev x = .pointer (some ⟨p, off, none⟩)) : (execOp ev ⟨d, .load 28 x, ty, ps, af, gd⟩).run Tryd.prog w = .ok (.value (.agg (rowArr 32 fun j => .int .u8 (f j)))) w := by
  simp only [execOp, he, Instr.loadAt, Instr.sureAddr, Sem.run_bind, Sem.run_pure, Result.andThen_ok, run_loadSub Tryd.underlying28 (size_h32 w) hc]
theorem eq_h {T2 : TypeId} {f g : Nat → Int} (h1 : ev x = .agg (rowArr 32 fun j => .int .u8 (f j))) (h2 : ev y = .agg (rowArr 32 fun j => .int .u8 (g j))) : (execOp ev ⟨d, .binOp .eql 28 x y T2, ty, ps, af, gd⟩).run Tryd.prog w = .ok (.value (.bool (arrB 32 f g))) w := by
  have hk := fun w => eql_h w f g
  simp only [execOp, h1, h2]
  go_simp
theorem ld_t {off : Nat} {f : Nat → Int} (hc : ∀ i, i < 16 → w.cell? ⟨p, off + i, none⟩ = some (.int .u8 (f i))) (he : ev x = .pointer (some ⟨p, off, none⟩)) : (execOp ev ⟨d, .load 30 x, ty, ps, af, gd⟩).run Tryd.prog w = .ok (.value (.agg (rowArr 16 fun j => .int .u8 (f j)))) w := by
  simp only [execOp, he, Instr.loadAt, Instr.sureAddr, Sem.run_bind, Sem.run_pure, Result.andThen_ok, run_loadSub Tryd.underlying30 (size_t16 w) hc]
theorem eq_t {T2 : TypeId} {f g : Nat → Int} (h1 : ev x = .agg (rowArr 16 fun j => .int .u8 (f j))) (h2 : ev y = .agg (rowArr 16 fun j => .int .u8 (g j))) : (execOp ev ⟨d, .binOp .eql 30 x y T2, ty, ps, af, gd⟩).run Tryd.prog w = .ok (.value (.bool (arrB 16 f g))) w := by
  have hk := fun w => eql_t w f g
  simp only [execOp, h1, h2]
  go_simp
theorem ld_k {off : Nat} {f : Nat → Int} (hc : ∀ i, i < 6 → w.cell? ⟨p, off + i, none⟩ = some (.int .u64 (f i))) (he : ev x = .pointer (some ⟨p, off, none⟩)) : (execOp ev ⟨d, .load 32 x, ty, ps, af, gd⟩).run Tryd.prog w = .ok (.value (.agg (rowArr 6 fun j => .int .u64 (f j)))) w := by
  simp only [execOp, he, Instr.loadAt, Instr.sureAddr, Sem.run_bind, Sem.run_pure, Result.andThen_ok, run_loadSub Tryd.underlying32 (size_k6 w) hc]
theorem eq_k {T2 : TypeId} {f g : Nat → Int} (h1 : ev x = .agg (rowArr 6 fun j => .int .u64 (f j))) (h2 : ev y = .agg (rowArr 6 fun j => .int .u64 (g j))) : (execOp ev ⟨d, .binOp .eql 32 x y T2, ty, ps, af, gd⟩).run Tryd.prog w = .ok (.value (.bool (arrB 6 f g))) w := by
  have hk := fun w => eql_k w f g
  simp only [execOp, h1, h2]
  go_simp
end

set_option maxHeartbeats 4000000 in
set_option maxRecDepth 100000 in
theorem sameHd_any (h g : Hd) (ts us : List (Nat → Int)) (w : World) (ht : TsAt w h.ta h.tn h.tc ts) (hu : TsAt w g.ta g.tn g.tc us) :
    Calls Tryd.prog 71 #[.agg (hdV h), .agg (hdV g)] w fun e w' => e = .returned (.bool (sameB h g ts us)) ∧ Ext w w' := by
  obtain ⟨w2, hw2, hE2, hB, hG⟩ := hd_box w h g
  have HE2 := Lib.hid hE2
  have Hw2 := Lib.hid hw2
  have Heq := Lib.hid (tsEq_any _ _ _ ts _ _ _ us w2 (ht.ext hE2) (hu.ext hE2))
  clear ht hu hw2
  obtain ⟨p, hp⟩ : ∃ p, w.heap.size = p := ⟨_, rfl⟩
  rw [hp] at hB hG
  obtain ⟨q, hq⟩ : ∃ q, p + 1 = q := ⟨_, rfl⟩
  rw [hq] at hG
  have Hp := Lib.hid hp
  have Hq := Lib.hid hq
  clear hp hq
  have c53 := hd_toks hB
  have d53 := hd_toks hG
  obtain ⟨R, hR⟩ : ∃ R, sameB h g ts us = R := ⟨_, rfl⟩
  rw [hR]
  unfold sameB at hR
  obtain ⟨t0, ht0⟩ : ∃ t, tsB ts us = t := ⟨_, rfl⟩
  rw [ht0] at Heq hR
  cases t0 with
  | false =>
    have HR := Lib.hid (show R = false from hR.symm)
    clear ht0 hB hG hR
    go_enter Tryd.func71, Tryd.ntmps71
    go_upto_region 1 with (fail)
    refine wp_world (w' := w2) Hw2.out ?_
    rw [Hp.out, Hq.out]
    clear Hw2
    go_wp2_with fail
    refine Heq.out.mono ?_
    rintro e w3 ⟨rfl, hE⟩
    have HE3 := Lib.hid (HE2.out.trans hE)
    clear hE
    go_wp2
    go_ret
    exact ⟨by rw [HR.out]; rfl, HE3.out⟩
  | true =>
  rw [Bool.true_and] at hR
  have HHB := Lib.hid hB
  have HHG := Lib.hid hG
  have HR := Lib.hid hR
  clear ht0 hB hG hR
  go_enter Tryd.func71, Tryd.ntmps71
  go_upto_region 1 with (fail)
  refine wp_world (w' := w2) Hw2.out ?_
  rw [Hp.out, Hq.out]
  clear Hw2
  go_wp2_with fail
  refine Heq.out.mono ?_
  rintro e w3 ⟨rfl, hE⟩
  have hB := hE.keep HHB.out
  have hG := hE.keep HHG.out
  have HE3 := Lib.hid (HE2.out.trans hE)
  clear hE
  go_upto_region 3 with (fail)
  go_step
  refine wp_and0 (s := 10) (p := some ⟨p, 0, none⟩) (q := some ⟨q, 0, none⟩) (sp := 2) (sq := 3) (n := 86) (t := false) ⟨rfl, rfl, rfl, rfl, rfl⟩ (by omega) (by omega) (by omega) (fun ev he => fld_hd0 he) (fun ev he => fld_hd0 he) (fun ev he => ld_i64 (hd_writer hB) he) (fun ev he => ld_i64 (hd_writer hG) he) (fun ev h1 h2 => eq_i64 h1 h2) ?_
  intro a0 F
  refine wp_and F (by omega) (by omega) (by omega) 5 rfl (fun ev he => fld_hd1 he) (fun ev he => fld_hd1 he) (fun ev he => ld_u64 (hd_seq hB) he) (fun ev he => ld_u64 (hd_seq hG) he) (fun ev h1 h2 => eq_u64 h1 h2) ?_
  intro a1 F
  refine wp_andMove F (by omega) (by omega) (by omega) ?_
  intro b1 F
  refine wp_and F (by omega) (by omega) (by omega) 12 rfl (fun ev he => fld_hd2 he) (fun ev he => fld_hd2 he) (fun ev he => ld_h (hd_prev hB) he) (fun ev he => ld_h (hd_prev hG) he) (fun ev h1 h2 => eq_h h1 h2) ?_
  intro a2 F
  refine wp_andMove F (by omega) (by omega) (by omega) ?_
  intro b2 F
  refine wp_and F (by omega) (by omega) (by omega) 19 rfl (fun ev he => fld_hd3 he) (fun ev he => fld_hd3 he) (fun ev he => ld_i64 (hd_epoch hB) he) (fun ev he => ld_i64 (hd_epoch hG) he) (fun ev h1 h2 => eq_i64 h1 h2) ?_
  intro a3 F
  refine wp_andMove F (by omega) (by omega) (by omega) ?_
  intro b3 F
  refine wp_and F (by omega) (by omega) (by omega) 26 rfl (fun ev he => fld_hd4 he) (fun ev he => fld_hd4 he) (fun ev he => ld_b (hd_ctl hB) he) (fun ev he => ld_b (hd_ctl hG) he) (fun ev h1 h2 => eq_b h1 h2) ?_
  intro a4 F
  refine wp_andMove F (by omega) (by omega) (by omega) ?_
  intro b4 F
  refine wp_and F (by omega) (by omega) (by omega) 33 rfl (fun ev he => fld_hd5 he) (fun ev he => fld_hd5 he) (fun ev he => ld_u64 (hd_time hB) he) (fun ev he => ld_u64 (hd_time hG) he) (fun ev h1 h2 => eq_u64 h1 h2) ?_
  intro a5 F
  refine wp_andMove F (by omega) (by omega) (by omega) ?_
  intro b5 F
  refine wp_and F (by omega) (by omega) (by omega) 40 rfl (fun ev he => fld_hd6 he) (fun ev he => fld_hd6 he) (fun ev he => ld_t (hd_item hB) he) (fun ev he => ld_t (hd_item hG) he) (fun ev h1 h2 => eq_t h1 h2) ?_
  intro a6 F
  refine wp_andMove F (by omega) (by omega) (by omega) ?_
  intro b6 F
  refine wp_and F (by omega) (by omega) (by omega) 47 rfl (fun ev he => fld_hd8 he) (fun ev he => fld_hd8 he) (fun ev he => ld_k (hd_knows hB) he) (fun ev he => ld_k (hd_knows hG) he) (fun ev h1 h2 => eq_k h1 h2) ?_
  intro a7 F
  refine wp_andMove F (by omega) (by omega) (by omega) ?_
  intro b7 F
  refine wp_and F (by omega) (by omega) (by omega) 54 rfl (fun ev he => fld_hd9 he) (fun ev he => fld_hd9 he) (fun ev he => ld_h (hd_sum hB) he) (fun ev he => ld_h (hd_sum hG) he) (fun ev h1 h2 => eq_h h1 h2) ?_
  intro a8 F
  refine wp_andMove F (by omega) (by omega) (by omega) ?_
  intro b8 F
  refine wp_and F (by omega) (by omega) (by omega) 61 rfl (fun ev he => fld_hd10 he) (fun ev he => fld_hd10 he) (fun ev he => ld_i64 (hd_size hB) he) (fun ev he => ld_i64 (hd_size hG) he) (fun ev h1 h2 => eq_i64 h1 h2) ?_
  intro a9 F
  refine wp_andMove F (by omega) (by omega) (by omega) ?_
  intro b9 F
  refine wp_and F (by omega) (by omega) (by omega) 68 rfl (fun ev he => fld_hd11 he) (fun ev he => fld_hd11 he) (fun ev he => ld_h (hd_code hB) he) (fun ev he => ld_h (hd_code hG) he) (fun ev h1 h2 => eq_h h1 h2) ?_
  intro a10 F
  refine wp_andAssign F (by omega) (by omega) (by omega) ?_
  intro aL F
  go_wp2
  (try simp only [Exit.inBlock, Exit.then])
  refine bodyPost_ret (results_tmp rfl _ _ _) F.defers ?_
  exact ⟨by rw [← HR.out]; exact congrArg Ending.returned (eval_of F.hs), HE3.out⟩

/-- Two headers say the same. -/
structure HdEq (h g : Hd) (ts us : List (Nat → Int)) : Prop where
  writer : h.writer = g.writer
  seq : h.seq = g.seq
  prev : ∀ j, j < 32 → h.prev j = g.prev j
  epoch : h.epoch = g.epoch
  ctl : h.ctl = g.ctl
  time : h.time = g.time
  item : ∀ j, j < 16 → h.item j = g.item j
  tn : h.tn = g.tn
  toks : ∀ i, i < h.tn → ∀ j, j < 16 → (ts.getD i fun _ => 0) j = (us.getD i fun _ => 0) j
  knows : ∀ j, j < 6 → h.knows j = g.knows j
  sum : ∀ j, j < 32 → h.sum j = g.sum j
  size : h.size = g.size
  code : ∀ j, j < 32 → h.code j = g.code j

theorem HdEq.symm {h g : Hd} {ts us : List (Nat → Int)} (e : HdEq h g ts us) : HdEq g h us ts :=
  ⟨e.writer.symm, e.seq.symm, fun j hj => (e.prev j hj).symm, e.epoch.symm, e.ctl.symm, e.time.symm, fun j hj => (e.item j hj).symm, e.tn.symm, fun i hi j hj => (e.toks i (by rw [e.tn]; exact hi) j hj).symm, fun j hj => (e.knows j hj).symm, fun j hj => (e.sum j hj).symm, e.size.symm, fun j hj => (e.code j hj).symm⟩
theorem HdEq.trans {h g k : Hd} {ts us vs : List (Nat → Int)} (e : HdEq h g ts us) (f : HdEq g k us vs) : HdEq h k ts vs :=
  ⟨e.writer.trans f.writer, e.seq.trans f.seq, fun j hj => (e.prev j hj).trans (f.prev j hj), e.epoch.trans f.epoch, e.ctl.trans f.ctl, e.time.trans f.time, fun j hj => (e.item j hj).trans (f.item j hj), e.tn.trans f.tn, fun i hi j hj => (e.toks i hi j hj).trans (f.toks i (by rw [← e.tn]; exact hi) j hj), fun j hj => (e.knows j hj).trans (f.knows j hj), fun j hj => (e.sum j hj).trans (f.sum j hj), e.size.trans f.size, fun j hj => (e.code j hj).trans (f.code j hj)⟩
theorem HdEq.refl (h : Hd) (ts : List (Nat → Int)) : HdEq h h ts ts := ⟨rfl, rfl, fun _ _ => rfl, rfl, rfl, rfl, fun _ _ => rfl, rfl, fun _ _ _ _ => rfl, fun _ _ => rfl, fun _ _ => rfl, rfl, fun _ _ => rfl⟩

theorem sameB_iff {h g : Hd} {ts us : List (Nat → Int)} (h1 : ts.length = h.tn) (h2 : us.length = g.tn) : sameB h g ts us = true ↔ HdEq h g ts us := by
  unfold sameB sm10 sm9 sm8 sm7 sm6 sm5 sm4 sm3 sm2 sm1 sm0 tsB arrB
  simp only [Bool.and_eq_true, decide_eq_true_eq, beq_iff_eq]
  rw [tsFrom_iff]
  unfold arrB
  simp only [decide_eq_true_eq]
  constructor
  · rintro ⟨⟨a1, a2⟩, ⟨⟨⟨⟨⟨⟨⟨⟨⟨⟨b1, b2⟩, b3⟩, b4⟩, b5⟩, b6⟩, b7⟩, b8⟩, b9⟩, b10⟩, b11⟩⟩
    exact ⟨b1, b2, b3, b4, b5, b6, b7, by omega, fun i hi j hj => a2 i (by omega) (Nat.zero_le _) j hj, b8, b9, b10, b11⟩
  · intro e
    have := e.tn
    exact ⟨⟨by omega, fun i hi _ j hj => e.toks i (by omega) j hj⟩, ⟨⟨⟨⟨⟨⟨⟨⟨⟨⟨e.writer, e.seq⟩, e.prev⟩, e.epoch⟩, e.ctl⟩, e.time⟩, e.item⟩, e.knows⟩, e.sum⟩, e.size⟩, e.code⟩⟩

theorem ln_congr {n : Nat} {f g : Nat → Int} (h : ∀ j, j < n → f j = g j) : ln n f = ln n g := List.map_congr_left fun j hj => h j (List.mem_range.1 hj)
theorem toksL_congr {ts us : List (Nat → Int)} : ∀ k, (∀ i, i < k → ∀ j, j < 16 → (ts.getD i fun _ => 0) j = (us.getD i fun _ => 0) j) → toksL ts k = toksL us k
  | 0, _ => rfl
  | k + 1, h => by rw [toksL, toksL, toksL_congr k (fun i hi => h i (by omega)), ln_congr (h k (by omega))]
theorem knL_congr {f g : Nat → Int} : ∀ k, (∀ i, i < k → f i = g i) → knL f k = knL g k
  | 0, _ => rfl
  | k + 1, h => by rw [knL, knL, knL_congr k (fun i hi => h i (by omega)), h k (by omega)]
theorem cmpTok_congr {f g f' g' : Nat → Int} (h : ∀ j, j < 16 → f j = f' j) (k : ∀ j, j < 16 → g j = g' j) : cmpTok f g = cmpTok f' g' := by
  unfold cmpTok
  rw [List.map_congr_left fun j hj => h j (List.mem_range.1 hj), List.map_congr_left fun j hj => k j (List.mem_range.1 hj)]
theorem risesB_congr : ∀ {ts us : List (Nat → Int)}, ts.length = us.length → (∀ i, i < ts.length → ∀ j, j < 16 → (ts.getD i fun _ => 0) j = (us.getD i fun _ => 0) j) → risesB ts = risesB us
  | [], us, hl, _ => by
    obtain rfl : us = [] := List.eq_nil_of_length_eq_zero hl.symm
    rfl
  | [a], us, hl, _ => by
    obtain ⟨x, rfl⟩ := List.length_eq_one_iff.1 hl.symm
    rfl
  | a :: b :: l, us, hl, h => by
    match us, hl with
    | x :: y :: m, hl =>
      have h0 : ∀ j, j < 16 → a j = x j := h 0 (by simp)
      have h1 : ∀ j, j < 16 → b j = y j := h 1 (by simp)
      have h2 := risesB_congr (ts := b :: l) (us := y :: m) (by simpa using hl) (fun i hi => h (i + 1) (by simpa using hi))
      rw [risesB, risesB, h2, cmpTok_congr h0 h1]

theorem hdB_congr {h g : Hd} {ts us : List (Nat → Int)} (h1 : ts.length = h.tn) (h2 : us.length = g.tn) (e : HdEq h g ts us) (hf : hdB h ts = true) : hdB g us = true := by
  have hbd := hdB_bd hf
  unfold hdB placedB numsB knB zeroB at hf ⊢
  simp only [Bool.and_eq_true, Bool.or_eq_true, Bool.not_eq_true', decide_eq_true_eq, List.all_eq_true, List.mem_range] at hf ⊢
  obtain ⟨⟨⟨⟨⟨a1, a2, a3⟩, a4⟩, a5⟩, a6⟩, a7⟩ := hf
  have t := e.tn
  rw [← e.writer, ← e.seq, ← e.epoch, ← e.time, ← e.size, ← e.ctl, ← e.tn, ← risesB_congr (ts := ts) (us := us) (by omega) (fun i hi => e.toks i (by omega))]
  refine ⟨⟨⟨⟨⟨?_, fun i hi => ?_, ?_⟩, a4⟩, a5⟩, a6⟩, ?_⟩
  · rw [← e.knows _ (by omega)]; exact a1
  · rw [← e.knows i hi]; exact a2 i hi
  · rcases a3 with q | q
    · exact .inl q
    · exact .inr fun j hj => by rw [← e.prev j hj]; exact q j hj
  · rcases a7 with q | q
    · exact .inl q
    · exact .inr ⟨q.1, fun j hj => by rw [← e.item j hj]; exact q.2 j hj⟩
theorem bytesL_congr {h g : Hd} {ts us : List (Nat → Int)} (h1 : ts.length = h.tn) (h2 : us.length = g.tn) (e : HdEq h g ts us) : bytesL h ts = bytesL g us := by
  have hb : hdB h ts = hdB g us := by
    rw [Bool.eq_iff_iff]
    exact ⟨hdB_congr h1 h2 e, hdB_congr h2 h1 e.symm⟩
  unfold bytesL coreL
  rw [hb, e.writer, e.seq, ln_congr e.prev, e.epoch, e.ctl, e.time, ln_congr e.item, toksL_congr h.tn e.toks, e.tn, knL_congr 6 e.knows, ln_congr e.sum, e.size, ln_congr e.code]

end Go.Proofs.YtihlpfdhallfpaaDoor
