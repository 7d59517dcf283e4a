/-
  A region that draws its order of evaluation, walked once in the order of the text: each operation is given what it yields, either a value or a fact about value and world that stays true while memory only grows. No conditions.
-/
import Derived.WalkKit
import Derived.Below
import Derived.StillTail
import Derived.BigQuiet
import Derived.Deep.QuietTactic
namespace Go.Proofs.YtihlpfdhallfpaaDoor
open Go.RowKit

/-- Memory has only grown: what was there is as it was. -/
def Ext (w w' : World) : Prop := Below w.heap.size w w'

theorem Ext.refl (w : World) : Ext w w := Below.refl _ _
theorem Ext.trans {a b c : World} (h : Ext a b) (k : Ext b c) : Ext a c := Below.trans h (Below.mono k h.size)
theorem Ext.drew {a b : World} (h : Ext a b) : Ext a b.drew := Below.drew h
theorem Ext.alloc {a b : World} (h : Ext a b) (o : Obj) : Ext a (b.alloc o) := Below.alloc h h.size o
theorem Ext.below {a b : World} (h : Ext a b) : Below a.heap.size a b := h
theorem Ext.size {a b : World} (h : Ext a b) : a.heap.size ≤ b.heap.size := Below.size h
theorem Ext.cell {a b : World} (h : Ext a b) {p : Addr} (hp : p.block < a.heap.size) : b.cell? p = a.cell? p := Below.cell h hp
theorem Ext.block {a b : World} (h : Ext a b) {k : Nat} (hk : k < a.heap.size) : b.heap[k]? = a.heap[k]? := Below.block h k hk

inductive Sp where
  | ex (v : Value)
  | ab (f : Value → World → Prop)

def Sp.holds : Sp → Value → World → Prop
  | .ex e, v, _ => v = e
  | .ab f, v, w => f v w

def Sp.mono (E : World → World → Prop) : Sp → Prop
  | .ex _ => True
  | .ab f => ∀ v w w', E w w' → f v w → f v w'

theorem Sp.keep {E : World → World → Prop} {s : Sp} (hm : s.mono E) {v : Value} {w w' : World} (he : E w w') (h : s.holds v w) : s.holds v w' := by
  cases s with
  | ex e => exact h
  | ab f => exact hm v w w' he h

/-- What is asked once an operation has been carried out from the world 'w'. -/
def lexUponC (P : Program) (C : World → Prop) (E : World → World → Prop) (w : World) (s : Sp) : Result Next → Prop
  | .ok (.value u) w' => C w' ∧ E w w' ∧ s.holds u w'
  | .ok .skip w' => C w' ∧ E w w' ∧ s.holds undef w'
  | .ok (.enter f args) w' => Calls P f args w' (fun e w'' => ∃ v, e = .returned v ∧ C w'' ∧ E w w'' ∧ s.holds v w'')
  | _ => False

/-- The same where memory only grows. -/
def lexUpon (P : Program) (w : World) (s : Sp) : Result Next → Prop
  | .ok (.value u) w' => Ext w w' ∧ s.holds u w'
  | .ok .skip w' => Ext w w' ∧ s.holds undef w'
  | .ok (.enter f args) w' => Calls P f args w' (fun e w'' => ∃ v, e = .returned v ∧ Ext w w'' ∧ s.holds v w'')
  | _ => False

theorem lexUpon.toC {P : Program} {w0 w : World} {s : Sp} (h0 : Ext w0 w) : ∀ (r : Result Next), lexUpon P w s r → lexUponC P (Ext w0) Ext w s r := fun r h => by
  cases r with
  | ok x w' =>
    cases x <;> simp only [lexUpon] at h <;> simp only [lexUponC]
    case value u => exact ⟨h0.trans h.1, h.1, h.2⟩
    case skip => exact ⟨h0.trans h.1, h.1, h.2⟩
    case enter f args => exact h.mono fun e w'' ⟨v, he, hx, hv⟩ => ⟨v, he, h0.trans hx, hx, hv⟩
  | halt x w' => simp only [lexUpon] at h

/-- The values of the operations 'rs' are laid into the frame. -/
def lexVals (w : World) : List (Option Tmp × Sp) → Act → (Act → Prop) → Prop
  | [], a, K => K a
  | (d, .ex e) :: r, a, K => lexVals w r (a.put d e) K
  | (d, .ab f) :: r, a, K => ∀ v, f v w → lexVals w r (a.put d v) K

def lexPick (ops : List Oper) (done : List Sp) (rs : List Nat) : List (Option Tmp × Sp) :=
  rs.map fun j => ((ops[j]?).bind (·.dst), (done[j]?).getD (.ex undef))

def inAfter (ops : List Oper) (i j : Nat) : Bool :=
  match ops[i]? with
  | some o => o.after.any fun e => Region.binds .any e && e.on == j
  | none => false

/-- The operations 'rs' come ahead of number 'i' in every order, and give it all that it looks at. -/
def relOk (ops : List Oper) (i : Nat) (rs : List Nat) : Bool :=
  (rs.all fun r => decide (r < i) && (inAfter ops i r || rs.any fun r' => decide (r < r') && inAfter ops r' r)) &&
  (match ops[i]? with
   | some o => (o.looksAt ops.toArray).all fun t => (List.range ops.length).all fun j =>
      !(((ops[j]?).bind (·.dst)) == some t) || j == i || rs.contains j || inAfter ops j i
   | none => true)

def lexStep (P : Program) (C : World → Prop) (E : World → World → Prop) (ops : List Oper) (a0 : Act) (done : List Sp) (o : Oper) (s : Sp) (rs : List Nat) : Prop :=
  ∀ w, C w → lexVals w (lexPick ops done rs) a0 fun a =>
    if Region.wanted o (yielded ops.toArray a.tmps) then lexUponC P C E w s ((execOp a.eval o).run P w) else s.holds undef w

def lexGoal (P : Program) (C : World → Prop) (E : World → World → Prop) (ops : List Oper) (a0 : Act) (F : List Sp → Prop) : List Sp → List Oper → Prop
  | done, [] => F done
  | done, o :: rest => ∃ s rs, relOk ops done.length rs = true ∧ s.mono E ∧ lexStep P C E ops a0 done o s rs ∧ lexGoal P C E ops a0 F (done ++ [s]) rest

def lexFinal (P : Program) (C : World → Prop) (ops : List Oper) (Q : Exit → Act → World → Prop) (a0 : Act) (n : Nat) (done : List Sp) : Prop :=
  ∀ w, C w → lexVals w (lexPick ops done (List.range n)) a0 fun a => wpList P ops.toArray Q (ops.drop n) a w

/-- What the walk has shown, all at once. -/
theorem lexGoal_all {P : Program} {C : World → Prop} {E : World → World → Prop} {ops : List Oper} {a0 : Act} {F : List Sp → Prop} : ∀ (todo : List Oper) (done : List Sp), lexGoal P C E ops a0 F done todo →
    ∃ all : List Sp, all.length = done.length + todo.length ∧ (∀ j, j < done.length → all[j]? = done[j]?) ∧ F all ∧
      ∀ k o, todo[k]? = some o → ∃ s rs, all[done.length + k]? = some s ∧ relOk ops (done.length + k) rs = true ∧ s.mono E ∧ lexStep P C E ops a0 all o s rs
  | [], done, h => ⟨done, rfl, fun _ _ => rfl, h, fun k o hk => by simp at hk⟩
  | o :: rest, done, h => by
    obtain ⟨s, rs, hr, hm, hs, h'⟩ := h
    obtain ⟨all, hl, hd, hF, hk⟩ := lexGoal_all rest (done ++ [s]) h'
    have hlt : ∀ r ∈ rs, r < done.length := by
      intro r hr'
      unfold relOk at hr
      rw [Bool.and_eq_true, List.all_eq_true] at hr
      have := hr.1 r hr'
      simp only [Bool.and_eq_true, decide_eq_true_eq] at this
      exact this.1
    refine ⟨all, by simp at hl ⊢; omega, fun j hj => ?_, hF, fun k o' hk' => ?_⟩
    · rw [hd j (by simp; omega), List.getElem?_append_left hj]
    · cases k with
      | zero =>
        simp only [List.getElem?_cons_zero, Option.some.injEq] at hk'
        subst hk'
        refine ⟨s, rs, ?_, hr, hm, ?_⟩
        · rw [Nat.add_zero, hd done.length (by simp)]; simp
        · have hpick : lexPick ops all rs = lexPick ops done rs := by
            unfold lexPick
            refine List.map_congr_left fun j hj => ?_
            rw [hd j (by have := hlt j hj; simp; omega), List.getElem?_append_left (hlt j hj)]
          unfold lexStep at hs ⊢
          rw [hpick]
          exact hs
      | succ k =>
        simp only [List.getElem?_cons_succ] at hk'
        obtain ⟨s', rs', h1, h2, h3, h4⟩ := hk k o' hk'
        have hlen : (done ++ [s]).length + k = done.length + (k + 1) := by simp; omega
        rw [hlen] at h1 h2
        exact ⟨s', rs', h1, h2, h3, h4⟩

/-- The frame and the world at some point of the region's run: 'all' are what the operations yield. -/
structure LexInv (C : World → Prop) (ops : List Oper) (n : Nat) (all : List Sp) (a0 : Act) (listed : Array Bool) (a : Act) (w : World) : Prop where
  ext : C w
  defers : a.defers = a0.defers
  size : a.tmps.size = a0.tmps.size
  done : ∀ j o d s, j < n → ops[j]? = some o → o.dst = some d → d < a0.tmps.size → all[j]? = some s → listed.getD j true = true → s.holds (a.tmps.getD d undef) w
  skip : ∀ j o s, j < n → ops[j]? = some o → o.dst = none → all[j]? = some s → listed.getD j true = true → ∃ v, s.holds v w
  old : ∀ t : Nat, (∀ j o, j < n → ops[j]? = some o → o.dst = some t → listed.getD j true = false) → a.tmps[t]? = a0.tmps[t]?

def dstOk (ops : List Oper) (n size : Nat) : Bool :=
  (List.range n).all fun i => match ops[i]? with
    | some o => (match o.dst with
      | some d => decide (d < size) && (List.range n).all fun j => i == j || !(((ops[j]?).bind (·.dst)) == some d)
      | none => true) && o.after.all fun e => !Region.binds .any e || decide (e.on < i)
    | none => false

theorem Act.put_getD (a : Act) (d t : Nat) (v : Value) (hd : d < a.tmps.size) : (a.put (some d) v).tmps.getD t undef = if t = d then v else a.tmps.getD t undef := by
  unfold Act.put
  simp only
  by_cases h : t = d
  · subst h; simp [hd]
  · rw [if_neg h]
    simp only [Array.getD_eq_getD_getElem?]
    rw [Array.getElem?_setIfInBounds_ne (Ne.symm h)]

theorem yielded_congr (ops : Array Oper) (x y : Array Value) (j : Nat) (h : ∀ t, ((ops[j]?).bind (·.dst)) = some t → x[t]? = y[t]?) : yielded ops x j = yielded ops y j := by
  unfold yielded
  cases hd : (ops[j]?).bind (·.dst) with
  | none => rfl
  | some t => simp only [Option.bind_some]; rw [h t hd]


theorem wanted_congr (ops : Array Oper) (o : Oper) (x y : Array Value) (h : ∀ t ∈ o.looksAt ops, x[t]? = y[t]?) : Region.wanted o (yielded ops x) = Region.wanted o (yielded ops y) := by
  unfold Region.wanted
  cases hg : o.guard with
  | none => rfl
  | some p =>
    obtain ⟨j, b⟩ := p
    simp only
    rw [yielded_congr ops x y j fun t ht => h t (by unfold Oper.looksAt; rw [hg]; simp [ht])]

theorem execOp_looks (ops : Array Oper) (o : Oper) (a b : Act) (hs : ∀ cs c, o.op ≠ .select cs c) (h : ∀ t ∈ o.looksAt ops, a.tmps[t]? = b.tmps[t]?) : execOp a.eval o = execOp b.eval o :=
  execOp_congr o hs fun x hx => by
    cases x with
    | tmp t =>
      have : t ∈ o.looksAt ops := by
        unfold Oper.looksAt
        refine List.mem_append_left _ (List.mem_filterMap.2 ⟨.tmp t, by simpa using hx, rfl⟩)
      simp only [Act.eval, Array.getD_eq_getD_getElem?]
      rw [h t this]
    | const v => rfl
    | global g => rfl
    | func f => rfl

/-- The frame into which the values that 'A' holds are laid. -/
def putAll (A : Act) : List (Option Tmp × Sp) → Act → Act
  | [], a => a
  | (some d, _) :: r, a => putAll A r (a.put (some d) (A.tmps.getD d undef))
  | (none, _) :: r, a => putAll A r a

theorem lexVals_at {A : Act} {w : World} : ∀ (ps : List (Option Tmp × Sp)) (a : Act) (K : Act → Prop),
    (∀ p ∈ ps, (∃ d, p.1 = some d ∧ p.2.holds (A.tmps.getD d undef) w) ∨ (p.1 = none ∧ ∃ v, p.2.holds v w)) → lexVals w ps a K → K (putAll A ps a)
  | [], a, K, _, h => h
  | (d, s) :: r, a, K, hp, h => by
    have hr := fun p hp' => hp p (List.mem_cons_of_mem _ hp')
    rcases hp (d, s) (List.mem_cons_self ..) with ⟨d', hd, hs⟩ | ⟨hd, v, hs⟩
    · simp only at hd hs
      subst hd
      unfold putAll
      cases s with
      | ex e => unfold lexVals at h; rw [show A.tmps.getD d' undef = e from hs]; exact lexVals_at r _ K hr h
      | ab f => unfold lexVals at h; exact lexVals_at r _ K hr (h _ hs)
    · simp only at hd hs
      subst hd
      unfold putAll
      cases s with
      | ex e => unfold lexVals at h; exact lexVals_at r _ K hr h
      | ab f => unfold lexVals at h; exact lexVals_at r _ K hr (h v hs)

theorem putAll_defers (A : Act) : ∀ (ps : List (Option Tmp × Sp)) (a : Act), (putAll A ps a).defers = a.defers
  | [], _ => rfl
  | (some d, _) :: r, a => by unfold putAll; rw [putAll_defers A r]; rfl
  | (none, _) :: r, a => by unfold putAll; rw [putAll_defers A r]

theorem putAll_size (A : Act) : ∀ (ps : List (Option Tmp × Sp)) (a : Act), (putAll A ps a).tmps.size = a.tmps.size
  | [], _ => rfl
  | (some d, _) :: r, a => by unfold putAll; rw [putAll_size A r]; simp [Act.put]
  | (none, _) :: r, a => by unfold putAll; rw [putAll_size A r]

theorem put_get_self (A a : Act) (d : Nat) (hsz : A.tmps.size = a.tmps.size) : (a.put (some d) (A.tmps.getD d undef)).tmps[d]? = A.tmps[d]? := by
  unfold Act.put
  simp only
  by_cases h : d < a.tmps.size
  · have h' : d < A.tmps.size := by omega
    simp [h, h']
  · have h' : ¬ d < A.tmps.size := by omega
    simp [h, h']

theorem put_get_ne (a : Act) (d t : Nat) (v : Value) (h : d ≠ t) : (a.put (some d) v).tmps[t]? = a.tmps[t]? := by
  unfold Act.put
  simp only
  rw [Array.getElem?_setIfInBounds_ne h]

theorem putAll_keep (A : Act) (t : Nat) : ∀ (ps : List (Option Tmp × Sp)) (a : Act), A.tmps.size = a.tmps.size → a.tmps[t]? = A.tmps[t]? → (putAll A ps a).tmps[t]? = A.tmps[t]?
  | [], _, _, h => h
  | (some d, _) :: r, a, hsz, h => by
    unfold putAll
    refine putAll_keep A t r _ (by simpa [Act.put] using hsz) ?_
    by_cases hd : d = t
    · subst hd; exact put_get_self A a d hsz
    · rw [put_get_ne a d t _ hd]; exact h
  | (none, _) :: r, a, hsz, h => by unfold putAll; exact putAll_keep A t r a hsz h

theorem putAll_in (A : Act) (t : Nat) : ∀ (ps : List (Option Tmp × Sp)) (a : Act), A.tmps.size = a.tmps.size → (∃ p ∈ ps, p.1 = some t) → (putAll A ps a).tmps[t]? = A.tmps[t]?
  | [], _, _, h => by obtain ⟨p, hp, _⟩ := h; cases hp
  | (some d, s) :: r, a, hsz, h => by
    unfold putAll
    by_cases hd : d = t
    · subst hd
      exact putAll_keep A d r _ (by simpa [Act.put] using hsz) (put_get_self A a d hsz)
    · refine putAll_in A t r _ (by simpa [Act.put] using hsz) ?_
      obtain ⟨p, hp, hpt⟩ := h
      rcases List.mem_cons.1 hp with rfl | hp
      · simp only [Option.some.injEq] at hpt; exact absurd hpt hd
      · exact ⟨p, hp, hpt⟩
  | (none, s) :: r, a, hsz, h => by
    unfold putAll
    refine putAll_in A t r a hsz ?_
    obtain ⟨p, hp, hpt⟩ := h
    rcases List.mem_cons.1 hp with rfl | hp
    · cases hpt
    · exact ⟨p, hp, hpt⟩

theorem putAll_out (A : Act) (t : Nat) : ∀ (ps : List (Option Tmp × Sp)) (a : Act), (∀ p ∈ ps, p.1 ≠ some t) → (putAll A ps a).tmps[t]? = a.tmps[t]?
  | [], _, _ => rfl
  | (some d, s) :: r, a, h => by
    unfold putAll
    rw [putAll_out A t r _ fun p hp => h p (List.mem_cons_of_mem _ hp)]
    exact put_get_ne a d t _ fun e => h (some d, s) (List.mem_cons_self ..) (by rw [e])
  | (none, s) :: r, a, h => by
    unfold putAll
    exact putAll_out A t r a fun p hp => h p (List.mem_cons_of_mem _ hp)


theorem inAfter_spec {ops : List Oper} {i j : Nat} (h : inAfter ops i j = true) : ∃ o, ops[i]? = some o ∧ ∃ e ∈ o.after, Region.binds .any e = true ∧ e.on = j := by
  unfold inAfter at h
  split at h
  · rename_i o ho
    obtain ⟨e, he, hb⟩ := Array.any_eq_true'.1 h
    simp only [Bool.and_eq_true, beq_iff_eq] at hb
    exact ⟨o, ho, e, he, hb.1, hb.2⟩
  · cases h

theorem unl_of {listed : Array Bool} {j : Nat} (hj : j < listed.size) (h : listed.getD j true ≠ true) : listed.getD j false = false := by
  simp [hj] at h ⊢; exact h

theorem getD_tf {listed : Array Bool} {j : Nat} (hj : j < listed.size) : listed.getD j true = listed.getD j false := by simp [hj]

section
variable {P : Program} {C : World → Prop} {E : World → World → Prop} {ops : List Oper} {n : Nat} {all : List Sp} {a0 : Act} {listed : Array Bool} {a : Act} {w : World} {i : Nat} {o : Oper} {rs : List Nat} {s : Sp}

theorem rs_listed (inv : HeadInv .any ops.toArray n listed) (hi : i ∈ Region.ready .any ops.toArray listed) (hr : relOk ops i rs = true) : ∀ (k r : Nat), i - r = k → r ∈ rs → listed.getD r false = true := by
  unfold relOk at hr
  rw [Bool.and_eq_true, List.all_eq_true] at hr
  intro k
  induction k using Nat.strongRecOn with
  | _ k ih =>
    intro r hk hmem
    have h := hr.1 r hmem
    simp only [Bool.and_eq_true, Bool.or_eq_true, decide_eq_true_eq] at h
    obtain ⟨hlt, h⟩ := h
    rcases h with h | h
    · obtain ⟨o, ho, e, he, hb, hon⟩ := inAfter_spec h
      obtain ⟨_, o', ho', hall⟩ := mem_ready.1 hi
      have : o' = o := Option.some.inj (ho'.symm.trans (by simpa using ho))
      subst this
      rw [← hon]; exact hall e he hb
    · obtain ⟨r', hr', h2⟩ := List.any_eq_true.1 h
      simp only [Bool.and_eq_true, decide_eq_true_eq] at h2
      obtain ⟨o, ho, e, he, hb, hon⟩ := inAfter_spec h2.2
      have hl' : r' < i := by
        have h3 := hr.1 r' hr'
        simp only [Bool.and_eq_true, decide_eq_true_eq] at h3
        exact h3.1
      have := ih (i - r') (by omega) r' rfl hr'
      rw [← hon]
      exact inv.closed r' o (by simpa using ho) this e he hb

theorem after_unl (inv : HeadInv .any ops.toArray n listed) (hun : listed.getD i false = false) {j : Nat} (h : inAfter ops j i = true) : listed.getD j true ≠ true ∨ listed.getD j false = false := by
  obtain ⟨o, ho, e, he, hb, hon⟩ := inAfter_spec h
  right
  cases hl : listed.getD j false with
  | false => rfl
  | true =>
    have := inv.closed j o (by simpa using ho) hl e he hb
    rw [hon, hun] at this
    cases this

/-- The frame that the step was shown at, and the frame at hand, are one to the operation that comes up. -/
theorem same_looks (inv : HeadInv .any ops.toArray n listed) (L : LexInv C ops n all a0 listed a w) (hi : i ∈ Region.ready .any ops.toArray listed) (hin : i < n) (hnl : n ≤ ops.length)
    (ho : ops[i]? = some o) (hr : relOk ops i rs = true) : ∀ t ∈ o.looksAt ops.toArray, (putAll a (lexPick ops all rs) a0).tmps[t]? = a.tmps[t]? := by
  intro t ht
  have hr' := hr
  unfold relOk at hr'
  rw [Bool.and_eq_true, ho] at hr'
  have h2 := hr'.2
  simp only at h2
  rw [List.all_eq_true] at h2
  have h3 := h2 t ht
  rw [List.all_eq_true] at h3
  have hun : listed.getD i false = false := getD_both (mem_ready.1 hi).1
  by_cases hex : ∃ p ∈ lexPick ops all rs, p.1 = some t
  · exact putAll_in a t _ a0 L.size hex
  · rw [putAll_out a t _ a0 fun p hp e => hex ⟨p, hp, e⟩]
    refine (L.old t fun j oj hj hoj hd => ?_).symm
    have h4 := h3 j (List.mem_range.2 (by omega))
    rw [hoj] at h4
    simp only [Option.bind_some, hd, beq_self_eq_true, Bool.not_true, Bool.false_or, Bool.or_eq_true, beq_iff_eq] at h4
    rcases h4 with (h4 | h4) | h4
    · subst h4; exact (mem_ready.1 hi).1
    · exfalso
      refine hex ⟨(some t, (all[j]?).getD (.ex undef)), ?_, rfl⟩
      unfold lexPick
      refine List.mem_map.2 ⟨j, by simpa using h4, ?_⟩
      rw [hoj]; simp [hd]
    · have hjs : j < listed.size := by rw [inv.size]; simp; omega
      rcases after_unl inv hun h4 with h5 | h5
      · rw [getD_tf hjs]; exact unl_of hjs h5
      · rw [getD_tf hjs]; exact h5

theorem picks_hold (inv : HeadInv .any ops.toArray n listed) (L : LexInv C ops n all a0 listed a w) (hi : i ∈ Region.ready .any ops.toArray listed) (hin : i < n) (hnl : n ≤ ops.length)
    (hall : all.length = n) (hr : relOk ops i rs = true) (hdst : dstOk ops n a0.tmps.size = true) :
    ∀ p ∈ lexPick ops all rs, (∃ d, p.1 = some d ∧ p.2.holds (a.tmps.getD d undef) w) ∨ (p.1 = none ∧ ∃ v, p.2.holds v w) := by
  intro p hp
  unfold lexPick at hp
  obtain ⟨j, hj, rfl⟩ := List.mem_map.1 hp
  have hl := rs_listed inv hi hr _ j rfl hj
  have hji : j < i := by
    unfold relOk at hr
    rw [Bool.and_eq_true, List.all_eq_true] at hr
    have := hr.1 j hj
    simp only [Bool.and_eq_true, decide_eq_true_eq] at this
    exact this.1
  have hjn : j < n := by omega
  have hjo : j < ops.length := by omega
  have hjs : j < listed.size := by rw [inv.size]; simp; omega
  have hl' : listed.getD j true = true := by rw [getD_tf hjs]; exact hl
  have hoj : ops[j]? = some ops[j] := List.getElem?_eq_getElem hjo
  have haj : all[j]? = some all[j] := List.getElem?_eq_getElem (by omega)
  rw [hoj, haj]
  simp only [Option.bind_some, Option.getD_some]
  cases hd : ops[j].dst with
  | some d =>
    left
    refine ⟨d, rfl, L.done j _ d _ hjn hoj hd ?_ haj hl'⟩
    unfold dstOk at hdst
    have := List.all_eq_true.1 hdst j (List.mem_range.2 hjn)
    rw [hoj] at this
    simp only [hd, Bool.and_eq_true, decide_eq_true_eq] at this
    exact this.1.1
  | none => right; exact ⟨rfl, L.skip j _ _ hjn hoj hd haj hl'⟩

theorem lexInv_set (inv : HeadInv .any ops.toArray n listed) (L : LexInv C ops n all a0 listed a w) (hin : i < n) (hnl : n ≤ ops.length)
    (hmono : ∀ (j : Nat) (s : Sp), all[j]? = some s → s.mono E) (hdst : dstOk ops n a0.tmps.size = true) (ho : ops[i]? = some o) (hs : all[i]? = some s) {u : Value} {w' : World} (hC : C w') (he : E w w') (hu : s.holds u w') :
    LexInv C ops n all a0 (listed.setIfInBounds i true) (a.put o.dst u) w' := by
  have hd0 := hdst
  unfold dstOk at hd0
  have hdi := List.all_eq_true.1 hd0 i (List.mem_range.2 hin)
  rw [ho] at hdi
  have his : i < listed.size := by rw [inv.size]; simp; omega
  refine ⟨hC, ?_, ?_, fun j oj d sj hj hoj hd hlt hsj hl => ?_, fun j oj sj hj hoj hd hsj hl => ?_, fun t ht => ?_⟩
  · cases hod : o.dst <;> simp [Act.put, L.defers]
  · cases hod : o.dst <;> simp [Act.put, L.size]
  · by_cases hij : i = j
    · subst hij
      have : oj = o := Option.some.inj (hoj.symm.trans ho)
      subst this
      have : sj = s := Option.some.inj (hsj.symm.trans hs)
      subst this
      rw [hd, Act.put_getD a d d u (by rw [L.size]; exact hlt), if_pos rfl]
      exact hu
    · rw [getD_set_ne true hij] at hl
      have hold := Sp.keep (hmono j sj hsj) he (L.done j oj d sj hj hoj hd hlt hsj hl)
      cases hod : o.dst with
      | none => exact hold
      | some d' =>
        have hne : d ≠ d' := by
          intro e
          subst e
          simp only [hod, Bool.and_eq_true, decide_eq_true_eq] at hdi
          have h1 := List.all_eq_true.1 hdi.1.2 j (List.mem_range.2 hj)
          rw [hoj] at h1
          simp [hd] at h1
          exact hij h1
        by_cases hlt' : d' < a.tmps.size
        · rw [Act.put_getD a d' d u hlt', if_neg hne]; exact hold
        · have : (a.put (some d') u).tmps = a.tmps := by
            unfold Act.put; simp only; rw [Array.setIfInBounds, dif_neg hlt']
          rw [this]; exact hold
  · by_cases hij : i = j
    · subst hij
      have : sj = s := Option.some.inj (hsj.symm.trans hs)
      subst this
      exact ⟨u, hu⟩
    · rw [getD_set_ne true hij] at hl
      obtain ⟨v, hv⟩ := L.skip j oj sj hj hoj hd hsj hl
      exact ⟨v, Sp.keep (hmono j sj hsj) he hv⟩
  · have hti : o.dst ≠ some t := by
      intro e
      have := ht i o hin ho e
      simp [his] at this
    have hrest : a.tmps[t]? = a0.tmps[t]? := L.old t fun j oj hj hoj hd => by
      have h1 := ht j oj hj hoj hd
      by_cases hij : i = j
      · subst hij
        simp [his] at h1
      · rwa [getD_set_ne true hij] at h1
    rw [← hrest]
    cases hod : o.dst with
    | none => rfl
    | some d' => exact put_get_ne a d' t u fun e => hti (by rw [hod, e])
end

def headListed (size n : Nat) : Array Bool := ((List.range size).map fun j => decide (j < n)).toArray

def lexB (ops : List Oper) (n size : Nat) : Bool :=
  Region.noSelect ops.toArray && decide (n ≤ ops.length) && (n == ops.length || (decide (n < ops.length) && Region.sinkB .any ops.toArray n && Region.chainB .any ops.toArray n)) &&
  Region.seqB .any ops.toArray (ops.length - n) n (headListed ops.length n) && dstOk ops n size

def unl (n : Nat) (listed : Array Bool) : Nat := ((List.range n).filter fun j => !listed.getD j true).length

theorem unl_set {n i : Nat} {listed : Array Bool} (hin : i < n) (his : i < listed.size) (hun : listed.getD i true = false) : unl n (listed.setIfInBounds i true) + 1 = unl n listed := by
  unfold unl
  induction n with
  | zero => omega
  | succ n ih =>
    rw [List.range_succ, List.filter_append, List.filter_append, List.length_append, List.length_append]
    by_cases h : i = n
    · subst h
      have h1 : (List.range i).filter (fun j => !(listed.setIfInBounds i true).getD j true) = (List.range i).filter fun j => !listed.getD j true :=
        List.filter_congr fun j hj => by rw [getD_set_ne true (by have := List.mem_range.1 hj; omega)]
      rw [h1]
      simp only [List.filter_cons, List.filter_nil, hun, Bool.not_false, if_true, List.length_singleton]
      have h2 : (listed.setIfInBounds i true).getD i true = true := by simp [his]
      rw [h2]
      simp
    · have := ih (by omega)
      rw [show ([n].filter fun j => !(listed.setIfInBounds i true).getD j true) = [n].filter fun j => !listed.getD j true from
        List.filter_congr fun j hj => by
          have : j = n := by simpa using hj
          rw [getD_set_ne true (by omega)]]
      omega

theorem some_ready {ops : List Oper} {n : Nat} {listed : Array Bool} {size : Nat} (inv : HeadInv .any ops.toArray n listed) (hnl : n ≤ ops.length) (hdst : dstOk ops n size = true) :
    ∀ (j : Nat), j < n → listed.getD j true = false → ∃ i, i ∈ Region.ready .any ops.toArray listed := by
  intro j
  induction j using Nat.strongRecOn with
  | _ j ih =>
    intro hj hun
    have hjo : ops[j]? = some ops[j] := List.getElem?_eq_getElem (by omega)
    by_cases h : ∀ e ∈ ops[j].after, Region.binds .any e = true → listed.getD e.on false = true
    · exact ⟨j, mem_ready.2 ⟨hun, ops[j], by simp, h⟩⟩
    · have : ∃ e ∈ ops[j].after, Region.binds .any e = true ∧ listed.getD e.on false ≠ true := by
        refine Classical.byContradiction fun hno => h fun e he hb => ?_
        refine Classical.byContradiction fun hl => hno ⟨e, he, hb, hl⟩
      obtain ⟨e, he, hb, hl⟩ := this
      unfold dstOk at hdst
      have h1 := List.all_eq_true.1 hdst j (List.mem_range.2 hj)
      rw [hjo] at h1
      simp only [Bool.and_eq_true] at h1
      have h2 := Array.all_eq_true'.1 h1.2 e he
      simp only [hb, Bool.not_true, Bool.false_or, decide_eq_true_eq] at h2
      have hes : e.on < listed.size := by rw [inv.size]; simp; omega
      refine ih e.on h2 (by omega) ?_
      rw [getD_tf hes]
      cases hx : listed.getD e.on false with
      | false => rfl
      | true => exact absurd hx hl

theorem lex_run {P : Program} {C : World → Prop} {E : World → World → Prop} {ops : List Oper} {n : Nat} {all : List Sp} {a0 : Act} {Q : Exit → Act → World → Prop} (hE : ∀ w, E w w) (hall : all.length = n) (hnl : n ≤ ops.length)
    (hsel : Region.noSelect ops.toArray = true) (htail : n = ops.length ∨ (n < ops.length ∧ Region.sinkB .any ops.toArray n = true ∧ Region.chainB .any ops.toArray n = true))
    (hseq : Region.seqB .any ops.toArray (ops.length - n) n (headListed ops.length n) = true) (hdst : dstOk ops n a0.tmps.size = true)
    (hk : ∀ k o, k < n → ops[k]? = some o → ∃ s rs, all[k]? = some s ∧ relOk ops k rs = true ∧ s.mono E ∧ lexStep P C E ops a0 all o s rs)
    (hF : lexFinal P C ops Q a0 n all) :
    ∀ (f : Nat) (listed : Array Bool) (a : Act) (w : World), HeadInv .any ops.toArray n listed → LexInv C ops n all a0 listed a w → unl n listed = f →
      wpAny P .any ops.toArray Q (f + (ops.length - n)) listed a w := by
  have hmono : ∀ (j : Nat) (s : Sp), all[j]? = some s → s.mono E := fun j s hj => by
    have hjn : j < n := by rw [← hall]; exact (List.getElem?_eq_some_iff.1 hj).1
    obtain ⟨s', rs, h1, _, h3, _⟩ := hk j _ hjn (List.getElem?_eq_getElem (show j < ops.length by omega))
    have : s' = s := Option.some.inj (h1.symm.trans hj)
    subst this
    exact h3
  intro f
  induction f with
  | zero =>
    intro listed a w inv L hu
    have hl : ∀ j, j < n → listed.getD j true = true := fun j hj => by
      unfold unl at hu
      have := List.length_eq_zero_iff.1 hu
      have h1 := List.filter_eq_nil_iff.1 this j (List.mem_range.2 hj)
      simpa using h1
    have heq : listed = headListed ops.length n := by
      refine Array.ext (by rw [inv.size]; simp [headListed]) fun j h1 h2 => ?_
      have hjo : j < ops.length := by rw [inv.size] at h1; simpa using h1
      by_cases hj : j < n
      · have := hl j hj
        simp [h1] at this
        simp [headListed, hj, this]
      · have := inv.tail j (by omega) (by simpa using hjo)
        simp [h1] at this
        simp [headListed, hj, this]
    subst heq
    rw [Nat.zero_add]
    have hlen : (ops.drop n).length = ops.length - n := by simp
    rw [← hlen]
    refine wpAny_of_seq (ops.drop n) n _ a w (fun j => by simp) (by rw [hlen]; exact hseq) ?_
    have h1 := lexVals_at (A := a) (lexPick ops all (List.range n)) a0 _ (fun p hp => by
      unfold lexPick at hp
      obtain ⟨j, hj, rfl⟩ := List.mem_map.1 hp
      have hjn := List.mem_range.1 hj
      have hoj : ops[j]? = some ops[j] := List.getElem?_eq_getElem (by omega)
      have haj : all[j]? = some all[j] := List.getElem?_eq_getElem (by omega)
      rw [hoj, haj]
      simp only [Option.bind_some, Option.getD_some]
      cases hd : ops[j].dst with
      | some d =>
        left
        refine ⟨d, rfl, L.done j _ d _ hjn hoj hd ?_ haj (hl j hjn)⟩
        unfold dstOk at hdst
        have := List.all_eq_true.1 hdst j (List.mem_range.2 hjn)
        rw [hoj] at this
        simp only [hd, Bool.and_eq_true, decide_eq_true_eq] at this
        exact this.1.1
      | none => right; exact ⟨rfl, L.skip j _ _ hjn hoj hd haj (hl j hjn)⟩) (hF w L.ext)
    have ha : putAll a (lexPick ops all (List.range n)) a0 = a := by
      have htm : (putAll a (lexPick ops all (List.range n)) a0).tmps = a.tmps := by
        refine Array.ext (by rw [putAll_size, L.size]) fun t h1 h2 => ?_
        have : (putAll a (lexPick ops all (List.range n)) a0).tmps[t]? = a.tmps[t]? := by
          by_cases hex : ∃ p ∈ lexPick ops all (List.range n), p.1 = some t
          · exact putAll_in a t _ a0 L.size hex
          · rw [putAll_out a t _ a0 fun p hp e => hex ⟨p, hp, e⟩]
            refine (L.old t fun j oj hj hoj hd => ?_).symm
            exfalso
            refine hex ⟨(some t, (all[j]?).getD (.ex undef)), ?_, rfl⟩
            unfold lexPick
            exact List.mem_map.2 ⟨j, List.mem_range.2 hj, by rw [hoj]; simp [hd]⟩
        rw [Array.getElem?_eq_getElem h1, Array.getElem?_eq_getElem h2] at this
        exact Option.some.inj this
      have hdf : (putAll a (lexPick ops all (List.range n)) a0).defers = a.defers := by rw [putAll_defers, L.defers]
      cases hA : putAll a (lexPick ops all (List.range n)) a0 with
      | mk t d =>
        rw [hA] at htm hdf
        simp only at htm hdf
        subst htm; subst hdf
        rfl
    rw [ha] at h1
    exact h1
  | succ f ih =>
    intro listed a w inv L hu
    have hex : ∃ j, j < n ∧ listed.getD j true = false := by
      unfold unl at hu
      cases hf : (List.range n).filter fun j => !listed.getD j true with
      | nil => rw [hf] at hu; simp at hu
      | cons j l =>
        have : j ∈ (List.range n).filter fun j => !listed.getD j true := by rw [hf]; exact List.mem_cons_self ..
        obtain ⟨h1, h2⟩ := List.mem_filter.1 this
        exact ⟨j, List.mem_range.1 h1, by simpa using h2⟩
    obtain ⟨j0, hj0, hun0⟩ := hex
    obtain ⟨r0, hr0⟩ := some_ready inv hnl hdst j0 hj0 hun0
    rw [show f + 1 + (ops.length - n) = (f + (ops.length - n)) + 1 by omega]
    refine ⟨fun h => (by rw [h] at hr0; cases hr0), fun i hi => ?_⟩
    obtain ⟨hiun, o, ho, _⟩ := mem_ready.1 hi
    have ho' : ops[i]? = some o := by simpa using ho
    have hio : i < ops.length := (List.getElem?_eq_some_iff.1 ho').1
    have hin : i < n := by
      rcases Nat.lt_or_ge i n with h | h
      · exact h
      · rcases htail with rfl | ⟨hn, hs, hc⟩
        · omega
        · exact absurd hi (tail_waits hs hc (by simpa using hn) inv _ j0 rfl hj0 hun0 i h)
    obtain ⟨s, rs, hs, hr, hm, hstep⟩ := hk i o hin ho'
    have hlook := same_looks inv L hi hin hnl ho' hr
    have hat := lexVals_at (A := a) _ a0 _ (picks_hold inv L hi hin hnl hall hr hdst) (hstep w L.ext)
    have his : i < listed.size := by rw [inv.size]; simp; omega
    have hnext : ∀ (u : Value) (w' : World), C w' → E w w' → s.holds u w' → wpAny P .any ops.toArray Q (f + (ops.length - n)) (listed.setIfInBounds i true) (a.put o.dst u) w' := fun u w' hC he hu' =>
      ih _ _ _ (inv.set hi hin) (lexInv_set inv L hin hnl hmono hdst ho' hs hC he hu') (by have := unl_set hin his hiun; omega)
    rw [wanted_congr ops.toArray o _ _ hlook, execOp_looks ops.toArray o _ a (fun cs c => Region.noSelect_spec hsel i o cs c ho) hlook] at hat
    unfold wpOp
    rw [ho]
    simp only
    by_cases hw : Region.wanted o (yielded ops.toArray a.tmps) = true
    · rw [if_pos hw] at hat ⊢
      left
      unfold Oper.wp
      generalize (execOp a.eval o).run P w = r at hat ⊢
      cases r with
      | ok x w' =>
        cases x <;> simp only [lexUponC] at hat <;> simp only [Oper.upon]
        case value u => exact hnext u w' hat.1 hat.2.1 hat.2.2
        case skip => exact hnext undef w' hat.1 hat.2.1 hat.2.2
        case enter g args =>
          exact hat.mono fun e w'' ⟨v, he, hC, hx, hv⟩ => by subst he; exact hnext v w'' hC hx hv
      | halt x w' => simp only [lexUponC] at hat
    · rw [if_neg hw] at hat ⊢
      exact hnext undef w L.ext (hE w) hat

/-- **A region that draws its order**, the first 'n' operations in whatever order, the others behind them one by one. -/
theorem wp_region_lexC {P : Program} {C : World → Prop} {E : World → World → Prop} {id : Nat} {ops : List Oper} {Q : Exit → Act → World → Prop} {a0 : Act} {w : World} (n : Nat) (hm : P.follows .mixedOrders = true) (hB : lexB ops n a0.tmps.size = true)
    (hE : ∀ w, E w w) (hC : C w.drew) (h : lexGoal P C E ops a0 (lexFinal P C ops Q a0 n) [] (ops.take n)) : (Code.region id ops.toArray true).wp P Q a0 w := by
  simp only [lexB, Bool.and_eq_true, Bool.or_eq_true, decide_eq_true_eq, beq_iff_eq] at hB
  obtain ⟨⟨⟨⟨hsel, hnl⟩, htail⟩, hseq⟩, hdst⟩ := hB
  have htail' : n = ops.length ∨ (n < ops.length ∧ Region.sinkB .any ops.toArray n = true ∧ Region.chainB .any ops.toArray n = true) := by
    rcases htail with h | h
    · exact Or.inl h
    · exact Or.inr ⟨h.1.1, h.1.2, h.2⟩
  obtain ⟨all, hl, _, hF, hk⟩ := lexGoal_all _ _ h
  have hall : all.length = n := by simp at hl; omega
  refine wp_region_any hm ?_
  have inv0 : HeadInv .any ops.toArray n (Array.replicate ops.toArray.size false) :=
    ⟨by simp, fun j oj _ hl => (by rw [getD_replicate_false] at hl; cases hl), fun t _ ht => getD_in (by simpa using ht) (getD_replicate_false _ _)⟩
  have hfalse : ∀ j, j < n → (Array.replicate ops.toArray.size false).getD j true = false := fun j hj => getD_in (by simp; omega) (getD_replicate_false _ _)
  have L0 : LexInv C ops n all a0 (Array.replicate ops.toArray.size false) a0 w.drew :=
    ⟨hC, rfl, rfl, fun j o d s hj _ _ _ _ hl => (by rw [hfalse j hj] at hl; cases hl), fun j o s hj _ _ _ hl => (by rw [hfalse j hj] at hl; cases hl), fun _ _ => rfl⟩
  have hu : unl n (Array.replicate ops.toArray.size false) = n := by
    unfold unl
    rw [List.filter_eq_self.2 fun j hj => by rw [hfalse j (List.mem_range.1 hj)]; rfl]
    simp
  have := lex_run (Q := Q) hE hall hnl hsel htail' hseq hdst (fun k o hkn hko => by
    have h1 : (ops.take n)[k]? = some o := by rw [List.getElem?_take, if_pos hkn]; exact hko
    obtain ⟨s, rs, h2, h3, h4, h5⟩ := hk k o h1
    simp only [List.length_nil, Nat.zero_add] at h2 h3
    exact ⟨s, rs, h2, h3, h4, h5⟩) hF n _ a0 w.drew inv0 L0 hu
  have hfuel : n + (ops.length - n) = ops.toArray.size := by simp; omega
  rw [hfuel] at this
  exact this

/-! ### The form that a walk uses: what has been shown stands newest first; an operation names those that it looks at by how far back they stand, and by their slot. -/

inductive Nth : List Sp → Nat → Sp → Prop
  | zero (s : Sp) (l : List Sp) : Nth (s :: l) 0 s
  | succ (s x : Sp) (l : List Sp) (k : Nat) : Nth l k s → Nth (x :: l) (k + 1) s

inductive Picks (done : List Sp) : List (Nat × Tmp) → List (Option Tmp × Sp) → Prop
  | nil : Picks done [] []
  | cons (k : Nat) (d : Tmp) (s : Sp) (r : List (Nat × Tmp)) (ps : List (Option Tmp × Sp)) : Nth done k s → Picks done r ps → Picks done ((k, d) :: r) ((some d, s) :: ps)

theorem Nth.get : ∀ {l : List Sp} {k : Nat} {s : Sp}, Nth l k s → k < l.length ∧ l.reverse[l.length - 1 - k]? = some s
  | _, _, _, .zero s l => ⟨by simp, by simp⟩
  | _, _, _, .succ s x l k h => by
    obtain ⟨h1, h2⟩ := Nth.get h
    refine ⟨by simpa using h1, ?_⟩
    rw [List.reverse_cons, List.length_cons, show l.length + 1 - 1 - (k + 1) = l.length - 1 - k by omega, List.getElem?_append_left (by simp; omega)]
    exact h2

def dstIs (ops : List Oper) (i : Nat) (rs : List (Nat × Tmp)) : Bool := rs.all fun p => decide (p.1 < i) && ((ops[i - 1 - p.1]?).bind (·.dst)) == some p.2

theorem picks_eq {ops : List Oper} {done : List Sp} : ∀ {rs : List (Nat × Tmp)} {ps : List (Option Tmp × Sp)}, Picks done rs ps → dstIs ops done.length rs = true →
    lexPick ops done.reverse (rs.map fun p => done.length - 1 - p.1) = ps
  | _, _, .nil, _ => rfl
  | _, _, .cons k d s r ps hn hp, hd => by
    unfold dstIs at hd
    rw [List.all_cons, Bool.and_eq_true, Bool.and_eq_true, decide_eq_true_eq] at hd
    have ih := picks_eq (ops := ops) hp (by unfold dstIs; exact hd.2)
    unfold lexPick at ih ⊢
    rw [List.map_cons, List.map_cons, ih]
    have h2 := hd.1.2
    rw [beq_iff_eq] at h2
    rw [h2, (Nth.get hn).2]
    rfl

def relOkR (ops : List Oper) (i : Nat) (rs : List (Nat × Tmp)) : Bool := relOk ops i (rs.map fun p => i - 1 - p.1) && dstIs ops i rs

theorem lexVals_mono {w : World} : ∀ (ps : List (Option Tmp × Sp)) (a : Act) (K K' : Act → Prop), (∀ a, K a → K' a) → lexVals w ps a K → lexVals w ps a K'
  | [], a, _, _, hk, h => hk a h
  | (_, .ex _) :: r, _, K, K', hk, h => lexVals_mono r _ K K' hk h
  | (_, .ab _) :: r, _, K, K', hk, h => fun v hv => lexVals_mono r _ K K' hk (h v hv)

def lexGo (P : Program) (ops : List Oper) (a0 : Act) (w0 : World) (F : List Sp → Prop) : Nat → List Sp → List Oper → Prop
  | i, done, l => i = done.length → lexGoal P (Ext w0) Ext ops a0 F done.reverse l

theorem lex_start {P : Program} {ops : List Oper} {a0 : Act} {w0 : World} {F : List Sp → Prop} {l : List Oper} (h : lexGo P ops a0 w0 F 0 [] l) : lexGoal P (Ext w0) Ext ops a0 F [] l := h rfl

section
variable {P : Program} {ops : List Oper} {a0 : Act} {w0 : World} {F : List Sp → Prop} {i : Nat} {done : List Sp} {o : Oper} {rest : List Oper}

theorem lex_stop (h : F done.reverse) : lexGo P ops a0 w0 F i done [] := fun _ => h

theorem lex_next {s : Sp} (rs : List (Nat × Tmp)) (hr : relOkR ops i rs = true) (hm : s.mono Ext) {ps : List (Option Tmp × Sp)} (hp : Picks done rs ps)
    (hs : ∀ w, Ext w0 w → lexVals w ps a0 fun a => if Region.wanted o (yielded ops.toArray a.tmps) then lexUpon P w s ((execOp a.eval o).run P w) else s.holds undef w)
    (h : lexGo P ops a0 w0 F (i + 1) (s :: done) rest) : lexGo P ops a0 w0 F i done (o :: rest) := fun hi => by
  subst hi
  unfold relOkR at hr
  rw [Bool.and_eq_true] at hr
  refine ⟨s, rs.map fun p => done.length - 1 - p.1, by rw [List.length_reverse]; exact hr.1, hm, ?_, ?_⟩
  · unfold lexStep
    rw [picks_eq hp hr.2]
    intro w hw
    refine lexVals_mono ps a0 _ _ (fun a ha => ?_) (hs w hw)
    split at ha
    · rename_i hwt
      rw [if_pos hwt]
      exact lexUpon.toC hw _ ha
    · rename_i hwt
      rw [if_neg hwt]
      exact ha
  · have := h rfl
    rwa [List.reverse_cons] at this

/-- An operation without a guard that yields one value. -/
theorem lex_e (e : Value) (rs : List (Nat × Tmp)) (hr : relOkR ops i rs = true) (hg : o.guard = none) {ps : List (Option Tmp × Sp)} (hp : Picks done rs ps)
    (hs : ∀ w, Ext w0 w → lexVals w ps a0 fun a => lexUpon P w (.ex e) ((execOp a.eval o).run P w))
    (h : lexGo P ops a0 w0 F (i + 1) (.ex e :: done) rest) : lexGo P ops a0 w0 F i done (o :: rest) :=
  lex_next (s := .ex _) rs hr trivial hp (fun w hw => by
    have hwt : ∀ y, Region.wanted o y = true := fun y => by simp [Region.wanted, hg]
    simp only [hwt, if_true]
    exact hs w hw) h

/-- An operation without a guard that yields something of which 'f' holds. -/
theorem lex_a (f : Value → World → Prop) (rs : List (Nat × Tmp)) (hr : relOkR ops i rs = true) (hg : o.guard = none) (hm : ∀ v w w', Ext w w' → f v w → f v w') {ps : List (Option Tmp × Sp)} (hp : Picks done rs ps)
    (hs : ∀ w, Ext w0 w → lexVals w ps a0 fun a => lexUpon P w (.ab f) ((execOp a.eval o).run P w))
    (h : lexGo P ops a0 w0 F (i + 1) (.ab f :: done) rest) : lexGo P ops a0 w0 F i done (o :: rest) :=
  lex_next (s := .ab f) rs hr hm hp (fun w hw => by
    have hwt : ∀ y, Region.wanted o y = true := fun y => by simp [Region.wanted, hg]
    simp only [hwt, if_true]
    exact hs w hw) h

/-- A guarded operation whose guard says yes (the guard's slot is 'g'). -/
theorem lex_ge (e : Value) (rs : List (Nat × Tmp)) (hr : relOkR ops i rs = true) {j : Nat} {b : Bool} (hg : o.guard = some (j, b)) {g : Tmp} (hj : (ops[j]?).bind (·.dst) = some g) {ps : List (Option Tmp × Sp)} (hp : Picks done rs ps)
    (hy : ∀ w, lexVals w ps a0 fun a => a.tmps[g]? = some (.bool b))
    (hs : ∀ w, Ext w0 w → lexVals w ps a0 fun a => lexUpon P w (.ex e) ((execOp a.eval o).run P w))
    (h : lexGo P ops a0 w0 F (i + 1) (.ex e :: done) rest) : lexGo P ops a0 w0 F i done (o :: rest) :=
  lex_next (s := .ex _) rs hr trivial hp (fun w hw => by
    have h1 := lexVals_and ps a0 _ _ (hy w) (hs w hw)
    refine lexVals_mono ps a0 _ _ (fun a ⟨hya, hsa⟩ => ?_) h1
    have hwt : Region.wanted o (yielded ops.toArray a.tmps) = true := by
      simp [Region.wanted, hg, yielded, hj, hya]
    rw [if_pos hwt]
    exact hsa) h
where
  lexVals_and {w : World} : ∀ (ps : List (Option Tmp × Sp)) (a : Act) (K K' : Act → Prop), lexVals w ps a K → lexVals w ps a K' → lexVals w ps a fun a => K a ∧ K' a
  | [], _, _, _, h, h' => ⟨h, h'⟩
  | (_, .ex _) :: r, _, K, K', h, h' => lexVals_and r _ K K' h h'
  | (_, .ab _) :: r, _, K, K', h, h' => fun v hv => lexVals_and r _ K K' (h v hv) (h' v hv)

theorem lex_ga (f : Value → World → Prop) (rs : List (Nat × Tmp)) (hr : relOkR ops i rs = true) {j : Nat} {b : Bool} (hg : o.guard = some (j, b)) {g : Tmp} (hj : (ops[j]?).bind (·.dst) = some g)
    (hm : ∀ v w w', Ext w w' → f v w → f v w') {ps : List (Option Tmp × Sp)} (hp : Picks done rs ps)
    (hy : ∀ w, lexVals w ps a0 fun a => a.tmps[g]? = some (.bool b))
    (hs : ∀ w, Ext w0 w → lexVals w ps a0 fun a => lexUpon P w (.ab f) ((execOp a.eval o).run P w))
    (h : lexGo P ops a0 w0 F (i + 1) (.ab f :: done) rest) : lexGo P ops a0 w0 F i done (o :: rest) :=
  lex_next (s := .ab f) rs hr hm hp (fun w hw => by
    have h1 := lex_ge.lexVals_and ps a0 _ _ (hy w) (hs w hw)
    refine lexVals_mono ps a0 _ _ (fun a ⟨hya, hsa⟩ => ?_) h1
    have hwt : Region.wanted o (yielded ops.toArray a.tmps) = true := by
      simp [Region.wanted, hg, yielded, hj, hya]
    rw [if_pos hwt]
    exact hsa) h

/-- A guarded operation whose guard says no: it is passed over. -/
theorem lex_no (rs : List (Nat × Tmp)) (hr : relOkR ops i rs = true) {j : Nat} {b : Bool} (hg : o.guard = some (j, b)) {g : Tmp} (hj : (ops[j]?).bind (·.dst) = some g) {ps : List (Option Tmp × Sp)} (hp : Picks done rs ps)
    (hy : ∀ w, lexVals w ps a0 fun a => a.tmps[g]? ≠ some (.bool b))
    (h : lexGo P ops a0 w0 F (i + 1) (.ex undef :: done) rest) : lexGo P ops a0 w0 F i done (o :: rest) :=
  lex_next (s := .ex _) rs hr trivial hp (fun w _ => by
    refine lexVals_mono ps a0 _ _ (fun a hya => ?_) (hy w)
    have hwt : Region.wanted o (yielded ops.toArray a.tmps) = false := by
      simp only [Region.wanted, hg, yielded]
      have hj' : (ops.toArray[j]?).bind (·.dst) = some g := by simpa using hj
      rw [hj', Option.bind_some]
      cases ht : a.tmps[g]? with
      | none => rfl
      | some v =>
        cases v <;> first | rfl | skip
        rename_i c
        simp only [beq_eq_false_iff_ne, ne_eq, Option.some.injEq]
        intro e
        subst e
        exact hya ht
    rw [hwt]
    simp only [Bool.false_eq_true, if_false]
    rfl) h
end

/-- All of a region's operations in whatever order. -/
theorem wp_region_lexA {P : Program} {id : Nat} {ops : List Oper} {Q : Exit → Act → World → Prop} {a0 : Act} {w : World} (hm : P.follows .mixedOrders = true) (hB : lexB ops ops.length a0.tmps.size = true)
    (h : lexGo P ops a0 w.drew (fun done => ∀ w', Ext w.drew w' → lexVals w' (lexPick ops done (List.range ops.length)) a0 fun a => Q .normal a w') 0 [] ops) : (Code.region id ops.toArray true).wp P Q a0 w :=
  wp_region_lexC ops.length hm hB Ext.refl (Ext.refl w.drew) (by
    rw [List.take_length]
    have h0 := lex_start h
    refine (?_ : ∀ (l : List Oper) (d : List Sp), lexGoal P (Ext w.drew) Ext ops a0 _ d l → lexGoal P (Ext w.drew) Ext ops a0 (lexFinal P (Ext w.drew) ops Q a0 ops.length) d l) ops [] h0
    intro l
    induction l with
    | nil =>
      intro d hd w' hw'
      refine lexVals_mono _ _ _ _ (fun a ha => ?_) (hd w' hw')
      rw [List.drop_length]
      exact ha
    | cons o l ih =>
      intro d ⟨s, rs, h1, h2, h3, h4⟩
      exact ⟨s, rs, h1, h2, h3, ih _ h4⟩)

/-- The first 'n' in whatever order, the others behind them. -/
theorem wp_region_lexT {P : Program} {id : Nat} {ops : List Oper} {Q : Exit → Act → World → Prop} {a0 : Act} {w : World} (n : Nat) (hm : P.follows .mixedOrders = true) (hB : lexB ops n a0.tmps.size = true)
    (h : lexGo P ops a0 w.drew (fun done => ∀ w', Ext w.drew w' → lexVals w' (lexPick ops done (List.range n)) a0 fun a => wpList P ops.toArray Q (ops.drop n) a w') 0 [] (ops.take n)) : (Code.region id ops.toArray true).wp P Q a0 w :=
  wp_region_lexC n hm hB Ext.refl (Ext.refl w.drew) (lex_start h)

/-- The operations ahead that write what number 'i' looks at. -/
def autoRs (ops : List Oper) (i : Nat) : List Nat :=
  match ops[i]? with
  | some o => (List.range i).filter fun j => (o.looksAt ops.toArray).any fun t => ((ops[j]?).bind (·.dst)) == some t
  | none => []

def autoB (ops : List Oper) (n : Nat) : Bool := (List.range n).all fun i => relOk ops i (autoRs ops i)

def exOf (done : List Sp) (j : Nat) : Value :=
  match done[j]? with
  | some (Sp.ex e) => e
  | _ => undef

theorem exOf_eq {done : List Sp} {j : Nat} {e : Value} (h : done[j]? = some (.ex e)) : exOf done j = e := by unfold exOf; rw [h]

/-- **Quiet operations in whatever order, the others behind them one by one.** -/
theorem wp_region_quietT {P : Program} {id : Nat} {ops : List Oper} {Q : Exit → Act → World → Prop} {a0 : Act} {w : World} (n : Nat) (hm : P.follows .mixedOrders = true) (hB : (lexB ops n a0.tmps.size && autoB ops n) = true)
    (h : wpQuiet P ops.toArray (fun w' => ∃ n, w' = w.drewN n) (fun a' => ∀ w', (∃ n, w' = w.drewN n) → wpList P ops.toArray Q (ops.drop n) a' w') (ops.take n) a0) : (Code.region id ops.toArray true).wp P Q a0 w := by
  rw [Bool.and_eq_true] at hB
  obtain ⟨hB, hA⟩ := hB
  have hB' := hB
  simp only [lexB, Bool.and_eq_true, decide_eq_true_eq] at hB'
  obtain ⟨⟨⟨⟨hsel, hnl⟩, _⟩, _⟩, _⟩ := hB'
  refine wp_region_lexC (C := fun w' => ∃ n, w' = w.drewN n) (E := fun _ _ => True) n hm hB (fun _ => trivial) ⟨1, rfl⟩ ?_
  -- the frame behind the operations 'done'
  have key : ∀ (l : List Oper) (done : List Sp) (a : Act), (∀ j, j < l.length → l[j]? = ops[done.length + j]?) → done.length + l.length = n →
      (∀ w, lexVals w (lexPick ops done (List.range done.length)) a0 fun a' => a' = a) → (∀ s ∈ done, ∃ e, s = .ex e) →
      wpQuiet P ops.toArray (fun w' => ∃ n, w' = w.drewN n) (fun a' => ∀ w', (∃ n, w' = w.drewN n) → wpList P ops.toArray Q (ops.drop n) a' w') l a →
      lexGoal P (fun w' => ∃ n, w' = w.drewN n) (fun _ _ => True) ops a0 (lexFinal P (fun w' => ∃ n, w' = w.drewN n) ops Q a0 n) done l := by
    intro l
    induction l with
    | nil =>
      intro done a _ hlen hv _ hq
      simp only [List.length_nil, Nat.add_zero] at hlen
      intro w' hw'
      rw [← hlen]
      refine lexVals_mono _ _ _ _ (fun a' ha' => ?_) (hv w')
      subst ha'
      rw [hlen]
      exact hq w' hw'
    | cons o rest ih =>
      intro done a hl hlen hv hex hq
      have ho : ops[done.length]? = some o := by simpa using (hl 0 (by simp)).symm
      have hin : done.length < n := by simp only [List.length_cons] at hlen; omega
      have hr : relOk ops done.length (autoRs ops done.length) = true := List.all_eq_true.1 hA _ (List.mem_range.2 hin)
      -- the frame into which only what is looked at is laid, is one with the whole frame to the operation
      have hsame : ∀ (w : World) (K : Act → Prop), (∀ b : Act, (∀ t ∈ o.looksAt ops.toArray, b.tmps[t]? = a.tmps[t]?) → K b) → lexVals w (lexPick ops done (autoRs ops done.length)) a0 K := by
        intro w K hK
        have hput : ∀ (rs : List Nat) (b : Act) (K : Act → Prop), (∀ r ∈ rs, r < done.length) → (lexVals w (lexPick ops done rs) b K ↔ K (rs.foldl (fun b j => b.put ((ops[j]?).bind (·.dst)) (exOf done j)) b)) := by
          intro rs
          induction rs with
          | nil => intro b K _; exact Iff.rfl
          | cons r rs ih2 =>
            intro b K hrs
            have hrl := hrs r (List.mem_cons_self ..)
            obtain ⟨e, he⟩ := hex done[r] (List.getElem_mem hrl)
            have hdr : done[r]? = some (.ex e) := by rw [List.getElem?_eq_getElem hrl, he]
            have : lexPick ops done (r :: rs) = ((ops[r]?).bind (·.dst), Sp.ex e) :: lexPick ops done rs := by
              unfold lexPick; rw [List.map_cons, hdr]; rfl
            rw [this]
            rw [List.foldl_cons, exOf_eq hdr]
            simp only [lexVals]
            exact ih2 _ K fun r' hr' => hrs r' (List.mem_cons_of_mem _ hr')
        have hlt : ∀ r ∈ autoRs ops done.length, r < done.length := by
          intro r hr'
          unfold autoRs at hr'
          rw [ho] at hr'
          exact List.mem_range.1 (List.mem_filter.1 hr').1
        rw [hput _ _ _ hlt]
        refine hK _ fun t ht => ?_
        have hall := (hput (List.range done.length) a0 (fun a' => a' = a) fun r hr' => List.mem_range.1 hr').1 (hv w)
        rw [← hall]
        unfold autoRs
        rw [ho]
        simp only
        generalize List.range done.length = rs
        -- puts that do not write t change nothing at t
        have hp : ∀ (rs : List Nat) (b b' : Act), b.tmps.size = b'.tmps.size → b.tmps[t]? = b'.tmps[t]? →
            ((rs.filter fun j => (o.looksAt ops.toArray).any fun t => ((ops[j]?).bind (·.dst)) == some t).foldl (fun b j => b.put ((ops[j]?).bind (·.dst)) (exOf done j)) b).tmps[t]? =
            (rs.foldl (fun b j => b.put ((ops[j]?).bind (·.dst)) (exOf done j)) b').tmps[t]? := by
          intro rs
          induction rs with
          | nil => intro b b' _ hb; exact hb
          | cons r rs ih2 =>
            intro b b' hsz hb
            rw [List.filter_cons]
            by_cases hany : ((o.looksAt ops.toArray).any fun t => ((ops[r]?).bind (·.dst)) == some t) = true
            · rw [if_pos hany, List.foldl_cons, List.foldl_cons]
              refine ih2 _ _ ?_ ?_
              · cases (ops[r]?).bind (·.dst) <;> simp [Act.put, hsz]
              · cases hd : (ops[r]?).bind (·.dst) with
                | none => exact hb
                | some d =>
                  by_cases hdt : d = t
                  · subst hdt
                    simp only [Act.put, Array.getElem?_setIfInBounds, hsz, hb]
                  · rw [put_get_ne _ d t _ hdt, put_get_ne _ d t _ hdt]; exact hb
            · rw [if_neg hany, List.foldl_cons]
              refine ih2 _ _ ?_ ?_
              · cases (ops[r]?).bind (·.dst) <;> simp [Act.put, hsz]
              · cases hd : (ops[r]?).bind (·.dst) with
                | none => exact hb
                | some d =>
                  have hdt : d ≠ t := by
                    intro e
                    subst e
                    refine hany (List.any_eq_true.2 ⟨d, ht, ?_⟩)
                    rw [hd]; simp
                  rw [put_get_ne _ d t _ hdt]; exact hb
        exact hp rs a0 a0 rfl rfl
      have hnew : ∀ (e : Value) (w : World), lexVals w (lexPick ops (done ++ [.ex e]) (List.range (done.length + 1))) a0 fun a' => a' = a.put o.dst e := by
        intro e w
        have h1 : lexPick ops (done ++ [.ex e]) (List.range (done.length + 1)) = lexPick ops done (List.range done.length) ++ [(o.dst, .ex e)] := by
          unfold lexPick
          rw [List.range_succ, List.map_append]
          congr 1
          · refine List.map_congr_left fun j hj => ?_
            rw [List.getElem?_append_left (List.mem_range.1 hj)]
          · simp [ho]
        rw [h1]
        have happ : ∀ (ps : List (Option Tmp × Sp)) (b : Act) (K : Act → Prop), lexVals w ps b (fun a' => K (a'.put o.dst e)) → lexVals w (ps ++ [(o.dst, .ex e)]) b K := by
          intro ps
          induction ps with
          | nil => intro b K h; exact h
          | cons p ps ih2 =>
            intro b K h
            obtain ⟨d, s⟩ := p
            cases s with
            | ex e' => exact ih2 _ K h
            | ab f => exact fun v hv => ih2 _ K (h v hv)
        exact happ _ _ _ (lexVals_mono _ _ _ _ (fun a' ha' => by rw [ha']) (hv w))
      have hl' : ∀ (e : Value) (j : Nat), j < rest.length → rest[j]? = ops[(done ++ [Sp.ex e]).length + j]? := fun e j hj => by
        have := hl (j + 1) (by simp; omega)
        simp only [List.getElem?_cons_succ] at this
        rw [this]
        congr 1
        simp
        omega
      have hex' : ∀ (e : Value), ∀ s ∈ done ++ [Sp.ex e], ∃ e, s = .ex e := fun e s hs => by
        rcases List.mem_append.1 hs with hs | hs
        · exact hex s hs
        · exact ⟨e, by simpa using hs⟩
      have hlen' : ∀ e : Value, (done ++ [Sp.ex e]).length + rest.length = n := fun e => by simp only [List.length_cons] at hlen; simp; omega
      have hv' : ∀ (e : Value) (w : World), lexVals w (lexPick ops (done ++ [.ex e]) (List.range (done ++ [Sp.ex e]).length)) a0 fun a' => a' = a.put o.dst e := fun e w => by
        have := hnew e w
        rwa [show (done ++ [Sp.ex e]).length = done.length + 1 by simp]
      unfold wpQuiet at hq
      by_cases hw : Region.wanted o (yielded ops.toArray a.tmps) = true
      · rw [if_pos hw] at hq
        obtain ⟨v, h1, h2⟩ := hq
        refine ⟨.ex v, autoRs ops done.length, hr, trivial, ?_, ih _ _ (hl' v) (hlen' v) (hv' v) (hex' v) h2⟩
        intro w' hw'
        refine hsame w' _ fun b hb => ?_
        rw [wanted_congr ops.toArray o _ _ hb, execOp_looks ops.toArray o b a (fun cs c => Region.noSelect_spec hsel done.length o cs c (by simpa using ho)) hb, if_pos hw]
        have h3 := h1 w' hw'
        unfold Oper.quietAt at h3
        generalize (execOp a.eval o).run P w' = r at h3 ⊢
        cases r with
        | ok x w1 =>
          cases x <;> simp only [Oper.quietUpon] at h3 <;> simp only [lexUponC]
          case value u =>
            obtain ⟨e1, e2⟩ := h3
            subst e1; subst e2
            exact ⟨hw', trivial, rfl⟩
          case skip =>
            obtain ⟨e1, e2⟩ := h3
            subst e1; subst e2
            exact ⟨hw', trivial, rfl⟩
          case enter f args =>
            obtain ⟨e1, hc⟩ := h3
            subst e1
            exact hc.mono fun e w'' ⟨he, hx⟩ => ⟨v, he, hx, trivial, rfl⟩
        | halt x w1 => simp only [Oper.quietUpon] at h3
      · rw [if_neg hw] at hq
        refine ⟨.ex undef, autoRs ops done.length, hr, trivial, ?_, ih _ _ (hl' undef) (hlen' undef) (hv' undef) (hex' undef) hq⟩
        intro w' hw'
        refine hsame w' _ fun b hb => ?_
        rw [wanted_congr ops.toArray o _ _ hb, if_neg hw]
        rfl
  exact key (ops.take n) [] a0 (fun j hj => by
    have hj' : j < n := by simp only [List.length_take] at hj; omega
    rw [List.getElem?_take, if_pos hj']
    simp) (by simp; omega) (fun w => rfl) (fun s hs => by cases hs) h

end Go.Proofs.YtihlpfdhallfpaaDoor
