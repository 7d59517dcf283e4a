/-
  A region that draws its order, one of whose operations writes to what is neither old nor new: the same as in Lex, what holds being told ahead of that operation and behind it. No conditions.
  The same as LexP, but what holds of the writing operation's value need stay true only behind that operation. No conditions.
-/
import Derived.Test.YtihlpfdhallfpaaDoorLu
namespace Go.Proofs.YtihlpfdhallfpaaDoor
open Go.RowKit

theorem LexInv.mapC {C C' : World → Prop} {ops : List Oper} {n : Nat} {all : List Sp} {a0 : Act} {listed : Array Bool} {a : Act} {w : World} (h : LexInv C ops n all a0 listed a w) (hC : C' w) : LexInv C' ops n all a0 listed a w :=
  ⟨hC, h.defers, h.size, h.done, h.skip, h.old⟩

def lexStepP (P : Program) (C : Bool → World → Prop) (E : World → World → Prop) (ops : List Oper) (a0 : Act) (done : List Sp) (m i : Nat) (o : Oper) (s : Sp) (rs : List Nat) : Prop :=
  (i = m → ∀ w, C false w → lexVals w (lexPick ops done rs) a0 fun a => Region.wanted o (yielded ops.toArray a.tmps) = true ∧ lexUponC P (C true) E w s ((execOp a.eval o).run P w)) ∧
  (i ≠ m → ∀ ph w, C ph w → lexVals w (lexPick ops done rs) a0 fun a =>
    if Region.wanted o (yielded ops.toArray a.tmps) then lexUponC P (C ph) E w s ((execOp a.eval o).run P w) else s.holds undef w)

def lexGoalP (P : Program) (C : Bool → World → Prop) (E : World → World → Prop) (m : Nat) (ops : List Oper) (a0 : Act) (F : List Sp → Prop) : List Sp → List Oper → Prop
  | done, [] => F done
  | done, o :: rest => ∃ s rs, relOk ops done.length rs = true ∧ s.mono E ∧ lexStepP P C E ops a0 done m done.length o s rs ∧ lexGoalP P C E m ops a0 F (done ++ [s]) rest

theorem lexGoalP_all {P : Program} {C : Bool → World → Prop} {E : World → World → Prop} {m : Nat} {ops : List Oper} {a0 : Act} {F : List Sp → Prop} : ∀ (todo : List Oper) (done : List Sp), lexGoalP P C E m ops a0 F done todo →
    ∃ all : List Sp, all.length = done.length + todo.length ∧ (∀ j, j < done.length → all[j]? = done[j]?) ∧ F all ∧
      ∀ k o, todo[k]? = some o → ∃ s rs, all[done.length + k]? = some s ∧ relOk ops (done.length + k) rs = true ∧ s.mono E ∧ lexStepP P C E ops a0 all m (done.length + k) o s rs
  | [], done, h => ⟨done, rfl, fun _ _ => rfl, h, fun k o hk => by simp at hk⟩
  | o :: rest, done, h => by
    obtain ⟨s, rs, hr, hm, hs, h'⟩ := h
    obtain ⟨all, hl, hd, hF, hk⟩ := lexGoalP_all rest (done ++ [s]) h'
    have hlt : ∀ r ∈ rs, r < done.length := by
      intro r hr'
      unfold relOk at hr
      rw [Bool.and_eq_true, List.all_eq_true] at hr
      have := hr.1 r hr'
      simp only [Bool.and_eq_true, decide_eq_true_eq] at this
      exact this.1
    refine ⟨all, by simp at hl ⊢; omega, fun j hj => ?_, hF, fun k o' hk' => ?_⟩
    · rw [hd j (by simp; omega), List.getElem?_append_left hj]
    · cases k with
      | zero =>
        simp only [List.getElem?_cons_zero, Option.some.injEq] at hk'
        subst hk'
        refine ⟨s, rs, ?_, hr, hm, ?_⟩
        · rw [Nat.add_zero, hd done.length (by simp)]; simp
        · have hpick : lexPick ops all rs = lexPick ops done rs := by
            unfold lexPick
            refine List.map_congr_left fun j hj => ?_
            rw [hd j (by have := hlt j hj; simp; omega), List.getElem?_append_left (hlt j hj)]
          unfold lexStepP at hs ⊢
          rw [hpick]
          exact hs
      | succ k =>
        simp only [List.getElem?_cons_succ] at hk'
        obtain ⟨s', rs', h1, h2, h3, h4⟩ := hk k o' hk'
        have hlen : (done ++ [s]).length + k = done.length + (k + 1) := by simp; omega
        rw [hlen] at h1 h2 h4
        exact ⟨s', rs', h1, h2, h3, h4⟩

theorem lex_runP {P : Program} {C : Bool → World → Prop} {E : World → World → Prop} {ops : List Oper} {n m : Nat} {all : List Sp} {a0 : Act} {Q : Exit → Act → World → Prop} (hE : ∀ w, E w w) (hmn : m < n) (hall : all.length = n) (hnl : n ≤ ops.length)
    (hsel : Region.noSelect ops.toArray = true) (htail : n = ops.length ∨ (n < ops.length ∧ Region.sinkB .any ops.toArray n = true ∧ Region.chainB .any ops.toArray n = true))
    (hseq : Region.seqB .any ops.toArray (ops.length - n) n (headListed ops.length n) = true) (hdst : dstOk ops n a0.tmps.size = true)
    (hk : ∀ k o, k < n → ops[k]? = some o → ∃ s rs, all[k]? = some s ∧ relOk ops k rs = true ∧ s.mono E ∧ lexStepP P C E ops a0 all m k o s rs)
    (hF : lexFinal P (C true) ops Q a0 n all) :
    ∀ (f : Nat) (listed : Array Bool) (a : Act) (w : World), HeadInv .any ops.toArray n listed → LexInv (C (listed.getD m false)) ops n all a0 listed a w → unl n listed = f →
      wpAny P .any ops.toArray Q (f + (ops.length - n)) listed a w := by
  have hmono : ∀ (j : Nat) (s : Sp), all[j]? = some s → s.mono E := fun j s hj => by
    have hjn : j < n := by rw [← hall]; exact (List.getElem?_eq_some_iff.1 hj).1
    obtain ⟨s', rs, h1, _, h3, _⟩ := hk j _ hjn (List.getElem?_eq_getElem (show j < ops.length by omega))
    have : s' = s := Option.some.inj (h1.symm.trans hj)
    subst this
    exact h3
  intro f
  induction f with
  | zero =>
    intro listed a w inv L hu
    have hl : ∀ j, j < n → listed.getD j true = true := fun j hj => by
      unfold unl at hu
      have := List.length_eq_zero_iff.1 hu
      have h1 := List.filter_eq_nil_iff.1 this j (List.mem_range.2 hj)
      simpa using h1
    have heq : listed = headListed ops.length n := by
      refine Array.ext (by rw [inv.size]; simp [headListed]) fun j h1 h2 => ?_
      have hjo : j < ops.length := by rw [inv.size] at h1; simpa using h1
      by_cases hj : j < n
      · have := hl j hj
        simp [h1] at this
        simp [headListed, hj, this]
      · have := inv.tail j (by omega) (by simpa using hjo)
        simp [h1] at this
        simp [headListed, hj, this]
    subst heq
    rw [Nat.zero_add]
    have hlen : (ops.drop n).length = ops.length - n := by simp
    rw [← hlen]
    refine wpAny_of_seq (ops.drop n) n _ a w (fun j => by simp) (by rw [hlen]; exact hseq) ?_
    have h1 := lexVals_at (A := a) (lexPick ops all (List.range n)) a0 _ (fun p hp => by
      unfold lexPick at hp
      obtain ⟨j, hj, rfl⟩ := List.mem_map.1 hp
      have hjn := List.mem_range.1 hj
      have hoj : ops[j]? = some ops[j] := List.getElem?_eq_getElem (by omega)
      have haj : all[j]? = some all[j] := List.getElem?_eq_getElem (by omega)
      rw [hoj, haj]
      simp only [Option.bind_some, Option.getD_some]
      cases hd : ops[j].dst with
      | some d =>
        left
        refine ⟨d, rfl, L.done j _ d _ hjn hoj hd ?_ haj (hl j hjn)⟩
        unfold dstOk at hdst
        have := List.all_eq_true.1 hdst j (List.mem_range.2 hjn)
        rw [hoj] at this
        simp only [hd, Bool.and_eq_true, decide_eq_true_eq] at this
        exact this.1.1
      | none => right; exact ⟨rfl, L.skip j _ _ hjn hoj hd haj (hl j hjn)⟩) (hF w (by
        have h2 := L.ext
        rw [← getD_tf (show m < (headListed ops.length n).size by simp [headListed]; omega), hl m hmn] at h2
        exact h2))
    have ha : putAll a (lexPick ops all (List.range n)) a0 = a := by
      have htm : (putAll a (lexPick ops all (List.range n)) a0).tmps = a.tmps := by
        refine Array.ext (by rw [putAll_size, L.size]) fun t h1 h2 => ?_
        have : (putAll a (lexPick ops all (List.range n)) a0).tmps[t]? = a.tmps[t]? := by
          by_cases hex : ∃ p ∈ lexPick ops all (List.range n), p.1 = some t
          · exact putAll_in a t _ a0 L.size hex
          · rw [putAll_out a t _ a0 fun p hp e => hex ⟨p, hp, e⟩]
            refine (L.old t fun j oj hj hoj hd => ?_).symm
            exfalso
            refine hex ⟨(some t, (all[j]?).getD (.ex undef)), ?_, rfl⟩
            unfold lexPick
            exact List.mem_map.2 ⟨j, List.mem_range.2 hj, by rw [hoj]; simp [hd]⟩
        rw [Array.getElem?_eq_getElem h1, Array.getElem?_eq_getElem h2] at this
        exact Option.some.inj this
      have hdf : (putAll a (lexPick ops all (List.range n)) a0).defers = a.defers := by rw [putAll_defers, L.defers]
      cases hA : putAll a (lexPick ops all (List.range n)) a0 with
      | mk t d =>
        rw [hA] at htm hdf
        simp only at htm hdf
        subst htm; subst hdf
        rfl
    rw [ha] at h1
    exact h1
  | succ f ih =>
    intro listed a w inv L hu
    have hex : ∃ j, j < n ∧ listed.getD j true = false := by
      unfold unl at hu
      cases hf : (List.range n).filter fun j => !listed.getD j true with
      | nil => rw [hf] at hu; simp at hu
      | cons j l =>
        have : j ∈ (List.range n).filter fun j => !listed.getD j true := by rw [hf]; exact List.mem_cons_self ..
        obtain ⟨h1, h2⟩ := List.mem_filter.1 this
        exact ⟨j, List.mem_range.1 h1, by simpa using h2⟩
    obtain ⟨j0, hj0, hun0⟩ := hex
    obtain ⟨r0, hr0⟩ := some_ready inv hnl hdst j0 hj0 hun0
    rw [show f + 1 + (ops.length - n) = (f + (ops.length - n)) + 1 by omega]
    refine ⟨fun h => (by rw [h] at hr0; cases hr0), fun i hi => ?_⟩
    obtain ⟨hiun, o, ho, _⟩ := mem_ready.1 hi
    have ho' : ops[i]? = some o := by simpa using ho
    have hio : i < ops.length := (List.getElem?_eq_some_iff.1 ho').1
    have hin : i < n := by
      rcases Nat.lt_or_ge i n with h | h
      · exact h
      · rcases htail with rfl | ⟨hn, hs, hc⟩
        · omega
        · exact absurd hi (tail_waits hs hc (by simpa using hn) inv _ j0 rfl hj0 hun0 i h)
    obtain ⟨s, rs, hs, hr, hm, hstep⟩ := hk i o hin ho'
    have hlook := same_looks inv L hi hin hnl ho' hr
    have his : i < listed.size := by rw [inv.size]; simp; omega
    have hms : m < listed.size := by rw [inv.size]; simp; omega
    have hnext : ∀ (u : Value) (w' : World), C ((listed.setIfInBounds i true).getD m false) w' → E w w' → s.holds u w' → wpAny P .any ops.toArray Q (f + (ops.length - n)) (listed.setIfInBounds i true) (a.put o.dst u) w' := fun u w' hC he hu' =>
      ih _ _ _ (inv.set hi hin) ((lexInv_set (C := fun _ => True) inv (L.mapC trivial) hin hnl hmono hdst ho' hs trivial he hu').mapC hC) (by have := unl_set hin his hiun; omega)
    unfold wpOp
    rw [ho]
    simp only
    by_cases him : i = m
    · subst him
      have hCt : (listed.setIfInBounds i true).getD i false = true := by simp [his]
      have hCf : listed.getD i false = false := getD_both hiun
      rw [hCt] at hnext
      have hL := L.ext
      rw [hCf] at hL
      have hat := lexVals_at (A := a) _ a0 _ (picks_hold inv L hi hin hnl hall hr hdst) (hstep.1 rfl w hL)
      rw [wanted_congr ops.toArray o _ _ hlook, execOp_looks ops.toArray o _ a (fun cs c => Region.noSelect_spec hsel i o cs c ho) hlook] at hat
      obtain ⟨hw, hat⟩ := hat
      rw [if_pos hw]
      left
      unfold Oper.wp
      generalize (execOp a.eval o).run P w = r at hat ⊢
      cases r with
      | ok x w' =>
        cases x <;> simp only [lexUponC] at hat <;> simp only [Oper.upon]
        case value u => exact hnext u w' hat.1 hat.2.1 hat.2.2
        case skip => exact hnext undef w' hat.1 hat.2.1 hat.2.2
        case enter g args =>
          exact hat.mono fun e w'' ⟨v, he, hC, hx, hv⟩ => by subst he; exact hnext v w'' hC hx hv
      | halt x w' => simp only [lexUponC] at hat
    · have hCm : (listed.setIfInBounds i true).getD m false = listed.getD m false := by
        rw [← getD_tf (by simpa using hms), getD_set_ne true him, getD_tf hms]
      rw [hCm] at hnext
      have hat := lexVals_at (A := a) _ a0 _ (picks_hold inv L hi hin hnl hall hr hdst) (hstep.2 him _ w L.ext)
      rw [wanted_congr ops.toArray o _ _ hlook, execOp_looks ops.toArray o _ a (fun cs c => Region.noSelect_spec hsel i o cs c ho) hlook] at hat
      by_cases hw : Region.wanted o (yielded ops.toArray a.tmps) = true
      · rw [if_pos hw] at hat ⊢
        left
        unfold Oper.wp
        generalize (execOp a.eval o).run P w = r at hat ⊢
        cases r with
        | ok x w' =>
          cases x <;> simp only [lexUponC] at hat <;> simp only [Oper.upon]
          case value u => exact hnext u w' hat.1 hat.2.1 hat.2.2
          case skip => exact hnext undef w' hat.1 hat.2.1 hat.2.2
          case enter g args =>
            exact hat.mono fun e w'' ⟨v, he, hC, hx, hv⟩ => by subst he; exact hnext v w'' hC hx hv
        | halt x w' => simp only [lexUponC] at hat
      · rw [if_neg hw] at hat ⊢
        exact hnext undef w L.ext (hE w) hat

/-- **A region that draws its order**, number 'm' of which turns what holds. -/
theorem wp_region_lexP {P : Program} {C : Bool → World → Prop} {E : World → World → Prop} {id : Nat} {ops : List Oper} {Q : Exit → Act → World → Prop} {a0 : Act} {w : World} (n m : Nat) (hmn : m < n) (hm : P.follows .mixedOrders = true) (hB : lexB ops n a0.tmps.size = true)
    (hE : ∀ w, E w w) (hC : C false w.drew) (h : lexGoalP P C E m ops a0 (lexFinal P (C true) ops Q a0 n) [] (ops.take n)) : (Code.region id ops.toArray true).wp P Q a0 w := by
  simp only [lexB, Bool.and_eq_true, Bool.or_eq_true, decide_eq_true_eq, beq_iff_eq] at hB
  obtain ⟨⟨⟨⟨hsel, hnl⟩, htail⟩, hseq⟩, hdst⟩ := hB
  have htail' : n = ops.length ∨ (n < ops.length ∧ Region.sinkB .any ops.toArray n = true ∧ Region.chainB .any ops.toArray n = true) := by
    rcases htail with h | h
    · exact Or.inl h
    · exact Or.inr ⟨h.1.1, h.1.2, h.2⟩
  obtain ⟨all, hl, _, hF, hk⟩ := lexGoalP_all _ _ h
  have hall : all.length = n := by simp at hl; omega
  refine wp_region_any hm ?_
  have inv0 : HeadInv .any ops.toArray n (Array.replicate ops.toArray.size false) :=
    ⟨by simp, fun j oj _ hl => (by rw [getD_replicate_false] at hl; cases hl), fun t _ ht => getD_in (by simpa using ht) (getD_replicate_false _ _)⟩
  have hfalse : ∀ j, j < n → (Array.replicate ops.toArray.size false).getD j true = false := fun j hj => getD_in (by simp; omega) (getD_replicate_false _ _)
  have L0 : LexInv (C ((Array.replicate ops.toArray.size false).getD m false)) ops n all a0 (Array.replicate ops.toArray.size false) a0 w.drew :=
    ⟨by rw [getD_replicate_false]; exact hC, rfl, rfl, fun j o d s hj _ _ _ _ hl => (by rw [hfalse j hj] at hl; cases hl), fun j o s hj _ _ _ hl => (by rw [hfalse j hj] at hl; cases hl), fun _ _ => rfl⟩
  have hu : unl n (Array.replicate ops.toArray.size false) = n := by
    unfold unl
    rw [List.filter_eq_self.2 fun j hj => by rw [hfalse j (List.mem_range.1 hj)]; rfl]
    simp
  have := lex_runP (Q := Q) hE hmn hall hnl hsel htail' hseq hdst (fun k o hkn hko => by
    have h1 : (ops.take n)[k]? = some o := by rw [List.getElem?_take, if_pos hkn]; exact hko
    obtain ⟨s, rs, h2, h3, h4, h5⟩ := hk k o h1
    simp only [List.length_nil, Nat.zero_add] at h2 h3 h5
    exact ⟨s, rs, h2, h3, h4, h5⟩) hF n _ a0 w.drew inv0 L0 hu
  have hfuel : n + (ops.length - n) = ops.toArray.size := by simp; omega
  rw [hfuel] at this
  exact this


def lexGoP (P : Program) (C : Bool → World → Prop) (E : World → World → Prop) (m : Nat) (ops : List Oper) (a0 : Act) (F : List Sp → Prop) : Nat → List Sp → List Oper → Prop
  | i, done, l => i = done.length → lexGoalP P C E m ops a0 F done.reverse l

section
variable {P : Program} {C : Bool → World → Prop} {E : World → World → Prop} {m : Nat} {ops : List Oper} {a0 : Act} {F : List Sp → Prop} {i : Nat} {done : List Sp} {o : Oper} {rest : List Oper}

/-- An operation that only makes memory grow (unguarded). -/
theorem lp_s (s : Sp) (rs : List (Nat × Tmp)) (him : i ≠ m) (hr : relOkR ops i rs = true) (hg : o.guard = none) (hk : (rs.all fun p => decide (p.1 < done.length)) = true) (hm : s.mono E)
    (hst : ∀ ph w w', C ph w → Ext w w' → C ph w' ∧ E w w') (hs : ∀ ph w, C ph w → lexVals w (pk done rs) a0 fun a => lexUpon P w s ((execOp a.eval o).run P w))
    (h : lexGoP P C E m ops a0 F (i + 1) (s :: done) rest) : lexGoP P C E m ops a0 F i done (o :: rest) := fun hi => by
  subst hi
  unfold relOkR at hr
  rw [Bool.and_eq_true] at hr
  have hp := picks_of done rs hk
  have hwt : ∀ y, Region.wanted o y = true := fun y => by simp [Region.wanted, hg]
  refine ⟨s, rs.map fun p => done.length - 1 - p.1, by rw [List.length_reverse]; exact hr.1, hm, ⟨fun e => absurd (by rw [← e, List.length_reverse]) him, fun _ ph w hw => ?_⟩, ?_⟩
  · rw [picks_eq hp hr.2]
    refine lexVals_mono _ a0 _ _ (fun a ha => ?_) (hs ph w hw)
    rw [if_pos (hwt _)]
    generalize (execOp a.eval o).run P w = r at ha ⊢
    cases r with
    | ok x w' =>
      cases x <;> simp only [lexUpon] at ha <;> simp only [lexUponC]
      case value u => exact ⟨(hst ph w w' hw ha.1).1, (hst ph w w' hw ha.1).2, ha.2⟩
      case skip => exact ⟨(hst ph w w' hw ha.1).1, (hst ph w w' hw ha.1).2, ha.2⟩
      case enter f args => exact ha.mono fun e w'' ⟨v, he, hx, hv⟩ => ⟨v, he, (hst ph w w'' hw hx).1, (hst ph w w'' hw hx).2, hv⟩
    | halt x w' => simp only [lexUpon] at ha
  · have := h rfl
    rwa [List.reverse_cons] at this

/-- The operation that turns what holds. -/
theorem lp_m (s : Sp) (rs : List (Nat × Tmp)) (him : i = m) (hr : relOkR ops i rs = true) (hg : o.guard = none) (hk : (rs.all fun p => decide (p.1 < done.length)) = true) (hm : s.mono E)
    (hs : ∀ w, C false w → lexVals w (pk done rs) a0 fun a => lexUponC P (C true) E w s ((execOp a.eval o).run P w))
    (h : lexGoP P C E m ops a0 F (i + 1) (s :: done) rest) : lexGoP P C E m ops a0 F i done (o :: rest) := fun hi => by
  subst hi
  unfold relOkR at hr
  rw [Bool.and_eq_true] at hr
  have hp := picks_of done rs hk
  have hwt : ∀ y, Region.wanted o y = true := fun y => by simp [Region.wanted, hg]
  refine ⟨s, rs.map fun p => done.length - 1 - p.1, by rw [List.length_reverse]; exact hr.1, hm, ⟨fun _ w hw => ?_, fun e => absurd (by rw [List.length_reverse]; exact him) e⟩, ?_⟩
  · rw [picks_eq hp hr.2]
    exact lexVals_mono _ a0 _ _ (fun a ha => ⟨hwt _, ha⟩) (hs w hw)
  · have := h rfl
    rwa [List.reverse_cons] at this
end

theorem lp_start {P : Program} {C : Bool → World → Prop} {E : World → World → Prop} {id : Nat} {ops : List Oper} {Q : Exit → Act → World → Prop} {a0 : Act} {w : World} (n m : Nat) (hmn : m < n) (hm : P.follows .mixedOrders = true) (hB : lexB ops n a0.tmps.size = true)
    (hE : ∀ w, E w w) (hC : C false w.drew)
    (h : lexGoP P C E m ops a0 (fun done => ∀ w', C true w' → lexVals w' (lexPick ops done (List.range n)) a0 fun a => wpList P ops.toArray Q (ops.drop n) a w') 0 [] (ops.take n)) : (Code.region id ops.toArray true).wp P Q a0 w :=
  wp_region_lexP n m hmn hm hB hE hC (h rfl)

theorem lp_stop {P : Program} {C : Bool → World → Prop} {E : World → World → Prop} {m : Nat} {ops : List Oper} {a0 : Act} {Q : Exit → Act → World → Prop} {i n : Nat} {done : List Sp} (hl : done.length = n) (hn : n ≤ ops.length) (h : ∀ w', C true w' → lexVals w' (pf (rv done []) ops) a0 fun a => wpList P ops.toArray Q (ops.drop n) a w') :
    lexGoP P C E m ops a0 (fun done => ∀ w', C true w' → lexVals w' (lexPick ops done (List.range n)) a0 fun a => wpList P ops.toArray Q (ops.drop n) a w') i done [] := fun _ => by
  intro w' hw'
  have h1 := h w' hw'
  rw [rv_eq, List.append_nil, ← pf_eq ops done.reverse (by rw [List.length_reverse]; omega), List.length_reverse, hl] at h1
  exact h1

def monoQ (E : Bool → World → World → Prop) (m i : Nat) (s : Sp) : Prop := if i = m then s.mono (E true) else s.mono (E false)
theorem Sp.mono_le {E E' : World → World → Prop} {s : Sp} (h : s.mono E) (he : ∀ w w', E' w w' → E w w') : s.mono E' := by
  cases s with
  | ex _ => trivial
  | ab f => exact fun v w w' q => h v w w' (he w w' q)

def lexStepQ (P : Program) (C : Bool → World → Prop) (E : Bool → World → World → Prop) (ops : List Oper) (a0 : Act) (done : List Sp) (m i : Nat) (o : Oper) (s : Sp) (rs : List Nat) : Prop :=
  (i = m → ∀ w, C false w → lexVals w (lexPick ops done rs) a0 fun a => Region.wanted o (yielded ops.toArray a.tmps) = true ∧ lexUponC P (C true) (E false) w s ((execOp a.eval o).run P w)) ∧
  (i ≠ m → ∀ ph w, C ph w → lexVals w (lexPick ops done rs) a0 fun a =>
    if Region.wanted o (yielded ops.toArray a.tmps) then lexUponC P (C ph) (E ph) w s ((execOp a.eval o).run P w) else s.holds undef w)

def lexGoalQ (P : Program) (C : Bool → World → Prop) (E : Bool → World → World → Prop) (m : Nat) (ops : List Oper) (a0 : Act) (F : List Sp → Prop) : List Sp → List Oper → Prop
  | done, [] => F done
  | done, o :: rest => ∃ s rs, relOk ops done.length rs = true ∧ monoQ E m done.length s ∧ lexStepQ P C E ops a0 done m done.length o s rs ∧ lexGoalQ P C E m ops a0 F (done ++ [s]) rest

theorem lexGoalQ_all {P : Program} {C : Bool → World → Prop} {E : Bool → World → World → Prop} {m : Nat} {ops : List Oper} {a0 : Act} {F : List Sp → Prop} : ∀ (todo : List Oper) (done : List Sp), lexGoalQ P C E m ops a0 F done todo →
    ∃ all : List Sp, all.length = done.length + todo.length ∧ (∀ j, j < done.length → all[j]? = done[j]?) ∧ F all ∧
      ∀ k o, todo[k]? = some o → ∃ s rs, all[done.length + k]? = some s ∧ relOk ops (done.length + k) rs = true ∧ monoQ E m (done.length + k) s ∧ lexStepQ P C E ops a0 all m (done.length + k) o s rs
  | [], done, h => ⟨done, rfl, fun _ _ => rfl, h, fun k o hk => by simp at hk⟩
  | o :: rest, done, h => by
    obtain ⟨s, rs, hr, hm, hs, h'⟩ := h
    obtain ⟨all, hl, hd, hF, hk⟩ := lexGoalQ_all rest (done ++ [s]) h'
    have hlt : ∀ r ∈ rs, r < done.length := by
      intro r hr'
      unfold relOk at hr
      rw [Bool.and_eq_true, List.all_eq_true] at hr
      have := hr.1 r hr'
      simp only [Bool.and_eq_true, decide_eq_true_eq] at this
      exact this.1
    refine ⟨all, by simp at hl ⊢; omega, fun j hj => ?_, hF, fun k o' hk' => ?_⟩
    · rw [hd j (by simp; omega), List.getElem?_append_left hj]
    · cases k with
      | zero =>
        simp only [List.getElem?_cons_zero, Option.some.injEq] at hk'
        subst hk'
        refine ⟨s, rs, ?_, hr, hm, ?_⟩
        · rw [Nat.add_zero, hd done.length (by simp)]; simp
        · have hpick : lexPick ops all rs = lexPick ops done rs := by
            unfold lexPick
            refine List.map_congr_left fun j hj => ?_
            rw [hd j (by have := hlt j hj; simp; omega), List.getElem?_append_left (hlt j hj)]
          unfold lexStepQ at hs ⊢
          rw [hpick]
          exact hs
      | succ k =>
        simp only [List.getElem?_cons_succ] at hk'
        obtain ⟨s', rs', h1, h2, h3, h4⟩ := hk k o' hk'
        have hlen : (done ++ [s]).length + k = done.length + (k + 1) := by simp; omega
        rw [hlen] at h1 h2 h3 h4
        exact ⟨s', rs', h1, h2, h3, h4⟩

section
variable {P : Program} {C : World → Prop} {E : World → World → Prop} {ops : List Oper} {n : Nat} {all : List Sp} {a0 : Act} {listed : Array Bool} {a : Act} {w : World} {i : Nat} {o : Oper} {rs : List Nat} {s : Sp}
theorem lexInv_setL (inv : HeadInv .any ops.toArray n listed) (L : LexInv C ops n all a0 listed a w) (hin : i < n) (hnl : n ≤ ops.length)
    (hmono : ∀ (j : Nat) (s : Sp), listed.getD j true = true → all[j]? = some s → s.mono E) (hdst : dstOk ops n a0.tmps.size = true) (ho : ops[i]? = some o) (hs : all[i]? = some s) {u : Value} {w' : World} (hC : C w') (he : E w w') (hu : s.holds u w') :
    LexInv C ops n all a0 (listed.setIfInBounds i true) (a.put o.dst u) w' := by
  have hd0 := hdst
  unfold dstOk at hd0
  have hdi := List.all_eq_true.1 hd0 i (List.mem_range.2 hin)
  rw [ho] at hdi
  have his : i < listed.size := by rw [inv.size]; simp; omega
  refine ⟨hC, ?_, ?_, fun j oj d sj hj hoj hd hlt hsj hl => ?_, fun j oj sj hj hoj hd hsj hl => ?_, fun t ht => ?_⟩
  · cases hod : o.dst <;> simp [Act.put, L.defers]
  · cases hod : o.dst <;> simp [Act.put, L.size]
  · by_cases hij : i = j
    · subst hij
      have : oj = o := Option.some.inj (hoj.symm.trans ho)
      subst this
      have : sj = s := Option.some.inj (hsj.symm.trans hs)
      subst this
      rw [hd, Act.put_getD a d d u (by rw [L.size]; exact hlt), if_pos rfl]
      exact hu
    · rw [getD_set_ne true hij] at hl
      have hold := Sp.keep (hmono j sj hl hsj) he (L.done j oj d sj hj hoj hd hlt hsj hl)
      cases hod : o.dst with
      | none => exact hold
      | some d' =>
        have hne : d ≠ d' := by
          intro e
          subst e
          simp only [hod, Bool.and_eq_true, decide_eq_true_eq] at hdi
          have h1 := List.all_eq_true.1 hdi.1.2 j (List.mem_range.2 hj)
          rw [hoj] at h1
          simp [hd] at h1
          exact hij h1
        by_cases hlt' : d' < a.tmps.size
        · rw [Act.put_getD a d' d u hlt', if_neg hne]; exact hold
        · have : (a.put (some d') u).tmps = a.tmps := by
            unfold Act.put; simp only; rw [Array.setIfInBounds, dif_neg hlt']
          rw [this]; exact hold
  · by_cases hij : i = j
    · subst hij
      have : sj = s := Option.some.inj (hsj.symm.trans hs)
      subst this
      exact ⟨u, hu⟩
    · rw [getD_set_ne true hij] at hl
      obtain ⟨v, hv⟩ := L.skip j oj sj hj hoj hd hsj hl
      exact ⟨v, Sp.keep (hmono j sj hl hsj) he hv⟩
  · have hti : o.dst ≠ some t := by
      intro e
      have := ht i o hin ho e
      simp [his] at this
    have hrest : a.tmps[t]? = a0.tmps[t]? := L.old t fun j oj hj hoj hd => by
      have h1 := ht j oj hj hoj hd
      by_cases hij : i = j
      · subst hij
        simp [his] at h1
      · rwa [getD_set_ne true hij] at h1
    rw [← hrest]
    cases hod : o.dst with
    | none => rfl
    | some d' => exact put_get_ne a d' t u fun e => hti (by rw [hod, e])
end

theorem lex_runQ {P : Program} {C : Bool → World → Prop} {E : Bool → World → World → Prop} {ops : List Oper} {n m : Nat} {all : List Sp} {a0 : Act} {Q : Exit → Act → World → Prop} (hE : ∀ ph w, E ph w w) (h12 : ∀ w w', E true w w' → E false w w') (hmn : m < n) (hall : all.length = n) (hnl : n ≤ ops.length)
    (hsel : Region.noSelect ops.toArray = true) (htail : n = ops.length ∨ (n < ops.length ∧ Region.sinkB .any ops.toArray n = true ∧ Region.chainB .any ops.toArray n = true))
    (hseq : Region.seqB .any ops.toArray (ops.length - n) n (headListed ops.length n) = true) (hdst : dstOk ops n a0.tmps.size = true)
    (hk : ∀ k o, k < n → ops[k]? = some o → ∃ s rs, all[k]? = some s ∧ relOk ops k rs = true ∧ monoQ E m k s ∧ lexStepQ P C E ops a0 all m k o s rs)
    (hF : lexFinal P (C true) ops Q a0 n all) :
    ∀ (f : Nat) (listed : Array Bool) (a : Act) (w : World), HeadInv .any ops.toArray n listed → LexInv (C (listed.getD m false)) ops n all a0 listed a w → unl n listed = f →
      wpAny P .any ops.toArray Q (f + (ops.length - n)) listed a w := by
  have hmono : ∀ (j : Nat) (s : Sp), all[j]? = some s → monoQ E m j s := fun j s hj => by
    have hjn : j < n := by rw [← hall]; exact (List.getElem?_eq_some_iff.1 hj).1
    obtain ⟨s', rs, h1, _, h3, _⟩ := hk j _ hjn (List.getElem?_eq_getElem (show j < ops.length by omega))
    have : s' = s := Option.some.inj (h1.symm.trans hj)
    subst this
    exact h3
  intro f
  induction f with
  | zero =>
    intro listed a w inv L hu
    have hl : ∀ j, j < n → listed.getD j true = true := fun j hj => by
      unfold unl at hu
      have := List.length_eq_zero_iff.1 hu
      have h1 := List.filter_eq_nil_iff.1 this j (List.mem_range.2 hj)
      simpa using h1
    have heq : listed = headListed ops.length n := by
      refine Array.ext (by rw [inv.size]; simp [headListed]) fun j h1 h2 => ?_
      have hjo : j < ops.length := by rw [inv.size] at h1; simpa using h1
      by_cases hj : j < n
      · have := hl j hj
        simp [h1] at this
        simp [headListed, hj, this]
      · have := inv.tail j (by omega) (by simpa using hjo)
        simp [h1] at this
        simp [headListed, hj, this]
    subst heq
    rw [Nat.zero_add]
    have hlen : (ops.drop n).length = ops.length - n := by simp
    rw [← hlen]
    refine wpAny_of_seq (ops.drop n) n _ a w (fun j => by simp) (by rw [hlen]; exact hseq) ?_
    have h1 := lexVals_at (A := a) (lexPick ops all (List.range n)) a0 _ (fun p hp => by
      unfold lexPick at hp
      obtain ⟨j, hj, rfl⟩ := List.mem_map.1 hp
      have hjn := List.mem_range.1 hj
      have hoj : ops[j]? = some ops[j] := List.getElem?_eq_getElem (by omega)
      have haj : all[j]? = some all[j] := List.getElem?_eq_getElem (by omega)
      rw [hoj, haj]
      simp only [Option.bind_some, Option.getD_some]
      cases hd : ops[j].dst with
      | some d =>
        left
        refine ⟨d, rfl, L.done j _ d _ hjn hoj hd ?_ haj (hl j hjn)⟩
        unfold dstOk at hdst
        have := List.all_eq_true.1 hdst j (List.mem_range.2 hjn)
        rw [hoj] at this
        simp only [hd, Bool.and_eq_true, decide_eq_true_eq] at this
        exact this.1.1
      | none => right; exact ⟨rfl, L.skip j _ _ hjn hoj hd haj (hl j hjn)⟩) (hF w (by
        have h2 := L.ext
        rw [← getD_tf (show m < (headListed ops.length n).size by simp [headListed]; omega), hl m hmn] at h2
        exact h2))
    have ha : putAll a (lexPick ops all (List.range n)) a0 = a := by
      have htm : (putAll a (lexPick ops all (List.range n)) a0).tmps = a.tmps := by
        refine Array.ext (by rw [putAll_size, L.size]) fun t h1 h2 => ?_
        have : (putAll a (lexPick ops all (List.range n)) a0).tmps[t]? = a.tmps[t]? := by
          by_cases hex : ∃ p ∈ lexPick ops all (List.range n), p.1 = some t
          · exact putAll_in a t _ a0 L.size hex
          · rw [putAll_out a t _ a0 fun p hp e => hex ⟨p, hp, e⟩]
            refine (L.old t fun j oj hj hoj hd => ?_).symm
            exfalso
            refine hex ⟨(some t, (all[j]?).getD (.ex undef)), ?_, rfl⟩
            unfold lexPick
            exact List.mem_map.2 ⟨j, List.mem_range.2 hj, by rw [hoj]; simp [hd]⟩
        rw [Array.getElem?_eq_getElem h1, Array.getElem?_eq_getElem h2] at this
        exact Option.some.inj this
      have hdf : (putAll a (lexPick ops all (List.range n)) a0).defers = a.defers := by rw [putAll_defers, L.defers]
      cases hA : putAll a (lexPick ops all (List.range n)) a0 with
      | mk t d =>
        rw [hA] at htm hdf
        simp only at htm hdf
        subst htm; subst hdf
        rfl
    rw [ha] at h1
    exact h1
  | succ f ih =>
    intro listed a w inv L hu
    have hex : ∃ j, j < n ∧ listed.getD j true = false := by
      unfold unl at hu
      cases hf : (List.range n).filter fun j => !listed.getD j true with
      | nil => rw [hf] at hu; simp at hu
      | cons j l =>
        have : j ∈ (List.range n).filter fun j => !listed.getD j true := by rw [hf]; exact List.mem_cons_self ..
        obtain ⟨h1, h2⟩ := List.mem_filter.1 this
        exact ⟨j, List.mem_range.1 h1, by simpa using h2⟩
    obtain ⟨j0, hj0, hun0⟩ := hex
    obtain ⟨r0, hr0⟩ := some_ready inv hnl hdst j0 hj0 hun0
    rw [show f + 1 + (ops.length - n) = (f + (ops.length - n)) + 1 by omega]
    refine ⟨fun h => (by rw [h] at hr0; cases hr0), fun i hi => ?_⟩
    obtain ⟨hiun, o, ho, _⟩ := mem_ready.1 hi
    have ho' : ops[i]? = some o := by simpa using ho
    have hio : i < ops.length := (List.getElem?_eq_some_iff.1 ho').1
    have hin : i < n := by
      rcases Nat.lt_or_ge i n with h | h
      · exact h
      · rcases htail with rfl | ⟨hn, hs, hc⟩
        · omega
        · exact absurd hi (tail_waits hs hc (by simpa using hn) inv _ j0 rfl hj0 hun0 i h)
    obtain ⟨s, rs, hs, hr, hm, hstep⟩ := hk i o hin ho'
    have hlook := same_looks inv L hi hin hnl ho' hr
    have his : i < listed.size := by rw [inv.size]; simp; omega
    have hms : m < listed.size := by rw [inv.size]; simp; omega
    have hmonoL : ∀ (j : Nat) (s : Sp), listed.getD j true = true → all[j]? = some s → s.mono (E (listed.getD m false)) := fun j s' hl hj => by
      have h1 := hmono j s' hj
      unfold monoQ at h1
      by_cases hjm : j = m
      · subst hjm
        rw [if_pos rfl] at h1
        rw [← getD_tf hms, hl]
        exact h1
      · rw [if_neg hjm] at h1
        cases hq : listed.getD m false with
        | false => exact h1
        | true => exact Sp.mono_le h1 h12
    have hnext : ∀ (u : Value) (w' : World), C ((listed.setIfInBounds i true).getD m false) w' → E (listed.getD m false) w w' → s.holds u w' → wpAny P .any ops.toArray Q (f + (ops.length - n)) (listed.setIfInBounds i true) (a.put o.dst u) w' := fun u w' hC he hu' =>
      ih _ _ _ (inv.set hi hin) ((lexInv_setL (C := fun _ => True) inv (L.mapC trivial) hin hnl hmonoL hdst ho' hs trivial he hu').mapC hC) (by have := unl_set hin his hiun; omega)
    unfold wpOp
    rw [ho]
    simp only
    by_cases him : i = m
    · subst him
      have hCt : (listed.setIfInBounds i true).getD i false = true := by simp [his]
      have hCf : listed.getD i false = false := getD_both hiun
      rw [hCt, hCf] at hnext
      have hL := L.ext
      rw [hCf] at hL
      have hat := lexVals_at (A := a) _ a0 _ (picks_hold inv L hi hin hnl hall hr hdst) (hstep.1 rfl w hL)
      rw [wanted_congr ops.toArray o _ _ hlook, execOp_looks ops.toArray o _ a (fun cs c => Region.noSelect_spec hsel i o cs c ho) hlook] at hat
      obtain ⟨hw, hat⟩ := hat
      rw [if_pos hw]
      left
      unfold Oper.wp
      generalize (execOp a.eval o).run P w = r at hat ⊢
      cases r with
      | ok x w' =>
        cases x <;> simp only [lexUponC] at hat <;> simp only [Oper.upon]
        case value u => exact hnext u w' hat.1 hat.2.1 hat.2.2
        case skip => exact hnext undef w' hat.1 hat.2.1 hat.2.2
        case enter g args =>
          exact hat.mono fun e w'' ⟨v, he, hC, hx, hv⟩ => by subst he; exact hnext v w'' hC hx hv
      | halt x w' => simp only [lexUponC] at hat
    · have hCm : (listed.setIfInBounds i true).getD m false = listed.getD m false := by
        rw [← getD_tf (by simpa using hms), getD_set_ne true him, getD_tf hms]
      rw [hCm] at hnext
      have hat := lexVals_at (A := a) _ a0 _ (picks_hold inv L hi hin hnl hall hr hdst) (hstep.2 him _ w L.ext)
      rw [wanted_congr ops.toArray o _ _ hlook, execOp_looks ops.toArray o _ a (fun cs c => Region.noSelect_spec hsel i o cs c ho) hlook] at hat
      by_cases hw : Region.wanted o (yielded ops.toArray a.tmps) = true
      · rw [if_pos hw] at hat ⊢
        left
        unfold Oper.wp
        generalize (execOp a.eval o).run P w = r at hat ⊢
        cases r with
        | ok x w' =>
          cases x <;> simp only [lexUponC] at hat <;> simp only [Oper.upon]
          case value u => exact hnext u w' hat.1 hat.2.1 hat.2.2
          case skip => exact hnext undef w' hat.1 hat.2.1 hat.2.2
          case enter g args =>
            exact hat.mono fun e w'' ⟨v, he, hC, hx, hv⟩ => by subst he; exact hnext v w'' hC hx hv
        | halt x w' => simp only [lexUponC] at hat
      · rw [if_neg hw] at hat ⊢
        exact hnext undef w L.ext (hE _ w) hat

/-- **A region that draws its order**, number 'm' of which turns what holds. -/
theorem wp_region_lexQ {P : Program} {C : Bool → World → Prop} {E : Bool → World → World → Prop} {id : Nat} {ops : List Oper} {Q : Exit → Act → World → Prop} {a0 : Act} {w : World} (n m : Nat) (hmn : m < n) (hm : P.follows .mixedOrders = true) (hB : lexB ops n a0.tmps.size = true)
    (hE : ∀ ph w, E ph w w) (h12 : ∀ w w', E true w w' → E false w w') (hC : C false w.drew) (h : lexGoalQ P C E m ops a0 (lexFinal P (C true) ops Q a0 n) [] (ops.take n)) : (Code.region id ops.toArray true).wp P Q a0 w := by
  simp only [lexB, Bool.and_eq_true, Bool.or_eq_true, decide_eq_true_eq, beq_iff_eq] at hB
  obtain ⟨⟨⟨⟨hsel, hnl⟩, htail⟩, hseq⟩, hdst⟩ := hB
  have htail' : n = ops.length ∨ (n < ops.length ∧ Region.sinkB .any ops.toArray n = true ∧ Region.chainB .any ops.toArray n = true) := by
    rcases htail with h | h
    · exact Or.inl h
    · exact Or.inr ⟨h.1.1, h.1.2, h.2⟩
  obtain ⟨all, hl, _, hF, hk⟩ := lexGoalQ_all _ _ h
  have hall : all.length = n := by simp at hl; omega
  refine wp_region_any hm ?_
  have inv0 : HeadInv .any ops.toArray n (Array.replicate ops.toArray.size false) :=
    ⟨by simp, fun j oj _ hl => (by rw [getD_replicate_false] at hl; cases hl), fun t _ ht => getD_in (by simpa using ht) (getD_replicate_false _ _)⟩
  have hfalse : ∀ j, j < n → (Array.replicate ops.toArray.size false).getD j true = false := fun j hj => getD_in (by simp; omega) (getD_replicate_false _ _)
  have L0 : LexInv (C ((Array.replicate ops.toArray.size false).getD m false)) ops n all a0 (Array.replicate ops.toArray.size false) a0 w.drew :=
    ⟨by rw [getD_replicate_false]; exact hC, rfl, rfl, fun j o d s hj _ _ _ _ hl => (by rw [hfalse j hj] at hl; cases hl), fun j o s hj _ _ _ hl => (by rw [hfalse j hj] at hl; cases hl), fun _ _ => rfl⟩
  have hu : unl n (Array.replicate ops.toArray.size false) = n := by
    unfold unl
    rw [List.filter_eq_self.2 fun j hj => by rw [hfalse j (List.mem_range.1 hj)]; rfl]
    simp
  have := lex_runQ (Q := Q) hE h12 hmn hall hnl hsel htail' hseq hdst (fun k o hkn hko => by
    have h1 : (ops.take n)[k]? = some o := by rw [List.getElem?_take, if_pos hkn]; exact hko
    obtain ⟨s, rs, h2, h3, h4, h5⟩ := hk k o h1
    simp only [List.length_nil, Nat.zero_add] at h2 h3 h4 h5
    exact ⟨s, rs, h2, h3, h4, h5⟩) hF n _ a0 w.drew inv0 L0 hu
  have hfuel : n + (ops.length - n) = ops.toArray.size := by simp; omega
  rw [hfuel] at this
  exact this


def lexGoQ (P : Program) (C : Bool → World → Prop) (E : Bool → World → World → Prop) (m : Nat) (ops : List Oper) (a0 : Act) (F : List Sp → Prop) : Nat → List Sp → List Oper → Prop
  | i, done, l => i = done.length → lexGoalQ P C E m ops a0 F done.reverse l

section
variable {P : Program} {C : Bool → World → Prop} {E : Bool → World → World → Prop} {m : Nat} {ops : List Oper} {a0 : Act} {F : List Sp → Prop} {i : Nat} {done : List Sp} {o : Oper} {rest : List Oper}

/-- An operation that only makes memory grow (unguarded). -/
theorem lq_s (s : Sp) (rs : List (Nat × Tmp)) (him : i ≠ m) (hr : relOkR ops i rs = true) (hg : o.guard = none) (hk : (rs.all fun p => decide (p.1 < done.length)) = true) (hm : s.mono (E false))
    (hst : ∀ ph w w', C ph w → Ext w w' → C ph w' ∧ E ph w w') (hs : ∀ ph w, C ph w → lexVals w (pk done rs) a0 fun a => lexUpon P w s ((execOp a.eval o).run P w))
    (h : lexGoQ P C E m ops a0 F (i + 1) (s :: done) rest) : lexGoQ P C E m ops a0 F i done (o :: rest) := fun hi => by
  subst hi
  unfold relOkR at hr
  rw [Bool.and_eq_true] at hr
  have hp := picks_of done rs hk
  have hwt : ∀ y, Region.wanted o y = true := fun y => by simp [Region.wanted, hg]
  refine ⟨s, rs.map fun p => done.length - 1 - p.1, by rw [List.length_reverse]; exact hr.1, (show monoQ E m done.reverse.length s by unfold monoQ; rw [List.length_reverse, if_neg him]; exact hm), ⟨fun e => absurd (by rw [← e, List.length_reverse]) him, fun _ ph w hw => ?_⟩, ?_⟩
  · rw [picks_eq hp hr.2]
    refine lexVals_mono _ a0 _ _ (fun a ha => ?_) (hs ph w hw)
    rw [if_pos (hwt _)]
    generalize (execOp a.eval o).run P w = r at ha ⊢
    cases r with
    | ok x w' =>
      cases x <;> simp only [lexUpon] at ha <;> simp only [lexUponC]
      case value u => exact ⟨(hst ph w w' hw ha.1).1, (hst ph w w' hw ha.1).2, ha.2⟩
      case skip => exact ⟨(hst ph w w' hw ha.1).1, (hst ph w w' hw ha.1).2, ha.2⟩
      case enter f args => exact ha.mono fun e w'' ⟨v, he, hx, hv⟩ => ⟨v, he, (hst ph w w'' hw hx).1, (hst ph w w'' hw hx).2, hv⟩
    | halt x w' => simp only [lexUpon] at ha
  · have := h rfl
    rwa [List.reverse_cons] at this

/-- The operation that turns what holds. -/
theorem lq_m (s : Sp) (rs : List (Nat × Tmp)) (him : i = m) (hr : relOkR ops i rs = true) (hg : o.guard = none) (hk : (rs.all fun p => decide (p.1 < done.length)) = true) (hm : s.mono (E true))
    (hs : ∀ w, C false w → lexVals w (pk done rs) a0 fun a => lexUponC P (C true) (E false) w s ((execOp a.eval o).run P w))
    (h : lexGoQ P C E m ops a0 F (i + 1) (s :: done) rest) : lexGoQ P C E m ops a0 F i done (o :: rest) := fun hi => by
  subst hi
  unfold relOkR at hr
  rw [Bool.and_eq_true] at hr
  have hp := picks_of done rs hk
  have hwt : ∀ y, Region.wanted o y = true := fun y => by simp [Region.wanted, hg]
  refine ⟨s, rs.map fun p => done.length - 1 - p.1, by rw [List.length_reverse]; exact hr.1, (show monoQ E m done.reverse.length s by unfold monoQ; rw [List.length_reverse, if_pos him]; exact hm), ⟨fun _ w hw => ?_, fun e => absurd (by rw [List.length_reverse]; exact him) e⟩, ?_⟩
  · rw [picks_eq hp hr.2]
    exact lexVals_mono _ a0 _ _ (fun a ha => ⟨hwt _, ha⟩) (hs w hw)
  · have := h rfl
    rwa [List.reverse_cons] at this
end

theorem lq_start {P : Program} {C : Bool → World → Prop} {E : Bool → World → World → Prop} {id : Nat} {ops : List Oper} {Q : Exit → Act → World → Prop} {a0 : Act} {w : World} (n m : Nat) (hmn : m < n) (hm : P.follows .mixedOrders = true) (hB : lexB ops n a0.tmps.size = true)
    (hE : ∀ ph w, E ph w w) (h12 : ∀ w w', E true w w' → E false w w') (hC : C false w.drew)
    (h : lexGoQ P C E m ops a0 (fun done => ∀ w', C true w' → lexVals w' (lexPick ops done (List.range n)) a0 fun a => wpList P ops.toArray Q (ops.drop n) a w') 0 [] (ops.take n)) : (Code.region id ops.toArray true).wp P Q a0 w :=
  wp_region_lexQ n m hmn hm hB hE h12 hC (h rfl)

theorem lq_stop {P : Program} {C : Bool → World → Prop} {E : Bool → World → World → Prop} {m : Nat} {ops : List Oper} {a0 : Act} {Q : Exit → Act → World → Prop} {i n : Nat} {done : List Sp} (hl : done.length = n) (hn : n ≤ ops.length) (h : ∀ w', C true w' → lexVals w' (pf (rv done []) ops) a0 fun a => wpList P ops.toArray Q (ops.drop n) a w') :
    lexGoQ P C E m ops a0 (fun done => ∀ w', C true w' → lexVals w' (lexPick ops done (List.range n)) a0 fun a => wpList P ops.toArray Q (ops.drop n) a w') i done [] := fun _ => by
  intro w' hw'
  have h1 := h w' hw'
  rw [rv_eq, List.append_nil, ← pf_eq ops done.reverse (by rw [List.length_reverse]; omega), List.length_reverse, hl] at h1
  exact h1

end Go.Proofs.YtihlpfdhallfpaaDoor
