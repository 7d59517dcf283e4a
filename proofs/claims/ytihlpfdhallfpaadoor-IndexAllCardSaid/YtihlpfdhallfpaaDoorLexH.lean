/-
  A region that draws its order, one of whose operations writes to what another one of them has made: what is told of that other one's value is more behind the writing. No conditions.
-/
import Derived.Test.YtihlpfdhallfpaaDoorLexP
namespace Go.Proofs.YtihlpfdhallfpaaDoor
open Go.RowKit

/-- What a writing operation leaves. -/
def GUpon (g : World → Prop) : Result Next → Prop
  | .ok (.value _) w' => g w'
  | .ok .skip w' => g w'
  | _ => False
theorem lex_runH {P : Program} {p t : Nat} {om : Oper} {rsm : List Nat} {G : Value → World → Prop} {C : Bool → World → Prop} {E : Bool → World → World → Prop} {ops : List Oper} {n m : Nat} {all : List Sp} {a0 : Act} {Q : Exit → Act → World → Prop} (hE : ∀ ph w, E ph w w) (h12 : ∀ w w', E true w w' → E false w w') (hmn : m < n) (hall : all.length = n) (hnl : n ≤ ops.length)
    (hsel : Region.noSelect ops.toArray = true) (htail : n = ops.length ∨ (n < ops.length ∧ Region.sinkB .any ops.toArray n = true ∧ Region.chainB .any ops.toArray n = true))
    (hseq : Region.seqB .any ops.toArray (ops.length - n) n (headListed ops.length n) = true) (hdst : dstOk ops n a0.tmps.size = true)
    (hk : ∀ k o, k < n → ops[k]? = some o → ∃ s rs, all[k]? = some s ∧ relOk ops k rs = true ∧ monoQ E m k s ∧ lexStepQ P C E ops a0 all m k o s rs)
    (hpm : p ≠ m) (hin : inAfter ops m p = true) (hpd : (ops[p]?).bind (·.dst) = some t) (hom : ops[m]? = some om) (hrm : relOk ops m rsm = true) (htl : t ∈ om.looksAt ops.toArray) (hGm : ∀ v w w', E true w w' → G v w → G v w')
    (hGs : ∀ w, C false w → lexVals w (lexPick ops all rsm) a0 fun a => GUpon (G (a.tmps.getD t undef)) ((execOp a.eval om).run P w))
    (hF : ∀ w, C true w → lexVals w (lexPick ops all (List.range n)) a0 fun a => G (a.tmps.getD t undef) w → wpList P ops.toArray Q (ops.drop n) a w) :
    ∀ (f : Nat) (listed : Array Bool) (a : Act) (w : World), HeadInv .any ops.toArray n listed → LexInv (C (listed.getD m false)) ops n all a0 listed a w → (listed.getD m false = true → G (a.tmps.getD t undef) w) → unl n listed = f →
      wpAny P .any ops.toArray Q (f + (ops.length - n)) listed a w := by
  have hmono : ∀ (j : Nat) (s : Sp), all[j]? = some s → monoQ E m j s := fun j s hj => by
    have hjn : j < n := by rw [← hall]; exact (List.getElem?_eq_some_iff.1 hj).1
    obtain ⟨s', rs, h1, _, h3, _⟩ := hk j _ hjn (List.getElem?_eq_getElem (show j < ops.length by omega))
    have : s' = s := Option.some.inj (h1.symm.trans hj)
    subst this
    exact h3
  have hdt : ∀ i o, i < n → ops[i]? = some o → i ≠ p → o.dst ≠ some t := fun i o hi ho hip e => by
    have hd := hdst
    unfold dstOk at hd
    have h1 := List.all_eq_true.1 hd i (List.mem_range.2 hi)
    rw [ho] at h1
    simp only [e, Bool.and_eq_true, decide_eq_true_eq] at h1
    have hpn : p < n := by
      unfold inAfter at hin
      rw [hom] at hin
      have hm1 := List.all_eq_true.1 hd m (List.mem_range.2 hmn)
      rw [hom] at hm1
      simp only [Bool.and_eq_true] at hm1
      have hm2 := hm1.2
      obtain ⟨j, hj, hb⟩ := Array.any_eq_true.1 hin
      have h3 := (Array.all_eq_true.1 hm2) j hj
      rw [Bool.and_eq_true, beq_iff_eq] at hb
      rw [hb.1, hb.2] at h3
      simp at h3
      omega
    have h2 := List.all_eq_true.1 h1.1.2 p (List.mem_range.2 hpn)
    rw [hpd] at h2
    simp at h2
    exact hip h2
  have hgd : ∀ (a : Act) (d : Option Tmp) (u : Value), d ≠ some t → (a.put d u).tmps.getD t undef = a.tmps.getD t undef := fun a d u hd => by
    rw [Array.getD_eq_getD_getElem?, Array.getD_eq_getD_getElem?]
    cases d with
    | none => rfl
    | some d' => rw [put_get_ne a d' t u fun e => hd (by rw [e])]
  intro f
  induction f with
  | zero =>
    intro listed a w inv L hG hu
    have hl : ∀ j, j < n → listed.getD j true = true := fun j hj => by
      unfold unl at hu
      have := List.length_eq_zero_iff.1 hu
      have h1 := List.filter_eq_nil_iff.1 this j (List.mem_range.2 hj)
      simpa using h1
    have heq : listed = headListed ops.length n := by
      refine Array.ext (by rw [inv.size]; simp [headListed]) fun j h1 h2 => ?_
      have hjo : j < ops.length := by rw [inv.size] at h1; simpa using h1
      by_cases hj : j < n
      · have := hl j hj
        simp [h1] at this
        simp [headListed, hj, this]
      · have := inv.tail j (by omega) (by simpa using hjo)
        simp [h1] at this
        simp [headListed, hj, this]
    subst heq
    rw [Nat.zero_add]
    have hlen : (ops.drop n).length = ops.length - n := by simp
    rw [← hlen]
    refine wpAny_of_seq (ops.drop n) n _ a w (fun j => by simp) (by rw [hlen]; exact hseq) ?_
    have h1 := lexVals_at (A := a) (lexPick ops all (List.range n)) a0 _ (fun p hp => by
      unfold lexPick at hp
      obtain ⟨j, hj, rfl⟩ := List.mem_map.1 hp
      have hjn := List.mem_range.1 hj
      have hoj : ops[j]? = some ops[j] := List.getElem?_eq_getElem (by omega)
      have haj : all[j]? = some all[j] := List.getElem?_eq_getElem (by omega)
      rw [hoj, haj]
      simp only [Option.bind_some, Option.getD_some]
      cases hd : ops[j].dst with
      | some d =>
        left
        refine ⟨d, rfl, L.done j _ d _ hjn hoj hd ?_ haj (hl j hjn)⟩
        unfold dstOk at hdst
        have := List.all_eq_true.1 hdst j (List.mem_range.2 hjn)
        rw [hoj] at this
        simp only [hd, Bool.and_eq_true, decide_eq_true_eq] at this
        exact this.1.1
      | none => right; exact ⟨rfl, L.skip j _ _ hjn hoj hd haj (hl j hjn)⟩) (hF w (by
        have h2 := L.ext
        rw [← getD_tf (show m < (headListed ops.length n).size by simp [headListed]; omega), hl m hmn] at h2
        exact h2))
    have ha : putAll a (lexPick ops all (List.range n)) a0 = a := by
      have htm : (putAll a (lexPick ops all (List.range n)) a0).tmps = a.tmps := by
        refine Array.ext (by rw [putAll_size, L.size]) fun t h1 h2 => ?_
        have : (putAll a (lexPick ops all (List.range n)) a0).tmps[t]? = a.tmps[t]? := by
          by_cases hex : ∃ p ∈ lexPick ops all (List.range n), p.1 = some t
          · exact putAll_in a t _ a0 L.size hex
          · rw [putAll_out a t _ a0 fun p hp e => hex ⟨p, hp, e⟩]
            refine (L.old t fun j oj hj hoj hd => ?_).symm
            exfalso
            refine hex ⟨(some t, (all[j]?).getD (.ex undef)), ?_, rfl⟩
            unfold lexPick
            exact List.mem_map.2 ⟨j, List.mem_range.2 hj, by rw [hoj]; simp [hd]⟩
        rw [Array.getElem?_eq_getElem h1, Array.getElem?_eq_getElem h2] at this
        exact Option.some.inj this
      have hdf : (putAll a (lexPick ops all (List.range n)) a0).defers = a.defers := by rw [putAll_defers, L.defers]
      cases hA : putAll a (lexPick ops all (List.range n)) a0 with
      | mk t d =>
        rw [hA] at htm hdf
        simp only at htm hdf
        subst htm; subst hdf
        rfl
    rw [ha] at h1
    exact h1 (hG (by rw [← getD_tf (show m < (headListed ops.length n).size by simp [headListed]; omega), hl m hmn]))
  | succ f ih =>
    intro listed a w inv L hG hu
    have hex : ∃ j, j < n ∧ listed.getD j true = false := by
      unfold unl at hu
      cases hf : (List.range n).filter fun j => !listed.getD j true with
      | nil => rw [hf] at hu; simp at hu
      | cons j l =>
        have : j ∈ (List.range n).filter fun j => !listed.getD j true := by rw [hf]; exact List.mem_cons_self ..
        obtain ⟨h1, h2⟩ := List.mem_filter.1 this
        exact ⟨j, List.mem_range.1 h1, by simpa using h2⟩
    obtain ⟨j0, hj0, hun0⟩ := hex
    obtain ⟨r0, hr0⟩ := some_ready inv hnl hdst j0 hj0 hun0
    rw [show f + 1 + (ops.length - n) = (f + (ops.length - n)) + 1 by omega]
    refine ⟨fun h => (by rw [h] at hr0; cases hr0), fun i hi => ?_⟩
    obtain ⟨hiun, o, ho, _⟩ := mem_ready.1 hi
    have ho' : ops[i]? = some o := by simpa using ho
    have hio : i < ops.length := (List.getElem?_eq_some_iff.1 ho').1
    have hin_ : i < n := by
      rcases Nat.lt_or_ge i n with h | h
      · exact h
      · rcases htail with rfl | ⟨hn, hs, hc⟩
        · omega
        · exact absurd hi (tail_waits hs hc (by simpa using hn) inv _ j0 rfl hj0 hun0 i h)
    obtain ⟨s, rs, hs, hr, hm, hstep⟩ := hk i o hin_ ho'
    have hlook := same_looks inv L hi hin_ hnl ho' hr
    have his : i < listed.size := by rw [inv.size]; simp; omega
    have hms : m < listed.size := by rw [inv.size]; simp; omega
    have hmonoL : ∀ (j : Nat) (s : Sp), listed.getD j true = true → all[j]? = some s → s.mono (E (listed.getD m false)) := fun j s' hl hj => by
      have h1 := hmono j s' hj
      unfold monoQ at h1
      by_cases hjm : j = m
      · subst hjm
        rw [if_pos rfl] at h1
        rw [← getD_tf hms, hl]
        exact h1
      · rw [if_neg hjm] at h1
        cases hq : listed.getD m false with
        | false => exact h1
        | true => exact Sp.mono_le h1 h12
    have hnext : ∀ (u : Value) (w' : World), C ((listed.setIfInBounds i true).getD m false) w' → E (listed.getD m false) w w' → s.holds u w' → ((listed.setIfInBounds i true).getD m false = true → G ((a.put o.dst u).tmps.getD t undef) w') → wpAny P .any ops.toArray Q (f + (ops.length - n)) (listed.setIfInBounds i true) (a.put o.dst u) w' := fun u w' hC he hu' hG' =>
      ih _ _ _ (inv.set hi hin_) ((lexInv_setL (C := fun _ => True) inv (L.mapC trivial) hin_ hnl hmonoL hdst ho' hs trivial he hu').mapC hC) hG' (by have := unl_set hin_ his hiun; omega)
    unfold wpOp
    rw [ho]
    simp only
    by_cases him : i = m
    · subst him
      have hCt : (listed.setIfInBounds i true).getD i false = true := by simp [his]
      have hCf : listed.getD i false = false := getD_both hiun
      rw [hCt, hCf] at hnext
      have hL := L.ext
      rw [hCf] at hL
      have hat := lexVals_at (A := a) _ a0 _ (picks_hold inv L hi hin_ hnl hall hr hdst) (hstep.1 rfl w hL)
      rw [wanted_congr ops.toArray o _ _ hlook, execOp_looks ops.toArray o _ a (fun cs c => Region.noSelect_spec hsel i o cs c ho) hlook] at hat
      obtain ⟨hw, hat⟩ := hat
      rw [if_pos hw]
      left
      unfold Oper.wp
      have homo : om = o := Option.some.inj (hom.symm.trans ho')
      subst homo
      have hlook2 := same_looks inv L hi hin_ hnl ho' hrm
      have hgs := lexVals_at (A := a) _ a0 _ (picks_hold inv L hi hin_ hnl hall hrm hdst) (hGs w hL)
      rw [execOp_looks ops.toArray om _ a (fun cs c => Region.noSelect_spec hsel i om cs c ho) hlook2] at hgs
      have hte : (putAll a (lexPick ops all rsm) a0).tmps.getD t undef = a.tmps.getD t undef := by
        rw [Array.getD_eq_getD_getElem?, Array.getD_eq_getD_getElem?, hlook2 t htl]
      rw [hte] at hgs
      have hgp : ∀ u, (a.put om.dst u).tmps.getD t undef = a.tmps.getD t undef := fun u => hgd a _ u (hdt i om hin_ ho' (fun e => hpm e.symm))
      generalize (execOp a.eval om).run P w = r at hat hgs ⊢
      cases r with
      | ok x w' =>
        cases x <;> simp only [lexUponC] at hat <;> simp only [Oper.upon]
        case value u => exact hnext u w' hat.1 hat.2.1 hat.2.2 (fun _ => by rw [hgp]; exact hgs)
        case skip => exact hnext undef w' hat.1 hat.2.1 hat.2.2 (fun _ => by rw [hgp]; exact hgs)
        case enter g args =>
          exact False.elim hgs
      | halt x w' => simp only [lexUponC] at hat
    · have hCm : (listed.setIfInBounds i true).getD m false = listed.getD m false := by
        rw [← getD_tf (by simpa using hms), getD_set_ne true him, getD_tf hms]
      have hstay : ∀ (u : Value) (w' : World), E (listed.getD m false) w w' → ((listed.setIfInBounds i true).getD m false = true → G ((a.put o.dst u).tmps.getD t undef) w') := fun u w' he hl => by
        rw [hCm] at hl
        have hlp : listed.getD p false = true := by
          unfold inAfter at hin
          rw [hom] at hin
          obtain ⟨j, hj, hb⟩ := Array.any_eq_true.1 hin
          rw [Bool.and_eq_true, beq_iff_eq] at hb
          rw [← hb.2]
          exact inv.closed m om (by simpa using hom) hl _ (Array.getElem_mem hj) hb.1
        have hip : i ≠ p := fun e => by
          subst e
          have h1 := getD_both hiun
          rw [h1] at hlp
          cases hlp
        rw [hgd a _ u (hdt i o hin_ ho' hip)]
        rw [hl] at he
        exact hGm _ w w' he (hG hl)
      rw [hCm] at hnext hstay
      have hat := lexVals_at (A := a) _ a0 _ (picks_hold inv L hi hin_ hnl hall hr hdst) (hstep.2 him _ w L.ext)
      rw [wanted_congr ops.toArray o _ _ hlook, execOp_looks ops.toArray o _ a (fun cs c => Region.noSelect_spec hsel i o cs c ho) hlook] at hat
      by_cases hw : Region.wanted o (yielded ops.toArray a.tmps) = true
      · rw [if_pos hw] at hat ⊢
        left
        unfold Oper.wp
        generalize (execOp a.eval o).run P w = r at hat ⊢
        cases r with
        | ok x w' =>
          cases x <;> simp only [lexUponC] at hat <;> simp only [Oper.upon]
          case value u => exact hnext u w' hat.1 hat.2.1 hat.2.2 (hstay u w' hat.2.1)
          case skip => exact hnext undef w' hat.1 hat.2.1 hat.2.2 (hstay undef w' hat.2.1)
          case enter g args =>
            exact hat.mono fun e w'' ⟨v, he, hC, hx, hv⟩ => by subst he; exact hnext v w'' hC hx hv (hstay v w'' hx)
        | halt x w' => simp only [lexUponC] at hat
      · rw [if_neg hw] at hat ⊢
        exact hnext undef w L.ext (hE _ w) hat (hstay undef w (hE _ w))

/-- **A region that draws its order**, number 'm' of which turns what holds. -/
theorem wp_region_lexH {P : Program} {p t : Nat} {om : Oper} {rsm : List Nat} {G : Value → World → Prop} {C : Bool → World → Prop} {E : Bool → World → World → Prop} {id : Nat} {ops : List Oper} {Q : Exit → Act → World → Prop} {a0 : Act} {w : World} (n m : Nat) (hmn : m < n) (hm : P.follows .mixedOrders = true) (hB : lexB ops n a0.tmps.size = true)
    (hE : ∀ ph w, E ph w w) (h12 : ∀ w w', E true w w' → E false w w') (hC : C false w.drew)
    (hpm : p ≠ m) (hin : inAfter ops m p = true) (hpd : (ops[p]?).bind (·.dst) = some t) (hom : ops[m]? = some om) (hrm : relOk ops m rsm = true) (htl : om.looksAt ops.toArray |>.contains t) (hGm : ∀ v w w', E true w w' → G v w → G v w')
    (h : lexGoalQ P C E m ops a0 (fun done => (∀ w, C false w → lexVals w (lexPick ops done rsm) a0 fun a => GUpon (G (a.tmps.getD t undef)) ((execOp a.eval om).run P w)) ∧ ∀ w, C true w → lexVals w (lexPick ops done (List.range n)) a0 fun a => G (a.tmps.getD t undef) w → wpList P ops.toArray Q (ops.drop n) a w) [] (ops.take n)) : (Code.region id ops.toArray true).wp P Q a0 w := by
  simp only [lexB, Bool.and_eq_true, Bool.or_eq_true, decide_eq_true_eq, beq_iff_eq] at hB
  obtain ⟨⟨⟨⟨hsel, hnl⟩, htail⟩, hseq⟩, hdst⟩ := hB
  have htail' : n = ops.length ∨ (n < ops.length ∧ Region.sinkB .any ops.toArray n = true ∧ Region.chainB .any ops.toArray n = true) := by
    rcases htail with h | h
    · exact Or.inl h
    · exact Or.inr ⟨h.1.1, h.1.2, h.2⟩
  obtain ⟨all, hl, _, hF, hk⟩ := lexGoalQ_all _ _ h
  have hall : all.length = n := by simp at hl; omega
  refine wp_region_any hm ?_
  have inv0 : HeadInv .any ops.toArray n (Array.replicate ops.toArray.size false) :=
    ⟨by simp, fun j oj _ hl => (by rw [getD_replicate_false] at hl; cases hl), fun t _ ht => getD_in (by simpa using ht) (getD_replicate_false _ _)⟩
  have hfalse : ∀ j, j < n → (Array.replicate ops.toArray.size false).getD j true = false := fun j hj => getD_in (by simp; omega) (getD_replicate_false _ _)
  have L0 : LexInv (C ((Array.replicate ops.toArray.size false).getD m false)) ops n all a0 (Array.replicate ops.toArray.size false) a0 w.drew :=
    ⟨by rw [getD_replicate_false]; exact hC, rfl, rfl, fun j o d s hj _ _ _ _ hl => (by rw [hfalse j hj] at hl; cases hl), fun j o s hj _ _ _ hl => (by rw [hfalse j hj] at hl; cases hl), fun _ _ => rfl⟩
  have hu : unl n (Array.replicate ops.toArray.size false) = n := by
    unfold unl
    rw [List.filter_eq_self.2 fun j hj => by rw [hfalse j (List.mem_range.1 hj)]; rfl]
    simp
  have := lex_runH (Q := Q) hE h12 hmn hall hnl hsel htail' hseq hdst (fun k o hkn hko => by
    have h1 : (ops.take n)[k]? = some o := by rw [List.getElem?_take, if_pos hkn]; exact hko
    obtain ⟨s, rs, h2, h3, h4, h5⟩ := hk k o h1
    simp only [List.length_nil, Nat.zero_add] at h2 h3 h4 h5
    exact ⟨s, rs, h2, h3, h4, h5⟩) hpm hin hpd hom hrm (by simpa using htl) hGm hF.1 hF.2 n _ a0 w.drew inv0 L0 (fun hl => by rw [getD_replicate_false] at hl; cases hl) hu
  have hfuel : n + (ops.length - n) = ops.toArray.size := by simp; omega
  rw [hfuel] at this
  exact this



theorem lh_start {P : Program} {C : Bool → World → Prop} {E : Bool → World → World → Prop} {id : Nat} {ops : List Oper} {Q : Exit → Act → World → Prop} {a0 : Act} {w : World} (n m p t : Nat) (om : Oper) (rsm : List Nat) (G : Value → World → Prop) (hmn : m < n) (hm : P.follows .mixedOrders = true) (hB : lexB ops n a0.tmps.size = true)
    (hpm : p ≠ m) (hin : inAfter ops m p = true) (hpd : (ops[p]?).bind (·.dst) = some t) (hom : ops[m]? = some om) (hrm : relOk ops m rsm = true) (htl : (om.looksAt ops.toArray).contains t = true) (hGm : ∀ v w w', E true w w' → G v w → G v w')
    (hE : ∀ ph w, E ph w w) (h12 : ∀ w w', E true w w' → E false w w') (hC : C false w.drew)
    (h : lexGoQ P C E m ops a0 (fun done => (∀ w, C false w → lexVals w (lexPick ops done rsm) a0 fun a => GUpon (G (a.tmps.getD t undef)) ((execOp a.eval om).run P w)) ∧ ∀ w, C true w → lexVals w (lexPick ops done (List.range n)) a0 fun a => G (a.tmps.getD t undef) w → wpList P ops.toArray Q (ops.drop n) a w) 0 [] (ops.take n)) : (Code.region id ops.toArray true).wp P Q a0 w :=
  wp_region_lexH n m hmn hm hB hE h12 hC hpm hin hpd hom hrm htl hGm (h rfl)

theorem lh_stop {P : Program} {C : Bool → World → Prop} {E : Bool → World → World → Prop} {m t : Nat} {ops : List Oper} {a0 : Act} {Q : Exit → Act → World → Prop} {i n : Nat} {done : List Sp} {om : Oper} {rsm : List Nat} {G : Value → World → Prop} (rs : List (Nat × Tmp)) (hl : done.length = n) (hn : n ≤ ops.length)
    (hk : (rs.all fun p => decide (p.1 < done.length)) = true) (hd : dstIs ops done.length rs = true) (hrs : (rs.map fun p => done.length - 1 - p.1) = rsm)
    (h1 : ∀ w, C false w → lexVals w (pk done rs) a0 fun a => GUpon (G (a.tmps.getD t undef)) ((execOp a.eval om).run P w))
    (h2 : ∀ w', C true w' → lexVals w' (pf (rv done []) ops) a0 fun a => G (a.tmps.getD t undef) w' → wpList P ops.toArray Q (ops.drop n) a w') :
    lexGoQ P C E m ops a0 (fun done => (∀ w, C false w → lexVals w (lexPick ops done rsm) a0 fun a => GUpon (G (a.tmps.getD t undef)) ((execOp a.eval om).run P w)) ∧ ∀ w, C true w → lexVals w (lexPick ops done (List.range n)) a0 fun a => G (a.tmps.getD t undef) w → wpList P ops.toArray Q (ops.drop n) a w) i done [] := fun _ => by
  refine ⟨fun w hw => ?_, fun w' hw' => ?_⟩
  · have h3 := h1 w hw
    rw [← picks_eq (picks_of done rs hk) hd, hrs] at h3
    exact h3
  · have h3 := h2 w' hw'
    rw [rv_eq, List.append_nil, ← pf_eq ops done.reverse (by rw [List.length_reverse]; omega), List.length_reverse, hl] at h3
    exact h3

end Go.Proofs.YtihlpfdhallfpaaDoor
