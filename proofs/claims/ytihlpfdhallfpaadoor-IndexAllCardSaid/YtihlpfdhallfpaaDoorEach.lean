/-
  A range over a function that is told of each value it is handed where it lies in memory: the law of the loop. No conditions.
-/
import Derived.Test.YtihlpfdhallfpaaDoorBase
import Derived.RangeFuncRecord
import Derived.RangeFuncSeq
import Derived.RangeFuncCalls
import Derived.OwnWalkIn
namespace Go.Proofs.YtihlpfdhallfpaaDoor
open Go.RowKit

/-- What a function that is ranged over owes: in state s it hands over x, which lies so in memory, and is then in state s'. -/
def IterOk {α σ : Type} (F : Fence) (n : Nat) (P : Program) (gf : FuncId) (lb : Array Value) (enc : α → Array Value) (nx : σ → α → World → σ → Prop) (s0 : σ) (Fin : σ → Prop) (Src : World → Prop) : Prop :=
  ∀ (l : Nat) (J : σ → World → Prop) (Jx : World → Prop) (W : World), (∀ s A B, J s A → Ext A B → J s B) → (∀ s A, J s A → Src A) →
    (∀ s x s' A, J s A → nx s x A s' → YieldAt F (n - 1) P l (enc x) A fun e A' => (e = .returned (.bool true) ∧ J s' A') ∨ (e = .returned (.bool false) ∧ Jx A')) → J s0 W →
    CallsIn F n P gf (#[.func (.yield l) #[] #[]] ++ lb) W fun e A => (∃ v, e = .returned v) ∧ ((∃ s, Fin s ∧ J s A) ∨ Jx A)
/-- The loop's record. -/
def eachRec (fn : FuncId) (tmps : Array Value) (ps : Array Tmp) (assign body : Code) (D : Nat) (st : LoopState) (pe : Option Code) : Loop := { state := st, pending := pe, fn := fn, tmps := tmps, params := ps, assign := assign, body := body, defers := D }
/-- The loop's two blocks are kept. -/
def Keeps2 (D : Nat) (A B : World) : Prop := B.heap[D]? = A.heap[D]? ∧ B.heap[D + 1]? = A.heap[D + 1]?
/-- How a round may be left. -/
def eachPost {σ : Type} (D : Nat) (I : σ → World → Prop) (X : Code → World → Prop) (s' : σ) (A : World) : Exit → Act → World → Prop
  | .normal, _, B => Keeps2 D A B ∧ I s' B
  | .ret, _, B => Keeps2 D A B ∧ X .ret B
  | .exit id, _, B => Keeps2 D A B ∧ X (.exit id) B
  | .goto t, _, B => Keeps2 D A B ∧ X (.goto t) B
  | .panic _, _, _ => False
  | .outgrown, _, _ => False
/-- A block that holds no cells. -/
def NoCells (A : World) (l : Nat) : Prop := ∃ o, A.heap[l]? = some o ∧ o.isCells = false

section
variable {F : Fence} {n : Nat} {P : Program}
theorem wpIn_each {α σ : Type} {g : Operand} {ps : Array Tmp} {assign body : Code} {Q : Exit → Act → World → Prop} {a : Act} {w : World} (hro : F.round = none) (h1 : 1 ≤ n) {gf : Nat} {lb : Array Value}
    (hg : a.eval g = .func (.func gf) #[] lb) (hFg : F.fn gf) (eg : ∀ args w, (callFunc gf args).run P w = .ok (.enter gf args) w)
    {enc : α → Array Value} {nx : σ → α → World → σ → Prop} {s0 : σ} {Fin : σ → Prop} {Src : World → Prop} (hit : IterOk F (n - 1) P gf lb enc nx s0 Fin Src) (hps : ∀ x, (enc x).size = ps.size)
    (I : σ → World → Prop) (X : Code → World → Prop) (Ax : α → Act → World → Prop)
    (hIe : ∀ s A B, I s A → Ext A B → I s B) (hIs : ∀ s A, I s A → Src A) (hNe : ∀ s x A B s', nx s x A s' → Ext A B → nx s x B s')
    (hIp : ∀ s A l o, w.heap.size ≤ l → NoCells A l → I s A → I s (A.putObj l o)) (hXp : ∀ c A l o, w.heap.size ≤ l → NoCells A l → X c A → X c (A.putObj l o))
    (hNp : ∀ s x A s' l o, NoCells A l → nx s x A s' → nx s x (A.putObj l o) s') (hAp : ∀ x a' A l o, NoCells A l → Ax x a' A → Ax x a' (A.putObj l o))
    (h0 : I s0 w)
    (hassign : ∀ l s x s' A (K : Act → World → Prop), I s A → nx s x A s' → (∀ a' B, Ext A B → Ax x a' B → K a' B) →
      assign.wpIn (F.inRound l) (n - 1 - 1) P (Exit.then K fun _ _ _ => False) { tmps := (ps.zip (enc x)).foldl (fun t (p, v) => t.setIfInBounds p v) a.tmps, defers := [] } A)
    (hbody : ∀ l s x s' a' A, I s A → nx s x A s' → Ax x a' A → w.heap.size + 1 < A.heap.size → NoCells A w.heap.size → NoCells A (w.heap.size + 1) → body.wpIn (F.inRound l) (n - 1 - 1) P (eachPost w.heap.size I X s' A) a' A)
    (hdone : ∀ s A, Fin s → I s A → A.heap[w.heap.size]? = some (.deferred (some [])) → Q .normal { a with defers := { target := .collected w.heap.size, args := #[] } :: a.defers } A)
    (hstop : ∀ c A, X c A → A.heap[w.heap.size]? = some (.deferred (some [])) → c.wpIn F n P Q { a with defers := { target := .collected w.heap.size, args := #[] } :: a.defers } A) :
    (Code.rangeFunc g ps assign body).wpIn F n P Q a w := by
  refine wpIn_rangeFunc fun fn hfn => ?_
  rw [hro]
  obtain ⟨D, hD⟩ : ∃ D, w.heap.size = D := ⟨_, rfl⟩
  obtain ⟨W1, hW1⟩ : ∃ W1, (w.alloc (.deferred (some []))).alloc (.loop (eachRec fn a.tmps ps assign body D .ready none)) = W1 := ⟨_, rfl⟩
  have hE1 : Ext w W1 := by rw [← hW1]; exact ((Ext.refl w).alloc _).alloc _
  have hL1 : W1.heap[D + 1]? = some (.loop (eachRec fn a.tmps ps assign body D .ready none)) := by
    rw [← hW1, ← hD]
    exact heap_new _ _ _ (by simp)
  have hK1 : W1.heap[D]? = some (.deferred (some [])) := by
    rw [← hW1, ← hD]
    exact Ext.keep ((Ext.refl _).alloc _) (heap_new w _ _ rfl)
  rw [hD] at hIp hXp hbody hdone hstop
  refine ⟨D + 1, [{ target := .collected D, args := #[] }], W1, { target := .fn (.func gf) lb, args := #[.func (.yield (D + 1)) #[] #[]] }, W1, gf, #[.func (.yield (D + 1)) #[] #[]] ++ lb, W1, ?_, ?_, ?_, ?_, fun _ => h1, ?_⟩
  · rw [← hW1, ← hD]
    exact run_enterLoop_outer _ _ _ _ _
  · simp only [resolve, hg]
    simp [go_sem]
  · intro f' hf'
    simp [Target.leads] at hf'
    subst hf'
    exact hFg
  · simp [invoke, go_sem, eg]
  have hit' := hit (D + 1)
    (fun s A => I s A ∧ A.heap[D + 1]? = some (.loop (eachRec fn a.tmps ps assign body D .ready none)) ∧ A.heap[D]? = some (.deferred (some [])))
    (fun A => ∃ c, X c A ∧ A.heap[D + 1]? = some (.loop (eachRec fn a.tmps ps assign body D .done (some c))) ∧ A.heap[D]? = some (.deferred (some [])))
    W1 (fun s A B h hE => ⟨hIe s A B h.1 hE, hE.keep h.2.1, hE.keep h.2.2⟩) (fun s A h => hIs s A h.1) ?_ ⟨hIe _ _ _ h0 hE1, hL1, hK1⟩
  · refine hit'.mono ?_
    rintro e A ⟨⟨v, rfl⟩, ⟨s, hF, hi, hl, hk⟩ | ⟨c, hx, hl, hk⟩⟩
    · have hn : NoCells A (D + 1) := ⟨_, hl, rfl⟩
      exact ⟨none, _, run_endLoop hl (by simp [eachRec]), hdone s _ hF (hIp s A _ _ (by omega) hn hi) ((World.putObj_heap_other (by omega)).trans hk)⟩
    · have hn : NoCells A (D + 1) := ⟨_, hl, rfl⟩
      exact ⟨some c, _, run_endLoop hl (by simp [eachRec]), hstop c _ (hXp c A _ _ (by omega) hn hx) ((World.putObj_heap_other (by omega)).trans hk)⟩
  · rintro s x s' A ⟨hi, hl, hk⟩ hn
    refine ⟨fn, _, assign, body, run_yield hl (hps x), roundIn_of_wpIn hfn (hassign (D + 1) s x s' A _ hi hn ?_)⟩
    intro a' B hE hax
    have hl2 := hE.keep hl
    have hk2 := hE.keep hk
    have hn2 : NoCells B (D + 1) := ⟨_, hl2, rfl⟩
    have hlt := (Array.getElem?_eq_some_iff.1 hl2).1
    refine ⟨_, run_beginRound hl2 rfl, ?_⟩
    obtain ⟨C, hC⟩ : ∃ C, B.putObj (D + 1) (.loop (eachRec fn a.tmps ps assign body D .busy none)) = C := ⟨_, rfl⟩
    have hl3 : C.heap[D + 1]? = some (.loop (eachRec fn a.tmps ps assign body D .busy none)) := by rw [← hC]; exact World.putObj_heap_same hlt
    have hk3 : C.heap[D]? = some (.deferred (some [])) := by rw [← hC]; exact (World.putObj_heap_other (by omega)).trans hk2
    have hi3 : I s C := by rw [← hC]; exact hIp s B _ _ (by omega) hn2 (hIe _ _ _ hi hE)
    have hx3 : nx s x C s' := by rw [← hC]; exact hNp _ _ _ _ _ _ hn2 (hNe _ _ _ _ _ hn hE)
    have ha3 : Ax x a' C := by rw [← hC]; exact hAp _ _ _ _ _ hn2 hax
    have hz3 : D + 1 < C.heap.size := (Array.getElem?_eq_some_iff.1 hl3).1
    refine wpIn_mono (show body.wpIn (F.inRound (D + 1)) (n - 1 - 1) P (eachPost D I X s' C) a' (B.putObj (D + 1) (.loop (eachRec fn a.tmps ps assign body D .busy none))) by
      rw [hC]
      exact hbody (D + 1) s x s' a' C hi3 hx3 ha3 hz3 ⟨_, hk3, rfl⟩ ⟨_, hl3, rfl⟩) ?_
    have fin : ∀ (j : Option Code) (E : World), Keeps2 D C E → (Instr.endRound (D + 1) j).run P E = .ok (.bool j.isNone) (E.putObj (D + 1) (.loop (eachRec fn a.tmps ps assign body D (if j.isNone then .ready else .done) j))) ∧ NoCells E (D + 1) ∧
        (E.putObj (D + 1) (.loop (eachRec fn a.tmps ps assign body D (if j.isNone then .ready else .done) j))).heap[D + 1]? = some (.loop (eachRec fn a.tmps ps assign body D (if j.isNone then .ready else .done) j)) ∧
        (E.putObj (D + 1) (.loop (eachRec fn a.tmps ps assign body D (if j.isNone then .ready else .done) j))).heap[D]? = some (.deferred (some [])) := fun j E hE => by
      have h2 : E.heap[D + 1]? = some (.loop (eachRec fn a.tmps ps assign body D .busy none)) := hE.2.trans hl3
      exact ⟨run_endRound j h2, ⟨_, h2, rfl⟩, World.putObj_heap_same (Array.getElem?_eq_some_iff.1 h2).1, (World.putObj_heap_other (by omega)).trans (hE.1.trans hk3)⟩
    intro e a3 E hp
    cases e with
    | normal =>
      obtain ⟨hr, hn, h4, h5⟩ := fin none E hp.1
      exact ⟨_, _, hr, .inl ⟨rfl, hIp _ _ _ _ (by omega) hn hp.2, h4, h5⟩⟩
    | ret =>
      obtain ⟨hr, hn, h4, h5⟩ := fin (some .ret) E hp.1
      exact ⟨_, _, hr, .inr ⟨rfl, .ret, hXp _ _ _ _ (by omega) hn hp.2, h4, h5⟩⟩
    | exit id =>
      obtain ⟨hr, hn, h4, h5⟩ := fin (some (.exit id)) E hp.1
      exact ⟨_, _, hr, .inr ⟨rfl, .exit id, hXp _ _ _ _ (by omega) hn hp.2, h4, h5⟩⟩
    | goto t =>
      obtain ⟨hr, hn, h4, h5⟩ := fin (some (.goto t)) E hp.1
      exact ⟨_, _, hr, .inr ⟨rfl, .goto t, hXp _ _ _ _ (by omega) hn hp.2, h4, h5⟩⟩
    | panic c => exact hp.elim
    | outgrown => exact hp.elim
end

/-- An operation that puts no call off. -/
def noDefer (o : Oper) : Bool := match o.op with | .defer _ => false | _ => true
/-- The wide fence, in a round or in none. -/
abbrev wideAt (ro : Option Nat) : Fence := { Fence.wide with round := ro }
theorem uponIn_of {ro : Option Nat} {n : Nat} {P : Program} {o : Oper} {a : Act} {next next' : Act → World → Prop} {Q : Exit → Act → World → Prop} (hn : ∀ a w, next a w → next' a w) {res : Result Next} (h : o.upon P a next Q res) : o.uponIn (wideAt ro) n P a next' Q res := by
  cases res with
  | ok x w' =>
    cases x with
    | value v => exact hn _ _ h
    | skip => exact hn _ _ h
    | «defer» d => exact hn _ _ h
    | enter f args =>
      have hc : CallsIn Fence.wide (n - 1) P f args w' _ := callsIn_wide.2 (Calls.mono h (R' := fun e w2 => match e with
        | .returned v => next' (a.put o.dst v) w2
        | .panicked chain => Q (.panic chain) a w2
        | .outgrown => LetsOut Q) fun e w2 he => by
          cases e with
          | returned v => exact hn _ _ he
          | panicked c => exact he
          | outgrown => exact he)
      refine ⟨(fun e => by cases e), CallsIn.mono (show CallsIn (wideAt ro) (n - 1) P f args w' _ from hc) fun e w2 he => ?_⟩
      cases e with
      | returned v => exact he
      | panicked c => exact he
      | outgrown => exact he
    | row row args =>
      refine ⟨(fun e => by cases e), fun c cs _ => ?_⟩
      obtain ⟨v, w2, hv, hs⟩ := h c cs
      exact ⟨v, w2, hn _ _ hv, stepsIn_wide.2 hs⟩
    | _ => exact h.elim
  | halt x w' =>
    cases x with
    | «panic» v => exact h
    | _ => exact h.elim
/-- Operations walked as everywhere go within the wide fence, in a round too. -/
theorem listIn_of {ro : Option Nat} {n : Nat} {P : Program} {ops : Array Oper} {Q : Exit → Act → World → Prop} (hno : ¬ LetsOut Q) : ∀ (l : List Oper) (a : Act) (w : World), l.all noDefer = true → wpList P ops Q l a w → wpListIn (wideAt ro) n P ops Q l a w
  | [], _, _, _, h => h
  | o :: l, a, w, hd, h => by
    rw [List.all_cons, Bool.and_eq_true] at hd
    unfold wpList at h
    unfold wpListIn
    split at h
    · rename_i hw
      rw [if_pos hw]
      rcases h with h | ⟨_, h⟩
      · refine ⟨fun _ _ => trivial, ?_⟩
        rw [Oper.semAt_eq _ _ _ (fun c e => by have h1 := hd.1; unfold noDefer at h1; rw [e] at h1; cases h1)]
        exact uponIn_of (fun a w h => listIn_of hno l a w hd.2 h) h
      · exact absurd h hno
    · rename_i hw
      rw [if_neg hw]
      exact ⟨fun _ _ => trivial, listIn_of hno l _ _ hd.2 h⟩
/-- An operation that yields a value. -/
theorem listIn_val {n : Nat} {P : Program} {ops : Array Oper} {Q : Exit → Act → World → Prop} {rest : List Oper} {o : Oper} {a : Act} {w w' : World} {v : Value} (hw : Region.wanted o (yielded ops a.tmps) = true) (hr : (execOp a.eval o).run P w = .ok (.value v) w')
    (h : wpListIn Fence.wide n P ops Q rest (a.put o.dst v) w') : wpListIn Fence.wide n P ops Q (o :: rest) a w := by
  unfold wpListIn
  rw [if_pos hw]
  refine ⟨fun _ _ => trivial, ?_⟩
  rw [show Fence.wide.round = none from rfl, Oper.semAt_none, hr]
  exact h
/-- A call of yield. -/
theorem listIn_yield {n : Nat} {P : Program} {ops : Array Oper} {Q : Exit → Act → World → Prop} {rest : List Oper} {o : Oper} {a : Act} {w : World} {x y : Operand} {ts : Array TypeId} {l : Nat} {v : Value} {R : Ending → World → Prop} (hw : Region.wanted o (yielded ops a.tmps) = true) (ho : o.op = .call { callee := .value x, args := #[y], argTypes := ts })
    (hx : a.eval x = .func (.yield l) #[] #[]) (hy : a.eval y = v) (hY : YieldAt Fence.wide (n - 1) P l #[v] w R) (h : ∀ e w', R e w' → ∃ u, e = .returned u ∧ wpListIn Fence.wide n P ops Q rest (a.put o.dst u) w') : wpListIn Fence.wide n P ops Q (o :: rest) a w := by
  obtain ⟨fn, tmps, assign, body, hy1, hR⟩ := hY
  unfold wpListIn
  rw [if_pos hw]
  refine ⟨fun _ _ => trivial, ?_⟩
  have hr : (execOp a.eval o).run P w = .ok (.round l fn tmps assign body) w := by
    simp only [execOp, ho, resolve, hx, hy, List.map_toArray, List.map_cons, List.map_nil]
    simp [invoke, go_sem, hy1]
  rw [show Fence.wide.round = none from rfl, Oper.semAt_none, hr]
  refine ⟨(fun e => by cases e), hR.mono fun e w' he => ?_⟩
  obtain ⟨u, rfl, h2⟩ := h e w' he
  exact h2
theorem region_in {r n : Nat} {P : Program} {id : Nat} {l : List Oper} {Q : Exit → Act → World → Prop} {a : Act} {w : World} (hno : ¬ LetsOut Q) (hd : l.all noDefer = true) (h : wpList P l.toArray Q l a w) : (Code.region id l.toArray false).wpIn (Fence.wide.inRound r) n P Q a w :=
  wpIn_region_lit (listIn_of (ro := some r) hno l a w hd h)

/-- A region that ends as it should, whatever comes behind it. -/
theorem regionN_in {r n : Nat} {P : Program} {id : Nat} {l : List Oper} {K : Act → World → Prop} {Q : Exit → Act → World → Prop} {a : Act} {w : World} (hd : l.all noDefer = true) (hk : ∀ a w, K a w → Q .normal a w) (h : wpList P l.toArray (Exit.then K fun _ _ _ => False) l a w) : (Code.region id l.toArray false).wpIn (Fence.wide.inRound r) n P Q a w :=
  wpIn_mono (region_in (fun ⟨_, _, h⟩ => h) hd h) fun e a w he => by
    cases e with
    | normal => exact hk a w he
    | _ => exact False.elim he

end Go.Proofs.YtihlpfdhallfpaaDoor
