/-
  A region that draws its order and makes ONE row of its own, which it then writes: what each operation gives, the row's block being the next one. No conditions.
-/
import Derived.Test.YtihlpfdhallfpaaDoorLexP
import Derived.Test.YtihlpfdhallfpaaDoorBase
namespace Go.Proofs.YtihlpfdhallfpaaDoor
open Go.RowKit

/-- Where such a region stands: ahead of the new row, and behind it. -/
def RowR (S : Nat) (T : TypeId) (n : Nat) (w0 : World) (ph : Bool) (w : World) : Prop := Below S w0 w ∧ (ph = false → w.heap.size = S) ∧ (ph = true → w.heap.size = S + 1 ∧ ∃ cs, w.heap[S]? = some (.cells cs T (0, 0)) ∧ cs.size = n)
/-- What stays. -/
def RowE (S : Nat) (F : Obj) (w w' : World) : Prop := Below S w w' ∧ w.heap.size ≤ w'.heap.size ∧ (w.heap[S]? = some F → w'.heap[S]? = some F)
theorem RowE.refl (S : Nat) (F : Obj) (w : World) : RowE S F w w := ⟨⟨rfl, rfl, rfl, Nat.le_refl _, fun _ _ => rfl⟩, Nat.le_refl _, id⟩
theorem RowR.start (w : World) (T : TypeId) (n : Nat) : RowR w.heap.size T n w false w.drew := ⟨⟨rfl, rfl, rfl, Nat.le_refl _, fun _ _ => rfl⟩, fun _ => rfl, fun h => by cases h⟩

section
variable {P : Program} {S n : Nat} {T : TypeId} {F : Obj} {w0 : World} {m : Nat} {ops : List Oper} {a0 : Act} {G : List Sp → Prop} {i : Nat} {done : List Sp} {o : Oper} {rest : List Oper}

/-- Any operation but the one that makes the row. -/
theorem lq_g {C : Bool → World → Prop} {E : Bool → World → World → Prop} (s : Sp) (rs : List (Nat × Tmp)) (him : i ≠ m) (hr : relOkR ops i rs = true) (hg : o.guard = none) (hk : (rs.all fun p => decide (p.1 < done.length)) = true) (hm : s.mono (E false))
    (hs : ∀ ph w, C ph w → lexVals w (pk done rs) a0 fun a => lexUponC P (C ph) (E ph) w s ((execOp a.eval o).run P w))
    (h : lexGoQ P C E m ops a0 G (i + 1) (s :: done) rest) : lexGoQ P C E m ops a0 G i done (o :: rest) := fun hi => by
  subst hi
  unfold relOkR at hr
  rw [Bool.and_eq_true] at hr
  have hp := picks_of done rs hk
  have hwt : ∀ y, Region.wanted o y = true := fun y => by simp [Region.wanted, hg]
  refine ⟨s, rs.map fun p => done.length - 1 - p.1, by rw [List.length_reverse]; exact hr.1, (show monoQ E m done.reverse.length s by unfold monoQ; rw [List.length_reverse, if_neg him]; exact hm), ⟨fun e => absurd (by rw [← e, List.length_reverse]) him, fun _ ph w hw => ?_⟩, ?_⟩
  · rw [picks_eq hp hr.2]
    refine lexVals_mono _ a0 _ _ (fun a ha => ?_) (hs ph w hw)
    rw [if_pos (hwt _)]
    exact ha
  · have := h rfl
    rwa [List.reverse_cons] at this

/-- An operation that gives a value and leaves the world. -/
theorem lr_p (v : Value) (rs : List (Nat × Tmp)) (him : i ≠ m) (hr : relOkR ops i rs = true) (hg : o.guard = none) (hk : (rs.all fun p => decide (p.1 < done.length)) = true)
    (hs : ∀ w, Below S w0 w → lexVals w (pk done rs) a0 fun a => (execOp a.eval o).run P w = .ok (.value v) w)
    (h : lexGoQ P (RowR S T n w0) (fun _ => RowE S F) m ops a0 G (i + 1) (.ex v :: done) rest) : lexGoQ P (RowR S T n w0) (fun _ => RowE S F) m ops a0 G i done (o :: rest) :=
  lq_g (.ex v) rs him hr hg hk trivial (fun _ w hw => lexVals_mono _ a0 _ _ (fun a ha => by rw [ha]; exact ⟨hw, RowE.refl S F w, rfl⟩) (hs w hw.1)) h

/-- The operation that makes the row. -/
theorem lr_new (Z : Array Value) (rs : List (Nat × Tmp)) (him : i = m) (hr : relOkR ops i rs = true) (hg : o.guard = none) (hk : (rs.all fun p => decide (p.1 < done.length)) = true) (hZ : Z.size = n)
    (hs : ∀ w, lexVals w (pk done rs) a0 fun a => (execOp a.eval o).run P w = .ok (.value (.pointer (some ⟨w.heap.size, 0, none⟩))) (w.alloc (.cells Z T)))
    (h : lexGoQ P (RowR S T n w0) (fun _ => RowE S F) m ops a0 G (i + 1) (.ab (fun u w => u = .pointer (some ⟨S, 0, none⟩) ∧ S < w.heap.size) :: done) rest) : lexGoQ P (RowR S T n w0) (fun _ => RowE S F) m ops a0 G i done (o :: rest) :=
  lq_m (.ab (fun u w => u = .pointer (some ⟨S, 0, none⟩) ∧ S < w.heap.size)) rs him hr hg hk (show Sp.mono (RowE S F) (.ab _) from fun u w w' he h1 => ⟨h1.1, Nat.lt_of_lt_of_le h1.2 he.2.1⟩) (fun w hw => lexVals_mono _ a0 _ _ (fun a ha => by
    rw [ha]
    have hs0 := hw.2.1 rfl
    have hn : w.heap[S]? = none := by rw [← hs0]; exact Array.getElem?_eq_none (Nat.le_refl _)
    have hx : (w.alloc (.cells Z T)).heap.size = S + 1 := by simp [hs0]
    have hb : Below S w (w.alloc (.cells Z T)) := by rw [← hs0]; exact (Ext.refl w).alloc _
    have c1 : true = false → (w.alloc (.cells Z T)).heap.size = S := fun h => (by cases h)
    have c2 : w.heap[S]? = some F → (w.alloc (.cells Z T)).heap[S]? = some F := fun h => (by rw [hn] at h; cases h)
    exact ⟨⟨hw.1.trans hb, c1, fun _ => ⟨hx, Z, heap_new w _ _ hs0.symm, hZ⟩⟩, ⟨hb, by omega, c2⟩, by rw [hs0], by omega⟩) (hs w)) h

/-- The operation that writes the row. -/
theorem lr_put (cs : Array Value) (T' : TypeId) (x y : Operand) (ho : o.op = .store T' x y) (rs : List (Nat × Tmp)) (him : i ≠ m) (hr : relOkR ops i rs = true) (hg : o.guard = none) (hk : (rs.all fun p => decide (p.1 < done.length)) = true) (hF : F = .cells cs T (0, 0)) (hn : cs.size = n) (hi : (P.info? T').map (·.size) = some cs.size) (h1 : cs.all (·.oneCell') = true)
    (hs : ∀ w, Below S w0 w → lexVals w (pk done rs) a0 fun a => a.eval x = .pointer (some ⟨S, 0, none⟩) ∧ S < w.heap.size ∧ a.eval y = .agg cs)
    (h : lexGoQ P (RowR S T n w0) (fun _ => RowE S F) m ops a0 G (i + 1) (.ab (fun _ w => w.heap[S]? = some F) :: done) rest) : lexGoQ P (RowR S T n w0) (fun _ => RowE S F) m ops a0 G i done (o :: rest) :=
  lq_g (.ab (fun _ w => w.heap[S]? = some F)) rs him hr hg hk (show Sp.mono (RowE S F) (.ab _) from fun u w w' he h1 => he.2.2 h1) (fun ph w hw => lexVals_mono _ a0 _ _ (fun a ⟨hx, hlt, hy⟩ => by
    cases ph with
    | false => have := hw.2.1 rfl; omega
    | true =>
      obtain ⟨hsz, c0, hc0, hc0n⟩ := hw.2.2 rfl
      have hset := setRow_heap w S c0 cs T (0, 0) hc0
      have c1 : true = false → (w.setRow S cs).heap.size = S := fun h => (by cases h)
      simp only [execOp, ho, hx, hy, Instr.storeAt, Instr.sureAddr, Sem.run_bind, Sem.run_pure, Result.andThen_ok, run_storeVar_row w S T T' c0 cs hc0 hi (by rw [hn, hc0n]) h1]
      exact ⟨⟨below_setRow hw.1 (Nat.le_refl _) _, c1, fun _ => ⟨by simpa using hsz, cs, hset, hn⟩⟩, ⟨below_setRow ⟨rfl, rfl, rfl, Nat.le_refl _, fun _ _ => rfl⟩ (Nat.le_refl _) _, by simp, fun _ => by rw [hF]; exact hset⟩, by rw [hF]; exact hset⟩) (hs w hw.1)) h
end

end Go.Proofs.YtihlpfdhallfpaaDoor
