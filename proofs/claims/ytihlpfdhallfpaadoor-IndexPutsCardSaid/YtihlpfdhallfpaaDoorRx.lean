/-
  The reference's index: what lies there; how it grows; the walk of its Count. No conditions.
-/
import Derived.Test.YtihlpfdhallfpaaDoorIxS
import Derived.Test.YtihlpfdhallfpaaDoorIxQ
import Derived.Test.YtihlpfdhallfpaaDoorIxQ
namespace Go.Proofs.YtihlpfdhallfpaaDoor
open Go.ChangeShapes Go.WideShapes Go.ChangeAt Go.RowKit

def rsl (R : Nat → Option Addr × Nat) (L : Nat → List Pc) (i : Nat) : Value := .slice (R i).1 (L i).length (R i).2
/-- A block that the reference's index holds. -/
def ROwns (gr : Nat) (R : Nat → Option Addr × Nat) (L : Nat → List Pc) (b : Nat) : Prop := b = gr ∨ ∃ i, i < 6 ∧ (rsl R L i).ownBlock = some b
/-- A block in which a piece's tokens, or its body, lie. -/
def PcBlk (p : Pc) (b : Nat) : Prop := (0 < p.hd.1.tn ∧ ∃ off, p.hd.1.ta = some ⟨b, off, none⟩) ∨ (0 < p.bd.length ∧ ∃ off, p.ba = some ⟨b, off, none⟩)
structure RIx (w : World) (B gr : Nat) (R : Nat → Option Addr × Nat) (L : Nat → List Pc) : Prop where
  row : w.rowIs gr 54 6 (rsl R L)
  own : ∀ i, i < 6 → w.ownsRow B 37 126 (rsl R L i) (L i).length (pisC (L i))
  pcs : ∀ i, i < 6 → ∀ x ∈ L i, PcAt w x
  low : B ≤ gr
  ne : ∀ i, i < 6 → (rsl R L i).ownBlock ≠ some gr
  inj : ∀ i j, i < 6 → j < 6 → i ≠ j → ∀ k, (rsl R L i).ownBlock = some k → (rsl R L j).ownBlock ≠ some k
  far : ∀ i, i < 6 → ∀ x ∈ L i, ∀ b, PcBlk x b → ¬ ROwns gr R L b

theorem PcBlk.lt {w : World} {p : Pc} (h : PcAt w p) {b : Nat} (hb : PcBlk p b) : b < w.heap.size := by
  rcases hb with ⟨h0, off, e⟩ | ⟨h0, off, e⟩
  · exact h.hd.lt h0 e
  · obtain ⟨b', off', e', hc⟩ := h.body.at_ h0
    rw [e] at e'
    simp only [Option.some.injEq, Addr.mk.injEq, and_true] at e'
    obtain ⟨rfl, rfl⟩ := e'
    exact World.block_lt_of_cell? _ _ (hc 0 h0)
theorem PcAt.keep {w w' : World} {p : Pc} (h : PcAt w p) (hk : ∀ b, PcBlk p b → b < w.heap.size → w'.heap[b]? = w.heap[b]?) : PcAt w' p :=
  ⟨⟨h.hd.ok, h.hd.toks.blk fun h0 b off e => hk b (.inl ⟨h0, off, e⟩) (h.hd.lt h0 e)⟩, h.body.blk fun h0 b off e hb => hk b (.inr ⟨h0, off, e⟩) hb, h.room⟩

section
variable {w w' : World} {B gr : Nat} {R : Nat → Option Addr × Nat} {L : Nat → List Pc}
theorem RIx.lt (h : RIx w B gr R L) {b : Nat} (hb : ROwns gr R L b) : B ≤ b ∧ b < w.heap.size := by
  rcases hb with rfl | ⟨i, hi, e⟩
  · exact ⟨h.low, h.row.lt⟩
  · exact (h.own i hi).lt b e
theorem RIx.frame (h : RIx w B gr R L) (_hs : w.heap.size ≤ w'.heap.size) (hk : ∀ b, b < w.heap.size → (ROwns gr R L b ∨ ∃ i, i < 6 ∧ ∃ x ∈ L i, PcBlk x b) → w'.heap[b]? = w.heap[b]?) : RIx w' B gr R L :=
  ⟨h.row.of_block (hk gr h.row.lt (.inl (.inl rfl))), fun i hi => own_keep (h.own i hi) (fun k e => hk k ((h.own i hi).lt k e).2 (.inl (.inr ⟨i, hi, e⟩))), fun i hi x hx => (h.pcs i hi x hx).keep fun b hb hl => hk b hl (.inr ⟨i, hi, x, hx, hb⟩), h.low, h.ne, h.inj, h.far⟩
theorem RIx.ext (h : RIx w B gr R L) (he : Ext w w') : RIx w' B gr R L := h.frame (Below.size he) fun _ hb _ => he.block hb
theorem RIx.pis (h : RIx w B gr R L) (i : Nat) (hi : i < 6) (hs : (L i).length ≤ 100000) : PisAt w (R i).1 (L i).length (R i).2 (L i) := own_pis (h.own i hi) (h.pcs i hi) (by omega)
def upR (R : Nat → Option Addr × Nat) (i : Nat) (s : Option Addr × Nat) : Nat → Option Addr × Nat := fun j => if j = i then s else R j
def upL (L : Nat → List Pc) (i : Nat) (s : List Pc) : Nat → List Pc := fun j => if j = i then s else L j
theorem upR_at (i : Nat) (s : Option Addr × Nat) : upR R i s i = s := if_pos rfl
theorem upR_ne {i j : Nat} (s : Option Addr × Nat) (h : j ≠ i) : upR R i s j = R j := if_neg h
theorem upL_at (i : Nat) (s : List Pc) : upL L i s i = s := if_pos rfl
theorem upL_ne {i j : Nat} (s : List Pc) (h : j ≠ i) : upL L i s j = L j := if_neg h
/-- A piece put behind the i-th row. -/
theorem RIx.push {w2 w3 : World} {i : Nat} {x : Pc} {a3 : Option Addr} {c3 N : Nat} {ra : Option Addr} {rc : Nat} (h : RIx w B gr R L) (hi : i < 6) (e1 : (R i).1 = ra) (e2 : (R i).2 = rc) (e3 : (L i).length = N) (hx : PcAt w x) (hf : ∀ b, PcBlk x b → ¬ ROwns gr R L b) (hE : Ext w w2)
    (ho : w3.ownsRow B 37 126 (.slice a3 (N + 1) c3) (N + 1) (pisC (L i ++ [x]))) (hG : w2.grownBy w3 (Value.slice ra N rc).ownBlock)
    (hw : (Value.slice a3 (N + 1) c3).ownBlock = (Value.slice ra N rc).ownBlock ∨ (Value.slice a3 (N + 1) c3).ownBlock = some w2.heap.size) :
    w3.cell? ⟨gr, i, none⟩ = some (.slice ra N rc) ∧ w3.frozen? ⟨gr, i, none⟩ = false ∧ RIx (w3.setCell ⟨gr, i, none⟩ (.slice a3 (N + 1) c3)) B gr (upR R i (a3, c3)) (upL L i (L i ++ [x])) ∧
      (∀ b, ROwns gr (upR R i (a3, c3)) (upL L i (L i ++ [x])) b → ROwns gr R L b ∨ w.heap.size ≤ b) ∧ Kp w (w3.setCell ⟨gr, i, none⟩ (.slice a3 (N + 1) c3)) (fun k => ¬ ROwns gr R L k) := by
  subst e1 e2 e3
  obtain ⟨R2, hR2⟩ : ∃ x, upR R i (a3, c3) = x := ⟨_, rfl⟩
  obtain ⟨L2, hL2⟩ : ∃ z, upL L i (L i ++ [x]) = z := ⟨_, rfl⟩
  obtain ⟨w4, hw4⟩ : ∃ z, w3.setCell ⟨gr, i, none⟩ (.slice a3 ((L i).length + 1) c3) = z := ⟨_, rfl⟩
  have r2at : R2 i = (a3, c3) := by rw [← hR2]; exact upR_at _ _
  have r2ne : ∀ j, j ≠ i → R2 j = R j := fun j hj => by rw [← hR2]; exact upR_ne _ hj
  have l2at : L2 i = L i ++ [x] := by rw [← hL2]; exact upL_at _ _
  have l2ne : ∀ j, j ≠ i → L2 j = L j := fun j hj => by rw [← hL2]; exact upL_ne _ hj
  have hl2 : (L i ++ [x]).length = (L i).length + 1 := by simp
  have rat : rsl R2 L2 i = .slice a3 ((L i).length + 1) c3 := by unfold rsl; rw [r2at, l2at, hl2]
  have rne : ∀ j, j ≠ i → rsl R2 L2 j = rsl R L j := fun j hj => by unfold rsl; rw [r2ne j hj, l2ne j hj]
  have hs12 := Below.size hE
  have hs23 := hG.size
  have hG4 : w3.grownBy w4 (some gr) := by rw [← hw4]; exact grown_setCell (World.grownBy.refl w3 _) rfl _
  have hs34 := hG4.size
  have hown : (Value.slice (R i).1 (L i).length (R i).2).ownBlock = (rsl R L i).ownBlock := rfl
  rw [hown] at hG hw
  have keep3 : ∀ b, b < w.heap.size → some b ≠ (rsl R L i).ownBlock → w3.heap[b]? = w.heap[b]? := fun b hb hn => by
    rw [hG.block b (by omega) hn, hE.block hb]
  have keep4 : ∀ b, b < w.heap.size → some b ≠ (rsl R L i).ownBlock → b ≠ gr → w4.heap[b]? = w.heap[b]? := fun b hb hn hg => by
    rw [hG4.block b (by omega) (fun e => hg (Option.some.inj e)), keep3 b hb hn]
  have keepN : ∀ b, b < w.heap.size → ¬ ROwns gr R L b → w4.heap[b]? = w.heap[b]? := fun b hb hn => keep4 b hb (fun e => hn (.inr ⟨i, hi, e.symm⟩)) (fun e => hn (.inl e))
  have hr3 : w3.rowIs gr 54 6 (rsl R L) := h.row.of_block (keep3 gr h.row.lt (fun e => h.ne i hi e.symm))
  have nnew : ∀ b, (rsl R2 L2 i).ownBlock = some b → (rsl R L i).ownBlock = some b ∨ w.heap.size ≤ b := fun b e => by
    rw [rat] at e
    rcases hw with q | q
    · exact .inl (q ▸ e)
    · rw [q] at e
      exact .inr (by have := Option.some.inj e; omega)
  have owns2 : ∀ b, ROwns gr R2 L2 b → ROwns gr R L b ∨ w.heap.size ≤ b := fun b hb => by
    rcases hb with rfl | ⟨j, hj, e⟩
    · exact .inl (.inl rfl)
    · by_cases hji : j = i
      · subst hji
        rcases nnew b e with q | q
        · exact .inl (.inr ⟨j, hj, q⟩)
        · exact .inr q
      · rw [rne j hji] at e
        exact .inl (.inr ⟨j, hj, e⟩)
  have far2 : ∀ y, PcAt w y → (∀ b, PcBlk y b → ¬ ROwns gr R L b) → ∀ b, PcBlk y b → ¬ ROwns gr R2 L2 b := fun y hy hn b hb ho => by
    rcases owns2 b ho with q | q
    · exact hn b hb q
    · have := PcBlk.lt hy hb
      omega
  have hmem : ∀ j, j < 6 → ∀ y ∈ L2 j, PcAt w y ∧ ∀ b, PcBlk y b → ¬ ROwns gr R L b := fun j hj y hy => by
    by_cases hji : j = i
    · subst hji
      rw [l2at] at hy
      rcases List.mem_append.1 hy with q | q
      · exact ⟨h.pcs j hj y q, h.far j hj y q⟩
      · obtain rfl := List.mem_singleton.1 q
        exact ⟨hx, hf⟩
    · rw [l2ne j hji] at hy
      exact ⟨h.pcs j hj y hy, h.far j hj y hy⟩
  refine ⟨?_, hr3.frozen _, ?_, ?_, ?_⟩
  · rw [hr3.cell (i := i) (by omega)]
    rfl
  · rw [hR2, hL2, hw4]
    refine ⟨?_, fun j hj => ?_, fun j hj y hy => (hmem j hj y hy).1.keep fun b hb hl => keepN b hl ((hmem j hj y hy).2 b hb), h.low, fun j hj e => ?_, fun j k hj hk hjk b e1 e2 => ?_, fun j hj y hy => far2 y (hmem j hj y hy).1 (hmem j hj y hy).2⟩
    · rw [← hw4]
      refine (hr3.set i _).congr fun j hj => ?_
      by_cases hji : j = i
      · rw [if_pos hji, hji, rat]
      · rw [if_neg hji, rne j hji]
    · by_cases hji : j = i
      · subst hji
        rw [rat, l2at, hl2]
        refine own_keep ho fun k e => hG4.block k (ho.lt k e).2 (fun e2 => ?_)
        obtain rfl := Option.some.inj e2
        rw [← rat] at e
        rcases nnew _ e with q | q
        · exact h.ne j hj q
        · have := h.row.lt
          omega
      · rw [rne j hji, l2ne j hji]
        exact own_keep (h.own j hj) fun k e => keep4 k ((h.own j hj).lt k e).2 (fun e2 => h.inj j i hj hi hji k e e2.symm) (fun e2 => h.ne j hj (by rw [e, e2]))
    · by_cases hji : j = i
      · subst hji
        rcases nnew _ e with q | q
        · exact h.ne j hj q
        · have := h.row.lt
          omega
      · rw [rne j hji] at e
        exact h.ne j hj e
    · by_cases hji : j = i
      · subst hji
        rw [rne k (fun e => hjk e.symm)] at e2
        rcases nnew b e1 with q | q
        · exact h.inj j k hj hk hjk b q e2
        · have := ((h.own k hk).lt b e2).2
          omega
      · rw [rne j hji] at e1
        by_cases hki : k = i
        · subst hki
          rcases nnew b e2 with q | q
          · exact h.inj j k hj hk hjk b e1 q
          · have := ((h.own j hj).lt b e1).2
            omega
        · rw [rne k hki] at e2
          exact h.inj j k hj hk hjk b e1 e2
  · rw [hR2, hL2]
    exact owns2
  · rw [hw4]
    have h1 : Kp w w2 (fun k => ¬ ROwns gr R L k) := (Kp.refl w _).ext hE
    exact (h1.grown hG fun k hk e => hk (.inr ⟨i, hi, e.symm⟩)).grown hG4 fun k hk e => hk (.inl (Option.some.inj e))
end

/-- How many pieces the first k rows have. -/
def rxSum (L : Nat → List Pc) : Nat → Nat
  | 0 => 0
  | k + 1 => rxSum L k + (L k).length

set_option maxHeartbeats 2000000 in
set_option maxRecDepth 100000 in
theorem rxCount_any {w : World} {B gr : Nat} {R : Nat → Option Addr × Nat} {L : Nat → List Pc} (h : RIx w B gr R L) (hl : ∀ i, i < 6 → (L i).length ≤ 1000) :
    Calls Tryd.prog 32 #[.pointer (some ⟨gr, 0, none⟩)] w fun e w' => e = .returned (.int .i64 (rxSum L 6 : Nat)) ∧ Ext w w' := by
  have HC := Lib.hid (show ∀ i, i < 6 → w.cell? ⟨gr, i, none⟩ = some (.slice (R i).1 (L i).length (R i).2) from fun i hi => h.row.cell hi)
  have Hl := Lib.hid hl
  have Hb := Lib.hid (show ∀ k, k ≤ 6 → rxSum L k ≤ 1000 * k from fun k => by
    induction k with
    | zero => intro _; exact Nat.le_refl _
    | succ k ih =>
      intro hk
      have h1 := ih (by omega)
      have h2 := hl k (by omega)
      show rxSum L k + (L k).length ≤ _
      omega)
  clear h hl
  go_enter Tryd.func32, Tryd.ntmps32
  go_wp2
  go_loopw [3, 4] (fun v i y => ∃ k : Nat, k ≤ 6 ∧ v = .int .i64 (rxSum L k : Nat) ∧ i = .int .i64 (k : Int) ∧ y = w) (fun _ i _ => 6 - (intOf i).toNat)
  case atStart => exact ⟨0, Nat.zero_le _, rfl, rfl, rfl⟩
  case round =>
    obtain ⟨k, hk, rfl, rfl, rfl⟩ := hrel
    have hb := Hb.out k hk
    by_cases hlt : k < 6
    · have x1 : (k : Int) < 6 := by omega
      have x2 : (0 : Int) ≤ (k : Int) := by omega
      have hc := HC.out k hlt
      have hlk := Hl.out k hlt
      obtain ⟨m, hm⟩ : ∃ m, (L k).length = m := ⟨_, rfl⟩
      obtain ⟨s, hs⟩ : ∃ s, rxSum L k = s := ⟨_, rfl⟩
      have Hm := Lib.hid (show rxSum L (k + 1) = s + m by rw [← hm, ← hs]; rfl)
      rw [hm] at hc hlk
      rw [hs] at hb ⊢
      have wS : IntKind.i64.wrap ((s : Int) + (m : Int)) = (s : Int) + (m : Int) := by rw [IntKind.wrap_i64]; omega
      clear hm hs
      go_wp2
      go_roundw
      case rel => exact ⟨k + 1, by omega, by rw [Hm.out]; first | rfl | (congr 1), by go_num, by first | rfl | trivial⟩
      case measure => simp [intOf]; omega
    · obtain rfl : k = 6 := by omega
      have x1 : ¬ ((6 : Nat) : Int) < 6 := by omega
      go_wp2
      go_ret
      exact ⟨rfl, Ext.refl _⟩

end Go.Proofs.YtihlpfdhallfpaaDoor
