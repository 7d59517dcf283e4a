/-
  What IndexAll gathers: a row of six slices of pieces, a cursor; how both grow. No conditions.
-/
import Derived.Test.YtihlpfdhallfpaaDoorAllP
import Derived.Test.YtihlpfdhallfpaaDoorBatch
import Derived.Test.YtihlpfdhallfpaaDoorRxP
namespace Go.Proofs.YtihlpfdhallfpaaDoor
open Go.ChangeShapes Go.WideShapes Go.ChangeAt Go.RowKit

structure GIx (w : World) (B gr : Nat) (R : Nat → Option Addr × Nat) (L : Nat → List Pc) : Prop where
  row : w.rowIs gr 52 6 (rsl R L)
  own : ∀ i, i < 6 → w.ownsRow B 37 126 (rsl R L i) (L i).length (pisC (L i))
  pcs : ∀ i, i < 6 → ∀ x ∈ L i, PcAt w x
  low : B ≤ gr
  ne : ∀ i, i < 6 → (rsl R L i).ownBlock ≠ some gr
  inj : ∀ i j, i < 6 → j < 6 → i ≠ j → ∀ k, (rsl R L i).ownBlock = some k → (rsl R L j).ownBlock ≠ some k
  far : ∀ i, i < 6 → ∀ x ∈ L i, ∀ b, PcBlk x b → ¬ ROwns gr R L b

section
variable {w w' : World} {B gr : Nat} {R : Nat → Option Addr × Nat} {L : Nat → List Pc}
theorem GIx.lt (h : GIx w B gr R L) {b : Nat} (hb : ROwns gr R L b) : B ≤ b ∧ b < w.heap.size := by
  rcases hb with rfl | ⟨i, hi, e⟩
  · exact ⟨h.low, h.row.lt⟩
  · exact (h.own i hi).lt b e
theorem GIx.frame (h : GIx w B gr R L) (_hs : w.heap.size ≤ w'.heap.size) (hk : ∀ b, b < w.heap.size → (ROwns gr R L b ∨ ∃ i, i < 6 ∧ ∃ x ∈ L i, PcBlk x b) → w'.heap[b]? = w.heap[b]?) : GIx w' B gr R L :=
  ⟨h.row.of_block (hk gr h.row.lt (.inl (.inl rfl))), fun i hi => own_keep (h.own i hi) (fun k e => hk k ((h.own i hi).lt k e).2 (.inl (.inr ⟨i, hi, e⟩))), fun i hi x hx => (h.pcs i hi x hx).keep fun b hb hl => hk b hl (.inr ⟨i, hi, x, hx, hb⟩), h.low, h.ne, h.inj, h.far⟩
theorem GIx.ext (h : GIx w B gr R L) (he : Ext w w') : GIx w' B gr R L := h.frame (Below.size he) fun _ hb _ => he.block hb
theorem GIx.pis (h : GIx w B gr R L) (i : Nat) (hi : i < 6) (hs : (L i).length ≤ 100000) : PisAt w (R i).1 (L i).length (R i).2 (L i) := own_pis (h.own i hi) (h.pcs i hi) (by omega)
/-- A piece put behind the i-th row. -/
theorem GIx.push {w2 w3 : World} {i : Nat} {x : Pc} {a3 : Option Addr} {c3 N : Nat} {ra : Option Addr} {rc : Nat} (h : GIx w B gr R L) (hi : i < 6) (e1 : (R i).1 = ra) (e2 : (R i).2 = rc) (e3 : (L i).length = N) (hx : PcAt w x) (hf : ∀ b, PcBlk x b → ¬ ROwns gr R L b) (hE : Ext w w2)
    (ho : w3.ownsRow B 37 126 (.slice a3 (N + 1) c3) (N + 1) (pisC (L i ++ [x]))) (hG : w2.grownBy w3 (Value.slice ra N rc).ownBlock)
    (hw : (Value.slice a3 (N + 1) c3).ownBlock = (Value.slice ra N rc).ownBlock ∨ (Value.slice a3 (N + 1) c3).ownBlock = some w2.heap.size) :
    w3.cell? ⟨gr, i, none⟩ = some (.slice ra N rc) ∧ w3.frozen? ⟨gr, i, none⟩ = false ∧ GIx (w3.setCell ⟨gr, i, none⟩ (.slice a3 (N + 1) c3)) B gr (upR R i (a3, c3)) (upL L i (L i ++ [x])) ∧
      (∀ b, ROwns gr (upR R i (a3, c3)) (upL L i (L i ++ [x])) b → ROwns gr R L b ∨ w.heap.size ≤ b) ∧ Kp w (w3.setCell ⟨gr, i, none⟩ (.slice a3 (N + 1) c3)) (fun k => ¬ ROwns gr R L k) := by
  subst e1 e2 e3
  obtain ⟨R2, hR2⟩ : ∃ x, upR R i (a3, c3) = x := ⟨_, rfl⟩
  obtain ⟨L2, hL2⟩ : ∃ z, upL L i (L i ++ [x]) = z := ⟨_, rfl⟩
  obtain ⟨w4, hw4⟩ : ∃ z, w3.setCell ⟨gr, i, none⟩ (.slice a3 ((L i).length + 1) c3) = z := ⟨_, rfl⟩
  have r2at : R2 i = (a3, c3) := by rw [← hR2]; exact upR_at _ _
  have r2ne : ∀ j, j ≠ i → R2 j = R j := fun j hj => by rw [← hR2]; exact upR_ne _ hj
  have l2at : L2 i = L i ++ [x] := by rw [← hL2]; exact upL_at _ _
  have l2ne : ∀ j, j ≠ i → L2 j = L j := fun j hj => by rw [← hL2]; exact upL_ne _ hj
  have hl2 : (L i ++ [x]).length = (L i).length + 1 := by simp
  have rat : rsl R2 L2 i = .slice a3 ((L i).length + 1) c3 := by unfold rsl; rw [r2at, l2at, hl2]
  have rne : ∀ j, j ≠ i → rsl R2 L2 j = rsl R L j := fun j hj => by unfold rsl; rw [r2ne j hj, l2ne j hj]
  have hs12 := Below.size hE
  have hs23 := hG.size
  have hG4 : w3.grownBy w4 (some gr) := by rw [← hw4]; exact grown_setCell (World.grownBy.refl w3 _) rfl _
  have hs34 := hG4.size
  have hown : (Value.slice (R i).1 (L i).length (R i).2).ownBlock = (rsl R L i).ownBlock := rfl
  rw [hown] at hG hw
  have keep3 : ∀ b, b < w.heap.size → some b ≠ (rsl R L i).ownBlock → w3.heap[b]? = w.heap[b]? := fun b hb hn => by
    rw [hG.block b (by omega) hn, hE.block hb]
  have keep4 : ∀ b, b < w.heap.size → some b ≠ (rsl R L i).ownBlock → b ≠ gr → w4.heap[b]? = w.heap[b]? := fun b hb hn hg => by
    rw [hG4.block b (by omega) (fun e => hg (Option.some.inj e)), keep3 b hb hn]
  have keepN : ∀ b, b < w.heap.size → ¬ ROwns gr R L b → w4.heap[b]? = w.heap[b]? := fun b hb hn => keep4 b hb (fun e => hn (.inr ⟨i, hi, e.symm⟩)) (fun e => hn (.inl e))
  have hr3 : w3.rowIs gr 52 6 (rsl R L) := h.row.of_block (keep3 gr h.row.lt (fun e => h.ne i hi e.symm))
  have nnew : ∀ b, (rsl R2 L2 i).ownBlock = some b → (rsl R L i).ownBlock = some b ∨ w.heap.size ≤ b := fun b e => by
    rw [rat] at e
    rcases hw with q | q
    · exact .inl (q ▸ e)
    · rw [q] at e
      exact .inr (by have := Option.some.inj e; omega)
  have owns2 : ∀ b, ROwns gr R2 L2 b → ROwns gr R L b ∨ w.heap.size ≤ b := fun b hb => by
    rcases hb with rfl | ⟨j, hj, e⟩
    · exact .inl (.inl rfl)
    · by_cases hji : j = i
      · subst hji
        rcases nnew b e with q | q
        · exact .inl (.inr ⟨j, hj, q⟩)
        · exact .inr q
      · rw [rne j hji] at e
        exact .inl (.inr ⟨j, hj, e⟩)
  have far2 : ∀ y, PcAt w y → (∀ b, PcBlk y b → ¬ ROwns gr R L b) → ∀ b, PcBlk y b → ¬ ROwns gr R2 L2 b := fun y hy hn b hb ho => by
    rcases owns2 b ho with q | q
    · exact hn b hb q
    · have := PcBlk.lt hy hb
      omega
  have hmem : ∀ j, j < 6 → ∀ y ∈ L2 j, PcAt w y ∧ ∀ b, PcBlk y b → ¬ ROwns gr R L b := fun j hj y hy => by
    by_cases hji : j = i
    · subst hji
      rw [l2at] at hy
      rcases List.mem_append.1 hy with q | q
      · exact ⟨h.pcs j hj y q, h.far j hj y q⟩
      · obtain rfl := List.mem_singleton.1 q
        exact ⟨hx, hf⟩
    · rw [l2ne j hji] at hy
      exact ⟨h.pcs j hj y hy, h.far j hj y hy⟩
  refine ⟨?_, hr3.frozen _, ?_, ?_, ?_⟩
  · rw [hr3.cell (i := i) (by omega)]
    rfl
  · rw [hR2, hL2, hw4]
    refine ⟨?_, fun j hj => ?_, fun j hj y hy => (hmem j hj y hy).1.keep fun b hb hl => keepN b hl ((hmem j hj y hy).2 b hb), h.low, fun j hj e => ?_, fun j k hj hk hjk b e1 e2 => ?_, fun j hj y hy => far2 y (hmem j hj y hy).1 (hmem j hj y hy).2⟩
    · rw [← hw4]
      refine (hr3.set i _).congr fun j hj => ?_
      by_cases hji : j = i
      · rw [if_pos hji, hji, rat]
      · rw [if_neg hji, rne j hji]
    · by_cases hji : j = i
      · subst hji
        rw [rat, l2at, hl2]
        refine own_keep ho fun k e => hG4.block k (ho.lt k e).2 (fun e2 => ?_)
        obtain rfl := Option.some.inj e2
        rw [← rat] at e
        rcases nnew _ e with q | q
        · exact h.ne j hj q
        · have := h.row.lt
          omega
      · rw [rne j hji, l2ne j hji]
        exact own_keep (h.own j hj) fun k e => keep4 k ((h.own j hj).lt k e).2 (fun e2 => h.inj j i hj hi hji k e e2.symm) (fun e2 => h.ne j hj (by rw [e, e2]))
    · by_cases hji : j = i
      · subst hji
        rcases nnew _ e with q | q
        · exact h.ne j hj q
        · have := h.row.lt
          omega
      · rw [rne j hji] at e
        exact h.ne j hj e
    · by_cases hji : j = i
      · subst hji
        rw [rne k (fun e => hjk e.symm)] at e2
        rcases nnew b e1 with q | q
        · exact h.inj j k hj hk hjk b q e2
        · have := ((h.own k hk).lt b e2).2
          omega
      · rw [rne j hji] at e1
        by_cases hki : k = i
        · subst hki
          rcases nnew b e2 with q | q
          · exact h.inj j k hj hk hjk b e1 q
          · have := ((h.own j hj).lt b e1).2
            omega
        · rw [rne k hki] at e2
          exact h.inj j k hj hk hjk b e1 e2
  · rw [hR2, hL2]
    exact owns2
  · rw [hw4]
    have h1 : Kp w w2 (fun k => ¬ ROwns gr R L k) := (Kp.refl w _).ext hE
    exact (h1.grown hG fun k hk e => hk (.inr ⟨i, hi, e.symm⟩)).grown hG4 fun k hk e => hk (.inl (Option.some.inj e))
end


theorem own_blkA {w : World} {B size n : Nat} {e : TypeId} {v : Value} {xs : List Value} (h : w.ownsRow B e size v n xs) {b : Nat} (hb : v.ownBlock = some b) : ∃ cur fr, w.heap[b]? = some (.cells cur e fr) := by
  rcases h.2 with ⟨rfl, _⟩ | ⟨g, cap, cur, rfl, _, h3, _⟩
  · cases hb
  · obtain rfl : g = b := Option.some.inj hb
    exact ⟨cur, _, h3⟩
theorem GIx.blk {w : World} {B gr : Nat} {R : Nat → Option Addr × Nat} {L : Nat → List Pc} (h : GIx w B gr R L) {b : Nat} (hb : ROwns gr R L b) : ∃ cs t fr, w.heap[b]? = some (.cells cs t fr) ∧ t ≠ 30 ∧ t ≠ 5 := by
  rcases hb with rfl | ⟨i, hi, e⟩
  · obtain ⟨c, h1, _⟩ := h.row
    exact ⟨c, _, _, h1, by decide, by decide⟩
  · obtain ⟨c, fr, h1⟩ := own_blkA (h.own i hi) e
    exact ⟨c, _, _, h1, by decide, by decide⟩
theorem pcBlk_own {w : World} {p : Pc} (h : PcOwn 0 w p) {b : Nat} (hb : PcBlk p b) : ∃ cs t fr, w.heap[b]? = some (.cells cs t fr) ∧ (t = 30 ∨ t = 5) := by
  rcases hb with ⟨_, off, e⟩ | ⟨_, off, e⟩
  · obtain ⟨c, fr, h1⟩ := own_blkA h.ts (b := b) (by rw [e]; rfl)
    exact ⟨c, _, _, h1, .inl rfl⟩
  · obtain ⟨c, fr, h1⟩ := own_blkA h.bs (b := b) (by rw [e]; rfl)
    exact ⟨c, _, _, h1, .inr rfl⟩
theorem blk_ne {w : World} {p : Pc} (h : PcOwn 0 w p) {b g : Nat} (hb : PcBlk p b) {cs : Array Value} {t : TypeId} {fr : Nat × Nat} (hg : w.heap[g]? = some (.cells cs t fr)) (h1 : t ≠ 30) (h2 : t ≠ 5) : b ≠ g := by
  rintro rfl
  obtain ⟨cs', t', fr', k, e⟩ := pcBlk_own h hb
  rw [hg] at k
  simp only [Option.some.injEq, Obj.cells.injEq] at k
  obtain ⟨_, rfl, _⟩ := k
  rcases e with e | e
  · exact h1 e
  · exact h2 e
theorem far_own {w : World} {B gr : Nat} {R : Nat → Option Addr × Nat} {L : Nat → List Pc} (h : GIx w B gr R L) {p : Pc} (hp : PcOwn 0 w p) : ∀ b, PcBlk p b → ¬ ROwns gr R L b := fun b hb ho => by
  obtain ⟨cs, t, fr, k, h1, h2⟩ := h.blk ho
  exact blk_ne hp hb k h1 h2 rfl

/-- The row of a cursor. -/
def cvV (cv : Nat → Nat) (i : Nat) : Value := .int .u64 (cv i : Int)
def upN (cv : Nat → Nat) (i : Nat) : Nat → Nat := fun j => if j = i then cv j + 1 else cv j
/-- What lies between two steps. -/
structure AllI (w : World) (vg gt : Nat) (z : World) (cv : Nat → Nat) (R : Nat → Option Addr × Nat) (L : Nat → List Pc) : Prop where
  ext : Ext w z
  vec : z.rowIs vg 48 6 (cvV cv)
  gix : GIx z gt gt R L
  lo : w.heap.size ≤ vg
  hi : vg < gt
  far : ∀ i, i < 6 → ∀ x ∈ L i, ∀ b, PcBlk x b → b ≠ vg
section
variable {w z z' : World} {vg gt : Nat} {cv : Nat → Nat} {R : Nat → Option Addr × Nat} {L : Nat → List Pc}
theorem AllI.more (h : AllI w vg gt z cv R L) (hE : Ext z z') : AllI w vg gt z' cv R L := ⟨h.ext.trans hE, h.vec.of_block (hE.block h.vec.lt), h.gix.ext hE, h.lo, h.hi, h.far⟩
theorem AllI.nv (h : AllI w vg gt z cv R L) : ¬ ROwns gt R L vg := fun k => by
  have h1 := (h.gix.lt k).1
  have h2 := h.hi
  omega
theorem AllI.bump (h : AllI w vg gt z cv R L) {i : Nat} (hi : i < 6) :
    z.cell? ⟨vg, i, none⟩ = some (.int .u64 (cv i : Int)) ∧ z.frozen? ⟨vg, i, none⟩ = false ∧ AllI w vg gt (z.setCell ⟨vg, i, none⟩ (.int .u64 ((cv i : Int) + 1))) (upN cv i) R L ∧ z.grownBy (z.setCell ⟨vg, i, none⟩ (.int .u64 ((cv i : Int) + 1))) (some vg) := by
  have hG : z.grownBy (z.setCell ⟨vg, i, none⟩ (.int .u64 ((cv i : Int) + 1))) (some vg) := grown_setCell (World.grownBy.refl z _) rfl _
  have hlo := h.lo
  refine ⟨h.vec.cell hi, h.vec.frozen _, ⟨?_, ?_, ?_, h.lo, h.hi, h.far⟩, hG⟩
  · exact Below.trans h.ext ((Below.refl w.heap.size z).grown hG (Below.size h.ext) fun b e => by cases e; exact hlo)
  · refine (h.vec.set i _).congr fun j hj => ?_
    unfold cvV upN
    by_cases e : j = i
    · rw [if_pos e, if_pos e, e]
      rfl
    · rw [if_neg e, if_neg e]
  · refine h.gix.frame hG.size fun b hb hk => hG.block b hb fun e => ?_
    obtain rfl := Option.some.inj e
    rcases hk with k | ⟨j, hj, x, hx, k⟩
    · exact h.nv k
    · exact h.far j hj x hx _ k rfl
theorem AllI.push {w2 w3 : World} {i : Nat} {x : Pc} {a3 : Option Addr} {c3 N : Nat} {ra : Option Addr} {rc : Nat} (h : AllI w vg gt z cv R L) (hi : i < 6) (e1 : (R i).1 = ra) (e2 : (R i).2 = rc) (e3 : (L i).length = N) (hx : PcAt z x) (hf : ∀ b, PcBlk x b → b ≠ vg ∧ ¬ ROwns gt R L b) (hE : Ext z w2)
    (ho : w3.ownsRow gt 37 126 (.slice a3 (N + 1) c3) (N + 1) (pisC (L i ++ [x]))) (hG : w2.grownBy w3 (Value.slice ra N rc).ownBlock)
    (hw : (Value.slice a3 (N + 1) c3).ownBlock = (Value.slice ra N rc).ownBlock ∨ (Value.slice a3 (N + 1) c3).ownBlock = some w2.heap.size) :
    w3.cell? ⟨gt, i, none⟩ = some (.slice ra N rc) ∧ w3.frozen? ⟨gt, i, none⟩ = false ∧ AllI w vg gt (w3.setCell ⟨gt, i, none⟩ (.slice a3 (N + 1) c3)) cv (upR R i (a3, c3)) (upL L i (L i ++ [x])) ∧
      (∀ b, ROwns gt (upR R i (a3, c3)) (upL L i (L i ++ [x])) b → ROwns gt R L b ∨ z.heap.size ≤ b) ∧ Kp z (w3.setCell ⟨gt, i, none⟩ (.slice a3 (N + 1) c3)) (fun k => ¬ ROwns gt R L k) := by
  obtain ⟨d1, d2, d3, d4, d5⟩ := h.gix.push hi e1 e2 e3 hx (fun b hb => (hf b hb).2) hE ho hG hw
  have hlo := h.lo
  have hhi := h.hi
  refine ⟨d1, d2, ⟨?_, h.vec.of_block (d5.block vg h.vec.lt h.nv), d3, hlo, hhi, fun j hj y hy => ?_⟩, d4, d5⟩
  · refine Below.trans h.ext ⟨d5.os, d5.tape, d5.output, d5.size, fun _ hk => d5.block _ (by have := Below.size h.ext; omega) fun ho => ?_⟩
    have := (h.gix.lt ho).1
    omega
  · by_cases e : j = i
    · subst e
      rw [upL_at] at hy
      rcases List.mem_append.1 hy with q | q
      · exact h.far j hj y q
      · obtain rfl := List.mem_singleton.1 q
        exact fun b hb => (hf b hb).1
    · rw [upL_ne _ e] at hy
      exact h.far j hj y hy
/-- What a round keeps of the world that its batch came in. -/
structure InnI (z0 : World) (vg gt : Nat) (R0 : Nat → Option Addr × Nat) (L0 : Nat → List Pc) (z : World) (R : Nat → Option Addr × Nat) (L : Nat → List Pc) : Prop where
  kp : Kp z0 z (fun b => b ≠ vg ∧ ¬ ROwns gt R0 L0 b)
  new : ∀ b, ROwns gt R L b → ROwns gt R0 L0 b ∨ z0.heap.size ≤ b
end
section
variable {z0 z z' : World} {vg gt : Nat} {R0 R R' : Nat → Option Addr × Nat} {L0 L L' : Nat → List Pc}
theorem InnI.refl (z0 : World) (vg gt : Nat) (R0 : Nat → Option Addr × Nat) (L0 : Nat → List Pc) : InnI z0 vg gt R0 L0 z0 R0 L0 := ⟨Kp.refl _ _, fun _ h => .inl h⟩
theorem InnI.ext (h : InnI z0 vg gt R0 L0 z R L) (hE : Ext z z') : InnI z0 vg gt R0 L0 z' R L := ⟨h.kp.ext hE, h.new⟩
theorem InnI.bump (h : InnI z0 vg gt R0 L0 z R L) (hG : z.grownBy z' (some vg)) : InnI z0 vg gt R0 L0 z' R L := ⟨h.kp.grown hG fun _ hk e => hk.1 (Option.some.inj e), h.new⟩
theorem InnI.push (h : InnI z0 vg gt R0 L0 z R L) (hk : Kp z z' (fun k => ¬ ROwns gt R L k)) (hn : ∀ b, ROwns gt R' L' b → ROwns gt R L b ∨ z.heap.size ≤ b) : InnI z0 vg gt R0 L0 z' R' L' := by
  have hs := h.kp.size
  refine ⟨⟨hk.os.trans h.kp.os, hk.tape.trans h.kp.tape, hk.output.trans h.kp.output, Nat.le_trans hs hk.size, fun k hl hf => (hk.block k (by omega) fun ho => ?_).trans (h.kp.block k hl hf)⟩, fun b hb => ?_⟩
  · rcases h.new k ho with q | q
    · exact hf.2 q
    · omega
  · rcases hn b hb with q | q
    · exact h.new b q
    · exact .inr (by omega)
theorem InnI.pc (h : InnI z0 vg gt R0 L0 z R L) {p : Pc} (hp : PcAt z0 p) (hf : ∀ b, PcBlk p b → b ≠ vg ∧ ¬ ROwns gt R0 L0 b) : PcAt z p ∧ ∀ b, PcBlk p b → b ≠ vg ∧ ¬ ROwns gt R L b := by
  refine ⟨hp.keep fun b hb hl => h.kp.block b hl (hf b hb), fun b hb => ⟨(hf b hb).1, fun ho => ?_⟩⟩
  rcases h.new b ho with q | q
  · exact (hf b hb).2 q
  · have := PcBlk.lt hp hb
    omega
theorem cell_blk {b i : Nat} (e : z.heap[b]? = z0.heap[b]?) : z.cell? ⟨b, i, none⟩ = z0.cell? ⟨b, i, none⟩ := by
  unfold World.cell?
  rw [e]
theorem range_blk {b off : Nat} {cs : List Value} (h : z0.rangeAt b off cs) (e : z.heap[b]? = z0.heap[b]?) : z.rangeAt b off cs := fun j v hv => by
  have h1 := h j v hv
  unfold World.cell? at h1 ⊢
  rw [e]
  exact h1
theorem InnI.rg (h : InnI z0 vg gt R0 L0 z R L) {b off : Nat} {cs : List Value} (hr : z0.rangeAt b off cs) (hl : b < z0.heap.size) (h1 : b ≠ vg) (h2 : ¬ ROwns gt R0 L0 b) : z.rangeAt b off cs := range_blk hr (h.kp.block b hl ⟨h1, h2⟩)
end
/-- What is got, against what was put in. -/
structure GotR (L Lg : Nat → List Pc) (cu : Nat → Nat) : Prop where
  len : ∀ j, j < 6 → (Lg j).length = cu j
  eq : ∀ j, j < 6 → ∀ t, t < cu j → PcEq ((Lg j).getD t pcN) ((L j).getD t pcN)
theorem GotR.push {L Lg : Nat → List Pc} {cu : Nat → Nat} (h : GotR L Lg cu) {i : Nat} (hi : i < 6) {p : Pc} (hp : PcEq p ((L i).getD (cu i) pcN)) : GotR L (upL Lg i (Lg i ++ [p])) (upN cu i) := by
  have hl := h.len i hi
  refine ⟨fun j hj => ?_, fun j hj t ht => ?_⟩
  · unfold upN
    by_cases e : j = i
    · subst e
      rw [if_pos rfl, upL_at, List.length_append, List.length_singleton, hl]
    · rw [if_neg e, upL_ne _ e]
      exact h.len j hj
  · unfold upN at ht
    by_cases e : j = i
    · subst e
      rw [if_pos rfl] at ht
      rw [upL_at]
      by_cases h1 : t < cu j
      · rw [List.getD_eq_getElem?_getD, List.getElem?_append_left (by omega), ← List.getD_eq_getElem?_getD]
        exact h.eq j hj t h1
      · obtain rfl : t = cu j := by omega
        rw [List.getD_eq_getElem?_getD, List.getElem?_append_right (by omega), ← hl, Nat.sub_self, hl]
        exact hp
    · rw [if_neg e] at ht
      rw [upL_ne _ e]
      exact h.eq j hj t ht
theorem cuA_push (cu : Nat → Nat) (s : List (Nat × Nat)) (q : Nat × Nat) : cuA cu (s ++ [q]) = upN (cuA cu s) q.1 := by
  funext j
  unfold cuA upN
  rw [cntQ_app, cntQ_one]
  show _ = if j = q.1 then cu j + cntQ j s + 1 else cu j + cntQ j s
  by_cases e : q.1 = j
  · rw [if_pos e, if_pos e.symm]
    omega
  · rw [if_neg e, if_neg fun k => e k.symm]
    omega
/-- The k-th piece of a batch. -/
structure BatK (L : Nat → List Pc) (cv cv' : Nat → Nat) (p : Pc) (i : Nat) : Prop where
  hi : i < 6
  wr : p.hd.1.writer = (i : Int) + 1
  sq : p.hd.1.seq = (cv i : Int) + 1
  lt : cv i < (L i).length
  eq : PcEq p ((L i).getD (cv i) pcN)
  up : cv' = upN cv i
theorem bat_piece {S : Nat → CSt} {L : Nat → List Pc} {cnt : Nat} (hR : XRel S L cnt) {cu : Nat → Nat} {T : Nat} {s : List (Nat × Nat)} (hs : (allB (lenS S) cu).take T = s) {k : Nat} (hk : k < s.length) {p : Pc} (h : CutIs S true [] (s.getD k (0, 0)) p) :
    ∃ i, BatK L (cuA cu (s.take k)) (cuA cu (s.take (k + 1))) p i := by
  obtain ⟨p0, hg, hc⟩ := h
  have hp : p = p0 := by
    rw [hc]
    unfold cutP meetsB
    simp
  subst hp
  obtain ⟨q, hq⟩ : ∃ z, s.getD k (0, 0) = z := ⟨_, rfl⟩
  have hsq : q.2 = cuA cu (s.take k) q.1 := by
    have h1 := (allB_seq (lenS S) cu).take T
    rw [hs] at h1
    have h2 := h1 k hk
    rw [hq] at h2
    exact h2
  have hup := take_push s (0, 0) hk
  rw [hq] at hg hup
  have hm : q ∈ allB (lenS S) cu := List.mem_of_mem_take (by rw [hs, ← hq]; exact getD_mem _ hk)
  obtain ⟨hq1, hq2⟩ := allB_mem hm
  have hq3 : q.2 < (L q.1).length := by rw [← hR.ll q.1 hq1]; exact hq2
  have he := got_eq hR hq1 hq3 hg
  obtain ⟨_, h1, h2⟩ := hR.good q.1 hq1 q.2 hq3
  rw [hsq] at he h1 h2 hq3
  exact ⟨q.1, hq1, he.hd.writer.trans h1, he.hd.seq.trans h2, hq3, he, by rw [hup]; exact cuA_push _ _ _⟩
theorem remQ_zero {S : Nat → CSt} {L : Nat → List Pc} {cnt : Nat} (hR : XRel S L cnt) : remQ (lenS S) (fun _ => 0) = cnt := by
  rw [← hR.cnt]
  unfold remQ lenS
  rw [hR.ll 0 (by omega), hR.ll 1 (by omega), hR.ll 2 (by omega), hR.ll 3 (by omega), hR.ll 4 (by omega), hR.ll 5 (by omega)]
  simp only [rxSum, Nat.sub_zero, Nat.zero_add]
set_option maxRecDepth 100000 in
theorem build_wiA (w : World) : (Instr.build 58 #[(0, .bool true)]).run Tryd.prog w = .ok (.agg (fltV true (.slice none 0 0))) w := by kernel_rfl
theorem wp_build_wiA {ops : Array Oper} {Q : Exit → Act → World → Prop} {rest : List Oper} {o : Oper} {a : Act} {w : World} (hw : Region.wanted o (yielded ops a.tmps) = true) (ho : o.op = .build 58 #[(0, .const (.bool true))]) (A : Array Value) (hA : fltV true (.slice none 0 0) = A)
    (h : wpList Tryd.prog ops Q rest (a.put o.dst (.agg A)) w) : wpList Tryd.prog ops Q (o :: rest) a w := by
  subst hA
  refine wpList_want hw fun K hK => ?_
  unfold Oper.wp execOp
  simp only [ho, List.map_toArray, List.map_cons, List.map_nil, Act.eval, Sem.run_bind, build_wiA, Result.andThen_ok, Sem.run_pure]
  exact hK _ _ h
theorem ts_nil (w : World) : TsAt w none 0 0 [] := ⟨rfl, Nat.le_refl _, by omega, by omega, (fun t ht => by cases ht), (fun h => absurd h (Nat.lt_irrefl 0)), fun _ => rfl⟩
theorem exec_pidxS {w : World} {o : Oper} {ev : Operand → Value} (x y : Operand) (ho : o.op = .indexAddr 24 x y) (b off n c k : Nat) (hx : ev x = .slice (some ⟨b, off, none⟩) n c) (hy : ev y = .int .i64 (k : Int)) (hk : k < n) :
    (execOp ev o).run Tryd.prog w = .ok (.value (.pointer (some ⟨b, off + k * 126, none⟩))) w := by
  have hr : (Instr.indexAt 24 (.slice (some ⟨b, off, none⟩) n c) (.int .i64 (k : Int))).run Tryd.prog w = .ok (.pointer (some ⟨b, off + k * 126, none⟩)) w := by
    have hb : (0 : Int) ≤ (k : Int) ∧ (k : Int) < (n : Int) := by omega
    simp only [Instr.indexAt, asIntOf, Sem.run_bind, Sem.run_pure, Result.andThen_ok, run_underlying Tryd.underlying24, hb, and_self, if_true, size_pcR, Int.toNat_natCast, add_none]
  simp only [execOp, ho, hx, hy, Sem.run_bind, hr, Result.andThen_ok, Sem.run_pure]
theorem wp_pidxS {ops : Array Oper} {Q : Exit → Act → World → Prop} {rest : List Oper} {o : Oper} {a : Act} {w : World} (hw : Region.wanted o (yielded ops a.tmps) = true) (x y : Operand) (ho : o.op = .indexAddr 24 x y)
    (b off n c k : Nat) (hx : a.eval x = .slice (some ⟨b, off, none⟩) n c) (hy : a.eval y = .int .i64 (k : Int)) (hk : k < n)
    (h : wpList Tryd.prog ops Q rest (a.put o.dst (.pointer (some ⟨b, off + k * 126, none⟩))) w) : wpList Tryd.prog ops Q (o :: rest) a w := by
  refine wpList_want hw fun K hK => ?_
  unfold Oper.wp
  rw [exec_pidxS x y ho b off n c k hx hy hk]
  exact hK _ _ h
theorem lu_pidxS {w : World} {o : Oper} {ev : Operand → Value} {x y : Operand} {b off n c k : Nat} (ho : o.op = .indexAddr 24 x y) (hx : ev x = .slice (some ⟨b, off, none⟩) n c) (hy : ev y = .int .i64 (k : Int)) (hk : k < n) :
    lexUpon Tryd.prog w (.ex (.pointer (some ⟨b, off + k * 126, none⟩))) ((execOp ev o).run Tryd.prog w) := by
  rw [exec_pidxS x y ho b off n c k hx hy hk]
  exact ⟨Ext.refl _, rfl⟩
end Go.Proofs.YtihlpfdhallfpaaDoor
