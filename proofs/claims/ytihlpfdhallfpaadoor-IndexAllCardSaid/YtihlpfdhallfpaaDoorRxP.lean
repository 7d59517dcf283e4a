/-
  The reference's index: what lies there; how it grows; the walk of its Count. No conditions.
  The walk of the reference's index' Put. Asked: the reference's table lies as the text lays it.
-/
import Derived.Test.YtihlpfdhallfpaaDoorIxS
import Derived.Test.YtihlpfdhallfpaaDoorIxQ
import Derived.Test.YtihlpfdhallfpaaDoorLexP
namespace Go.Proofs.YtihlpfdhallfpaaDoor
open Go.ChangeAt Go.ChangeShapes Go.RowKit Go.WideShapes

def rsl (R : Nat → Option Addr × Nat) (L : Nat → List Pc) (i : Nat) : Value := .slice (R i).1 (L i).length (R i).2
/-- A block that the reference's index holds. -/
def ROwns (gr : Nat) (R : Nat → Option Addr × Nat) (L : Nat → List Pc) (b : Nat) : Prop := b = gr ∨ ∃ i, i < 6 ∧ (rsl R L i).ownBlock = some b
/-- A block in which a piece's tokens, or its body, lie. -/
def PcBlk (p : Pc) (b : Nat) : Prop := (0 < p.hd.1.tn ∧ ∃ off, p.hd.1.ta = some ⟨b, off, none⟩) ∨ (0 < p.bd.length ∧ ∃ off, p.ba = some ⟨b, off, none⟩)
structure RIx (w : World) (B gr : Nat) (R : Nat → Option Addr × Nat) (L : Nat → List Pc) : Prop where
  row : w.rowIs gr 54 6 (rsl R L)
  own : ∀ i, i < 6 → w.ownsRow B 37 126 (rsl R L i) (L i).length (pisC (L i))
  pcs : ∀ i, i < 6 → ∀ x ∈ L i, PcAt w x
  low : B ≤ gr
  ne : ∀ i, i < 6 → (rsl R L i).ownBlock ≠ some gr
  inj : ∀ i j, i < 6 → j < 6 → i ≠ j → ∀ k, (rsl R L i).ownBlock = some k → (rsl R L j).ownBlock ≠ some k
  far : ∀ i, i < 6 → ∀ x ∈ L i, ∀ b, PcBlk x b → ¬ ROwns gr R L b

theorem PcBlk.lt {w : World} {p : Pc} (h : PcAt w p) {b : Nat} (hb : PcBlk p b) : b < w.heap.size := by
  rcases hb with ⟨h0, off, e⟩ | ⟨h0, off, e⟩
  · exact h.hd.lt h0 e
  · obtain ⟨b', off', e', hc⟩ := h.body.at_ h0
    rw [e] at e'
    simp only [Option.some.injEq, Addr.mk.injEq, and_true] at e'
    obtain ⟨rfl, rfl⟩ := e'
    exact World.block_lt_of_cell? _ _ (hc 0 h0)
theorem PcAt.keep {w w' : World} {p : Pc} (h : PcAt w p) (hk : ∀ b, PcBlk p b → b < w.heap.size → w'.heap[b]? = w.heap[b]?) : PcAt w' p :=
  ⟨⟨h.hd.ok, h.hd.toks.blk fun h0 b off e => hk b (.inl ⟨h0, off, e⟩) (h.hd.lt h0 e)⟩, h.body.blk fun h0 b off e hb => hk b (.inr ⟨h0, off, e⟩) hb, h.room⟩

section
variable {w w' : World} {B gr : Nat} {R : Nat → Option Addr × Nat} {L : Nat → List Pc}
theorem RIx.lt (h : RIx w B gr R L) {b : Nat} (hb : ROwns gr R L b) : B ≤ b ∧ b < w.heap.size := by
  rcases hb with rfl | ⟨i, hi, e⟩
  · exact ⟨h.low, h.row.lt⟩
  · exact (h.own i hi).lt b e
theorem RIx.frame (h : RIx w B gr R L) (_hs : w.heap.size ≤ w'.heap.size) (hk : ∀ b, b < w.heap.size → (ROwns gr R L b ∨ ∃ i, i < 6 ∧ ∃ x ∈ L i, PcBlk x b) → w'.heap[b]? = w.heap[b]?) : RIx w' B gr R L :=
  ⟨h.row.of_block (hk gr h.row.lt (.inl (.inl rfl))), fun i hi => own_keep (h.own i hi) (fun k e => hk k ((h.own i hi).lt k e).2 (.inl (.inr ⟨i, hi, e⟩))), fun i hi x hx => (h.pcs i hi x hx).keep fun b hb hl => hk b hl (.inr ⟨i, hi, x, hx, hb⟩), h.low, h.ne, h.inj, h.far⟩
theorem RIx.ext (h : RIx w B gr R L) (he : Ext w w') : RIx w' B gr R L := h.frame (Below.size he) fun _ hb _ => he.block hb
theorem RIx.pis (h : RIx w B gr R L) (i : Nat) (hi : i < 6) (hs : (L i).length ≤ 100000) : PisAt w (R i).1 (L i).length (R i).2 (L i) := own_pis (h.own i hi) (h.pcs i hi) (by omega)
def upR (R : Nat → Option Addr × Nat) (i : Nat) (s : Option Addr × Nat) : Nat → Option Addr × Nat := fun j => if j = i then s else R j
def upL (L : Nat → List Pc) (i : Nat) (s : List Pc) : Nat → List Pc := fun j => if j = i then s else L j
theorem upR_at (i : Nat) (s : Option Addr × Nat) : upR R i s i = s := if_pos rfl
theorem upR_ne {i j : Nat} (s : Option Addr × Nat) (h : j ≠ i) : upR R i s j = R j := if_neg h
theorem upL_at (i : Nat) (s : List Pc) : upL L i s i = s := if_pos rfl
theorem upL_ne {i j : Nat} (s : List Pc) (h : j ≠ i) : upL L i s j = L j := if_neg h
/-- A piece put behind the i-th row. -/
theorem RIx.push {w2 w3 : World} {i : Nat} {x : Pc} {a3 : Option Addr} {c3 N : Nat} {ra : Option Addr} {rc : Nat} (h : RIx w B gr R L) (hi : i < 6) (e1 : (R i).1 = ra) (e2 : (R i).2 = rc) (e3 : (L i).length = N) (hx : PcAt w x) (hf : ∀ b, PcBlk x b → ¬ ROwns gr R L b) (hE : Ext w w2)
    (ho : w3.ownsRow B 37 126 (.slice a3 (N + 1) c3) (N + 1) (pisC (L i ++ [x]))) (hG : w2.grownBy w3 (Value.slice ra N rc).ownBlock)
    (hw : (Value.slice a3 (N + 1) c3).ownBlock = (Value.slice ra N rc).ownBlock ∨ (Value.slice a3 (N + 1) c3).ownBlock = some w2.heap.size) :
    w3.cell? ⟨gr, i, none⟩ = some (.slice ra N rc) ∧ w3.frozen? ⟨gr, i, none⟩ = false ∧ RIx (w3.setCell ⟨gr, i, none⟩ (.slice a3 (N + 1) c3)) B gr (upR R i (a3, c3)) (upL L i (L i ++ [x])) ∧
      (∀ b, ROwns gr (upR R i (a3, c3)) (upL L i (L i ++ [x])) b → ROwns gr R L b ∨ w.heap.size ≤ b) ∧ Kp w (w3.setCell ⟨gr, i, none⟩ (.slice a3 (N + 1) c3)) (fun k => ¬ ROwns gr R L k) := by
  subst e1 e2 e3
  obtain ⟨R2, hR2⟩ : ∃ x, upR R i (a3, c3) = x := ⟨_, rfl⟩
  obtain ⟨L2, hL2⟩ : ∃ z, upL L i (L i ++ [x]) = z := ⟨_, rfl⟩
  obtain ⟨w4, hw4⟩ : ∃ z, w3.setCell ⟨gr, i, none⟩ (.slice a3 ((L i).length + 1) c3) = z := ⟨_, rfl⟩
  have r2at : R2 i = (a3, c3) := by rw [← hR2]; exact upR_at _ _
  have r2ne : ∀ j, j ≠ i → R2 j = R j := fun j hj => by rw [← hR2]; exact upR_ne _ hj
  have l2at : L2 i = L i ++ [x] := by rw [← hL2]; exact upL_at _ _
  have l2ne : ∀ j, j ≠ i → L2 j = L j := fun j hj => by rw [← hL2]; exact upL_ne _ hj
  have hl2 : (L i ++ [x]).length = (L i).length + 1 := by simp
  have rat : rsl R2 L2 i = .slice a3 ((L i).length + 1) c3 := by unfold rsl; rw [r2at, l2at, hl2]
  have rne : ∀ j, j ≠ i → rsl R2 L2 j = rsl R L j := fun j hj => by unfold rsl; rw [r2ne j hj, l2ne j hj]
  have hs12 := Below.size hE
  have hs23 := hG.size
  have hG4 : w3.grownBy w4 (some gr) := by rw [← hw4]; exact grown_setCell (World.grownBy.refl w3 _) rfl _
  have hs34 := hG4.size
  have hown : (Value.slice (R i).1 (L i).length (R i).2).ownBlock = (rsl R L i).ownBlock := rfl
  rw [hown] at hG hw
  have keep3 : ∀ b, b < w.heap.size → some b ≠ (rsl R L i).ownBlock → w3.heap[b]? = w.heap[b]? := fun b hb hn => by
    rw [hG.block b (by omega) hn, hE.block hb]
  have keep4 : ∀ b, b < w.heap.size → some b ≠ (rsl R L i).ownBlock → b ≠ gr → w4.heap[b]? = w.heap[b]? := fun b hb hn hg => by
    rw [hG4.block b (by omega) (fun e => hg (Option.some.inj e)), keep3 b hb hn]
  have keepN : ∀ b, b < w.heap.size → ¬ ROwns gr R L b → w4.heap[b]? = w.heap[b]? := fun b hb hn => keep4 b hb (fun e => hn (.inr ⟨i, hi, e.symm⟩)) (fun e => hn (.inl e))
  have hr3 : w3.rowIs gr 54 6 (rsl R L) := h.row.of_block (keep3 gr h.row.lt (fun e => h.ne i hi e.symm))
  have nnew : ∀ b, (rsl R2 L2 i).ownBlock = some b → (rsl R L i).ownBlock = some b ∨ w.heap.size ≤ b := fun b e => by
    rw [rat] at e
    rcases hw with q | q
    · exact .inl (q ▸ e)
    · rw [q] at e
      exact .inr (by have := Option.some.inj e; omega)
  have owns2 : ∀ b, ROwns gr R2 L2 b → ROwns gr R L b ∨ w.heap.size ≤ b := fun b hb => by
    rcases hb with rfl | ⟨j, hj, e⟩
    · exact .inl (.inl rfl)
    · by_cases hji : j = i
      · subst hji
        rcases nnew b e with q | q
        · exact .inl (.inr ⟨j, hj, q⟩)
        · exact .inr q
      · rw [rne j hji] at e
        exact .inl (.inr ⟨j, hj, e⟩)
  have far2 : ∀ y, PcAt w y → (∀ b, PcBlk y b → ¬ ROwns gr R L b) → ∀ b, PcBlk y b → ¬ ROwns gr R2 L2 b := fun y hy hn b hb ho => by
    rcases owns2 b ho with q | q
    · exact hn b hb q
    · have := PcBlk.lt hy hb
      omega
  have hmem : ∀ j, j < 6 → ∀ y ∈ L2 j, PcAt w y ∧ ∀ b, PcBlk y b → ¬ ROwns gr R L b := fun j hj y hy => by
    by_cases hji : j = i
    · subst hji
      rw [l2at] at hy
      rcases List.mem_append.1 hy with q | q
      · exact ⟨h.pcs j hj y q, h.far j hj y q⟩
      · obtain rfl := List.mem_singleton.1 q
        exact ⟨hx, hf⟩
    · rw [l2ne j hji] at hy
      exact ⟨h.pcs j hj y hy, h.far j hj y hy⟩
  refine ⟨?_, hr3.frozen _, ?_, ?_, ?_⟩
  · rw [hr3.cell (i := i) (by omega)]
    rfl
  · rw [hR2, hL2, hw4]
    refine ⟨?_, fun j hj => ?_, fun j hj y hy => (hmem j hj y hy).1.keep fun b hb hl => keepN b hl ((hmem j hj y hy).2 b hb), h.low, fun j hj e => ?_, fun j k hj hk hjk b e1 e2 => ?_, fun j hj y hy => far2 y (hmem j hj y hy).1 (hmem j hj y hy).2⟩
    · rw [← hw4]
      refine (hr3.set i _).congr fun j hj => ?_
      by_cases hji : j = i
      · rw [if_pos hji, hji, rat]
      · rw [if_neg hji, rne j hji]
    · by_cases hji : j = i
      · subst hji
        rw [rat, l2at, hl2]
        refine own_keep ho fun k e => hG4.block k (ho.lt k e).2 (fun e2 => ?_)
        obtain rfl := Option.some.inj e2
        rw [← rat] at e
        rcases nnew _ e with q | q
        · exact h.ne j hj q
        · have := h.row.lt
          omega
      · rw [rne j hji, l2ne j hji]
        exact own_keep (h.own j hj) fun k e => keep4 k ((h.own j hj).lt k e).2 (fun e2 => h.inj j i hj hi hji k e e2.symm) (fun e2 => h.ne j hj (by rw [e, e2]))
    · by_cases hji : j = i
      · subst hji
        rcases nnew _ e with q | q
        · exact h.ne j hj q
        · have := h.row.lt
          omega
      · rw [rne j hji] at e
        exact h.ne j hj e
    · by_cases hji : j = i
      · subst hji
        rw [rne k (fun e => hjk e.symm)] at e2
        rcases nnew b e1 with q | q
        · exact h.inj j k hj hk hjk b q e2
        · have := ((h.own k hk).lt b e2).2
          omega
      · rw [rne j hji] at e1
        by_cases hki : k = i
        · subst hki
          rcases nnew b e2 with q | q
          · exact h.inj j k hj hk hjk b e1 q
          · have := ((h.own j hj).lt b e1).2
            omega
        · rw [rne k hki] at e2
          exact h.inj j k hj hk hjk b e1 e2
  · rw [hR2, hL2]
    exact owns2
  · rw [hw4]
    have h1 : Kp w w2 (fun k => ¬ ROwns gr R L k) := (Kp.refl w _).ext hE
    exact (h1.grown hG fun k hk e => hk (.inr ⟨i, hi, e.symm⟩)).grown hG4 fun k hk e => hk (.inl (Option.some.inj e))
end

/-- How many pieces the first k rows have. -/
def rxSum (L : Nat → List Pc) : Nat → Nat
  | 0 => 0
  | k + 1 => rxSum L k + (L k).length

set_option maxHeartbeats 2000000 in
set_option maxRecDepth 100000 in
theorem rxCount_any {w : World} {B gr : Nat} {R : Nat → Option Addr × Nat} {L : Nat → List Pc} (h : RIx w B gr R L) (hl : ∀ i, i < 6 → (L i).length ≤ 1000) :
    Calls Tryd.prog 32 #[.pointer (some ⟨gr, 0, none⟩)] w fun e w' => e = .returned (.int .i64 (rxSum L 6 : Nat)) ∧ Ext w w' := by
  have HC := Lib.hid (show ∀ i, i < 6 → w.cell? ⟨gr, i, none⟩ = some (.slice (R i).1 (L i).length (R i).2) from fun i hi => h.row.cell hi)
  have Hl := Lib.hid hl
  have Hb := Lib.hid (show ∀ k, k ≤ 6 → rxSum L k ≤ 1000 * k from fun k => by
    induction k with
    | zero => intro _; exact Nat.le_refl _
    | succ k ih =>
      intro hk
      have h1 := ih (by omega)
      have h2 := hl k (by omega)
      show rxSum L k + (L k).length ≤ _
      omega)
  clear h hl
  go_enter Tryd.func32, Tryd.ntmps32
  go_wp2
  go_loopw [3, 4] (fun v i y => ∃ k : Nat, k ≤ 6 ∧ v = .int .i64 (rxSum L k : Nat) ∧ i = .int .i64 (k : Int) ∧ y = w) (fun _ i _ => 6 - (intOf i).toNat)
  case atStart => exact ⟨0, Nat.zero_le _, rfl, rfl, rfl⟩
  case round =>
    obtain ⟨k, hk, rfl, rfl, rfl⟩ := hrel
    have hb := Hb.out k hk
    by_cases hlt : k < 6
    · have x1 : (k : Int) < 6 := by omega
      have x2 : (0 : Int) ≤ (k : Int) := by omega
      have hc := HC.out k hlt
      have hlk := Hl.out k hlt
      obtain ⟨m, hm⟩ : ∃ m, (L k).length = m := ⟨_, rfl⟩
      obtain ⟨s, hs⟩ : ∃ s, rxSum L k = s := ⟨_, rfl⟩
      have Hm := Lib.hid (show rxSum L (k + 1) = s + m by rw [← hm, ← hs]; rfl)
      rw [hm] at hc hlk
      rw [hs] at hb ⊢
      have wS : IntKind.i64.wrap ((s : Int) + (m : Int)) = (s : Int) + (m : Int) := by rw [IntKind.wrap_i64]; omega
      clear hm hs
      go_wp2
      go_roundw
      case rel => exact ⟨k + 1, by omega, by rw [Hm.out]; first | rfl | (congr 1), by go_num, by first | rfl | trivial⟩
      case measure => simp [intOf]; omega
    · obtain rfl : k = 6 := by omega
      have x1 : ¬ ((6 : Nat) : Int) < 6 := by omega
      go_wp2
      go_ret
      exact ⟨rfl, Ext.refl _⟩

/-- What it answers. -/
def rxAsk (L : Nat → List Pc) (p : Pc) : Int :=
  if hdB p.hd.1 p.hd.2 = true then
    if askV p.hd.1.writer ((L (p.hd.1.writer - 1).toNat).map (·.hd)) (tipF ((L (p.hd.1.writer - 1).toNat).map (·.hd))) p.hd = 0 then if wholeB p = true then if 400 ≤ (rxSum L 6 : Int) then 4 else 0 else 2
    else askV p.hd.1.writer ((L (p.hd.1.writer - 1).toNat).map (·.hd)) (tipF ((L (p.hd.1.writer - 1).toNat).map (·.hd))) p.hd
  else 1
/-- What has become of it. -/
def RPut (w w' : World) (B gr : Nat) (R : Nat → Option Addr × Nat) (L : Nat → List Pc) (p : Pc) : Prop :=
  ∃ (i : Nat) (s : Option Addr × Nat), i < 6 ∧ p.hd.1.writer = (i : Int) + 1 ∧ RIx w' B gr (upR R i s) (upL L i (L i ++ [p])) ∧ (∀ b, ROwns gr (upR R i s) (upL L i (L i ++ [p])) b → ROwns gr R L b ∨ w.heap.size ≤ b) ∧ Kp w w' (fun k => ¬ ROwns gr R L k)

def RxSays (v : Int) (w w' : World) (B gr : Nat) (R : Nat → Option Addr × Nat) (L : Nat → List Pc) (p : Pc) : Prop := (v ≠ 0 → Ext w w') ∧ (v = 0 → RPut w w' B gr R L p)
theorem rx_no {v : Int} {w w' : World} {B gr : Nat} {R : Nat → Option Addr × Nat} {L : Nat → List Pc} {p : Pc} (hv : v ≠ 0) (he : Ext w w') : RxSays v w w' B gr R L p := ⟨fun _ => he, fun e => absurd e hv⟩
theorem rx_yes {v : Int} {w w' : World} {B gr : Nat} {R : Nat → Option Addr × Nat} {L : Nat → List Pc} {p : Pc} (hv : v = 0) (he : RPut w w' B gr R L p) : RxSays v w w' B gr R L p := ⟨fun e => absurd hv e, fun _ => he⟩

set_option maxHeartbeats 8000000 in
set_option maxRecDepth 100000 in
theorem rxPut_any {w : World} {B gr : Nat} {R : Nat → Option Addr × Nat} {L : Nat → List Pc} (h : RIx w B gr R L) (hl : ∀ i, i < 6 → (L i).length ≤ 1000) (hfo : ∀ i, i < 6 → ∀ x ∈ L i, hdB x.hd.1 x.hd.2 = true) (p : Pc) (hp : PcAt w p) (hf : ∀ b, PcBlk p b → ¬ ROwns gr R L b) (hk : KsAt 0 w) (hBw : B ≤ w.heap.size) :
    Calls Tryd.prog 31 #[.pointer (some ⟨gr, 0, none⟩), .agg (pcV p)] w fun e w' => e = .returned (.int .i64 (rxAsk L p)) ∧ RxSays (rxAsk L p) w w' B gr R L p := by
  obtain ⟨w2, hw2⟩ : ∃ x, w.alloc (.cells (pcV p) 37) = x := ⟨_, rfl⟩
  have hE2 : Ext w w2 := by rw [← hw2]; exact (Ext.refl w).alloc _
  have hB2 : w2.heap[w.heap.size]? = some (.cells (pcV p) 37 (0, 0)) := by rw [← hw2]; exact heap_new w _ _ rfl
  obtain ⟨g, hg⟩ : ∃ g, w.heap.size = g := ⟨_, rfl⟩
  rw [hg] at hB2
  have Hg := Lib.hid hg
  have Hw2 := Lib.hid hw2
  have HE2 := Lib.hid hE2
  have hrh2 := pc_rh hB2
  have HFo := Lib.hid (refHd_any p.hd.1 p.hd.2 w2 (hp.hd.ext hE2).ok (hp.hd.ext hE2).toks)
  have HRh2 := Lib.hid hrh2
  have hC0 : w2.cell? ⟨g, 0, none⟩ = some (.int .i64 p.hd.1.writer) := pc_hd hB2 0 (by omega)
  have HP := Lib.hid hp
  have HI := Lib.hid h
  have Hl := Lib.hid hl
  have Hfo := Lib.hid hfo
  have Hf := Lib.hid hf
  have HK := Lib.hid hk
  have HBw := Lib.hid hBw
  obtain ⟨PV, hPV⟩ : ∃ x, pcV p = x := ⟨_, rfl⟩
  have HPV := Lib.hid hPV
  have Hsz := Lib.hid (show PV.size = 126 by rw [← hPV]; exact pcV_size _)
  rw [hPV] at hB2 Hw2 ⊢
  have HB2 := Lib.hid hB2
  unfold rxAsk
  cases hF : hdB p.hd.1 p.hd.2 with
  | false =>
    rw [hF] at HFo
    rw [if_neg (by simp)]
    obtain ⟨hh, hhe⟩ : ∃ x, p.hd.1 = x := ⟨_, rfl⟩
    rw [hhe] at HRh2 HFo hC0
    clear hw2 hE2 hB2 hg hF h hl hfo hp hf hk hBw hrh2 hPV hC0 hhe
    go_enter Tryd.func31, Tryd.ntmps31
    go_upto_region 1 with (fail)
    refine wp_world (w' := w2) Hw2.out ?_
    rw [Hg.out]
    clear Hw2
    go_wp2_with (refine wp_hmidI rfl _ rfl g 0 hh rfl HRh2.out ?_)
    refine HFo.out.mono ?_
    rintro e w3 ⟨rfl, hE⟩
    have HE := Lib.hid (HE2.out.trans hE)
    clear hE
    go_wp2
    go_ret
    exact ⟨rfl, rx_no (by first | omega | decide | simp) HE.out⟩
  | true =>
    have hbd := (hdB_bd hF).1
    obtain ⟨i, hiw, hi⟩ : ∃ i : Nat, p.hd.1.writer = (i : Int) + 1 ∧ i < 6 := ⟨(p.hd.1.writer - 1).toNat, by omega, by omega⟩
    rw [hF] at HFo
    rw [if_pos rfl, hiw, show ((i : Int) + 1 - 1).toNat = i by omega]
    rw [hiw] at hC0
    have Hi := Lib.hid hi
    have Hiw := Lib.hid hiw
    obtain ⟨ra, hra⟩ : ∃ x, (R i).1 = x := ⟨_, rfl⟩
    obtain ⟨rc, hrc⟩ : ∃ x, (R i).2 = x := ⟨_, rfl⟩
    obtain ⟨N, hN⟩ : ∃ x, (L i).length = x := ⟨_, rfl⟩
    obtain ⟨HL, hHL⟩ : ∃ x, (L i).map (·.hd) = x := ⟨_, rfl⟩
    have hNs : N ≤ 1000 := by rw [← hN]; exact hl i hi
    have h2 := h.ext hE2
    have hpis := h2.pis i hi (by omega)
    rw [hra, hrc, hN] at hpis
    have HHs := Lib.hid (show ∀ x, Ext w2 x → Calls Tryd.prog 40 #[.slice ra N rc] x fun e w' => ∃ ha hc, e = .returned (.slice ha N hc) ∧ HsAt w' ha N hc HL ∧ Ext x w' from fun x hx =>
      (refHeaders_any ra N rc (L i) x (hpis.ext hx) (by omega)).mono fun e w' ⟨v, h1, h2, h3⟩ => by
        obtain ⟨ha, hc, rfl⟩ := own_hsl h2
        rw [hHL] at h2
        exact ⟨ha, hc, h1, own_hs h2 (fun y hy => by
          rw [← hHL] at hy
          obtain ⟨z, hz, rfl⟩ := List.mem_map.1 hy
          exact (h.pcs i hi z hz).hd.ext (hE2.trans (hx.trans h3))) (by omega), h3⟩)
    obtain ⟨HV, hHV⟩ : ∃ x, hdV p.hd.1 = x := ⟨_, rfl⟩
    obtain ⟨V, hV⟩ : ∃ x, askV ((i : Int) + 1) HL (tipF HL) p.hd = x := ⟨_, rfl⟩
    have HAk := Lib.hid (show ∀ x, Ext w2 x → ∀ ha hc, HsAt x ha N hc HL → Calls Tryd.prog 51 #[.int .i64 ((i : Int) + 1), .slice ha N hc, .agg HV] x fun e w' => e = .returned (.int .i64 V) ∧ Ext x w' from fun x hx ha hc hh => by
      have h1 := refAsk_any ((i : Int) + 1) ha N hc HL p.hd x hh (by omega) (fun y hy => by
        rw [← hHL] at hy
        obtain ⟨z, hz, rfl⟩ := List.mem_map.1 hy
        exact hfo i hi z hz) (hp.hd.ext (hE2.trans hx)) (hdKs_ext hk (hE2.trans hx))
      rw [hV, hHV] at h1
      exact h1)
    have HRh0 := Lib.hid (show ∀ x, Ext w2 x → x.rangeAt g 0 (hdL p.hd.1) from fun x hx j v hv => by
      have h1 := hrh2 j v hv
      rw [Ext.cell hx (World.block_lt_of_cell? _ _ h1)]
      exact h1)
    have HC00 := Lib.hid (show ∀ x, Ext w2 x → x.cell? ⟨g, 0, none⟩ = some (.int .i64 ((i : Int) + 1)) from fun x hx => by rw [Ext.cell hx (World.block_lt_of_cell? _ _ hC0)]; exact hC0)
    have hcr : w2.cell? ⟨gr, i, none⟩ = some (.slice ra N rc) := by
      have h1 := h2.row.cell (i := i) (by omega)
      unfold rsl at h1
      rw [hra, hrc, hN] at h1
      exact h1
    have HCr0 := Lib.hid (show ∀ x, Ext w2 x → x.cell? ⟨gr, i, none⟩ = some (.slice ra N rc) from fun x hx => by rw [Ext.cell hx (World.block_lt_of_cell? _ _ hcr)]; exact hcr)
    have HWh := Lib.hid (show ∀ x, Ext w2 x → Calls Tryd.prog 52 #[.agg PV] x fun e w' => e = .returned (.bool (wholeB p)) ∧ Ext x w' from fun x hx => by
      have h1 := refWhole_any p x (hp.ext (hE2.trans hx)) (hdKs_ext hk (hE2.trans hx))
      rw [hPV] at h1
      exact h1)
    have HCt := Lib.hid (fun x (hx : Ext w2 x) => rxCount_any (h2.ext hx) hl)
    obtain ⟨W, hW⟩ : ∃ x, wholeB p = x := ⟨_, rfl⟩
    obtain ⟨CN, hCN⟩ : ∃ x, rxSum L 6 = x := ⟨_, rfl⟩
    rw [hW] at HWh
    rw [hCN] at HCt
    rw [hHL, hV, hW, hCN]
    have HHV := Lib.hid hHV
    have Hra := Lib.hid hra
    have Hrc := Lib.hid hrc
    have HN := Lib.hid hN
    have HNs := Lib.hid hNs
    obtain ⟨hh, hhe⟩ : ∃ x, p.hd.1 = x := ⟨_, rfl⟩
    rw [hhe] at HRh2 HFo HRh0 HHV
    have wI : IntKind.i64.wrap (i : Int) = (i : Int) := by rw [IntKind.wrap_i64]; omega
    have x4 : (i : Int) < 6 := by omega
    clear hw2 hE2 hB2 hg hF h hl hfo hp hf hk hBw hrh2 hPV hhe hbd hiw hi hra hrc hN hHL hNs h2 hpis hHV hV hcr hW hCN hC0
    go_enter Tryd.func31, Tryd.ntmps31
    go_upto_region 1 with (fail)
    refine wp_world (w' := w2) Hw2.out ?_
    rw [Hg.out]
    clear Hw2
    go_wp2_with (refine wp_hmidI rfl _ rfl g 0 hh rfl HRh2.out ?_)
    refine HFo.out.mono ?_
    rintro e w3 ⟨rfl, hE⟩
    have c0 := HC00.out w3 hE
    have HE3 := Lib.hid hE
    clear hE HFo HRh2
    go_upto_region 4 with (fail)
    have HX := Lib.hid (show ∀ x, Ext w3.drew x → Ext w2 x from fun x hx => HE3.out.trans (Ext.trans (Ext.refl w3).drew hx))
    have HC0 := HC00
    have HCr := HCr0
    have HRh := HRh0
    clear c0
    · refine wp_region_lexA (by kernel_rfl) (by kernel_rfl) ?_
      refine lx_e (.pointer (some ⟨g, 0, none⟩)) [] (by kernel_rfl) rfl (by rfl) (fun w1 hw1 => ?_) ?_
      · simp only [pk, lexVals]
        clear hw1
        go_simp
        exact ⟨Ext.refl _, by first | rfl | simp⟩
      refine lx_e (.pointer (some ⟨g, 0, none⟩)) [(0, 15)] (by kernel_rfl) rfl (by rfl) (fun w1 hw1 => ?_) ?_
      · simp only [pk, nthSp, lexVals]
        clear hw1
        go_simp
        exact ⟨Ext.refl _, by first | rfl | simp⟩
      refine lx_e (.int .i64 ((i : Int) + 1)) [(0, 16)] (by kernel_rfl) rfl (by rfl) (fun w1 hw1 => ?_) ?_
      · simp only [pk, nthSp, lexVals]
        have hc := HC0.out w1 (HX.out w1 hw1)
        clear hw1
        go_simp
        exact ⟨Ext.refl _, by first | rfl | simp⟩
      refine lx_e (.pointer (some ⟨gr, 0, none⟩)) [] (by kernel_rfl) rfl (by rfl) (fun w1 hw1 => ?_) ?_
      · simp only [pk, lexVals]
        clear hw1
        go_simp
        exact ⟨Ext.refl _, by first | rfl | simp⟩
      refine lx_e (.int .i64 (i : Int)) [] (by kernel_rfl) rfl (by rfl) (fun w1 hw1 => ?_) ?_
      · simp only [pk, lexVals]
        clear hw1
        go_simp
        exact ⟨Ext.refl _, by first | rfl | simp⟩
      refine lx_e (.pointer (some ⟨gr, 0, none⟩)) [(1, 18)] (by kernel_rfl) rfl (by rfl) (fun w1 hw1 => ?_) ?_
      · simp only [pk, nthSp, lexVals]
        clear hw1
        go_simp
        exact ⟨Ext.refl _, by first | rfl | simp⟩
      refine lx_e (.pointer (some ⟨gr, 0, none⟩)) [(0, 20)] (by kernel_rfl) rfl (by rfl) (fun w1 hw1 => ?_) ?_
      · simp only [pk, nthSp, lexVals]
        clear hw1
        go_simp
        exact ⟨Ext.refl _, by first | rfl | simp⟩
      refine lx_e (.pointer (some ⟨gr, i, none⟩)) [(2, 19), (0, 21)] (by kernel_rfl) rfl (by rfl) (fun w1 hw1 => ?_) ?_
      · simp only [pk, nthSp, lexVals]
        have hi : (i : Int) < 6 := by have := Hi.out; omega
        clear hw1
        go_simp
        exact ⟨Ext.refl _, by first | rfl | simp⟩
      refine lx_e (.slice ra N rc) [(0, 22)] (by kernel_rfl) rfl (by rfl) (fun w1 hw1 => ?_) ?_
      · simp only [pk, nthSp, lexVals]
        have hc := HCr.out w1 (HX.out w1 hw1)
        clear hw1
        go_simp
        exact ⟨Ext.refl _, by first | rfl | simp⟩
      refine lx_a (fun u w => ∃ ha hc, u = .slice ha N hc ∧ HsAt w ha N hc HL) [(0, 23)] (by kernel_rfl) rfl (by rfl) (fun u w w' he ⟨ha, hc, h1, h2⟩ => ⟨ha, hc, h1, h2.ext he⟩) (fun w1 hw1 => ?_) ?_
      · simp only [pk, nthSp, lexVals]
        have HM := Lib.hid (HHs.out w1 (HX.out w1 hw1))
        clear hw1
        go_simp
        refine HM.out.mono ?_
        rintro e w3 ⟨ha, hc, rfl, hs, hE3⟩
        exact ⟨_, rfl, hE3, ha, hc, rfl, hs⟩
      refine lx_e (.pointer (some ⟨g, 0, none⟩)) [] (by kernel_rfl) rfl (by rfl) (fun w1 hw1 => ?_) ?_
      · simp only [pk, lexVals]
        clear hw1
        go_simp
        exact ⟨Ext.refl _, by first | rfl | simp⟩
      refine lx_e (.agg HV) [(0, 25)] (by kernel_rfl) rfl (by rfl) (fun w1 hw1 => ?_) ?_
      · simp only [pk, nthSp, lexVals]
        rw [← HHV.out]
        exact lu_hmid rfl rfl (HRh.out w1 (HX.out w1 hw1))
      refine lx_e (.int .i64 V) [(9, 17), (2, 24), (0, 26)] (by kernel_rfl) rfl (by rfl) (fun w1 hw1 => ?_) ?_
      · simp only [pk, nthSp, lexVals]
        rintro u24 ⟨ha24, hc24, rfl, h24⟩
        have HM := Lib.hid (HAk.out w1 (HX.out w1 hw1) _ _ h24)
        clear hw1 h24
        go_simp
        refine HM.out.mono ?_
        rintro e w3 ⟨rfl, hE3⟩
        exact ⟨_, rfl, hE3, rfl⟩
      refine lx_e (.int .i64 V) [(0, 27)] (by kernel_rfl) rfl (by rfl) (fun w1 hw1 => ?_) ?_
      · simp only [pk, nthSp, lexVals]
        clear hw1
        go_simp
        exact ⟨Ext.refl _, by first | rfl | simp⟩
      refine lx_stopA (by rfl) fun w5 hw5 => ?_
      have HE5 := Lib.hid (HX.out w5 hw5)
      clear hw5 HX HHs HAk HRh HRh0 HC0 HC00 HCr HCr0
      simp only [rv, pf, lexVals]
      rintro u24 ⟨ha24, hc24, rfl, -⟩
      simp only [Act.put, List.setIfInBounds_toArray, List.set_cons_zero, List.set_cons_succ]
      by_cases hv : V = 0
      · subst hv
        go_wp2_with (refine wpList_load_rowW rfl 37 _ rfl g rfl _ _ _ _ (HE5.out.keep HB2.out) Tryd.underlying37 rfl (by rw [Hsz.out]; kernel_rfl) ?_)
        refine (HWh.out w5 HE5.out).mono ?_
        rintro e w6 ⟨rfl, hE⟩
        have HE6 := Lib.hid (HE5.out.trans hE)
        clear hE
        cases W with
        | false =>
          go_wp2
          go_ret
          exact ⟨by first | rfl | simp, rx_no (by first | decide | omega | simp) (HE2.out.trans HE6.out)⟩
        | true =>
          go_wp2_with fail
          refine (HCt.out w6 HE6.out).mono ?_
          rintro e w7 ⟨rfl, hE⟩
          have HE7 := Lib.hid (HE6.out.trans hE)
          clear hE
          by_cases hfull : (400 : Int) ≤ (CN : Int)
          · have HFu := Lib.hid hfull
            go_wp2
            go_ret
            exact ⟨by first | rfl | simp [HFu.out], rx_no (by first | decide | omega | simp [HFu.out]) (HE2.out.trans HE7.out)⟩
          · have HFu := Lib.hid hfull
            have h7 := HI.out.ext (HE2.out.trans HE7.out)
            obtain ⟨LI, hLI⟩ : ∃ x, L i = x := ⟨_, rfl⟩
            have ho7 := h7.own i Hi.out
            have hrs : rsl R L i = .slice ra N rc := by
              unfold rsl
              rw [Hra.out, Hrc.out, HN.out]
            rw [hrs, HN.out, hLI] at ho7
            have HO7 := Lib.hid ho7
            have hrl : ∀ k, (Value.slice ra N rc).ownBlock = some k → k < w7.heap.size := fun k e => (ho7.lt k e).2
            have Hrl := Lib.hid hrl
            have hgs : g < w2.heap.size := (Array.getElem?_eq_some_iff.1 HB2.out).1
            have hz27 := Below.size HE7.out
            have hrg : (Value.slice ra N rc).ownBlock ≠ some g := fun e => by
              have h1 := (HI.out.own i Hi.out).lt g (by rw [hrs]; exact e)
              have := Hg.out
              omega
            have hb7 : w7.heap[g]? = some (.cells PV 37 (0, 0)) := HE7.out.keep HB2.out
            have hng : (Value.slice ra N rc).ownBlock ≠ some gr := by
              have h1 := HI.out.ne i Hi.out
              rw [hrs] at h1
              exact h1
            have H8c := Lib.hid (show ∀ x, w7.grownBy x (Value.slice ra N rc).ownBlock → x.cell? ⟨gr, i, none⟩ = some (.slice ra N rc) ∧ x.heap[g]? = some (.cells PV 37 (0, 0)) from fun x hx =>
              ⟨by rw [(h7.row.of_block (hx.block gr h7.row.lt (fun e => hng e.symm))).cell (i := i) Hi.out, hrs], by
                rw [hx.block g (by omega) (fun e => hrg e.symm)]
                exact hb7⟩)
            have HB7 := Lib.hid (show B ≤ w7.heap.size by have h1 := HBw.out; have h2 := Below.size (HE2.out.trans HE7.out); omega)
            have H7 := Lib.hid h7
            have HLI := Lib.hid hLI
            clear h7 ho7 hrs hrl hgs hz27 hrg hb7 hng HCt HWh hLI
            have HST := Lib.hid (show ∀ (ph : Bool) (w1 w' : World), (w7.grownBy w1 (Value.slice ra N rc).ownBlock ∧ (ph = false → Ext w7 w1)) → Ext w1 w' → (w7.grownBy w' (Value.slice ra N rc).ownBlock ∧ (ph = false → Ext w7 w')) ∧ (if ph = true then Ext w1 w' else w1.grownBy w' (Value.slice ra N rc).ownBlock) from fun ph w1 w' h1 h2 => ⟨⟨grown_trans h1.1 (grown_ext h2 _), fun e => (h1.2 e).trans h2⟩, by
              cases ph
              · exact grown_ext h2 _
              · exact h2⟩)
            go_upto_region 11 with (fail)
            clear hfull
            refine lq_start (C := fun ph w => w7.grownBy w (Value.slice ra N rc).ownBlock ∧ (ph = false → Ext w7 w)) (E := fun ph w w' => if ph = true then Ext w w' else w.grownBy w' (Value.slice ra N rc).ownBlock) 14 10 (by omega) (by kernel_rfl) (by kernel_rfl) (fun ph w => by cases ph; exact World.grownBy.refl w _; exact Ext.refl w) (fun w w' h => grown_ext h _) ⟨grown_drewN (World.grownBy.refl w7 _) 1, fun _ => (Ext.refl w7).drew⟩ ?_
            simp only [List.take_succ_cons, List.take_zero]
            refine lq_s (.ex (.pointer (some ⟨gr, 0, none⟩))) [] (by omega) (by kernel_rfl) rfl (by rfl) trivial HST.out (fun ph w1 hw1 => ?_) ?_
            · simp only [pk, lexVals]
              clear hw1
              go_simp
              exact ⟨Ext.refl _, by first | rfl | simp⟩
            refine lq_s (.ex (.int .i64 (i : Int))) [] (by omega) (by kernel_rfl) rfl (by rfl) trivial HST.out (fun ph w1 hw1 => ?_) ?_
            · simp only [pk, lexVals]
              clear hw1
              go_simp
              exact ⟨Ext.refl _, by first | rfl | simp⟩
            refine lq_s (.ex (.pointer (some ⟨gr, 0, none⟩))) [] (by omega) (by kernel_rfl) rfl (by rfl) trivial HST.out (fun ph w1 hw1 => ?_) ?_
            · simp only [pk, lexVals]
              clear hw1
              go_simp
              exact ⟨Ext.refl _, by first | rfl | simp⟩
            refine lq_s (.ex (.int .i64 (i : Int))) [] (by omega) (by kernel_rfl) rfl (by rfl) trivial HST.out (fun ph w1 hw1 => ?_) ?_
            · simp only [pk, lexVals]
              clear hw1
              go_simp
              exact ⟨Ext.refl _, by first | rfl | simp⟩
            refine lq_s (.ex (.pointer (some ⟨gr, 0, none⟩))) [(1, 39)] (by omega) (by kernel_rfl) rfl (by rfl) trivial HST.out (fun ph w1 hw1 => ?_) ?_
            · simp only [pk, nthSp, lexVals]
              clear hw1
              go_simp
              exact ⟨Ext.refl _, by first | rfl | simp⟩
            refine lq_s (.ex (.pointer (some ⟨gr, 0, none⟩))) [(0, 41)] (by omega) (by kernel_rfl) rfl (by rfl) trivial HST.out (fun ph w1 hw1 => ?_) ?_
            · simp only [pk, nthSp, lexVals]
              clear hw1
              go_simp
              exact ⟨Ext.refl _, by first | rfl | simp⟩
            refine lq_s (.ex (.pointer (some ⟨gr, i, none⟩))) [(0, 42), (2, 40)] (by omega) (by kernel_rfl) rfl (by rfl) trivial HST.out (fun ph w1 hw1 => ?_) ?_
            · simp only [pk, nthSp, lexVals]
              have hi1 : (i : Int) < 6 := by have := Hi.out; omega
              clear hw1
              go_simp
              exact ⟨Ext.refl _, by first | rfl | simp⟩
            refine lq_s (.ex (.slice ra N rc)) [(0, 43)] (by omega) (by kernel_rfl) rfl (by rfl) trivial HST.out (fun ph w1 hw1 => ?_) ?_
            · simp only [pk, nthSp, lexVals]
              have hc := (H8c.out w1 hw1.1).1
              clear hw1
              go_simp
              exact ⟨Ext.refl _, by first | rfl | simp⟩
            refine lq_s (.ex (.agg PV)) [] (by omega) (by kernel_rfl) rfl (by rfl) trivial HST.out (fun ph w1 hw1 => ?_) ?_
            · simp only [pk, lexVals]
              exact lu_row rfl rfl (H8c.out w1 hw1.1).2 Tryd.underlying37 rfl (by rw [Hsz.out]; kernel_rfl)
            refine lq_s (.ab (fun u w9 => ∃ z, u = .slice (some ⟨z, 0, none⟩) 1 1 ∧ w7.heap.size ≤ z ∧ ∀ j, j < 126 → w9.cell? ⟨z, j, none⟩ = some (pcC p j))) [(0, 45)] (by omega) (by kernel_rfl) rfl (by rfl) (fun u w w' he ⟨z, h1, h4, h3⟩ => ⟨z, h1, h4, fun j hj => World.grownBy.cell he (h3 j hj) (fun e => by have := Hrl.out z e.symm; omega)⟩) HST.out (fun ph w1 hw1 => ?_) ?_
            · simp only [pk, nthSp, lexVals]
              have hsz1 := hw1.1.size
              clear hw1
              rw [← HPV.out]
              exact lu_pc1 rfl rfl ⟨w1.heap.size, rfl, hsz1, fun j hj => row_cell (heap_new w1 _ _ rfl) j hj⟩
            refine lq_m (.ab (fun u w9 => ∃ w5 w6 a3 c3, u = .slice a3 (N + 1) c3 ∧ Ext w7 w5 ∧ w5.grownBy w6 (Value.slice ra N rc).ownBlock ∧ w6.ownsRow B 37 126 (.slice a3 (N + 1) c3) (N + 1) (pisC (LI ++ [p])) ∧ ((Value.slice a3 (N + 1) c3).ownBlock = (Value.slice ra N rc).ownBlock ∨ (Value.slice a3 (N + 1) c3).ownBlock = some w5.heap.size) ∧ Ext w6 w9)) [(2, 44), (0, 46)] rfl (by kernel_rfl) rfl (by rfl) (fun u w w' he ⟨w5, w6, a3, c3, h1, h2, h3, h4, h5, h7⟩ => ⟨w5, w6, a3, c3, h1, h2, h3, h4, h5, h7.trans he⟩) (fun w1 hw1 => ?_) ?_
            · simp only [pk, nthSp, lexVals]
              rintro u46 ⟨z, rfl, hz, hcz⟩
              have hE1 := hw1.2 rfl
              exact luc_append_pc (.tmp 44) (.tmp 46) rfl B (.slice ra N rc) N LI rfl (own_ext9 HO7.out hE1) z 1 p rfl hcz (by have := HNs.out; omega) (by have h1 := HB7.out; have h2 := Below.size hE1; omega) (fun v' w' h1 h2 h3 => by
                obtain ⟨a3, c3, rfl⟩ := own_pisl h1
                exact ⟨⟨grown_trans hw1.1 h2, fun e => by cases e⟩, h2, w1, w', a3, c3, rfl, hE1, h2, h1, h3, Ext.refl _⟩)
            refine lq_s (.ex (.pointer (some ⟨gr, 0, none⟩))) [(10, 37)] (by omega) (by kernel_rfl) rfl (by rfl) trivial HST.out (fun ph w1 hw1 => ?_) ?_
            · simp only [pk, nthSp, lexVals]
              clear hw1
              go_simp
              exact ⟨Ext.refl _, by first | rfl | simp⟩
            refine lq_s (.ex (.pointer (some ⟨gr, 0, none⟩))) [(0, 48)] (by omega) (by kernel_rfl) rfl (by rfl) trivial HST.out (fun ph w1 hw1 => ?_) ?_
            · simp only [pk, nthSp, lexVals]
              clear hw1
              go_simp
              exact ⟨Ext.refl _, by first | rfl | simp⟩
            refine lq_s (.ex (.pointer (some ⟨gr, i, none⟩))) [(0, 49), (11, 38)] (by omega) (by kernel_rfl) rfl (by rfl) trivial HST.out (fun ph w1 hw1 => ?_) ?_
            · simp only [pk, nthSp, lexVals]
              have hi1 : (i : Int) < 6 := by have := Hi.out; omega
              clear hw1
              go_simp
              exact ⟨Ext.refl _, by first | rfl | simp⟩
            refine lq_stop (by rfl) (by decide) fun w9 hw9 => ?_
            clear hw9 HST H8c Hrl
            simp only [rv, pf, lexVals]
            rintro v46 ⟨z46, rfl, -⟩ v47 ⟨w10, w11, a3, c3, rfl, hE10, hG11, ho11, hwh, hE11⟩
            have hG9 := grown_trans hG11 (grown_ext hE11 (Value.slice ra N rc).ownBlock)
            obtain ⟨d1, d2, d3, d4, d5⟩ := HI.out.push Hi.out Hra.out Hrc.out HN.out HP.out Hf.out (HE2.out.trans (HE7.out.trans hE10)) (by rw [HLI.out]; exact own_ext9 ho11 hE11) hG9 hwh
            have HD3 := Lib.hid d3
            have HD4 := Lib.hid d4
            have HD5 := Lib.hid d5
            clear hE10 hG11 ho11 hwh hE11 hG9 d3 d4 d5
            simp only [Act.put, List.setIfInBounds_toArray, List.set_cons_zero, List.set_cons_succ]
            go_wp2
            go_ret
            exact ⟨by first | rfl | simp [HFu.out], rx_yes (by first | rfl | simp [HFu.out]) ⟨i, (a3, c3), Hi.out, Hiw.out, HD3.out, HD4.out, HD5.out⟩⟩
      · have y1 : (V == 0) = false := by simpa using hv
        have Hv := Lib.hid hv
        go_wp2
        go_ret
        exact ⟨by first | rfl | simp [Hv.out], rx_no (by first | exact Hv.out | simp [Hv.out]) (HE2.out.trans HE5.out)⟩

end Go.Proofs.YtihlpfdhallfpaaDoor
