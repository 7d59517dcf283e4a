/-
  What the walk of proof.Parse keeps. No conditions.
-/
import Derived.Test.YtdhbkjajhbfihaaPrHd
namespace Go.Proofs.Ytdhbkjajhbfihaa
open Go.ChangeShapes Go.WideShapes Go.ChangeAt Go.RowKit

theorem HtAt.keep {w w' : World} {x : HT} (h : HtAt w x) (hk : 0 < x.1.tn → ∀ k off, x.1.ta = some ⟨k, off, none⟩ → k < w.heap.size → w'.heap[k]? = w.heap[k]?) : HtAt w' x :=
  ⟨h.ok, h.toks.blk fun h0 b off hta => hk h0 b off hta (h.lt h0 hta)⟩

/-- Where the walk's blocks lie. -/
structure PPn (w : World) (gI r g0 g : Nat) : Prop where
  l0 : w.heap.size ≤ g0
  lg : w.heap.size ≤ g
  lI : w.heap.size ≤ gI
  n1 : g ≠ g0
  n2 : gI ≠ g
  n3 : gI ≠ g0
  n4 : r ≠ g
/-- What the walk keeps. -/
structure PP (w : World) (B gI r g0 g : Nat) (p : Pr) (xs : List Int) (bad : Bool) (wr : World) : Prop where
  inn : InAt wr gI xs bad
  blk : InBlk wr gI r
  row : wr.rowIs g 32 255 (prC p)
  res : wr.rowIs g0 32 255 (prC (prZ 0))
  a : HtAt wr p.a
  b : HtAt wr p.b
  af : 0 < p.a.1.tn → ∀ k off, p.a.1.ta = some ⟨k, off, none⟩ → k ≠ gI ∧ k ≠ g ∧ k ≠ g0 ∧ k < B
  bf : 0 < p.b.1.tn → ∀ k off, p.b.1.ta = some ⟨k, off, none⟩ → k ≠ gI ∧ k ≠ g ∧ k ≠ g0 ∧ k < B
  own : wr.ownsRow B 26 16 (.slice p.wa p.wn p.wc) p.wn (tkC p.ws)
  ext : Ext w wr
  low : B ≤ wr.heap.size
  bI : gI < B
  bg : g < B
  b0 : g0 < B
  br : r < B

section
variable {w wr w' : World} {B gI r g0 g : Nat} {p : Pr} {xs : List Int} {bad : Bool}
/-- An In's step. -/
theorem PP.step (H : PP w B gI r g0 g p xs bad wr) (N : PPn w gI r g0 g) {xs' : List Int} {bad' : Bool} (hI : InAt w' gI xs' bad') (hB : InBlk w' gI r) (hG : wr.grownBy w' (some gI)) : PP w B gI r g0 g p xs' bad' w' := by
  have n2 := N.n2; have n3 := N.n3; have lI := N.lI; have bI := H.bI
  refine ⟨hI, hB, H.row.of_block (hG.block g H.row.lt (fun e => n2 (Option.some.inj e).symm)), H.res.of_block (hG.block g0 H.res.lt (fun e => n3 (Option.some.inj e).symm)),
    H.a.keep fun h0 k off e hk => hG.block k hk (fun e2 => (H.af h0 k off e).1 (Option.some.inj e2)), H.b.keep fun h0 k off e hk => hG.block k hk (fun e2 => (H.bf h0 k off e).1 (Option.some.inj e2)), H.af, H.bf,
    H.own.kept hG (Or.inr fun e => ?_), Below.grown H.ext hG (Below.size H.ext) (fun k e => by have := Option.some.inj e; omega), Nat.le_trans H.low hG.size, H.bI, H.bg, H.b0, H.br⟩
  have := (H.own.lt gI e).1
  omega
/-- Memory grew. -/
theorem PP.more (H : PP w B gI r g0 g p xs bad wr) (hE : Ext wr w') : PP w B gI r g0 g p xs bad w' :=
  ⟨inAt_ext H.inn hE, inSame_ext hE r H.blk, H.row.of_block (hE.block H.row.lt), H.res.of_block (hE.block H.res.lt), H.a.ext hE, H.b.ext hE, H.af, H.bf,
    H.own.kept (grown_ext hE none) (by generalize (Value.slice p.wa p.wn p.wc).ownBlock = o; cases o <;> simp), H.ext.trans hE, Nat.le_trans H.low (Below.size hE), H.bI, H.bg, H.b0, H.br⟩
/-- The proof's block turned. -/
theorem PP.turn (H : PP w B gI r g0 g p xs bad wr) (N : PPn w gI r g0 g) {p' : Pr} (hG : wr.grownBy w' (some g)) (hr : w'.rowIs g 32 255 (prC p')) (ha : p'.a = p.a) (hb : p'.b = p.b)
    (ho : p'.wa = p.wa ∧ p'.wn = p.wn ∧ p'.wc = p.wc ∧ p'.ws = p.ws) : PP w B gI r g0 g p' xs bad w' := by
  have n1 := N.n1; have n2 := N.n2; have n4 := N.n4; have lg := N.lg; have bg := H.bg
  obtain ⟨i1, b1⟩ := H.inn.grown H.blk hG n2 n4
  refine ⟨i1, b1, hr, H.res.of_block (hG.block g0 H.res.lt (fun e => n1 (Option.some.inj e).symm)), by rw [ha]; exact H.a.keep fun h0 k off e hk => hG.block k hk (fun e2 => (H.af h0 k off e).2.1 (Option.some.inj e2)),
    by rw [hb]; exact H.b.keep fun h0 k off e hk => hG.block k hk (fun e2 => (H.bf h0 k off e).2.1 (Option.some.inj e2)), by rw [ha]; exact H.af, by rw [hb]; exact H.bf, ?_, Below.grown H.ext hG (Below.size H.ext) (fun k e => by have := Option.some.inj e; omega), Nat.le_trans H.low hG.size, H.bI, H.bg, H.b0, H.br⟩
  rw [ho.1, ho.2.1, ho.2.2.1, ho.2.2.2]
  refine H.own.kept hG (Or.inr fun e => ?_)
  have := (H.own.lt g e).1
  omega
/-- A cell of the proof is stored. -/
theorem PP.set (H : PP w B gI r g0 g p xs bad wr) (N : PPn w gI r g0 g) (i : Nat) (hi : i < 255) (v : Value) (p' : Pr) (hc : ∀ j, j < 255 → (if j = i then v else prC p j) = prC p' j) (ha : p'.a = p.a) (hb : p'.b = p.b)
    (ho : p'.wa = p.wa ∧ p'.wn = p.wn ∧ p'.wc = p.wc ∧ p'.ws = p.ws) : wr.cell? ⟨g, i, none⟩ = some (prC p i) ∧ wr.frozen? ⟨g, i, none⟩ = false ∧ PP w B gI r g0 g p' xs bad (wr.setCell ⟨g, i, none⟩ v) :=
  ⟨H.row.cell hi, H.row.frozen i, H.turn N (grown_setCell (World.grownBy.refl wr _) rfl _) ((H.row.set i v).congr hc) ha hb ho⟩
/-- The own row, none being there, may begin later. -/
theorem PP.later (H : PP w B gI r g0 g p xs bad wr) (hn : p.wa = none ∧ p.wn = 0 ∧ p.wc = 0 ∧ p.ws = []) : PP w wr.heap.size gI r g0 g p xs bad wr := by
  have := H.low
  refine ⟨H.inn, H.blk, H.row, H.res, H.a, H.b, fun h0 k off e => ?_, fun h0 k off e => ?_, ?_, H.ext, Nat.le_refl _, by have := H.bI; omega, by have := H.bg; omega, by have := H.b0; omega, by have := H.br; omega⟩
  · obtain ⟨h1, h2, h3, h4⟩ := H.af h0 k off e
    exact ⟨h1, h2, h3, by omega⟩
  · obtain ⟨h1, h2, h3, h4⟩ := H.bf h0 k off e
    exact ⟨h1, h2, h3, by omega⟩
  · rw [hn.1, hn.2.1, hn.2.2.1, hn.2.2.2]
    exact World.ownsRow_nil _ _ _ _
/-- A header is put in as A. -/
theorem PP.setA (H : PP w B gI r g0 g p xs bad wr) (N : PPn w gI r g0 g) (h0 : p.wa = none ∧ p.wn = 0 ∧ p.wc = 0 ∧ p.ws = []) (x : HT) (hx : HtAt wr x) (hf : 0 < x.1.tn → ∀ k off, x.1.ta = some ⟨k, off, none⟩ → B ≤ k ∧ k < wr.heap.size) :
    PP w (wr.setCells g 1 (hdV x.1).toList).heap.size gI r g0 g { p with a := x } xs bad (wr.setCells g 1 (hdV x.1).toList) := by
  have hG : wr.grownBy (wr.setCells g 1 (hdV x.1).toList) (some g) := grown_setCells _ _ _ (World.grownBy.refl wr _)
  obtain ⟨_, hr⟩ := pr_storeA H.row x
  obtain ⟨i1, b1⟩ := H.inn.grown H.blk hG N.n2 N.n4
  have lg := N.lg; have bg := H.bg; have b0 := H.b0; have bI := H.bI; have br := H.br; have low := H.low; have hs := hG.size
  have hkA : 0 < x.1.tn → ∀ k off, x.1.ta = some ⟨k, off, none⟩ → k ≠ gI ∧ k ≠ g ∧ k ≠ g0 ∧ k < (wr.setCells g 1 (hdV x.1).toList).heap.size := fun h0 k off e => by have := hf h0 k off e; omega
  refine ⟨i1, b1, hr, H.res.of_block (hG.block g0 H.res.lt (fun e => N.n1 (Option.some.inj e).symm)), hx.keep fun h0 k off e hk => hG.block k hk (fun e2 => (hkA h0 k off e).2.1 (Option.some.inj e2)),
    H.b.keep fun h0 k off e hk => hG.block k hk (fun e2 => (H.bf h0 k off e).2.1 (Option.some.inj e2)), hkA, fun h0 k off e => by have := H.bf h0 k off e; omega, ?_, Below.grown H.ext hG (Below.size H.ext) (fun k e => by have := Option.some.inj e; omega), Nat.le_refl _, by omega, by omega, by omega, by omega⟩
  show (wr.setCells g 1 (hdV x.1).toList).ownsRow _ _ 16 (.slice p.wa p.wn p.wc) p.wn (tkC p.ws)
  rw [h0.1, h0.2.1, h0.2.2.1, h0.2.2.2]
  exact World.ownsRow_nil _ _ _ _
/-- A header is put in as B. -/
theorem PP.setB (H : PP w B gI r g0 g p xs bad wr) (N : PPn w gI r g0 g) (h0 : p.wa = none ∧ p.wn = 0 ∧ p.wc = 0 ∧ p.ws = []) (x : HT) (hx : HtAt wr x) (hf : 0 < x.1.tn → ∀ k off, x.1.ta = some ⟨k, off, none⟩ → B ≤ k ∧ k < wr.heap.size) :
    PP w (wr.setCells g 126 (hdV x.1).toList).heap.size gI r g0 g { p with b := x } xs bad (wr.setCells g 126 (hdV x.1).toList) := by
  have hG : wr.grownBy (wr.setCells g 126 (hdV x.1).toList) (some g) := grown_setCells _ _ _ (World.grownBy.refl wr _)
  obtain ⟨_, hr⟩ := pr_storeB H.row x
  obtain ⟨i1, b1⟩ := H.inn.grown H.blk hG N.n2 N.n4
  have lg := N.lg; have bg := H.bg; have b0 := H.b0; have bI := H.bI; have br := H.br; have low := H.low; have hs := hG.size
  have hkB : 0 < x.1.tn → ∀ k off, x.1.ta = some ⟨k, off, none⟩ → k ≠ gI ∧ k ≠ g ∧ k ≠ g0 ∧ k < (wr.setCells g 126 (hdV x.1).toList).heap.size := fun h0 k off e => by have := hf h0 k off e; omega
  refine ⟨i1, b1, hr, H.res.of_block (hG.block g0 H.res.lt (fun e => N.n1 (Option.some.inj e).symm)), H.a.keep fun h0 k off e hk => hG.block k hk (fun e2 => (H.af h0 k off e).2.1 (Option.some.inj e2)),
    hx.keep fun h0 k off e hk => hG.block k hk (fun e2 => (hkB h0 k off e).2.1 (Option.some.inj e2)), fun h0 k off e => by have := H.af h0 k off e; omega, hkB, ?_, Below.grown H.ext hG (Below.size H.ext) (fun k e => by have := Option.some.inj e; omega), Nat.le_refl _, by omega, by omega, by omega, by omega⟩
  show (wr.setCells g 126 (hdV x.1).toList).ownsRow _ _ 16 (.slice p.wa p.wn p.wc) p.wn (tkC p.ws)
  rw [h0.1, h0.2.1, h0.2.2.1, h0.2.2.2]
  exact World.ownsRow_nil _ _ _ _
/-- A token is put behind the wanted ones. -/
theorem PP.push (H : PP w B gI r g0 g p xs bad wr) (N : PPn w gI r g0 g) {a' : Option Addr} {c' : Nat} {us : List (Nat → Int)} (hown : w'.ownsRow B 26 16 (.slice a' (p.wn + 1) c') (p.wn + 1) (tkC us)) (hG : wr.grownBy w' (Value.slice p.wa p.wn p.wc).ownBlock) :
    w'.cell? ⟨g, 254, none⟩ = some (.slice p.wa p.wn p.wc) ∧ w'.frozen? ⟨g, 254, none⟩ = false ∧ PP w B gI r g0 g { p with wa := a', wn := p.wn + 1, wc := c', ws := us } xs bad (w'.setCell ⟨g, 254, none⟩ (.slice a' (p.wn + 1) c')) := by
  have lg := N.lg; have bg := H.bg; have b0 := H.b0; have bI := H.bI; have br := H.br; have low := H.low; have hs := hG.size
  have hB : ∀ k, (Value.slice p.wa p.wn p.wc).ownBlock = some k → B ≤ k := fun k e => (H.own.lt k e).1
  have ne : ∀ k, k < B → some k ≠ (Value.slice p.wa p.wn p.wc).ownBlock := fun k hk e => by have := hB k e.symm; omega
  have hr1 := H.row.of_block (hG.block g H.row.lt (ne g bg))
  have hr2 := (hr1.set 254 (.slice a' (p.wn + 1) c')).congr (prC_setT p a' (p.wn + 1) c' us)
  have hG2 : w'.grownBy (w'.setCell ⟨g, 254, none⟩ (.slice a' (p.wn + 1) c')) (some g) := grown_setCell (World.grownBy.refl w' _) rfl _
  have hlt := Below.size H.ext
  obtain ⟨i1, b1⟩ := H.inn.grownO H.blk hG (ne gI bI) (ne r br)
  obtain ⟨i2, b2⟩ := i1.grown b1 hG2 N.n2 N.n4
  have kA : ∀ x : HT, HtAt wr x → (0 < x.1.tn → ∀ k off, x.1.ta = some ⟨k, off, none⟩ → k ≠ gI ∧ k ≠ g ∧ k ≠ g0 ∧ k < B) → HtAt (w'.setCell ⟨g, 254, none⟩ (.slice a' (p.wn + 1) c')) x := fun x hx hf => hx.keep fun h0 k off e hk => by
    have h1 := hf h0 k off e
    rw [hG2.block k (by omega) (fun e2 => h1.2.1 (Option.some.inj e2))]
    exact hG.block k hk (ne k h1.2.2.2)
  refine ⟨hr1.cell (i := 254) (by omega), hr1.frozen 254, i2, b2, hr2, (H.res.of_block (hG.block g0 H.res.lt (ne g0 b0))).setOther (fun e => N.n1 e.symm) _, kA p.a H.a H.af, kA p.b H.b H.bf, H.af, H.bf, ?_, ?_, ?_, H.bI, H.bg, H.b0, H.br⟩
  · refine hown.kept hG2 (Or.inr fun e => ?_)
    have := (hown.lt g e).1
    omega
  · exact Below.grown (Below.grown H.ext hG hlt (fun k e => by have := hB k e; omega)) hG2 (by omega) (fun k e => by have := Option.some.inj e; omega)
  · exact Nat.le_trans low (Nat.le_trans hs hG2.size)
/-- A new block turned. -/
theorem PP.new (H : PP w B gI r g0 g p xs bad wr) (N : PPn w gI r g0 g) {q : Nat} (hq : B ≤ q) (ho : (Value.slice p.wa p.wn p.wc).ownBlock ≠ some q) (hG : wr.grownBy w' (some q)) : PP w B gI r g0 g p xs bad w' := by
  have bI := H.bI; have bg := H.bg; have b0 := H.b0; have br := H.br; have low := H.low; have lt := Below.size H.ext
  have hwB : w.heap.size ≤ B := by have := N.lI; omega
  obtain ⟨i1, b1⟩ := H.inn.grown H.blk hG (by omega) (by omega)
  refine ⟨i1, b1, H.row.of_block (hG.block g H.row.lt (fun e => by have := Option.some.inj e; omega)), H.res.of_block (hG.block g0 H.res.lt (fun e => by have := Option.some.inj e; omega)),
    H.a.keep fun h0 k off e hk => hG.block k hk (fun e2 => by have := Option.some.inj e2; have := H.af h0 k off e; omega), H.b.keep fun h0 k off e hk => hG.block k hk (fun e2 => by have := Option.some.inj e2; have := H.bf h0 k off e; omega),
    H.af, H.bf, H.own.kept hG (Or.inr fun e => ho e), Below.grown H.ext hG (Below.size H.ext) (fun k e => by have := Option.some.inj e; have := hwB; omega), Nat.le_trans H.low hG.size, H.bI, H.bg, H.b0, H.br⟩
theorem PP.prAt (H : PP w B gI r g0 g p xs bad wr) (hk : -9223372036854775808 ≤ p.kind ∧ p.kind ≤ 9223372036854775807) (hw : -9223372036854775808 ≤ p.writer ∧ p.writer ≤ 9223372036854775807) (hf : 0 ≤ p.floor ∧ p.floor < 18446744073709551616) (hh : 0 ≤ p.head ∧ p.head < 18446744073709551616)
    (hb : ∀ t ∈ p.ws, ∀ j, j < 16 → 0 ≤ t j ∧ t j < 256) (hs : p.wn ≤ 1000) : PrAt wr p := ⟨hk, H.a, H.b, hw, hf, hh, own_ts1 H.own hb (by omega)⟩
theorem PrAt.newRow {w w' : World} {p : Pr} (h : PrAt w p) {g0 : Nat} (cs : Array Value) (hE : Ext w w') (ha : 0 < p.a.1.tn → ∀ k off, p.a.1.ta = some ⟨k, off, none⟩ → k ≠ g0) (hb : 0 < p.b.1.tn → ∀ k off, p.b.1.ta = some ⟨k, off, none⟩ → k ≠ g0) (hw : 0 < p.wn → ∀ k off, p.wa = some ⟨k, off, none⟩ → k ≠ g0) : PrAt (w'.setRow g0 cs) p := by
  have h' := h.ext hE
  exact ⟨h'.kind, h'.a.keep fun h0 k off e _ => setRow_other w' g0 k cs (ha h0 k off e), h'.b.keep fun h0 k off e _ => setRow_other w' g0 k cs (hb h0 k off e), h'.writer, h'.floor, h'.head, h'.toks.blk fun h0 b off hta => setRow_other w' g0 b cs (hw h0 b off hta)⟩
end

end Go.Proofs.Ytdhbkjajhbfihaa
