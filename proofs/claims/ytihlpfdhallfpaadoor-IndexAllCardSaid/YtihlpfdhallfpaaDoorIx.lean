/-
  An index: what lies there; how it grows. No conditions.
-/
import Derived.Test.YtihlpfdhallfpaaDoorWrT
namespace Go.Proofs.YtihlpfdhallfpaaDoor
open Go.ChangeShapes Go.WideShapes Go.ChangeAt Go.RowKit

/-- A writer's part: its chain, its bodies (bytes, where they lie, room). -/
structure CSt where
  a : Option Addr
  c : Nat
  l : List HT
  T : Nat → Int
  ba : Option Addr
  bc : Nat
  bl : List (List Int × Option Addr × Nat)
def cst0 : CSt := ⟨none, 0, [], fun _ => 0, none, 0, []⟩
def bdC (bl : List (List Int × Option Addr × Nat)) : List Value := bl.map fun x => .slice x.2.1 x.1.length x.2.2
theorem bdC_length (bl : List (List Int × Option Addr × Nat)) : (bdC bl).length = bl.length := by simp [bdC]
/-- An index's cell. -/
def ixC (G : Nat → Nat) (S : Nat → CSt) (cnt : Int) (i : Nat) : Value :=
  if i < 6 then .pointer (some ⟨G i, 0, none⟩) else if i < 12 then .slice (S (i - 6)).ba (S (i - 6)).bl.length (S (i - 6)).bc else .int .i64 cnt
/-- The blocks that an index owns: chains, rows of headers, rows of bodies, its own. -/
def ixP (gx : Nat) (G : Nat → Nat) (S : Nat → CSt) (s : Nat) : Option Nat :=
  if s < 6 then some (G s) else if s < 12 then (Value.slice (S (s - 6)).a (S (s - 6)).l.length (S (s - 6)).c).ownBlock
  else if s < 18 then (Value.slice (S (s - 12)).ba (S (s - 12)).bl.length (S (s - 12)).bc).ownBlock else some gx
/-- A block that is none of these. -/
def IxFar (gx : Nat) (G : Nat → Nat) (S : Nat → CSt) (k : Nat) : Prop := ∀ s, s < 19 → ixP gx G S s ≠ some k

/-- Block gx is an index. -/
structure IxAt (w : World) (B gx : Nat) (G : Nat → Nat) (S : Nat → CSt) (cnt : Int) : Prop where
  row : w.rowIs gx 72 13 (ixC G S cnt)
  ch : ∀ i, i < 6 → ChAt w B (G i) ((i : Int) + 1) (S i).a (S i).c (S i).l (S i).T
  bo : ∀ i, i < 6 → w.ownsRow B 35 1 (.slice (S i).ba (S i).bl.length (S i).bc) (S i).bl.length (bdC (S i).bl)
  by_ : ∀ i, i < 6 → ∀ x ∈ (S i).bl, BsAt w x.2.1 x.1.length x.2.2 x.1
  low : B ≤ gx
  inj : ∀ s t, s < 19 → t < 19 → s ≠ t → ∀ k, ixP gx G S s = some k → ixP gx G S t ≠ some k
  far : ∀ i, i < 6 → ∀ x ∈ (S i).l, 0 < x.1.tn → ∀ b off, x.1.ta = some ⟨b, off, none⟩ → IxFar gx G S b
  farB : ∀ i, i < 6 → ∀ x ∈ (S i).bl, 0 < x.1.length → ∀ b off, x.2.1 = some ⟨b, off, none⟩ → IxFar gx G S b

theorem BsAt.blk {w w' : World} {a : Option Addr} {n c : Nat} {xs : List Int} (h : BsAt w a n c xs) (he : 0 < n → ∀ b off, a = some ⟨b, off, none⟩ → b < w.heap.size → w'.heap[b]? = w.heap[b]?) : BsAt w' a n c xs := by
  refine ⟨h.len, h.cap, h.lim, h.small, h.byte, fun hn => ?_, h.nil_⟩
  obtain ⟨b, off, ha, hc⟩ := h.at_ hn
  refine ⟨b, off, ha, fun i hi => ?_⟩
  have h1 := hc i hi
  have hb := World.block_lt_of_cell? w _ h1
  unfold World.cell? at h1 ⊢
  simp only [he hn b off ha hb]
  exact h1

section
variable {w w' : World} {B gx : Nat} {G : Nat → Nat} {S : Nat → CSt} {cnt : Int}
theorem IxAt.ext (h : IxAt w B gx G S cnt) (he : Ext w w') : IxAt w' B gx G S cnt :=
  ⟨h.row.of_block (he.block h.row.lt), fun i hi => (h.ch i hi).ext he, fun i hi => own_ext9 (h.bo i hi) he, fun i hi x hx => (h.by_ i hi x hx).ext he, h.low, h.inj, h.far, h.farB⟩
theorem ixP_g {i : Nat} (hi : i < 6) : ixP gx G S i = some (G i) := if_pos hi
theorem ixP_a {i : Nat} (hi : i < 6) : ixP gx G S (6 + i) = (Value.slice (S i).a (S i).l.length (S i).c).ownBlock := by
  unfold ixP
  rw [if_neg (by omega), if_pos (by omega), show 6 + i - 6 = i by omega]
theorem ixP_b {i : Nat} (hi : i < 6) : ixP gx G S (12 + i) = (Value.slice (S i).ba (S i).bl.length (S i).bc).ownBlock := by
  unfold ixP
  rw [if_neg (by omega), if_neg (by omega), if_pos (by omega), show 12 + i - 12 = i by omega]
theorem ixP_x : ixP gx G S 18 = some gx := by
  unfold ixP
  rw [if_neg (by omega), if_neg (by omega), if_neg (by omega)]
theorem IxAt.lt (h : IxAt w B gx G S cnt) : ∀ s, s < 19 → ∀ k, ixP gx G S s = some k → B ≤ k ∧ k < w.heap.size := by
  intro s hs k e
  by_cases h1 : s < 6
  · rw [ixP_g h1] at e
    obtain rfl := Option.some.inj e
    exact ⟨(h.ch s h1).low, (h.ch s h1).row.lt⟩
  · by_cases h2 : s < 12
    · obtain ⟨i, rfl⟩ : ∃ i, s = 6 + i := ⟨s - 6, by omega⟩
      rw [ixP_a (by omega)] at e
      exact (h.ch i (by omega)).own.lt k e
    · by_cases h3 : s < 18
      · obtain ⟨i, rfl⟩ : ∃ i, s = 12 + i := ⟨s - 12, by omega⟩
        rw [ixP_b (by omega)] at e
        exact (h.bo i (by omega)).lt k e
      · obtain rfl : s = 18 := by omega
        rw [ixP_x] at e
        obtain rfl := Option.some.inj e
        exact ⟨h.low, h.row.lt⟩
/-- What is new is none of an index's blocks. -/
theorem IxAt.fresh (h : IxAt w B gx G S cnt) {k : Nat} (hk : w.heap.size ≤ k) : IxFar gx G S k := fun s hs e => by
  have := (h.lt s hs k e).2
  omega
/-- A chain whose blocks are kept. -/
theorem ChAt.keep {g : Nat} {wr : Int} {a : Option Addr} {c : Nat} {l : List HT} {T : Nat → Int} (h : ChAt w B g wr a c l T) (_hs : w.heap.size ≤ w'.heap.size) (hg : w'.heap[g]? = w.heap[g]?) (ha : ∀ k, (Value.slice a l.length c).ownBlock = some k → w'.heap[k]? = w.heap[k]?)
    (ht : ∀ x ∈ l, 0 < x.1.tn → ∀ b off, x.1.ta = some ⟨b, off, none⟩ → b < w.heap.size → w'.heap[b]? = w.heap[b]?) : ChAt w' B g wr a c l T := by
  refine ⟨h.row.of_block hg, ?_, fun x hx => ⟨(h.each x hx).ok, (h.each x hx).toks.blk fun h0 b off hta => ht x hx h0 b off hta ((h.each x hx).lt h0 hta)⟩, h.low, h.ne, h.far⟩
  rcases h.own.2 with ⟨h1, h2⟩ | ⟨q, cap, cur, h1, h2, h3, h4⟩
  · exact ⟨h.own.1, .inl ⟨h1, h2⟩⟩
  · exact ⟨h.own.1, .inr ⟨q, cap, cur, h1, h2, by rw [ha q (by rw [h1]; rfl)]; exact h3, h4⟩⟩
theorem own_keep {e : TypeId} {size n : Nat} {v : Value} {xs : List Value} (h : w.ownsRow B e size v n xs) (ha : ∀ k, v.ownBlock = some k → w'.heap[k]? = w.heap[k]?) : w'.ownsRow B e size v n xs := by
  rcases h.2 with ⟨h1, h2⟩ | ⟨q, cap, cur, h1, h2, h3, h4⟩
  · exact ⟨h.1, .inl ⟨h1, h2⟩⟩
  · exact ⟨h.1, .inr ⟨q, cap, cur, h1, h2, by rw [ha q (by rw [h1]; rfl)]; exact h3, h4⟩⟩
end

/-- A state with one writer's part anew. -/
def upS (S : Nat → CSt) (i : Nat) (s : CSt) : Nat → CSt := fun j => if j = i then s else S j
theorem upS_at (S : Nat → CSt) (i : Nat) (s : CSt) : upS S i s i = s := if_pos rfl
theorem upS_ne (S : Nat → CSt) {i j : Nat} (s : CSt) (h : j ≠ i) : upS S i s j = S j := if_neg h

section
variable {w w' : World} {B gx : Nat} {G : Nat → Nat} {S : Nat → CSt} {cnt : Int}
/-- What ixP says of a state with one part anew: all else stays. -/
theorem ixP_up {i : Nat} (_hi : i < 6) (s : CSt) (t : Nat) (h1 : t ≠ 6 + i) (h2 : t ≠ 12 + i) : ixP gx G (upS S i s) t = ixP gx G S t := by
  unfold ixP
  by_cases a1 : t < 6
  · rw [if_pos a1, if_pos a1]
  rw [if_neg a1, if_neg a1]
  by_cases a2 : t < 12
  · rw [if_pos a2, if_pos a2, upS_ne S s (by omega)]
  rw [if_neg a2, if_neg a2]
  by_cases a3 : t < 18
  · rw [if_pos a3, if_pos a3, upS_ne S s (by omega)]
  rw [if_neg a3, if_neg a3]
/-- A header put into the i-th chain. -/
theorem IxAt.addChain (h : IxAt w B gx G S cnt) {i : Nat} (hi : i < 6) {x : HT} {a2 : Option Addr} {c2 : Nat} {ta : Option Addr} {tc : Nat} (ha : AddTo w w' B (G i) ((i : Int) + 1) (S i).a (S i).c (S i).l x a2 c2 ta tc) :
    IxAt w' B gx G (upS S i { S i with a := a2, c := c2, l := (S i).l ++ [reT x ta tc], T := shaF (bytesL x.1 x.2) }) cnt := by
  have hst := ha.step
  have hl2 : ((S i).l ++ [reT x ta tc]).length = (S i).l.length + 1 := by simp
  -- a place that is neither the chain's block nor its row stays
  have keepP : ∀ s, s < 19 → s ≠ i → s ≠ 6 + i → ∀ k, ixP gx G S s = some k → w'.heap[k]? = w.heap[k]? := fun s hs h1 h2 k e =>
    hst.block k (h.lt s hs k e).2 (fun e2 => h.inj s i hs (by omega) h1 k e (by rw [ixP_g hi, e2])) (fun e2 => h.inj s (6 + i) hs (by omega) h2 k e (by rw [ixP_a hi]; exact e2.symm))
  have keepF : ∀ b, IxFar gx G S b → b < w.heap.size → w'.heap[b]? = w.heap[b]? := fun b hf hb =>
    hst.block b hb (fun e => hf i (by omega) (by rw [ixP_g hi, e])) (fun e => hf (6 + i) (by omega) (by rw [ixP_a hi]; exact e.symm))
  -- the new row
  have hrow : ∀ k, ixP gx G (upS S i { S i with a := a2, c := c2, l := (S i).l ++ [reT x ta tc], T := shaF (bytesL x.1 x.2) }) (6 + i) = some k → ixP gx G S (6 + i) = some k ∨ w.heap.size ≤ k := fun k e => by
    rw [ixP_a hi, upS_at] at e
    rw [ixP_a hi]
    exact hst.row k (by rw [← hl2]; exact e)
  have hbd : ixP gx G (upS S i { S i with a := a2, c := c2, l := (S i).l ++ [reT x ta tc], T := shaF (bytesL x.1 x.2) }) (12 + i) = ixP gx G S (12 + i) := by
    rw [ixP_b hi, ixP_b hi, upS_at]
  have same : ∀ t, t ≠ 6 + i → ixP gx G (upS S i { S i with a := a2, c := c2, l := (S i).l ++ [reT x ta tc], T := shaF (bytesL x.1 x.2) }) t = ixP gx G S t := fun t ht => by
    by_cases h2 : t = 12 + i
    · rw [h2]; exact hbd
    · exact ixP_up hi _ t ht h2
  have far' : ∀ b, IxFar gx G S b → b < w.heap.size → IxFar gx G (upS S i { S i with a := a2, c := c2, l := (S i).l ++ [reT x ta tc], T := shaF (bytesL x.1 x.2) }) b := fun b hf hb s hs e => by
    by_cases h1 : s = 6 + i
    · subst h1
      rcases hrow b e with q | q
      · exact hf _ hs q
      · omega
    · rw [same s h1] at e
      exact hf s hs e
  refine ⟨?_, fun j hj => ?_, fun j hj => ?_, fun j hj y hy => ?_, h.low, fun s t hs ht hne k e1 e2 => ?_, fun j hj y hy h0 b off hta => ?_, fun j hj y hy h0 b off hta => ?_⟩
  · refine (h.row.of_block (keepP 18 (by omega) (by omega) (by omega) gx ixP_x)).congr fun j _ => ?_
    unfold ixC
    by_cases a1 : j < 6
    · rw [if_pos a1, if_pos a1]
    rw [if_neg a1, if_neg a1]
    by_cases a2 : j < 12
    · rw [if_pos a2, if_pos a2]
      by_cases a3 : j - 6 = i
      · rw [a3, upS_at]
      · rw [upS_ne S _ a3]
    · rw [if_neg a2, if_neg a2]
  · by_cases hj2 : j = i
    · subst hj2
      rw [upS_at]
      exact ha.ch
    · rw [upS_ne S _ hj2]
      refine (h.ch j hj).keep hst.size (keepP j (by omega) hj2 (by omega) _ (ixP_g hj)) (fun k e => keepP (6 + j) (by omega) (by omega) (by omega) k (by rw [ixP_a hj]; exact e)) (fun y hy h0 b off hta hb => keepF b (h.far j hj y hy h0 b off hta) hb)
  · have h1 : w'.ownsRow B 35 1 (.slice (S j).ba (S j).bl.length (S j).bc) (S j).bl.length (bdC (S j).bl) := own_keep (h.bo j hj) (fun k e => keepP (12 + j) (by omega) (by omega) (by omega) k (by rw [ixP_b hj]; exact e))
    by_cases hj2 : j = i
    · subst hj2
      rw [upS_at]
      exact h1
    · rw [upS_ne S _ hj2]
      exact h1
  · have hy' : y ∈ (S j).bl := by
      by_cases hj2 : j = i
      · subst hj2; rw [upS_at] at hy; exact hy
      · rw [upS_ne S _ hj2] at hy; exact hy
    exact (h.by_ j hj y hy').blk fun h0 b off hta hb => keepF b (h.farB j hj y hy' h0 b off hta) hb
  · by_cases hs2 : s = 6 + i
    · subst hs2
      rw [same t (fun e => hne e.symm)] at e2
      rcases hrow k e1 with q | q
      · exact h.inj _ t hs ht hne k q e2
      · have := (h.lt t ht k e2).2
        omega
    · rw [same s hs2] at e1
      by_cases ht2 : t = 6 + i
      · subst ht2
        rcases hrow k e2 with q | q
        · exact h.inj s _ hs ht hne k e1 q
        · have := (h.lt s hs k e1).2
          omega
      · rw [same t ht2] at e2
        exact h.inj s t hs ht hne k e1 e2
  · by_cases hj2 : j = i
    · subst hj2
      rw [upS_at] at hy
      rcases List.mem_append.1 hy with hy | hy
      · exact far' b (h.far j hj y hy h0 b off hta) ((h.ch j hj).each y hy |>.lt h0 hta)
      · obtain rfl := List.mem_singleton.1 hy
        have h1 := ha.new b (by rw [show ta = some ⟨b, off, none⟩ from hta]; rfl)
        have h2 := ha.ch.far (reT x ta tc) (List.mem_append.2 (Or.inr (List.mem_singleton.2 rfl))) h0 b off hta
        intro s hs e
        by_cases hs2 : s = 6 + j
        · subst hs2
          rw [ixP_a hi, upS_at] at e
          exact h2.2 e.symm
        · rw [same s hs2] at e
          have := (h.lt s hs b e).2
          omega
    · rw [upS_ne S _ hj2] at hy
      exact far' b (h.far j hj y hy h0 b off hta) ((h.ch j hj).each y hy |>.lt h0 hta)
  · have hy' : y ∈ (S j).bl := by
      by_cases hj2 : j = i
      · subst hj2; rw [upS_at] at hy; exact hy
      · rw [upS_ne S _ hj2] at hy; exact hy
    refine far' b (h.farB j hj y hy' h0 b off hta) ?_
    obtain ⟨b', off', e', hc⟩ := (h.by_ j hj y hy').at_ h0
    rw [hta] at e'
    simp only [Option.some.injEq, Addr.mk.injEq, and_true] at e'
    obtain ⟨rfl, rfl⟩ := e'
    exact World.block_lt_of_cell? _ _ (hc 0 h0)
/-- A body put behind the i-th writer's others. -/
theorem IxAt.addBody {w2 w3 : World} (h : IxAt w B gx G S cnt) {i : Nat} (hi : i < 6) {xs : List Int} {qa : Option Addr} {qc : Nat} (hb : BsAt w qa xs.length qc xs) (hq : 0 < xs.length → ∀ b off, qa = some ⟨b, off, none⟩ → IxFar gx G S b) (hE : Ext w w2)
    {a3 : Option Addr} {c3 : Nat} (ho : w3.ownsRow B 35 1 (.slice a3 ((S i).bl.length + 1) c3) ((S i).bl.length + 1) (bdC ((S i).bl ++ [(xs, qa, qc)]))) (hG : w2.grownBy w3 (Value.slice (S i).ba (S i).bl.length (S i).bc).ownBlock)
    (hw : (Value.slice a3 ((S i).bl.length + 1) c3).ownBlock = (Value.slice (S i).ba (S i).bl.length (S i).bc).ownBlock ∨ (Value.slice a3 ((S i).bl.length + 1) c3).ownBlock = some w2.heap.size) :
    w3.cell? ⟨gx, 6 + i, none⟩ = some (.slice (S i).ba (S i).bl.length (S i).bc) ∧ w3.frozen? ⟨gx, 6 + i, none⟩ = false ∧ IxAt (w3.setCell ⟨gx, 6 + i, none⟩ (.slice a3 ((S i).bl.length + 1) c3)) B gx G (upS S i { S i with ba := a3, bc := c3, bl := (S i).bl ++ [(xs, qa, qc)] }) cnt := by
  have hs12 := Below.size hE
  have hs23 := hG.size
  have hl2 : ((S i).bl ++ [(xs, qa, qc)]).length = (S i).bl.length + 1 := by simp
  obtain ⟨w4, hw4⟩ : ∃ w4, w3.setCell ⟨gx, 6 + i, none⟩ (.slice a3 ((S i).bl.length + 1) c3) = w4 := ⟨_, rfl⟩
  have hG4 : w3.grownBy w4 (some gx) := by rw [← hw4]; exact grown_setCell (World.grownBy.refl w3 _) rfl _
  have hs34 := hG4.size
  obtain ⟨S2, hS2⟩ : ∃ S2, upS S i { S i with ba := a3, bc := c3, bl := (S i).bl ++ [(xs, qa, qc)] } = S2 := ⟨_, rfl⟩
  have s2at : S2 i = { S i with ba := a3, bc := c3, bl := (S i).bl ++ [(xs, qa, qc)] } := by rw [← hS2, upS_at]
  have s2ne : ∀ j, j ≠ i → S2 j = S j := fun j hj => by rw [← hS2, upS_ne S _ hj]
  -- what is kept till w3, and till w4
  have keep3 : ∀ k, k < w.heap.size → some k ≠ ixP gx G S (12 + i) → w3.heap[k]? = w.heap[k]? := fun k hk hne => by
    rw [ixP_b hi] at hne
    rw [hG.block k (by omega) hne]
    exact hE.block hk
  have keep4 : ∀ k, k < w.heap.size → some k ≠ ixP gx G S (12 + i) → k ≠ gx → w4.heap[k]? = w.heap[k]? := fun k hk hne hx => by
    rw [hG4.block k (by omega) (fun e => hx (Option.some.inj e))]
    exact keep3 k hk hne
  have keepP : ∀ s, s < 19 → s ≠ 12 + i → s ≠ 18 → ∀ k, ixP gx G S s = some k → w4.heap[k]? = w.heap[k]? := fun s hs h1 h2 k e =>
    keep4 k (h.lt s hs k e).2 (fun e2 => h.inj s (12 + i) hs (by omega) h1 k e e2.symm) (fun e2 => h.inj s 18 hs (by omega) h2 k e (by rw [ixP_x, e2]))
  have keepF : ∀ b, IxFar gx G S b → b < w.heap.size → w4.heap[b]? = w.heap[b]? := fun b hf hb =>
    keep4 b hb (fun e => hf (12 + i) (by omega) e.symm) (fun e => hf 18 (by omega) (by rw [ixP_x, e]))
  have hrx : w3.rowIs gx 72 13 (ixC G S cnt) := h.row.of_block (keep3 gx h.row.lt (fun e => h.inj 18 (12 + i) (by omega) (by omega) (by omega) gx ixP_x e.symm))
  have hcell : w3.cell? ⟨gx, 6 + i, none⟩ = some (.slice (S i).ba (S i).bl.length (S i).bc) := by
    rw [hrx.cell (i := 6 + i) (by omega)]
    unfold ixC
    rw [if_neg (by omega), if_pos (by omega), show 6 + i - 6 = i by omega]
  have same : ∀ t, t ≠ 12 + i → ixP gx G S2 t = ixP gx G S t := fun t ht => by
    by_cases h2 : t = 6 + i
    · rw [h2, ixP_a hi, ixP_a hi, s2at]
    · rw [← hS2]
      exact ixP_up hi _ t h2 ht
  have hrow : ∀ k, ixP gx G S2 (12 + i) = some k → ixP gx G S (12 + i) = some k ∨ w.heap.size ≤ k := fun k e => by
    rw [ixP_b hi, s2at] at e
    rw [ixP_b hi]
    have e' : (Value.slice a3 ((S i).bl.length + 1) c3).ownBlock = some k := by rw [← hl2]; exact e
    rcases hw with q | q
    · exact .inl (by rw [← q]; exact e')
    · rw [q] at e'
      have := Option.some.inj e'
      exact .inr (by omega)
  have far' : ∀ b, IxFar gx G S b → b < w.heap.size → IxFar gx G S2 b := fun b hf hb s hs e => by
    by_cases h1 : s = 12 + i
    · subst h1
      rcases hrow b e with q | q
      · exact hf _ hs q
      · omega
    · rw [same s h1] at e
      exact hf s hs e
  have lt_by : ∀ {n c : Nat} {a : Option Addr} {ys : List Int}, BsAt w a n c ys → 0 < n → ∀ b off, a = some ⟨b, off, none⟩ → b < w.heap.size := fun hx h0 b off e => by
    obtain ⟨b', off', e', hc⟩ := hx.at_ h0
    rw [e] at e'
    simp only [Option.some.injEq, Addr.mk.injEq, and_true] at e'
    obtain ⟨rfl, rfl⟩ := e'
    exact World.block_lt_of_cell? _ _ (hc 0 h0)
  refine ⟨hcell, hrx.frozen _, ?_⟩
  rw [hS2, hw4]
  refine ⟨?_, fun j hj => ?_, fun j hj => ?_, fun j hj y hy => ?_, h.low, fun s t hs ht hne k e1 e2 => ?_, fun j hj y hy h0 b off hta => ?_, fun j hj y hy h0 b off hta => ?_⟩
  · rw [← hw4]
    refine (hrx.set (6 + i) _).congr fun j _ => ?_
    unfold ixC
    by_cases a0 : j = 6 + i
    · rw [if_pos a0, if_neg (by omega), if_pos (by omega), show j - 6 = i by omega, s2at]
      rw [← hl2]
    rw [if_neg a0]
    by_cases a1 : j < 6
    · rw [if_pos a1, if_pos a1]
    rw [if_neg a1, if_neg a1]
    by_cases a2 : j < 12
    · rw [if_pos a2, if_pos a2, s2ne _ (by omega)]
    · rw [if_neg a2, if_neg a2]
  · have h1 : ChAt w4 B (G j) ((j : Int) + 1) (S j).a (S j).c (S j).l (S j).T := (h.ch j hj).keep (by omega) (keepP j (by omega) (by omega) (by omega) _ (ixP_g hj)) (fun k e => keepP (6 + j) (by omega) (by omega) (by omega) k (by rw [ixP_a hj]; exact e)) (fun y hy h0 b off hta hb => keepF b (h.far j hj y hy h0 b off hta) hb)
    by_cases hj2 : j = i
    · subst hj2
      rw [s2at]
      exact h1
    · rw [s2ne j hj2]
      exact h1
  · by_cases hj2 : j = i
    · subst hj2
      rw [s2at]
      show w4.ownsRow B 35 1 (.slice a3 ((S j).bl ++ [(xs, qa, qc)]).length c3) ((S j).bl ++ [(xs, qa, qc)]).length _
      rw [hl2]
      refine own_keep ho fun k e => hG4.block k (ho.lt k e).2 (fun e2 => ?_)
      have e3 : k = gx := Option.some.inj e2
      subst e3
      rcases hw with q | q
      · exact h.inj 18 (12 + j) (by omega) (by omega) (by omega) k ixP_x (by rw [ixP_b hi, ← q]; exact e)
      · rw [q] at e
        have := Option.some.inj e
        have := h.row.lt
        omega
    · rw [s2ne j hj2]
      exact own_keep (h.bo j hj) (fun k e => keepP (12 + j) (by omega) (by omega) (by omega) k (by rw [ixP_b hj]; exact e))
  · by_cases hj2 : j = i
    · subst hj2
      rw [s2at] at hy
      rcases List.mem_append.1 hy with hy | hy
      · exact (h.by_ j hj y hy).blk fun h0 b off hta hb => keepF b (h.farB j hj y hy h0 b off hta) hb
      · obtain rfl := List.mem_singleton.1 hy
        exact hb.blk fun h0 b off hta hb2 => keepF b (hq h0 b off hta) hb2
    · rw [s2ne j hj2] at hy
      exact (h.by_ j hj y hy).blk fun h0 b off hta hb => keepF b (h.farB j hj y hy h0 b off hta) hb
  · by_cases hs2 : s = 12 + i
    · subst hs2
      rw [same t (fun e => hne e.symm)] at e2
      rcases hrow k e1 with q | q
      · exact h.inj _ t hs ht hne k q e2
      · have := (h.lt t ht k e2).2
        omega
    · rw [same s hs2] at e1
      by_cases ht2 : t = 12 + i
      · subst ht2
        rcases hrow k e2 with q | q
        · exact h.inj s _ hs ht hne k e1 q
        · have := (h.lt s hs k e1).2
          omega
      · rw [same t ht2] at e2
        exact h.inj s t hs ht hne k e1 e2
  · have hy' : y ∈ (S j).l := by
      by_cases hj2 : j = i
      · subst hj2; rw [s2at] at hy; exact hy
      · rw [s2ne j hj2] at hy; exact hy
    exact far' b (h.far j hj y hy' h0 b off hta) (((h.ch j hj).each y hy').lt h0 hta)
  · by_cases hj2 : j = i
    · subst hj2
      rw [s2at] at hy
      rcases List.mem_append.1 hy with hy | hy
      · exact far' b (h.farB j hj y hy h0 b off hta) (lt_by (h.by_ j hj y hy) h0 b off hta)
      · obtain rfl := List.mem_singleton.1 hy
        exact far' b (hq h0 b off hta) (lt_by hb h0 b off hta)
    · rw [s2ne j hj2] at hy
      exact far' b (h.farB j hj y hy h0 b off hta) (lt_by (h.by_ j hj y hy) h0 b off hta)
/-- The number of all is stored. -/
theorem IxAt.count (h : IxAt w B gx G S cnt) (n : Int) : w.cell? ⟨gx, 12, none⟩ = some (.int .i64 cnt) ∧ w.frozen? ⟨gx, 12, none⟩ = false ∧ IxAt (w.setCell ⟨gx, 12, none⟩ (.int .i64 n)) B gx G S n := by
  obtain ⟨w4, hw4⟩ : ∃ w4, w.setCell ⟨gx, 12, none⟩ (.int .i64 n) = w4 := ⟨_, rfl⟩
  have hG4 : w.grownBy w4 (some gx) := by rw [← hw4]; exact grown_setCell (World.grownBy.refl w _) rfl _
  have keepP : ∀ s, s < 19 → s ≠ 18 → ∀ k, ixP gx G S s = some k → w4.heap[k]? = w.heap[k]? := fun s hs h2 k e =>
    hG4.block k (h.lt s hs k e).2 (fun e2 => h.inj s 18 hs (by omega) h2 k e (by rw [ixP_x]; exact e2.symm))
  have keepF : ∀ b, IxFar gx G S b → b < w.heap.size → w4.heap[b]? = w.heap[b]? := fun b hf hb =>
    hG4.block b hb (fun e => hf 18 (by omega) (by rw [ixP_x]; exact e.symm))
  refine ⟨h.row.cell (i := 12) (by omega), h.row.frozen 12, ?_⟩
  rw [hw4]
  refine ⟨?_, fun j hj => (h.ch j hj).keep hG4.size (keepP j (by omega) (by omega) _ (ixP_g hj)) (fun k e => keepP (6 + j) (by omega) (by omega) k (by rw [ixP_a hj]; exact e)) (fun y hy h0 b off hta hb => keepF b (h.far j hj y hy h0 b off hta) hb),
    fun j hj => own_keep (h.bo j hj) (fun k e => keepP (12 + j) (by omega) (by omega) k (by rw [ixP_b hj]; exact e)), fun j hj y hy => (h.by_ j hj y hy).blk fun h0 b off hta hb => keepF b (h.farB j hj y hy h0 b off hta) hb, h.low, h.inj, h.far, h.farB⟩
  rw [← hw4]
  refine (h.row.set 12 _).congr fun j hj => ?_
  unfold ixC
  by_cases a0 : j = 12
  · rw [if_pos a0, if_neg (by omega), if_neg (by omega)]
  rw [if_neg a0]
  by_cases a1 : j < 6
  · rw [if_pos a1, if_pos a1]
  rw [if_neg a1, if_neg a1, if_pos (by omega), if_pos (by omega)]
end

end Go.Proofs.YtihlpfdhallfpaaDoor
