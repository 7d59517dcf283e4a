/-
  A chain beside a list whose headers have tokens of the law's own: what the law's loops keep. No conditions.
-/
import Derived.Test.YthdgnahokmjkpaaDoorWrS
namespace Go.Proofs.YthdgnahokmjkpaaDoor
open Go.ChangeShapes Go.WideShapes Go.ChangeAt Go.RowKit

/-- Tokens behind an own row of none. -/
theorem append_tkG {w : World} {ops : Array Oper} {rest : List Oper} {o : Oper} {a : Act} {Q : Exit → Act → World → Prop} (hgd : o.guard = none) (s x : Operand) (ho : o.op = .call { callee := .builtin .append, args := #[s, x], argTypes := #[32, 32] })
    (B : Nat) (v : Value) (hs : a.eval s = v) (hown : w.ownsRow B 31 16 v 0 [])
    (src : Option Addr) (m c : Nat) (ts : List (Nat → Int)) (hx : a.eval x = .slice src m c) (hb : TsAt w src m c ts) (hsz : m ≤ 1000000) (hB : B ≤ w.heap.size)
    (h : ∀ v' w', w'.ownsRow B 31 16 v' m (tkC ts) → w.grownBy w' v.ownBlock → wpList Tryd.prog ops Q rest (a.put o.dst v') w') : wpList Tryd.prog ops Q (o :: rest) a w := by
  obtain ⟨i0, hi, hz0, hz1, hz2⟩ := info_parts info_tok
  have hl := hb.len
  cases src with
  | none =>
    obtain rfl : c = 0 := hb.nil_ rfl
    have hc := hb.cap
    obtain rfl : m = 0 := by omega
    obtain rfl : ts = [] := List.eq_nil_of_length_eq_zero hl
    refine wpList_append_own_none hgd s x 32 ho B 31 i0 16 Tryd.underlying32 hi v 0 [] hs hown hx ?_
    exact h v w hown (World.grownBy.refl w _)
  | some ad =>
    have hcell : ∀ j u, (tkC ts)[j]? = some u → w.cell? (ad.add j) = some u := by
      by_cases h0 : m = 0
      · subst h0
        obtain rfl : ts = [] := List.eq_nil_of_length_eq_zero hl
        intro j u hu
        simp [tkC] at hu
      · obtain ⟨b, off, ha, _⟩ := hb.at_ (by omega)
        obtain rfl := Option.some.inj ha
        exact tkC_cells hb
    refine wpList_append_own w hgd s x 32 ho B 31 i0 (.agg (rowArr 16 fun _ => .int .u8 0)) 16 16 Tryd.underlying32 hi hz0 hz1 hz2 (by kernel_rfl) (by decide) v 0 [] hs hown ad m c (tkC ts) hx (by rw [tkC_length, hl]) hcell (tkC_one ts) (by unfold maxLen; omega) (by omega) hB ?_
    intro v' w' hown' hgrow _
    refine h v' w' ?_ hgrow
    have h2 : w'.ownsRow B 31 16 v' (0 + m) ([] ++ tkC ts) := hown'
    rwa [Nat.zero_add, List.nil_append] at h2

/-- A chain and a list: the same headers; the list's tokens lie anywhere apart. -/
structure WSo (w wr : World) (B g : Nat) (wv : Int) (lc lh : List HT) (ac : Option Addr) (cc : Nat) (ah : Option Addr) (ch : Nat) : Prop where
  chn : ChAt wr B g wv ac cc lc (tipF lh)
  own : wr.ownsRow B 35 125 (.slice ah lh.length ch) lh.length (hsC lh)
  len : lc.length = lh.length
  eq : ∀ i, i < lc.length → HdEq (lc.getD i htN).1 (lh.getD i htN).1 (lc.getD i htN).2 (lh.getD i htN).2
  src : ∀ x ∈ lh, HtAt wr x
  tnc : ∀ x ∈ lc, x.1.tn ≤ 1000000
  ext : Ext w wr
  neg : (Value.slice ah lh.length ch).ownBlock ≠ some g
  nec : ∀ k, (Value.slice ah lh.length ch).ownBlock = some k → (Value.slice ac lc.length cc).ownBlock ≠ some k
  far : ∀ x ∈ lc, 0 < x.1.tn → ∀ b off, x.1.ta = some ⟨b, off, none⟩ → some b ≠ (Value.slice ah lh.length ch).ownBlock
  far2 : ∀ x ∈ lh, 0 < x.1.tn → ∀ b off, x.1.ta = some ⟨b, off, none⟩ → b ≠ g ∧ some b ≠ (Value.slice ac lc.length cc).ownBlock ∧ some b ≠ (Value.slice ah lh.length ch).ownBlock
  low : w.heap.size ≤ B
  hi : B ≤ wr.heap.size
/-- A block that is none of theirs. -/
structure WFar (g : Nat) (lc lh : List HT) (ac : Option Addr) (cc : Nat) (ah : Option Addr) (ch : Nat) (k : Nat) : Prop where
  n1 : k ≠ g
  n2 : some k ≠ (Value.slice ac lc.length cc).ownBlock
  n3 : some k ≠ (Value.slice ah lh.length ch).ownBlock
  n4 : ∀ x ∈ lc, 0 < x.1.tn → ∀ b off, x.1.ta = some ⟨b, off, none⟩ → b ≠ k
  n5 : ∀ x ∈ lh, 0 < x.1.tn → ∀ b off, x.1.ta = some ⟨b, off, none⟩ → b ≠ k

section
variable {w wr w' w2 w3 : World} {B g : Nat} {wv : Int} {lc lh : List HT} {ac : Option Addr} {cc : Nat} {ah : Option Addr} {ch : Nat}
theorem WSo.more (h : WSo w wr B g wv lc lh ac cc ah ch) (he : Ext wr w') : WSo w w' B g wv lc lh ac cc ah ch :=
  ⟨h.chn.ext he, own_ext9 h.own he, h.len, h.eq, fun x hx => (h.src x hx).ext he, h.tnc, h.ext.trans he, h.neg, h.nec, h.far, h.far2, h.low, Nat.le_trans h.hi (Below.size he)⟩
theorem WSo.hs (h : WSo w wr B g wv lc lh ac cc ah ch) (hl : lh.length ≤ 100000) : HsAt wr ah lh.length ch lh := own_hs h.own h.src (by omega)
theorem WSo.begin (h : ChAt wr B g wv none 0 [] (fun _ => 0)) (he : Ext w wr) (hlow : w.heap.size ≤ B) (hhi : B ≤ wr.heap.size) : WSo w wr B g wv [] [] none 0 none 0 :=
  ⟨h, World.ownsRow_nil _ _ _ _, rfl, fun i hi => (by simp at hi), fun x hx => (by cases hx), fun x hx => (by cases hx), he, by simp [Value.ownBlock], fun k e => by simp [Value.ownBlock] at e, fun x hx => (by cases hx), fun x hx => (by cases hx), hlow, hhi⟩
/-- What is new is none of theirs. -/
theorem WSo.fresh (h : WSo w wr B g wv lc lh ac cc ah ch) {k : Nat} (hk : wr.heap.size ≤ k) : WFar g lc lh ac cc ah ch k := by
  refine ⟨?_, fun e => ?_, fun e => ?_, fun x hx h0 b off hta => ?_, fun x hx h0 b off hta => ?_⟩
  · have := h.chn.row.lt
    omega
  · have := (h.chn.own.lt k e.symm).2
    omega
  · have := (h.own.lt k e.symm).2
    omega
  · have := (h.chn.each x hx).lt h0 hta
    omega
  · have := (h.src x hx).lt h0 hta
    omega
/-- Another block turned. -/
theorem WSo.other (h : WSo w wr B g wv lc lh ac cc ah ch) {k : Nat} (hG : wr.grownBy w' (some k)) (hf : WFar g lc lh ac cc ah ch k) (hk : w.heap.size ≤ k) : WSo w w' B g wv lc lh ac cc ah ch := by
  refine ⟨h.chn.other hG (fun e => hf.n1 (Option.some.inj e)) (fun q e e2 => hf.n2 (by rw [e2, e])) (fun x hx h0 b off hta e => hf.n4 x hx h0 b off hta (Option.some.inj e)), h.own.kept hG ?_, h.len, h.eq, fun x hx => ?_, h.tnc,
    Below.grown h.ext hG (Below.size h.ext) (fun q e => by have := Option.some.inj e; omega), h.neg, h.nec, h.far, h.far2, h.low, Nat.le_trans h.hi hG.size⟩
  · exact .inr (fun e => hf.n3 e.symm)
  · have hx1 := h.src x hx
    refine ⟨hx1.ok, hx1.toks.blk fun h0 b off hta => ?_⟩
    exact hG.block b (hx1.lt h0 hta) (fun e => hf.n5 x hx h0 b off hta (Option.some.inj e))
/-- The list while the chain grows. -/
theorem WSo.listRow (h : WSo w wr B g wv lc lh ac cc ah ch) {v' : Value} (hst : OutStep wr w' g (.slice ac lc.length cc) v') : w'.ownsRow B 35 125 (.slice ah lh.length ch) lh.length (hsC lh) := by
  rcases h.own.2 with ⟨h1, h2⟩ | ⟨q, cap, cur, h1, h2, h3, h4⟩
  · exact ⟨h.own.1, .inl ⟨h1, h2⟩⟩
  · have hq : (Value.slice ah lh.length ch).ownBlock = some q := by rw [h1]; rfl
    refine ⟨h.own.1, .inr ⟨q, cap, cur, h1, h2, ?_, h4⟩⟩
    rw [hst.block q (h.own.lt q hq).2 (fun e => h.neg (by rw [hq, e])) (fun e => h.nec q hq e.symm)]
    exact h3
/-- A header has been put into the chain, and its twin behind the list. -/
theorem WSo.put (h : WSo w wr B g wv lc lh ac cc ah ch) {x z : HT} (hxn : x.1.tn ≤ 1000000) (hx : HtAt wr x) {a2 : Option Addr} {c2 : Nat} {ta : Option Addr} {tc : Nat} (ha : AddTo wr w' B g wv ac cc lc x a2 c2 ta tc)
    (hz : HtAt wr z) (hzf : 0 < z.1.tn → ∀ b off, z.1.ta = some ⟨b, off, none⟩ → b ≠ g ∧ some b ≠ (Value.slice ac lc.length cc).ownBlock ∧ some b ≠ (Value.slice ah lh.length ch).ownBlock) (hxz : HdEq x.1 z.1 x.2 z.2)
    (hE : Ext w' w2) {a3 : Option Addr} {c3 : Nat} (ho : w3.ownsRow B 35 125 (.slice a3 (lh.length + 1) c3) (lh.length + 1) (hsC (lh ++ [z]))) (hG : w2.grownBy w3 (Value.slice ah lh.length ch).ownBlock)
    (hw : (Value.slice a3 (lh.length + 1) c3).ownBlock = (Value.slice ah lh.length ch).ownBlock ∨ (Value.slice a3 (lh.length + 1) c3).ownBlock = some w2.heap.size) :
    WSo w w3 B g wv (lc ++ [reT x ta tc]) (lh ++ [z]) a2 c2 a3 c3 := by
  have hst := ha.step
  have hol : ∀ k, (Value.slice ac lc.length cc).ownBlock = some k → B ≤ k ∧ k < wr.heap.size := fun k e => h.chn.own.lt k e
  have hoh : ∀ k, (Value.slice ah lh.length ch).ownBlock = some k → B ≤ k ∧ k < wr.heap.size := fun k e => h.own.lt k e
  have hlow := h.chn.low
  have hgl := h.chn.row.lt
  have hs1 := hst.size
  have hs2 := Below.size hE
  have hl1 : (lh ++ [z]).length = lh.length + 1 := by simp
  have hl2 : (lc ++ [reT x ta tc]).length = lc.length + 1 := by simp
  have hE1 : Ext w w' := OutStep.ext h.ext hst (by have := h.low; omega) (fun r e => by have := hol r e; have := h.low; omega)
  have hE2 := hE1.trans hE
  have hE3 : Ext w w3 := Below.grown hE2 hG (Below.size hE2) (fun k e => by have := hoh k e; have := h.low; omega)
  -- the chain's row behind Add
  have hrow : ∀ k, (Value.slice a2 (lc ++ [reT x ta tc]).length c2).ownBlock = some k → (Value.slice ac lc.length cc).ownBlock = some k ∨ wr.heap.size ≤ k := fun k e => hst.row k (by rw [hl2] at e; exact e)
  have hneH : ∀ k, (Value.slice ah lh.length ch).ownBlock = some k → (Value.slice a2 (lc ++ [reT x ta tc]).length c2).ownBlock ≠ some k := fun k e e2 => by
    rcases hrow k e2 with h1 | h1
    · exact h.nec k e h1
    · have := (hoh k e).2; omega
  have hfarH : ∀ y ∈ lc ++ [reT x ta tc], 0 < y.1.tn → ∀ b off, y.1.ta = some ⟨b, off, none⟩ → some b ≠ (Value.slice ah lh.length ch).ownBlock := fun y hy h0 b off hta => by
    rcases List.mem_append.1 hy with hy | hy
    · exact h.far y hy h0 b off hta
    · obtain rfl := List.mem_singleton.1 hy
      intro e
      have h1 := ha.new b (by rw [show ta = some ⟨b, off, none⟩ from hta]; rfl)
      have := (hoh b e.symm).2
      omega
  have hch2 := ha.ch.ext hE
  have hch3 : ChAt w3 B g wv a2 c2 (lc ++ [reT x ta tc]) (shaF (bytesL x.1 x.2)) := hch2.other hG h.neg (fun k e => hneH k e) hfarH
  -- what a header of the list keeps
  have keep : ∀ y : HT, HtAt wr y → (0 < y.1.tn → ∀ b off, y.1.ta = some ⟨b, off, none⟩ → b ≠ g ∧ some b ≠ (Value.slice ac lc.length cc).ownBlock ∧ some b ≠ (Value.slice ah lh.length ch).ownBlock) → HtAt w3 y := fun y hy hf => by
    refine ⟨hy.ok, hy.toks.blk fun h0 b off hta => ?_⟩
    have hb := hy.lt h0 hta
    obtain ⟨f1, f2, f3⟩ := hf h0 b off hta
    rw [hG.block b (by omega) f3, hE.block (by omega)]
    exact hst.block b hb f1 f2
  have h3l : ∀ k, (Value.slice a3 (lh.length + 1) c3).ownBlock = some k → (Value.slice ah lh.length ch).ownBlock = some k ∨ w2.heap.size ≤ k := fun k e => by
    rcases hw with q | q
    · exact .inl (by rw [← q]; exact e)
    · rw [q] at e
      exact .inr (Nat.le_of_eq (Option.some.inj e))
  have hz3 := keep z hz hzf
  refine ⟨by rw [tipF_snoc, ← bytesL_congr hx.toks.len hz.toks.len hxz]; exact hch3, by rw [hl1]; exact ho, by rw [hl1, hl2, h.len], fun i hi => ?_, fun y hy => ?_, fun y hy => ?_, hE3, ?_, fun k e => ?_, fun y hy h0 b off hta => ?_, fun y hy h0 b off hta => ?_, h.low, Nat.le_trans h.hi (Nat.le_trans (Nat.le_trans hs1 hs2) hG.size)⟩
  · rw [hl2] at hi
    by_cases hi2 : i < lc.length
    · rw [List.getD_eq_getElem?_getD, List.getElem?_append_left hi2, List.getD_eq_getElem?_getD, List.getElem?_append_left (by rw [← h.len]; exact hi2), ← List.getD_eq_getElem?_getD, ← List.getD_eq_getElem?_getD]
      exact h.eq i hi2
    · obtain rfl : i = lc.length := by omega
      rw [List.getD_eq_getElem?_getD, List.getElem?_append_right (Nat.le_refl _), List.getD_eq_getElem?_getD, List.getElem?_append_right (by rw [h.len]; exact Nat.le_refl _), h.len, Nat.sub_self]
      exact (reT_eq x ta tc).trans hxz
  · rcases List.mem_append.1 hy with hy | hy
    · exact keep y (h.src y hy) (h.far2 y hy)
    · obtain rfl := List.mem_singleton.1 hy
      exact hz3
  · rcases List.mem_append.1 hy with hy | hy
    · exact h.tnc y hy
    · obtain rfl := List.mem_singleton.1 hy
      exact hxn
  · rw [hl1]
    intro e
    rcases h3l g e with h1 | h1
    · exact h.neg h1
    · omega
  · rw [hl1] at e
    intro e2
    rcases h3l k e with h1 | h1
    · exact hneH k h1 e2
    · have := (hch2.own.lt k e2).2
      omega
  · rw [hl1]
    intro e
    rcases h3l b e.symm with h1 | h1
    · exact hfarH y hy h0 b off hta h1.symm
    · have := (hch2.each y hy).lt h0 hta
      omega
  · have hf : b ≠ g ∧ some b ≠ (Value.slice ac lc.length cc).ownBlock ∧ some b ≠ (Value.slice ah lh.length ch).ownBlock ∧ b < wr.heap.size := by
      rcases List.mem_append.1 hy with hy | hy
      · obtain ⟨f1, f2, f3⟩ := h.far2 y hy h0 b off hta
        exact ⟨f1, f2, f3, (h.src y hy).lt h0 hta⟩
      · obtain rfl := List.mem_singleton.1 hy
        obtain ⟨f1, f2, f3⟩ := hzf h0 b off hta
        exact ⟨f1, f2, f3, hz.lt h0 hta⟩
    refine ⟨hf.1, fun e => ?_, fun e => ?_⟩
    · rcases hrow b e.symm with h1 | h1
      · exact hf.2.1 h1.symm
      · have := hf.2.2.2
        omega
    · rw [hl1] at e
      rcases h3l b e.symm with h1 | h1
      · exact hf.2.2.1 h1.symm
      · have := hf.2.2.2
        omega
/-- A block that was none of theirs stays so. -/
theorem WFar.put {k : Nat} (h : WFar g lc lh ac cc ah ch k) {x z : HT} {a2 : Option Addr} {c2 : Nat} {ta : Option Addr} {tc : Nat} (ha : AddTo wr w' B g wv ac cc lc x a2 c2 ta tc) (hk : k < wr.heap.size) (hE : Ext w' w2) (hz : 0 < z.1.tn → ∀ b off, z.1.ta = some ⟨b, off, none⟩ → b ≠ k)
    {a3 : Option Addr} {c3 : Nat} (hw : (Value.slice a3 (lh.length + 1) c3).ownBlock = (Value.slice ah lh.length ch).ownBlock ∨ (Value.slice a3 (lh.length + 1) c3).ownBlock = some w2.heap.size) : WFar g (lc ++ [reT x ta tc]) (lh ++ [z]) a2 c2 a3 c3 k := by
  have hs1 := ha.step.size
  have hs2 := Below.size hE
  refine ⟨h.n1, fun e => ?_, fun e => ?_, fun y hy h0 b off hta => ?_, fun y hy h0 b off hta => ?_⟩
  · rcases ha.step.row k (by rw [List.length_append] at e; exact e.symm) with h1 | h1
    · exact h.n2 h1.symm
    · omega
  · rw [List.length_append] at e
    rcases hw with q | q
    · exact h.n3 (by rw [← q]; exact e)
    · have h1 : some k = some w2.heap.size := e.trans q
      have := Option.some.inj h1
      omega
  · rcases List.mem_append.1 hy with hy | hy
    · exact h.n4 y hy h0 b off hta
    · obtain rfl := List.mem_singleton.1 hy
      have h1 := ha.new b (by rw [show ta = some ⟨b, off, none⟩ from hta]; rfl)
      omega
  · rcases List.mem_append.1 hy with hy | hy
    · exact h.n5 y hy h0 b off hta
    · obtain rfl := List.mem_singleton.1 hy
      exact hz h0 b off hta
end

/-- A row of tokens that may be written: its first cells are bytes. -/
def TkRow (w : World) (b m : Nat) : Prop := ∃ N f, w.rowIs b 31 N f ∧ m * 16 ≤ N ∧ ∀ i, i < m * 16 → ∃ z, f i = .int .u8 z
theorem TkRow.of {w : World} {B : Nat} {a : Option Addr} {n c b : Nat} {ts : List (Nat → Int)} (h : w.ownsRow B 31 16 (.slice a n c) n (tkC ts)) (hb : (Value.slice a n c).ownBlock = some b) : TkRow w b n := by
  rcases h.2 with ⟨h1, _⟩ | ⟨g, cap, cur, h1, h2, h3, h4, _, h6, h7⟩
  · rw [h1] at hb
    simp [Value.ownBlock] at hb
  · rw [h1] at hb
    simp only [Value.ownBlock, Option.some.injEq] at hb
    subst hb
    refine ⟨cur.size, fun i => (cur[i]?).getD undef, ⟨cur, h3, rfl, fun i hi => ?_⟩, by rw [h6]; exact Nat.mul_le_mul_right 16 h4, fun i hi => ?_⟩
    · show cur[i]? = some ((cur[i]?).getD undef)
      rw [Array.getElem?_eq_getElem hi]
      rfl
    · have hl : ts.length = n := by
        have := h.1
        rw [tkC_length] at this
        omega
      have hi2 : i < cur.size := by rw [h6]; have := Nat.mul_le_mul_right 16 h4; omega
      have h8 := tkC_get ts (i / 16) (i % 16) (by omega) (by omega)
      rw [show i / 16 * 16 + i % 16 = i by omega, ← h7, List.getElem?_take, if_pos hi, Array.getElem?_toList, Array.getElem?_eq_getElem hi2] at h8
      refine ⟨(ts.getD (i / 16) fun _ => 0) (i % 16), ?_⟩
      show (cur[i]?).getD undef = _
      rw [Array.getElem?_eq_getElem hi2]
      exact Option.some.inj h8
theorem TkRow.cell {w : World} {b m : Nat} (h : TkRow w b m) {i : Nat} (hi : i < m * 16) : (∃ z, w.cell? ⟨b, i, none⟩ = some (.int .u8 z)) ∧ w.frozen? ⟨b, i, none⟩ = false := by
  obtain ⟨N, f, hr, hN, hf⟩ := h
  obtain ⟨z, hz⟩ := hf i hi
  exact ⟨⟨z, by rw [hr.cell (by omega), hz]⟩, hr.frozen i⟩
theorem TkRow.set {w : World} {b m : Nat} (h : TkRow w b m) (i : Nat) (z : Int) : TkRow (w.setCell ⟨b, i, none⟩ (.int .u8 z)) b m := by
  obtain ⟨N, f, hr, hN, hf⟩ := h
  refine ⟨N, _, hr.set i _, hN, fun j hj => ?_⟩
  by_cases e : j = i
  · exact ⟨z, if_pos e⟩
  · obtain ⟨z', hz'⟩ := hf j hj
    exact ⟨z', by rw [if_neg e]; exact hz'⟩
theorem TkRow.of_block {w w' : World} {b m : Nat} (h : TkRow w b m) (e : w'.heap[b]? = w.heap[b]?) : TkRow w' b m := by
  obtain ⟨N, f, hr, hN, hf⟩ := h
  exact ⟨N, f, hr.of_block e, hN, hf⟩
theorem TkRow.lt {w : World} {b m : Nat} (h : TkRow w b m) : b < w.heap.size := by
  obtain ⟨N, f, hr, _⟩ := h
  exact hr.lt

end Go.Proofs.YthdgnahokmjkpaaDoor
