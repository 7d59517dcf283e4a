/-
  The walk of an index's Put. Asked: the table of 64 words lies as the text lays it.
  The walk of an index's Put. Asked: the table of 64 words lies as the text lays it.
-/
import Derived.Test.YtihlpfdhallfpaaDoorIxA
import Derived.Test.YtihlpfdhallfpaaDoorPackO
namespace Go.Proofs.YtihlpfdhallfpaaDoor
open Go.ChangeAt Go.ChangeShapes Go.RowKit Go.WideShapes

theorem info_bl : (Tryd.prog.info? 35).map (fun i => (i.zero, i.size, i.bytes)) = some (some (.slice none 0 0), 1, 24) := by kernel_rfl
theorem exec_append_bd {w : World} {o : Oper} {ev : Operand → Value} (s x : Operand) (ho : o.op = .call { callee := .builtin .append, args := #[s, x], argTypes := #[69, 69] })
    (B : Nat) (v : Value) (n : Nat) (l : List Value) (hs : ev s = v) (hown : w.ownsRow B 35 1 v n l)
    (q c : Nat) (y : Value) (hx : ev x = .slice (some ⟨q, 0, none⟩) 1 c) (hq : w.cell? ⟨q, 0, none⟩ = some y) (hy : y.oneCell' = true) (hsz : n ≤ 100000) (hB : B ≤ w.heap.size) :
    ∃ v' w', (execOp ev o).run Tryd.prog w = .ok (.value v') w' ∧ w'.ownsRow B 35 1 v' (n + 1) (l ++ [y]) ∧ w.grownBy w' v.ownBlock ∧ (v'.ownBlock = v.ownBlock ∨ v'.ownBlock = some w.heap.size) := by
  obtain ⟨i0, hi, hz0, hz1, hz2⟩ := info_parts info_bl
  have hnews : ∀ j u, [y][j]? = some u → w.cell? ((⟨q, 0, none⟩ : Addr).add j) = some u := fun j u hu => by
    have hj : j = 0 := by
      have := (List.getElem?_eq_some_iff.1 hu).1
      simp at this
      omega
    subst hj
    simp at hu
    subst hu
    exact hq
  have hone : ∀ u ∈ [y], u.oneCell' = true := fun u hu => by
    simp at hu
    rw [hu]
    exact hy
  have h63 : n + 1 ≤ maxLen := by unfold maxLen; omega
  obtain ⟨v', w', hr, h2, h3, _⟩ := run_append_own (P := Tryd.prog) w B 69 o.type 35 i0 (.slice none 0 0) 1 24 Tryd.underlying69 hi hz0 hz1 hz2 rfl (by decide) v n l hown ⟨q, 0, none⟩ 1 c [y] rfl hnews hone h63 (by omega) hB
  have h4 := append_where (P := Tryd.prog) Tryd.underlying69 hi hz0 hz1 hz2 hown rfl hnews hone h63 (by omega) hr
  refine ⟨v', w', ?_, h2, h3, h4⟩
  simp only [execOp, ho, resolve, invoke, builtin, Sem.run_bind, Sem.run_pure, Result.andThen_ok, List.map_toArray, List.map_cons, List.map_nil, hs, hx, hr]
theorem luc_append_bd {w : World} {o : Oper} {ev : Operand → Value} {C : World → Prop} {E : World → World → Prop} {sp : Sp} (s x : Operand) (ho : o.op = .call { callee := .builtin .append, args := #[s, x], argTypes := #[69, 69] })
    (B : Nat) (v : Value) (n : Nat) (l : List Value) (hs : ev s = v) (hown : w.ownsRow B 35 1 v n l)
    (q c : Nat) (y : Value) (hx : ev x = .slice (some ⟨q, 0, none⟩) 1 c) (hq : w.cell? ⟨q, 0, none⟩ = some y) (hy : y.oneCell' = true) (hsz : n ≤ 100000) (hB : B ≤ w.heap.size)
    (hf : ∀ v' w', w'.ownsRow B 35 1 v' (n + 1) (l ++ [y]) → w.grownBy w' v.ownBlock → (v'.ownBlock = v.ownBlock ∨ v'.ownBlock = some w.heap.size) → C w' ∧ E w w' ∧ sp.holds v' w') : lexUponC Tryd.prog C E w sp ((execOp ev o).run Tryd.prog w) := by
  obtain ⟨v', w', hr, h1, h2, h3⟩ := exec_append_bd s x ho B v n l hs hown q c y hx hq hy hsz hB
  rw [hr]
  exact hf v' w' h1 h2 h3
set_option maxRecDepth 100000 in
theorem build_bd1 (w : World) (a : Option Addr) (n c : Nat) : (Instr.buildSlice 69 1 #[(0, .slice a n c)]).run Tryd.prog w = .ok (.slice (some ⟨w.heap.size, 0, none⟩) 1 1) (w.alloc (.cells #[.slice a n c] 35)) := by kernel_rfl
theorem lu_bd1 {w : World} {o : Oper} {ev : Operand → Value} {x : Operand} {a : Option Addr} {n c : Nat} {F : Value → World → Prop} (ho : o.op = .buildSlice 69 1 #[(0, x)]) (hx : ev x = .slice a n c) (hf : F (.slice (some ⟨w.heap.size, 0, none⟩) 1 1) (w.alloc (.cells #[.slice a n c] 35))) : lexUpon Tryd.prog w (.ab F) ((execOp ev o).run Tryd.prog w) := by
  simp only [execOp, ho, List.map_toArray, List.map_cons, List.map_nil, hx, Sem.run_bind, build_bd1, Result.andThen_ok, Sem.run_pure]
  exact ⟨(Ext.refl w).alloc _, hf⟩

/-- From w to x all blocks of F are kept. -/
structure Kp (w x : World) (F : Nat → Prop) : Prop where
  os : x.os = w.os
  tape : x.tape = w.tape
  output : x.output = w.output
  size : w.heap.size ≤ x.heap.size
  block : ∀ k, k < w.heap.size → F k → x.heap[k]? = w.heap[k]?
theorem Kp.ext {w x y : World} {F : Nat → Prop} (h : Kp w x F) (he : Ext x y) : Kp w y F :=
  ⟨he.os.trans h.os, he.tape.trans h.tape, he.output.trans h.output, Nat.le_trans h.size (Below.size he), fun k hk hF => by rw [Ext.block he (show k < x.heap.size by have := h.size; omega)]; exact h.block k hk hF⟩
theorem Kp.grown {w x y : World} {F : Nat → Prop} {r : Option Nat} (h : Kp w x F) (he : x.grownBy y r) (hr : ∀ k, F k → some k ≠ r) : Kp w y F :=
  ⟨he.os.trans h.os, he.tape.trans h.tape, he.output.trans h.output, Nat.le_trans h.size he.size, fun k hk hF => by rw [he.block k (by have := h.size; omega) (hr k hF)]; exact h.block k hk hF⟩
theorem Kp.step {w x y : World} {F : Nat → Prop} {g : Nat} {v v' : Value} (h : Kp w x F) (he : OutStep x y g v v') (hr : ∀ k, F k → k ≠ g ∧ some k ≠ v.ownBlock) : Kp w y F :=
  ⟨he.os.trans h.os, he.tape.trans h.tape, he.output.trans h.output, Nat.le_trans h.size he.size, fun k hk hF => by rw [he.block k (by have := h.size; omega) (hr k hF).1 (hr k hF).2]; exact h.block k hk hF⟩
theorem Kp.refl (w : World) (F : Nat → Prop) : Kp w w F := ⟨rfl, rfl, rfl, Nat.le_refl _, fun _ _ _ => rfl⟩
theorem Kp.below {w x : World} {B gx : Nat} {G : Nat → Nat} {S : Nat → CSt} {cnt : Int} (h : Kp w x (IxFar gx G S)) (h0 : IxAt w B gx G S cnt) (hBw : B ≤ w.heap.size) : Below B w x :=
  ⟨h.os, h.tape, h.output, h.size, fun k hk => h.block k (by omega) fun s hs e => by
    have := (h0.lt s hs k e).1
    omega⟩
/-- An index with a piece put in. -/
def PutTo (w w' : World) (B gx : Nat) (G : Nat → Nat) (S : Nat → CSt) (cnt : Int) (p : Pc) : Prop :=
  ∃ (i : Nat) (a2 : Option Addr) (c2 : Nat) (ta : Option Addr) (tc : Nat) (a3 : Option Addr) (c3 : Nat) (qa : Option Addr) (qc : Nat), i < 6 ∧ p.hd.1.writer = (i : Int) + 1 ∧
    IxAt w' B gx G (upS S i ⟨a2, c2, (S i).l ++ [reT p.hd ta tc], shaF (bytesL p.hd.1 p.hd.2), a3, c3, (S i).bl ++ [(p.bd, qa, qc)]⟩) (cnt + 1) ∧ Kp w w' (IxFar gx G S) ∧
    (∀ b, (Value.slice ta p.hd.1.tn tc).ownBlock = some b → w.heap.size ≤ b) ∧ (∀ b, (Value.slice a2 ((S i).l.length + 1) c2).ownBlock = some b → (Value.slice (S i).a (S i).l.length (S i).c).ownBlock = some b ∨ w.heap.size ≤ b) ∧
    (∀ b, (Value.slice qa p.bd.length qc).ownBlock = some b → w.heap.size ≤ b) ∧ (∀ b, (Value.slice a3 ((S i).bl.length + 1) c3).ownBlock = some b → (Value.slice (S i).ba (S i).bl.length (S i).bc).ownBlock = some b ∨ w.heap.size ≤ b)

/-- A block that an index holds: its own, and what it has cloned. -/
def IxOwns (gx : Nat) (G : Nat → Nat) (S : Nat → CSt) (b : Nat) : Prop :=
  (∃ s, s < 19 ∧ ixP gx G S s = some b) ∨ (∃ i, i < 6 ∧ ∃ x ∈ (S i).l, 0 < x.1.tn ∧ ∃ off, x.1.ta = some ⟨b, off, none⟩) ∨ (∃ i, i < 6 ∧ ∃ x ∈ (S i).bl, 0 < x.1.length ∧ ∃ off, x.2.1 = some ⟨b, off, none⟩)
theorem IxAt.frame {w w' : World} {B gx : Nat} {G : Nat → Nat} {S : Nat → CSt} {cnt : Int} (h : IxAt w B gx G S cnt) (hs : w.heap.size ≤ w'.heap.size) (hk : ∀ b, b < w.heap.size → IxOwns gx G S b → w'.heap[b]? = w.heap[b]?) : IxAt w' B gx G S cnt := by
  have hp : ∀ s, s < 19 → ∀ k, ixP gx G S s = some k → w'.heap[k]? = w.heap[k]? := fun s hs k e => hk k (h.lt s hs k e).2 (.inl ⟨s, hs, e⟩)
  refine ⟨h.row.of_block (hp 18 (by omega) _ ixP_x), fun i hi => (h.ch i hi).keep hs (hp i (by omega) _ (ixP_g hi)) (fun k e => hp (6 + i) (by omega) k (by rw [ixP_a hi]; exact e)) (fun x hx h0 b off e hb => hk b hb (.inr (.inl ⟨i, hi, x, hx, h0, off, e⟩))),
    fun i hi => own_keep (h.bo i hi) (fun k e => hp (12 + i) (by omega) k (by rw [ixP_b hi]; exact e)), fun i hi x hx => (h.by_ i hi x hx).blk fun h0 b off e hb => hk b hb (.inr (.inr ⟨i, hi, x, hx, h0, off, e⟩)), h.low, h.inj, h.far, h.farB⟩
theorem IxOwns.lt {w : World} {B gx : Nat} {G : Nat → Nat} {S : Nat → CSt} {cnt : Int} (h : IxAt w B gx G S cnt) {b : Nat} (ho : IxOwns gx G S b) : b < w.heap.size := by
  rcases ho with ⟨s, hs, e⟩ | ⟨i, hi, x, hx, h0, off, e⟩ | ⟨i, hi, x, hx, h0, off, e⟩
  · exact (h.lt s hs b e).2
  · exact ((h.ch i hi).each x hx).lt h0 e
  · obtain ⟨b', off', e', hc⟩ := (h.by_ i hi x hx).at_ h0
    rw [e] at e'
    simp only [Option.some.injEq, Addr.mk.injEq, and_true] at e'
    obtain ⟨rfl, rfl⟩ := e'
    exact World.block_lt_of_cell? _ _ (hc 0 h0)

theorem owns_slice1 {w : World} {base e n : Nat} {v : Value} {xs : List Value} (h : w.ownsRow base e 1 v n xs) : ∃ ao c, v = .slice ao n c ∧ n ≤ c ∧ c ≤ maxLen := by
  rcases h.2 with ⟨rfl, rfl⟩ | ⟨g, cap, cur, rfl, _, _, h1, h2, _⟩
  · exact ⟨none, 0, rfl, Nat.le_refl _, by unfold maxLen; omega⟩
  · exact ⟨_, cap, rfl, h1, h2⟩

def PutC (w3 : World) (B gx g i : Nat) (G : Nat → Nat) (S : Nat → CSt) (p : Pc) (ph : Bool) (x : World) : Prop :=
  (ph = false → Ext w3 x) ∧ (ph = true → ∃ w5 w6 a2 c2 ta tc, Ext w3 w5 ∧ AddTo w5 w6 B (G i) ((i : Int) + 1) (S i).a (S i).c (S i).l p.hd a2 c2 ta tc ∧ Ext w6 x) ∧ x.heap[gx]? = w3.heap[gx]? ∧ x.heap[g]? = w3.heap[g]?
theorem PutC.ext {w3 : World} {B gx g i : Nat} {G : Nat → Nat} {S : Nat → CSt} {p : Pc} (hx : gx < w3.heap.size) (hg : g < w3.heap.size) {ph : Bool} {x y : World} (h : PutC w3 B gx g i G S p ph x) (he : Ext x y) : PutC w3 B gx g i G S p ph y := by
  obtain ⟨h1, h2, h3, h4⟩ := h
  have l : ∀ k, k < w3.heap.size → x.heap[k]? = w3.heap[k]? → k < x.heap.size := fun k hk e => by
    rw [Array.getElem?_eq_getElem hk] at e
    exact (Array.getElem?_eq_some_iff.1 e).1
  refine ⟨fun e => (h1 e).trans he, fun e => ?_, by rw [he.block (l gx hx h3), h3], by rw [he.block (l g hg h4), h4]⟩
  obtain ⟨w5, w6, a2, c2, ta, tc, e1, e2, e3⟩ := h2 e
  exact ⟨w5, w6, a2, c2, ta, tc, e1, e2, e3.trans he⟩
theorem IxAt.putBody {w w3 : World} {B gx : Nat} {G : Nat → Nat} {S : Nat → CSt} {cnt : Int} (h : IxAt w B gx G S cnt) {i : Nat} (hi : i < 6) {ba : Option Addr} {bc N : Nat} {bl : List (List Int × Option Addr × Nat)} (e1 : (S i).ba = ba) (e2 : (S i).bc = bc) (e3 : (S i).bl = bl) (e4 : bl.length = N)
    {xs : List Int} {n : Nat} (e5 : xs.length = n) {qa : Option Addr} {qc : Nat} (hb : BsAt w qa n qc xs) (hq : 0 < n → ∀ b off, qa = some ⟨b, off, none⟩ → IxFar gx G S b)
    {a3 : Option Addr} {c3 : Nat} (ho : w3.ownsRow B 35 1 (.slice a3 (N + 1) c3) (N + 1) (bdC bl ++ [.slice qa n qc])) (hG : w.grownBy w3 (Value.slice ba N bc).ownBlock)
    (hw : (Value.slice a3 (N + 1) c3).ownBlock = (Value.slice ba N bc).ownBlock ∨ (Value.slice a3 (N + 1) c3).ownBlock = some w.heap.size) :
    w3.cell? ⟨gx, 6 + i, none⟩ = some (.slice ba N bc) ∧ w3.frozen? ⟨gx, 6 + i, none⟩ = false ∧ IxAt (w3.setCell ⟨gx, 6 + i, none⟩ (.slice a3 (N + 1) c3)) B gx G (upS S i { S i with ba := a3, bc := c3, bl := bl ++ [(xs, qa, qc)] }) cnt := by
  subst e1 e2 e3 e4 e5
  exact h.addBody hi hb hq (Ext.refl w) (by unfold bdC at ho ⊢; rw [List.map_append]; exact ho) hG hw
theorem upS_up (S : Nat → CSt) (i : Nat) (s t : CSt) : upS (upS S i s) i t = upS S i t := by
  funext j
  unfold upS
  split <;> rfl

set_option maxHeartbeats 8000000 in
set_option maxRecDepth 100000 in
theorem ixPut_any {w : World} {B gx : Nat} {G : Nat → Nat} {S : Nat → CSt} {cnt : Int} (h0 : IxAt w B gx G S cnt) (hm : Modest S) (hc : 0 ≤ cnt ∧ cnt ≤ 1000) (p : Pc) (hp : PcAt w p) (hk : KsAt 1 w) (hkB : 1 < B) (hBw : B ≤ w.heap.size)
    (hf1 : 0 < p.hd.1.tn → ∀ b off, p.hd.1.ta = some ⟨b, off, none⟩ → IxFar gx G S b) (hf2 : 0 < p.bd.length → ∀ b off, p.ba = some ⟨b, off, none⟩ → IxFar gx G S b) :
    Calls Tryd.prog 12 #[.pointer (some ⟨gx, 0, none⟩), .agg (pcV p)] w fun e w' => e = .returned (.int .i64 (ixAsk S cnt p)) ∧ (ixAsk S cnt p ≠ 0 → Ext w w') ∧ (ixAsk S cnt p = 0 → PutTo w w' B gx G S cnt p) := by
  obtain ⟨w2, hw2⟩ : ∃ x, w.alloc (.cells (pcV p) 37) = x := ⟨_, rfl⟩
  have hE2 : Ext w w2 := by rw [← hw2]; exact (Ext.refl w).alloc _
  have hB2 : w2.heap[w.heap.size]? = some (.cells (pcV p) 37 (0, 0)) := by rw [← hw2]; exact heap_new w _ _ rfl
  obtain ⟨g, hg⟩ : ∃ g, w.heap.size = g := ⟨_, rfl⟩
  rw [hg] at hB2
  have Hg := Lib.hid hg
  have Hw2 := Lib.hid hw2
  have HE2 := Lib.hid hE2
  have HB2 := Lib.hid hB2
  have Hsz := Lib.hid (pcV_size p)
  have HAs := Lib.hid (ixAsk_any (h0.ext hE2) hm hc p (hp.ext hE2) (hdKs_ext hk hE2))
  obtain ⟨V, hV⟩ : ∃ x, ixAsk S cnt p = x := ⟨_, rfl⟩
  rw [hV] at HAs ⊢
  by_cases hv : V = 0
  · subst hv
    have hq : hdB p.hd.1 p.hd.2 = true ∧ askV p.hd.1.writer (S (p.hd.1.writer - 1).toNat).l (S (p.hd.1.writer - 1).toNat).T p.hd = 0 := by
      unfold ixAsk at hV
      split at hV
      · rename_i h1
        split at hV
        · rename_i h2
          exact ⟨h1, h2⟩
        · rename_i h2
          exact absurd hV h2
      · cases hV
    obtain ⟨hF, hA⟩ := hq
    have hbd := hdB_bd hF
    obtain ⟨i, hiw, hi⟩ : ∃ i : Nat, p.hd.1.writer = (i : Int) + 1 ∧ i < 6 := ⟨(p.hd.1.writer - 1).toNat, by omega, by omega⟩
    rw [hiw, show ((i : Int) + 1 - 1).toNat = i by omega] at hA
    have hch := h0.ch i hi
    have hfg : ∀ b, IxFar gx G S b → b ≠ G i ∧ some b ≠ (Value.slice (S i).a (S i).l.length (S i).c).ownBlock ∧ some b ≠ (Value.slice (S i).ba (S i).bl.length (S i).bc).ownBlock ∧ b ≠ gx := fun b hb =>
      ⟨fun e => hb i (by omega) (by rw [ixP_g hi, e]), fun e => hb (6 + i) (by omega) (by rw [ixP_a hi, e]), fun e => hb (12 + i) (by omega) (by rw [ixP_b hi, e]), fun e => hb 18 (by omega) (by rw [ixP_x, e])⟩
    have hgxn : gx ≠ G i ∧ some gx ≠ (Value.slice (S i).a (S i).l.length (S i).c).ownBlock ∧ some gx ≠ (Value.slice (S i).ba (S i).bl.length (S i).bc).ownBlock :=
      ⟨fun e => h0.inj 18 i (by omega) (by omega) (by omega) gx ixP_x (by rw [ixP_g hi, e]), fun e => h0.inj 18 (6 + i) (by omega) (by omega) (by omega) gx ixP_x (by rw [ixP_a hi, e]), fun e => h0.inj 18 (12 + i) (by omega) (by omega) (by omega) gx ixP_x (by rw [ixP_b hi, e])⟩
    have hgf : IxFar gx G S g := h0.fresh (by omega)
    have hgn := hfg g hgf
    have HAd0 := Lib.hid (show ∀ x, Ext w x → Calls Tryd.prog 29 #[.pointer (some ⟨G i, 0, none⟩), .agg (hdV p.hd.1)] x fun e w' => e = .returned (.int .i64 0) ∧ ∃ a2 c2 ta tc, AddTo x w' B (G i) ((i : Int) + 1) (S i).a (S i).c (S i).l p.hd a2 c2 ta tc from fun x hx =>
      (add_any (hch.ext hx) (by have := (hm i hi).1; omega) (hm i hi).2.2 p.hd (hp.hd.ext hx) (by omega) (fun h b off e => ⟨(hfg b (hf1 h b off e)).1, (hfg b (hf1 h b off e)).2.1⟩) (hdKs_ext hk hx) hkB (by have := Below.size hx; omega)).mono fun e w' ⟨h1, _, h3⟩ => ⟨by rw [h1, hA], h3 hA⟩)
    have HC0 := Lib.hid (show w2.cell? ⟨g, 0, none⟩ = some (.int .i64 ((i : Int) + 1)) from by rw [pc_hd hB2 0 (by omega), ← hiw]; rfl)
    have HX0 := Lib.hid h0
    have HPp := Lib.hid hp
    have Hfg := Lib.hid hfg
    have Hgx := Lib.hid hgxn
    have Hgn := Lib.hid hgn
    have Hf2 := Lib.hid hf2
    have Hi := Lib.hid hi
    have Hiw := Lib.hid hiw
    have Hc := Lib.hid hc
    have Hm := Lib.hid hm
    have HBw := Lib.hid hBw
    obtain ⟨PV, hPV⟩ : ∃ x, pcV p = x := ⟨_, rfl⟩
    have HPV := Lib.hid hPV
    obtain ⟨h, hh⟩ : ∃ x, p.hd.1 = x := ⟨_, rfl⟩
    have Hh := Lib.hid hh
    obtain ⟨q, hqq⟩ : ∃ x, G i = x := ⟨_, rfl⟩
    have Hq := Lib.hid hqq
    rw [hPV] at Hw2 HB2 Hsz HAs ⊢
    rw [hh, hqq] at HAd0
    clear hw2 hE2 hB2 hg h0 hm hp hk hkB hBw hf1 hf2 hV hF hA hbd hi hiw hch hfg hgxn hgf hgn hPV hh hqq hc
    go_enter Tryd.func12, Tryd.ntmps12
    go_upto_region 1 with (fail)
    refine wp_world (w' := w2) Hw2.out ?_
    rw [Hg.out]
    clear Hw2
    go_wp2_with (refine wpList_load_rowW rfl 37 _ rfl g rfl _ _ _ _ HB2.out Tryd.underlying37 rfl (by rw [Hsz.out]; kernel_rfl) ?_)
    refine HAs.out.mono ?_
    rintro e w3 ⟨rfl, hE⟩
    have hc0 := HC0.out
    have HE3 := Lib.hid (HE2.out.trans hE)
    have HE23 := Lib.hid hE
    have HB3 := Lib.hid (hE.keep HB2.out)
    have c0 : w3.cell? ⟨g, 0, none⟩ = some (.int .i64 ((i : Int) + 1)) := by rw [Ext.cell hE (World.block_lt_of_cell? w2 _ hc0)]; exact hc0
    have hi1 : (i : Int) < 6 := by have := Hi.out; omega
    clear hE HAs hc0 HC0
    go_upto_region 5 with (fail)
    have h3 := HX0.out.ext HE3.out
    have HLx := Lib.hid h3.row.lt
    have HLg := Lib.hid ((Array.getElem?_eq_some_iff.1 HB3.out).1)
    have HST := Lib.hid (show ∀ (ph : Bool) (w1 w' : World), PutC w3 B gx g i G S p ph w1 → Ext w1 w' → PutC w3 B gx g i G S p ph w' ∧ True from fun ph w1 w' h1 h2 => ⟨h1.ext HLx.out HLg.out h2, trivial⟩)
    have HAd := Lib.hid (show ∀ x, Ext w3 x → _ from fun x hx => HAd0.out x (HE3.out.trans hx))
    have HTo := Lib.hid (show ∀ x, Ext w3 x → ∀ y a2 c2 ta tc, AddTo x y B q ((i : Int) + 1) (S i).a (S i).c (S i).l p.hd a2 c2 ta tc → PutC w3 B gx g i G S p true y from fun x hx y a2 c2 ta tc hA => by
      rw [← Hq.out] at hA
      have hz := Below.size hx
      have l1 := HLx.out
      have l2 := HLg.out
      refine ⟨(fun e => by cases e), fun _ => ⟨x, y, a2, c2, ta, tc, hx, hA, Ext.refl _⟩, ?_, ?_⟩
      · rw [hA.step.block gx (by omega) Hgx.out.1 Hgx.out.2.1]
        exact hx.block l1
      · rw [hA.step.block g (by omega) Hgn.out.1 Hgn.out.2.1]
        exact hx.block l2)
    have HCc := Lib.hid (show ∀ ph x, PutC w3 B gx g i G S p ph x → x.cell? ⟨gx, i, none⟩ = some (.pointer (some ⟨q, 0, none⟩)) ∧ x.rangeAt g 0 (hdL h) from fun ph x hx => by
      constructor
      · rw [(h3.row.of_block hx.2.2.1).cell (i := i) (by have := Hi.out; omega)]
        unfold ixC
        rw [if_pos Hi.out, Hq.out]
      · have hb : x.heap[g]? = some (.cells (pcV p) 37 (0, 0)) := by rw [hx.2.2.2, HPV.out]; exact HB3.out
        rw [← Hh.out]
        exact pc_rh hb)
    have hC0 : PutC w3 B gx g i G S p false w3.drew := ⟨fun _ => (Ext.refl w3).drew, (fun e => by cases e), rfl, rfl⟩
    clear h3 HAd0 c0 hi1
    · refine lq_start (C := PutC w3 B gx g i G S p) (E := fun _ _ _ => True) 10 8 (by omega) (by kernel_rfl) (by kernel_rfl) (fun _ _ => trivial) (fun _ _ _ => trivial) hC0 ?_
      simp only [List.take_succ_cons, List.take_zero]
      refine lq_s (.ex (.pointer (some ⟨gx, 0, none⟩))) [] (by omega) (by kernel_rfl) rfl (by rfl) trivial HST.out (fun ph w1 hw1 => ?_) ?_
      · simp only [pk, lexVals]
        clear hw1
        go_simp
        exact ⟨Ext.refl _, by first | rfl | simp⟩
      refine lq_s (.ex (.int .i64 (i : Int))) [] (by omega) (by kernel_rfl) rfl (by rfl) trivial HST.out (fun ph w1 hw1 => ?_) ?_
      · simp only [pk, lexVals]
        clear hw1
        go_simp
        exact ⟨Ext.refl _, by first | rfl | simp⟩
      refine lq_s (.ex (.pointer (some ⟨gx, 0, none⟩))) [(1, 18)] (by omega) (by kernel_rfl) rfl (by rfl) trivial HST.out (fun ph w1 hw1 => ?_) ?_
      · simp only [pk, nthSp, lexVals]
        clear hw1
        go_simp
        exact ⟨Ext.refl _, by first | rfl | simp⟩
      refine lq_s (.ex (.pointer (some ⟨gx, 0, none⟩))) [(0, 20)] (by omega) (by kernel_rfl) rfl (by rfl) trivial HST.out (fun ph w1 hw1 => ?_) ?_
      · simp only [pk, nthSp, lexVals]
        clear hw1
        go_simp
        exact ⟨Ext.refl _, by first | rfl | simp⟩
      refine lq_s (.ex (.pointer (some ⟨gx, i, none⟩))) [(0, 21), (2, 19)] (by omega) (by kernel_rfl) rfl (by rfl) trivial HST.out (fun ph w1 hw1 => ?_) ?_
      · simp only [pk, nthSp, lexVals]
        have hi1 : (i : Int) < 6 := by have := Hi.out; omega
        clear hw1
        go_simp
        exact ⟨Ext.refl _, by first | rfl | simp⟩
      refine lq_s (.ex (.pointer (some ⟨q, 0, none⟩))) [(0, 22)] (by omega) (by kernel_rfl) rfl (by rfl) trivial HST.out (fun ph w1 hw1 => ?_) ?_
      · simp only [pk, nthSp, lexVals]
        have hc := (HCc.out ph w1 hw1).1
        clear hw1
        go_simp
        exact ⟨Ext.refl _, by first | rfl | simp⟩
      refine lq_s (.ex (.pointer (some ⟨g, 0, none⟩))) [] (by omega) (by kernel_rfl) rfl (by rfl) trivial HST.out (fun ph w1 hw1 => ?_) ?_
      · simp only [pk, lexVals]
        clear hw1
        go_simp
        exact ⟨Ext.refl _, by first | rfl | simp⟩
      refine lq_s (.ex (.agg (hdV h))) [(0, 24)] (by omega) (by kernel_rfl) rfl (by rfl) trivial HST.out (fun ph w1 hw1 => ?_) ?_
      · simp only [pk, nthSp, lexVals]
        exact lu_hmid rfl rfl (HCc.out ph w1 hw1).2
      refine lq_m (.ex (.int .i64 0)) [(2, 23), (0, 25)] rfl (by kernel_rfl) rfl (by rfl) trivial (fun w1 hw1 => ?_) ?_
      · simp only [pk, nthSp, lexVals]
        have HM := Lib.hid (HAd.out w1 (hw1.1 rfl))
        have HT := Lib.hid (HTo.out w1 (hw1.1 rfl))
        clear hw1
        go_simp
        refine HM.out.mono ?_
        rintro e w5 ⟨rfl, a2, c2, ta, tc, hA⟩
        exact ⟨_, rfl, HT.out w5 a2 c2 ta tc hA, trivial, rfl⟩
      refine lq_s (.ex (.int .i64 0)) [(0, 26)] (by omega) (by kernel_rfl) rfl (by rfl) trivial HST.out (fun ph w1 hw1 => ?_) ?_
      · simp only [pk, nthSp, lexVals]
        clear hw1
        go_simp
        exact ⟨Ext.refl _, by first | rfl | simp⟩
      refine lq_stop (by rfl) (by decide) fun w7 hw7 => ?_
      obtain ⟨wa, wb, a2, c2, ta, tc, hEa, hA, hEb⟩ := hw7.2.1 rfl
      have hK7 : Kp w w7 (IxFar gx G S) := (((Kp.refl w _).ext (HE3.out.trans hEa)).step hA.step fun k hF => ⟨(Hfg.out k hF).1, (Hfg.out k hF).2.1⟩).ext hEb
      have h7 := ((HX0.out.ext (HE3.out.trans hEa)).addChain Hi.out hA).ext hEb
      have HF12 := Lib.hid (show (∀ b, (Value.slice ta p.hd.1.tn tc).ownBlock = some b → w.heap.size ≤ b) ∧ (∀ b, (Value.slice a2 ((S i).l.length + 1) c2).ownBlock = some b → (Value.slice (S i).a (S i).l.length (S i).c).ownBlock = some b ∨ w.heap.size ≤ b) from by
        have hz := Below.size (HE3.out.trans hEa)
        exact ⟨fun b e => by have := hA.new b e; omega, fun b e => (hA.step.row b e).imp id fun h => by omega⟩)
      have HZ7 := Lib.hid hK7.size
      obtain ⟨S', hS'⟩ : ∃ x, upS S i { S i with a := a2, c := c2, l := (S i).l ++ [reT p.hd ta tc], T := shaF (bytesL p.hd.1 p.hd.2) } = x := ⟨_, rfl⟩
      rw [hS'] at h7
      have hS'i : S' i = { S i with a := a2, c := c2, l := (S i).l ++ [reT p.hd ta tc], T := shaF (bytesL p.hd.1 p.hd.2) } := by rw [← hS', upS_at]
      have hB7 : w7.heap[g]? = some (.cells (pcV p) 37 (0, 0)) := by rw [hw7.2.2.2, HPV.out]; exact HB3.out
      obtain ⟨ba, hba⟩ : ∃ x, (S i).ba = x := ⟨_, rfl⟩
      obtain ⟨bc, hbc⟩ : ∃ x, (S i).bc = x := ⟨_, rfl⟩
      obtain ⟨bl, hbl⟩ : ∃ x, (S i).bl = x := ⟨_, rfl⟩
      obtain ⟨N, hN⟩ : ∃ x, bl.length = x := ⟨_, rfl⟩
      have e1 : (S' i).ba = ba := by rw [hS'i]; exact hba
      have e2 : (S' i).bc = bc := by rw [hS'i]; exact hbc
      have e3 : (S' i).bl = bl := by rw [hS'i]; exact hbl
      have hown : (Value.slice (S i).ba (S i).bl.length (S i).bc).ownBlock = (Value.slice ba N bc).ownBlock := by rw [hba, hbc, hbl, hN]
      have ho7 := h7.bo i Hi.out
      rw [e1, e2, e3, hN] at ho7
      have HO7 := Lib.hid ho7
      have hrl : ∀ k, (Value.slice ba N bc).ownBlock = some k → k < w7.heap.size := fun k e => (ho7.lt k e).2
      have Hrl := Lib.hid hrl
      have HNs := Lib.hid (show N ≤ 1000 from by have := (Hm.out i Hi.out).2.1; rw [hbl, hN] at this; exact this)
      have HB7 := Lib.hid (show B ≤ w7.heap.size from Nat.le_trans HBw.out hK7.size)
      obtain ⟨pa, hpa⟩ : ∃ x, p.ba = x := ⟨_, rfl⟩
      obtain ⟨pc, hpc⟩ : ∃ x, p.bc = x := ⟨_, rfl⟩
      obtain ⟨xs, hxs⟩ : ∃ x, p.bd = x := ⟨_, rfl⟩
      obtain ⟨n, hn⟩ : ∃ x, xs.length = x := ⟨_, rfl⟩
      have hbody : BsAt w7 pa n pc xs := by
        have h := HPp.out.body.blk (w' := w7) fun h0 b off e hb => hK7.block b hb (Hf2.out h0 b off e)
        rw [hpa, hpc, hxs, hn] at h
        exact h
      have hf2 : 0 < n → ∀ b off, pa = some ⟨b, off, none⟩ → IxFar gx G S b := fun h0 b off e => Hf2.out (by rw [hxs, hn]; exact h0) b off (by rw [hpa]; exact e)
      have H8c := Lib.hid (show ∀ x, w7.grownBy x (Value.slice ba N bc).ownBlock → x.cell? ⟨gx, 6 + i, none⟩ = some (.slice ba N bc) ∧ x.cell? ⟨g, 125, none⟩ = some (.slice pa n pc) ∧ BsAt x pa n pc xs from fun x hx => by
        refine ⟨?_, ?_, ?_⟩
        · rw [(h7.row.of_block (hx.block gx h7.row.lt (by rw [← hown]; exact Hgx.out.2.2))).cell (i := 6 + i) (by have := Hi.out; omega)]
          unfold ixC
          rw [if_neg (by omega), if_pos (by have := Hi.out; omega), show 6 + i - 6 = i by omega, e1, e2, e3, hN]
        · have hb : x.heap[g]? = some (.cells (pcV p) 37 (0, 0)) := by
            rw [hx.block g ((Array.getElem?_eq_some_iff.1 hB7).1) (by rw [← hown]; exact Hgn.out.2.2.1)]
            exact hB7
          rw [pc_body hb, hpa, hpc, hxs, hn]
        · exact hbody.blk fun h0 b off e hb => hx.block b hb (by rw [← hown]; exact (Hfg.out b (hf2 h0 b off e)).2.2.1))
      have HTk := Lib.hid (show ∀ (qa : Option Addr) (qc : Nat) (w9 w' : World), w9.ownsRow w7.heap.size 5 1 (.slice qa n qc) n (bv xs) → w9.grownBy w' (Value.slice ba N bc).ownBlock → w'.ownsRow w7.heap.size 5 1 (.slice qa n qc) n (bv xs) from fun qa qc w9 w' h1 h2 => h1.kept h2 (by
        cases hv : (Value.slice qa n qc).ownBlock with
        | none => exact .inl rfl
        | some k => exact .inr (fun e => by have h5 := (h1.lt k hv).1; have := hrl k e.symm; omega)))
      have HK7 := Lib.hid hK7
      have H7 := Lib.hid h7
      have HS' := Lib.hid hS'
      have HS'i := Lib.hid hS'i
      have HE1 := Lib.hid e1
      have HE2' := Lib.hid e2
      have HE3' := Lib.hid e3
      have HN := Lib.hid hN
      have Hn := Lib.hid hn
      have Hxs := Lib.hid hxs
      have Hown := Lib.hid hown
      have Hbd := Lib.hid hbody
      clear hw7 HST HAd HTo HCc hC0 hEa hA hEb hK7 h7 hS' hS'i hB7 hba hbc hbl hN e1 e2 e3 hown ho7 hrl hpa hpc hxs hn hbody hf2
      simp only [rv, pf, lexVals]
      simp only [Act.put, List.setIfInBounds_toArray, List.set_cons_zero, List.set_cons_succ]
      have HST := Lib.hid (show ∀ (ph : Bool) (w1 w' : World), (w7.grownBy w1 (Value.slice ba N bc).ownBlock ∧ (ph = false → Ext w7 w1)) → Ext w1 w' → (w7.grownBy w' (Value.slice ba N bc).ownBlock ∧ (ph = false → Ext w7 w')) ∧ (if ph = true then Ext w1 w' else w1.grownBy w' (Value.slice ba N bc).ownBlock) from fun ph w1 w' h1 h2 => ⟨⟨grown_trans h1.1 (grown_ext h2 _), fun e => (h1.2 e).trans h2⟩, by
        cases ph
        · exact grown_ext h2 _
        · exact h2⟩)
      go_upto_region 8 with (fail)
      refine lq_start (C := fun ph w => w7.grownBy w (Value.slice ba N bc).ownBlock ∧ (ph = false → Ext w7 w)) (E := fun ph w w' => if ph = true then Ext w w' else w.grownBy w' (Value.slice ba N bc).ownBlock) 16 12 (by omega) (by kernel_rfl) (by kernel_rfl) (fun ph w => by cases ph; exact World.grownBy.refl w _; exact Ext.refl w) (fun w w' h => grown_ext h _) ⟨grown_drewN (World.grownBy.refl w7 _) 1, fun _ => (Ext.refl w7).drew⟩ ?_
      simp only [List.take_succ_cons, List.take_zero]
      refine lq_s (.ex (.pointer (some ⟨gx, 0, none⟩))) [] (by omega) (by kernel_rfl) rfl (by rfl) trivial HST.out (fun ph w1 hw1 => ?_) ?_
      · simp only [pk, lexVals]
        clear hw1
        go_simp
        exact ⟨Ext.refl _, by first | rfl | simp⟩
      refine lq_s (.ex (.int .i64 (i : Int))) [] (by omega) (by kernel_rfl) rfl (by rfl) trivial HST.out (fun ph w1 hw1 => ?_) ?_
      · simp only [pk, lexVals]
        clear hw1
        go_simp
        exact ⟨Ext.refl _, by first | rfl | simp⟩
      refine lq_s (.ex (.pointer (some ⟨gx, 0, none⟩))) [] (by omega) (by kernel_rfl) rfl (by rfl) trivial HST.out (fun ph w1 hw1 => ?_) ?_
      · simp only [pk, lexVals]
        clear hw1
        go_simp
        exact ⟨Ext.refl _, by first | rfl | simp⟩
      refine lq_s (.ex (.int .i64 (i : Int))) [] (by omega) (by kernel_rfl) rfl (by rfl) trivial HST.out (fun ph w1 hw1 => ?_) ?_
      · simp only [pk, lexVals]
        clear hw1
        go_simp
        exact ⟨Ext.refl _, by first | rfl | simp⟩
      refine lq_s (.ex (.pointer (some ⟨gx, 0, none⟩))) [(1, 32)] (by omega) (by kernel_rfl) rfl (by rfl) trivial HST.out (fun ph w1 hw1 => ?_) ?_
      · simp only [pk, nthSp, lexVals]
        clear hw1
        go_simp
        exact ⟨Ext.refl _, by first | rfl | simp⟩
      refine lq_s (.ex (.pointer (some ⟨gx, 6, none⟩))) [(0, 34)] (by omega) (by kernel_rfl) rfl (by rfl) trivial HST.out (fun ph w1 hw1 => ?_) ?_
      · simp only [pk, nthSp, lexVals]
        clear hw1
        go_simp
        exact ⟨Ext.refl _, by first | rfl | simp⟩
      refine lq_s (.ex (.pointer (some ⟨gx, 6 + i, none⟩))) [(0, 35), (2, 33)] (by omega) (by kernel_rfl) rfl (by rfl) trivial HST.out (fun ph w1 hw1 => ?_) ?_
      · simp only [pk, nthSp, lexVals]
        have hi1 : (i : Int) < 6 := by have := Hi.out; omega
        clear hw1
        go_simp
        exact ⟨Ext.refl _, by first | rfl | simp⟩
      refine lq_s (.ex (.slice ba N bc)) [(0, 36)] (by omega) (by kernel_rfl) rfl (by rfl) trivial HST.out (fun ph w1 hw1 => ?_) ?_
      · simp only [pk, nthSp, lexVals]
        have hc := (H8c.out w1 hw1.1).1
        clear hw1
        go_simp
        exact ⟨Ext.refl _, by first | rfl | simp⟩
      refine lq_s (.ex (.pointer (some ⟨g, 125, none⟩))) [] (by omega) (by kernel_rfl) rfl (by rfl) trivial HST.out (fun ph w1 hw1 => ?_) ?_
      · simp only [pk, lexVals]
        clear hw1
        go_simp
        exact ⟨Ext.refl _, by first | rfl | simp⟩
      refine lq_s (.ex (.slice pa n pc)) [(0, 38)] (by omega) (by kernel_rfl) rfl (by rfl) trivial HST.out (fun ph w1 hw1 => ?_) ?_
      · simp only [pk, nthSp, lexVals]
        have hc := (H8c.out w1 hw1.1).2.1
        clear hw1
        go_simp
        exact ⟨Ext.refl _, by first | rfl | simp⟩
      refine lq_s (.ab (fun u w9 => ∃ qa qc, u = .slice qa n qc ∧ w9.ownsRow w7.heap.size 5 1 (.slice qa n qc) n (bv xs))) [(0, 39)] (by omega) (by kernel_rfl) rfl (by rfl) (fun u w w' he ⟨qa, qc, h1, h2⟩ => ⟨qa, qc, h1, HTk.out _ _ w w' h2 he⟩) HST.out (fun ph w1 hw1 => ?_) ?_
      · simp only [pk, nthSp, lexVals]
        have hm := clone_any pa n pc xs w1 (H8c.out w1 hw1.1).2.2
        have HM := Lib.hid hm
        have hsz1 := hw1.1.size
        clear hw1 hm
        go_simp
        refine HM.out.mono ?_
        rintro e w9 ⟨v, rfl, hs, hE2⟩
        obtain ⟨qa, qc, rfl, -, -⟩ := owns_slice hs
        exact ⟨_, rfl, hE2, qa, qc, rfl, own_mono hs hsz1⟩
      refine lq_s (.ab (fun u w9 => ∃ z qa qc, u = .slice (some ⟨z, 0, none⟩) 1 1 ∧ w7.heap.size ≤ z ∧ w9.cell? ⟨z, 0, none⟩ = some (.slice qa n qc) ∧ w9.ownsRow w7.heap.size 5 1 (.slice qa n qc) n (bv xs))) [(0, 40)] (by omega) (by kernel_rfl) rfl (by rfl) (fun u w w' he ⟨z, qa, qc, h1, h4, h3, h2⟩ => ⟨z, qa, qc, h1, h4, World.grownBy.cell he h3 (fun e => by have := Hrl.out z e.symm; omega), HTk.out _ _ w w' h2 he⟩) HST.out (fun ph w1 hw1 => ?_) ?_
      · simp only [pk, nthSp, lexVals]
        rintro u40 ⟨qa, qc, rfl, h40⟩
        have hsz1 := hw1.1.size
        clear hw1
        exact lu_bd1 rfl rfl ⟨w1.heap.size, qa, qc, rfl, hsz1, cell_of_row _ w1.heap.size _ _ _ _ (heap_new w1 _ _ rfl), own_ext9 h40 ((Ext.refl w1).alloc _)⟩
      refine lq_m (.ab (fun u w9 => ∃ w5 w6 qa qc a3 c3, u = .slice a3 (N + 1) c3 ∧ Ext w7 w5 ∧ w5.grownBy w6 (Value.slice ba N bc).ownBlock ∧ w6.ownsRow B 35 1 (.slice a3 (N + 1) c3) (N + 1) (bdC bl ++ [.slice qa n qc]) ∧ ((Value.slice a3 (N + 1) c3).ownBlock = (Value.slice ba N bc).ownBlock ∨ (Value.slice a3 (N + 1) c3).ownBlock = some w5.heap.size) ∧ w5.ownsRow w7.heap.size 5 1 (.slice qa n qc) n (bv xs) ∧ Ext w6 w9)) [(4, 37), (0, 41)] rfl (by kernel_rfl) rfl (by rfl) (fun u w w' he ⟨w5, w6, qa, qc, a3, c3, h1, h2, h3, h4, h5, h6, h7⟩ => ⟨w5, w6, qa, qc, a3, c3, h1, h2, h3, h4, h5, h6, h7.trans he⟩) (fun w1 hw1 => ?_) ?_
      · simp only [pk, nthSp, lexVals]
        rintro u41 ⟨z, qa, qc, rfl, hz, hcz, h41⟩
        have hE1 := hw1.2 rfl
        exact luc_append_bd (.tmp 37) (.tmp 41) rfl B (.slice ba N bc) N (bdC bl) rfl (own_ext9 HO7.out hE1) z 1 (.slice qa n qc) rfl hcz rfl (by have := HNs.out; omega) (by have h1 := HB7.out; have h2 := Below.size hE1; omega) (fun v' w' h1 h2 h3 => by
          obtain ⟨a3, c3, rfl, -, -⟩ := owns_slice1 h1
          exact ⟨⟨grown_trans hw1.1 h2, fun e => by cases e⟩, h2, w1, w', qa, qc, a3, c3, rfl, hE1, h2, h1, h3, h41, Ext.refl _⟩)
      refine lq_s (.ex (.pointer (some ⟨gx, 0, none⟩))) [(12, 30)] (by omega) (by kernel_rfl) rfl (by rfl) trivial HST.out (fun ph w1 hw1 => ?_) ?_
      · simp only [pk, nthSp, lexVals]
        clear hw1
        go_simp
        exact ⟨Ext.refl _, by first | rfl | simp⟩
      refine lq_s (.ex (.pointer (some ⟨gx, 6, none⟩))) [(0, 43)] (by omega) (by kernel_rfl) rfl (by rfl) trivial HST.out (fun ph w1 hw1 => ?_) ?_
      · simp only [pk, nthSp, lexVals]
        clear hw1
        go_simp
        exact ⟨Ext.refl _, by first | rfl | simp⟩
      refine lq_s (.ex (.pointer (some ⟨gx, 6 + i, none⟩))) [(0, 44), (13, 31)] (by omega) (by kernel_rfl) rfl (by rfl) trivial HST.out (fun ph w1 hw1 => ?_) ?_
      · simp only [pk, nthSp, lexVals]
        have hi1 : (i : Int) < 6 := by have := Hi.out; omega
        clear hw1
        go_simp
        exact ⟨Ext.refl _, by first | rfl | simp⟩
      refine lq_stop (by rfl) (by decide) fun w9 hw9 => ?_
      clear hw9 HST HTk H8c Hrl
      simp only [rv, pf, lexVals]
      rintro v40 ⟨qa1, qc1, rfl, -⟩ v41 ⟨z1, qa2, qc2, rfl, -⟩ v42 ⟨w5, wm, qa, qc, a3, c3, rfl, hE5, hGm, hownm, hwh, htok, hEm⟩
      have hG9 := grown_trans hGm (grown_ext hEm (Value.slice ba N bc).ownBlock)
      have h5 := H7.out.ext hE5
      have hbq : BsAt w5 qa n qc xs := by
        obtain ⟨_, cc, e, _, h2⟩ := owns_slice1 htok
        simp only [Value.slice.injEq, true_and] at e
        obtain ⟨rfl, rfl⟩ := e
        exact owns_bs htok Hbd.out.byte (by unfold maxLen at h2; omega) Hbd.out.small
      have hfq : 0 < n → ∀ b off, qa = some ⟨b, off, none⟩ → IxFar gx G S' b := fun _ b off e => H7.out.fresh (htok.lt b (by rw [e]; rfl)).1
      obtain ⟨d1, d2, d3⟩ := h5.putBody Hi.out HE1.out HE2'.out HE3'.out HN.out Hn.out hbq hfq (own_ext9 hownm hEm) hG9 hwh
      obtain ⟨d4, d5, d6⟩ := d3.count (cnt + 1)
      have HD6 := Lib.hid d6
      have HF34 := Lib.hid (show (∀ b, (Value.slice qa n qc).ownBlock = some b → w.heap.size ≤ b) ∧ (∀ b, (Value.slice a3 (N + 1) c3).ownBlock = some b → (Value.slice ba N bc).ownBlock = some b ∨ w.heap.size ≤ b) from by
        have hz := HZ7.out
        have hz5 := Below.size hE5
        exact ⟨fun b e => by have := (htok.lt b e).1; omega, fun b e => by
          rcases hwh with q | q
          · exact .inl (q ▸ e)
          · rw [q] at e
            exact .inr (by have := Option.some.inj e; omega)⟩)
      have HKf := Lib.hid ((((HK7.out.ext hE5).grown hG9 fun k hF => by rw [← Hown.out]; exact (Hfg.out k hF).2.2.1).grown (grown_setCell (World.grownBy.refl w9 _) (p := ⟨gx, 6 + i, none⟩) rfl (.slice a3 (N + 1) c3)) fun k hF e => (Hfg.out k hF).2.2.2 (Option.some.inj e)).grown (grown_setCell (World.grownBy.refl _ _) (p := ⟨gx, 12, none⟩) rfl (.int .i64 (cnt + 1))) fun k hF e => (Hfg.out k hF).2.2.2 (Option.some.inj e))
      have wN : IntKind.i64.wrap (cnt + 1) = cnt + 1 := by have := Hc.out; rw [IntKind.wrap_i64]; omega
      clear hE5 hGm hownm hwh htok hEm hG9 h5 hbq hfq d3 d6
      simp only [Act.put, List.setIfInBounds_toArray, List.set_cons_zero, List.set_cons_succ]
      go_wp2
      go_ret
      refine ⟨rfl, i, a2, c2, ta, tc, a3, c3, qa, qc, Hi.out, ?_, ?_, ?_⟩
      · exact Hiw.out
      · have h := HD6.out
        rw [← HS'.out, upS_up, HS'.out, HS'i.out] at h
        have hb : (S i).bl = bl := by
          have h2 := HE3'.out
          rw [HS'i.out] at h2
          exact h2
        rw [Hxs.out, hb]
        first | exact h | (simpa using h)
      · exact ⟨HKf.out, HF12.out.1, HF12.out.2, fun b e => HF34.out.1 b (by cases qa <;> exact e), fun b e => by rw [Hown.out]; exact HF34.out.2 b (by cases a3 <;> exact e)⟩
  · obtain ⟨PV, hPV⟩ : ∃ x, pcV p = x := ⟨_, rfl⟩
    rw [hPV] at Hw2 HB2 Hsz HAs ⊢
    have y1 : (V == 0) = false := by simpa using hv
    clear hw2 hE2 hB2 hg h0 hm hp hk hkB hBw hf1 hf2 hV hPV hc
    go_enter Tryd.func12, Tryd.ntmps12
    go_upto_region 1 with (fail)
    refine wp_world (w' := w2) Hw2.out ?_
    rw [Hg.out]
    clear Hw2
    go_wp2_with (refine wpList_load_rowW rfl 37 _ rfl g rfl _ _ _ _ HB2.out Tryd.underlying37 rfl (by rw [Hsz.out]; kernel_rfl) ?_)
    refine HAs.out.mono ?_
    rintro e w3 ⟨rfl, hE⟩
    have HE3 := Lib.hid (HE2.out.trans hE)
    clear hE
    go_wp2
    go_ret
    first
      | exact ⟨rfl, fun _ => HE3.out, fun e => absurd e hv⟩
      | exact ⟨rfl, HE3.out⟩
      | simp [hv, HE3.out]

end Go.Proofs.YtihlpfdhallfpaaDoor
