/-
  IndexFull in plain words: an index of one writer's pieces, and the row of them. No conditions.
-/
import Derived.Test.YtihlpfdhallfpaaDoorAwk20
namespace Go.Proofs.YtihlpfdhallfpaaDoor
open Go.ChangeShapes Go.WideShapes Go.ChangeAt Go.RowKit

theorem pcC_hset (p : Pc) (h' : Hd) (f : Nat → Value) (hf : ∀ j, j < 125 → f j = hdC h' j) (h5 : f 125 = .slice p.ba p.bd.length p.bc) : ∀ j, j < 126 → f j = pcC { p with hd := (h', p.hd.2) } j := by
  intro j hj
  unfold pcC
  by_cases h1 : j < 125
  · rw [if_pos h1]
    exact hf j h1
  · obtain rfl : j = 125 := by omega
    rw [if_neg (by omega)]
    exact h5
theorem pcC_lt (p : Pc) (j : Nat) (hj : j < 125) : pcC p j = hdC p.hd.1 j := by
  unfold pcC
  rw [if_pos hj]
theorem pcC_125 (p : Pc) : pcC p 125 = .slice p.ba p.bd.length p.bc := rfl

/-- The k-th piece. -/
def pcB (wr sq : Int) (q : Nat) : Pc := ⟨(hdW wr sq, []), some ⟨q, 0, none⟩, 80, rep80 0⟩
def pcK (k : Int) (P : Nat → Int) (q : Nat) : Pc := ⟨({ hdW 1 (k + 1) with prev := P, knows := fun i => if i = 0 then k else 0, sum := shaF (rep80 0) }, []), some ⟨q, 0, none⟩, 80, rep80 0⟩
def pcQ (q : Nat) : Pc := ⟨({ hdW 2 1 with sum := shaF (rep80 0) }, []), some ⟨q, 0, none⟩, 80, rep80 0⟩
def pcX : Pc := ⟨({ hdW 2 1 with sum := shaF (rep80 0) }, []), none, 0, []⟩
theorem hdW_ok (wr sq : Int) (hw : 1 ≤ wr ∧ wr ≤ 6) (hs : 0 ≤ sq ∧ sq ≤ 1000) : HdOk (hdW wr sq) :=
  ⟨by show -9223372036854775808 ≤ wr ∧ wr ≤ _; omega, by show 0 ≤ sq ∧ sq < _; omega, hdN_ok.prev, hdN_ok.epoch, hdN_ok.time, hdN_ok.item, hdN_ok.knows, hdN_ok.sum, by show (-9223372036854775808 : Int) ≤ 80 ∧ (80 : Int) ≤ _; omega, hdN_ok.code⟩
theorem ts0_at (w : World) : TsAt w none 0 0 [] := (htN_at w).toks
theorem rep80_bs {w : World} {q : Nat} (h : BsAt w (some ⟨q, 0, none⟩) 80 80 (rep80 0)) : BsAt w (some ⟨q, 0, none⟩) (rep80 0).length 80 (rep80 0) := by rw [rep80_length]; exact h
theorem pcK_at {w : World} {k : Int} {P : Nat → Int} {q : Nat} (hk : 0 ≤ k ∧ k < 400) (hP : ∀ j, 0 ≤ P j ∧ P j < 256) (h : BsAt w (some ⟨q, 0, none⟩) 80 80 (rep80 0)) : PcAt w (pcK k P q) := by
  have h1 := hdW_ok 1 (k + 1) (by omega) (by omega)
  refine ⟨⟨⟨h1.writer, h1.seq, fun j _ => hP j, h1.epoch, h1.time, h1.item, fun j _ => ?_, fun j _ => shaF_by _ _, h1.size, h1.code⟩, ts0_at w⟩, rep80_bs h, by show (rep80 0).length ≤ _; rw [rep80_length]; omega⟩
  show 0 ≤ (if j = 0 then k else 0) ∧ (if j = 0 then k else 0) < _
  split <;> omega
theorem pcQ_at {w : World} {q : Nat} (h : BsAt w (some ⟨q, 0, none⟩) 80 80 (rep80 0)) : PcAt w (pcQ q) := by
  have h1 := hdW_ok 2 1 (by omega) (by omega)
  exact ⟨⟨⟨h1.writer, h1.seq, h1.prev, h1.epoch, h1.time, h1.item, h1.knows, fun j _ => shaF_by _ _, h1.size, h1.code⟩, ts0_at w⟩, rep80_bs h, by show (rep80 0).length ≤ _; rw [rep80_length]; omega⟩
theorem pcX_at (w : World) : PcAt w pcX := by
  have h1 := hdW_ok 2 1 (by omega) (by omega)
  exact ⟨⟨⟨h1.writer, h1.seq, h1.prev, h1.epoch, h1.time, h1.item, h1.knows, fun j _ => shaF_by _ _, h1.size, h1.code⟩, ts0_at w⟩, bsN_at w, by show (0 : Nat) ≤ _; omega⟩
theorem pcK_hd {k : Int} {P : Nat → Int} {q : Nat} (hk : 0 ≤ k ∧ k < 400) (hP : k = 0 → ∀ j, P j = 0) : hdB (pcK k P q).hd.1 (pcK k P q).hd.2 = true :=
  hdB_plain _ ⟨by show (1 : Int) ≤ 1; omega, by show (1 : Int) ≤ 6; omega⟩ ⟨by show (1 : Int) ≤ k + 1; omega, by show k + 1 ≤ 1048576; omega⟩ ⟨by show (0 : Int) ≤ 0; omega, by show (0 : Int) ≤ 255; omega⟩ (by show (0 : Int) ≤ _; omega)
    (by show k = k + 1 - 1; omega)
    (fun j _ => by show (if j = 0 then k else 0) ≤ _; split <;> omega) (by
      by_cases h0 : k = 0
      · exact .inr fun j _ => hP h0 j
      · exact .inl (by show 1 < k + 1; omega)) rfl rfl rfl
theorem pcQ_hd (q : Nat) : hdB (pcQ q).hd.1 (pcQ q).hd.2 = true :=
  hdB_plain _ ⟨by show (1 : Int) ≤ 2; omega, by show (2 : Int) ≤ 6; omega⟩ ⟨by show (1 : Int) ≤ 1; omega, by show (1 : Int) ≤ 1048576; omega⟩ ⟨by show (0 : Int) ≤ 0; omega, by show (0 : Int) ≤ 255; omega⟩ (by show (0 : Int) ≤ _; omega) rfl
    (fun j _ => by show (0 : Int) ≤ _; omega) (.inr fun j _ => rfl) rfl rfl rfl
theorem whole_rep (p : Pc) (h1 : p.hd.1.sum = shaF p.bd) (h2 : ((p.bd.length : Nat) : Int) = p.hd.1.size) : wholeB p = true := by
  unfold wholeB
  rw [h1, arrB_self, decide_eq_true h2]
  rfl

structure FSt (w y : World) (gx : Nat) (G : Nat → Nat) (S : Nat → CSt) (k : Nat) (ah : Option Addr) (ch : Nat) (l : List Pc) : Prop where
  ix : IxAt y w.heap.size gx G S (k : Int)
  own : y.ownsRow w.heap.size 37 126 (.slice ah k ch) k (pisC l)
  len : l.length = k
  ll : (S 0).l.length = k
  bll : (S 0).bl.length = k
  oth : ∀ i, i ≠ 0 → S i = cst0
  tip : (S 0).T = tipF (l.map (·.hd))
  eq : ∀ j, j < k → HdEq ((S 0).l.getD j htN).1 (l.getD j pcN).hd.1 ((S 0).l.getD j htN).2 (l.getD j pcN).hd.2
  tnc : ∀ x ∈ (S 0).l, x.1.tn = 0
  pcs : ∀ x ∈ l, PcAt y x
  form : ∀ j, j < k → ∃ P q, l.getD j pcN = pcK (j : Int) P q ∧ ((j : Int) = 0 → ∀ i, P i = 0)
  no : ∀ b, (Value.slice ah k ch).ownBlock = some b → ¬ IxOwns gx G S b
  nob : ∀ x ∈ l, ∀ b off, x.ba = some ⟨b, off, none⟩ → ¬ IxOwns gx G S b ∧ some b ≠ (Value.slice ah k ch).ownBlock
  ext : Ext w y

section
variable {w y y' : World} {gx : Nat} {G : Nat → Nat} {S : Nat → CSt} {k : Nat} {ah : Option Addr} {ch : Nat} {l : List Pc}
theorem FSt.more (h : FSt w y gx G S k ah ch l) (he : Ext y y') : FSt w y' gx G S k ah ch l :=
  ⟨h.ix.ext he, own_ext9 h.own he, h.len, h.ll, h.bll, h.oth, h.tip, h.eq, h.tnc, fun x hx => (h.pcs x hx).ext he, h.form, h.no, h.nob, h.ext.trans he⟩
theorem FSt.begin (h : IxAt y w.heap.size gx G (fun _ => cst0) 0) (he : Ext w y) : FSt w y gx G (fun _ => cst0) 0 none 0 [] :=
  ⟨h, World.ownsRow_nil _ _ _ _, rfl, rfl, rfl, fun _ _ => rfl, rfl, fun j hj => by omega, fun x hx => (by cases hx), fun x hx => (by cases hx), fun j hj => by omega, fun b e => by simp [Value.ownBlock] at e, fun x hx => (by cases hx), he⟩
theorem FSt.modest (h : FSt w y gx G S k ah ch l) (hk : k ≤ 400) : Modest S := fun i hi => by
  by_cases h0 : i = 0
  · subst h0
    exact ⟨by rw [h.ll]; omega, by rw [h.bll]; omega, fun x hx => by rw [h.tnc x hx]; omega⟩
  · rw [h.oth i h0]
    exact ⟨Nat.zero_le _, Nat.zero_le _, fun x hx => (by cases hx)⟩
theorem FSt.ask (h : FSt w y gx G S k ah ch l) (hk : k < 400) (q : Nat) : ixAsk S (k : Int) (pcK (k : Int) (tipF (l.map (·.hd))) q) = 0 := by
  have hl : (l.map (·.hd)).length = k := by rw [List.length_map, h.len]
  have hh : hdB (pcK (k : Int) (tipF (l.map (·.hd))) q).hd.1 (pcK (k : Int) (tipF (l.map (·.hd))) q).hd.2 = true := pcK_hd (by omega) fun h0 j => by
    unfold tipF
    rw [if_pos (by omega)]
  unfold ixAsk
  rw [hh, whole_rep (pcK (k : Int) (tipF (l.map (·.hd))) q) rfl (by show (((rep80 0).length : Nat) : Int) = 80; rw [rep80_length]; rfl)]
  have h1 : askV (pcK (k : Int) (tipF (l.map (·.hd))) q).hd.1.writer (S 0).l (S 0).T (pcK (k : Int) (tipF (l.map (·.hd))) q).hd = 0 := by
    unfold askV
    have e1 : (pcK (k : Int) (tipF (l.map (·.hd))) q).hd.1.seq = (k : Int) + 1 := rfl
    have e2 : (pcK (k : Int) (tipF (l.map (·.hd))) q).hd.1.prev = tipF (l.map (·.hd)) := rfl
    rw [hh, if_neg (by simp), e1, e2, h.ll, if_neg (by omega), if_neg (by omega), h.tip, arrB_self]
    rfl
  show (if true = true then if askV (pcK (k : Int) (tipF (l.map (·.hd))) q).hd.1.writer (S 0).l (S 0).T (pcK (k : Int) (tipF (l.map (·.hd))) q).hd = 0 then _ else _ else _) = _
  rw [if_pos rfl, h1, if_pos rfl, if_pos rfl, if_neg (by omega)]
theorem FSt.askQ (h : FSt w y gx G S 400 ah ch l) (q : Nat) : ixAsk S 400 (pcQ q) = 4 ∧ ixAsk S 400 pcX = 2 := by
  have h1 : ∀ p : Pc, p.hd = (pcQ q).hd → askV p.hd.1.writer (S 1).l (S 1).T p.hd = 0 := fun p hp => by
    unfold askV
    rw [h.oth 1 (by omega), hp, pcQ_hd, if_neg (by show ¬ (true = false ∨ (2 : Int) ≠ 2); simp), if_neg (by show ¬ ((1 : Int) ≤ 1 ∧ (1 : Int) ≤ ((0 : Nat) : Int)); omega), if_neg (by show ¬ (((0 : Nat) : Int) + 1 < 1); omega)]
    have h2 : arrB 32 (pcQ q).hd.1.prev cst0.T = true := arrB_self 32 _
    rw [h2]
    rfl
  constructor
  · unfold ixAsk
    rw [pcQ_hd, whole_rep (pcQ q) rfl (by show (((rep80 0).length : Nat) : Int) = 80; rw [rep80_length]; rfl)]
    show (if true = true then if askV (pcQ q).hd.1.writer (S 1).l (S 1).T (pcQ q).hd = 0 then _ else _ else _) = _
    rw [if_pos rfl, h1 _ rfl, if_pos rfl, if_pos rfl, if_pos (by omega)]
  · unfold ixAsk
    have e : pcX.hd = (pcQ q).hd := rfl
    have hw : wholeB pcX = false := by
      unfold wholeB
      rw [decide_eq_false (by show ¬ ((0 : Nat) : Int) = 80; omega)]
      rfl
    rw [show hdB pcX.hd.1 pcX.hd.2 = true from pcQ_hd q, hw]
    show (if true = true then if askV pcX.hd.1.writer (S 1).l (S 1).T pcX.hd = 0 then _ else _ else _) = _
    rw [if_pos rfl, h1 _ e, if_pos rfl]
    rfl
theorem FSt.askOld (h : FSt w y gx G S 400 ah ch l) (j : Nat) (hj : j < 400) : ixAsk S 400 (l.getD j pcN) = 13 := by
  obtain ⟨P, q, hp, hP⟩ := h.form j hj
  have heq := h.eq j hj
  rw [hp] at heq ⊢
  have hh : hdB (pcK (j : Int) P q).hd.1 (pcK (j : Int) P q).hd.2 = true := pcK_hd (by omega) hP
  unfold ixAsk
  have hl : ((S 0).l.getD j htN).2.length = ((S 0).l.getD j htN).1.tn := by
    rw [List.getD_eq_getElem?_getD, List.getElem?_eq_getElem (by rw [h.ll]; exact hj)]
    exact ((h.ix.ch 0 (by omega)).each _ (List.getElem_mem _)).toks.len
  have h1 : askV (pcK (j : Int) P q).hd.1.writer (S 0).l (S 0).T (pcK (j : Int) P q).hd = 13 := by
    unfold askV
    have e1 : (pcK (j : Int) P q).hd.1.seq = (j : Int) + 1 := rfl
    rw [hh, if_neg (by simp), e1, h.ll, if_pos (by omega), show ((j : Int) + 1).toNat - 1 = j by omega, (sameB_iff hl rfl).2 heq]
    rfl
  rw [hh]
  show (if true = true then if askV (pcK (j : Int) P q).hd.1.writer (S 0).l (S 0).T (pcK (j : Int) P q).hd = 0 then _ else askV (pcK (j : Int) P q).hd.1.writer (S 0).l (S 0).T (pcK (j : Int) P q).hd else _) = _
  rw [if_pos rfl, h1]
  rfl
theorem PcAt.blk {y y' : World} {p : Pc} (h : PcAt y p) (ht : p.hd.1.tn = 0) (hb : ∀ b off, p.ba = some ⟨b, off, none⟩ → b < y.heap.size → y'.heap[b]? = y.heap[b]?) : PcAt y' p :=
  ⟨⟨h.hd.ok, h.hd.toks.blk fun h0 => by omega⟩, h.body.blk fun _ b off e hb2 => hb b off e hb2, h.room⟩
theorem FSt.push {y1 y2 y3 : World} {S2 : Nat → CSt} {q : Nat} {P : Nat → Int} {ta : Option Addr} {tc : Nat} {qa : Option Addr} {qc : Nat} {i : Nat} {a3 : Option Addr} {c3 : Nat} (h : FSt w y gx G S k ah ch l) (hk : k < 400) (hp : PutIn y y1 w.heap.size gx G S S2 (k : Int) (pcK (k : Int) P q) i ta tc qa qc) (hP : (k : Int) = 0 → ∀ j, P j = 0)
    (he : Ext y1 y2) (hpc : PcAt y (pcK (k : Int) P q)) (hq : ¬ IxOwns gx G S q) (hq2 : some q ≠ (Value.slice ah k ch).ownBlock) (hql : q < y.heap.size)
    (ho : y3.ownsRow w.heap.size 37 126 (.slice a3 (k + 1) c3) (k + 1) (pisC (l ++ [pcK (k : Int) P q]))) (hG : y2.grownBy y3 (Value.slice ah k ch).ownBlock)
    (hw : (Value.slice a3 (k + 1) c3).ownBlock = (Value.slice ah k ch).ownBlock ∨ (Value.slice a3 (k + 1) c3).ownBlock = some y2.heap.size) : FSt w y3 gx G S2 (k + 1) a3 c3 (l ++ [pcK (k : Int) P q]) := by
  have hi0 : i = 0 := by
    have h1 := hp.wr
    have h2 : (pcK (k : Int) P q).hd.1.writer = 1 := rfl
    omega
  subst hi0
  have hE1 : Ext w y1 := Below.trans h.ext (hp.kp.below h.ix (Below.size h.ext))
  have hsz01 := hp.kp.size
  have hsz12 := Below.size he
  have hsz23 := hG.size
  have hown_lt : ∀ b, (Value.slice ah k ch).ownBlock = some b → b < y.heap.size := fun b e => (h.own.lt b e).2
  have no2 : ∀ b, (Value.slice ah k ch).ownBlock = some b → ¬ IxOwns gx G S2 b := fun b e ho => by
    rcases hp.owns b ho with h1 | h1
    · exact h.no b e h1
    · have := hown_lt b e
      omega
  have hix3 : IxAt y3 w.heap.size gx G S2 ((k + 1 : Nat) : Int) := by
    have h2 := hp.ix.ext he
    refine h2.frame hsz23 fun b hb ho => hG.block b hb fun e => no2 b e.symm ho
  have hpc3 : ∀ x : Pc, PcAt y x → x.hd.1.tn = 0 → (∀ b off, x.ba = some ⟨b, off, none⟩ → ¬ IxOwns gx G S b ∧ some b ≠ (Value.slice ah k ch).ownBlock) → PcAt y3 x := fun x hx ht hb =>
    hx.blk ht fun b off e hb2 => by
      rw [hG.block b (by omega) (hb b off e).2, he.block (by omega), hp.kp.block b hb2 (IxOwns.far (hb b off e).1)]
  have hl : (l ++ [pcK (k : Int) P q]).length = k + 1 := by rw [List.length_append, h.len]; rfl
  have tn0 : ∀ x ∈ l, x.hd.1.tn = 0 := fun x hx => by
    obtain ⟨j, hj, rfl⟩ := List.getElem_of_mem hx
    obtain ⟨P, q, hp, _⟩ := h.form j (by rw [← h.len]; exact hj)
    rw [List.getD_eq_getElem?_getD, List.getElem?_eq_getElem hj] at hp
    have hp' : l[j] = pcK (j : Int) P q := hp
    rw [hp']
    rfl
  have nnew : ∀ b, (Value.slice a3 (k + 1) c3).ownBlock = some b → (Value.slice ah k ch).ownBlock = some b ∨ y2.heap.size ≤ b := fun b e => by
    rcases hw with h1 | h1
    · exact .inl (h1 ▸ e)
    · rw [h1] at e
      exact .inr (by have := Option.some.inj e; omega)
  refine ⟨hix3, ho, hl, by rw [hp.l, List.length_append, h.ll]; rfl, by rw [hp.bl, List.length_append, h.bll]; rfl, fun i hi => by rw [hp.ne i hi]; exact h.oth i hi, ?_, fun j hj => ?_, fun x hx => ?_, fun x hx => ?_, fun j hj => ?_, fun b e ho2 => ?_, fun x hx b off e => ?_, ?_⟩
  · rw [hp.T, List.map_append, List.map_cons, List.map_nil, tipF_snoc]
  · rw [hp.l]
    by_cases h1 : j < k
    · rw [List.getD_eq_getElem?_getD, List.getElem?_append_left (by rw [h.ll]; exact h1), List.getD_eq_getElem?_getD, List.getElem?_append_left (by rw [h.len]; exact h1), ← List.getD_eq_getElem?_getD, ← List.getD_eq_getElem?_getD]
      exact h.eq j h1
    · obtain rfl : j = k := by omega
      rw [List.getD_eq_getElem?_getD, List.getElem?_append_right (by rw [h.ll]; exact Nat.le_refl _), List.getD_eq_getElem?_getD, List.getElem?_append_right (by rw [h.len]; exact Nat.le_refl _), h.ll, h.len, Nat.sub_self]
      exact reT_eq _ ta tc
  · rw [hp.l] at hx
    rcases List.mem_append.1 hx with h1 | h1
    · exact h.tnc x h1
    · obtain rfl := List.mem_singleton.1 h1
      rfl
  · rcases List.mem_append.1 hx with h1 | h1
    · exact hpc3 x (h.pcs x h1) (tn0 x h1) (h.nob x h1)
    · obtain rfl := List.mem_singleton.1 h1
      exact hpc3 _ hpc rfl fun b off e => by
        have e' : (some ⟨q, 0, none⟩ : Option Addr) = some ⟨b, off, none⟩ := e
        simp only [Option.some.injEq, Addr.mk.injEq, and_true] at e'
        obtain ⟨rfl, _⟩ := e'
        exact ⟨hq, hq2⟩
  · by_cases h1 : j < k
    · rw [List.getD_eq_getElem?_getD, List.getElem?_append_left (by rw [h.len]; exact h1), ← List.getD_eq_getElem?_getD]
      exact h.form j h1
    · obtain rfl : j = k := by omega
      refine ⟨P, q, ?_, hP⟩
      rw [List.getD_eq_getElem?_getD, List.getElem?_append_right (by rw [h.len]; exact Nat.le_refl _), h.len, Nat.sub_self]
      rfl
  · rcases nnew b e with h1 | h1
    · exact no2 b h1 ho2
    · have := IxOwns.lt (hp.ix.ext he) ho2
      omega
  · have key : ¬ IxOwns gx G S b ∧ some b ≠ (Value.slice ah k ch).ownBlock ∧ b < y.heap.size := by
      rcases List.mem_append.1 hx with h1 | h1
      · refine ⟨(h.nob x h1 b off e).1, (h.nob x h1 b off e).2, ?_⟩
        obtain ⟨j, hj, rfl⟩ := List.getElem_of_mem h1
        obtain ⟨P, q, hp, _⟩ := h.form j (by rw [← h.len]; exact hj)
        rw [List.getD_eq_getElem?_getD, List.getElem?_eq_getElem hj] at hp
        have hp' : l[j] = pcK (j : Int) P q := hp
        obtain ⟨b', off', e', hc⟩ := (h.pcs _ h1).body.at_ (by rw [hp']; show 0 < (rep80 0).length; rw [rep80_length]; omega)
        rw [e] at e'
        simp only [Option.some.injEq, Addr.mk.injEq, and_true] at e'
        obtain ⟨rfl, rfl⟩ := e'
        exact World.block_lt_of_cell? _ _ (hc 0 (by rw [hp']; show 0 < (rep80 0).length; rw [rep80_length]; omega))
      · obtain rfl := List.mem_singleton.1 h1
        have e' : (some ⟨q, 0, none⟩ : Option Addr) = some ⟨b, off, none⟩ := e
        simp only [Option.some.injEq, Addr.mk.injEq, and_true] at e'
        obtain ⟨rfl, _⟩ := e'
        exact ⟨hq, hq2, hql⟩
    refine ⟨fun ho2 => ?_, fun e2 => ?_⟩
    · rcases hp.owns b ho2 with h1 | h1
      · exact key.1 h1
      · omega
    · rcases nnew b e2.symm with h1 | h1
      · exact key.2.1 h1.symm
      · omega
  · exact (hE1.trans he).grown hG (Below.size (hE1.trans he)) fun b e => (h.own.lt b e).1
end

end Go.Proofs.YtihlpfdhallfpaaDoor
