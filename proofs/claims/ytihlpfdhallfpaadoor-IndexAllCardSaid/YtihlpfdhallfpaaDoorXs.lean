/-
  An index and the reference's beside it: what is kept from piece to piece. No conditions.
-/
import Derived.Test.YtihlpfdhallfpaaDoorRxP
import Derived.Test.YtihlpfdhallfpaaDoorAwk20
import Derived.Test.YtihlpfdhallfpaaDoorIxG
namespace Go.Proofs.YtihlpfdhallfpaaDoor
open Go.ChangeShapes Go.WideShapes Go.ChangeAt Go.RowKit

theorem askV_cg {wv : Int} {lc lh : List HT} {T : Nat → Int} {y : HT} (hl : lc.length = lh.length) (he : ∀ i, i < lc.length → HdEq (lc.getD i htN).1 (lh.getD i htN).1 (lc.getD i htN).2 (lh.getD i htN).2)
    (h1 : ∀ z ∈ lc, z.2.length = z.1.tn) (h2 : ∀ z ∈ lh, z.2.length = z.1.tn) (hy : y.2.length = y.1.tn) : askV wv lc T y = askV wv lh T y := by
  unfold askV
  rw [hl]
  by_cases hin : 1 ≤ y.1.seq ∧ y.1.seq ≤ (lh.length : Int)
  · have mem : ∀ (l : List HT) i, i < l.length → l.getD i htN ∈ l := fun l i hi => by
      rw [List.getD_eq_getElem?_getD, List.getElem?_eq_getElem hi]
      exact List.getElem_mem _
    have hi : y.1.seq.toNat - 1 < lc.length := by omega
    have e1 := he _ hi
    have hs : sameB (lc.getD (y.1.seq.toNat - 1) htN).1 y.1 (lc.getD (y.1.seq.toNat - 1) htN).2 y.2 = sameB (lh.getD (y.1.seq.toNat - 1) htN).1 y.1 (lh.getD (y.1.seq.toNat - 1) htN).2 y.2 := by
      rw [Bool.eq_iff_iff, sameB_iff (h1 _ (mem lc _ hi)) hy, sameB_iff (h2 _ (mem lh _ (by omega))) hy]
      exact ⟨fun q => e1.symm.trans q, fun q => e1.trans q⟩
    rw [hs]
  · rw [if_neg hin, if_neg hin]

/-- Memory: the two, apart from one another. -/
structure XMem (w y : World) (gx : Nat) (G : Nat → Nat) (S : Nat → CSt) (gr : Nat) (R : Nat → Option Addr × Nat) (L : Nat → List Pc) (cnt : Nat) : Prop where
  ix : IxAt y w.heap.size gx G S (cnt : Int)
  ri : RIx y w.heap.size gr R L
  dis : ∀ b, ROwns gr R L b → ¬ IxOwns gx G S b
  src : ∀ i, i < 6 → ∀ x ∈ L i, ∀ b, PcBlk x b → ¬ IxOwns gx G S b
  hi : ∀ b, IxOwns gx G S b → w.heap.size ≤ b
  ext : Ext w y
/-- What they say. -/
structure XRel (S : Nat → CSt) (L : Nat → List Pc) (cnt : Nat) : Prop where
  cnt : rxSum L 6 = cnt
  ll : ∀ i, i < 6 → (S i).l.length = (L i).length
  bl : ∀ i, i < 6 → (S i).bl.length = (L i).length
  T : ∀ i, i < 6 → (S i).T = tipF ((L i).map (·.hd))
  eq : ∀ i, i < 6 → ∀ j, j < (L i).length → HdEq ((S i).l.getD j htN).1 ((L i).getD j pcN).hd.1 ((S i).l.getD j htN).2 ((L i).getD j pcN).hd.2 ∧ ((S i).bl.getD j bdN).1 = ((L i).getD j pcN).bd
  form : ∀ i, i < 6 → ∀ x ∈ L i, hdB x.hd.1 x.hd.2 = true
  tnc : ∀ i, i < 6 → ∀ x ∈ (S i).l, x.1.tn ≤ 1000000
  bdc : ∀ i, i < 6 → ∀ x ∈ (S i).bl, x.1.length ≤ 549755813888
  good : ∀ i, i < 6 → ∀ j, j < (L i).length → wholeB ((L i).getD j pcN) = true ∧ ((L i).getD j pcN).hd.1.writer = (i : Int) + 1 ∧ ((L i).getD j pcN).hd.1.seq = (j : Int) + 1

section
variable {w y y1 : World} {gx : Nat} {G : Nat → Nat} {S S2 : Nat → CSt} {gr : Nat} {R : Nat → Option Addr × Nat} {L : Nat → List Pc} {cnt : Nat}
theorem XMem.more (h : XMem w y gx G S gr R L cnt) (he : Ext y y1) : XMem w y1 gx G S gr R L cnt := ⟨h.ix.ext he, h.ri.ext he, h.dis, h.src, h.hi, h.ext.trans he⟩
theorem XMem.newI (h : XMem w y gx G S gr R L cnt) {b : Nat} (hb : y.heap.size ≤ b) : ¬ IxOwns gx G S b := fun ho => by
  have := IxOwns.lt h.ix ho
  omega
theorem XMem.newR (h : XMem w y gx G S gr R L cnt) {b : Nat} (hb : y.heap.size ≤ b) : ¬ ROwns gr R L b := fun ho => by
  have := (h.ri.lt ho).2
  omega
theorem XMem.oldI (h : XMem w y gx G S gr R L cnt) {b : Nat} (hb : b < w.heap.size) : ¬ IxOwns gx G S b := fun ho => by
  have := h.hi b ho
  omega
theorem XMem.oldR (h : XMem w y gx G S gr R L cnt) {b : Nat} (hb : b < w.heap.size) : ¬ ROwns gr R L b := fun ho => by
  have := (h.ri.lt ho).1
  omega
theorem XMem.rput {p : Pc} (h : XMem w y gx G S gr R L cnt) (hp : PcAt y p) (hn : ∀ b, PcBlk p b → ¬ IxOwns gx G S b) (hr : RPut y y1 w.heap.size gr R L p) :
    ∃ (i : Nat) (s : Option Addr × Nat), i < 6 ∧ p.hd.1.writer = (i : Int) + 1 ∧ XMem w y1 gx G S gr (upR R i s) (upL L i (L i ++ [p])) cnt ∧ Kp y y1 (fun k => ¬ ROwns gr R L k) := by
  obtain ⟨i, s, hi, hw, hri, hown, hk⟩ := hr
  refine ⟨i, s, hi, hw, ⟨?_, hri, fun b hb ho => ?_, fun j hj x hx b hb => ?_, h.hi, ?_⟩, hk⟩
  · exact h.ix.frame hk.size fun b hb ho => hk.block b hb fun hr => h.dis b hr ho
  · rcases hown b hb with q | q
    · exact h.dis b q ho
    · exact h.newI q ho
  · by_cases hji : j = i
    · subst hji
      rw [upL_at] at hx
      rcases List.mem_append.1 hx with q | q
      · exact h.src j hj x q b hb
      · obtain rfl := List.mem_singleton.1 q
        exact hn b hb
    · rw [upL_ne _ hji] at hx
      exact h.src j hj x hx b hb
  · exact Below.trans h.ext ⟨hk.os, hk.tape, hk.output, hk.size, fun k hl => hk.block k (by have := Below.size h.ext; omega) (h.oldR hl)⟩
theorem XMem.xput {p : Pc} {i : Nat} {ta : Option Addr} {tc : Nat} {qa : Option Addr} {qc : Nat} (h : XMem w y gx G S gr R L cnt) (hin : PutIn y y1 w.heap.size gx G S S2 (cnt : Int) p i ta tc qa qc) : XMem w y1 gx G S2 gr R L (cnt + 1) := by
  have kp : ∀ b, b < y.heap.size → ¬ IxOwns gx G S b → y1.heap[b]? = y.heap[b]? := fun b hb hn => hin.kp.block b hb (IxOwns.far hn)
  refine ⟨hin.ix, ?_, fun b hb ho => ?_, fun j hj x hx b hb ho => ?_, fun b ho => ?_, Below.trans h.ext (hin.kp.below h.ix (Below.size h.ext))⟩
  · refine h.ri.frame hin.kp.size fun b hb hor => kp b hb ?_
    rcases hor with q | ⟨j, hj, x, hx, q⟩
    · exact h.dis b q
    · exact h.src j hj x hx b q
  · rcases hin.owns b ho with q | q
    · exact h.dis b hb q
    · have := (h.ri.lt hb).2
      omega
  · rcases hin.owns b ho with q | q
    · exact h.src j hj x hx b hb q
    · have := PcBlk.lt (h.ri.pcs j hj x hx) hb
      omega
  · rcases hin.owns b ho with q | q
    · exact h.hi b q
    · have := Below.size h.ext
      omega
theorem XRel.modest (h : XRel S L cnt) (hc : cnt ≤ 400) : Modest S := by
  have hs : ∀ k, k ≤ 6 → ∀ i, i < k → (L i).length ≤ rxSum L k := fun k => by
    induction k with
    | zero => intro _ i hi; omega
    | succ k ih =>
      intro hk i hi
      show (L i).length ≤ rxSum L k + (L k).length
      by_cases h1 : i = k
      · rw [h1]; omega
      · have := ih (by omega) i (by omega)
        omega
  intro i hi
  have h1 := hs 6 (Nat.le_refl _) i hi
  rw [h.cnt] at h1
  exact ⟨by rw [h.ll i hi]; omega, by rw [h.bl i hi]; omega, h.tnc i hi⟩
theorem XRel.small (h : XRel S L cnt) (hc : cnt ≤ 400) (i : Nat) (hi : i < 6) : (L i).length ≤ 1000 := by
  rw [← h.ll i hi]
  exact (h.modest hc i hi).1
theorem XRel.even (h : XRel S L cnt) : Even S := fun i hi => ⟨by rw [h.bl i hi, h.ll i hi], h.bdc i hi⟩
theorem XRel.ask (h : XRel S L cnt) (h2 : XMem w y gx G S gr R L cnt) (p : Pc) (hp : p.hd.2.length = p.hd.1.tn) : ixAsk S (cnt : Int) p = rxAsk L p := by
  unfold ixAsk rxAsk
  cases hF : hdB p.hd.1 p.hd.2 with
  | false => rfl
  | true =>
    have hbd := (hdB_bd hF).1
    obtain ⟨i, hiw, hi⟩ : ∃ i : Nat, (p.hd.1.writer - 1).toNat = i ∧ i < 6 := ⟨_, rfl, by omega⟩
    rw [hiw, h.cnt, h.T i hi, askV_cg (lc := (S i).l) (lh := (L i).map (·.hd)) (by rw [List.length_map, h.ll i hi]) (fun j hj => ?_) (fun z hz => ((h2.ix.ch i hi).each z hz).toks.len) (fun z hz => ?_) hp]
    · rw [h.ll i hi] at hj
      have h1 := (h.eq i hi j hj).1
      have e : ((L i).map (·.hd)).getD j htN = ((L i).getD j pcN).hd := by
        rw [List.getD_eq_getElem?_getD, List.getElem?_map, List.getD_eq_getElem?_getD, List.getElem?_eq_getElem hj]
        rfl
      rw [e]
      exact h1
    · obtain ⟨x, hx, rfl⟩ := List.mem_map.1 hz
      exact (h2.ri.pcs i hi x hx).hd.toks.len
theorem rxSum_up (L : Nat → List Pc) (i : Nat) (x : Pc) : ∀ k, rxSum (upL L i (L i ++ [x])) k = rxSum L k + (if i < k then 1 else 0)
  | 0 => rfl
  | k + 1 => by
    show rxSum (upL L i (L i ++ [x])) k + (upL L i (L i ++ [x]) k).length = rxSum L k + (L k).length + _
    rw [rxSum_up L i x k]
    by_cases h1 : k = i
    · subst h1
      rw [upL_at, List.length_append, if_neg (by omega), if_pos (by omega)]
      show _ + ((L k).length + 1) = _
      omega
    · rw [upL_ne _ h1]
      by_cases h2 : i < k
      · rw [if_pos h2, if_pos (by omega)]
        omega
      · rw [if_neg h2, if_neg (by omega)]
        omega
theorem XRel.put {p : Pc} {i : Nat} {ta : Option Addr} {tc : Nat} {qa : Option Addr} {qc : Nat} {c : Int} {B : Nat} (h : XRel S L cnt) (hin : PutIn y y1 B gx G S S2 c p i ta tc qa qc) (hf : hdB p.hd.1 p.hd.2 = true) (htn : p.hd.1.tn ≤ 1000000) (hbd : p.bd.length ≤ 549755813888) (hgd : wholeB p = true ∧ p.hd.1.seq = ((L i).length : Int) + 1) : XRel S2 (upL L i (L i ++ [p])) (cnt + 1) := by
  have hi := hin.lt
  have hs : ∀ j, j ≠ i → S2 j = S j := hin.ne
  refine ⟨by rw [rxSum_up, h.cnt, if_pos hi], fun j hj => ?_, fun j hj => ?_, fun j hj => ?_, fun j hj k hk => ?_, fun j hj x hx => ?_, fun j hj x hx => ?_, fun j hj x hx => ?_, fun j hj k hk => ?_⟩
  · by_cases e : j = i
    · subst e
      rw [hin.l, upL_at, List.length_append, List.length_append, h.ll j hj]
      rfl
    · rw [hs j e, upL_ne _ e, h.ll j hj]
  · by_cases e : j = i
    · subst e
      rw [hin.bl, upL_at, List.length_append, List.length_append, h.bl j hj]
      rfl
    · rw [hs j e, upL_ne _ e, h.bl j hj]
  · by_cases e : j = i
    · subst e
      rw [hin.T, upL_at, List.map_append, List.map_cons, List.map_nil, tipF_snoc]
    · rw [hs j e, upL_ne _ e, h.T j hj]
  · by_cases e : j = i
    · subst e
      rw [upL_at, List.length_append] at hk
      rw [hin.l, hin.bl, upL_at]
      by_cases h1 : k < (L j).length
      · have g1 : ((S j).l ++ [reT p.hd ta tc]).getD k htN = (S j).l.getD k htN := by
          rw [List.getD_eq_getElem?_getD, List.getElem?_append_left (by rw [h.ll j hj]; exact h1), ← List.getD_eq_getElem?_getD]
        have g2 : ((S j).bl ++ [(p.bd, qa, qc)]).getD k bdN = (S j).bl.getD k bdN := by
          rw [List.getD_eq_getElem?_getD, List.getElem?_append_left (by rw [h.bl j hj]; exact h1), ← List.getD_eq_getElem?_getD]
        have g3 : ((L j) ++ [p]).getD k pcN = (L j).getD k pcN := by
          rw [List.getD_eq_getElem?_getD, List.getElem?_append_left h1, ← List.getD_eq_getElem?_getD]
        rw [g1, g2, g3]
        exact h.eq j hj k h1
      · obtain rfl : k = (L j).length := by simp at hk; omega
        have g1 : ((S j).l ++ [reT p.hd ta tc]).getD (L j).length htN = reT p.hd ta tc := by
          rw [List.getD_eq_getElem?_getD, List.getElem?_append_right (by rw [h.ll j hj]; exact Nat.le_refl _), h.ll j hj, Nat.sub_self]
          rfl
        have g2 : ((S j).bl ++ [(p.bd, qa, qc)]).getD (L j).length bdN = (p.bd, qa, qc) := by
          rw [List.getD_eq_getElem?_getD, List.getElem?_append_right (by rw [h.bl j hj]; exact Nat.le_refl _), h.bl j hj, Nat.sub_self]
          rfl
        have g3 : ((L j) ++ [p]).getD (L j).length pcN = p := by
          rw [List.getD_eq_getElem?_getD, List.getElem?_append_right (Nat.le_refl _), Nat.sub_self]
          rfl
        rw [g1, g2, g3]
        exact ⟨reT_eq p.hd ta tc, rfl⟩
    · rw [upL_ne _ e] at hk ⊢
      rw [hs j e]
      exact h.eq j hj k hk
  · by_cases e : j = i
    · subst e
      rw [upL_at] at hx
      rcases List.mem_append.1 hx with q | q
      · exact h.form j hj x q
      · obtain rfl := List.mem_singleton.1 q
        exact hf
    · rw [upL_ne _ e] at hx
      exact h.form j hj x hx
  · by_cases e : j = i
    · subst e
      rw [hin.l] at hx
      rcases List.mem_append.1 hx with q | q
      · exact h.tnc j hj x q
      · obtain rfl := List.mem_singleton.1 q
        exact htn
    · rw [hs j e] at hx
      exact h.tnc j hj x hx
  · by_cases e : j = i
    · subst e
      rw [hin.bl] at hx
      rcases List.mem_append.1 hx with q | q
      · exact h.bdc j hj x q
      · obtain rfl := List.mem_singleton.1 q
        exact hbd
    · rw [hs j e] at hx
      exact h.bdc j hj x hx
  · by_cases e : j = i
    · subst e
      rw [upL_at, List.length_append] at hk
      rw [upL_at]
      by_cases h1 : k < (L j).length
      · have g3 : ((L j) ++ [p]).getD k pcN = (L j).getD k pcN := by
          rw [List.getD_eq_getElem?_getD, List.getElem?_append_left h1, ← List.getD_eq_getElem?_getD]
        rw [g3]
        exact h.good j hj k h1
      · obtain rfl : k = (L j).length := by simp at hk; omega
        have g3 : ((L j) ++ [p]).getD (L j).length pcN = p := by
          rw [List.getD_eq_getElem?_getD, List.getElem?_append_right (Nat.le_refl _), Nat.sub_self]
          rfl
        rw [g3]
        exact ⟨hgd.1, hin.wr, hgd.2⟩
    · rw [upL_ne _ e] at hk ⊢
      exact h.good j hj k hk
theorem XMem.begin {gr : Nat} (h : IxAt y w.heap.size gx G (fun _ => cst0) 0) (hr : y.rowIs gr 54 6 (fun _ => .slice none 0 0)) (hg : w.heap.size ≤ gr) (hn : ∀ s, s < 19 → ixP gx G (fun _ => cst0) s ≠ some gr) (he : Ext w y) : XMem w y gx G (fun _ => cst0) gr (fun _ => (none, 0)) (fun _ => []) 0 := by
  have hro : ∀ b, ROwns gr (fun _ => ((none : Option Addr), (0 : Nat))) (fun _ => ([] : List Pc)) b → b = gr := fun b hb => by
    rcases hb with q | ⟨i, _, q⟩
    · exact q
    · cases q
  refine ⟨h, ⟨hr, fun i _ => World.ownsRow_nil _ _ _ _, fun i _ x hx => (by cases hx), hg, fun i _ e => (by cases e), fun i j _ _ _ k e => (by cases e), fun i _ x hx => (by cases hx)⟩, fun b hb ho => ?_, fun i _ x hx => (by cases hx), fun b ho => ?_, he⟩
  · obtain rfl := hro b hb
    obtain ⟨s, hs, e⟩ := ixOwns_cst0 ho
    exact hn s hs e
  · obtain ⟨s, hs, e⟩ := ixOwns_cst0 ho
    exact (h.lt s hs b e).1
theorem XRel.begin : XRel (fun _ => cst0) (fun _ => []) 0 :=
  ⟨rfl, fun _ _ => rfl, fun _ _ => rfl, fun _ _ => rfl, fun _ _ j hj => absurd hj (Nat.not_lt_zero _), fun _ _ x hx => (by cases hx), fun _ _ x hx => (by cases hx), fun _ _ x hx => (by cases hx), fun _ _ j hj => absurd hj (Nat.not_lt_zero _)⟩
end

end Go.Proofs.YtihlpfdhallfpaaDoor
