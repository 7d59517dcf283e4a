/-
  Batches of an index and of the reference's: piece by piece the same. Plain. No conditions.
-/
import Derived.Test.YtihlpfdhallfpaaDoorRefBatch
import Derived.Test.YtihlpfdhallfpaaDoorFilled
namespace Go.Proofs.YtihlpfdhallfpaaDoor
open Go.ChangeShapes Go.WideShapes Go.ChangeAt Go.RowKit

theorem inB_get (ts : List (Nat → Int)) (t : Nat → Int) : inB ts t = true ↔ ∃ i, i < ts.length ∧ ∀ j, j < 16 → (ts.getD i fun _ => 0) j = t j := by
  unfold inB
  rw [List.any_eq_true]
  constructor
  · rintro ⟨x, hx, h⟩
    obtain ⟨i, hi⟩ := List.getElem?_of_mem hx
    refine ⟨i, (List.getElem?_eq_some_iff.1 hi).1, ?_⟩
    rw [List.getD_eq_getElem?_getD, hi]
    exact of_decide_eq_true h
  · rintro ⟨i, hi, h⟩
    refine ⟨ts[i], List.getElem_mem _, ?_⟩
    rw [List.getD_eq_getElem?_getD, List.getElem?_eq_getElem hi] at h
    exact decide_eq_true h
theorem meets_eq {h g : Hd} {us vs : List (Nat → Int)} (e : HdEq h g us vs) (h1 : us.length = h.tn) (h2 : vs.length = g.tn) (al : Bool) (ts : List (Nat → Int)) : meetsB al ts us h.ctl = meetsB al ts vs g.ctl := by
  have hin : ∀ t, inB us t = inB vs t := fun t => by
    rw [Bool.eq_iff_iff, inB_get, inB_get]
    have ht := e.tn
    constructor
    · rintro ⟨i, hi, k⟩
      exact ⟨i, by omega, fun j hj => (e.toks i (by omega) j hj).symm.trans (k j hj)⟩
    · rintro ⟨i, hi, k⟩
      exact ⟨i, by omega, fun j hj => (e.toks i (by omega) j hj).trans (k j hj)⟩
  unfold meetsB meetB
  rw [e.ctl]
  congr 1
  exact congrArg (fun f => ts.any f) (funext hin)
theorem cut_eq {p q : Pc} (h : PcEq p q) (h1 : p.hd.2.length = p.hd.1.tn) (h2 : q.hd.2.length = q.hd.1.tn) (al : Bool) (ts : List (Nat → Int)) : PcEq (cutP al ts p) (cutP al ts q) := by
  unfold cutP
  rw [meets_eq h.hd h1 h2 al ts]
  split
  · exact h
  · exact ⟨rfl, h.hd⟩
theorem lvlTo_mem {len cu : Nat → Nat} {k i : Nat} {q : Nat × Nat} (hk : 0 < k) (h : q ∈ lvlTo len cu k i) : q.1 < i ∧ q.2 < len q.1 := by
  unfold lvlTo at h
  obtain ⟨j, hj, rfl⟩ := List.mem_map.1 h
  obtain ⟨h1, h2⟩ := List.mem_filter.1 hj
  have h3 := of_decide_eq_true h2
  have h4 := List.mem_range.1 h1
  exact ⟨h4, by show cu j + k - 1 < len j; omega⟩
theorem allB_mem {len cu : Nat → Nat} {q : Nat × Nat} (h : q ∈ allB len cu) : q.1 < 6 ∧ q.2 < len q.1 := by
  unfold allB preB at h
  obtain ⟨k, _, hk⟩ := List.mem_flatMap.1 h
  exact lvlTo_mem (by omega) hk
theorem allB_congr {len len' cu : Nat → Nat} (h : ∀ i, i < 6 → len i = len' i) : allB len cu = allB len' cu := by
  unfold allB preB
  refine congrArg (fun f => (List.range 401).flatMap f) (funext fun k => ?_)
  unfold lvlTo
  congr 1
  refine List.filter_congr fun j hj => ?_
  rw [h j (List.mem_range.1 hj)]
theorem got_eq {S : Nat → CSt} {L : Nat → List Pc} {cnt : Nat} (hR : XRel S L cnt) {q : Nat × Nat} {p : Pc} (hq : q.1 < 6) (hq2 : q.2 < (L q.1).length) (h : IsGot S q p) : PcEq p ((L q.1).getD q.2 pcN) := by
  obtain ⟨a', c', a, c, rfl⟩ := h
  obtain ⟨h1, h2⟩ := hR.eq q.1 hq q.2 hq2
  exact ⟨h2, (reT_eq _ a' c').trans h1⟩
theorem getD_mem {α : Type} {l : List α} {i : Nat} (d : α) (h : i < l.length) : l.getD i d ∈ l := by
  rw [List.getD_eq_getElem?_getD, List.getElem?_eq_getElem h]
  exact List.getElem_mem _
/-- Piece by piece a batch is the reference's. -/
theorem batch_eq {w y : World} {gx : Nat} {G : Nat → Nat} {S : Nat → CSt} {gr : Nat} {R : Nat → Option Addr × Nat} {L : Nat → List Pc} {cnt : Nat} (hM : XMem w y gx G S gr R L cnt) (hR : XRel S L cnt) {cu : Nat → Nat} {al : Bool} {ts : List (Nat → Int)} {T : Nat} {ps ps' : List Pc}
    (h1 : ps.length = ((allB (lenS S) cu).take T).length) (h2 : ∀ j, j < ((allB (lenS S) cu).take T).length → CutIs S al ts (((allB (lenS S) cu).take T).getD j (0, 0)) (ps.getD j pcZ)) (h3 : ps' = ((allB (lenL L) cu).take T).map (refP L al ts)) :
    ps.length = ps'.length ∧ ∀ j, j < ps.length → PcEq (ps.getD j pcN) (ps'.getD j pcN) := by
  have e : allB (lenL L) cu = allB (lenS S) cu := allB_congr fun i hi => (hR.ll i hi).symm
  rw [e] at h3
  have hl : ps'.length = ps.length := by rw [h3, List.length_map, h1]
  refine ⟨hl.symm, fun j hj => ?_⟩
  have hj2 : j < ((allB (lenS S) cu).take T).length := by omega
  obtain ⟨p0, hg, hc⟩ := h2 j hj2
  obtain ⟨q, hq⟩ : ∃ z, ((allB (lenS S) cu).take T).getD j (0, 0) = z := ⟨_, rfl⟩
  rw [hq] at hg
  have hm : q ∈ allB (lenS S) cu := List.mem_of_mem_take (by rw [← hq]; exact getD_mem _ hj2)
  obtain ⟨hq1, hq2⟩ := allB_mem hm
  have hq3 : q.2 < (L q.1).length := by rw [← hR.ll q.1 hq1]; exact hq2
  have e1 : ps.getD j pcN = cutP al ts p0 := by
    rw [← hc, List.getD_eq_getElem?_getD, List.getD_eq_getElem?_getD, List.getElem?_eq_getElem hj]
    rfl
  have e2 : ps'.getD j pcN = cutP al ts ((L q.1).getD q.2 pcN) := by
    rw [h3, List.getD_eq_getElem?_getD, List.getElem?_map, List.getElem?_eq_getElem hj2]
    rw [List.getD_eq_getElem?_getD, List.getElem?_eq_getElem hj2] at hq
    simp only [Option.getD_some] at hq
    simp only [Option.map_some, Option.getD_some, hq]
    rfl
  rw [e1, e2]
  refine cut_eq (got_eq hR hq1 hq3 hg) ?_ ?_ al ts
  · obtain ⟨a', c', a, c, rfl⟩ := hg
    have hx := getD_mem htN (show q.2 < (S q.1).l.length from hq2)
    exact ((hM.ix.ch q.1 hq1).each _ hx).toks.len
  · exact (hM.ri.pcs q.1 hq1 _ (getD_mem pcN hq3)).hd.toks.len
theorem xrel_400 {S : Nat → CSt} {L : Nat → List Pc} {cnt : Nat} (h : XRel S L cnt) (hc : cnt ≤ 400) : ∀ i, i < 6 → (S i).l.length ≤ 400 ∧ (L i).length ≤ 400 := by
  have hs : ∀ k, k ≤ 6 → ∀ i, i < k → (L i).length ≤ rxSum L k := fun k => by
    induction k with
    | zero => intro _ i hi; omega
    | succ k ih =>
      intro hk i hi
      show (L i).length ≤ rxSum L k + (L k).length
      by_cases h1 : i = k
      · rw [h1]; omega
      · have := ih (by omega) i (by omega)
        omega
  intro i hi
  have h1 := hs 6 (Nat.le_refl _) i hi
  rw [h.cnt] at h1
  exact ⟨by rw [h.ll i hi]; omega, by omega⟩

end Go.Proofs.YtihlpfdhallfpaaDoor
