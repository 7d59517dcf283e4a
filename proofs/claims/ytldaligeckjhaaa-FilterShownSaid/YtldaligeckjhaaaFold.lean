/-
  A range over a map by values: each entry comes once, in whatever order. No conditions.
  The walk of item.Fold. No conditions but the length.
-/
import Derived.Test.YtldaligeckjhaaaPtC
import Derived.Maps.RangeWalk
import Derived.Test.YtldaligeckjhaaaSrtIC
import Derived.Test.YtldaligeckjhaaaParted
import Derived.Test.YtldaligeckjhaaaMoreA
import Derived.Test.YtldaligeckjhaaaTwP
namespace Go.Proofs.Ytldaligeckjhaaa
open Go.ChangeAt Go.ChangeShapes Go.RowKit Go.WideShapes

section
variable {κ : Type} {T : TypeId} (K : KeyK κ T)
theorem kvE_mem {l : List (κ × Value)} {e : MapEntry} (h : e ∈ kvE K l 0) : ∃ i p, l[i]? = some p ∧ e = ⟨K.enc p.1, p.2, i⟩ := by
  obtain ⟨i, hi⟩ := List.getElem?_of_mem h
  rw [kvE_get, Nat.zero_add] at hi
  obtain ⟨p, h1, h2⟩ := Option.map_eq_some_iff.1 hi
  exact ⟨i, p, h1, h2.symm⟩
theorem kvE_at : ∀ (l : List (κ × Value)) (s i : Nat) (p : κ × Value), l[i]? = some p → (⟨K.enc p.1, p.2, s + i⟩ : MapEntry) ∈ kvE K l s
  | [], s, i, p, h => by simp at h
  | q :: l, s, 0, p, h => by
    simp only [List.getElem?_cons_zero, Option.some.injEq] at h
    subst h
    exact List.mem_cons_self
  | q :: l, s, i + 1, p, h => by
    have h1 := kvE_at l (s + 1) i p (by simpa using h)
    rw [show s + 1 + i = s + (i + 1) by omega] at h1
    exact List.mem_cons_of_mem _ h1
theorem kvE_born : ∀ (l : List (κ × Value)) (s : Nat), (kvE K l s).map (·.born) = (List.range l.length).map (s + ·)
  | [], s => rfl
  | q :: l, s => by
    simp only [kvE, List.map_cons, List.length_cons, List.range_succ_eq_map, List.map_map, Nat.add_zero]
    rw [kvE_born l (s + 1)]
    congr 1
    refine List.map_congr_left fun i _ => ?_
    simp only [Function.comp_apply, Nat.succ_eq_add_one]
    omega
/-- A range under way: which entries have come. -/
structure KvR (w : World) (ob r : Nat) (l : List (κ × Value)) (done : List Nat) : Prop where
  map : KvAt K w ob l
  it : ∃ seen : Array Nat, w.heap[r]? = some (.mapIter (some ob) l.length seen l.length) ∧ seen.toList = done
variable {K}
theorem KvR.lt {w : World} {ob r : Nat} {l : List (κ × Value)} {done : List Nat} (h : KvR K w ob r l done) : r < w.heap.size := by
  obtain ⟨seen, h1, _⟩ := h.it
  exact (Array.getElem?_eq_some_iff.1 h1).1
theorem KvR.kept {w w' : World} {ob r : Nat} {l : List (κ × Value)} {done : List Nat} (h : KvR K w ob r l done) {row : Option Nat} (hg : w.grownBy w' row) (h1 : some ob ≠ row) (h2 : some r ≠ row) : KvR K w' ob r l done := by
  obtain ⟨seen, k1, k2⟩ := h.it
  exact ⟨h.map.same (hg.block ob h.map.lt h1), seen, (hg.block r h.lt h2).trans k1, k2⟩
theorem KvR.ext {w w' : World} {ob r : Nat} {l : List (κ × Value)} {done : List Nat} (h : KvR K w ob r l done) (hE : Ext w w') : KvR K w' ob r l done :=
  h.kept (grown_ext hE none) (by simp) (by simp)
theorem KvR.start {w : World} {ob : Nat} {l : List (κ × Value)} (h : KvAt K w ob l) : KvR K (w.alloc (.mapIter (some ob) l.length #[] l.length)) ob w.heap.size l [] :=
  ⟨h.ext ((Ext.refl w).alloc _), #[], heap_alloc_new w _, rfl⟩
theorem run_range_kv {w : World} {ob : Nat} {l : List (κ × Value)} {M E : TypeId} (h : KvAt K w ob l) (ht : Try.prog.underlying M = some (.map T E)) :
    (Instr.range M (.map (some ob))).run Try.prog w = .ok (.pointer (some ⟨w.heap.size, 0, none⟩)) (w.alloc (.mapIter (some ob) l.length #[] l.length)) := by
  obtain ⟨es, h1, _⟩ := h.at_
  exact run_range_map w M T E ob es l.length ht h1
theorem KvR.next {w : World} {ob r : Nat} {l : List (κ × Value)} {done : List Nat} (h : KvR K w ob r l done) (ty : TypeId) :
    ((∀ i, i < l.length → i ∈ done) ∧ (Instr.next (.pointer (some ⟨r, 0, none⟩)) false ty).run Try.prog w = .ok (.tuple #[.bool false]) w) ∨
    ∃ i p w', l[i]? = some p ∧ i ∉ done ∧ (Instr.next (.pointer (some ⟨r, 0, none⟩)) false ty).run Try.prog w = .ok (.tuple #[.bool true, K.enc p.1, p.2]) w' ∧ KvR K w' ob r l (done ++ [i]) ∧ w.grownBy w' (some r) ∧ w'.heap.size = w.heap.size ∧
      (Instr.entry (.pointer (some ⟨r, 0, none⟩))).run Try.prog w' = .ok (.tuple #[K.enc p.1, p.2]) w' := by
  obtain ⟨es, hb, hes⟩ := h.map.at_
  obtain ⟨seen, hr, hs⟩ := h.it
  have hne : ob ≠ r := fun e => by
    rw [e, hr] at hb
    cases hb
  have hold : ∀ x ∈ es.toList, x.born < l.length := fun x hx => by
    rw [hes] at hx
    obtain ⟨i, p, h1, rfl⟩ := kvE_mem K hx
    exact (List.getElem?_eq_some_iff.1 h1).1
  rcases run_next_at (P := Try.prog) w ty r ob l.length l.length seen es l.length hr hb hold (Nat.le_refl _) with ⟨h0, hrun⟩ | ⟨e, he, w1, hal, hrun⟩
  · refine Or.inl ⟨fun i hi => ?_, hrun⟩
    have hm := kvE_at K l 0 i l[i] (List.getElem?_eq_getElem hi)
    rw [Nat.zero_add, ← hes] at hm
    have hq : ¬ (⟨K.enc l[i].1, l[i].2, i⟩ : MapEntry) ∈ (leftOf es seen).toList := fun k => by
      have hz : (leftOf es seen) = #[] := Array.eq_empty_of_size_eq_zero h0
      rw [hz] at k
      simp at k
    rw [← hs]
    unfold leftOf at hq
    simp only [Array.toList_filter, List.mem_filter, not_and] at hq
    have h2 := hq hm
    simpa using h2
  · have hem : e ∈ es.toList ∧ e.born ∉ seen.toList := by
      unfold leftOf at he
      simp only [Array.toList_filter, List.mem_filter] at he
      exact ⟨he.1, by simpa using he.2⟩
    rw [hes] at hem
    obtain ⟨i, p, h1, rfl⟩ := kvE_mem K hem.1
    have hr1 : w1.heap[r]? = some (.mapIter (some ob) l.length seen l.length) := by rcases hal with rfl | rfl <;> exact hr
    have hb1 : w1.heap[ob]? = some (.map es l.length) := by rcases hal with rfl | rfl <;> exact hb
    have hset := Go.MapKept.heap_set (o' := .mapIter (some ob) l.length (seen.push i) l.length) hr1
    have hb' : (Go.ChangeMaps.setBlock w1 r (.mapIter (some ob) l.length (seen.push i) l.length)).heap[ob]? = some (.map es l.length) := (hset.2 ob hne).trans hb1
    refine Or.inr ⟨i, p, _, h1, by rw [← hs]; exact hem.2, hrun, ⟨⟨es, hb', hes⟩, _, hset.1, by simp [hs]⟩, ?_, ?_, ?_⟩
    · rcases hal with rfl | rfl <;> exact ⟨rfl, rfl, rfl, by simp [Go.ChangeMaps.setBlock], fun j _ hj => hset.2 j (fun e1 => hj (by rw [e1]))⟩
    · rcases hal with rfl | rfl <;> simp [Go.ChangeMaps.setBlock]
    · refine run_entry_at _ r ob l.length seen es l.length ⟨K.enc p.1, p.2, i⟩ hset.1 hb' (by rw [hes]; exact hem.1) ?_
      rw [hes, kvE_born]
      simp only [Nat.zero_add, List.map_id']
      exact List.nodup_range
end
section
variable {κ : Type} {T : TypeId} {K : KeyK κ T} {ops : Array Oper} {rest : List Oper} {o : Oper} {a : Act} {w : World} {Q : Exit → Act → World → Prop}
theorem wp_range_kv (hgd : o.guard = none) (m : Operand) (M E : TypeId) (ho : o.op = .range M m) {ob : Nat} {l : List (κ × Value)} (hm : a.eval m = .map (some ob)) (h : KvAt K w ob l) (ht : Try.prog.underlying M = some (.map T E))
    (hk : wpList Try.prog ops Q rest (a.put o.dst (.pointer (some ⟨w.heap.size, 0, none⟩))) (w.alloc (.mapIter (some ob) l.length #[] l.length))) : wpList Try.prog ops Q (o :: rest) a w := by
  refine wpList_plain hgd fun K' hK' => ?_
  have hrun := run_range_kv h ht
  unfold Oper.wp
  simp [execOp, ho, hm, hrun, Result.andThen]
  exact hK' _ _ hk
theorem wp_next_kv (hgd : o.guard = none) (it : Operand) (ho : o.op = .next it false) {ob r : Nat} {l : List (κ × Value)} {done : List Nat} (hit : a.eval it = .pointer (some ⟨r, 0, none⟩)) (h : KvR K w ob r l done)
    (hDone : (∀ i, i < l.length → i ∈ done) → wpList Try.prog ops Q rest (a.put o.dst (.tuple #[.bool false])) w)
    (hMore : ∀ (i : Nat) (p : κ × Value) (w' : World), l[i]? = some p → i ∉ done → KvR K w' ob r l (done ++ [i]) → w.grownBy w' (some r) → w'.heap.size = w.heap.size → (Instr.entry (.pointer (some ⟨r, 0, none⟩))).run Try.prog w' = .ok (.tuple #[K.enc p.1, p.2]) w' →
      wpList Try.prog ops Q rest (a.put o.dst (.tuple #[.bool true, K.enc p.1, p.2])) w') : wpList Try.prog ops Q (o :: rest) a w := by
  refine wpList_plain hgd fun K' hK' => ?_
  unfold Oper.wp
  rcases h.next o.type with ⟨h0, hrun⟩ | ⟨i, p, w', h1, h2, hrun, h3, h4, h5, h6⟩
  · simp [execOp, ho, hit, hrun, Result.andThen]
    exact hK' _ _ (hDone h0)
  · simp [execOp, ho, hit, hrun, Result.andThen]
    exact hK' _ _ (hMore i p w' h1 h2 h3 h4 h5 h6)
end

theorem nodup_le : ∀ (n : Nat) (l : List Nat), l.Nodup → (∀ x ∈ l, x < n) → l.length ≤ n
  | 0, l, _, h => by
    cases l with
    | nil => exact Nat.le_refl _
    | cons a l => exact absurd (h a (List.mem_cons_self)) (by omega)
  | n + 1, l, hn, h => by
    by_cases hm : n ∈ l
    · have h1 := nodup_le n (l.erase n) (hn.erase n) (fun x hx => by
        have h2 := h x (List.mem_of_mem_erase hx)
        have h3 : x ≠ n := (hn.mem_erase_iff.1 hx).1
        omega)
      rw [List.length_erase_of_mem hm] at h1
      omega
    · have h1 := nodup_le n l hn (fun x hx => by
        have h2 := h x hx
        have h3 : x ≠ n := fun e => hm (e ▸ hx)
        omega)
      omega
/-- There are no more groups than rows. -/
theorem groups_le {G : List Gp} {cs : List Rw} (h : GpSays G cs) : G.length ≤ cs.length := by
  have each : ∀ i, ∃ j, i < G.length → ∃ (g : Gp) (r : Rw), G[i]? = some g ∧ cs[j]? = some r ∧ arrB 16 g.key r.hd.1.item = true := fun i => by
    by_cases hi : i < G.length
    · have hg := List.getElem?_eq_getElem hi
      have h1 := h.some_ i _ hg
      rw [h.rows i _ hg] at h1
      obtain ⟨r, hr⟩ := List.exists_mem_of_length_pos h1
      obtain ⟨h2, h3⟩ := List.mem_filter.1 hr
      obtain ⟨j, hj⟩ := List.getElem?_of_mem h2
      exact ⟨j, fun _ => ⟨_, r, hg, hj, h3⟩⟩
    · exact ⟨0, fun h => absurd h hi⟩
  obtain ⟨f, hf⟩ := Classical.axiomOfChoice each
  have h1 := nodup_le cs.length ((List.range G.length).map f) (by
    refine List.pairwise_map.2 (List.Pairwise.imp_of_mem (fun {a b} ha hb hab e => ?_) List.nodup_range)
    obtain ⟨g, r, k1, k2, k3⟩ := hf a (List.mem_range.1 ha)
    obtain ⟨g', r', l1, l2, l3⟩ := hf b (List.mem_range.1 hb)
    rw [e, l2] at k2
    obtain rfl := Option.some.inj k2
    have h3 := h.keys a b g g' hab k1 l1
    rw [arrB_trans k3 (arrB_symm l3)] at h3
    cases h3) (fun x hx => by
    obtain ⟨a, ha, rfl⟩ := List.mem_map.1 hx
    obtain ⟨g, r, _, k2, _⟩ := hf a (List.mem_range.1 ha)
    exact (List.getElem?_eq_some_iff.1 k2).1)
  rw [List.length_map, List.length_range] at h1
  exact h1
/-- The items that were made of groups. -/
structure FdIt (y : World) (B : Nat) (G : List Gp) (done : List Nat) (its : List It) : Prop where
  len : its.length = done.length
  nodup : done.Nodup
  lt : ∀ i ∈ done, i < G.length
  own : ∀ t ∈ its, ItOwn B y t
  made : ∀ (j i : Nat), done[j]? = some i → ∃ g t, G[i]? = some g ∧ its[j]? = some t ∧ IsMade g.key g.rows t
theorem FdIt.nil (y : World) (B : Nat) (G : List Gp) : FdIt y B G [] [] := ⟨rfl, List.nodup_nil, (fun i hi => by simp at hi), (fun t ht => by simp at ht), (fun j i h => by simp at h)⟩
theorem FdIt.more {y y' : World} {B : Nat} {G : List Gp} {done : List Nat} {its : List It} (h : FdIt y B G done its) (hk : ∀ t, ItOwn B y t → ItOwn B y' t) : FdIt y' B G done its := ⟨h.len, h.nodup, h.lt, fun t ht => hk t (h.own t ht), h.made⟩
theorem FdIt.push {y : World} {B : Nat} {G : List Gp} {done : List Nat} {its : List It} (h : FdIt y B G done its) {i : Nat} {g : Gp} {t : It} (hi : G[i]? = some g) (hd : i ∉ done) (ho : ItOwn B y t) (hm : IsMade g.key g.rows t) : FdIt y B G (done ++ [i]) (its ++ [t]) := by
  refine ⟨by rw [List.length_append, List.length_append, h.len]; rfl, ?_, fun j hj => ?_, fun u hu => ?_, fun j k hjk => ?_⟩
  · rw [List.nodup_append]
    exact ⟨h.nodup, by simp, fun a ha b hb => by
      rw [List.mem_singleton] at hb
      subst hb
      exact fun e => hd (e ▸ ha)⟩
  · rcases List.mem_append.1 hj with h1 | h1
    · exact h.lt j h1
    · rw [List.mem_singleton] at h1
      subst h1
      exact (List.getElem?_eq_some_iff.1 hi).1
  · rcases List.mem_append.1 hu with h1 | h1
    · exact h.own u h1
    · rw [List.mem_singleton] at h1
      subst h1
      exact ho
  · rcases Nat.lt_or_ge j done.length with q | q
    · rw [List.getElem?_append_left q] at hjk
      obtain ⟨g', t', h1, h2, h3⟩ := h.made j k hjk
      exact ⟨g', t', h1, by rw [List.getElem?_append_left (by rw [h.len]; exact q)]; exact h2, h3⟩
    · rw [List.getElem?_append_right q] at hjk
      have hj0 : j - done.length = 0 := by
        rcases Nat.eq_zero_or_pos (j - done.length) with e | e
        · exact e
        · rw [List.getElem?_eq_none (by simp; omega)] at hjk
          cases hjk
      rw [hj0] at hjk
      obtain rfl : i = k := by simpa using hjk
      exact ⟨g, t, hi, by rw [List.getElem?_append_right (by rw [h.len]; exact q), h.len, hj0]; rfl, hm⟩
/-- Items of all groups, sorted by their tokens. -/
theorem fold_is {y : World} {B : Nat} {G : List Gp} {cs : List Rw} {done : List Nat} {its : List It} (h : FdIt y B G done its) (hG : GpSays G cs) (hall : ∀ i, i < G.length → i ∈ done) {us : List SIt} (hp : (us.map (·.1)).Perm its) (hs : ∀ i j, i < j → j < us.length → ¬ cfI (us.getD j default) (us.getD i default) < 0) : FoldIs cs (us.map (·.1)) := by
  have hof : ∀ (i : Nat) (g : Gp), G[i]? = some g → g.rows = ofTok g.key cs := fun i g hi => hG.rows i g hi
  have hat : ∀ t ∈ its, ∃ (i : Nat) (g : Gp), i ∈ done ∧ G[i]? = some g ∧ IsMade g.key g.rows t := fun t ht => by
    obtain ⟨j, hj⟩ := List.getElem?_of_mem ht
    have hjl : j < done.length := by
      have := (List.getElem?_eq_some_iff.1 hj).1
      rw [h.len] at this
      exact this
    obtain ⟨g, t', h1, h2, h3⟩ := h.made j done[j] (List.getElem?_eq_getElem hjl)
    rw [hj] at h2
    obtain rfl := Option.some.inj h2
    exact ⟨_, g, List.getElem_mem hjl, h1, h3⟩
  have hdis : its.Pairwise (fun t u => tkK t.tok ≠ tkK u.tok) := by
    rw [List.pairwise_iff_getElem]
    intro i j hi hj hij e
    have hid : i < done.length := by rw [← h.len]; exact hi
    have hjd : j < done.length := by rw [← h.len]; exact hj
    obtain ⟨g, t, h1, h2, h3⟩ := h.made i done[i] (List.getElem?_eq_getElem hid)
    obtain ⟨g', t', k1, k2, k3⟩ := h.made j done[j] (List.getElem?_eq_getElem hjd)
    rw [List.getElem?_eq_getElem hi] at h2
    rw [List.getElem?_eq_getElem hj] at k2
    obtain rfl := Option.some.inj h2
    obtain rfl := Option.some.inj k2
    rw [h3.tok, k3.tok] at e
    have hne : done[i] ≠ done[j] := by
      have h4 := (List.pairwise_iff_getElem.1 h.nodup) i j hid hjd hij
      exact h4
    have h5 := hG.keys _ _ g g' hne h1 k1
    rw [(tkK_iff _ _).2 e] at h5
    cases h5
  have hdis2 : (us.map (·.1)).Pairwise (fun t u => tkK t.tok ≠ tkK u.tok) := (hp.pairwise_iff (fun {_ _} k => Ne.symm k)).2 hdis
  refine ⟨?_, fun t ht => ?_, fun r hr => ?_⟩
  · rw [List.pairwise_map, List.pairwise_iff_getElem]
    intro i j hi hj hij
    have h1 := (List.pairwise_iff_getElem.1 hdis2) i j hi hj hij
    rw [List.length_map] at hi hj
    have h2 := hs i j hij hj
    rw [List.getD_eq_getElem?_getD, List.getD_eq_getElem?_getD, List.getElem?_eq_getElem hj, List.getElem?_eq_getElem hi] at h2
    rw [List.getElem_map, List.getElem_map] at h1 ⊢
    exact cmpI_tot _ _ (by rw [tkK_len, tkK_len]) h1 h2
  · obtain ⟨i, g, _, h2, h3⟩ := hat t (hp.mem_iff.1 ht)
    have h4 := h3.tok
    rw [hof i g h2] at h3
    rw [h4]
    refine ⟨h3, fun e => ?_⟩
    have h5 := hG.some_ i g h2
    rw [hof i g h2, e] at h5
    simp at h5
  · obtain ⟨i, g, h1, h2⟩ := hG.all r hr
    have hid := hall i (List.getElem?_eq_some_iff.1 h1).1
    obtain ⟨j, hj⟩ := List.getElem?_of_mem hid
    obtain ⟨g', t, k1, k2, k3⟩ := h.made j i hj
    rw [h1] at k1
    obtain rfl := Option.some.inj k1
    exact ⟨t, hp.mem_iff.2 (List.mem_of_getElem? k2), by rw [k3.tok]; exact (tkK_iff _ _).1 h2⟩
/-- The groups' keys are bytes. -/
theorem key_byte {w : World} {G : List Gp} {cs : List Rw} (hG : GpSays G cs) (hr : ∀ r ∈ cs, RwAt w r) {i : Nat} {g : Gp} (hi : G[i]? = some g) : ∀ j, j < 16 → 0 ≤ g.key j ∧ g.key j < 256 := fun j hj => by
  have h1 := hG.some_ i g hi
  rw [hG.rows i g hi] at h1
  obtain ⟨r, hm⟩ := List.exists_mem_of_length_pos h1
  obtain ⟨h2, h3⟩ := List.mem_filter.1 hm
  have h4 := of_decide_eq_true h3 j hj
  rw [h4]
  exact (hr r h2).hd.ok.item j hj
/-- What item.Fold answers. -/
def FoldSays (w : World) (cs : List Rw) (e : Ending) (w' : World) : Prop := ∃ (v : Value) (its : List It), e = .returned v ∧ Ext w w' ∧ w'.ownsRow w.heap.size 41 146 v its.length (itsC its) ∧ (∀ t ∈ its, ItAt w' t) ∧ FoldIs cs its
/-- What item.Fold answers, and that the items' rows are the call's own. -/
def FoldOwn (w : World) (cs : List Rw) (e : Ending) (w' : World) : Prop := ∃ (v : Value) (its : List It), e = .returned v ∧ Ext w w' ∧ w'.ownsRow w.heap.size 41 146 v its.length (itsC its) ∧ (∀ t ∈ its, ItOwn w.heap.size w' t) ∧ FoldIs cs its
def slLen : Value → Nat
  | .slice _ n _ => n
  | _ => 0
/-- An item's rows stay while rows of items are written. -/
theorem ItOwn.rows {B B' n : Nat} {w w' : World} {t : It} {v : Value} {l : List It} (h : ItOwn B w t) (hv : w.ownsRow B' 41 146 v n (itsC l)) (hg : w.grownBy w' v.ownBlock) : ItOwn B w' t := by
  have key : ∀ {e : TypeId} {size m : Nat} {u : Value} {xs : List Value}, e ≠ 41 → w.ownsRow B e size u m xs → w'.ownsRow B e size u m xs := fun {e size m u xs} he k => by
    rcases k.2 with hn | ⟨g, cap, cur, rfl, h2, h3, h4⟩
    · exact ⟨k.1, .inl hn⟩
    · refine k.kept hg (.inr ?_)
      intro e1
      rcases hv.2 with ⟨rfl, _⟩ | ⟨g', cap', cur', rfl, _, h6, _⟩
      · simp [Value.ownBlock] at e1
      · simp only [Value.ownBlock, Option.some.injEq] at e1
        subst e1
        rw [h3] at h6
        simp only [Option.some.injEq, Obj.cells.injEq] at h6
        exact he h6.2.1
  exact ⟨key (by decide) h.ts, key (by decide) h.sr, h.ok, h.byte, h.small, h.size, h.name, h.val⟩
set_option maxRecDepth 100000 in
theorem zero_tokF (w : World) : (zeroValue 27).run Try.prog w = .ok (.agg (rowArr 16 fun _ => .int .u8 0)) w := by kernel_rfl
set_option maxHeartbeats 4000000 in
set_option maxRecDepth 100000 in
theorem foldO_any (a : Option Addr) (n c : Nat) (l : List Rw) (w : World) (h : RwsAt w a n c l) (hs : n ≤ 100000) :
    Calls Try.prog 21 #[.slice a n c] w (FoldOwn w (cntN l n)) := by
  have H := Lib.hid h
  have HLen := Lib.hid h.len
  have HPt := Lib.hid (parted_all a n c l w h hs)
  clear h
  go_enter Try.func21, Try.ntmps21
  go_upto_region 2 with (fail)
  go_wp2_with (first | (go_at_call 33; refine HPt.out.mono ?_; rintro e w0 ⟨ob, G, rfl, h1, h2, h3, h4, h5⟩; have HE0 := Lib.hid h2; have HKv := Lib.hid h3; have HGp := Lib.hid h4; have HGs := Lib.hid h5; have HOb := Lib.hid h1; clear h1 h2 h3 h4 h5) | (at_range; refine wp_range_kv rfl _ _ _ rfl rfl HKv.out Try.underlying65 ?_))
  go_frame
  obtain ⟨r, hr⟩ : ∃ z, w0.heap.size = z := ⟨_, rfl⟩
  have Hr := Lib.hid hr
  obtain ⟨w1, hw1⟩ : ∃ z, w0.alloc (.mapIter (some ob) (G.map gpE).length #[] (G.map gpE).length) = z := ⟨_, rfl⟩
  have HE1 := Lib.hid (show Ext w0 w1 by rw [← hw1]; exact (Ext.refl w0).alloc _)
  have HK1 := Lib.hid (show KvR tokK w1 ob r (G.map gpE) [] by rw [← hw1, ← hr]; exact KvR.start HKv.out)
  have HS1 := Lib.hid (show r + 1 ≤ w1.heap.size by rw [← hw1, ← hr]; simp)
  rw [hr]
  refine wp_world (w' := w1) hw1 ?_
  clear hw1 hr
  go_loopw [3] (fun o y => ∃ (done : List Nat) (its : List It), Ext w0 y ∧ r + 1 ≤ y.heap.size ∧ KvR tokK y ob r (G.map gpE) done ∧ y.ownsRow (r + 1) 41 146 o its.length (itsC its) ∧ FdIt y (r + 1) G done its) (fun o _ => G.length - slLen o)
  case atStart => exact ⟨[], [], HE1.out, HS1.out, HK1.out, World.ownsRow_nil _ _ _ _, FdIt.nil _ _ _⟩
  case round =>
    obtain ⟨done, its, hE, hS, hK, hown, hF⟩ := hrel
    rename World => y
    have HE := Lib.hid hE
    have HS := Lib.hid hS
    have HF := Lib.hid hF
    have HOwn := Lib.hid hown
    have hl := hF.len
    have hN := nodup_le G.length done hF.nodup hF.lt
    rcases hK.next 0 with ⟨hall, hrun⟩ | ⟨i, p, y1, hi, hnd, hrun, hkr, hg, hsz, hen⟩
    · have HAll := Lib.hid (show ∀ i, i < G.length → i ∈ done from fun i hi => hall i (by rw [List.length_map]; exact hi))
      have hby : ∀ t ∈ its, ∀ j, j < 16 → 0 ≤ t.tok j ∧ t.tok j < 256 := fun t ht => by
        obtain ⟨j, hj⟩ := List.getElem?_of_mem ht
        have hjl : j < done.length := by
          have := (List.getElem?_eq_some_iff.1 hj).1
          rw [hl] at this
          exact this
        obtain ⟨g, t', h1, h2, h3⟩ := hF.made j done[j] (List.getElem?_eq_getElem hjl)
        rw [hj] at h2
        obtain rfl := Option.some.inj h2
        rw [h3.tok]
        exact key_byte HGs.out (fun r hr => H.out.each r (cntN_mem l n (by rw [HLen.out]; exact Nat.le_refl _) r hr).1) h1
      obtain ⟨ts, hts⟩ : ∃ ts : List SIt, ts.map (·.1) = its := ⟨its.attachWith _ hby, by simp⟩
      obtain ⟨a3, c3, hu3⟩ := own_itsl hown
      subst hu3
      have hle : its.length ≤ 1000000 := by
        have h2 : G.length ≤ n := Nat.le_trans (groups_le HGs.out) (cntN_le l n)
        omega
      have htl : ts.length = its.length := by rw [← hts, List.length_map]
      have HSt := Lib.hid (sortIt_all (w := y) (B := r + 1) (c := c3) (n := its.length) (a := a3) (ts := ts) htl (by unfold itLs; rw [hts]; exact hown) hle)
      have Hts := Lib.hid hts
      obtain ⟨m, hm⟩ : ∃ z, its.length = z := ⟨_, rfl⟩
      have Hm := Lib.hid hm
      rw [hm] at HSt HOwn ⊢
      clear hall hby hts hle htl hE hS hK hown hF hl hN hm
      go_upto_region 6 with (fail)
      go_wp2_with (first | (go_at_call 43; refine HSt.out.mono ?_; rintro e y5 ⟨rfl, us, h1, h2, h3, h4, h5⟩; have HU1 := Lib.hid h1; have HU2 := Lib.hid h2; have HU3 := Lib.hid h3; have HU4 := Lib.hid h4; have HU5 := Lib.hid h5; clear h1 h2 h3 h4 h5))
      have hp : (us.map (·.1)).Perm its := by
        rw [← Hts.out]
        exact HU2.out.map _
      have hfi : FoldIs (cntN l n) (us.map (·.1)) := fold_is HF.out HGs.out HAll.out hp (fun i j hij hj => by have h7 := HU3.out i j hij (by rw [← HU1.out]; exact hj); omega)
      have hb5 : Below (r + 1) y y5 := (Below.refl (r + 1) y).grown HU5.out HS.out (fun b hb => (HOwn.out.lt b hb).1)
      have hW : Ext w0 y5 := Below.trans HE.out (Below.mono hb5 (by rw [Hr.out]; exact Nat.le_succ r))
      go_ret
      refine ⟨_, us.map (·.1), rfl, HE0.out.trans hW, ?_, fun t ht => ?_, hfi⟩
      · rw [List.length_map, HU1.out]
        exact own_monoM HU4.out (by have h1 := Below.size HE0.out; have h2 := Hr.out; omega)
      · exact ((HF.out.own t (hp.mem_iff.1 ht)).rows HOwn.out HU5.out).mono (by have h1 := Below.size HE0.out; have h2 := Hr.out; omega)
    · obtain ⟨g, hgi, rfl⟩ : ∃ g, G[i]? = some g ∧ gpE g = p := by
        rw [List.getElem?_map] at hi
        obtain ⟨g, h1, h2⟩ := Option.map_eq_some_iff.1 hi
        exact ⟨g, h1, h2⟩
      obtain ⟨TK, hTK⟩ : ∃ z, (rowArr 16 fun j => Value.int .u8 (g.key j)) = z := ⟨_, rfl⟩
      obtain ⟨gn, hgn⟩ : ∃ z, g.rows.length = z := ⟨_, rfl⟩
      have e1 : tokK.enc (gpE g).1 = .agg TK := by rw [← hTK]; rfl
      have e2 : (gpE g).2 = .slice g.a gn g.c := by rw [← hgn]; rfl
      rw [e1, e2] at hrun hen
      have HTs := Lib.hid (show TK.size = 16 ∧ TK.all (·.oneCell') = true by rw [← hTK]; exact ⟨rowArr_size _ _, rowArr_one fun _ _ => rfl⟩)
      have hzt := zero_tokF
      obtain ⟨ZT, hZT⟩ : ∃ z, (rowArr 16 fun _ => Value.int .u8 0) = z := ⟨_, rfl⟩
      have HZs := Lib.hid (show ZT.size = 16 by rw [← hZT]; exact rowArr_size _ _)
      rw [hZT] at hzt
      have HKr := Lib.hid hkr
      have Hg := Lib.hid hg
      have Hsz := Lib.hid hsz
      have Hgi := Lib.hid hgi
      have Hnd := Lib.hid hnd
      have HTK := Lib.hid hTK
      have Hgn := Lib.hid hgn
      have Hl := Lib.hid hl
      have HN := Lib.hid hN
      clear hZT e1 e2 hK hi hkr hg hsz hgi hnd hTK hgn hE hS hF hown hl hN
      go_upto_region 5 with (first | (refine wpList_store_row rfl 27 _ _ rfl y1.heap.size _ rfl rfl _ _ (heap_new y1 _ _ rfl) (by rw [HTs.out.1]; kernel_rfl) (by rw [HTs.out.1, HZs.out]) HTs.out.2 ?_; rw [setRow_new y1 _ _ _ _ rfl]))
      obtain ⟨y2, hy2⟩ : ∃ z, y1.alloc (.cells TK 27) = z := ⟨_, rfl⟩
      obtain ⟨q, hq⟩ : ∃ z, y1.heap.size = z := ⟨_, rfl⟩
      have HE2 := Lib.hid (show Ext y1 y2 by rw [← hy2]; exact (Ext.refl y1).alloc _)
      have HB2 := Lib.hid (show y2.heap[q]? = some (.cells TK 27 (0, 0)) by rw [← hy2]; exact heap_new y1 _ _ hq.symm)
      have hw1 : Ext w0 y1 := ext_gn HE.out (by rw [Hr.out]; exact Nat.le_refl _) Hg.out
      have hrow : ∀ x ∈ g.rows, x ∈ l ∧ rowB x = true := fun x hx => by
        rw [HGs.out.rows i g Hgi.out] at hx
        exact cntN_mem l n (by rw [HLen.out]; exact Nat.le_refl _) x (List.mem_filter.1 hx).1
      have hgl : gn ≤ n := by
        rw [← Hgn.out, HGs.out.rows i g Hgi.out]
        exact Nat.le_trans (List.length_filter_le _ _) (cntN_le l n)
      have howg := (HGp.out.ext (hw1.trans HE2.out)).each i g Hgi.out
      have hrw : RwsAt y2 g.a gn g.c g.rows := by
        have h1 := howg
        unfold gpV at h1
        rw [Hgn.out] at h1
        exact own_rws h1 (fun x hx => (H.out.each x (hrow x hx).1).ext (HE0.out.trans (hw1.trans HE2.out))) (by omega)
      have HMd := Lib.hid (made_any g.key g.a gn g.c g.rows y2 hrw (by omega) (by have := (topR_row (p := fun _ => true) fun x hx => (hrow x hx).2).1; omega) (by have := (topR_row (p := fun x => x.kn) fun x hx => (hrow x hx).2).2; omega))
      rw [HTK.out] at HMd
      have HW1 := Lib.hid hw1
      have HSy2 := Lib.hid (show r + 1 ≤ y2.heap.size by
        have h1 := Below.size HE2.out
        have h2 := HS.out
        have h3 := Hsz.out
        omega)
      have HO1 := Lib.hid (HOwn.out.kept Hg.out (by
        cases hb : u3.ownBlock with
        | none => exact Or.inl rfl
        | some b => exact Or.inr (fun e => by have := (HOwn.out.lt b hb).1; injection e with e; omega)))
      have HF1 := Lib.hid (HF.out.more (fun t ht => ht.kept (b := r) (by omega) Hg.out))
      have Hhn := Lib.hid (show its.length ≤ 100000 by
        have h1 := HN.out
        have h2 : G.length ≤ n := Nat.le_trans (groups_le HGs.out) (cntN_le l n)
        have h3 := Hl.out
        omega)
      rw [hq]
      refine wp_world (w' := y2) hy2 ?_
      clear hy2 hq hw1 hrow hgl howg hrw hzt
      go_upto_region 6 with (first | (refine wpList_load_rowW rfl 27 (.tmp 4) rfl q rfl _ _ _ _ HB2.out Try.underlying27 rfl (by rw [HTs.out.1]; kernel_rfl) ?_; simp only [Act.put, List.setIfInBounds_toArray, List.set_cons_zero, List.set_cons_succ]))
      refine HMd.out.mono ?_
      rintro e y3 ⟨t, rfl, hE3, hO3, hM3⟩
      obtain ⟨J, hJ⟩ : ∃ z, itV t = z := ⟨_, rfl⟩
      have HJ := Lib.hid hJ
      have HE3 := Lib.hid hE3
      have HO3 := Lib.hid hO3
      have HM3 := Lib.hid hM3
      rw [hJ]
      clear hE3 hO3 hM3 hJ
      dsimp only
      refine (‹∀ (a : Act) (w : World), wpList Try.prog _ _ _ a w → _›) _ _ ?_
      refine wp_build_its1 rfl (.tmp 17) rfl t J HJ.out rfl ?_
      simp only [Act.put, List.setIfInBounds_toArray, List.set_cons_zero, List.set_cons_succ]
      obtain ⟨y4, hy4⟩ : ∃ z, y3.alloc (.cells J 41) = z := ⟨_, rfl⟩
      obtain ⟨q2, hq2⟩ : ∃ z, y3.heap.size = z := ⟨_, rfl⟩
      have HE4 := Lib.hid (show Ext y3 y4 by rw [← hy4]; exact (Ext.refl y3).alloc _)
      have HC4 := Lib.hid (show ∀ j, j < 146 → y4.cell? ⟨q2, j, none⟩ = some (itC t j) from fun j hj => by
        have hb : y4.heap[q2]? = some (.cells (itV t) 41 (0, 0)) := by rw [HJ.out, ← hy4]; exact heap_new y3 _ _ hq2.symm
        exact row_cell hb j hj)
      rw [hq2, hy4]
      clear hq2 hy4
      have HE14 := Lib.hid (HE2.out.trans (HE3.out.trans HE4.out))
      have HO4 := Lib.hid (own_extM HO1.out HE14.out)
      have hS4 : r + 1 ≤ y4.heap.size := Nat.le_trans HSy2.out (Below.size (HE3.out.trans HE4.out))
      refine append_it rfl (.tmp 14) (.tmp 18) rfl (r + 1) u3 its.length its rfl HO4.out q2 1 t rfl HC4.out (by have := Hhn.out; omega) hS4 ?_
      intro v5 y5 ho5 hg5 _
      simp only [Act.put, List.setIfInBounds_toArray, List.set_cons_zero, List.set_cons_succ]
      have hb5 : Below (r + 1) y4 y5 := (Below.refl (r + 1) y4).grown hg5 hS4 (fun b hb => (HO4.out.lt b hb).1)
      have hown5 : ∀ b, u3.ownBlock = some b → r + 1 ≤ b := fun b hb => (HO4.out.lt b hb).1
      have hobr : ob < r := by
        have h1 := HKv.out.lt
        rw [Hr.out] at h1
        exact h1
      have HK5 := Lib.hid (((HKr.out.ext HE14.out).kept hg5 (fun e => by have := hown5 ob e.symm; omega) (fun e => by have := hown5 r e.symm; omega)))
      have HF5 := Lib.hid ((((HF1.out.more (fun u hu => hu.ext HE14.out)).more (fun u hu => hu.rows HO4.out hg5)).push Hgi.out Hnd.out (((HO3.out.mono HSy2.out).ext HE4.out).rows HO4.out hg5) HM3.out))
      have HW5 := Lib.hid (show Ext w0 y5 from Below.trans (HW1.out.trans HE14.out) (Below.mono hb5 (by rw [Hr.out]; exact Nat.le_succ r)))
      have HO5 := Lib.hid ho5
      have HS5 := Lib.hid (show r + 1 ≤ y5.heap.size from Nat.le_trans hS4 (Below.size hb5))
      obtain ⟨a5, c5, hv5⟩ := own_itsl ho5
      have HV5 := Lib.hid hv5
      have HN5 := Lib.hid (nodup_le G.length _ HF5.out.nodup HF5.out.lt)
      obtain ⟨a3, c3, hu3⟩ := own_itsl HOwn.out
      have HU3 := Lib.hid hu3
      clear ho5 hg5 hb5 hown5 hobr hS4 hv5 hu3
      go_wp2
      refine ⟨⟨done ++ [i], its ++ [t], HW5.out, HS5.out, HK5.out, ?_, HF5.out⟩, ?_⟩
      · rw [List.length_append, List.length_singleton]
        exact HO5.out
      · rw [HV5.out, HU3.out]
        have h1 := HN5.out
        rw [List.length_append, List.length_singleton] at h1
        have h2 := Hl.out
        simp only [slLen]
        omega
theorem fold_any (a : Option Addr) (n c : Nat) (l : List Rw) (w : World) (h : RwsAt w a n c l) (hs : n ≤ 100000) :
    Calls Try.prog 21 #[.slice a n c] w (FoldSays w (cntN l n)) :=
  (foldO_any a n c l w h hs).mono fun _ _ ⟨v, its, h1, h2, h3, h4, h5⟩ => ⟨v, its, h1, h2, h3, fun t ht => (h4 t ht).at, h5⟩
set_option maxRecDepth 100000 in
theorem size_itm (w : World) : (sizeOf 41).run Try.prog w = .ok 146 w := by kernel_rfl
theorem lu_iidx {w : World} {o : Oper} {ev : Operand → Value} {x y : Operand} {b off n c k : Nat} (ho : o.op = .indexAddr 49 x y) (hx : ev x = .slice (some ⟨b, off, none⟩) n c) (hy : ev y = .int .i64 (k : Int)) (hk : k < n) :
    lexUpon Try.prog w (.ex (.pointer (some ⟨b, off + k * 146, none⟩))) ((execOp ev o).run Try.prog w) := by
  have hr : (Instr.indexAt 49 (.slice (some ⟨b, off, none⟩) n c) (.int .i64 (k : Int))).run Try.prog w = .ok (.pointer (some ⟨b, off + k * 146, none⟩)) w := by
    have hb : (0 : Int) ≤ (k : Int) ∧ (k : Int) < (n : Int) := by omega
    simp only [Instr.indexAt, asIntOf, Sem.run_bind, Sem.run_pure, Result.andThen_ok, run_underlying Try.underlying49, hb, and_self, if_true, size_itm, Int.toNat_natCast, add_none]
  simp only [execOp, ho, hx, hy, Sem.run_bind, hr, Result.andThen_ok, Sem.run_pure]
  exact ⟨Ext.refl _, rfl⟩
/-- Items side by side. -/
theorem own_its {w : World} {B n c : Nat} {a : Option Addr} {l : List It} (h : w.ownsRow B 41 146 (.slice a n c) n (itsC l)) : n ≤ 9223372036854775807 ∧ (0 < n → ∃ g, a = some ⟨g, 0, none⟩ ∧ ∀ i, i < n → w.rangeAt g (i * 146) (itL (l.getD i itN))) := by
  have hl : l.length = n := by
    have := h.1
    rw [itsC_length] at this
    omega
  refine ⟨?_, fun h0 => ?_⟩
  · rcases h.2 with ⟨_, e⟩ | ⟨g, cap, cur, e, _, _, k1, k2, _⟩
    · omega
    · unfold maxLen at k2
      omega
  rcases h.2 with ⟨_, e⟩ | ⟨g, cap, cur, e, _⟩
  · omega
  · simp only [Value.slice.injEq] at e
    obtain ⟨rfl, _⟩ := e
    refine ⟨g, rfl, fun i hi j u hu => ?_⟩
    have hj : j < 146 := by
      have := (List.getElem?_eq_some_iff.1 hu).1
      rwa [itL_length] at this
    rw [itL_get _ j hj] at hu
    obtain rfl := Option.some.inj hu
    have h2 := h.cells (g := g) rfl (i * 146 + j) _ (itsC_get l i j (by omega) hj)
    rw [addr_add, Nat.zero_add] at h2
    exact h2

end Go.Proofs.Ytldaligeckjhaaa
