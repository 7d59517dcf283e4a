/-
  One row more: what an item becomes of it, in plain Lean. No conditions.
  Rows of one's own joined to rows: what is kept while it is done. No conditions but the length.
-/
import Derived.Test.YtldaligeckjhaaaOf
import Derived.Test.YtldaligeckjhaaaHdSame
import Derived.Test.YtldaligeckjhaaaRwA
import Derived.Test.YtldaligeckjhaaaLexP
import Derived.Deep.Upon
namespace Go.Proofs.Ytldaligeckjhaaa
open Go.ChangeAt Go.ChangeShapes Go.RowKit Go.WideShapes

theorem arrB_self (n : Nat) (f : Nat → Int) : arrB n f f = true := decide_eq_true fun _ _ => rfl
theorem tsB_self (ts : List (Nat → Int)) : tsB ts ts = true := by
  unfold tsB
  rw [Bool.and_eq_true]
  exact ⟨decide_eq_true rfl, (tsFrom_iff ts ts _ 0).2 fun i _ _ => arrB_self 16 _⟩
theorem sm10_re (h : Hd) (a b : Option Addr) (c d : Nat) : sm10 { h with ta := a, tc := c } { h with ta := b, tc := d } = true := by
  simp [sm10, sm9, sm8, sm7, sm6, sm5, sm4, sm3, sm2, sm1, sm0, arrB_self]
theorem sameB_re (h : HT) (a b : Option Addr) (c d : Nat) : sameB { h.1 with ta := a, tc := c } { h.1 with ta := b, tc := d } h.2 h.2 = true := by
  unfold sameB
  rw [tsB_self, sm10_re]
  rfl
theorem rwAt_app {l : List Rw} {r : Rw} {i : Nat} (h : i < l.length) : rwAt (l ++ [r]) i = rwAt l i := by
  unfold rwAt
  rw [List.getD_eq_getElem?_getD, List.getD_eq_getElem?_getD, List.getElem?_append_left h]
theorem rwAt_end (l : List Rw) (r : Rw) : rwAt (l ++ [r]) l.length = r := by
  unfold rwAt
  simp [List.getD_eq_getElem?_getD]
theorem maxN_app (l : List Rw) (r : Rw) : ∀ k, k ≤ l.length → maxN (l ++ [r]) k = maxN l k
  | 0, _ => rfl
  | k + 1, h => by
    have ih := maxN_app l r k (by omega)
    have h1 := rwAt_app (r := r) (show k < l.length by omega)
    unfold maxN
    rw [ih, h1]
    by_cases h0 : k = 0
    · subst h0
      rw [if_pos rfl, if_pos rfl]
      exact rwAt_app h
    · rw [if_neg h0, if_neg h0]
theorem latB_iff (a b : Rw) : latB a b = true ↔ (b.hd.1.time < a.hd.1.time ∨ a.hd.1.time = b.hd.1.time ∧ (b.hd.1.writer < a.hd.1.writer ∨ a.hd.1.writer = b.hd.1.writer ∧ b.hd.1.seq < a.hd.1.seq)) := laterB_iff _ _ _ _ _ _
theorem maxN_top (l : List Rw) : ∀ k, k ≤ l.length → ∀ i, i < k → ¬ latB (rwAt l i) (maxN l k) = true
  | 0, _, i, h => by omega
  | k + 1, hk, i, hi => by
    have ih := maxN_top l k (by omega)
    intro hq
    by_cases h0 : k = 0
    · subst h0
      have hi0 : i = 0 := by omega
      subst hi0
      have e : maxN l (0 + 1) = rwAt l 0 := rfl
      rw [e, latB_iff] at hq
      omega
    · rw [maxN_succ (by omega)] at hq
      by_cases hc : latB (rwAt l k) (maxN l k) = true
      · rw [if_pos hc] at hq
        rcases Nat.lt_or_ge i k with h1 | h1
        · have h2 := ih i h1
          rw [latB_iff] at hq hc h2
          omega
        · have e : i = k := by omega
          subst e
          rw [latB_iff] at hq
          omega
      · rw [if_neg hc] at hq
        rcases Nat.lt_or_ge i k with h1 | h1
        · exact ih i h1 hq
        · have e : i = k := by omega
          subst e
          exact hc hq
theorem maxN_later {l : List Rw} {r : Rw} (h : latB r (maxN l l.length) = true) {q : Rw} (hq : q ∈ l) : latB r q = true := by
  obtain ⟨i, hi, rfl⟩ := List.getElem_of_mem hq
  have h1 := maxN_top l l.length (Nat.le_refl _) i hi
  have e : rwAt l i = l[i] := by
    unfold rwAt
    rw [List.getD_eq_getElem?_getD, List.getElem?_eq_getElem hi]
    rfl
  rw [e] at h1
  rw [latB_iff] at h h1 ⊢
  omega
/-- The latest of rows and one more. -/
theorem topR_snoc (p : Rw → Bool) (L : List Rw) (r : Rw) : topR p (L ++ [r]) = if p r = true then (if L.filter p = [] then r else if latB r (topR p L) = true then r else topR p L) else topR p L := by
  unfold topR
  rw [List.filter_append]
  by_cases hp : p r = true
  · have e : [r].filter p = [r] := by simp [hp]
    rw [e, if_pos hp]
    obtain ⟨M, hM⟩ : ∃ z, L.filter p = z := ⟨_, rfl⟩
    rw [hM, List.length_append, List.length_singleton]
    by_cases h0 : M = []
    · subst h0
      rw [if_pos rfl]
      rfl
    · have hl : 1 ≤ M.length := by
        rcases Nat.eq_zero_or_pos M.length with q | q
        · exact absurd (List.eq_nil_of_length_eq_zero q) h0
        · exact q
      rw [if_neg h0, maxN_succ hl, rwAt_end, maxN_app M r M.length (Nat.le_refl _)]
  · have e : [r].filter p = [] := by simp [hp]
    rw [e, if_neg hp, List.append_nil]
theorem topR_mem {p : Rw → Bool} {L : List Rw} (h : L.filter p ≠ []) : topR p L ∈ L := by
  have hl : 0 < (L.filter p).length := by
    rcases Nat.eq_zero_or_pos (L.filter p).length with q | q
    · exact absurd (List.eq_nil_of_length_eq_zero q) h
    · exact q
  exact (List.mem_filter.1 (maxN_mem (L.filter p) _ hl (Nat.le_refl _))).1
theorem filterT (L : List Rw) : L.filter (fun _ => true) = L := by simp
/-- A row that is later than all, or alone. -/
def Newer (L : List Rw) (r : Rw) : Prop := L = [] ∨ latB r (topR (fun _ => true) L) = true
theorem Newer.top {L : List Rw} {r : Rw} (h : Newer L r) {p : Rw → Bool} (hp : p r = true) : topR p (L ++ [r]) = r := by
  rw [topR_snoc, if_pos hp]
  by_cases h0 : L.filter p = []
  · rw [if_pos h0]
  · rw [if_neg h0, if_pos]
    rcases h with h | h
    · subst h
      exact absurd rfl h0
    · refine maxN_later (l := L) ?_ (topR_mem h0)
      have e : topR (fun _ => true) L = maxN L L.length := by unfold topR; rw [filterT]
      rw [← e]
      exact h
theorem topR_older {L : List Rw} {r : Rw} (h0 : L ≠ []) (h : latB r (topR (fun _ => true) L) = false) : topR (fun _ => true) (L ++ [r]) = topR (fun _ => true) L := by
  rw [topR_snoc, if_pos rfl, if_neg (by rw [filterT]; exact h0), if_neg (by rw [h]; exact Bool.false_ne_true)]
theorem livB_snoc {L : List Rw} {r : Rw} (hv : valB r = false) : livB (L ++ [r]) = livB L := by
  unfold livB
  rw [topR_snoc, if_neg (by rw [hv]; exact Bool.false_ne_true), List.filter_append]
  have e : [r].filter valB = [] := by simp [hv]
  rw [e, List.append_nil]
theorem livB_new {L : List Rw} {r : Rw} (h : Newer L r) (hv : valB r = true) : livB (L ++ [r]) = (r.op == 1) := by
  unfold livB
  rw [h.top hv, List.filter_append]
  have e : [r].filter valB = [r] := by simp [hv]
  rw [e, List.length_append, List.length_singleton]
  simp
/-- What an item was: made of rows, or none. -/
def Was (x : Nat → Int) (L : List Rw) (t : It) : Prop := if L = [] then t = itN else IsMade x L t
theorem Was.al {x : Nat → Int} {L : List Rw} {t : It} (h : Was x L t) : t.al = livB L := by
  unfold Was at h
  split at h
  · next e =>
    subst e
    subst h
    rfl
  · exact h.al
theorem Was.val {x : Nat → Int} {L : List Rw} {t : It} (h : Was x L t) : t.val = (if livB L = true then (topR valB L).val else ⟨#[]⟩) := by
  unfold Was at h
  split at h
  · next e =>
    subst e
    subst h
    rfl
  · exact h.val
theorem rowB_op2 {r : Rw} (h : rowB r = true) (hk : r.kn = true) (h1 : ¬ r.op = 1) (h3 : ¬ r.op = 3) : r.val = ⟨#[]⟩ := by
  unfold rowB at h
  rw [Bool.and_eq_true] at h
  have h2 := h.2
  rw [if_pos hk] at h2
  unfold changeB at h2
  rw [Bool.and_eq_true] at h2
  have h4 := h2.2
  by_cases hq : r.op = 2
  · rw [if_pos hq, decide_eq_true_eq] at h4
    have h5 : r.val.data.size = 0 := h4.2
    have h6 : r.val.data = #[] := Array.eq_empty_of_size_eq_zero h5
    cases hv : r.val with
    | mk d =>
      rw [hv] at h6
      simp only at h6
      rw [h6]
  · rw [if_neg hq, if_neg h3, decide_eq_true_eq] at h4
    exact absurd h4 h1
/-- What the newest row leaves. -/
theorem more_older {x : Nat → Int} {L : List Rw} {r : Rw} {was now : It} (hw : Was x L was) (hn : IsMade x (L ++ [r]) now) (h0 : L ≠ []) (h : latB r (topR (fun _ => true) L) = false) :
    sameB now.hd.1 was.hd.1 now.hd.2 was.hd.2 = true ∧ now.kn = was.kn := by
  unfold Was at hw
  rw [if_neg h0] at hw
  obtain ⟨a, c, e1⟩ := hn.hd
  obtain ⟨b, d, e2⟩ := hw.hd
  have ek := hn.kn
  rw [topR_older h0 h] at e1 ek
  rw [e1, e2, ek, hw.kn]
  exact ⟨sameB_re _ _ _ _ _, rfl⟩
/-- What a newer row says. -/
theorem more_newer {x : Nat → Int} {L : List Rw} {r : Rw} {was now : It} (hw : Was x L was) (hn : IsMade x (L ++ [r]) now) (hr : rowB r = true) (h : Newer L r) :
    sameB now.hd.1 r.hd.1 now.hd.2 r.hd.2 = true ∧ now.kn = r.kn ∧ (r.kn = false → now.al = was.al ∧ now.val = was.val) ∧ (r.kn = true → r.op = 3 → now.al = was.al ∧ now.name = r.name) ∧
      (r.kn = true → ¬ r.op = 3 → now.al = (r.op == 1) ∧ now.val = r.val ∧ now.name = r.name) := by
  obtain ⟨a, c, e1⟩ := hn.hd
  have ek := hn.kn
  rw [h.top (p := fun _ => true) rfl] at e1 ek
  have hold : valB r = false → now.al = was.al ∧ now.val = was.val := fun hv => by
    refine ⟨by rw [hn.al, hw.al, livB_snoc hv], ?_⟩
    have e : topR valB (L ++ [r]) = topR valB L := by rw [topR_snoc, if_neg (by rw [hv]; exact Bool.false_ne_true)]
    rw [hn.val, hw.val, livB_snoc hv, e]
  refine ⟨?_, ek, fun hk => hold (by simp [valB, hk]), fun hk h3 => ⟨(hold (by simp [valB, hk, h3])).1, ?_⟩, fun hk h3 => ⟨?_, ?_, ?_⟩⟩
  · rw [e1]
    exact sameB_re r.hd a r.hd.1.ta c r.hd.1.tc
  · rw [hn.name, h.top hk]
  · rw [hn.al, livB_new h (by simp [valB, hk, h3])]
  · have hv : valB r = true := by simp [valB, hk, h3]
    rw [hn.val, livB_new h hv, h.top hv]
    by_cases h1 : r.op = 1
    · rw [if_pos (by simp [h1])]
    · rw [if_neg (by simp [h1]), rowB_op2 hr hk h1 h3]
  · rw [hn.name, h.top hk]
/-- Rows that count, with one more that is formed and has a place of its own. -/
theorem cntN_app (l : List Rw) (r : Rw) : ∀ k, k ≤ l.length → cntN (l ++ [r]) k = cntN l k
  | 0, _ => rfl
  | k + 1, h => by
    unfold cntN
    rw [cntN_app l r k (by omega), rwAt_app (by omega)]
theorem cntN_snoc {l : List Rw} {r : Rw} (hr : rowB r = true) (hp : ∀ q ∈ l, ¬ (q.hd.1.writer = r.hd.1.writer ∧ q.hd.1.seq = r.hd.1.seq)) : cntN (l ++ [r]) (l.length + 1) = cntN l l.length ++ [r] := by
  have e : hasPl r (cntN l l.length) = false := by
    rw [Bool.eq_false_iff]
    intro h
    unfold hasPl at h
    obtain ⟨q, hq, hb⟩ := List.any_eq_true.1 h
    refine hp q (cntN_mem l _ (Nat.le_refl _) q hq).1 ?_
    simp only [plK, rwPl, Bool.and_eq_true, beq_iff_eq] at hb
    exact ⟨hb.1.symm, hb.2.symm⟩
  show (if _ then _ else _) = _
  rw [rwAt_end, cntN_app l r _ (Nat.le_refl _), if_pos ⟨hr, e⟩]
theorem ofTok_snoc (cs : List Rw) (r : Rw) : ofTok r.hd.1.item (cs ++ [r]) = ofTok r.hd.1.item cs ++ [r] := by
  unfold ofTok
  rw [List.filter_append]
  congr 1
  simp [arrB_self]

/-- Rows of one's own; none of them lie in a slice without room. -/
def OwnR (S n : Nat) (l : List Rw) (v : Value) (w : World) : Prop := w.ownsRow S 36 130 v n (rwsC l) ∧ (n = 0 → ∃ a, v = .slice a 0 0)
/-- Rows of one's own stay: up to n of them, or these. -/
def OwE (S n M : Nat) (LL : List Rw) (w w' : World) : Prop := ∀ n' l v, (n' ≤ n ∨ (n' = M ∧ l = LL)) → OwnR S n' l v w → OwnR S n' l v w'
theorem OwE.ext {S n M : Nat} {LL : List Rw} {w w' : World} (h : Ext w w') : OwE S n M LL w w' := fun _ _ _ _ k => ⟨own_extM k.1 h, k.2⟩
/-- Blocks of all kinds but one stay. -/
def KeepT (T0 : TypeId) (w w' : World) : Prop := ∀ (b : Nat) (cs : Array Value) (T : TypeId) (fr : Nat × Nat), T ≠ T0 → w.heap[b]? = some (.cells cs T fr) → w'.heap[b]? = some (.cells cs T fr)
theorem KeepT.ext {T0 : TypeId} {w w' : World} (h : Ext w w') : KeepT T0 w w' := fun _ _ _ _ _ k => h.keep k
theorem KeepT.setRow {T0 : TypeId} {w : World} {g : Nat} {cs0 : Array Value} {fr0 : Nat × Nat} (h : w.heap[g]? = some (.cells cs0 T0 fr0)) (cs : Array Value) : KeepT T0 w (w.setRow g cs) := fun b cs' T fr hT k => by
  by_cases e : b = g
  · subst e
    rw [h] at k
    simp only [Option.some.injEq, Obj.cells.injEq] at k
    exact absurd k.2.1.symm hT
  · rw [setRow_other w g b cs e]
    exact k
theorem KeepT.own {T0 : TypeId} {w w' : World} (h : KeepT T0 w w') {B size n : Nat} {e : TypeId} {v : Value} {xs : List Value} (he : e ≠ T0) (k : w.ownsRow B e size v n xs) : w'.ownsRow B e size v n xs := by
  refine ⟨k.1, ?_⟩
  rcases k.2 with hn | ⟨g, cap, cur, h1, h2, h3, h4⟩
  · exact .inl hn
  · exact .inr ⟨g, cap, cur, h1, h2, h _ _ _ _ he h3, h4⟩
theorem KeepT.it {T0 : TypeId} {w w' : World} (h : KeepT T0 w w') {B : Nat} {t : It} (h1 : 27 ≠ T0) (h2 : 9 ≠ T0) (k : ItOwn B w t) : ItOwn B w' t := ⟨h.own h1 k.ts, h.own h2 k.sr, k.ok, k.byte, k.small, k.size, k.name, k.val⟩
theorem news_rws {w : World} {b off m c : Nat} {l2 : List Rw} (h2 : RwsAt w (some ⟨b, off, none⟩) m c l2) : ∀ j u, (rwsC l2)[j]? = some u → w.cell? ((⟨b, off, none⟩ : Addr).add j) = some u := fun j u hu => by
  have hl := h2.len
  have hj : j < m * 130 := by
    have := (List.getElem?_eq_some_iff.1 hu).1
    rw [rwsC_length, hl] at this
    exact this
  obtain ⟨b', off', e, hc⟩ := h2.at_ (by omega)
  injection e with e
  injection e with e1 e2
  subst e1
  subst e2
  have h1 := hc (j / 130) (by omega) (j % 130) (Nat.mod_lt _ (by omega))
  have h3 := rwsC_get l2 (j / 130) (j % 130) (by omega) (Nat.mod_lt _ (by omega))
  rw [show j / 130 * 130 + j % 130 = j by omega] at h3
  rw [h3] at hu
  rw [show off + j / 130 * 130 + j % 130 = off + j by omega] at h1
  rw [addr_add, h1]
  exact hu
theorem src_rws {w : World} {a : Option Addr} {n c : Nat} {l : List Rw} (h : RwsAt w a n c l) : Go.Src Try.prog 130 22 (.slice a n c) n (rwsC l) w := by
  have hl := h.len
  rcases Nat.eq_zero_or_pos n with q | q
  · subst q
    obtain rfl := List.eq_nil_of_length_eq_zero hl
    cases a with
    | none => exact Go.Src.ofNil w Try.underlying22 c
    | some a => exact Go.Src.ofSlice w Try.underlying22 a 0 c [] rfl (fun j u hu => by simp at hu) (fun u hu => by cases hu)
  · obtain ⟨b, off, rfl, _⟩ := h.at_ q
    exact Go.Src.ofSlice w Try.underlying22 _ n c (rwsC l) (by rw [rwsC_length, hl]) (news_rws h) (rwsC_one l)
theorem okw {α : Type} {v v' : α} {w w' : World} (h : (Result.ok v w : Result α) = .ok v' w') : w = w' := by
  injection h
/-- Rows joined to rows of one's own. -/
theorem app_own {w : World} {S n : Nat} {l : List Rw} {v : Value} (hown : OwnR S n l v w) {x : Value} {m : Nat} {l2 : List Rw} (hx : ∃ a c, x = .slice a m c ∧ RwsAt w a m c l2) (hsz : n + m ≤ 1000000) (hS : S ≤ w.heap.size) (ty : TypeId) :
    ∃ v' w', (Builtin.append_ #[22, 22] ty #[v, x]).run Try.prog w = .ok v' w' ∧ OwnR S (n + m) (l ++ l2) v' w' ∧ (Ext w w' ∨ (0 < n ∧ OwE S n (n + m) (l ++ l2) w w' ∧ KeepT 36 w w' ∧ Below S w w')) := by
  obtain ⟨a, c, rfl, h2⟩ := hx
  have hs := src_rws h2
  have hl2 := h2.len
  obtain ⟨i0, hi, hz0, hz1, hz2⟩ := info_parts info_rw
  rcases Nat.eq_zero_or_pos m with q | q
  · subst q
    obtain rfl := List.eq_nil_of_length_eq_zero hl2
    have hz1' := hz1
    rcases hown.1.2 with ⟨rfl, h0⟩ | ⟨g, cap, cur, rfl, h1, h3, h4, h5⟩
    · subst h0
      refine ⟨_, w, Go.run_append_nothing w 22 22 ty 36 i0 Try.underlying22 hi none 0 0 (Nat.le_refl _) _ (by rw [hz1]; exact hs), ?_, .inl (Ext.refl w)⟩
      rw [List.append_nil]
      exact hown
    · refine ⟨_, w, Go.run_append_nothing w 22 22 ty 36 i0 Try.underlying22 hi _ n cap h4 _ (by rw [hz1]; exact hs), ?_, .inl (Ext.refl w)⟩
      rw [List.append_nil]
      exact hown
  · obtain ⟨b, off, rfl, _⟩ := h2.at_ q
    have h63 : n + m ≤ maxLen := by unfold maxLen; omega
    have hnews := news_rws h2
    obtain ⟨v', w', hr, h3, h4, _⟩ := run_append_own (P := Try.prog) w S 22 ty 36 i0 (.agg (rwV rwN)) 130 304 Try.underlying22 hi hz0 hz1 hz2 (by kernel_rfl) (by decide) v n (rwsC l) hown.1 ⟨b, off, none⟩ m c (rwsC l2) (by rw [rwsC_length, hl2]) hnews (rwsC_one l2) h63 (by omega) hS
    refine ⟨v', w', hr, ⟨by rw [rwsC_append]; exact h3, fun h => by omega⟩, ?_⟩
    rcases hown.1.2 with ⟨rfl, h0⟩ | ⟨g, cap, cur, rfl, hg1, hg, hnc, hcm, hcs, htake⟩
    · refine .inl ?_
      have hr2 := run_append_nil (P := Try.prog) w 22 ty 36 i0 _ Try.underlying22 hi hz0 ⟨b, off, none⟩ m c (rwsC l2) (by rw [rwsC_length, hl2, hz1]) hnews q (by omega) (by rw [hz2]; omega)
      exact okw (hr2.symm.trans hr) ▸ (Ext.refl w).drew.alloc _
    · by_cases hroom : n + m ≤ cap
      · have hn0 : 0 < n := by
          rcases Nat.eq_zero_or_pos n with q0 | q0
          · obtain ⟨a0, e⟩ := hown.2 q0
            simp only [Value.slice.injEq] at e
            omega
          · exact q0
        have hlen := rwsC_length l2
        have hr2 := run_append_room (P := Try.prog) w 22 ty 36 i0 Try.underlying22 hi g n cap cur hg ⟨b, off, none⟩ m c (rwsC l2) (by rw [rwsC_length, hl2, hz1]) hnews (rwsC_one l2) hroom (by rw [hz1, hlen, hl2, hcs]; omega)
        have hr := okw (hr2.symm.trans hr)
        refine .inr ⟨hn0, ?_, by rw [← hr]; exact KeepT.setRow hg _, ?_⟩
        · intro n' l' v2 hn' h
          refine ⟨⟨h.1.1, ?_⟩, h.2⟩
          rcases h.1.2 with hh | ⟨g', cap', cur', rfl, k1, k2, k3, k4, k5, k6⟩
          · exact .inl hh
          · by_cases hgg : g' = g
            · subst hgg
              rw [hg] at k2
              simp only [Option.some.injEq, Obj.cells.injEq, and_true] at k2
              subst k2
              refine .inr ⟨g', cap', (cur.toList.take (n * i0.size) ++ rwsC l2 ++ cur.toList.drop (n * i0.size + (rwsC l2).length)).toArray, rfl, k1, ?_, k3, k4, ?_, ?_⟩
              · rw [← hr]
                exact setRow_heap w g' cur _ _ _ hg
              · rw [← k5, hz1]
                simp only [List.size_toArray, List.length_append, List.length_take, List.length_drop, Array.length_toList]
                omega
              · rw [hz1]
                simp only [List.append_assoc]
                rcases hn' with hn' | ⟨rfl, rfl⟩
                · rw [← k6, List.take_append_of_le_length (by rw [List.length_take, Array.length_toList]; omega), List.take_take, Nat.min_eq_left (by omega)]
                · rw [htake, ← List.append_assoc, rwsC_append]
                  refine List.take_left' ?_
                  rw [List.length_append, hlen, hown.1.1, hl2]
                  omega
            · refine .inr ⟨g', cap', cur', rfl, k1, ?_, k3, k4, k5, k6⟩
              rw [← hr, setRow_other w g g' _ hgg]
              exact k2
        · rw [← hr]
          exact below_setRow (Below.refl S w) hg1 _
      · refine .inl ?_
        have holds : ∀ j u, (rwsC l)[j]? = some u → w.cell? ((⟨g, 0, none⟩ : Addr).add j) = some u := hown.1.cells (g := g) rfl
        have hr2 := run_append_grow (P := Try.prog) w 22 ty 36 i0 _ Try.underlying22 hi hz0 ⟨g, 0, none⟩ n cap (rwsC l) (by rw [hown.1.1, hz1]) holds ⟨b, off, none⟩ m c (rwsC l2) (by rw [rwsC_length, hl2, hz1]) hnews (by omega) (by omega) (growslice_fits (by omega) (by rw [hz2]; omega))
        exact okw (hr2.symm.trans hr) ▸ (Ext.refl w).drew.alloc _
set_option maxRecDepth 100000 in
theorem build_rw0 (w : World) : (Instr.buildSlice 22 0 #[]).run Try.prog w = .ok (.slice (some ⟨w.heap.size, 0, none⟩) 0 0) (w.alloc (.cells #[] 36)) := by kernel_rfl
theorem own_rw0 {w : World} {S : Nat} (hS : S ≤ w.heap.size) : OwnR S 0 [] (.slice (some ⟨w.heap.size, 0, none⟩) 0 0) (w.alloc (.cells #[] 36)) :=
  ⟨⟨rfl, .inr ⟨w.heap.size, 0, #[], rfl, hS, heap_new w _ _ rfl, Nat.le_refl _, by unfold maxLen; omega, rfl, rfl⟩⟩, fun _ => ⟨_, rfl⟩⟩
theorem own_rw1 {w : World} {S : Nat} (hS : S ≤ w.heap.size) (p : Rw) : OwnR S 1 [p] (.slice (some ⟨w.heap.size, 0, none⟩) 1 1) (w.alloc (.cells (rwV p) 36)) :=
  ⟨⟨by rw [rwsC_length]; rfl, .inr ⟨w.heap.size, 1, rwV p, rfl, hS, heap_new w _ _ rfl, Nat.le_refl _, by unfold maxLen; omega, by rw [rwV_size], by
    rw [rwsC, rwsC, List.append_nil, ← rwL_arr]
    exact List.take_of_length_le (by rw [rwL_length]; omega)⟩⟩, fun h => by cases h⟩
theorem own_t {w : World} {S n : Nat} {l : List Rw} {v : Value} (h : OwnR S n l v w) : ∃ a c, v = .slice a n c := own_rwsl h.1
/-- A block for an item, whatever it says. -/
def ItB (S : Nat) (v : Value) (w : World) : Prop := ∃ (g : Nat) (cs : Array Value), v = .pointer (some ⟨g, 0, none⟩) ∧ S ≤ g ∧ w.heap[g]? = some (.cells cs 41 (0, 0)) ∧ cs.size = 146
/-- What stays while rows are joined and an item is stored. -/
structure McE (S n M : Nat) (LL : List Rw) (ph : Bool) (w w' : World) : Prop where
  own : OwE S n M LL w w'
  blk : ∀ v, ItB S v w → ItB S v w'
  its : ∀ t, ItOwn S w t → ItOwn S w' t
  said : ph = true → ∀ (g : Nat) (cs : Array Value), w.heap[g]? = some (.cells cs 41 (0, 0)) → w'.heap[g]? = some (.cells cs 41 (0, 0))
theorem McE.ext {S n M : Nat} {LL : List Rw} {ph : Bool} {w w' : World} (h : Ext w w') : McE S n M LL ph w w' :=
  ⟨OwE.ext h, fun _ ⟨g, cs, h1, h2, h3, h4⟩ => ⟨g, cs, h1, h2, h.keep h3, h4⟩, fun _ k => k.ext h, fun _ _ _ k => h.keep k⟩
theorem McE.le {S n M : Nat} {LL : List Rw} {w w' : World} (h : McE S n M LL true w w') : McE S n M LL false w w' := ⟨h.own, h.blk, h.its, fun k => by cases k⟩
theorem McE.rows {S n M : Nat} {LL : List Rw} {ph : Bool} {w w' : World} (h : OwE S n M LL w w') (k : KeepT 36 w w') : McE S n M LL ph w w' :=
  ⟨h, fun _ ⟨g, cs, h1, h2, h3, h4⟩ => ⟨g, cs, h1, h2, k _ _ _ _ (by decide) h3, h4⟩, fun _ q => k.it (by decide) (by decide) q, fun _ _ _ q => k _ _ _ _ (by decide) q⟩
theorem McE.store {S n M : Nat} {LL : List Rw} {w : World} {g : Nat} {cs0 : Array Value} (hg : w.heap[g]? = some (.cells cs0 41 (0, 0))) {cs : Array Value} (hs : cs.size = 146) : McE S n M LL false w (w.setRow g cs) := by
  have k := KeepT.setRow hg cs
  refine ⟨fun n' l v _ h => ⟨k.own (by decide) h.1, h.2⟩, fun v ⟨g', cs', h1, h2, h3, h4⟩ => ?_, fun _ q => k.it (by decide) (by decide) q, fun q => by cases q⟩
  by_cases e : g' = g
  · subst e
    exact ⟨g', cs, h1, h2, setRow_heap w g' cs0 cs _ _ hg, hs⟩
  · exact ⟨g', cs', h1, h2, by rw [setRow_other w g g' cs e]; exact h3, h4⟩
/-- Rows joined in a region that draws its order. -/
theorem luc_app {w : World} {o : Oper} {ev : Operand → Value} {w0 : World} {sp : Sp} {ph : Bool} (s x : Operand) (ho : o.op = .call { callee := .builtin .append, args := #[s, x], argTypes := #[22, 22] })
    {n : Nat} {l : List Rw} {v : Value} (hs : ev s = v) (hown : OwnR w0.heap.size n l v w) {u : Value} {m : Nat} {l2 : List Rw} (hu : ev x = u) (hx : ∃ a c, u = .slice a m c ∧ RwsAt w a m c l2) (hsz : n + m ≤ 1000000) (hE : Ext w0 w) {N M : Nat} {LL : List Rw} (hM : n = 0 ∨ (N = n ∧ M = n + m ∧ LL = l ++ l2))
    (hf : ∀ v' w', OwnR w0.heap.size (n + m) (l ++ l2) v' w' → Ext w0 w' → sp.holds v' w') : lexUponC Try.prog (Ext w0) (McE w0.heap.size N M LL ph) w sp ((execOp ev o).run Try.prog w) := by
  obtain ⟨v', w', hr, h1, h2⟩ := app_own hown hx hsz (Below.size hE) o.type
  have e : (execOp ev o).run Try.prog w = .ok (.value v') w' := by
    simp only [execOp, ho, resolve, invoke, builtin, Sem.run_bind, Sem.run_pure, Result.andThen_ok, List.map_toArray, List.map_cons, List.map_nil, hs, hu, hr]
  rw [e]
  rcases h2 with h2 | ⟨h2, h3, h4, h5⟩
  · exact ⟨hE.trans h2, McE.ext h2, hf v' w' h1 (hE.trans h2)⟩
  · have h6 : Ext w0 w' := Below.trans hE h5
    rcases hM with q | ⟨rfl, rfl, rfl⟩
    · omega
    · exact ⟨h6, McE.rows h3 h4, hf v' w' h1 h6⟩
/-- The same, ahead of which there are none. -/
theorem lu_app {w : World} {o : Oper} {ev : Operand → Value} {S : Nat} {F : Value → World → Prop} (s x : Operand) (ho : o.op = .call { callee := .builtin .append, args := #[s, x], argTypes := #[22, 22] })
    {v : Value} (hs : ev s = v) (hown : OwnR S 0 [] v w) {u : Value} {m : Nat} {l2 : List Rw} (hu : ev x = u) (hx : ∃ a c, u = .slice a m c ∧ RwsAt w a m c l2) (hsz : m ≤ 1000000) (hS : S ≤ w.heap.size)
    (hf : ∀ v' w', OwnR S m l2 v' w' → F v' w') : lexUpon Try.prog w (.ab F) ((execOp ev o).run Try.prog w) := by
  obtain ⟨v', w', hr, h1, h2⟩ := app_own hown hx (by omega) hS o.type
  have e : (execOp ev o).run Try.prog w = .ok (.value v') w' := by
    simp only [execOp, ho, resolve, invoke, builtin, Sem.run_bind, Sem.run_pure, Result.andThen_ok, List.map_toArray, List.map_cons, List.map_nil, hs, hu, hr]
  rw [e]
  rcases h2 with h2 | ⟨h2, _⟩
  · rw [Nat.zero_add, List.nil_append] at h1
    exact ⟨h2, hf v' w' h1⟩
  · omega
theorem lu_rw0 {w : World} {o : Oper} {ev : Operand → Value} {F : Value → World → Prop} (ho : o.op = .buildSlice 22 0 #[]) (hf : F (.slice (some ⟨w.heap.size, 0, none⟩) 0 0) (w.alloc (.cells #[] 36))) : lexUpon Try.prog w (.ab F) ((execOp ev o).run Try.prog w) := by
  simp only [execOp, ho, List.map_toArray, List.map_nil, Sem.run_bind, build_rw0, Result.andThen_ok, Sem.run_pure]
  exact ⟨(Ext.refl w).alloc _, hf⟩
theorem lu_mid {P : Program} {w : World} {o : Oper} {ev : Operand → Value} {x : Operand} {T : TypeId} {b off : Nat} {d : TypeDesc} (ho : o.op = .load T x) (hx : ev x = .pointer (some ⟨b, off, none⟩)) (cs : List Value) (hr : w.rangeAt b off cs) (hu : P.underlying T = some d) (hd : d.isRow = true) (hi : (P.info? T).map (·.size) = some cs.length) (A : Array Value) (hA : cs.toArray = A) :
    lexUpon P w (.ex (.agg A)) ((execOp ev o).run P w) := by
  subst hA
  simp only [execOp, ho, hx, Instr.loadAt, Instr.sureAddr, Sem.run_bind, Sem.run_pure, Result.andThen_ok, run_loadVar_mid w b off T cs d hr hu hd hi]
  exact ⟨Ext.refl _, rfl⟩
theorem lu_ext {P : Program} {w : World} {o : Oper} {ev : Operand → Value} {x : Operand} {i : Nat} {sp : Sp} (ho : o.op = .extract x i) {vs : Array Value} {v : Value} (hx : ev x = .tuple vs) (hv : vs[i]? = some v) (hf : sp.holds v w) : lexUpon P w sp ((execOp ev o).run P w) := by
  simp only [execOp, ho, hx, Instr.extract, hv, Sem.run_bind, Sem.run_pure, Result.andThen_ok]
  exact ⟨Ext.refl _, hf⟩
theorem lu_new {w : World} {o : Oper} {ev : Operand → Value} {S : Nat} (ho : o.op = .alloc 41) (hS : S ≤ w.heap.size) : lexUpon Try.prog w (.ab (ItB S)) ((execOp ev o).run Try.prog w) := by
  have hz := it_zero
  have hzs := itV_size itN
  obtain ⟨Z, hZ⟩ : ∃ z, itV itN = z := ⟨_, rfl⟩
  rw [hZ] at hz hzs
  have hb : (w.alloc (.cells Z 41)).heap[w.heap.size]? = some (.cells Z 41 (0, 0)) := heap_new w _ _ rfl
  simp only [execOp, ho]
  go_simp
  exact ⟨(Ext.refl w).alloc _, _, _, rfl, hS, hb, hzs⟩
/-- An item stored into a block of its own. -/
theorem luc_store {w w0 : World} {o : Oper} {ev : Operand → Value} {x y : Operand} {n M : Nat} {LL : List Rw} (ho : o.op = .store 41 x y) {v : Value} (hx : ev x = v) (hb : ItB w0.heap.size v w) {t : It} (hy : ev y = .agg (itV t)) (hE : Ext w0 w) :
    lexUponC Try.prog (Ext w0) (McE w0.heap.size n M LL false) w (.ab fun _ _ => True) ((execOp ev o).run Try.prog w) ∧
      GUpon (fun w' => ∃ g, v = .pointer (some ⟨g, 0, none⟩) ∧ w0.heap.size ≤ g ∧ w'.heap[g]? = some (.cells (itV t) 41 (0, 0)) ∧ ∀ t', ItOwn w0.heap.size w t' → ItOwn w0.heap.size w' t') ((execOp ev o).run Try.prog w) := by
  obtain ⟨g, cs, rfl, h2, h3, h4⟩ := hb
  have hm : McE w0.heap.size n M LL false w (w.setRow g (itV t)) := McE.store h3 (itV_size t)
  simp only [execOp, ho, hx, hy, Instr.storeAt, Instr.sureAddr, Sem.run_bind, Sem.run_pure, Result.andThen_ok, run_storeVar_row (P := Try.prog) w g 41 41 cs (itV t) h3 (by rw [itV_size]; kernel_rfl) (by rw [itV_size, h4]) (itV_one t)]
  exact ⟨⟨below_setRow hE h2 _, hm, trivial⟩, g, rfl, h2, setRow_heap w g cs _ _ _ h3, hm.its⟩
theorem luc_storeG {w w0 : World} {o : Oper} {ev : Operand → Value} {x y : Operand} (ho : o.op = .store 41 x y) {v : Value} (hx : ev x = v) (hb : ItB w0.heap.size v w) {t : It} (hy : ev y = .agg (itV t)) (hE : Ext w0 w) {p : World → Prop}
    (hf : ∀ (w' : World) (g : Nat), v = .pointer (some ⟨g, 0, none⟩) → w0.heap.size ≤ g → w'.heap[g]? = some (.cells (itV t) 41 (0, 0)) → (∀ t', ItOwn w0.heap.size w t' → ItOwn w0.heap.size w' t') → p w') : GUpon p ((execOp ev o).run Try.prog w) := by
  have h := (luc_store (n := 0) (M := 0) (LL := []) ho hx hb hy hE).2
  generalize (execOp ev o).run Try.prog w = r at h ⊢
  cases r with
  | ok x w' =>
    cases x <;> simp only [GUpon] at h ⊢
    case value u => obtain ⟨g, h1, h2, h3, h4⟩ := h; exact hf w' g h1 h2 h3 h4
    case skip => obtain ⟨g, h1, h2, h3, h4⟩ := h; exact hf w' g h1 h2 h3 h4
  | halt x w' => simp only [GUpon] at h
theorem wpList_load_midW {P : Program} {ops : Array Oper} {rest : List Oper} {op : Oper} {a : Act} {w : World} {Q : Exit → Act → World → Prop} (hw : Region.wanted op (yielded ops a.tmps) = true) (ty : TypeId) (x : Operand) (ho : op.op = .load ty x)
    (b o : Nat) (hx : a.eval x = .pointer (some ⟨b, o, none⟩)) (cs : List Value) (d : TypeDesc) (hc : w.rangeAt b o cs) (hu : P.underlying ty = some d) (hd : d.isRow = true) (hi : (P.info? ty).map (·.size) = some cs.length)
    (h : wpList P ops Q rest (a.put op.dst (.agg cs.toArray)) w) : wpList P ops Q (op :: rest) a w :=
  wpList_want hw fun _ hK => wp_load_mid ty x ho b o hx cs d hc hu hd hi (hK _ _ h)

theorem hdC_item (h : Hd) (j : Nat) (hj : j < 16) : some (hdC h (37 + j)) = some (.int .u8 (h.item j)) := by
  unfold hdC
  rw [if_neg (by omega), if_neg (by omega), if_neg (by omega), if_neg (by omega), if_neg (by omega), if_neg (by omega), if_pos (by omega), show 37 + j - 37 = j by omega]
theorem it_cells {w : World} {g : Nat} {t : It} {T : TypeId} {fr : Nat × Nat} (hb : w.heap[g]? = some (.cells (itV t) T fr)) :
    w.rangeAt g 16 (hdL t.hd.1) ∧ w.cell? ⟨g, 141, none⟩ = some (.bool t.kn) ∧ w.cell? ⟨g, 142, none⟩ = some (.bool t.al) ∧ w.cell? ⟨g, 143, none⟩ = some (.string t.name) ∧ w.cell? ⟨g, 145, none⟩ = some (.string t.val) := by
  refine ⟨range_hd (fun j hj => ?_), row_cell hb 141 (by omega), row_cell hb 142 (by omega), row_cell hb 143 (by omega), row_cell hb 145 (by omega)⟩
  rw [row_cell hb (16 + j) (by omega)]
  unfold itC
  rw [if_neg (by omega), if_pos (by omega), show 16 + j - 16 = j by omega]
theorem hdAtI (t : It) : HdAt (hdV t.hd.1) t.hd.1.time t.hd.1.writer t.hd.1.seq := ⟨hdV_size _, rowArr_get 125 _ 36 (by omega), rowArr_get 125 _ 0 (by omega), rowArr_get 125 _ 1 (by omega)⟩
theorem itN_own (B : Nat) (w : World) : ItOwn B w itN := ⟨World.ownsRow_nil _ _ _ _, World.ownsRow_nil _ _ _ _, hdN_ok, (fun u hu => by cases hu), (by show (0 : Nat) ≤ _; omega), (fun s hs => by cases hs), (by show (0 : Nat) ≤ _; omega), (by show (0 : Nat) ≤ _; omega)⟩
/-- What item.Of answers, in one. -/
theorem of_was (x : Nat → Int) (a : Option Addr) (n c : Nat) (l : List Rw) (w : World) (h : RwsAt w a n c l) (hs : n ≤ 100000) (L : List Rw) (hL : ofTok x (cntN l n) = L) :
    Calls Try.prog 13 #[.slice a n c, .agg (rowArr 16 fun j => .int .u8 (x j))] w fun e w' => ∃ t : It, e = .returned (.tuple #[.agg (itV t), .bool (decide (L ≠ []))]) ∧ Ext w w' ∧ ItOwn w.heap.size w' t ∧ Was x L t := by
  subst hL
  refine (of_any x a n c l w h hs).mono ?_
  rintro e w' ⟨hE, h⟩
  split at h
  · next e0 => exact ⟨itN, by rw [h, decide_eq_false (fun k => k e0)], hE, itN_own _ w', by unfold Was; rw [if_pos e0]⟩
  · next e0 =>
    obtain ⟨t, rfl, h1, h2⟩ := h
    exact ⟨t, by rw [decide_eq_true e0], hE, h1, by unfold Was; rw [if_neg e0]; exact h2⟩

end Go.Proofs.Ytldaligeckjhaaa
