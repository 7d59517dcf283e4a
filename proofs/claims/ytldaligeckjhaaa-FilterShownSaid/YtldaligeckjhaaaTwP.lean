/-
  The order of rows of bytes: laws. No conditions.
  Items of all rows: one list, whatever the rows' order of coming; rows that come twice. Plain Lean. No conditions.
-/
import Derived.Test.YtldaligeckjhaaaSorted
import Derived.Test.YtldaligeckjhaaaOfP
namespace Go.Proofs.Ytldaligeckjhaaa

theorem cmpI_self : ∀ a : List Int, cmpI a a = 0
  | [] => rfl
  | x :: a => by
    unfold cmpI
    rw [if_neg (by omega), if_neg (by omega)]
    exact cmpI_self a
theorem cmpI_lt : ∀ (a b c : List Int), a.length = b.length → b.length = c.length → cmpI a b < 0 → cmpI b c < 0 → cmpI a c < 0
  | [], [], [], _, _, h, _ => h
  | [], [], _ :: _, _, h, _, _ => by cases h
  | [], _ :: _, _, h, _, _, _ => by cases h
  | _ :: _, [], _, h, _, _, _ => by cases h
  | _ :: _, _ :: _, [], _, h, _, _ => by cases h
  | x :: a, y :: b, z :: c, h1, h2, h3, h4 => by
    unfold cmpI at h3 h4 ⊢
    have ih := cmpI_lt a b c (by simpa using h1) (by simpa using h2)
    by_cases e1 : x < y
    · by_cases e2 : y < z
      · rw [if_pos (by omega)]; omega
      · rw [if_neg e2] at h4
        by_cases e3 : z < y
        · rw [if_pos e3] at h4; omega
        · rw [if_pos (by omega)]; omega
    · rw [if_neg e1] at h3
      by_cases e2 : y < x
      · rw [if_pos e2] at h3; omega
      · rw [if_neg e2] at h3
        by_cases e3 : y < z
        · rw [if_pos (by omega)]; omega
        · rw [if_neg e3] at h4
          by_cases e4 : z < y
          · rw [if_pos e4] at h4; omega
          · rw [if_neg e4] at h4
            rw [if_neg (by omega), if_neg (by omega)]
            exact ih h3 h4
theorem cmpI_ge : ∀ (a b c : List Int), a.length = b.length → b.length = c.length → ¬ cmpI a b < 0 → ¬ cmpI b c < 0 → ¬ cmpI a c < 0
  | [], [], [], _, _, h, _ => h
  | [], [], _ :: _, _, h, _, _ => by cases h
  | [], _ :: _, _, h, _, _, _ => by cases h
  | _ :: _, [], _, h, _, _, _ => by cases h
  | _ :: _, _ :: _, [], _, h, _, _ => by cases h
  | x :: a, y :: b, z :: c, h1, h2, h3, h4 => by
    unfold cmpI at h3 h4 ⊢
    have ih := cmpI_ge a b c (by simpa using h1) (by simpa using h2)
    by_cases e1 : x < y
    · rw [if_pos e1] at h3; omega
    · rw [if_neg e1] at h3
      by_cases e3 : y < z
      · rw [if_pos e3] at h4; omega
      · rw [if_neg e3] at h4
        by_cases e2 : y < x
        · rw [if_neg (by omega), if_pos (by omega)]; omega
        · by_cases e4 : z < y
          · rw [if_neg (by omega), if_pos (by omega)]; omega
          · rw [if_neg e2] at h3
            rw [if_neg e4] at h4
            rw [if_neg (by omega), if_neg (by omega)]
            exact ih h3 h4

theorem cmpI_tot : ∀ (a b : List Int), a.length = b.length → a ≠ b → ¬ cmpI b a < 0 → cmpI a b < 0
  | [], [], _, h, _ => absurd rfl h
  | [], _ :: _, h, _, _ => by cases h
  | _ :: _, [], h, _, _ => by cases h
  | x :: a, y :: b, h1, h2, h3 => by
    unfold cmpI at h3 ⊢
    by_cases e1 : x < y
    · rw [if_pos e1]; omega
    · rw [if_neg e1]
      by_cases e2 : y < x
      · rw [if_pos e2] at h3; omega
      · rw [if_neg e2] at h3 ⊢
        rw [if_neg e1] at h3
        have e : x = y := by omega
        subst e
        exact cmpI_tot a b (by simpa using h1) (fun k => h2 (by rw [k])) h3

def tkK (f : Nat → Int) : List Int := (List.range 16).map f
theorem tkK_len (f : Nat → Int) : (tkK f).length = 16 := by simp [tkK]
theorem tkK_iff (f g : Nat → Int) : arrB 16 f g = true ↔ tkK f = tkK g := by
  unfold arrB tkK
  rw [decide_eq_true_iff]
  constructor
  · intro h
    exact List.map_congr_left fun j hj => h j (List.mem_range.1 hj)
  · intro h j hj
    have h1 := congrArg (fun l => l[j]?) h
    simpa [hj] using h1
/-- Rising keys with the same members are the same. -/
theorem keys_eq : ∀ (xs ys : List (List Int)), (∀ x ∈ xs, x.length = 16) → (∀ y ∈ ys, y.length = 16) → xs.Pairwise (fun a b => cmpI a b < 0) → ys.Pairwise (fun a b => cmpI a b < 0) → (∀ x, x ∈ xs ↔ x ∈ ys) → xs = ys
  | [], [], _, _, _, _, _ => rfl
  | [], y :: ys, _, _, _, _, h => absurd ((h y).2 List.mem_cons_self) (by simp)
  | x :: xs, [], _, _, _, _, h => absurd ((h x).1 List.mem_cons_self) (by simp)
  | x :: xs, y :: ys, hx, hy, px, py, h => by
    obtain ⟨px1, px2⟩ := List.pairwise_cons.1 px
    obtain ⟨py1, py2⟩ := List.pairwise_cons.1 py
    have lx := hx x List.mem_cons_self
    have ly := hy y List.mem_cons_self
    have hxy : x = y := by
      rcases List.mem_cons.1 ((h x).1 List.mem_cons_self) with e | e
      · exact e
      · rcases List.mem_cons.1 ((h y).2 List.mem_cons_self) with e2 | e2
        · exact e2.symm
        · have h1 := py1 x e
          have h2 := px1 y e2
          have h3 := cmpI_lt y x y (by omega) (by omega) h1 h2
          rw [cmpI_self] at h3
          omega
    subst hxy
    congr 1
    refine keys_eq xs ys (fun z hz => hx z (List.mem_cons_of_mem _ hz)) (fun z hz => hy z (List.mem_cons_of_mem _ hz)) px2 py2 fun z => ⟨fun hz => ?_, fun hz => ?_⟩
    · rcases List.mem_cons.1 ((h z).1 (List.mem_cons_of_mem _ hz)) with e | e
      · subst e
        have h3 := px1 z hz
        rw [cmpI_self] at h3
        omega
      · exact e
    · rcases List.mem_cons.1 ((h z).2 (List.mem_cons_of_mem _ hz)) with e | e
      · subst e
        have h3 := py1 z hz
        rw [cmpI_self] at h3
        omega
      · exact e
/-- The items of rows that count, rising. -/
structure FoldIs (cs : List Rw) (its : List It) : Prop where
  rise : (its.map fun t => tkK t.tok).Pairwise (fun a b => cmpI a b < 0)
  made : ∀ t ∈ its, IsMade t.tok (ofTok t.tok cs) t ∧ ofTok t.tok cs ≠ []
  all : ∀ r ∈ cs, ∃ t ∈ its, tkK t.tok = tkK r.hd.1.item
theorem FoldIs.mem {cs : List Rw} {its : List It} (h : FoldIs cs its) (k : List Int) : k ∈ (its.map fun t => tkK t.tok) ↔ ∃ r ∈ cs, tkK r.hd.1.item = k := by
  constructor
  · intro hk
    obtain ⟨t, ht, rfl⟩ := List.mem_map.1 hk
    have h1 := (h.made t ht).2
    obtain ⟨r, hr⟩ := List.exists_mem_of_ne_nil _ h1
    obtain ⟨h2, h3⟩ := ofTok_mem hr
    exact ⟨r, h2, ((tkK_iff _ _).1 h3).symm⟩
  · rintro ⟨r, hr, rfl⟩
    obtain ⟨t, ht, e⟩ := h.all r hr
    exact List.mem_map.2 ⟨t, ht, e⟩
theorem FoldIs.one {cs : List Rw} {xs ys : List It} (h : FoldIs cs xs) (k : FoldIs cs ys) : (xs.map fun t => tkK t.tok) = (ys.map fun t => tkK t.tok) :=
  keys_eq _ _ (fun x hx => by obtain ⟨t, _, rfl⟩ := List.mem_map.1 hx; exact tkK_len _) (fun x hx => by obtain ⟨t, _, rfl⟩ := List.mem_map.1 hx; exact tkK_len _) h.rise k.rise fun x => (h.mem x).trans (k.mem x).symm
/-- The same rows: the same items, one by one. -/
theorem FoldIs.same {cs : List Rw} {xs ys : List It} (h : FoldIs cs xs) (k : FoldIs cs ys) : xs.length = ys.length ∧ ∀ i, i < xs.length → ∀ B, SmR (xs.getD i itN) (ys.getD i itN) (bytesL (xs.getD i itN).hd.1 (xs.getD i itN).hd.2) (bytesL (ys.getD i itN).hd.1 (ys.getD i itN).hd.2) B → B = true := by
  have e := h.one k
  have hl : xs.length = ys.length := by
    have := congrArg List.length e
    simpa using this
  refine ⟨hl, fun i hi B hB => ?_⟩
  have e1 := congrArg (fun l => l[i]?) e
  simp only [List.getElem?_map, List.getElem?_eq_getElem hi, List.getElem?_eq_getElem (show i < ys.length by omega), Option.map_some, Option.some.injEq] at e1
  have gx : xs.getD i itN = xs[i] := by rw [List.getD_eq_getElem?_getD, List.getElem?_eq_getElem hi]; rfl
  have gy : ys.getD i itN = ys[i] := by rw [List.getD_eq_getElem?_getD, List.getElem?_eq_getElem (show i < ys.length by omega)]; rfl
  rw [gx, gy] at hB
  have hq := (tkK_iff _ _).2 e1
  have h1 := (h.made xs[i] (List.getElem_mem _)).1
  have h2 := (k.made ys[i] (List.getElem_mem _)).1
  rw [ofTok_congr hq cs] at h1
  have hm := same_made h1 h2
  exact hB.2.2.2 hq hm.1 hm.2.1 hm.2.2.1 hm.2.2.2.1 hm.2.2.2.2.1 hm.2.2.2.2.2.1
/-- One row more among those that count. -/
def cntS (acc : List Rw) (r : Rw) : List Rw := if rowB r = true ∧ hasPl r acc = false then acc ++ [r] else acc
theorem cntN_fold (l : List Rw) : ∀ k, k ≤ l.length → cntN l k = (l.take k).foldl cntS []
  | 0, _ => by simp [cntN]
  | k + 1, h => by
    have ih := cntN_fold l k (by omega)
    have hr : rwAt l k = l[k]'(by omega) := by
      unfold rwAt
      rw [List.getD_eq_getElem?_getD, List.getElem?_eq_getElem (by omega)]
      rfl
    rw [List.take_add_one, List.getElem?_eq_getElem (show k < l.length by omega), List.foldl_append]
    show (if _ then _ else _) = _
    rw [hr, ih]
    rfl
theorem cntA (l : List Rw) : cntN l l.length = l.foldl cntS [] := by
  rw [cntN_fold l l.length (Nat.le_refl _), List.take_length]
theorem fold_filter : ∀ (l acc : List Rw), (l.filter rowB).foldl cntS acc = l.foldl cntS acc
  | [], _ => rfl
  | r :: l, acc => by
    by_cases h : rowB r = true
    · rw [List.filter_cons_of_pos h, List.foldl_cons, List.foldl_cons, fold_filter l]
    · rw [List.filter_cons_of_neg h, List.foldl_cons, fold_filter l]
      have e : cntS acc r = acc := if_neg (fun k => h k.1)
      rw [e]
theorem hasPl_app {r : Rw} {acc m : List Rw} (h : hasPl r acc = true) : hasPl r (acc ++ m) = true := by
  unfold hasPl at h ⊢
  rw [List.any_append, h]
  rfl
theorem hasPl_step {r q : Rw} {acc : List Rw} (h : hasPl r acc = true) : hasPl r (cntS acc q) = true := by
  unfold cntS
  split
  · exact hasPl_app h
  · exact h
theorem hasPl_fold {r : Rw} : ∀ (l acc : List Rw), hasPl r acc = true → hasPl r (l.foldl cntS acc) = true
  | [], _, h => h
  | q :: l, acc, h => by
    rw [List.foldl_cons]
    exact hasPl_fold l _ (hasPl_step h)
theorem hasPl_all : ∀ (l acc : List Rw) (r : Rw), r ∈ l → rowB r = true → hasPl r (l.foldl cntS acc) = true
  | q :: l, acc, r, h, hb => by
    rw [List.foldl_cons]
    rcases List.mem_cons.1 h with e | e
    · subst e
      refine hasPl_fold l _ ?_
      unfold cntS
      by_cases hp : hasPl r acc = false
      · rw [if_pos ⟨hb, hp⟩]
        unfold hasPl
        rw [List.any_append]
        simp [plK]
      · rw [if_neg (fun k => hp k.2)]
        simpa using hp
    · exact hasPl_all l _ r e hb
theorem fold_stay : ∀ (l acc : List Rw), (∀ r ∈ l, hasPl r acc = true) → l.foldl cntS acc = acc
  | [], _, _ => rfl
  | q :: l, acc, h => by
    have e : cntS acc q = acc := if_neg (fun k => by rw [h q List.mem_cons_self] at k; exact absurd k.2 (by decide))
    rw [List.foldl_cons, e]
    exact fold_stay l acc fun r hr => h r (List.mem_cons_of_mem _ hr)
/-- Rows that come twice, and only those that are formed. -/
theorem cnt_twice (l : List Rw) : cntN (l.filter rowB ++ l.filter rowB) (l.filter rowB ++ l.filter rowB).length = cntN l l.length := by
  rw [cntA, cntA, List.foldl_append, fold_filter l []]
  exact fold_stay _ _ fun r hr => by
    obtain ⟨h1, h2⟩ := List.mem_filter.1 hr
    exact hasPl_all l [] r h1 h2

end Go.Proofs.Ytldaligeckjhaaa
