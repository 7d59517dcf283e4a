/-
  Tokens sorted and compacted: they rise, and are those of the tags. No program in sight.
-/
import Derived.Test.YtdgbcieopkilcaaDoorTokens
namespace Go.Proofs.YtdgbcieopkilcaaDoor
open Go.ChangeShapes Go.WideShapes Go.ChangeAt Go.RowKit

/-- A token's bytes. -/
def l16 (t : Nat → Int) : List Int := (List.range 16).map t
theorem l16_length (t : Nat → Int) : (l16 t).length = 16 := by simp [l16]
theorem eqTok_iff (f g : Nat → Int) : eqTok f g = true ↔ l16 f = l16 g := by
  unfold eqTok eqN l16
  constructor
  · intro h
    have h1 := of_decide_eq_true h
    apply List.map_congr_left
    intro j hj
    exact h1 j (by simpa using hj)
  · intro h
    apply decide_eq_true
    intro j hj
    have h1 := congrArg (fun l : List Int => l[j]?) h
    simpa [List.getElem?_map, List.getElem?_range hj] using h1
theorem cmpI_eq : ∀ (a b : List Int), a.length = b.length → cmpI a b = 0 → a = b
  | [], [], _, _ => rfl
  | [], _ :: _, h, _ => by cases h
  | _ :: _, [], h, _ => by cases h
  | x :: a, y :: b, h1, h2 => by
    unfold cmpI at h2
    by_cases e1 : x < y
    · rw [if_pos e1] at h2; cases h2
    · rw [if_neg e1] at h2
      by_cases e2 : y < x
      · rw [if_pos e2] at h2; cases h2
      · rw [if_neg e2] at h2
        rw [cmpI_eq a b (by simpa using h1) h2, show x = y by omega]
theorem cmpI_anti : ∀ (a b : List Int), a.length = b.length → cmpI b a = - cmpI a b
  | [], [], _ => rfl
  | [], _ :: _, h => by cases h
  | _ :: _, [], h => by cases h
  | x :: a, y :: b, h1 => by
    unfold cmpI
    by_cases e1 : x < y
    · rw [if_pos e1, if_neg (by omega), if_pos e1]; rfl
    · by_cases e2 : y < x
      · rw [if_pos e2, if_neg e1, if_pos e2]
      · rw [if_neg e2, if_neg e1, if_neg e1, if_neg e2]
        exact cmpI_anti a b (by simpa using h1)
/-- One token is less. -/
def LtT (a b : Nat → Int) : Prop := cmpTok a b < 0
theorem ltT_trans {a b c : Nat → Int} (h : LtT a b) (k : LtT b c) : LtT a c := cmpI_lt _ _ _ (by simp) (by simp) h k
theorem ltT_irr {a : Nat → Int} (h : LtT a a) : False := by
  unfold LtT cmpTok at h
  rw [cmpI_self] at h
  omega
theorem ltT_of {a b : Nat → Int} (h : ¬ cmpTok b a < 0) (hne : eqTok b a = false) : LtT a b := by
  unfold LtT cmpTok at *
  have h1 := cmpI_anti ((List.range 16).map b) ((List.range 16).map a) (by simp)
  have h2 : cmpI ((List.range 16).map b) ((List.range 16).map a) ≠ 0 := fun e => by
    have h3 := cmpI_eq _ _ (by simp) e
    rw [(eqTok_iff b a).2 h3] at hne
    cases hne
  omega
theorem cmp_l16 {a b c d : Nat → Int} (h : l16 a = l16 c) (k : l16 b = l16 d) : cmpTok a b = cmpTok c d := by
  unfold cmpTok
  unfold l16 at h k
  rw [h, k]
theorem ltT_congr {a b c d : Nat → Int} (h : l16 a = l16 c) (k : l16 b = l16 d) (hl : LtT a b) : LtT c d := by
  unfold LtT at *
  rw [← cmp_l16 h k]
  exact hl

/-- What is kept of the first k of a sorted row. -/
structure CptN (ts : List (Nat → Int)) (k : Nat) : Prop where
  up : (cptN ts k).Pairwise LtT
  last : 1 ≤ k → ∃ l x, cptN ts k = l ++ [x] ∧ l16 x = l16 (tkAt ts (k - 1))
  from_ : ∀ x ∈ cptN ts k, ∃ i, i < k ∧ x = tkAt ts i
  has : ∀ i, i < k → ∃ x ∈ cptN ts k, l16 x = l16 (tkAt ts i)
theorem cptN_says {ts : List (Nat → Int)} (h : ∀ i j, i < j → j < ts.length → ¬ cmpTok (tkAt ts j) (tkAt ts i) < 0) : ∀ k, k ≤ ts.length → CptN ts k
  | 0, _ => ⟨List.Pairwise.nil, fun h => absurd h (by omega), fun x hx => absurd hx (by simp [cptN]), fun i hi => absurd hi (by omega)⟩
  | k + 1, hk => by
    have ih := cptN_says h k (by omega)
    by_cases h0 : k = 0
    · subst h0
      have e : cptN ts (0 + 1) = [tkAt ts 0] := rfl
      refine ⟨by rw [e]; exact List.pairwise_singleton _ _, fun _ => ⟨[], _, e, rfl⟩, fun x hx => ?_, fun i hi => ?_⟩
      · rw [e] at hx
        exact ⟨0, by omega, by simpa using hx⟩
      · obtain rfl : i = 0 := by omega
        exact ⟨_, by rw [e]; simp, rfl⟩
    · obtain ⟨l, x, hl, hx⟩ := ih.last (by omega)
      by_cases he : eqTok (tkAt ts k) (tkAt ts (k - 1)) = true
      · have e := cptN_same (ts := ts) (k := k) (by omega) he
        have he' := (eqTok_iff _ _).1 he
        refine ⟨by rw [e]; exact ih.up, fun _ => ⟨l, x, by rw [e]; exact hl, by rw [hx, Nat.add_sub_cancel]; exact he'.symm⟩, fun y hy => ?_, fun i hi => ?_⟩
        · rw [e] at hy
          obtain ⟨i, h1, h2⟩ := ih.from_ y hy
          exact ⟨i, by omega, h2⟩
        · rw [e]
          by_cases h1 : i = k
          · subst h1
            exact ⟨x, by rw [hl]; simp, by rw [hx]; exact he'.symm⟩
          · exact ih.has i (by omega)
      · have he : eqTok (tkAt ts k) (tkAt ts (k - 1)) = false := by simpa using he
        have e := cptN_new (ts := ts) (k := k) (by omega) he
        have hlt : LtT (tkAt ts (k - 1)) (tkAt ts k) := ltT_of (h (k - 1) k (by omega) (by omega)) he
        refine ⟨?_, fun _ => ⟨_, _, e, by rw [Nat.add_sub_cancel]⟩, fun y hy => ?_, fun i hi => ?_⟩
        · rw [e, List.pairwise_append]
          refine ⟨ih.up, List.pairwise_singleton _ _, fun y hy z hz => ?_⟩
          obtain rfl : z = tkAt ts k := by simpa using hz
          have hxk : LtT x (tkAt ts k) := ltT_congr hx.symm rfl hlt
          have hup := ih.up
          rw [hl] at hy hup
          rcases List.mem_append.1 hy with h1 | h1
          · exact ltT_trans ((List.pairwise_append.1 hup).2.2 y h1 x (by simp)) hxk
          · obtain rfl : y = x := by simpa using h1
            exact hxk
        · rw [e] at hy
          rcases List.mem_append.1 hy with h1 | h1
          · obtain ⟨i, h2, h3⟩ := ih.from_ y h1
            exact ⟨i, by omega, h3⟩
          · exact ⟨k, by omega, by simpa using h1⟩
        · rw [e]
          by_cases h1 : i = k
          · subst h1
            exact ⟨_, by simp, rfl⟩
          · obtain ⟨y, h2, h3⟩ := ih.has i (by omega)
            exact ⟨y, List.mem_append.2 (.inl h2), h3⟩
theorem rises_pw : ∀ {ts : List (Nat → Int)}, ts.Pairwise LtT → risesB ts = true
  | [], _ => rfl
  | [_], _ => rfl
  | a :: b :: l, h => by
    unfold risesB
    have h1 := List.pairwise_cons.1 h
    have h2 : cmpTok a b < 0 := h1.1 b (by simp)
    rw [if_neg (by omega)]
    exact rises_pw h1.2
/-- Rows that rise and have the same tokens are the same. -/
theorem same_pw : ∀ (ts us : List (Nat → Int)), ts.Pairwise LtT → us.Pairwise LtT → (∀ x ∈ ts, ∃ y ∈ us, l16 y = l16 x) → (∀ y ∈ us, ∃ x ∈ ts, l16 x = l16 y) → ts.map l16 = us.map l16
  | [], [], _, _, _, _ => rfl
  | [], y :: us, _, _, _, h => by
    obtain ⟨x, hx, _⟩ := h y (by simp)
    cases hx
  | x :: ts, [], _, _, h, _ => by
    obtain ⟨y, hy, _⟩ := h x (by simp)
    cases hy
  | x :: ts, y :: us, h1, h2, h3, h4 => by
    have p1 := List.pairwise_cons.1 h1
    have p2 := List.pairwise_cons.1 h2
    have hxy : l16 x = l16 y := by
      obtain ⟨y', hy', e1⟩ := h3 x (by simp)
      obtain ⟨x', hx', e2⟩ := h4 y (by simp)
      rcases List.mem_cons.1 hy' with rfl | hy'
      · exact e1.symm
      · rcases List.mem_cons.1 hx' with rfl | hx'
        · exact e2
        · exact (ltT_irr (ltT_trans (ltT_congr rfl e1 (p2.1 y' hy')) (ltT_congr rfl e2 (p1.1 x' hx')))).elim
    have ih := same_pw ts us p1.2 p2.2 (fun z hz => by
      obtain ⟨y', hy', e⟩ := h3 z (by simp [hz])
      rcases List.mem_cons.1 hy' with rfl | hy'
      · exact (ltT_irr (ltT_congr (hxy.trans e) rfl (p1.1 z hz))).elim
      · exact ⟨y', hy', e⟩) (fun z hz => by
      obtain ⟨x', hx', e⟩ := h4 z (by simp [hz])
      rcases List.mem_cons.1 hx' with rfl | hx'
      · exact (ltT_irr (ltT_congr (hxy.symm.trans e) rfl (p2.1 z hz))).elim
      · exact ⟨x', hx', e⟩)
    rw [List.map_cons, List.map_cons, hxy, ih]

/-- What keys.Tokens answers, as a set. -/
structure TkSet {gb gm top : Nat} {f : Nat → Int} (b : Blinder gb gm top f) (s' : b.St) (ss : List ByteArray) (vs : List (Nat → Int)) : Prop where
  up : vs.Pairwise LtT
  from_ : ∀ v ∈ vs, ∃ x ∈ ss, b.tok s' (strB x) = some v
  has : ∀ x ∈ ss, ∃ t, b.tok s' (strB x) = some t ∧ ∃ v ∈ vs, l16 v = l16 t
theorem tkAt_map (us : List Tk) {i : Nat} (hi : i < us.length) : tkAt (us.map (·.1)) i = (us.getD i default).1 := by
  unfold tkAt
  rw [List.getD_eq_getElem?_getD, List.getD_eq_getElem?_getD, List.getElem?_map, List.getElem?_eq_getElem hi]
  rfl
theorem tokens_set {gb gm top : Nat} {f : Nat → Int} {b : Blinder gb gm top f} {s s' : b.St} {ss : List ByteArray} {ts us : List Tk} (h : Toks b s s' ss ss.length ts) (hs : Srt ts us) : TkSet b s' ss (cpt (us.map (·.1))) := by
  have hl : us.length = ss.length := by rw [hs.perm.length_eq, h.len]
  have hc : CptN (us.map (·.1)) (us.map (·.1)).length := cptN_says (fun i j hij hj => by
    have hj' : j < us.length := by simpa using hj
    rw [tkAt_map us hj', tkAt_map us (by omega)]
    exact hs.up i j hij hj') _ (Nat.le_refl _)
  refine ⟨hc.up, fun v hv => ?_, fun x hx => ?_⟩
  · obtain ⟨i, hi, rfl⟩ := hc.from_ v hv
    have hi' : i < us.length := by simpa using hi
    rw [tkAt_map us hi', List.getD_eq_getElem?_getD, List.getElem?_eq_getElem hi']
    have hm : us[i] ∈ ts := hs.perm.subset (List.getElem_mem hi')
    obtain ⟨j, hj, e⟩ := List.getElem_of_mem hm
    have h1 := h.tok j (by rw [← h.len]; exact hj)
    rw [List.getD_eq_getElem?_getD, List.getElem?_eq_getElem (by rw [h.len] at hj; exact hj), List.getD_eq_getElem?_getD, List.getElem?_eq_getElem hj, e] at h1
    exact ⟨_, List.getElem_mem _, h1⟩
  · obtain ⟨j, hj, e⟩ := List.getElem_of_mem hx
    have h1 := h.tok j hj
    rw [List.getD_eq_getElem?_getD, List.getElem?_eq_getElem hj, Option.getD_some, e] at h1
    refine ⟨_, h1, ?_⟩
    have hj' : j < ts.length := by rw [h.len]; exact hj
    have hm : ts[j] ∈ us := hs.perm.symm.subset (List.getElem_mem hj')
    obtain ⟨i, hi, e2⟩ := List.getElem_of_mem hm
    obtain ⟨v, hv, e3⟩ := hc.has i (by simpa using hi)
    refine ⟨v, hv, ?_⟩
    rw [e3, tkAt_map us hi, List.getD_eq_getElem?_getD, List.getElem?_eq_getElem hi, List.getD_eq_getElem?_getD, List.getElem?_eq_getElem hj']
    simp [e2]
/-- The same tags, turned round and as often as may be: the same tokens. -/
theorem tkSet_same {gb gm top : Nat} {f : Nat → Int} {b : Blinder gb gm top f} {s1 s2 : b.St} {ss ls : List ByteArray} {vs ws : List (Nat → Int)} (h1 : TkSet b s1 ss vs) (h2 : TkSet b s2 ls ws) (hg : ∀ ys u, b.tok s1 ys = some u → b.tok s2 ys = some u) (h3 : ∀ x ∈ ss, x ∈ ls) (h4 : ∀ x ∈ ls, x ∈ ss) : vs.map l16 = ws.map l16 := by
  refine same_pw vs ws h1.up h2.up (fun v hv => ?_) (fun w hw => ?_)
  · obtain ⟨x, hx, e⟩ := h1.from_ v hv
    obtain ⟨t, e1, w, hw, e2⟩ := h2.has x (h3 x hx)
    rw [hg _ _ e] at e1
    obtain rfl := Option.some.inj e1
    exact ⟨w, hw, e2⟩
  · obtain ⟨x, hx, e⟩ := h2.from_ w hw
    obtain ⟨t, e1, v, hv, e2⟩ := h1.has x (h4 x hx)
    rw [hg _ _ e1] at e
    obtain rfl := Option.some.inj e
    exact ⟨v, hv, e2⟩

end Go.Proofs.YtdgbcieopkilcaaDoor
