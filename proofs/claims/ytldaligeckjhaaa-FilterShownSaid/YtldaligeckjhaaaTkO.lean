/-
  Rows of tokens of a call's own: their cells; appended to. No conditions.
-/
import Derived.Test.YtldaligeckjhaaaSorted
namespace Go.Proofs.Ytldaligeckjhaaa
open Go.ChangeShapes Go.WideShapes Go.ChangeAt Go.RowKit

/-- Tokens' cells. -/
def tk1 (t : Nat → Int) : List Value := (List.range 16).map fun j => .int .u8 (t j)
def tkC : List (Nat → Int) → List Value
  | [] => []
  | t :: ts => tk1 t ++ tkC ts
theorem tk1_length (t : Nat → Int) : (tk1 t).length = 16 := by simp [tk1]
theorem tk1_get (t : Nat → Int) (j : Nat) (hj : j < 16) : (tk1 t)[j]? = some (.int .u8 (t j)) := by
  unfold tk1
  rw [List.getElem?_map, List.getElem?_range hj]
  rfl
theorem tkC_length : ∀ ts : List (Nat → Int), (tkC ts).length = ts.length * 16
  | [] => rfl
  | t :: ts => by rw [tkC, List.length_append, tk1_length, tkC_length ts, List.length_cons]; omega
theorem tkC_append : ∀ (ts us : List (Nat → Int)), tkC (ts ++ us) = tkC ts ++ tkC us
  | [], us => rfl
  | t :: ts, us => by rw [List.cons_append, tkC, tkC, tkC_append ts us, List.append_assoc]
theorem tkC_get : ∀ (ts : List (Nat → Int)) (i j : Nat), i < ts.length → j < 16 → (tkC ts)[i * 16 + j]? = some (.int .u8 ((ts.getD i fun _ => 0) j))
  | [], i, j, h, _ => by simp at h
  | t :: ts, 0, j, _, hj => by
    rw [tkC, List.getElem?_append_left (by rw [tk1_length]; omega), Nat.zero_mul, Nat.zero_add, tk1_get t j hj]
    rfl
  | t :: ts, i + 1, j, h, hj => by
    rw [tkC, List.getElem?_append_right (by rw [tk1_length]; omega), tk1_length, show (i + 1) * 16 + j - 16 = i * 16 + j by omega, tkC_get ts i j (by simpa using h) hj]
    simp
theorem own_ts {w : World} {B : Nat} {v : Value} {n : Nat} {ts : List (Nat → Int)} (h : w.ownsRow B 27 16 v n (tkC ts)) (hb : ∀ t ∈ ts, ∀ j, j < 16 → 0 ≤ t j ∧ t j < 256) (hs : n ≤ 140737488355328) : ∃ a c, v = .slice a n c ∧ TsAt w a n c ts := by
  have hl : ts.length = n := by
    have := h.1
    rw [tkC_length] at this
    omega
  rcases h.2 with ⟨rfl, rfl⟩ | ⟨g, cap, cur, rfl, _, _, hc1, hc2, _, _⟩
  · exact ⟨none, 0, rfl, hl, Nat.le_refl _, by omega, by omega, hb, fun h0 => by omega, fun _ => rfl⟩
  · refine ⟨_, cap, rfl, hl, hc1, by unfold maxLen at hc2; omega, hs, hb, fun h0 => ⟨g, 0, rfl, fun i hi j hj => ?_⟩, fun h0 => by cases h0⟩
    have h1 := h.cells (g := g) rfl (i * 16 + j) _ (tkC_get ts i j (by omega) hj)
    rw [addr_add] at h1
    rw [← h1]
    simp

set_option maxRecDepth 100000 in
theorem info_tok : (Try.prog.info? 27).map (fun i => (i.zero, i.size, i.bytes)) = some (some (.agg (rowArr 16 fun _ => .int .u8 0)), 16, 16) := by kernel_rfl

theorem append_tk {w : World} {ops : Array Oper} {rest : List Oper} {o : Oper} {a : Act} {Q : Exit → Act → World → Prop} (hgd : o.guard = none) (s x : Operand) (ho : o.op = .call { callee := .builtin .append, args := #[s, x], argTypes := #[28, 28] })
    (B : Nat) (v : Value) (n : Nat) (ts : List (Nat → Int)) (hs : a.eval s = v) (hown : w.ownsRow B 27 16 v n (tkC ts))
    (q c : Nat) (t : Nat → Int) (hx : a.eval x = .slice (some ⟨q, 0, none⟩) 1 c) (hq : ∀ j, j < 16 → w.cell? ⟨q, j, none⟩ = some (.int .u8 (t j))) (hsz : n ≤ 1000000) (hB : B ≤ w.heap.size)
    (h : ∀ v' w', w'.ownsRow B 27 16 v' (n + 1) (tkC (ts ++ [t])) → w.grownBy w' v.ownBlock → wpList Try.prog ops Q rest (a.put o.dst v') w') : wpList Try.prog ops Q (o :: rest) a w := by
  obtain ⟨i0, hi, hz0, hz1, hz2⟩ := info_parts info_tok
  refine wpList_append_own w hgd s x 28 ho B 27 i0 (.agg (rowArr 16 fun _ => .int .u8 0)) 16 16 Try.underlying28 hi hz0 hz1 hz2 (by kernel_rfl) (by decide) v n (tkC ts) hs hown ⟨q, 0, none⟩ 1 c (tk1 t) hx (by rw [tk1_length]) (fun j u hu => ?_) (fun u hu => ?_) (by unfold maxLen; omega) (by omega) hB ?_
  · have hj : j < 16 := by
      have := (List.getElem?_eq_some_iff.1 hu).1
      rwa [tk1_length] at this
    rw [tk1_get t j hj] at hu
    obtain rfl := Option.some.inj hu
    rw [addr_add, Nat.zero_add]
    exact hq j hj
  · obtain ⟨j, _, rfl⟩ := List.mem_map.1 hu
    rfl
  · intro v' w' h1 h2 _
    refine h v' w' ?_ h2
    rw [tkC_append, tkC, tkC, List.append_nil]
    exact h1

theorem own_ts1 {w : World} {B : Nat} {a : Option Addr} {n c : Nat} {ts : List (Nat → Int)} (h : w.ownsRow B 27 16 (.slice a n c) n (tkC ts)) (hb : ∀ t ∈ ts, ∀ j, j < 16 → 0 ≤ t j ∧ t j < 256) (hs : n ≤ 140737488355328) : TsAt w a n c ts := by
  obtain ⟨a1, c1, h1, h2⟩ := own_ts h hb hs
  simp only [Value.slice.injEq, true_and] at h1
  obtain ⟨rfl, rfl⟩ := h1
  exact h2

end Go.Proofs.Ytldaligeckjhaaa
