/-
  Rows of strings; the tags turned round. No conditions.
-/
import Derived.Test.YtdgbcieopkilcaaDoorKoP
import Derived.Test.YtdgbcieopkilcaaDoorFewS
import Derived.Test.YtdgbcieopkilcaaDoorKeys
import Derived.Test.YtdgbcieopkilcaaDoorAwakeK
import Derived.Test.YtdgbcieopkilcaaDoorLess
namespace Go.Proofs.YtdgbcieopkilcaaDoor
open Go.ChangeShapes Go.WideShapes Go.ChangeAt Go.RowKit

def svS (ss : List ByteArray) : List Value := ss.map Value.string
theorem svS_length (ss : List ByteArray) : (svS ss).length = ss.length := by simp [svS]
theorem svS_one (ss : List ByteArray) : ∀ u ∈ svS ss, u.oneCell' = true := fun u hu => by
  obtain ⟨x, _, rfl⟩ := List.mem_map.1 hu
  rfl
theorem info_strS : (Tryd.prog.info? 9).map (fun i => (i.zero, i.size, i.bytes)) = some (some (.string ⟨#[]⟩), 1, 16) := by kernel_rfl
/-- One string more. -/
theorem append_strS {w : World} {ops : Array Oper} {rest : List Oper} {o : Oper} {a : Act} {Q : Exit → Act → World → Prop} (hgd : o.guard = none) (s x : Operand) (ho : o.op = .call { callee := .builtin .append, args := #[s, x], argTypes := #[24, 24] })
    (B : Nat) (v : Value) (n : Nat) (ss : List ByteArray) (hs : a.eval s = v) (hown : w.ownsRow B 9 1 v n (svS ss))
    (b : Nat) (S : ByteArray) (hx : a.eval x = .slice (some ⟨b, 0, none⟩) 1 1) (hc : w.cell? ⟨b, 0, none⟩ = some (.string S)) (hsz : n ≤ 1000) (hB : B ≤ w.heap.size)
    (h : ∀ v' w', w'.ownsRow B 9 1 v' (n + 1) (svS (ss ++ [S])) → w.grownBy w' v.ownBlock → wpList Tryd.prog ops Q rest (a.put o.dst v') w') : wpList Tryd.prog ops Q (o :: rest) a w := by
  obtain ⟨i0, hi, hz0, hz1, hz2⟩ := info_parts info_strS
  refine wpList_append_own w hgd s x 24 ho B 9 i0 (.string ⟨#[]⟩) 1 16 Tryd.underlying24 hi hz0 hz1 hz2 rfl (by decide) v n (svS ss) hs hown ⟨b, 0, none⟩ 1 1 [.string S] hx rfl ?_ (by simp [Value.oneCell']) (by unfold maxLen; omega) (by omega) hB ?_
  · intro j u hu
    cases j with
    | zero =>
      simp only [List.getElem?_cons_zero, Option.some.injEq] at hu
      subst hu
      rw [addr_add]
      exact hc
    | succ j => simp at hu
  · intro v' w' hown' hgrow _
    exact h v' w' (by unfold svS at hown' ⊢; rw [List.map_append]; exact hown') hgrow
/-- The row joined to itself. -/
theorem append_twoS {w : World} {ops : Array Oper} {rest : List Oper} {o : Oper} {a : Act} {Q : Exit → Act → World → Prop} (hgd : o.guard = none) (s x : Operand) (ho : o.op = .call { callee := .builtin .append, args := #[s, x], argTypes := #[24, 24] })
    (B : Nat) (p : Option Addr) (n c : Nat) (ss : List ByteArray) (hs : a.eval s = .slice p n c) (hx : a.eval x = .slice p n c) (hown : w.ownsRow B 9 1 (.slice p n c) n (svS ss)) (hsz : n ≤ 1000) (hB : B ≤ w.heap.size)
    (h : ∀ v' w', w'.ownsRow B 9 1 v' (n + n) (svS (ss ++ ss)) → w.grownBy w' (Value.slice p n c).ownBlock → wpList Tryd.prog ops Q rest (a.put o.dst v') w') : wpList Tryd.prog ops Q (o :: rest) a w := by
  obtain ⟨i0, hi, hz0, hz1, hz2⟩ := info_parts info_strS
  have hl : ss.length = n := by
    have := hown.1
    rw [svS_length] at this
    omega
  by_cases h0 : p = none
  · subst h0
    obtain rfl : n = 0 := by
      rcases hown.2 with ⟨_, h⟩ | ⟨g, cap, cur, e, _⟩
      · exact h
      · simp at e
    obtain rfl := List.eq_nil_of_length_eq_zero hl
    obtain rfl : c = 0 := by
      rcases hown.2 with ⟨e, _⟩ | ⟨g, cap, cur, e, _⟩
      · simpa using e
      · simp at e
    refine wpList_append_own_none hgd s x 24 ho B 9 i0 1 Tryd.underlying24 hi _ 0 (svS []) hs hown hx ?_
    exact h _ w hown (World.grownBy.refl w _)
  · obtain ⟨g, rfl⟩ : ∃ g, p = some ⟨g, 0, none⟩ := by
      rcases hown.2 with ⟨e, _⟩ | ⟨g', cap', cur, e, _⟩
      · simp only [Value.slice.injEq] at e
        exact absurd e.1 h0
      · simp only [Value.slice.injEq] at e
        exact ⟨g', e.1⟩
    refine wpList_append_own w hgd s x 24 ho B 9 i0 (.string ⟨#[]⟩) 1 16 Tryd.underlying24 hi hz0 hz1 hz2 rfl (by decide) _ n (svS ss) hs hown ⟨g, 0, none⟩ n c (svS ss) hx (by rw [svS_length, hl, Nat.mul_one]) (fun j u hu => hown.cells (g := g) rfl j u hu) (svS_one ss) (by unfold maxLen; omega) (by omega) hB ?_
    intro v' w' hown' hgrow _
    exact h v' w' (by unfold svS at hown' ⊢; rw [List.map_append]; exact hown') hgrow
/-- The tags turned round. -/
def othS (ss : List ByteArray) (at_ k : Nat) : List ByteArray := (List.range k).map fun i => ss.getD (ss.length - 1 - (i + at_) % ss.length) ⟨#[]⟩
theorem othS_mem {ss : List ByteArray} {q : Nat} {x : ByteArray} (h : x ∈ othS ss q ss.length) : x ∈ ss := by
  unfold othS at h
  obtain ⟨i, hi, rfl⟩ := List.mem_map.1 h
  have h1 : i < ss.length := by simpa using hi
  have h2 := Nat.mod_lt (i + q) (show 0 < ss.length by omega)
  rw [List.getD_eq_getElem?_getD, List.getElem?_eq_getElem (by omega)]
  exact List.getElem_mem _
theorem mem_othS {ss : List ByteArray} {q : Nat} {x : ByteArray} (h : x ∈ ss) : x ∈ othS ss q ss.length := by
  obtain ⟨j, hj, rfl⟩ := List.getElem_of_mem h
  unfold othS
  have h0 : 0 < ss.length := by omega
  have h2 := Nat.mod_lt q h0
  refine List.mem_map.2 ⟨(ss.length - 1 - j + (ss.length - q % ss.length)) % ss.length, by simp [Nat.mod_lt _ h0], ?_⟩
  have e : ((ss.length - 1 - j + (ss.length - q % ss.length)) % ss.length + q) % ss.length = ss.length - 1 - j := by
    rw [Nat.mod_add_mod, ← Nat.add_mod_mod, show ss.length - 1 - j + (ss.length - q % ss.length) + q % ss.length = ss.length - 1 - j + ss.length by omega, Nat.add_mod_right, Nat.mod_eq_of_lt (by omega)]
  rw [e, show ss.length - 1 - (ss.length - 1 - j) = j by omega, List.getD_eq_getElem?_getD, List.getElem?_eq_getElem hj]
  rfl
theorem othS_succ (ss : List ByteArray) (q k : Nat) : othS ss q (k + 1) = othS ss q k ++ [ss.getD (ss.length - 1 - (k + q) % ss.length) ⟨#[]⟩] := by
  unfold othS
  rw [List.range_succ, List.map_append]
  rfl

end Go.Proofs.YtdgbcieopkilcaaDoor
