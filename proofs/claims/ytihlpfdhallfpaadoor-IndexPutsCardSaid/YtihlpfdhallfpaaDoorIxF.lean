/-
  What an index's Put has done, opened; a row of pieces beside it. No conditions.
-/
import Derived.Test.YtihlpfdhallfpaaDoorPcO
import Derived.Test.YtihlpfdhallfpaaDoorIxQ
import Derived.Test.YtihlpfdhallfpaaDoorIxQ
import Derived.Test.YtihlpfdhallfpaaDoorIxN
namespace Go.Proofs.YtihlpfdhallfpaaDoor
open Go.ChangeShapes Go.WideShapes Go.ChangeAt Go.RowKit

theorem IxOwns.far {gx : Nat} {G : Nat → Nat} {S : Nat → CSt} {b : Nat} (h : ¬ IxOwns gx G S b) : IxFar gx G S b := fun s hs e => h (.inl ⟨s, hs, e⟩)
/-- A piece put in. -/
structure PutIn (w w' : World) (B gx : Nat) (G : Nat → Nat) (S S2 : Nat → CSt) (cnt : Int) (p : Pc) (i : Nat) (ta : Option Addr) (tc : Nat) (qa : Option Addr) (qc : Nat) : Prop where
  lt : i < 6
  wr : p.hd.1.writer = (i : Int) + 1
  ix : IxAt w' B gx G S2 (cnt + 1)
  kp : Kp w w' (IxFar gx G S)
  owns : ∀ b, IxOwns gx G S2 b → IxOwns gx G S b ∨ w.heap.size ≤ b
  ne : ∀ j, j ≠ i → S2 j = S j
  l : (S2 i).l = (S i).l ++ [reT p.hd ta tc]
  T : (S2 i).T = shaF (bytesL p.hd.1 p.hd.2)
  bl : (S2 i).bl = (S i).bl ++ [(p.bd, qa, qc)]
theorem PutTo.open {w w' : World} {B gx : Nat} {G : Nat → Nat} {S : Nat → CSt} {cnt : Int} {p : Pc} (h : PutTo w w' B gx G S cnt p) : ∃ S2 i ta tc qa qc, PutIn w w' B gx G S S2 cnt p i ta tc qa qc := by
  obtain ⟨i, a2, c2, ta, tc, a3, c3, qa, qc, hi, hw, hx, hk, f1, f2, f3, f4⟩ := h
  obtain ⟨S2, hS2⟩ : ∃ x, upS S i ⟨a2, c2, (S i).l ++ [reT p.hd ta tc], shaF (bytesL p.hd.1 p.hd.2), a3, c3, (S i).bl ++ [(p.bd, qa, qc)]⟩ = x := ⟨_, rfl⟩
  rw [hS2] at hx
  have hat : S2 i = ⟨a2, c2, (S i).l ++ [reT p.hd ta tc], shaF (bytesL p.hd.1 p.hd.2), a3, c3, (S i).bl ++ [(p.bd, qa, qc)]⟩ := by rw [← hS2, upS_at]
  have hne : ∀ j, j ≠ i → S2 j = S j := fun j hj => by rw [← hS2, upS_ne S _ hj]
  refine ⟨S2, i, ta, tc, qa, qc, hi, hw, hx, hk, fun b hb => ?_, hne, by rw [hat], by rw [hat], by rw [hat]⟩
  rcases hb with ⟨s, hs, e⟩ | ⟨j, hj, x, hx2, h0, off, e⟩ | ⟨j, hj, x, hx2, h0, off, e⟩
  · by_cases h1 : s = 6 + i
    · subst h1
      rw [ixP_a hi, hat] at e
      rcases f2 b (by rw [← e]; cases a2 <;> rfl) with q | q
      · exact .inl (.inl ⟨6 + i, hs, by rw [ixP_a hi]; exact q⟩)
      · exact .inr q
    · by_cases h2 : s = 12 + i
      · subst h2
        rw [ixP_b hi, hat] at e
        rcases f4 b (by rw [← e]; cases a3 <;> rfl) with q | q
        · exact .inl (.inl ⟨12 + i, hs, by rw [ixP_b hi]; exact q⟩)
        · exact .inr q
      · rw [← hS2, ixP_up hi _ s h1 h2] at e
        exact .inl (.inl ⟨s, hs, e⟩)
  · by_cases h1 : j = i
    · subst h1
      rw [hat] at hx2
      rcases List.mem_append.1 hx2 with q | q
      · exact .inl (.inr (.inl ⟨j, hj, x, q, h0, off, e⟩))
      · obtain rfl := List.mem_singleton.1 q
        have e' : ta = some ⟨b, off, none⟩ := e
        exact .inr (f1 b (by rw [e']; rfl))
    · rw [hne j h1] at hx2
      exact .inl (.inr (.inl ⟨j, hj, x, hx2, h0, off, e⟩))
  · by_cases h1 : j = i
    · subst h1
      rw [hat] at hx2
      rcases List.mem_append.1 hx2 with q | q
      · exact .inl (.inr (.inr ⟨j, hj, x, q, h0, off, e⟩))
      · obtain rfl := List.mem_singleton.1 q
        have e' : qa = some ⟨b, off, none⟩ := e
        exact .inr (f3 b (by rw [e']; rfl))
    · rw [hne j h1] at hx2
      exact .inl (.inr (.inr ⟨j, hj, x, hx2, h0, off, e⟩))
theorem ixOwns_cst0 {gx : Nat} {G : Nat → Nat} {b : Nat} (h : IxOwns gx G (fun _ => cst0) b) : ∃ s, s < 19 ∧ ixP gx G (fun _ => cst0) s = some b := by
  rcases h with h | ⟨i, _, x, hx, _⟩ | ⟨i, _, x, hx, _⟩
  · exact h
  · cases hx
  · cases hx
/-- Rows that are kept. -/
theorem own_blk {w w' : World} {B e size n : Nat} {v : Value} {xs : List Value} (h : w.ownsRow B e size v n xs) (ha : ∀ k, v.ownBlock = some k → w'.heap[k]? = w.heap[k]?) : w'.ownsRow B e size v n xs := own_keep h ha

end Go.Proofs.YtihlpfdhallfpaaDoor
