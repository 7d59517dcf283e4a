/-
  A slice of strings as a row's reading tells it. No conditions.
-/
import Derived.Test.YtldaligeckjhaaaRd
import Derived.Test.YtldaligeckjhaaaSrA
namespace Go.Proofs.Ytldaligeckjhaaa
open Go.ChangeShapes Go.WideShapes Go.ChangeAt Go.RowKit

set_option maxRecDepth 100000 in
theorem Rd.srs {H : Type} {enc : TypeId × Value → H} {W : World} {base : Nat} {cs : List Value} (h : Rd enc Try.prog W base 32 cs) : ∃ (a : Option Addr) (n c : Nat) (ss : List ByteArray), cs = [.slice a n c] ∧ SrAt W a n c ss := by
  rcases h.slice Try.underlying32 with h1 | ⟨a, len, cap, h1, hl, hc, hw, hi⟩
  · exact ⟨none, 0, 0, [], h1, rfl, Nat.le_refl _, by omega, fun s hs => (by cases hs), fun h => by omega⟩
  · have e2 : Try.prog.cellsOf 9 = 1 := by kernel_rfl
    have each : ∀ i, ∃ s : ByteArray, i < cap → W.cell? (a.add i) = some (.string s) ∧ s.size ≤ 140737488351232 := fun i => by
      by_cases hlt : i < cap
      · obtain ⟨cs', k1, k2⟩ := hi i hlt
        obtain ⟨s, rfl, hs⟩ := k2.string Try.underlying9
        rw [e2, Nat.mul_one] at k1
        have h2 := (cells_at k1).2 0 (by omega)
        have e3 : (a.add i).add 0 = a.add i := by unfold Addr.add; split <;> simp_all
        rw [e3] at h2
        exact ⟨s, fun _ => ⟨h2, hs⟩⟩
      · exact ⟨⟨#[]⟩, fun h => absurd h hlt⟩
    obtain ⟨F, hF⟩ := Classical.axiomOfChoice each
    refine ⟨some a, len, cap, (List.range len).map F, h1, by simp, hl, by unfold maxLen at hc; omega, fun s hs => ?_, fun hn0 => ?_⟩
    · obtain ⟨i, hi2, rfl⟩ := List.mem_map.1 hs
      exact (hF i (by have := List.mem_range.1 hi2; omega)).2
    · obtain ⟨b, off, spot⟩ := a
      have hsp : spot = none := by
        have g := (hF 0 (by omega)).1
        simpa [Addr.add] using World.cell?_spot g
      subst hsp
      refine ⟨b, off, rfl, fun i hi2 => ?_⟩
      have g := (hF i (by omega)).1
      rw [addr_add] at g
      rw [g]
      simp [List.getD_eq_getElem?_getD, hi2]
set_option maxRecDepth 100000 in
theorem read_sr {H : Type} {enc : TypeId × Value → H} {W : World} {base : Nat} {r : Reach} {b0 : Nat} {v : Value} (hval : Value.okWide Try.prog W r b0 32 v) (hr : Rd enc Try.prog W base 32 v.cells.toList) :
    ∃ (a : Option Addr) (n c : Nat) (ss : List ByteArray), v = .slice a n c ∧ SrAt W a n c ss := by
  obtain ⟨a, n, c, rfl⟩ := okWide_slice Try.underlying32 hval
  obtain ⟨a', n', c', l, he, hb⟩ := hr.srs
  have h1 : (Value.slice a n c).cells.toList = [.slice a n c] := rfl
  rw [h1] at he
  simp only [List.cons.injEq, Value.slice.injEq, and_true] at he
  obtain ⟨rfl, rfl, rfl⟩ := he
  exact ⟨_, _, _, l, rfl, hb⟩

end Go.Proofs.Ytldaligeckjhaaa
