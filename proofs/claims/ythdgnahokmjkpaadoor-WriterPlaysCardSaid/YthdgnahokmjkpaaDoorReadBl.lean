/-
  A slice of bools as a row's reading tells it. No conditions.
-/
import Derived.Test.YthdgnahokmjkpaaDoorRd
import Derived.Test.YthdgnahokmjkpaaDoorLawLinked
namespace Go.Proofs.YthdgnahokmjkpaaDoor
open Go.ChangeShapes Go.WideShapes Go.ChangeAt Go.RowKit

theorem Rd.bls {H : Type} {enc : TypeId × Value → H} {W : World} {base : Nat} {cs : List Value} (h : Rd enc Tryd.prog W base 43 cs) : ∃ (a : Option Addr) (n c : Nat), cs = [.slice a n c] ∧ BlAt W a n c := by
  rcases h.slice Tryd.underlying43 with h1 | ⟨a, len, cap, h1, hl, hc, hw, hi⟩
  · exact ⟨none, 0, 0, h1, Nat.le_refl _, by omega, fun h => by omega⟩
  · have e1 : Tryd.prog.bytesOf 4 = 1 := by kernel_rfl
    have e2 : Tryd.prog.cellsOf 4 = 1 := by kernel_rfl
    rw [e1, Nat.mul_one] at hw
    have hcell : ∀ i, i < cap → ∃ v, W.cell? (a.add i) = some (.bool v) := fun i hlt => by
      obtain ⟨cs', k1, k2⟩ := hi i hlt
      obtain ⟨v, rfl⟩ := k2.bool Tryd.underlying4
      rw [e2, Nat.mul_one] at k1
      have := (cells_at k1).2 0 (by omega)
      have e3 : (a.add i).add 0 = a.add i := by unfold Addr.add; split <;> simp_all
      rw [e3] at this
      exact ⟨v, this⟩
    refine ⟨some a, len, cap, h1, hl, by unfold reachBytes at hw; omega, fun h0 => ?_⟩
    obtain ⟨b, off, spot⟩ := a
    obtain ⟨v0, k0⟩ := hcell 0 (by omega)
    have hs : spot = none := by simpa [Addr.add] using World.cell?_spot k0
    subst hs
    refine ⟨b, off, rfl, fun i hlt => ?_⟩
    obtain ⟨v, k1⟩ := hcell i (by omega)
    rw [addr_add] at k1
    exact ⟨v, k1⟩

set_option maxRecDepth 100000 in
theorem read_bl {H : Type} {enc : TypeId × Value → H} {W : World} {base : Nat} {r : Reach} {b0 : Nat} {v : Value} (hval : Value.okWide Tryd.prog W r b0 43 v) (hr : Rd enc Tryd.prog W base 43 v.cells.toList) :
    ∃ (a : Option Addr) (n c : Nat), v = .slice a n c ∧ BlAt W a n c := by
  obtain ⟨a, n, c, rfl⟩ := okWide_slice Tryd.underlying43 hval
  obtain ⟨a', n', c', he, hb⟩ := hr.bls
  have h1 : (Value.slice a n c).cells.toList = [.slice a n c] := rfl
  rw [h1] at he
  simp only [List.cons.injEq, Value.slice.injEq, and_true] at he
  obtain ⟨rfl, rfl, rfl⟩ := he
  exact ⟨_, _, _, rfl, hb⟩

end Go.Proofs.YthdgnahokmjkpaaDoor
