/-
  A slice of bytes as a row's reading tells it. No conditions.
-/
import Derived.Test.YtdhbkjajhbfihaaRd
namespace Go.Proofs.Ytdhbkjajhbfihaa
open Go.ChangeShapes Go.WideShapes Go.ChangeAt Go.RowKit

set_option maxRecDepth 100000 in
theorem read_bytes {H : Type} {enc : TypeId × Value → H} {W : World} {base : Nat} {r : Reach} {b0 : Nat} {v : Value} (hval : Value.okWide Try.prog W r b0 38 v) (hr : Rd enc Try.prog W base 38 v.cells.toList) :
    ∃ (a : Option Addr) (n c : Nat) (xs : List Int), v = .slice a n c ∧ BsAt W a n c xs := by
  obtain ⟨a, n, c, rfl⟩ := okWide_slice Try.underlying38 hval
  obtain ⟨a', n', c', xs, he, hb⟩ := hr.bytes
  have h1 : (Value.slice a n c).cells.toList = [.slice a n c] := rfl
  rw [h1] at he
  simp only [List.cons.injEq, Value.slice.injEq, and_true] at he
  obtain ⟨rfl, rfl, rfl⟩ := he
  exact ⟨_, _, _, xs, rfl, hb⟩

end Go.Proofs.Ytdhbkjajhbfihaa
