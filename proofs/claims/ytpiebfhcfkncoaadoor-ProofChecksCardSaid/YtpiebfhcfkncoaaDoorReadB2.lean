/-
  Two Booleans as a row's reading tells them. No conditions.
-/
import Derived.Test.YtpiebfhcfkncoaaDoorReadRg
import Derived.Test.YtpiebfhcfkncoaaDoorLawChecks
namespace Go.Proofs.YtpiebfhcfkncoaaDoor
open Go.ChangeShapes Go.WideShapes Go.ChangeAt Go.RowKit

theorem okWide_arrB {P : Program} {w : World} {r : Reach} {base : Nat} {t e : TypeId} {n : Nat} {v : Value} (ht : P.underlying t = some (.array n e)) (h : Value.okWide P w r base t v) : ∃ cs, v = .agg cs ∧ cs.size = P.cellsOf t := by
  unfold Value.okWide at h
  cases v <;> simp_all

set_option maxRecDepth 100000 in
theorem read_b2 {H : Type} {enc : TypeId × Value → H} {W : World} {base : Nat} {r : Reach} {b0 : Nat} {v : Value} (hval : Value.okWide Tryd.prog W r b0 43 v) (hr : Rd enc Tryd.prog W base 43 v.cells.toList) : ∃ q : Bool × Bool, v = .agg (rowArr 2 (b2C q.1 q.2)) := by
  obtain ⟨cs, rfl, hsz⟩ := okWide_arrB Tryd.underlying43 hval
  have hcs : (Value.agg cs).cells.toList = cs.toList := rfl
  rw [hcs] at hr
  rw [show Tryd.prog.cellsOf 43 = 2 by kernel_rfl] at hsz
  have h0 := hr.elem Tryd.underlying43 (i := 0) (by omega)
  have h1 := hr.elem Tryd.underlying43 (i := 1) (by omega)
  rw [show Tryd.prog.cellsOf 4 = 1 by kernel_rfl] at h0 h1
  obtain ⟨x0, e0⟩ := h0.bool Tryd.underlying4
  obtain ⟨x1, e1⟩ := h1.bool Tryd.underlying4
  have k0 := one_cell e0
  have k1 := one_cell e1
  refine ⟨(x0, x1), ?_⟩
  congr 1
  refine Array.ext' (List.ext_getElem? fun i => ?_)
  by_cases hi : i < 2
  · rw [Array.getElem?_toList (xs := rowArr 2 _), rowArr_get _ _ _ hi]
    unfold b2C
    by_cases h2 : i < 1
    · rw [if_pos h2]
      obtain rfl : i = 0 := by omega
      exact k0
    · rw [if_neg h2]
      obtain rfl : i = 1 := by omega
      exact k1
  · rw [List.getElem?_eq_none (by rw [Array.length_toList, hsz]; omega), List.getElem?_eq_none (by rw [Array.length_toList, rowArr_size]; omega)]

theorem lawChecks_two (r : Rg) (p : Pr) (b : Bool × Bool) (w : World) (hr : RgAt w r) (hp : PrAt w p) (hk : KsAt 1 w) (hk2 : KsAt 0 w) :
    Calls Tryd.prog 4 #[.agg (rgV r), .agg (prV p), .agg (rowArr 2 (b2C b.1 b.2))] w fun e w' => e = .returned (.bool true) ∧ Ext w w' := lawChecks_any r p b.1 b.2 w hr hp hk hk2

end Go.Proofs.YtpiebfhcfkncoaaDoor
