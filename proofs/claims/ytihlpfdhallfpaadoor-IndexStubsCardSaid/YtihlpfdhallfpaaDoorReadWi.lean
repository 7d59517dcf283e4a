/-
  A wish by value as a row's reading tells it. No conditions.
-/
import Derived.Test.YtihlpfdhallfpaaDoorReadHs
import Derived.Test.YtihlpfdhallfpaaDoorMts
namespace Go.Proofs.YtihlpfdhallfpaaDoor
open Go.ChangeShapes Go.WideShapes Go.ChangeAt Go.RowKit

theorem okWide_stA {P : Program} {w : World} {r : Reach} {base : Nat} {t : TypeId} {fs : Array Field} {v : Value} (ht : P.underlying t = some (.struct fs)) (h : Value.okWide P w r base t v) : ∃ cs, v = .agg cs ∧ cs.size = P.cellsOf t := by
  unfold Value.okWide at h
  cases v <;> simp_all
set_option maxRecDepth 100000 in
theorem rd_wi {H : Type} {enc : TypeId × Value → H} {W : World} {base : Nat} {cs : List Value} (hr : Rd enc Tryd.prog W base 58 cs) :
    ∃ (al : Bool) (a : Option Addr) (n c : Nat) (ts : List (Nat → Int)), cs[0]? = some (.bool al) ∧ cs[1]? = some (.slice a n c) ∧ TsAt W a n c ts := by
  have h0 := hr.field (i := 0) (off := 0) (e := 4) (by kernel_rfl)
  have h1 := hr.field (i := 1) (off := 1) (e := 31) (by kernel_rfl)
  rw [show Tryd.prog.cellsOf 4 = 1 by kernel_rfl] at h0
  rw [show Tryd.prog.cellsOf 31 = 1 by kernel_rfl] at h1
  obtain ⟨al, e0⟩ := h0.bool Tryd.underlying4
  obtain ⟨a, n, c, ts, e1, hs⟩ := h1.toks
  exact ⟨al, a, n, c, ts, one_cell e0, one_cell e1, hs⟩
set_option maxRecDepth 100000 in
theorem read_wi {H : Type} {enc : TypeId × Value → H} {W : World} {base : Nat} {r : Reach} {b0 : Nat} {v : Value} (hval : Value.okWide Tryd.prog W r b0 58 v) (hr : Rd enc Tryd.prog W base 58 v.cells.toList) :
    ∃ (al : Bool) (a : Option Addr) (n c : Nat) (ts : List (Nat → Int)), v = .agg (fltV al (.slice a n c)) ∧ TsAt W a n c ts := by
  obtain ⟨cs, rfl, hsz⟩ := okWide_stA Tryd.underlying58 hval
  have hcs : (Value.agg cs).cells.toList = cs.toList := rfl
  rw [hcs] at hr
  rw [show Tryd.prog.cellsOf 58 = 2 by kernel_rfl] at hsz
  obtain ⟨al, a, n, c, ts, k0, k1, hs⟩ := rd_wi hr
  refine ⟨al, a, n, c, ts, ?_, hs⟩
  congr 1
  refine Array.ext' (List.ext_getElem? fun i => ?_)
  by_cases hi : i < 2
  · rcases (show i = 0 ∨ i = 1 by omega) with rfl | rfl
    · exact k0
    · exact k1
  · rw [List.getElem?_eq_none (by rw [Array.length_toList, hsz]; omega), List.getElem?_eq_none (by show 2 ≤ i; omega)]

end Go.Proofs.YtihlpfdhallfpaaDoor
