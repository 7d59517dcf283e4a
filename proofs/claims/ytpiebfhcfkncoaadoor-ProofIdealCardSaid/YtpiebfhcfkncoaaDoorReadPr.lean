/-
  A proof by value as a row's reading tells it. No conditions.
-/
import Derived.Test.YtpiebfhcfkncoaaDoorReadHd
import Derived.Test.YtpiebfhcfkncoaaDoorPr
namespace Go.Proofs.YtpiebfhcfkncoaaDoor
open Go.ChangeShapes Go.WideShapes Go.ChangeAt Go.RowKit

theorem prV_get (p : Pr) (i : Nat) (hi : i < 255) : (prV p).toList[i]? = some (prC p i) := by
  rw [Array.getElem?_toList]
  exact rowArr_get _ _ _ hi

set_option maxRecDepth 100000 in
theorem rd_pr {H : Type} {enc : TypeId × Value → H} {W : World} {base : Nat} {cs : List Value} (hl : cs.length = 255) (hr : Rd enc Tryd.prog W base 35 cs) : ∃ p : Pr, cs = (prV p).toList ∧ PrAt W p := by
  have c1 : Tryd.prog.cellsOf 3 = 1 := by kernel_rfl
  have c2 : Tryd.prog.cellsOf 27 = 1 := by kernel_rfl
  have c3 : Tryd.prog.cellsOf 33 = 125 := by kernel_rfl
  have c6 : Tryd.prog.cellsOf 30 = 1 := by kernel_rfl
  have h0 := hr.field (i := 0) (off := 0) (e := 3) (by kernel_rfl)
  have h1 := hr.field (i := 1) (off := 1) (e := 33) (by kernel_rfl)
  have h2 := hr.field (i := 2) (off := 126) (e := 33) (by kernel_rfl)
  have h3 := hr.field (i := 3) (off := 251) (e := 3) (by kernel_rfl)
  have h4 := hr.field (i := 4) (off := 252) (e := 27) (by kernel_rfl)
  have h5 := hr.field (i := 5) (off := 253) (e := 27) (by kernel_rfl)
  have h6 := hr.field (i := 6) (off := 254) (e := 30) (by kernel_rfl)
  rw [c1] at h0 h3
  rw [c2] at h4 h5
  rw [c3] at h1 h2
  rw [c6] at h6
  obtain ⟨x0, e0, w0⟩ := h0.int Tryd.underlying3
  obtain ⟨x3, e3, w3⟩ := h3.int Tryd.underlying3
  obtain ⟨x4, e4, w4⟩ := h4.int Tryd.underlying27
  obtain ⟨x5, e5, w5⟩ := h5.int Tryd.underlying27
  obtain ⟨wa, wn, wc, ws, e6, hws⟩ := h6.toks
  obtain ⟨ha, ta, ea, oa, tta⟩ := rd_hd (by simp; omega) h1
  obtain ⟨hb, tb, eb, ob, ttb⟩ := rd_hd (by simp; omega) h2
  have k0 := one_cell e0
  have k3 := one_cell e3
  have k4 := one_cell e4
  have k5 := one_cell e5
  have k6 := one_cell e6
  have b0 := bounds_i64 w0
  have b3 := bounds_i64 w3
  have b4 := bounds_u64 w4
  have b5 := bounds_u64 w5
  refine ⟨⟨x0, (ha, ta), (hb, tb), x3, x4, x5, wa, wn, wc, ws⟩, ?_, b0, ⟨oa, tta⟩, ⟨ob, ttb⟩, b3, (show 0 ≤ x4 ∧ x4 < 18446744073709551616 from ⟨by omega, by omega⟩), (show 0 ≤ x5 ∧ x5 < 18446744073709551616 from ⟨by omega, by omega⟩), hws⟩
  apply List.ext_getElem?
  intro i
  by_cases hi : i < 255
  · rw [prV_get _ i hi]
    unfold prC
    by_cases l1 : i < 1
    · obtain rfl : i = 0 := by omega
      exact k0
    rw [if_neg l1]
    by_cases l2 : i < 126
    · rw [if_pos l2]
      have h7 : ((cs.drop 1).take 125)[i - 1]? = (hdV ha).toList[i - 1]? := by rw [ea]
      rw [sub_get (by omega), hdV_get _ _ (by omega), show 1 + (i - 1) = i by omega] at h7
      exact h7
    rw [if_neg l2]
    by_cases l3 : i < 251
    · rw [if_pos l3]
      have h7 : ((cs.drop 126).take 125)[i - 126]? = (hdV hb).toList[i - 126]? := by rw [eb]
      rw [sub_get (by omega), hdV_get _ _ (by omega), show 126 + (i - 126) = i by omega] at h7
      exact h7
    rw [if_neg l3]
    by_cases l4 : i < 252
    · obtain rfl : i = 251 := by omega
      exact k3
    rw [if_neg l4]
    by_cases l5 : i < 253
    · obtain rfl : i = 252 := by omega
      exact k4
    rw [if_neg l5]
    by_cases l6 : i < 254
    · obtain rfl : i = 253 := by omega
      exact k5
    rw [if_neg l6]
    obtain rfl : i = 254 := by omega
    exact k6
  · rw [List.getElem?_eq_none (by omega), List.getElem?_eq_none (by rw [Array.length_toList, prV_size]; omega)]

set_option maxRecDepth 100000 in
theorem read_pr {H : Type} {enc : TypeId × Value → H} {W : World} {base : Nat} {r : Reach} {b0 : Nat} {v : Value} (hval : Value.okWide Tryd.prog W r b0 35 v) (hr : Rd enc Tryd.prog W base 35 v.cells.toList) : ∃ p : Pr, v = .agg (prV p) ∧ PrAt W p := by
  obtain ⟨cs, rfl, hsz⟩ := okWide_struct Tryd.underlying35 hval
  have hcs : (Value.agg cs).cells.toList = cs.toList := rfl
  rw [hcs] at hr
  rw [show Tryd.prog.cellsOf 35 = 255 by kernel_rfl] at hsz
  obtain ⟨p, he, hp⟩ := rd_pr (by rw [Array.length_toList]; exact hsz) hr
  exact ⟨p, by congr 1; exact Array.ext' he, hp⟩

end Go.Proofs.YtpiebfhcfkncoaaDoor
