/-
  What a row's reading tells of a control by value. No conditions.
-/
import Derived.Test.YtppidlpblkihbaaDoorRd
import Derived.Test.YtppidlpblkihbaaDoorCtlQ
namespace Go.Proofs.YtppidlpblkihbaaDoor
open Go.ChangeShapes Go.WideShapes Go.ChangeAt Go.RowKit

theorem take_one {cs : List Value} {off : Nat} {v : Value} (h : (cs.drop off).take 1 = [v]) : cs[off]? = some v := one_cell h

set_option maxRecDepth 100000 in
theorem read_ctl {H : Type} {enc : TypeId × Value → H} {W : World} {base : Nat} {r : Reach} {b0 : Nat} {v : Value} (hval : Value.okWide Tryd.prog W r b0 45 v) (hr : Rd enc Tryd.prog W base 45 v.cells.toList) :
    ∃ (op mem cut : Int) (A : Nat → Option Addr) (l C : Nat → Nat) (ha : Option Addr) (hl hc : Nat) (s : Nat → List Int) (hd : List Int), v = .agg (ctlV op mem cut (fun i => .slice (A i) (l i) (C i)) (.slice ha hl hc)) ∧ (0 ≤ cut ∧ cut < 18446744073709551616) ∧ (∀ i, i < 6 → BsAt W (A i) (l i) (C i) (s i)) ∧ BsAt W ha hl hc hd := by
  obtain ⟨cs, rfl, hsz⟩ := okWide_struct Tryd.underlying45 hval
  have hcs : (Value.agg cs).cells.toList = cs.toList := rfl
  rw [hcs] at hr
  have c1 : Tryd.prog.cellsOf 3 = 1 := by kernel_rfl
  have c2 : Tryd.prog.cellsOf 42 = 1 := by kernel_rfl
  have c3 : Tryd.prog.cellsOf 43 = 6 := by kernel_rfl
  have c4 : Tryd.prog.cellsOf 41 = 1 := by kernel_rfl
  rw [show Tryd.prog.cellsOf 45 = 10 by kernel_rfl] at hsz
  have h0 := hr.field (i := 0) (off := 0) (e := 3) (by kernel_rfl)
  have h1 := hr.field (i := 1) (off := 1) (e := 3) (by kernel_rfl)
  have h2 := hr.field (i := 2) (off := 2) (e := 42) (by kernel_rfl)
  have h3 := hr.field (i := 3) (off := 3) (e := 43) (by kernel_rfl)
  have h4 := hr.field (i := 4) (off := 9) (e := 41) (by kernel_rfl)
  rw [c1] at h0 h1
  rw [c2] at h2
  rw [c3] at h3
  rw [c4] at h4
  obtain ⟨op, e0, _⟩ := h0.int Tryd.underlying3
  obtain ⟨mem, e1, _⟩ := h1.int Tryd.underlying3
  obtain ⟨cut, e2, hw⟩ := h2.int Tryd.underlying42
  obtain ⟨ha, hl, hc, hd, e9, hh⟩ := h4.bytes
  have hk : ∀ k, ∃ q : Option Addr × Nat × Nat × List Int, k < 6 → cs.toList[3 + k]? = some (.slice q.1 q.2.1 q.2.2.1) ∧ BsAt W q.1 q.2.1 q.2.2.1 q.2.2.2 := by
    intro k
    by_cases hk : k < 6
    · have h5 := h3.elem Tryd.underlying43 hk
      rw [c4, Nat.mul_one] at h5
      obtain ⟨a, n, c, xs, e5, hb⟩ := h5.bytes
      refine ⟨(a, n, c, xs), fun _ => ⟨?_, hb⟩⟩
      have h6 := one_cell e5
      rw [List.getElem?_take, if_pos hk, List.getElem?_drop] at h6
      exact h6
    · exact ⟨(none, 0, 0, []), fun h => absurd h hk⟩
  obtain ⟨F, hF⟩ := Classical.axiomOfChoice hk
  have k0 := one_cell e0
  have k1 := one_cell e1
  have k2 := one_cell e2
  have k9 := one_cell e9
  have hb := bounds_u64 hw
  refine ⟨op, mem, cut, fun i => (F i).1, fun i => (F i).2.1, fun i => (F i).2.2.1, ha, hl, hc, fun i => (F i).2.2.2, hd, ?_, ⟨by omega, by omega⟩, fun i hi => (hF i hi).2, hh⟩
  congr 1
  apply Array.ext'
  apply List.ext_getElem?
  intro i
  by_cases hi : i < 10
  · rcases (by omega : i = 0 ∨ i = 1 ∨ i = 2 ∨ i = 3 ∨ i = 4 ∨ i = 5 ∨ i = 6 ∨ i = 7 ∨ i = 8 ∨ i = 9) with rfl | rfl | rfl | rfl | rfl | rfl | rfl | rfl | rfl | rfl
    · exact k0
    · exact k1
    · exact k2
    · exact (hF 0 (by omega)).1
    · exact (hF 1 (by omega)).1
    · exact (hF 2 (by omega)).1
    · exact (hF 3 (by omega)).1
    · exact (hF 4 (by omega)).1
    · exact (hF 5 (by omega)).1
    · exact k9
  · rw [List.getElem?_eq_none (by rw [Array.length_toList]; omega), List.getElem?_eq_none (by show 10 ≤ i; omega)]

end Go.Proofs.YtppidlpblkihbaaDoor
