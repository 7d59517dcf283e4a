/-
  A change by value as a row's reading tells it. No conditions.
-/
import Derived.Test.YtppidlpblkihbaaRd
import Derived.Test.YtppidlpblkihbaaChgQ
namespace Go.Proofs.Ytppidlpblkihbaa
open Go.ChangeShapes Go.WideShapes Go.ChangeAt Go.RowKit

def strIn (v : Option Value) : ByteArray := match v with | some (.string s) => s | _ => ByteArray.empty

set_option maxRecDepth 100000 in
theorem Rd.strings {H : Type} {enc : TypeId × Value → H} {W : World} {base : Nat} {cs : List Value} (h : Rd enc Try.prog W base 22 cs) : ∃ (a : Option Addr) (n c : Nat) (ss : List ByteArray), cs = [.slice a n c] ∧ SsAt W a n c ss ∧ ∀ s ∈ ss, s.size ≤ 9223372036854775807 := by
  rcases h.slice Try.underlying22 with h1 | ⟨a, len, cap, h1, hl, hc, hw, hi⟩
  · exact ⟨none, 0, 0, [], h1, ss_none _, by simp⟩
  · have e1 : Try.prog.bytesOf 9 = 16 := by kernel_rfl
    have e2 : Try.prog.cellsOf 9 = 1 := by kernel_rfl
    rw [e1] at hw
    have hcell : ∀ i, i < cap → ∃ s : ByteArray, W.cell? (a.add i) = some (.string s) ∧ s.size ≤ 140737488351232 := fun i hlt => by
      obtain ⟨cs', k1, k2⟩ := hi i hlt
      obtain ⟨s, rfl, hs⟩ := k2.string Try.underlying9
      rw [e2, Nat.mul_one] at k1
      have := (cells_at k1).2 0 (by omega)
      have e3 : (a.add i).add 0 = a.add i := by unfold Addr.add; split <;> simp_all
      rw [e3] at this
      exact ⟨s, this, hs⟩
    refine ⟨some a, len, cap, (List.range len).map fun i => strIn (W.cell? (a.add i)), h1, ⟨by simp, hl, by unfold maxLen at hc; omega, by unfold reachBytes at hw; omega, fun h0 => ?_⟩, fun s hs => ?_⟩
    · obtain ⟨b, off, spot⟩ := a
      obtain ⟨n0, k0, _⟩ := hcell 0 (by omega)
      have hs : spot = none := by simpa [Addr.add] using World.cell?_spot k0
      subst hs
      refine ⟨b, off, rfl, fun i hlt => ?_⟩
      obtain ⟨s, k1, _⟩ := hcell i (by omega)
      have e4 : ((List.range len).map fun i => strIn (W.cell? ((⟨b, off, none⟩ : Addr).add i))).getD i ByteArray.empty = s := by
        rw [List.getD_eq_getElem?_getD, List.getElem?_map, List.getElem?_range hlt]
        simp [k1, strIn]
      rw [e4, ← k1, addr_add]
    · obtain ⟨i, hi2, rfl⟩ := List.mem_map.1 hs
      obtain ⟨s, k1, k2⟩ := hcell i (by have := List.mem_range.1 hi2; omega)
      rw [k1]
      show s.size ≤ _
      omega

set_option maxRecDepth 100000 in
/-- A change's cells. -/
theorem rd_chg {H : Type} {enc : TypeId × Value → H} {W : World} {base : Nat} {cs : List Value} (hl : cs.length = 4) (hr : Rd enc Try.prog W base 24 cs) :
    ∃ (op : Int) (nm : ByteArray) (ta : Option Addr) (tn tc : Nat) (ss : List ByteArray) (va : ByteArray), cs = (chV op nm (.slice ta tn tc) va).toList ∧ (-9223372036854775808 ≤ op ∧ op ≤ 9223372036854775807) ∧ SsAt W ta tn tc ss ∧ nm.size ≤ 9223372036854775807 ∧ va.size ≤ 9223372036854775807 ∧ ∀ s ∈ ss, s.size ≤ 9223372036854775807 := by
  have c1 : Try.prog.cellsOf 3 = 1 := by kernel_rfl
  have c2 : Try.prog.cellsOf 9 = 1 := by kernel_rfl
  have c3 : Try.prog.cellsOf 22 = 1 := by kernel_rfl
  have h0 := hr.field (i := 0) (off := 0) (e := 3) (by kernel_rfl)
  have h1 := hr.field (i := 1) (off := 1) (e := 9) (by kernel_rfl)
  have h2 := hr.field (i := 2) (off := 2) (e := 22) (by kernel_rfl)
  have h3 := hr.field (i := 3) (off := 3) (e := 9) (by kernel_rfl)
  rw [c1] at h0
  rw [c2] at h1 h3
  rw [c3] at h2
  obtain ⟨op, e0, hw⟩ := h0.int Try.underlying3
  obtain ⟨nm, e1, hn⟩ := h1.string Try.underlying9
  obtain ⟨ta, tn, tc, ss, e2, hs, hss⟩ := h2.strings
  obtain ⟨va, e3, hv⟩ := h3.string Try.underlying9
  have k0 := one_cell e0
  have k1 := one_cell e1
  have k2 := one_cell e2
  have k3 := one_cell e3
  have hb := bounds_i64 hw
  refine ⟨op, nm, ta, tn, tc, ss, va, ?_, ⟨by omega, by omega⟩, hs, by omega, by omega, hss⟩
  apply List.ext_getElem?
  intro i
  by_cases hi : i < 4
  · rcases (by omega : i = 0 ∨ i = 1 ∨ i = 2 ∨ i = 3) with rfl | rfl | rfl | rfl
    · exact k0
    · exact k1
    · exact k2
    · exact k3
  · rw [List.getElem?_eq_none (by omega), List.getElem?_eq_none (by show 4 ≤ i; omega)]

set_option maxRecDepth 100000 in
theorem read_chg {H : Type} {enc : TypeId × Value → H} {W : World} {base : Nat} {r : Reach} {b0 : Nat} {v : Value} (hval : Value.okWide Try.prog W r b0 24 v) (hr : Rd enc Try.prog W base 24 v.cells.toList) :
    ∃ (op : Int) (nm : ByteArray) (ta : Option Addr) (tn tc : Nat) (ss : List ByteArray) (va : ByteArray), v = .agg (chV op nm (.slice ta tn tc) va) ∧ (-9223372036854775808 ≤ op ∧ op ≤ 9223372036854775807) ∧ SsAt W ta tn tc ss ∧ nm.size ≤ 9223372036854775807 ∧ va.size ≤ 9223372036854775807 ∧ ∀ s ∈ ss, s.size ≤ 9223372036854775807 := by
  obtain ⟨cs, rfl, hsz⟩ := okWide_struct Try.underlying24 hval
  have hcs : (Value.agg cs).cells.toList = cs.toList := rfl
  rw [hcs] at hr
  rw [show Try.prog.cellsOf 24 = 4 by kernel_rfl] at hsz
  obtain ⟨op, nm, ta, tn, tc, ss, va, he, h⟩ := rd_chg (by rw [Array.length_toList]; exact hsz) hr
  exact ⟨op, nm, ta, tn, tc, ss, va, by congr 1; exact Array.ext' he, h⟩

end Go.Proofs.Ytppidlpblkihbaa
