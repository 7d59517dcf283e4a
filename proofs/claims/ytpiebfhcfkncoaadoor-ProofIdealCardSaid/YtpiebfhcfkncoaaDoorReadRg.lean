/-
  A ring by value, two Booleans, as a row's reading tells them. No conditions.
-/
import Derived.Test.YtpiebfhcfkncoaaDoorReadPr
import Derived.Test.YtpiebfhcfkncoaaDoorHdR
namespace Go.Proofs.YtpiebfhcfkncoaaDoor
open Go.ChangeShapes Go.WideShapes Go.ChangeAt Go.RowKit

theorem Rd.hashes {H : Type} {enc : TypeId × Value → H} {W : World} {base : Nat} {cs : List Value} (h : Rd enc Tryd.prog W base 24 cs) : ∃ (a : Option Addr) (n c : Nat) (ts : List (Nat → Int)), cs = [.slice a n c] ∧ EpAt W a n c ts := by
  rcases h.slice Tryd.underlying24 with h1 | ⟨a, len, cap, h1, hl, hc, hw, hi⟩
  · exact ⟨none, 0, 0, [], h1, rfl, Nat.le_refl _, by omega, by omega, by simp, fun h => by omega, fun _ => rfl⟩
  · have e1 : Tryd.prog.bytesOf 23 = 32 := by kernel_rfl
    have e2 : Tryd.prog.cellsOf 23 = 32 := by kernel_rfl
    have e3 : Tryd.prog.cellsOf 5 = 1 := by kernel_rfl
    rw [e1] at hw
    have each : ∀ i, ∃ t : Nat → Int, i < cap → ∀ j, j < 32 → W.cell? ((a.add (i * 32)).add j) = some (.int .u8 (t j)) ∧ 0 ≤ t j ∧ t j < 256 := fun i => by
      by_cases hlt : i < cap
      · obtain ⟨cs', k1, k2⟩ := hi i hlt
        rw [e2] at k1
        have h3 := k2.ints Tryd.underlying23 Tryd.underlying5 e3
        refine ⟨fun j => intIn cs'[j]?, fun _ j hj => ?_⟩
        obtain ⟨h4, h5⟩ := h3 j hj
        have hb : 0 ≤ intIn cs'[j]? ∧ intIn cs'[j]? < 256 := by
          have := bounds_u8 h5
          omega
        rw [(cells_at k1).2 j hj]
        exact ⟨h4, hb⟩
      · exact ⟨fun _ => 0, fun h => absurd h hlt⟩
    obtain ⟨T, hT⟩ := Classical.axiomOfChoice each
    refine ⟨some a, len, cap, (List.range len).map T, h1, by simp, hl, by unfold maxLen at hc; omega, by unfold reachBytes at hw; omega, fun t ht j hj => ?_, fun hn0 => ?_, fun h => by cases h⟩
    · obtain ⟨i, hi2, rfl⟩ := List.mem_map.1 ht
      exact (hT i (by have := List.mem_range.1 hi2; omega) j hj).2
    · obtain ⟨b, off, spot⟩ := a
      have hsp : spot = none := by
        have g := (hT 0 (by omega) 0 (by omega)).1
        simpa [Addr.add] using World.cell?_spot g
      subst hsp
      refine ⟨b, off, rfl, fun i hi2 j hj => ?_⟩
      have g := (hT i (by omega) j hj).1
      rw [addr_add, addr_add] at g
      rw [g]
      simp [List.getD_eq_getElem?_getD, hi2]

theorem rgV_get (r : Rg) (i : Nat) (hi : i < 33) : (rgV r).toList[i]? = some (rgC r i) := by
  rw [Array.getElem?_toList]
  exact rowArr_get _ _ _ hi
/-- A ring of nothing. -/
def rgZ : Rg := ⟨fun _ => 0, none, 0, 0, []⟩

set_option maxRecDepth 100000 in
theorem read_rg {H : Type} {enc : TypeId × Value → H} {W : World} {base : Nat} {r : Reach} {b0 : Nat} {v : Value} (hval : Value.okWide Tryd.prog W r b0 26 v) (hr : Rd enc Tryd.prog W base 26 v.cells.toList) : ∃ q : Rg, v = .agg (rgV q) ∧ RgAt W q := by
  obtain ⟨cs, rfl, hsz⟩ := okWide_struct Tryd.underlying26 hval
  have hcs : (Value.agg cs).cells.toList = cs.toList := rfl
  rw [hcs] at hr
  rw [show Tryd.prog.cellsOf 26 = 33 by kernel_rfl] at hsz
  have h0 := hr.field (i := 0) (off := 0) (e := 23) (by kernel_rfl)
  have h1 := hr.field (i := 1) (off := 32) (e := 24) (by kernel_rfl)
  rw [show Tryd.prog.cellsOf 23 = 32 by kernel_rfl] at h0
  rw [show Tryd.prog.cellsOf 24 = 1 by kernel_rfl] at h1
  have a0 := h0.ints Tryd.underlying23 Tryd.underlying5 (by kernel_rfl)
  obtain ⟨ea, en, ec, ks, e1, hks⟩ := h1.hashes
  have k1 := one_cell e1
  refine ⟨⟨fun j => intIn cs.toList[0 + j]?, ea, en, ec, ks⟩, ?_, fun j hj => ?_, hks⟩
  · congr 1
    refine Array.ext' (List.ext_getElem? fun i => ?_)
    by_cases hi : i < 33
    · rw [rgV_get _ i hi]
      unfold rgC
      by_cases h32 : i < 32
      · rw [if_pos h32]
        have h7 := (a0 i h32).1
        rw [sub_get h32] at h7
        rw [← h7, Nat.zero_add]
      · rw [if_neg h32]
        obtain rfl : i = 32 := by omega
        exact k1
    · rw [List.getElem?_eq_none (by rw [Array.length_toList, hsz]; omega), List.getElem?_eq_none (by rw [Array.length_toList, rgV_size]; omega)]
  · have := bounds_u8 (a0 j hj).2
    rw [sub_get hj] at this
    show 0 ≤ intIn cs.toList[0 + j]? ∧ intIn cs.toList[0 + j]? < 256
    omega

end Go.Proofs.YtpiebfhcfkncoaaDoor
