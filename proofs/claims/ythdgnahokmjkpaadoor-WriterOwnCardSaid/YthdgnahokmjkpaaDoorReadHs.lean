/-
  A slice of headers as a row's reading tells it. No conditions.
-/
import Derived.Test.YthdgnahokmjkpaaDoorReadHd
import Derived.Test.YthdgnahokmjkpaaDoorHs
namespace Go.Proofs.YthdgnahokmjkpaaDoor
open Go.ChangeShapes Go.WideShapes Go.ChangeAt Go.RowKit

theorem Rd.hds {H : Type} {enc : TypeId × Value → H} {W : World} {base : Nat} {cs : List Value} (h : Rd enc Tryd.prog W base 22 cs) : ∃ (a : Option Addr) (n c : Nat) (l : List HT), cs = [.slice a n c] ∧ HsAt W a n c l := by
  rcases h.slice Tryd.underlying22 with h1 | ⟨a, len, cap, h1, hl, hc, hw, hi⟩
  · exact ⟨none, 0, 0, [], h1, rfl, Nat.le_refl _, by omega, by omega, fun x hx => (by cases hx), fun h => by omega, fun _ => rfl⟩
  · have e1 : Tryd.prog.bytesOf 35 = 232 := by kernel_rfl
    have e2 : Tryd.prog.cellsOf 35 = 125 := by kernel_rfl
    rw [e1] at hw
    have each : ∀ i, ∃ x : HT, i < cap → (∀ j, j < 125 → W.cell? ((a.add (i * 125)).add j) = some (hdC x.1 j)) ∧ HtAt W x := fun i => by
      by_cases hlt : i < cap
      · obtain ⟨cs', k1, k2⟩ := hi i hlt
        rw [e2] at k1
        obtain ⟨h, ts, he, ho, ht⟩ := rd_hd (cells_at k1).1 k2
        refine ⟨(h, ts), fun _ => ⟨fun j hj => ?_, ho, ht⟩⟩
        rw [(cells_at k1).2 j hj, he]
        exact hdV_get h j hj
      · exact ⟨htN, fun h => absurd h hlt⟩
    obtain ⟨F, hF⟩ := Classical.axiomOfChoice each
    refine ⟨some a, len, cap, (List.range len).map F, h1, by simp, hl, by unfold maxLen at hc; omega, by unfold reachBytes at hw; omega, fun x hx => ?_, fun hn0 => ?_, fun h => by cases h⟩
    · obtain ⟨i, hi2, rfl⟩ := List.mem_map.1 hx
      exact (hF i (by have := List.mem_range.1 hi2; omega)).2
    · obtain ⟨b, off, spot⟩ := a
      have hsp : spot = none := by
        have g := (hF 0 (by omega)).1 0 (by omega)
        simpa [Addr.add] using World.cell?_spot g
      subst hsp
      refine ⟨b, off, rfl, fun i hi2 j hj => ?_⟩
      have g := (hF i (by omega)).1 j hj
      rw [addr_add, addr_add] at g
      rw [g]
      simp [List.getD_eq_getElem?_getD, hi2]

set_option maxRecDepth 100000 in
theorem read_hs {H : Type} {enc : TypeId × Value → H} {W : World} {base : Nat} {r : Reach} {b0 : Nat} {v : Value} (hval : Value.okWide Tryd.prog W r b0 22 v) (hr : Rd enc Tryd.prog W base 22 v.cells.toList) :
    ∃ (a : Option Addr) (n c : Nat) (l : List HT), v = .slice a n c ∧ HsAt W a n c l := by
  obtain ⟨a, n, c, rfl⟩ := okWide_slice Tryd.underlying22 hval
  obtain ⟨a', n', c', l, he, hb⟩ := hr.hds
  have h1 : (Value.slice a n c).cells.toList = [.slice a n c] := rfl
  rw [h1] at he
  simp only [List.cons.injEq, Value.slice.injEq, and_true] at he
  obtain ⟨rfl, rfl, rfl⟩ := he
  exact ⟨_, _, _, l, rfl, hb⟩

end Go.Proofs.YthdgnahokmjkpaaDoor
