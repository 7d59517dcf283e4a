/-
  What a row's reading tells: a slice of tokens that came in.
-/
import Derived.Test.YtpiebfhcfkncoaaDoorRead
import Derived.Test.YtpiebfhcfkncoaaDoorSorted
import Derived.Deep.Slices
namespace Go.Proofs.YtpiebfhcfkncoaaDoor
open Go.ChangeShapes Go.WideShapes Go.ChangeAt Go.RowKit

theorem tok_cells {H : Type} {enc : TypeId × Value → H} {W : World} {base : Nat} {sp : Nat → Bool} {held : Bool} {n : Nat} {cs : List Value} {x : DataW H × List MemPlace} (h : DataW.trod enc Tryd.prog W base sp held n 29 cs = some x) :
    ∀ j, j < 16 → cs[j]? = some (.int .u8 (intAt cs j)) ∧ 0 ≤ intAt cs j ∧ intAt cs j < 256 := by
  have hce : Tryd.prog.cellsOf 5 = 1 := by kernel_rfl
  obtain ⟨xs, m, _, _, hl, hxl, hi⟩ := DataW.trod_array Tryd.underlying29 h
  intro j hj
  have h1 := hi j hj
  rw [hce, Nat.mul_one, List.getElem?_eq_getElem (by omega)] at h1
  obtain ⟨q, hq, _, hw⟩ := DataW.trod_int Tryd.underlying5 h1
  have h2 : ((cs.drop j).take 1)[0]? = some (.int .u8 q) := by rw [hq]; rfl
  rw [List.getElem?_take, if_pos (by omega), List.getElem?_drop] at h2
  have h3 : cs[j]? = some (.int .u8 q) := h2
  have h4 : intAt cs j = q := by unfold intAt; rw [h3]
  rw [h4]
  exact ⟨h3, wf_u8 hw⟩

theorem read_ts {H : Type} {enc : TypeId × Value → H} {W : World} {base : Nat} {held : Bool} {a : Option Addr} {len cap : Nat} {d : DataW H} {p : List MemPlace} (h : DataW.Trod enc Tryd.prog W base (fun _ => true) held 30 (.slice a len cap) d p)
    (hs : ∀ el sp, d = .slice el sp → el.length + sp.length ≤ 140737488351232) : ∃ ts, TsAt W a len cap ts := by
  have hce : Tryd.prog.cellsOf 29 = 16 := by kernel_rfl
  obtain ⟨fuel, hf⟩ := h
  rcases Deep.open_slice Tryd.underlying30 hf with ⟨hcs, _⟩ | ⟨x, l, c, m, n, D, Pl, hcs, _, hl, hm, hmm, hx, hi⟩
  · simp [Value.cells] at hcs
    obtain ⟨rfl, rfl, rfl⟩ := hcs
    exact ⟨[], rfl, Nat.le_refl _, by omega, by omega, by simp, fun h => by omega, fun _ => rfl⟩
  · simp [Value.cells] at hcs
    obtain ⟨rfl, rfl, rfl⟩ := hcs
    simp only [if_true] at hmm
    subst hmm
    simp only [Prod.mk.injEq] at hx
    have h1 := hs _ _ hx.1
    simp only [List.length_map, List.length_range] at h1
    rw [hce] at hi
    have each : ∀ i, ∃ t : Nat → Int, i < len → ∀ j, j < 16 → W.cell? ((x.add (i * 16)).add j) = some (.int .u8 (t j)) ∧ 0 ≤ t j ∧ t j < 256 := fun i => by
      by_cases hlt : i < len
      · obtain ⟨cs', g1, g2⟩ := hi i (by omega)
        obtain ⟨_, hlen, hcell⟩ := World.cells?_some g1
        refine ⟨intAt cs', fun _ j hj => ?_⟩
        obtain ⟨g3, g4⟩ := tok_cells g2 j hj
        rw [hcell j (by omega)]
        exact ⟨g3, g4⟩
      · exact ⟨fun _ => 0, fun h => absurd h hlt⟩
    obtain ⟨T, hT⟩ := Classical.axiomOfChoice each
    refine ⟨(List.range len).map T, by simp, hl, by omega, by omega, fun t ht j hj => ?_, fun hn0 => ?_, fun h => by cases h⟩
    · obtain ⟨i, hi2, rfl⟩ := List.mem_map.1 ht
      exact (hT i (List.mem_range.1 hi2) j hj).2
    · obtain ⟨b, off, spot⟩ := x
      have hsp : spot = none := by
        have g := (hT 0 (by omega) 0 (by omega)).1
        simpa [Addr.add] using World.cell?_spot g
      subst hsp
      refine ⟨b, off, rfl, fun i hi2 j hj => ?_⟩
      have g := (hT i hi2 j hj).1
      rw [add_none, add_none] at g
      rw [g]
      simp [List.getD_eq_getElem?_getD, hi2]

end Go.Proofs.YtpiebfhcfkncoaaDoor
