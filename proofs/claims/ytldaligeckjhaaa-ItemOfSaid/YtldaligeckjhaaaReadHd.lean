/-
  A header by value as a row's reading tells it. No conditions.
-/
import Derived.Test.YtldaligeckjhaaaRd
import Derived.Test.YtldaligeckjhaaaHdA
namespace Go.Proofs.Ytldaligeckjhaaa
open Go.ChangeShapes Go.WideShapes Go.ChangeAt Go.RowKit

section
variable {H : Type} {enc : TypeId × Value → H} {P : Program} {W : World} {base : Nat} {t e : TypeId} {cs : List Value}
theorem Rd.ints (h : Rd enc P W base t cs) {n : Nat} {k : IntKind} (hu : P.underlying t = some (.array n e)) (he : P.underlying e = some (.int k)) (hce : P.cellsOf e = 1) :
    ∀ j, j < n → cs[j]? = some (.int k (intIn cs[j]?)) ∧ (Lit.int k (intIn cs[j]?)).wf = true := by
  intro j hj
  have h1 := h.elem hu hj
  rw [hce, Nat.mul_one] at h1
  obtain ⟨x, hx, hw⟩ := h1.int he
  have h2 := one_cell hx
  rw [h2]
  exact ⟨rfl, hw⟩
theorem sub_get {cs : List Value} {off n j : Nat} (hj : j < n) : ((cs.drop off).take n)[j]? = cs[off + j]? := by
  rw [List.getElem?_take, if_pos hj, List.getElem?_drop]
end

theorem Rd.toks {H : Type} {enc : TypeId × Value → H} {W : World} {base : Nat} {cs : List Value} (h : Rd enc Try.prog W base 28 cs) : ∃ (a : Option Addr) (n c : Nat) (ts : List (Nat → Int)), cs = [.slice a n c] ∧ TsAt W a n c ts := by
  rcases h.slice Try.underlying28 with h1 | ⟨a, len, cap, h1, hl, hc, hw, hi⟩
  · exact ⟨none, 0, 0, [], h1, rfl, Nat.le_refl _, by omega, by omega, by simp, fun h => by omega, fun _ => rfl⟩
  · have e1 : Try.prog.bytesOf 27 = 16 := by kernel_rfl
    have e2 : Try.prog.cellsOf 27 = 16 := by kernel_rfl
    have e3 : Try.prog.cellsOf 5 = 1 := by kernel_rfl
    rw [e1] at hw
    have each : ∀ i, ∃ t : Nat → Int, i < cap → ∀ j, j < 16 → W.cell? ((a.add (i * 16)).add j) = some (.int .u8 (t j)) ∧ 0 ≤ t j ∧ t j < 256 := fun i => by
      by_cases hlt : i < cap
      · obtain ⟨cs', k1, k2⟩ := hi i hlt
        rw [e2] at k1
        have h3 := k2.ints Try.underlying27 Try.underlying5 e3
        refine ⟨fun j => intIn cs'[j]?, fun _ j hj => ?_⟩
        obtain ⟨h4, h5⟩ := h3 j hj
        have hb : 0 ≤ intIn cs'[j]? ∧ intIn cs'[j]? < 256 := by
          have := bounds_u8 h5
          omega
        rw [(cells_at k1).2 j hj]
        exact ⟨h4, hb⟩
      · exact ⟨fun _ => 0, fun h => absurd h hlt⟩
    obtain ⟨T, hT⟩ := Classical.axiomOfChoice each
    refine ⟨some a, len, cap, (List.range len).map T, h1, by simp, hl, by unfold maxLen at hc; omega, by unfold reachBytes at hw; omega, fun t ht j hj => ?_, fun hn0 => ?_, fun h => by cases h⟩
    · obtain ⟨i, hi2, rfl⟩ := List.mem_map.1 ht
      exact (hT i (by have := List.mem_range.1 hi2; omega) j hj).2
    · obtain ⟨b, off, spot⟩ := a
      have hsp : spot = none := by
        have g := (hT 0 (by omega) 0 (by omega)).1
        simpa [Addr.add] using World.cell?_spot g
      subst hsp
      refine ⟨b, off, rfl, fun i hi2 j hj => ?_⟩
      have g := (hT i (by omega) j hj).1
      rw [addr_add, addr_add] at g
      rw [g]
      simp [List.getD_eq_getElem?_getD, hi2]

theorem hdV_get (h : Hd) (i : Nat) (hi : i < 125) : (hdV h).toList[i]? = some (hdC h i) := by
  rw [Array.getElem?_toList]
  exact rowArr_get _ _ _ hi

set_option maxRecDepth 100000 in
theorem rd_hd {H : Type} {enc : TypeId × Value → H} {W : World} {base : Nat} {cs : List Value} (hl : cs.length = 125) (hr : Rd enc Try.prog W base 31 cs) :
    ∃ (h : Hd) (ts : List (Nat → Int)), cs = (hdV h).toList ∧ HdOk h ∧ TsAt W h.ta h.tn h.tc ts := by
  have c1 : Try.prog.cellsOf 3 = 1 := by kernel_rfl
  have c2 : Try.prog.cellsOf 23 = 1 := by kernel_rfl
  have c3 : Try.prog.cellsOf 25 = 32 := by kernel_rfl
  have c4 : Try.prog.cellsOf 27 = 16 := by kernel_rfl
  have c5 : Try.prog.cellsOf 4 = 1 := by kernel_rfl
  have c6 : Try.prog.cellsOf 28 = 1 := by kernel_rfl
  have c7 : Try.prog.cellsOf 29 = 6 := by kernel_rfl
  have c8 : Try.prog.cellsOf 5 = 1 := by kernel_rfl
  have h0 := hr.field (i := 0) (off := 0) (e := 3) (by kernel_rfl)
  have h1 := hr.field (i := 1) (off := 1) (e := 23) (by kernel_rfl)
  have h2 := hr.field (i := 2) (off := 2) (e := 25) (by kernel_rfl)
  have h3 := hr.field (i := 3) (off := 34) (e := 3) (by kernel_rfl)
  have h4 := hr.field (i := 4) (off := 35) (e := 4) (by kernel_rfl)
  have h5 := hr.field (i := 5) (off := 36) (e := 23) (by kernel_rfl)
  have h6 := hr.field (i := 6) (off := 37) (e := 27) (by kernel_rfl)
  have h7 := hr.field (i := 7) (off := 53) (e := 28) (by kernel_rfl)
  have h8 := hr.field (i := 8) (off := 54) (e := 29) (by kernel_rfl)
  have h9 := hr.field (i := 9) (off := 60) (e := 25) (by kernel_rfl)
  have h10 := hr.field (i := 10) (off := 92) (e := 3) (by kernel_rfl)
  have h11 := hr.field (i := 11) (off := 93) (e := 25) (by kernel_rfl)
  rw [c1] at h0 h3 h10
  rw [c2] at h1 h5
  rw [c3] at h2 h9 h11
  rw [c4] at h6
  rw [c5] at h4
  rw [c6] at h7
  rw [c7] at h8
  obtain ⟨x0, e0, w0⟩ := h0.int Try.underlying3
  obtain ⟨x1, e1, w1⟩ := h1.int Try.underlying23
  obtain ⟨x3, e3, w3⟩ := h3.int Try.underlying3
  obtain ⟨x4, e4⟩ := h4.bool Try.underlying4
  obtain ⟨x5, e5, w5⟩ := h5.int Try.underlying23
  obtain ⟨ta, tn, tc, ts, e7, hts⟩ := h7.toks
  obtain ⟨x10, e10, w10⟩ := h10.int Try.underlying3
  have a2 := h2.ints Try.underlying25 Try.underlying5 c8
  have a6 := h6.ints Try.underlying27 Try.underlying5 c8
  have a8 := h8.ints Try.underlying29 Try.underlying23 c2
  have a9 := h9.ints Try.underlying25 Try.underlying5 c8
  have a11 := h11.ints Try.underlying25 Try.underlying5 c8
  have k0 := one_cell e0
  have k1 := one_cell e1
  have k3 := one_cell e3
  have k4 := one_cell e4
  have k5 := one_cell e5
  have k7 := one_cell e7
  have k10 := one_cell e10
  have b0 := bounds_i64 w0
  have b1 := bounds_u64 w1
  have b3 := bounds_i64 w3
  have b5 := bounds_u64 w5
  have b10 := bounds_i64 w10
  refine ⟨⟨x0, x1, fun j => intIn cs[2 + j]?, x3, x4, x5, fun j => intIn cs[37 + j]?, ta, tn, tc, fun j => intIn cs[54 + j]?, fun j => intIn cs[60 + j]?, x10, fun j => intIn cs[93 + j]?⟩, ts, ?_, ⟨(show -9223372036854775808 ≤ x0 ∧ x0 ≤ 9223372036854775807 from ⟨by omega, by omega⟩), (show 0 ≤ x1 ∧ x1 < 18446744073709551616 from ⟨by omega, by omega⟩), fun j hj => ?_, (show -9223372036854775808 ≤ x3 ∧ x3 ≤ 9223372036854775807 from ⟨by omega, by omega⟩), (show 0 ≤ x5 ∧ x5 < 18446744073709551616 from ⟨by omega, by omega⟩), fun j hj => ?_, fun j hj => ?_, fun j hj => ?_, (show -9223372036854775808 ≤ x10 ∧ x10 ≤ 9223372036854775807 from ⟨by omega, by omega⟩), fun j hj => ?_⟩, hts⟩
  · apply List.ext_getElem?
    intro i
    by_cases hi : i < 125
    · rw [hdV_get _ i hi]
      unfold hdC
      by_cases l1 : i < 1
      · obtain rfl : i = 0 := by omega
        exact k0
      rw [if_neg l1]
      by_cases l2 : i < 2
      · obtain rfl : i = 1 := by omega
        exact k1
      rw [if_neg l2]
      by_cases l3 : i < 34
      · rw [if_pos l3]
        have := (a2 (i - 2) (by omega)).1
        rw [sub_get (by omega), show 2 + (i - 2) = i by omega] at this
        show _ = some (Value.int .u8 (intIn cs[2 + (i - 2)]?))
        rw [show 2 + (i - 2) = i by omega]
        exact this
      rw [if_neg l3]
      by_cases l4 : i < 35
      · obtain rfl : i = 34 := by omega
        exact k3
      rw [if_neg l4]
      by_cases l5 : i < 36
      · obtain rfl : i = 35 := by omega
        exact k4
      rw [if_neg l5]
      by_cases l6 : i < 37
      · obtain rfl : i = 36 := by omega
        exact k5
      rw [if_neg l6]
      by_cases l7 : i < 53
      · rw [if_pos l7]
        have := (a6 (i - 37) (by omega)).1
        rw [sub_get (by omega), show 37 + (i - 37) = i by omega] at this
        show _ = some (Value.int .u8 (intIn cs[37 + (i - 37)]?))
        rw [show 37 + (i - 37) = i by omega]
        exact this
      rw [if_neg l7]
      by_cases l8 : i < 54
      · obtain rfl : i = 53 := by omega
        exact k7
      rw [if_neg l8]
      by_cases l9 : i < 60
      · rw [if_pos l9]
        have := (a8 (i - 54) (by omega)).1
        rw [sub_get (by omega), show 54 + (i - 54) = i by omega] at this
        show _ = some (Value.int .u64 (intIn cs[54 + (i - 54)]?))
        rw [show 54 + (i - 54) = i by omega]
        exact this
      rw [if_neg l9]
      by_cases l10 : i < 92
      · rw [if_pos l10]
        have := (a9 (i - 60) (by omega)).1
        rw [sub_get (by omega), show 60 + (i - 60) = i by omega] at this
        show _ = some (Value.int .u8 (intIn cs[60 + (i - 60)]?))
        rw [show 60 + (i - 60) = i by omega]
        exact this
      rw [if_neg l10]
      by_cases l11 : i < 93
      · obtain rfl : i = 92 := by omega
        exact k10
      rw [if_neg l11]
      have := (a11 (i - 93) (by omega)).1
      rw [sub_get (by omega), show 93 + (i - 93) = i by omega] at this
      show _ = some (Value.int .u8 (intIn cs[93 + (i - 93)]?))
      rw [show 93 + (i - 93) = i by omega]
      exact this
    · rw [List.getElem?_eq_none (by omega), List.getElem?_eq_none (by rw [Array.length_toList, hdV_size]; omega)]
  · have := bounds_u8 (a2 j hj).2
    rw [sub_get hj] at this
    show 0 ≤ intIn cs[2 + j]? ∧ intIn cs[2 + j]? < 256
    omega
  · have := bounds_u8 (a6 j hj).2
    rw [sub_get hj] at this
    show 0 ≤ intIn cs[37 + j]? ∧ intIn cs[37 + j]? < 256
    omega
  · have := bounds_u64 (a8 j hj).2
    rw [sub_get hj] at this
    show 0 ≤ intIn cs[54 + j]? ∧ intIn cs[54 + j]? < 18446744073709551616
    omega
  · have := bounds_u8 (a9 j hj).2
    rw [sub_get hj] at this
    show 0 ≤ intIn cs[60 + j]? ∧ intIn cs[60 + j]? < 256
    omega
  · have := bounds_u8 (a11 j hj).2
    rw [sub_get hj] at this
    show 0 ≤ intIn cs[93 + j]? ∧ intIn cs[93 + j]? < 256
    omega

set_option maxRecDepth 100000 in
theorem read_hd {H : Type} {enc : TypeId × Value → H} {W : World} {base : Nat} {r : Reach} {b0 : Nat} {v : Value} (hval : Value.okWide Try.prog W r b0 31 v) (hr : Rd enc Try.prog W base 31 v.cells.toList) :
    ∃ (h : Hd) (ts : List (Nat → Int)), v = .agg (hdV h) ∧ HdOk h ∧ TsAt W h.ta h.tn h.tc ts := by
  obtain ⟨cs, rfl, hsz⟩ := okWide_struct Try.underlying31 hval
  have hcs : (Value.agg cs).cells.toList = cs.toList := rfl
  rw [hcs] at hr
  rw [show Try.prog.cellsOf 31 = 125 by kernel_rfl] at hsz
  obtain ⟨h, ts, he, ho, ht⟩ := rd_hd (by rw [Array.length_toList]; exact hsz) hr
  exact ⟨h, ts, by congr 1; exact Array.ext' he, ho, ht⟩

end Go.Proofs.Ytldaligeckjhaaa
