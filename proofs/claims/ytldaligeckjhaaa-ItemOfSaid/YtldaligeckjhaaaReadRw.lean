/-
  Rows of an item as a row's reading tells them. No conditions.
  A token by value as a row's reading tells it. No conditions.
-/
import Derived.Test.YtldaligeckjhaaaReadHd
import Derived.Test.YtldaligeckjhaaaRdSr
import Derived.Test.YtldaligeckjhaaaRwF
namespace Go.Proofs.Ytldaligeckjhaaa
open Go.ChangeAt Go.ChangeShapes Go.RowKit Go.WideShapes

theorem Rd.srsN {H : Type} {enc : TypeId × Value → H} {W : World} {base : Nat} {cs : List Value} (h : Rd enc Try.prog W base 32 cs) : ∃ (a : Option Addr) (n c : Nat) (ss : List ByteArray), cs = [.slice a n c] ∧ SrAt W a n c ss ∧ n ≤ 140737488355328 := by
  obtain ⟨a, n, c, ss, e, hs⟩ := h.srs
  refine ⟨a, n, c, ss, e, hs, ?_⟩
  rcases h.slice Try.underlying32 with h1 | ⟨a', len, cap, h1, hl, hc, hw, hi⟩
  · rw [e] at h1
    simp only [List.cons.injEq, Value.slice.injEq, and_true] at h1
    omega
  · rw [e] at h1
    simp only [List.cons.injEq, Value.slice.injEq, and_true] at h1
    have e1 : Try.prog.bytesOf 9 = 16 := by kernel_rfl
    rw [e1] at hw
    unfold reachBytes at hw
    omega
set_option maxRecDepth 100000 in
theorem rd_rw {H : Type} {enc : TypeId × Value → H} {W : World} {base : Nat} {cs : List Value} (hl : cs.length = 130) (hr : Rd enc Try.prog W base 36 cs) : ∃ r : Rw, (∀ i, i < 130 → cs[i]? = some (rwC r i)) ∧ RwAt W r := by
  have c1 : Try.prog.cellsOf 3 = 1 := by kernel_rfl
  have c3 : Try.prog.cellsOf 31 = 125 := by kernel_rfl
  have c4 : Try.prog.cellsOf 4 = 1 := by kernel_rfl
  have c5 : Try.prog.cellsOf 34 = 4 := by kernel_rfl
  have c6 : Try.prog.cellsOf 9 = 1 := by kernel_rfl
  have c7 : Try.prog.cellsOf 32 = 1 := by kernel_rfl
  have h0 := hr.field (i := 0) (off := 0) (e := 31) (by kernel_rfl)
  have h1 := hr.field (i := 1) (off := 125) (e := 4) (by kernel_rfl)
  have h2 := hr.field (i := 2) (off := 126) (e := 34) (by kernel_rfl)
  rw [c3] at h0
  rw [c4] at h1
  rw [c5] at h2
  have g0 := h2.field (i := 0) (off := 0) (e := 3) (by kernel_rfl)
  have g1 := h2.field (i := 1) (off := 1) (e := 9) (by kernel_rfl)
  have g2 := h2.field (i := 2) (off := 2) (e := 32) (by kernel_rfl)
  have g3 := h2.field (i := 3) (off := 3) (e := 9) (by kernel_rfl)
  rw [c1] at g0
  rw [c6] at g1 g3
  rw [c7] at g2
  obtain ⟨h, ts, e0, oh, th⟩ := rd_hd (by simp; omega) h0
  obtain ⟨kn, e1⟩ := h1.bool Try.underlying4
  obtain ⟨op, f0, w0⟩ := g0.int Try.underlying3
  obtain ⟨nm, f1, s1⟩ := g1.string Try.underlying9
  obtain ⟨ta, tn, tc, ss, f2, hs, htn⟩ := g2.srsN
  obtain ⟨vl, f3, s3⟩ := g3.string Try.underlying9
  have k1 := one_cell e1
  have l0 := one_cell f0
  have l1 := one_cell f1
  have l2 := one_cell f2
  have l3 := one_cell f3
  rw [sub_get (by omega)] at l0 l1 l2 l3
  have b0 := bounds_i64 w0
  have hn := hs.len
  refine ⟨⟨(h, ts), kn, op, nm, ta, tc, ss, vl⟩, fun i hi => ?_, ⟨⟨oh, th⟩, (by show SrAt W ta ss.length tc ss; rw [hn]; exact hs), (by show ss.length ≤ _; omega), (show -9223372036854775808 ≤ op ∧ op ≤ 9223372036854775807 from ⟨by omega, by omega⟩), s1, s3⟩⟩
  unfold rwC
  by_cases q1 : i < 125
  · rw [if_pos q1]
    have h7 : ((cs.drop 0).take 125)[i]? = (hdV h).toList[i]? := by rw [e0]
    rw [sub_get (by omega), hdV_get _ _ (by omega), Nat.zero_add] at h7
    exact h7
  · rw [if_neg q1]
    by_cases q2 : i < 126
    · obtain rfl : i = 125 := by omega
      rw [if_pos q2, k1]
    · rw [if_neg q2]
      unfold chgC
      by_cases q3 : i < 127
      · obtain rfl : i = 126 := by omega
        exact l0
      by_cases q4 : i < 128
      · obtain rfl : i = 127 := by omega
        exact l1
      by_cases q5 : i < 129
      · obtain rfl : i = 128 := by omega
        rw [l2]
        show some (Value.slice ta tn tc) = some (Value.slice ta ss.length tc)
        rw [hn]
      · obtain rfl : i = 129 := by omega
        exact l3
set_option maxRecDepth 100000 in
theorem Rd.rws {H : Type} {enc : TypeId × Value → H} {W : World} {base : Nat} {cs : List Value} (h : Rd enc Try.prog W base 22 cs) : ∃ (a : Option Addr) (n c : Nat) (l : List Rw), cs = [.slice a n c] ∧ RwsAt W a n c l := by
  rcases h.slice Try.underlying22 with h1 | ⟨a, len, cap, h1, hl, hc, hw, hi⟩
  · exact ⟨none, 0, 0, [], h1, rfl, Nat.le_refl _, by omega, by omega, fun x hx => (by cases hx), fun h => by omega, fun _ => rfl⟩
  · have e1 : Try.prog.bytesOf 36 = 304 := by kernel_rfl
    have e2 : Try.prog.cellsOf 36 = 130 := by kernel_rfl
    rw [e1] at hw
    have each : ∀ i, ∃ x : Rw, i < cap → (∀ j, j < 130 → W.cell? ((a.add (i * 130)).add j) = some (rwC x j)) ∧ RwAt W x := fun i => by
      by_cases hlt : i < cap
      · obtain ⟨cs', k1, k2⟩ := hi i hlt
        rw [e2] at k1
        obtain ⟨p, he, ho⟩ := rd_rw (cells_at k1).1 k2
        refine ⟨p, fun _ => ⟨fun j hj => ?_, ho⟩⟩
        rw [(cells_at k1).2 j hj, he j hj]
      · exact ⟨rwN, fun h => absurd h hlt⟩
    obtain ⟨F, hF⟩ := Classical.axiomOfChoice each
    refine ⟨some a, len, cap, (List.range len).map F, h1, by simp, hl, by unfold maxLen at hc; omega, by unfold reachBytes at hw; omega, fun x hx => ?_, fun hn0 => ?_, fun h => by cases h⟩
    · obtain ⟨i, hi2, rfl⟩ := List.mem_map.1 hx
      exact (hF i (by have := List.mem_range.1 hi2; omega)).2
    · obtain ⟨b, off, spot⟩ := a
      have hsp : spot = none := by
        have g := (hF 0 (by omega)).1 0 (by omega)
        simpa [Addr.add] using World.cell?_spot g
      subst hsp
      refine ⟨b, off, rfl, fun i hi2 j hj => ?_⟩
      have g := (hF i (by omega)).1 j hj
      rw [addr_add, addr_add] at g
      rw [g]
      simp [List.getD_eq_getElem?_getD, hi2]
set_option maxRecDepth 100000 in
theorem read_rws {H : Type} {enc : TypeId × Value → H} {W : World} {base : Nat} {r : Reach} {b0 : Nat} {v : Value} (hval : Value.okWide Try.prog W r b0 22 v) (hr : Rd enc Try.prog W base 22 v.cells.toList) :
    ∃ (a : Option Addr) (n c : Nat) (l : List Rw), v = .slice a n c ∧ RwsAt W a n c l := by
  obtain ⟨a, n, c, rfl⟩ := okWide_slice Try.underlying22 hval
  obtain ⟨a', n', c', l, he, hb⟩ := hr.rws
  have h1 : (Value.slice a n c).cells.toList = [.slice a n c] := rfl
  rw [h1] at he
  simp only [List.cons.injEq, Value.slice.injEq, and_true] at he
  obtain ⟨rfl, rfl, rfl⟩ := he
  exact ⟨_, _, _, l, rfl, hb⟩
set_option maxRecDepth 100000 in
theorem read_rw {H : Type} {enc : TypeId × Value → H} {W : World} {base : Nat} {r : Reach} {b0 : Nat} {v : Value} (hval : Value.okWide Try.prog W r b0 36 v) (hr : Rd enc Try.prog W base 36 v.cells.toList) :
    ∃ (x : Rw), v = .agg (rwV x) ∧ RwAt W x := by
  obtain ⟨cs, rfl, hsz⟩ := okWide_struct Try.underlying36 hval
  have hcs : (Value.agg cs).cells.toList = cs.toList := rfl
  rw [hcs] at hr
  rw [show Try.prog.cellsOf 36 = 130 by kernel_rfl] at hsz
  obtain ⟨x, he, ho⟩ := rd_rw (by rw [Array.length_toList]; exact hsz) hr
  refine ⟨x, ?_, ho⟩
  congr 1
  refine Array.ext' (List.ext_getElem? fun i => ?_)
  by_cases hi : i < 130
  · rw [he i hi, Array.getElem?_toList]
    exact (rowArr_get 130 (rwC x) i hi).symm
  · rw [List.getElem?_eq_none (by rw [Array.length_toList]; omega), List.getElem?_eq_none (by rw [Array.length_toList, rwV_size]; omega)]

theorem okWide_arrT {P : Program} {w : World} {r : Reach} {base : Nat} {t e : TypeId} {n : Nat} {v : Value} (ht : P.underlying t = some (.array n e)) (h : Value.okWide P w r base t v) : ∃ cs, v = .agg cs ∧ cs.size = P.cellsOf t := by
  unfold Value.okWide at h
  cases v <;> simp_all
set_option maxRecDepth 100000 in
theorem read_tok {H : Type} {enc : TypeId × Value → H} {W : World} {base : Nat} {r : Reach} {b0 : Nat} {v : Value} (hval : Value.okWide Try.prog W r b0 27 v) (hr : Rd enc Try.prog W base 27 v.cells.toList) :
    ∃ (k : Nat → Int), v = .agg (rowArr 16 fun j => .int .u8 (k j)) ∧ True := by
  obtain ⟨cs, rfl, hsz⟩ := okWide_arrT Try.underlying27 hval
  have hcs : (Value.agg cs).cells.toList = cs.toList := rfl
  rw [hcs] at hr
  rw [show Try.prog.cellsOf 27 = 16 by kernel_rfl] at hsz
  have h := hr.ints Try.underlying27 Try.underlying5 (by kernel_rfl)
  refine ⟨fun j => intIn cs.toList[j]?, ?_, trivial⟩
  congr 1
  refine Array.ext' (List.ext_getElem? fun i => ?_)
  by_cases hi : i < 16
  · have e : (rowArr 16 fun j => Value.int .u8 (intIn cs.toList[j]?)).toList[i]? = some (.int .u8 (intIn cs.toList[i]?)) := by
      rw [Array.getElem?_toList]
      exact rowArr_get 16 (fun j => Value.int .u8 (intIn cs.toList[j]?)) i hi
    exact (h i hi).1.trans e.symm
  · rw [List.getElem?_eq_none (by rw [Array.length_toList]; omega), List.getElem?_eq_none (by rw [Array.length_toList, rowArr_size]; omega)]

end Go.Proofs.Ytldaligeckjhaaa
