/-
  A slice of pieces as a row's reading tells it. No conditions.
-/
import Derived.Test.YtihlpfdhallfpaaDoorReadHs
import Derived.Test.YtihlpfdhallfpaaDoorIxS
namespace Go.Proofs.YtihlpfdhallfpaaDoor
open Go.ChangeShapes Go.WideShapes Go.ChangeAt Go.RowKit

set_option maxRecDepth 100000 in
theorem rd_pc {H : Type} {enc : TypeId × Value → H} {W : World} {base : Nat} {cs : List Value} (hl : cs.length = 126) (hr : Rd enc Tryd.prog W base 37 cs) : ∃ p : Pc, (∀ i, i < 126 → cs[i]? = some (pcC p i)) ∧ HtAt W p.hd ∧ BsAt W p.ba p.bd.length p.bc p.bd := by
  have c3 : Tryd.prog.cellsOf 34 = 125 := by kernel_rfl
  have c6 : Tryd.prog.cellsOf 35 = 1 := by kernel_rfl
  have h0 := hr.field (i := 0) (off := 0) (e := 34) (by kernel_rfl)
  have h1 := hr.field (i := 1) (off := 125) (e := 35) (by kernel_rfl)
  rw [c3] at h0
  rw [c6] at h1
  obtain ⟨a, n, c, xs, e1, hb⟩ := h1.bytes
  obtain ⟨h, ts, e0, oh, th⟩ := rd_hd (by simp; omega) h0
  have k1 := one_cell e1
  have hn := hb.len
  refine ⟨⟨(h, ts), a, c, xs⟩, fun i hi => ?_, ⟨oh, th⟩, by show BsAt W a xs.length c xs; rw [hn]; exact hb⟩
  unfold pcC
  by_cases l1 : i < 125
  · rw [if_pos l1]
    have h7 : ((cs.drop 0).take 125)[i]? = (hdV h).toList[i]? := by rw [e0]
    rw [sub_get (by omega), hdV_get _ _ (by omega), Nat.zero_add] at h7
    exact h7
  · rw [if_neg l1]
    obtain rfl : i = 125 := by omega
    rw [k1]
    show some (Value.slice a n c) = some (Value.slice a xs.length c)
    rw [hn]
set_option maxRecDepth 100000 in
theorem Rd.pis {H : Type} {enc : TypeId × Value → H} {W : World} {base : Nat} {cs : List Value} (h : Rd enc Tryd.prog W base 24 cs) : ∃ (a : Option Addr) (n c : Nat) (l : List Pc), cs = [.slice a n c] ∧ PisR W a n c l := by
  rcases h.slice Tryd.underlying24 with h1 | ⟨a, len, cap, h1, hl, hc, hw, hi⟩
  · exact ⟨none, 0, 0, [], h1, rfl, Nat.le_refl _, by omega, by omega, fun x hx => (by cases hx), fun h => by omega, fun _ => rfl⟩
  · have e1 : Tryd.prog.bytesOf 37 = 256 := by kernel_rfl
    have e2 : Tryd.prog.cellsOf 37 = 126 := by kernel_rfl
    rw [e1] at hw
    have each : ∀ i, ∃ x : Pc, i < cap → (∀ j, j < 126 → W.cell? ((a.add (i * 126)).add j) = some (pcC x j)) ∧ HtAt W x.hd ∧ BsAt W x.ba x.bd.length x.bc x.bd := fun i => by
      by_cases hlt : i < cap
      · obtain ⟨cs', k1, k2⟩ := hi i hlt
        rw [e2] at k1
        obtain ⟨p, he, ho⟩ := rd_pc (cells_at k1).1 k2
        refine ⟨p, fun _ => ⟨fun j hj => ?_, ho⟩⟩
        rw [(cells_at k1).2 j hj, he j hj]
      · exact ⟨pcN, fun h => absurd h hlt⟩
    obtain ⟨F, hF⟩ := Classical.axiomOfChoice each
    refine ⟨some a, len, cap, (List.range len).map F, h1, by simp, hl, by unfold maxLen at hc; omega, by unfold reachBytes at hw; omega, fun x hx => ?_, fun hn0 => ?_, fun h => by cases h⟩
    · obtain ⟨i, hi2, rfl⟩ := List.mem_map.1 hx
      exact (hF i (by have := List.mem_range.1 hi2; omega)).2
    · obtain ⟨b, off, spot⟩ := a
      have hsp : spot = none := by
        have g := (hF 0 (by omega)).1 0 (by omega)
        simpa [Addr.add] using World.cell?_spot g
      subst hsp
      refine ⟨b, off, rfl, fun i hi2 j hj => ?_⟩
      have g := (hF i (by omega)).1 j hj
      rw [addr_add, addr_add] at g
      rw [g]
      simp [List.getD_eq_getElem?_getD, hi2]
set_option maxRecDepth 100000 in
theorem read_pi {H : Type} {enc : TypeId × Value → H} {W : World} {base : Nat} {r : Reach} {b0 : Nat} {v : Value} (hval : Value.okWide Tryd.prog W r b0 24 v) (hr : Rd enc Tryd.prog W base 24 v.cells.toList) :
    ∃ (a : Option Addr) (n c : Nat) (l : List Pc), v = .slice a n c ∧ PisR W a n c l := by
  obtain ⟨a, n, c, rfl⟩ := okWide_slice Tryd.underlying24 hval
  obtain ⟨a', n', c', l, he, hb⟩ := hr.pis
  have h1 : (Value.slice a n c).cells.toList = [.slice a n c] := rfl
  rw [h1] at he
  simp only [List.cons.injEq, Value.slice.injEq, and_true] at he
  obtain ⟨rfl, rfl, rfl⟩ := he
  exact ⟨_, _, _, l, rfl, hb⟩

end Go.Proofs.YtihlpfdhallfpaaDoor
