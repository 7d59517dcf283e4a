/-
  A wish, and what is asked of an index, by value, as a row's reading tells them. No conditions.
-/
import Derived.Test.YtihlpfdhallfpaaDoorReadHs
import Derived.Test.YtihlpfdhallfpaaDoorLawBat
namespace Go.Proofs.YtihlpfdhallfpaaDoor
open Go.ChangeShapes Go.WideShapes Go.ChangeAt Go.RowKit

theorem okWide_stA {P : Program} {w : World} {r : Reach} {base : Nat} {t : TypeId} {fs : Array Field} {v : Value} (ht : P.underlying t = some (.struct fs)) (h : Value.okWide P w r base t v) : ∃ cs, v = .agg cs ∧ cs.size = P.cellsOf t := by
  unfold Value.okWide at h
  cases v <;> simp_all
set_option maxRecDepth 100000 in
theorem rd_wi {H : Type} {enc : TypeId × Value → H} {W : World} {base : Nat} {cs : List Value} (hr : Rd enc Tryd.prog W base 58 cs) :
    ∃ (al : Bool) (a : Option Addr) (n c : Nat) (ts : List (Nat → Int)), cs[0]? = some (.bool al) ∧ cs[1]? = some (.slice a n c) ∧ TsAt W a n c ts := by
  have h0 := hr.field (i := 0) (off := 0) (e := 4) (by kernel_rfl)
  have h1 := hr.field (i := 1) (off := 1) (e := 31) (by kernel_rfl)
  rw [show Tryd.prog.cellsOf 4 = 1 by kernel_rfl] at h0
  rw [show Tryd.prog.cellsOf 31 = 1 by kernel_rfl] at h1
  obtain ⟨al, e0⟩ := h0.bool Tryd.underlying4
  obtain ⟨a, n, c, ts, e1, hs⟩ := h1.toks
  exact ⟨al, a, n, c, ts, one_cell e0, one_cell e1, hs⟩
set_option maxRecDepth 100000 in
theorem read_wi {H : Type} {enc : TypeId × Value → H} {W : World} {base : Nat} {r : Reach} {b0 : Nat} {v : Value} (hval : Value.okWide Tryd.prog W r b0 58 v) (hr : Rd enc Tryd.prog W base 58 v.cells.toList) :
    ∃ (al : Bool) (a : Option Addr) (n c : Nat) (ts : List (Nat → Int)), v = .agg (fltV al (.slice a n c)) ∧ TsAt W a n c ts := by
  obtain ⟨cs, rfl, hsz⟩ := okWide_stA Tryd.underlying58 hval
  have hcs : (Value.agg cs).cells.toList = cs.toList := rfl
  rw [hcs] at hr
  rw [show Tryd.prog.cellsOf 58 = 2 by kernel_rfl] at hsz
  obtain ⟨al, a, n, c, ts, k0, k1, hs⟩ := rd_wi hr
  refine ⟨al, a, n, c, ts, ?_, hs⟩
  congr 1
  refine Array.ext' (List.ext_getElem? fun i => ?_)
  by_cases hi : i < 2
  · rcases (show i = 0 ∨ i = 1 by omega) with rfl | rfl
    · exact k0
    · exact k1
  · rw [List.getElem?_eq_none (by rw [Array.length_toList, hsz]; omega), List.getElem?_eq_none (by show 2 ≤ i; omega)]
set_option maxRecDepth 100000 in
theorem read_ask {H : Type} {enc : TypeId × Value → H} {W : World} {base : Nat} {r : Reach} {b0 : Nat} {v : Value} (hval : Value.okWide Tryd.prog W r b0 64 v) (hr : Rd enc Tryd.prog W base 64 v.cells.toList) :
    ∃ (cu : Nat → Nat) (al : Bool) (a : Option Addr) (n c : Nat) (ts : List (Nat → Int)) (most : Int), v = .agg (askV20 cu al a n c most) ∧ (∀ i, i < 6 → cu i < 18446744073709551616) ∧ (-9223372036854775808 ≤ most ∧ most ≤ 9223372036854775807) ∧ TsAt W a n c ts := by
  obtain ⟨cs, rfl, hsz⟩ := okWide_stA Tryd.underlying64 hval
  have hcs : (Value.agg cs).cells.toList = cs.toList := rfl
  rw [hcs] at hr
  rw [show Tryd.prog.cellsOf 64 = 9 by kernel_rfl] at hsz
  have h0 := hr.field (i := 0) (off := 0) (e := 48) (by kernel_rfl)
  have h1 := hr.field (i := 1) (off := 6) (e := 58) (by kernel_rfl)
  have h2 := hr.field (i := 2) (off := 8) (e := 3) (by kernel_rfl)
  rw [show Tryd.prog.cellsOf 48 = 6 by kernel_rfl] at h0
  rw [show Tryd.prog.cellsOf 58 = 2 by kernel_rfl] at h1
  rw [show Tryd.prog.cellsOf 3 = 1 by kernel_rfl] at h2
  have hcur := h0.ints Tryd.underlying48 Tryd.underlying26 (by kernel_rfl)
  obtain ⟨f, hff⟩ : ∃ f : Nat → Int, (fun j => intIn ((cs.toList.drop 0).take 6)[j]?) = f := ⟨_, rfl⟩
  have e0 : ∀ j, j < 6 → ((cs.toList.drop 0).take 6)[j]? = some (.int .u64 (f j)) := fun j hj => by rw [← hff]; exact (hcur j hj).1
  have hf : ∀ j, j < 6 → (Lit.int .u64 (f j)).wf = true := fun j hj => by rw [← hff]; exact (hcur j hj).2
  obtain ⟨al, a, n, c, ts, k0, k1, hs⟩ := rd_wi h1
  obtain ⟨m, e2, hm⟩ := h2.int Tryd.underlying3
  have k2 := one_cell e2
  rw [sub_get (by omega)] at k0 k1
  have hfb : ∀ i, i < 6 → 0 ≤ f i ∧ f i < 18446744073709551616 := fun i hi => ⟨(bounds_u64 (hf i hi)).1, Int.lt_of_le_of_lt (bounds_u64 (hf i hi)).2 (by decide)⟩
  refine ⟨fun i => (f i).toNat, al, a, n, c, ts, m, ?_, fun i hi => ?_, bounds_i64 hm, hs⟩
  · congr 1
    refine Array.ext' (List.ext_getElem? fun i => ?_)
    by_cases hi : i < 9
    · have h7 : (askV20 (fun i => (f i).toNat) al a n c m).toList[i]? = some (askC (fun i => (f i).toNat) al a n c m i) := by
        rw [Array.getElem?_toList]
        exact rowArr_get _ _ _ hi
      rw [h7]
      unfold askC
      by_cases l1 : i < 6
      · rw [if_pos l1]
        have h8 := e0 i l1
        rw [sub_get l1, Nat.zero_add] at h8
        rw [h8]
        have h9 := hfb i l1
        congr 2
        show f i = ((f i).toNat : Int)
        omega
      · rw [if_neg l1]
        by_cases l2 : i = 6
        · rw [if_pos l2, l2]
          exact k0
        · rw [if_neg l2]
          by_cases l3 : i = 7
          · rw [if_pos l3, l3]
            exact k1
          · rw [if_neg l3]
            obtain rfl : i = 8 := by omega
            exact k2
    · rw [List.getElem?_eq_none (by rw [Array.length_toList, hsz]; omega), List.getElem?_eq_none (by rw [Array.length_toList]; unfold askV20; rw [rowArr_size]; omega)]
  · have := hfb i hi
    show (f i).toNat < _
    omega

end Go.Proofs.YtihlpfdhallfpaaDoor
