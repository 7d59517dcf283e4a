/-
  A filter by value as a row's reading tells it; FilterWishes as the card wants it. No conditions.
-/
import Derived.Test.YtdgbcieopkilcaaDoorRdSr
import Derived.Test.YtdgbcieopkilcaaDoorReadHd
import Derived.Test.YtdgbcieopkilcaaDoorLawFw
namespace Go.Proofs.YtdgbcieopkilcaaDoor
open Go.ChangeShapes Go.WideShapes Go.ChangeAt Go.RowKit

theorem okWide_st {P : Program} {w : World} {r : Reach} {base : Nat} {t : TypeId} {fs : Array Field} {v : Value} (ht : P.underlying t = some (.struct fs)) (h : Value.okWide P w r base t v) : ∃ cs, v = .agg cs ∧ cs.size = P.cellsOf t := by
  unfold Value.okWide at h
  cases v <;> simp_all
set_option maxRecDepth 100000 in
theorem read_fl {H : Type} {enc : TypeId × Value → H} {W : World} {base : Nat} {r : Reach} {b0 : Nat} {v : Value} (hval : Value.okWide Tryd.prog W r b0 44 v) (hr : Rd enc Tryd.prog W base 44 v.cells.toList) :
    ∃ (al : Bool) (a : Option Addr) (n c : Nat) (ss : List ByteArray), v = .agg (fltV al (.slice a n c)) ∧ SrAt W a n c ss := by
  obtain ⟨cs, rfl, hsz⟩ := okWide_st Tryd.underlying44 hval
  have hcs : (Value.agg cs).cells.toList = cs.toList := rfl
  rw [hcs] at hr
  rw [show Tryd.prog.cellsOf 44 = 2 by kernel_rfl] at hsz
  have h0 := hr.field (i := 0) (off := 0) (e := 4) (by kernel_rfl)
  have h1 := hr.field (i := 1) (off := 1) (e := 24) (by kernel_rfl)
  rw [show Tryd.prog.cellsOf 4 = 1 by kernel_rfl] at h0
  rw [show Tryd.prog.cellsOf 24 = 1 by kernel_rfl] at h1
  obtain ⟨al, e0⟩ := h0.bool Tryd.underlying4
  obtain ⟨a, n, c, ss, e1, hs⟩ := h1.srs
  have k0 := one_cell e0
  have k1 := one_cell e1
  refine ⟨al, a, n, c, ss, ?_, hs⟩
  congr 1
  refine Array.ext' (List.ext_getElem? fun i => ?_)
  by_cases hi : i < 2
  · rcases (show i = 0 ∨ i = 1 by omega) with rfl | rfl
    · exact k0
    · exact k1
  · rw [List.getElem?_eq_none (by rw [Array.length_toList, hsz]; omega), List.getElem?_eq_none (by show 2 ≤ i; omega)]
set_option maxRecDepth 100000 in
theorem lawFilterWishes_any (K al : Bool) (a : Option Addr) (n c : Nat) (ss : List ByteArray) (h : Hd) (us : List (Nat → Int)) (w : World) (hs : SrAt w a n c ss) (_ : HdOk h) (hu : TsAt w h.ta h.tn h.tc us) (hk : KsAt 2 w) :
    Calls Tryd.prog 5 #[.bool K, .agg (fltV al (.slice a n c)), .agg (hdV h)] w fun e w' => e = .returned (.bool true) ∧ Ext w w' := by
  have hb := World.block_lt_of_cell? w _ (hk 0 (by omega))
  exact lawFw_any K al a n c ss h us w hs hu hk hb

end Go.Proofs.YtdgbcieopkilcaaDoor
