/-
  A proof by value: 255 cells; its fields, its headers loaded and stored; whether it is formed. No conditions.
-/
import Derived.Test.YtdhbkjajhbfihaaMid
import Derived.Test.YtdhbkjajhbfihaaHdEq
namespace Go.Proofs.Ytdhbkjajhbfihaa
open Go.ChangeShapes Go.WideShapes Go.ChangeAt Go.RowKit

structure Pr where
  kind : Int
  a : HT
  b : HT
  writer : Int
  floor : Int
  head : Int
  wa : Option Addr
  wn : Nat
  wc : Nat
  ws : List (Nat → Int)

/-- A proof's cell. -/
def prC (p : Pr) (i : Nat) : Value :=
  if i < 1 then .int .i64 p.kind else if i < 126 then hdC p.a.1 (i - 1) else if i < 251 then hdC p.b.1 (i - 126) else if i < 252 then .int .i64 p.writer else if i < 253 then .int .u64 p.floor else if i < 254 then .int .u64 p.head else .slice p.wa p.wn p.wc
def prV (p : Pr) : Array Value := rowArr 255 (prC p)
theorem prV_size (p : Pr) : (prV p).size = 255 := rowArr_size _ _
theorem prC_one (p : Pr) (i : Nat) : (prC p i).oneCell' = true := by
  unfold prC
  split
  · rfl
  split
  · exact hdC_one _ _
  split
  · exact hdC_one _ _
  repeat (split; rfl)
  rfl
theorem prV_one (p : Pr) : (prV p).all (·.oneCell') = true := rowArr_one fun i _ => prC_one p i
/-- What a proof that may stand in memory is. -/
structure PrAt (w : World) (p : Pr) : Prop where
  kind : -9223372036854775808 ≤ p.kind ∧ p.kind ≤ 9223372036854775807
  a : HtAt w p.a
  b : HtAt w p.b
  writer : -9223372036854775808 ≤ p.writer ∧ p.writer ≤ 9223372036854775807
  floor : 0 ≤ p.floor ∧ p.floor < 18446744073709551616
  head : 0 ≤ p.head ∧ p.head < 18446744073709551616
  toks : TsAt w p.wa p.wn p.wc p.ws
theorem PrAt.ext {w w' : World} {p : Pr} (h : PrAt w p) (he : Ext w w') : PrAt w' p := ⟨h.kind, h.a.ext he, h.b.ext he, h.writer, h.floor, h.head, h.toks.ext he⟩
theorem TsAt.none_ (w : World) : TsAt w none 0 0 [] := ⟨rfl, Nat.le_refl _, by omega, by omega, fun t ht => by simp at ht, fun h => by omega, fun _ => rfl⟩
/-- A proof of nothing but its kind. -/
def prZ (k : Int) : Pr := ⟨k, htN, htN, 0, 0, 0, none, 0, 0, []⟩
theorem prZ_at (w : World) (k : Int) (hk : -9223372036854775808 ≤ k ∧ k ≤ 9223372036854775807) : PrAt w (prZ k) :=
  ⟨hk, htN_at w, htN_at w, by show (-9223372036854775808 : Int) ≤ 0 ∧ (0 : Int) ≤ _; omega, by show (0 : Int) ≤ 0 ∧ (0 : Int) < _; omega, by show (0 : Int) ≤ 0 ∧ (0 : Int) < _; omega, TsAt.none_ w⟩

section
variable {w : World} {g : Nat} {p : Pr} {T : TypeId} {fr : Nat × Nat} (hb : w.heap[g]? = some (.cells (prV p) T fr))
include hb
theorem pr_kind : w.cell? ⟨g, 0, none⟩ = some (.int .i64 p.kind) := row_cell hb 0 (by omega)
theorem pr_writer : w.cell? ⟨g, 251, none⟩ = some (.int .i64 p.writer) := row_cell hb 251 (by omega)
theorem pr_floor : w.cell? ⟨g, 252, none⟩ = some (.int .u64 p.floor) := row_cell hb 252 (by omega)
theorem pr_head : w.cell? ⟨g, 253, none⟩ = some (.int .u64 p.head) := row_cell hb 253 (by omega)
theorem pr_toks : w.cell? ⟨g, 254, none⟩ = some (.slice p.wa p.wn p.wc) := row_cell hb 254 (by omega)
theorem pr_a (j : Nat) (hj : j < 125) : w.cell? ⟨g, 1 + j, none⟩ = some (hdC p.a.1 j) := by
  rw [row_cell hb (1 + j) (by omega)]
  unfold prC
  rw [if_neg (by omega), if_pos (by omega), show 1 + j - 1 = j by omega]
theorem pr_b (j : Nat) (hj : j < 125) : w.cell? ⟨g, 126 + j, none⟩ = some (hdC p.b.1 j) := by
  rw [row_cell hb (126 + j) (by omega)]
  unfold prC
  rw [if_neg (by omega), if_neg (by omega), if_pos (by omega), show 126 + j - 126 = j by omega]
theorem pr_ra : w.rangeAt g 1 (hdL p.a.1) := range_hd (pr_a hb)
theorem pr_rb : w.rangeAt g 126 (hdL p.b.1) := range_hd (pr_b hb)
theorem pr_aw : w.cell? ⟨g, 1, none⟩ = some (.int .i64 p.a.1.writer) := pr_a hb 0 (by omega)
theorem pr_bw : w.cell? ⟨g, 126, none⟩ = some (.int .i64 p.b.1.writer) := pr_b hb 0 (by omega)
theorem pr_atoks : w.cell? ⟨g, 54, none⟩ = some (.slice p.a.1.ta p.a.1.tn p.a.1.tc) := pr_a hb 53 (by omega)
theorem pr_btoks : w.cell? ⟨g, 179, none⟩ = some (.slice p.b.1.ta p.b.1.tn p.b.1.tc) := pr_b hb 53 (by omega)
end

/-- A proof's cells, one of them, or a header, written anew. -/
theorem prC_set0 (p : Pr) (v : Int) : ∀ j, j < 255 → (if j = 0 then .int .i64 v else prC p j) = prC { p with kind := v } j := by
  intro j _
  by_cases h : j = 0
  · rw [if_pos h, h]; rfl
  · rw [if_neg h]; unfold prC; split
    · omega
    · rfl
set_option maxRecDepth 100000 in
theorem prC_setW (p : Pr) (v : Int) : ∀ j, j < 255 → (if j = 251 then .int .i64 v else prC p j) = prC { p with writer := v } j := by
  intro j _
  by_cases h : j = 251
  · rw [if_pos h, h]; rfl
  · rw [if_neg h]; unfold prC; repeat (split; rfl)
    split
    · omega
    · rfl
theorem prC_setF (p : Pr) (v : Int) : ∀ j, j < 255 → (if j = 252 then .int .u64 v else prC p j) = prC { p with floor := v } j := by
  intro j _
  by_cases h : j = 252
  · rw [if_pos h, h]; rfl
  · rw [if_neg h]; unfold prC; repeat (split; rfl)
    split
    · omega
    · rfl
theorem prC_setH (p : Pr) (v : Int) : ∀ j, j < 255 → (if j = 253 then .int .u64 v else prC p j) = prC { p with head := v } j := by
  intro j _
  by_cases h : j = 253
  · rw [if_pos h, h]; rfl
  · rw [if_neg h]; unfold prC; repeat (split; rfl)
    split
    · omega
    · rfl
theorem prC_setT (p : Pr) (a : Option Addr) (n c : Nat) (ws : List (Nat → Int)) : ∀ j, j < 255 → (if j = 254 then .slice a n c else prC p j) = prC { p with wa := a, wn := n, wc := c, ws := ws } j := by
  intro j hj
  by_cases h : j = 254
  · rw [if_pos h, h]; rfl
  · rw [if_neg h]; unfold prC; repeat (split; rfl)
    omega
theorem prC_setA (p : Pr) (x : HT) : ∀ j, j < 255 → (if 1 ≤ j ∧ j < 1 + 125 then hdC x.1 (j - 1) else prC p j) = prC { p with a := x } j := by
  intro j _
  by_cases h : 1 ≤ j ∧ j < 1 + 125
  · rw [if_pos h]; unfold prC; rw [if_neg (by omega), if_pos (by omega)]
  · rw [if_neg h]; unfold prC; split
    · rfl
    · split
      · omega
      · rfl
theorem prC_setB (p : Pr) (x : HT) : ∀ j, j < 255 → (if 126 ≤ j ∧ j < 126 + 125 then hdC x.1 (j - 126) else prC p j) = prC { p with b := x } j := by
  intro j _
  by_cases h : 126 ≤ j ∧ j < 126 + 125
  · rw [if_pos h]; unfold prC; rw [if_neg (by omega), if_neg (by omega), if_pos (by omega)]
  · rw [if_neg h]; unfold prC; split
    · rfl
    · split
      · rfl
      · split
        · omega
        · rfl
/-- A header stored into a proof. -/
theorem pr_storeA {w : World} {g : Nat} {p : Pr} (h : w.rowIs g 32 255 (prC p)) (x : HT) : w.there g 1 (hdV x.1).size ∧ (w.setCells g 1 (hdV x.1).toList).rowIs g 32 255 (prC { p with a := x }) := by
  refine ⟨fun j hj => ?_, ?_⟩
  · rw [hdV_size] at hj
    exact ⟨by rw [h.cell (i := 1 + j) (by omega)]; rfl, h.frozen _⟩
  · refine ((rowIs_setCells _ 1 _ _ h).congr fun j hj => ?_).congr (prC_setA p x)
    rw [Array.length_toList, hdV_size]
    by_cases h1 : 1 ≤ j ∧ j < 1 + 125
    · rw [if_pos h1, if_pos h1, List.getD_eq_getElem?_getD, Array.getElem?_toList, hdV, rowArr_get _ _ _ (by omega), Option.getD_some]
    · rw [if_neg h1, if_neg h1]
theorem pr_storeB {w : World} {g : Nat} {p : Pr} (h : w.rowIs g 32 255 (prC p)) (x : HT) : w.there g 126 (hdV x.1).size ∧ (w.setCells g 126 (hdV x.1).toList).rowIs g 32 255 (prC { p with b := x }) := by
  refine ⟨fun j hj => ?_, ?_⟩
  · rw [hdV_size] at hj
    exact ⟨by rw [h.cell (i := 126 + j) (by omega)]; rfl, h.frozen _⟩
  · refine ((rowIs_setCells _ 126 _ _ h).congr fun j hj => ?_).congr (prC_setB p x)
    rw [Array.length_toList, hdV_size]
    by_cases h1 : 126 ≤ j ∧ j < 126 + 125
    · rw [if_pos h1, if_pos h1, List.getD_eq_getElem?_getD, Array.getElem?_toList, hdV, rowArr_get _ _ _ (by omega), Option.getD_some]
    · rw [if_neg h1, if_neg h1]

/-- Whether a header is nothing at all. -/
def blkB (h : Hd) : Bool := zeroB 32 h.prev && (zeroB 16 h.item && (zeroB 32 h.sum && (zeroB 6 h.knows && (decide (h.writer = 0) && (decide (h.seq = 0) && (decide (h.epoch = 0) && (decide (h.time = 0) && (decide (h.size = 0) && (decide (h.tn = 0) && (zeroB 32 h.code && !h.ctl))))))))))
theorem blkB_same {h : Hd} {ts : List (Nat → Int)} (hl : ts.length = h.tn) : sameB h hdN ts [] = blkB h := by
  rw [Bool.eq_iff_iff, sameB_iff hl rfl]
  unfold blkB zeroB
  simp only [Bool.and_eq_true, decide_eq_true_eq, Bool.not_eq_true']
  constructor
  · intro e
    exact ⟨e.prev, e.item, e.sum, e.knows, e.writer, e.seq, e.epoch, e.time, e.size, e.tn, e.code, e.ctl⟩
  · rintro ⟨h1, h2, h3, h4, h5, h6, h7, h8, h9, h10, h11, h12⟩
    exact ⟨h5, h6, h1, h7, h12, h8, h2, h10, fun i hi => by omega, h4, h3, h9, h11⟩
/-- Whether a proof has no numbers. -/
def noneB (p : Pr) : Bool := decide (p.writer = 0) && (decide (p.floor = 0) && decide (p.head = 0))
/-- Whether a proof is formed. -/
def prB (p : Pr) : Bool :=
  if p.kind = 1 ∨ p.kind = 2 then hdB p.a.1 p.a.2 && hdB p.b.1 p.b.2 && noneB p && decide (p.wn = 0)
  else if p.kind = 3 then blkB p.a.1 && blkB p.b.1 && decide (p.wn = 0) && decide (1 ≤ p.writer) && decide (p.writer ≤ 6) && decide (p.head < p.floor) && decide (p.floor ≤ 1048576)
  else decide (p.kind = 4) && hdB p.a.1 p.a.2 && blkB p.b.1 && noneB p && decide (p.wn ≤ 8) && risesB p.ws

end Go.Proofs.Ytdhbkjajhbfihaa
