/-
  A proof by value: 255 cells; its fields, its headers loaded and stored; whether it is formed. No conditions.
  The walks of proof.blank and proof.formed. No conditions.
  What is taken of bytes, and packed: plain; what is taken was packed so, and the other way round. No conditions.
  A proof's bytes: plain. No conditions.
-/
import Derived.Test.YtpiebfhcfkncoaaDoorHdEq
import Derived.Test.YtpiebfhcfkncoaaDoorHdF
import Derived.Deep.DeepCutAuto
import Derived.Test.YtpiebfhcfkncoaaDoorPackO
import Derived.Test.YtpiebfhcfkncoaaDoorHdBy
namespace Go.Proofs.YtpiebfhcfkncoaaDoor
open Go.ChangeAt Go.ChangeShapes Go.RowKit Go.WideShapes

structure Pr where
  kind : Int
  a : HT
  b : HT
  writer : Int
  floor : Int
  head : Int
  wa : Option Addr
  wn : Nat
  wc : Nat
  ws : List (Nat → Int)

/-- A proof's cell. -/
def prC (p : Pr) (i : Nat) : Value :=
  if i < 1 then .int .i64 p.kind else if i < 126 then hdC p.a.1 (i - 1) else if i < 251 then hdC p.b.1 (i - 126) else if i < 252 then .int .i64 p.writer else if i < 253 then .int .u64 p.floor else if i < 254 then .int .u64 p.head else .slice p.wa p.wn p.wc
def prV (p : Pr) : Array Value := rowArr 255 (prC p)
theorem prV_size (p : Pr) : (prV p).size = 255 := rowArr_size _ _
theorem prC_one (p : Pr) (i : Nat) : (prC p i).oneCell' = true := by
  unfold prC
  split
  · rfl
  split
  · exact hdC_one _ _
  split
  · exact hdC_one _ _
  repeat (split; rfl)
  rfl
theorem prV_one (p : Pr) : (prV p).all (·.oneCell') = true := rowArr_one fun i _ => prC_one p i
/-- What a proof that may stand in memory is. -/
structure PrAt (w : World) (p : Pr) : Prop where
  kind : -9223372036854775808 ≤ p.kind ∧ p.kind ≤ 9223372036854775807
  a : HtAt w p.a
  b : HtAt w p.b
  writer : -9223372036854775808 ≤ p.writer ∧ p.writer ≤ 9223372036854775807
  floor : 0 ≤ p.floor ∧ p.floor < 18446744073709551616
  head : 0 ≤ p.head ∧ p.head < 18446744073709551616
  toks : TsAt w p.wa p.wn p.wc p.ws
theorem PrAt.ext {w w' : World} {p : Pr} (h : PrAt w p) (he : Ext w w') : PrAt w' p := ⟨h.kind, h.a.ext he, h.b.ext he, h.writer, h.floor, h.head, h.toks.ext he⟩
theorem TsAt.none_ (w : World) : TsAt w none 0 0 [] := ⟨rfl, Nat.le_refl _, by omega, by omega, fun t ht => by simp at ht, fun h => by omega, fun _ => rfl⟩
/-- A proof of nothing but its kind. -/
def prZ (k : Int) : Pr := ⟨k, htN, htN, 0, 0, 0, none, 0, 0, []⟩
theorem prZ_at (w : World) (k : Int) (hk : -9223372036854775808 ≤ k ∧ k ≤ 9223372036854775807) : PrAt w (prZ k) :=
  ⟨hk, htN_at w, htN_at w, by show (-9223372036854775808 : Int) ≤ 0 ∧ (0 : Int) ≤ _; omega, by show (0 : Int) ≤ 0 ∧ (0 : Int) < _; omega, by show (0 : Int) ≤ 0 ∧ (0 : Int) < _; omega, TsAt.none_ w⟩

section
variable {w : World} {g : Nat} {p : Pr} {T : TypeId} {fr : Nat × Nat} (hb : w.heap[g]? = some (.cells (prV p) T fr))
include hb
theorem pr_kind : w.cell? ⟨g, 0, none⟩ = some (.int .i64 p.kind) := row_cell hb 0 (by omega)
theorem pr_writer : w.cell? ⟨g, 251, none⟩ = some (.int .i64 p.writer) := row_cell hb 251 (by omega)
theorem pr_floor : w.cell? ⟨g, 252, none⟩ = some (.int .u64 p.floor) := row_cell hb 252 (by omega)
theorem pr_head : w.cell? ⟨g, 253, none⟩ = some (.int .u64 p.head) := row_cell hb 253 (by omega)
theorem pr_toks : w.cell? ⟨g, 254, none⟩ = some (.slice p.wa p.wn p.wc) := row_cell hb 254 (by omega)
theorem pr_a (j : Nat) (hj : j < 125) : w.cell? ⟨g, 1 + j, none⟩ = some (hdC p.a.1 j) := by
  rw [row_cell hb (1 + j) (by omega)]
  unfold prC
  rw [if_neg (by omega), if_pos (by omega), show 1 + j - 1 = j by omega]
theorem pr_b (j : Nat) (hj : j < 125) : w.cell? ⟨g, 126 + j, none⟩ = some (hdC p.b.1 j) := by
  rw [row_cell hb (126 + j) (by omega)]
  unfold prC
  rw [if_neg (by omega), if_neg (by omega), if_pos (by omega), show 126 + j - 126 = j by omega]
theorem pr_ra : w.rangeAt g 1 (hdL p.a.1) := range_hd (pr_a hb)
theorem pr_rb : w.rangeAt g 126 (hdL p.b.1) := range_hd (pr_b hb)
theorem pr_aw : w.cell? ⟨g, 1, none⟩ = some (.int .i64 p.a.1.writer) := pr_a hb 0 (by omega)
theorem pr_bw : w.cell? ⟨g, 126, none⟩ = some (.int .i64 p.b.1.writer) := pr_b hb 0 (by omega)
theorem pr_atoks : w.cell? ⟨g, 54, none⟩ = some (.slice p.a.1.ta p.a.1.tn p.a.1.tc) := pr_a hb 53 (by omega)
theorem pr_btoks : w.cell? ⟨g, 179, none⟩ = some (.slice p.b.1.ta p.b.1.tn p.b.1.tc) := pr_b hb 53 (by omega)
end

/-- A proof's cells, one of them, or a header, written anew. -/
theorem prC_set0 (p : Pr) (v : Int) : ∀ j, j < 255 → (if j = 0 then .int .i64 v else prC p j) = prC { p with kind := v } j := by
  intro j _
  by_cases h : j = 0
  · rw [if_pos h, h]; rfl
  · rw [if_neg h]; unfold prC; split
    · omega
    · rfl
set_option maxRecDepth 100000 in
theorem prC_setW (p : Pr) (v : Int) : ∀ j, j < 255 → (if j = 251 then .int .i64 v else prC p j) = prC { p with writer := v } j := by
  intro j _
  by_cases h : j = 251
  · rw [if_pos h, h]; rfl
  · rw [if_neg h]; unfold prC; repeat (split; rfl)
    split
    · omega
    · rfl
theorem prC_setF (p : Pr) (v : Int) : ∀ j, j < 255 → (if j = 252 then .int .u64 v else prC p j) = prC { p with floor := v } j := by
  intro j _
  by_cases h : j = 252
  · rw [if_pos h, h]; rfl
  · rw [if_neg h]; unfold prC; repeat (split; rfl)
    split
    · omega
    · rfl
theorem prC_setH (p : Pr) (v : Int) : ∀ j, j < 255 → (if j = 253 then .int .u64 v else prC p j) = prC { p with head := v } j := by
  intro j _
  by_cases h : j = 253
  · rw [if_pos h, h]; rfl
  · rw [if_neg h]; unfold prC; repeat (split; rfl)
    split
    · omega
    · rfl
theorem prC_setT (p : Pr) (a : Option Addr) (n c : Nat) (ws : List (Nat → Int)) : ∀ j, j < 255 → (if j = 254 then .slice a n c else prC p j) = prC { p with wa := a, wn := n, wc := c, ws := ws } j := by
  intro j hj
  by_cases h : j = 254
  · rw [if_pos h, h]; rfl
  · rw [if_neg h]; unfold prC; repeat (split; rfl)
    omega
theorem prC_setA (p : Pr) (x : HT) : ∀ j, j < 255 → (if 1 ≤ j ∧ j < 1 + 125 then hdC x.1 (j - 1) else prC p j) = prC { p with a := x } j := by
  intro j _
  by_cases h : 1 ≤ j ∧ j < 1 + 125
  · rw [if_pos h]; unfold prC; rw [if_neg (by omega), if_pos (by omega)]
  · rw [if_neg h]; unfold prC; split
    · rfl
    · split
      · omega
      · rfl
theorem prC_setB (p : Pr) (x : HT) : ∀ j, j < 255 → (if 126 ≤ j ∧ j < 126 + 125 then hdC x.1 (j - 126) else prC p j) = prC { p with b := x } j := by
  intro j _
  by_cases h : 126 ≤ j ∧ j < 126 + 125
  · rw [if_pos h]; unfold prC; rw [if_neg (by omega), if_neg (by omega), if_pos (by omega)]
  · rw [if_neg h]; unfold prC; split
    · rfl
    · split
      · rfl
      · split
        · omega
        · rfl
/-- A header stored into a proof. -/
theorem pr_storeA {w : World} {g : Nat} {p : Pr} (h : w.rowIs g 35 255 (prC p)) (x : HT) : w.there g 1 (hdV x.1).size ∧ (w.setCells g 1 (hdV x.1).toList).rowIs g 35 255 (prC { p with a := x }) := by
  refine ⟨fun j hj => ?_, ?_⟩
  · rw [hdV_size] at hj
    exact ⟨by rw [h.cell (i := 1 + j) (by omega)]; rfl, h.frozen _⟩
  · refine ((rowIs_setCells _ 1 _ _ h).congr fun j hj => ?_).congr (prC_setA p x)
    rw [Array.length_toList, hdV_size]
    by_cases h1 : 1 ≤ j ∧ j < 1 + 125
    · rw [if_pos h1, if_pos h1, List.getD_eq_getElem?_getD, Array.getElem?_toList, hdV, rowArr_get _ _ _ (by omega), Option.getD_some]
    · rw [if_neg h1, if_neg h1]
theorem pr_storeB {w : World} {g : Nat} {p : Pr} (h : w.rowIs g 35 255 (prC p)) (x : HT) : w.there g 126 (hdV x.1).size ∧ (w.setCells g 126 (hdV x.1).toList).rowIs g 35 255 (prC { p with b := x }) := by
  refine ⟨fun j hj => ?_, ?_⟩
  · rw [hdV_size] at hj
    exact ⟨by rw [h.cell (i := 126 + j) (by omega)]; rfl, h.frozen _⟩
  · refine ((rowIs_setCells _ 126 _ _ h).congr fun j hj => ?_).congr (prC_setB p x)
    rw [Array.length_toList, hdV_size]
    by_cases h1 : 126 ≤ j ∧ j < 126 + 125
    · rw [if_pos h1, if_pos h1, List.getD_eq_getElem?_getD, Array.getElem?_toList, hdV, rowArr_get _ _ _ (by omega), Option.getD_some]
    · rw [if_neg h1, if_neg h1]

/-- Whether a header is nothing at all. -/
def blkB (h : Hd) : Bool := zeroB 32 h.prev && (zeroB 16 h.item && (zeroB 32 h.sum && (zeroB 6 h.knows && (decide (h.writer = 0) && (decide (h.seq = 0) && (decide (h.epoch = 0) && (decide (h.time = 0) && (decide (h.size = 0) && (decide (h.tn = 0) && (zeroB 32 h.code && !h.ctl))))))))))
theorem blkB_same {h : Hd} {ts : List (Nat → Int)} (hl : ts.length = h.tn) : sameB h hdN ts [] = blkB h := by
  rw [Bool.eq_iff_iff, sameB_iff hl rfl]
  unfold blkB zeroB
  simp only [Bool.and_eq_true, decide_eq_true_eq, Bool.not_eq_true']
  constructor
  · intro e
    exact ⟨e.prev, e.item, e.sum, e.knows, e.writer, e.seq, e.epoch, e.time, e.size, e.tn, e.code, e.ctl⟩
  · rintro ⟨h1, h2, h3, h4, h5, h6, h7, h8, h9, h10, h11, h12⟩
    exact ⟨h5, h6, h1, h7, h12, h8, h2, h10, fun i hi => by omega, h4, h3, h9, h11⟩
/-- Whether a proof has no numbers. -/
def noneB (p : Pr) : Bool := decide (p.writer = 0) && (decide (p.floor = 0) && decide (p.head = 0))
/-- Whether a proof is formed. -/
def prB (p : Pr) : Bool :=
  if p.kind = 1 ∨ p.kind = 2 then hdB p.a.1 p.a.2 && hdB p.b.1 p.b.2 && noneB p && decide (p.wn = 0)
  else if p.kind = 3 then blkB p.a.1 && blkB p.b.1 && decide (p.wn = 0) && decide (1 ≤ p.writer) && decide (p.writer ≤ 6) && decide (p.head < p.floor) && decide (p.floor ≤ 1048576)
  else decide (p.kind = 4) && hdB p.a.1 p.a.2 && blkB p.b.1 && noneB p && decide (p.wn ≤ 8) && risesB p.ws

theorem wp_hmid {ops : Array Oper} {Q : Exit → Act → World → Prop} {rest : List Oper} {o : Oper} {a : Act} {w : World} (hw : Region.wanted o (yielded ops a.tmps) = true) (x : Operand) (ho : o.op = .load 33 x)
    (b off : Nat) (h : Hd) (hx : a.eval x = .pointer (some ⟨b, off, none⟩)) (hr : w.rangeAt b off (hdL h)) (k : wpList Tryd.prog ops Q rest (a.put o.dst (.agg (hdV h))) w) : wpList Tryd.prog ops Q (o :: rest) a w := by
  refine wpList_want hw fun K hK => ?_
  unfold Oper.wp execOp
  simp only [ho, hx, Instr.loadAt, Instr.sureAddr, Sem.run_bind, Sem.run_pure, Result.andThen_ok, run_loadVar_mid w b off 33 (hdL h) _ hr Tryd.underlying33 rfl (by rw [hdL_length]; exact info_hd125)]
  exact hK _ _ k

section
variable {w : World} {g : Nat} {T : TypeId} {fr : Nat × Nat} {K W F H : Int} {a b : HT} {wa : Option Addr} {wn wc : Nat} {ws : List (Nat → Int)} (hb : w.heap[g]? = some (.cells (prV ⟨K, a, b, W, F, H, wa, wn, wc, ws⟩) T fr))
include hb
theorem pr_kind' : w.cell? ⟨g, 0, none⟩ = some (.int .i64 K) := pr_kind hb
theorem pr_writer' : w.cell? ⟨g, 251, none⟩ = some (.int .i64 W) := pr_writer hb
theorem pr_floor' : w.cell? ⟨g, 252, none⟩ = some (.int .u64 F) := pr_floor hb
theorem pr_head' : w.cell? ⟨g, 253, none⟩ = some (.int .u64 H) := pr_head hb
theorem pr_toks' : w.cell? ⟨g, 254, none⟩ = some (.slice wa wn wc) := pr_toks hb
theorem pr_ra' : w.rangeAt g 1 (hdL a.1) := pr_ra hb
theorem pr_rb' : w.rangeAt g 126 (hdL b.1) := pr_rb hb
end

set_option maxRecDepth 100000 in
theorem zero_hdN (w : World) : (zeroValue 33).run Tryd.prog w = .ok (.agg (hdV hdN)) w := by kernel_rfl

set_option maxHeartbeats 1000000 in
set_option maxRecDepth 100000 in
theorem prBlank_any (h : Hd) (ts : List (Nat → Int)) (w : World) (ht : TsAt w h.ta h.tn h.tc ts) :
    Calls Tryd.prog 48 #[.agg (hdV h)] w fun e w' => e = .returned (.bool (blkB h)) ∧ Ext w w' := by
  obtain ⟨w2, hw2⟩ : ∃ w2, w.alloc (.cells (hdV h) 33) = w2 := ⟨_, rfl⟩
  have hE2 : Ext w w2 := by rw [← hw2]; exact (Ext.refl w).alloc _
  have hB2 : w2.heap[w.heap.size]? = some (.cells (hdV h) 33 (0, 0)) := by rw [← hw2]; exact heap_new w _ _ rfl
  have Hw2 := Lib.hid hw2
  have HE2 := Lib.hid hE2
  have HS := Lib.hid (show Calls Tryd.prog 23 #[.agg (hdV h), .agg (hdV hdN)] w2 fun e w' => e = .returned (.bool (blkB h)) ∧ Ext w2 w' from by
    have h1 := sameHd_any h hdN ts [] w2 (ht.ext hE2) (htN_at w2).toks
    rw [blkB_same ht.len] at h1
    exact h1)
  obtain ⟨g, hg⟩ : ∃ g, w.heap.size = g := ⟨_, rfl⟩
  rw [hg] at hB2
  have Hg := Lib.hid hg
  have HB2 := Lib.hid hB2
  have Hsz := Lib.hid (hdV_size h)
  have hbu := zero_hdN
  obtain ⟨A, hA⟩ : ∃ A, hdV h = A := ⟨_, rfl⟩
  obtain ⟨Z, hZ⟩ : ∃ Z, hdV hdN = Z := ⟨_, rfl⟩
  rw [hA] at HB2 Hsz Hw2 HS ⊢
  rw [hZ] at HS hbu
  clear hw2 hE2 hB2 hg ht hA hZ
  go_enter Tryd.func48, Tryd.ntmps48
  go_upto_region 1 with (fail)
  refine wp_world (w' := w2) Hw2.out ?_
  rw [Hg.out]
  clear Hw2
  go_wp2_with (refine wpList_load_rowW rfl 33 _ rfl g rfl _ _ _ _ HB2.out Tryd.underlying33 rfl (by rw [Hsz.out]; kernel_rfl) ?_)
  refine HS.out.mono ?_
  rintro e w3 ⟨rfl, hE⟩
  have HE3 := Lib.hid (HE2.out.trans hE)
  clear hE
  go_wp2
  go_ret
  exact ⟨rfl, HE3.out⟩

/-- What no proof may have beside its kind. -/
def prBad (K W F H : Int) (wn : Nat) : Bool := (!decide (K = 3) && !(decide (W = 0) && (decide (F = 0) && decide (H = 0)))) || (!decide (K = 4) && !decide (wn = 0))
theorem prB_bad {K W F H : Int} {a b : HT} {wa : Option Addr} {wn wc : Nat} {ws : List (Nat → Int)} (h : prBad K W F H wn = true) : prB ⟨K, a, b, W, F, H, wa, wn, wc, ws⟩ = false := by
  unfold prBad at h
  unfold prB noneB
  simp only [Bool.or_eq_true, Bool.and_eq_true, Bool.not_eq_true', decide_eq_false_iff_not, Bool.and_eq_false_iff] at h
  by_cases k3 : K = 3
  · subst k3
    rcases h with h | h
    · exact absurd rfl h.1
    · simp (config := { decide := true }) [h.2]
  · by_cases k4 : K = 4
    · subst k4
      rcases h with h | h
      · rcases h.2 with q | q | q <;> simp (config := { decide := true }) [q]
      · exact absurd rfl h.1
    · rw [if_neg k3]
      by_cases k12 : K = 1 ∨ K = 2
      · rw [if_pos k12]
        rcases h with h | h
        · rcases h.2 with q | q | q <;> simp (config := { decide := true }) [q]
        · simp (config := { decide := true }) [h.2]
      · rw [if_neg k12, decide_eq_false k4]
        simp

set_option maxHeartbeats 16000000 in
set_option maxRecDepth 100000 in
theorem prFormed_any (p : Pr) (w : World) (hp : PrAt w p) :
    Calls Tryd.prog 22 #[.agg (prV p)] w fun e w' => e = .returned (.bool (prB p)) ∧ Ext w w' := by
  obtain ⟨K, a, b, W, F, H, wa, wn, wc, ws⟩ := p
  obtain ⟨w2, hw2⟩ : ∃ w2, w.alloc (.cells (prV ⟨K, a, b, W, F, H, wa, wn, wc, ws⟩) 35) = w2 := ⟨_, rfl⟩
  have hE2 : Ext w w2 := by rw [← hw2]; exact (Ext.refl w).alloc _
  have hB2 : w2.heap[w.heap.size]? = some (.cells (prV ⟨K, a, b, W, F, H, wa, wn, wc, ws⟩) 35 (0, 0)) := by rw [← hw2]; exact heap_new w _ _ rfl
  obtain ⟨g, hg⟩ : ∃ g, w.heap.size = g := ⟨_, rfl⟩
  rw [hg] at hB2
  have Hg := Lib.hid hg
  have Hw2 := Lib.hid hw2
  have HE := Lib.hid hE2
  have HB := Lib.hid hB2
  have hsm : wn ≤ 140737488355328 := hp.toks.small
  have HFa := Lib.hid (fun w9 (h9 : Ext w w9) => formedHd_any a.1 a.2 w9 hp.a.ok (hp.a.toks.ext h9))
  have HFb := Lib.hid (fun w9 (h9 : Ext w w9) => formedHd_any b.1 b.2 w9 hp.b.ok (hp.b.toks.ext h9))
  have HBa := Lib.hid (fun w9 (h9 : Ext w w9) => prBlank_any a.1 a.2 w9 (hp.a.toks.ext h9))
  have HBb := Lib.hid (fun w9 (h9 : Ext w w9) => prBlank_any b.1 b.2 w9 (hp.b.toks.ext h9))
  have HSr := Lib.hid (fun w9 (h9 : Ext w w9) => sorted_any wa wn wc ws w9 (hp.toks.ext h9))
  clear hw2 hE2 hB2 hg hp
  obtain ⟨R, hR⟩ : ∃ R, prB ⟨K, a, b, W, F, H, wa, wn, wc, ws⟩ = R := ⟨_, rfl⟩
  rw [hR]
  obtain ⟨FA, FAe⟩ : ∃ x, hdB a.1 a.2 = x := ⟨_, rfl⟩
  obtain ⟨FB, FBe⟩ : ∃ x, hdB b.1 b.2 = x := ⟨_, rfl⟩
  obtain ⟨BA, BAe⟩ : ∃ x, blkB a.1 = x := ⟨_, rfl⟩
  obtain ⟨BB, BBe⟩ : ∃ x, blkB b.1 = x := ⟨_, rfl⟩
  obtain ⟨SR, SRe⟩ : ∃ x, risesB ws = x := ⟨_, rfl⟩
  rw [FAe] at HFa
  rw [FBe] at HFb
  rw [BAe] at HBa
  rw [BBe] at HBb
  rw [SRe] at HSr
  have FAh := Lib.hid FAe
  have FBh := Lib.hid FBe
  have BAh := Lib.hid BAe
  have BBh := Lib.hid BBe
  have SRh := Lib.hid SRe
  have HRr := Lib.hid hR
  clear FAe FBe BAe BBe SRe
  have hbad : prBad K W F H wn = true → R = false := fun h => by
    rw [← hR]
    exact prB_bad h
  have Hbad := Lib.hid hbad
  obtain ⟨BD, hBD⟩ : ∃ x, prBad K W F H wn = x := ⟨_, rfl⟩
  clear hbad
  go_enter Tryd.func22, Tryd.ntmps22
  go_upto_region 1 with (fail)
  refine wp_world (w' := w2) Hw2.out ?_
  rw [Hg.out]
  clear Hw2
  go_cut [31] (fun v wc => v = .bool BD ∧ wc = w2)
  case first =>
    clear Hbad hR
    unfold prBad at hBD
    by_cases k3 : K = 3
    · subst k3
      by_cases nw : wn = 0
      case neg =>
        have mw : (0 : Int) < (wn : Int) := by omega
        have mw2 : decide (0 < wn) = true := decide_eq_true (by omega)
        have HX := Lib.hid (show BD = true from by
          rw [← hBD]
          clear hBD
          simp (config := { decide := true }) [*])
        clear hBD
        have c0 := pr_kind' HB.out
        have c251 := pr_writer' HB.out
        have c252 := pr_floor' HB.out
        have c253 := pr_head' HB.out
        have c254 := pr_toks' HB.out
        go_wp2
        go_meet
        case rel => exact ⟨by first | (rw [HX.out]; done) | (rw [HX.out, mw2]), by first | rfl | trivial⟩
      subst nw
      have HX := Lib.hid (show BD = false from by
        rw [← hBD]
        clear hBD
        simp (config := { decide := true }) [*])
      clear hBD
      have c0 := pr_kind' HB.out
      have c251 := pr_writer' HB.out
      have c252 := pr_floor' HB.out
      have c253 := pr_head' HB.out
      have c254 := pr_toks' HB.out
      go_wp2
      go_meet
      case rel => exact ⟨by first | (rw [HX.out]; done) | (rw [HX.out, mw2]), by first | rfl | trivial⟩
    have r3 : (K != 3) = true := bne_iff_ne.2 k3
    have q3 : (K == 3) = false := beq_eq_false_iff_ne.2 k3
    by_cases nW : W = 0
    case neg =>
      have mW : (W == 0) = false := beq_eq_false_iff_ne.2 nW
      have lW : (W != 0) = true := bne_iff_ne.2 nW
      have HX := Lib.hid (show BD = true from by
        rw [← hBD]
        clear hBD
        simp (config := { decide := true }) [*])
      clear hBD
      have c0 := pr_kind' HB.out
      have c251 := pr_writer' HB.out
      have c252 := pr_floor' HB.out
      have c253 := pr_head' HB.out
      have c254 := pr_toks' HB.out
      go_wp2
      go_meet
      case rel => exact ⟨by first | (rw [HX.out]; done) | (rw [HX.out, mw2]), by first | rfl | trivial⟩
    subst nW
    by_cases nF : F = 0
    case neg =>
      have mF : (F == 0) = false := beq_eq_false_iff_ne.2 nF
      have lF : (F != 0) = true := bne_iff_ne.2 nF
      have HX := Lib.hid (show BD = true from by
        rw [← hBD]
        clear hBD
        simp (config := { decide := true }) [*])
      clear hBD
      have c0 := pr_kind' HB.out
      have c251 := pr_writer' HB.out
      have c252 := pr_floor' HB.out
      have c253 := pr_head' HB.out
      have c254 := pr_toks' HB.out
      go_wp2
      go_meet
      case rel => exact ⟨by first | (rw [HX.out]; done) | (rw [HX.out, mw2]), by first | rfl | trivial⟩
    subst nF
    by_cases nH : H = 0
    case neg =>
      have mH : (H == 0) = false := beq_eq_false_iff_ne.2 nH
      have lH : (H != 0) = true := bne_iff_ne.2 nH
      have HX := Lib.hid (show BD = true from by
        rw [← hBD]
        clear hBD
        simp (config := { decide := true }) [*])
      clear hBD
      have c0 := pr_kind' HB.out
      have c251 := pr_writer' HB.out
      have c252 := pr_floor' HB.out
      have c253 := pr_head' HB.out
      have c254 := pr_toks' HB.out
      go_wp2
      go_meet
      case rel => exact ⟨by first | (rw [HX.out]; done) | (rw [HX.out, mw2]), by first | rfl | trivial⟩
    subst nH
    by_cases k4 : K = 4
    · subst k4
      have HX := Lib.hid (show BD = false from by
        rw [← hBD]
        clear hBD
        simp (config := { decide := true }) [*])
      clear hBD
      have c0 := pr_kind' HB.out
      have c251 := pr_writer' HB.out
      have c252 := pr_floor' HB.out
      have c253 := pr_head' HB.out
      have c254 := pr_toks' HB.out
      go_wp2
      go_meet
      case rel => exact ⟨by first | (rw [HX.out]; done) | (rw [HX.out, mw2]), by first | rfl | trivial⟩
    have r4 : (K != 4) = true := bne_iff_ne.2 k4
    have q4 : (K == 4) = false := beq_eq_false_iff_ne.2 k4
    by_cases nw : wn = 0
    case neg =>
      have mw : (0 : Int) < (wn : Int) := by omega
      have mw2 : decide (0 < wn) = true := decide_eq_true (by omega)
      have HX := Lib.hid (show BD = true from by
        rw [← hBD]
        clear hBD
        simp (config := { decide := true }) [*])
      clear hBD
      have c0 := pr_kind' HB.out
      have c251 := pr_writer' HB.out
      have c252 := pr_floor' HB.out
      have c253 := pr_head' HB.out
      have c254 := pr_toks' HB.out
      go_wp2
      go_meet
      case rel => exact ⟨by first | (rw [HX.out]; done) | (rw [HX.out, mw2]), by first | rfl | trivial⟩
    subst nw
    have HX := Lib.hid (show BD = false from by
      rw [← hBD]
      clear hBD
      simp (config := { decide := true }) [*])
    clear hBD
    have c0 := pr_kind' HB.out
    have c251 := pr_writer' HB.out
    have c252 := pr_floor' HB.out
    have c253 := pr_head' HB.out
    have c254 := pr_toks' HB.out
    go_wp2
    go_meet
    case rel => exact ⟨by first | (rw [HX.out]; done) | (rw [HX.out, mw2]), by first | rfl | trivial⟩
  case rest =>
  obtain ⟨rfl, hwc⟩ := hcut
  rw [hwc]
  clear hwc
  cases BD with
  | true =>
    have HV := Lib.hid (Hbad.out hBD)
    clear hR hBD
    go_wp2
    go_ret
    exact ⟨by rw [HV.out]; rfl, HE.out⟩
  | false =>
  clear Hbad hR
  unfold prBad at hBD
  by_cases k3 : K = 3
  · subst k3
    obtain rfl : wn = 0 := by simpa using hBD
    clear hBD
    have c0 := pr_kind' HB.out
    have c251 := pr_writer' HB.out
    have c252 := pr_floor' HB.out
    have c253 := pr_head' HB.out
    have c254 := pr_toks' HB.out
    go_wp2_with (first | (refine wp_hmid rfl _ rfl g 1 a.1 rfl (pr_ra' HB.out) ?_) | (refine wp_hmid rfl _ rfl g 126 b.1 rfl (pr_rb' HB.out) ?_))
    refine (HBa.out w2 HE.out).mono ?_
    rintro e w3 ⟨rfl, hE⟩
    have HE := Lib.hid (HE.out.trans hE)
    have HB := Lib.hid (hE.keep HB.out)
    clear hE c0 c251 c252 c253 c254
    have c0 := pr_kind' HB.out
    have c251 := pr_writer' HB.out
    have c252 := pr_floor' HB.out
    have c253 := pr_head' HB.out
    have c254 := pr_toks' HB.out
    cases BA with
    | false =>
      have HV := Lib.hid (show R = false from by
        have q1 := FAh.out
        have q2 := FBh.out
        have q3 := BAh.out
        have q4 := BBh.out
        have q5 := SRh.out
        rw [← HRr.out]
        unfold prB noneB
        simp (config := { decide := true }) [*])
      go_wp2
      go_ret
      exact ⟨by rw [HV.out]; rfl, HE.out⟩
    | true =>
      go_wp2_with (first | (refine wp_hmid rfl _ rfl g 1 a.1 rfl (pr_ra' HB.out) ?_) | (refine wp_hmid rfl _ rfl g 126 b.1 rfl (pr_rb' HB.out) ?_))
      refine (HBb.out w3 HE.out).mono ?_
      rintro e w4 ⟨rfl, hE⟩
      have HE := Lib.hid (HE.out.trans hE)
      have HB := Lib.hid (hE.keep HB.out)
      clear hE c0 c251 c252 c253 c254
      have c0 := pr_kind' HB.out
      have c251 := pr_writer' HB.out
      have c252 := pr_floor' HB.out
      have c253 := pr_head' HB.out
      have c254 := pr_toks' HB.out
      cases BB with
      | false =>
        have HV := Lib.hid (show R = false from by
          have q1 := FAh.out
          have q2 := FBh.out
          have q3 := BAh.out
          have q4 := BBh.out
          have q5 := SRh.out
          rw [← HRr.out]
          unfold prB noneB
          simp (config := { decide := true }) [*])
        go_wp2
        go_ret
        exact ⟨by rw [HV.out]; rfl, HE.out⟩
      | true =>
        by_cases a1 : 1 ≤ W
        case neg =>
          have d1 : decide (1 ≤ W) = false := decide_eq_false a1
          have HV := Lib.hid (show R = false from by
            have q1 := FAh.out
            have q2 := FBh.out
            have q3 := BAh.out
            have q4 := BBh.out
            have q5 := SRh.out
            rw [← HRr.out]
            unfold prB noneB
            simp (config := { decide := true }) [*])
          go_wp2
          go_ret
          exact ⟨by rw [HV.out]; rfl, HE.out⟩
        by_cases a2 : W ≤ 6
        case neg =>
          have d1 : decide (W ≤ 6) = false := decide_eq_false a2
          have HV := Lib.hid (show R = false from by
            have q1 := FAh.out
            have q2 := FBh.out
            have q3 := BAh.out
            have q4 := BBh.out
            have q5 := SRh.out
            rw [← HRr.out]
            unfold prB noneB
            simp (config := { decide := true }) [*])
          go_wp2
          go_ret
          exact ⟨by rw [HV.out]; rfl, HE.out⟩
        by_cases a3 : H < F
        case neg =>
          have d1 : decide (H < F) = false := decide_eq_false a3
          have HV := Lib.hid (show R = false from by
            have q1 := FAh.out
            have q2 := FBh.out
            have q3 := BAh.out
            have q4 := BBh.out
            have q5 := SRh.out
            rw [← HRr.out]
            unfold prB noneB
            simp (config := { decide := true }) [*])
          go_wp2
          go_ret
          exact ⟨by rw [HV.out]; rfl, HE.out⟩
        by_cases a4 : F ≤ 1048576
        case neg =>
          have d1 : decide (F ≤ 1048576) = false := decide_eq_false a4
          have HV := Lib.hid (show R = false from by
            have q1 := FAh.out
            have q2 := FBh.out
            have q3 := BAh.out
            have q4 := BBh.out
            have q5 := SRh.out
            rw [← HRr.out]
            unfold prB noneB
            simp (config := { decide := true }) [*])
          go_wp2
          go_ret
          exact ⟨by rw [HV.out]; rfl, HE.out⟩
        have HV := Lib.hid (show R = true from by
          have q1 := FAh.out
          have q2 := FBh.out
          have q3 := BAh.out
          have q4 := BBh.out
          have q5 := SRh.out
          rw [← HRr.out]
          unfold prB noneB
          simp (config := { decide := true }) [*])
        go_wp2
        go_ret
        exact ⟨by rw [HV.out]; rfl, HE.out⟩
  by_cases k4 : K = 4
  · subst k4
    obtain ⟨rfl, rfl, rfl⟩ : W = 0 ∧ F = 0 ∧ H = 0 := by simp (config := { decide := true }) [*] at hBD; omega
    clear hBD
    have c0 := pr_kind' HB.out
    have c251 := pr_writer' HB.out
    have c252 := pr_floor' HB.out
    have c253 := pr_head' HB.out
    have c254 := pr_toks' HB.out
    go_wp2_with (first | (refine wp_hmid rfl _ rfl g 1 a.1 rfl (pr_ra' HB.out) ?_) | (refine wp_hmid rfl _ rfl g 126 b.1 rfl (pr_rb' HB.out) ?_))
    refine (HFa.out w2 HE.out).mono ?_
    rintro e w3 ⟨rfl, hE⟩
    have HE := Lib.hid (HE.out.trans hE)
    have HB := Lib.hid (hE.keep HB.out)
    clear hE c0 c251 c252 c253 c254
    have c0 := pr_kind' HB.out
    have c251 := pr_writer' HB.out
    have c252 := pr_floor' HB.out
    have c253 := pr_head' HB.out
    have c254 := pr_toks' HB.out
    cases FA with
    | false =>
      have HV := Lib.hid (show R = false from by
        have q1 := FAh.out
        have q2 := FBh.out
        have q3 := BAh.out
        have q4 := BBh.out
        have q5 := SRh.out
        rw [← HRr.out]
        unfold prB noneB
        simp (config := { decide := true }) [*])
      go_wp2
      go_ret
      exact ⟨by rw [HV.out]; rfl, HE.out⟩
    | true =>
      go_wp2_with (first | (refine wp_hmid rfl _ rfl g 1 a.1 rfl (pr_ra' HB.out) ?_) | (refine wp_hmid rfl _ rfl g 126 b.1 rfl (pr_rb' HB.out) ?_))
      refine (HBb.out w3 HE.out).mono ?_
      rintro e w4 ⟨rfl, hE⟩
      have HE := Lib.hid (HE.out.trans hE)
      have HB := Lib.hid (hE.keep HB.out)
      clear hE c0 c251 c252 c253 c254
      have c0 := pr_kind' HB.out
      have c251 := pr_writer' HB.out
      have c252 := pr_floor' HB.out
      have c253 := pr_head' HB.out
      have c254 := pr_toks' HB.out
      cases BB with
      | false =>
        have HV := Lib.hid (show R = false from by
          have q1 := FAh.out
          have q2 := FBh.out
          have q3 := BAh.out
          have q4 := BBh.out
          have q5 := SRh.out
          rw [← HRr.out]
          unfold prB noneB
          simp (config := { decide := true }) [*])
        go_wp2
        go_ret
        exact ⟨by rw [HV.out]; rfl, HE.out⟩
      | true =>
        by_cases a1 : wn ≤ 8
        case neg =>
          have b1 : ¬ (wn : Int) ≤ 8 := by omega
          have HV := Lib.hid (show R = false from by
            have q1 := FAh.out
            have q2 := FBh.out
            have q3 := BAh.out
            have q4 := BBh.out
            have q5 := SRh.out
            rw [← HRr.out]
            unfold prB noneB
            simp (config := { decide := true }) [*])
          go_wp2
          go_ret
          exact ⟨by rw [HV.out]; rfl, HE.out⟩
        have b1 : (wn : Int) ≤ 8 := by omega
        go_wp2_with (first | (refine wp_hmid rfl _ rfl g 1 a.1 rfl (pr_ra' HB.out) ?_) | (refine wp_hmid rfl _ rfl g 126 b.1 rfl (pr_rb' HB.out) ?_))
        refine (HSr.out w4 HE.out).mono ?_
        rintro e w5 ⟨rfl, hE⟩
        have HE := Lib.hid (HE.out.trans hE)
        have HB := Lib.hid (hE.keep HB.out)
        clear hE c0 c251 c252 c253 c254
        have c0 := pr_kind' HB.out
        have c251 := pr_writer' HB.out
        have c252 := pr_floor' HB.out
        have c253 := pr_head' HB.out
        have c254 := pr_toks' HB.out
        have HV := Lib.hid (show R = SR from by
          have q1 := FAh.out
          have q2 := FBh.out
          have q3 := BAh.out
          have q4 := BBh.out
          have q5 := SRh.out
          rw [← HRr.out]
          unfold prB noneB
          simp (config := { decide := true }) [*])
        go_wp2
        go_ret
        exact ⟨by rw [HV.out]; rfl, HE.out⟩
  by_cases k1 : K = 1
  · subst k1
    obtain ⟨rfl, rfl, rfl, rfl⟩ : W = 0 ∧ F = 0 ∧ H = 0 ∧ wn = 0 := by simp (config := { decide := true }) [*] at hBD; omega
    clear hBD
    have c0 := pr_kind' HB.out
    have c251 := pr_writer' HB.out
    have c252 := pr_floor' HB.out
    have c253 := pr_head' HB.out
    have c254 := pr_toks' HB.out
    go_wp2_with (first | (refine wp_hmid rfl _ rfl g 1 a.1 rfl (pr_ra' HB.out) ?_) | (refine wp_hmid rfl _ rfl g 126 b.1 rfl (pr_rb' HB.out) ?_))
    refine (HFa.out w2 HE.out).mono ?_
    rintro e w3 ⟨rfl, hE⟩
    have HE := Lib.hid (HE.out.trans hE)
    have HB := Lib.hid (hE.keep HB.out)
    clear hE c0 c251 c252 c253 c254
    have c0 := pr_kind' HB.out
    have c251 := pr_writer' HB.out
    have c252 := pr_floor' HB.out
    have c253 := pr_head' HB.out
    have c254 := pr_toks' HB.out
    cases FA with
    | false =>
      have HV := Lib.hid (show R = false from by
        have q1 := FAh.out
        have q2 := FBh.out
        have q3 := BAh.out
        have q4 := BBh.out
        have q5 := SRh.out
        rw [← HRr.out]
        unfold prB noneB
        simp (config := { decide := true }) [*])
      go_wp2
      go_ret
      exact ⟨by rw [HV.out]; rfl, HE.out⟩
    | true =>
      go_wp2_with (first | (refine wp_hmid rfl _ rfl g 1 a.1 rfl (pr_ra' HB.out) ?_) | (refine wp_hmid rfl _ rfl g 126 b.1 rfl (pr_rb' HB.out) ?_))
      refine (HFb.out w3 HE.out).mono ?_
      rintro e w4 ⟨rfl, hE⟩
      have HE := Lib.hid (HE.out.trans hE)
      have HB := Lib.hid (hE.keep HB.out)
      clear hE c0 c251 c252 c253 c254
      have c0 := pr_kind' HB.out
      have c251 := pr_writer' HB.out
      have c252 := pr_floor' HB.out
      have c253 := pr_head' HB.out
      have c254 := pr_toks' HB.out
      have HV := Lib.hid (show R = FB from by
        have q1 := FAh.out
        have q2 := FBh.out
        have q3 := BAh.out
        have q4 := BBh.out
        have q5 := SRh.out
        rw [← HRr.out]
        unfold prB noneB
        simp (config := { decide := true }) [*])
      go_wp2
      go_ret
      exact ⟨by rw [HV.out]; rfl, HE.out⟩
  by_cases k2 : K = 2
  · subst k2
    obtain ⟨rfl, rfl, rfl, rfl⟩ : W = 0 ∧ F = 0 ∧ H = 0 ∧ wn = 0 := by simp (config := { decide := true }) [*] at hBD; omega
    clear hBD
    have c0 := pr_kind' HB.out
    have c251 := pr_writer' HB.out
    have c252 := pr_floor' HB.out
    have c253 := pr_head' HB.out
    have c254 := pr_toks' HB.out
    go_wp2_with (first | (refine wp_hmid rfl _ rfl g 1 a.1 rfl (pr_ra' HB.out) ?_) | (refine wp_hmid rfl _ rfl g 126 b.1 rfl (pr_rb' HB.out) ?_))
    refine (HFa.out w2 HE.out).mono ?_
    rintro e w3 ⟨rfl, hE⟩
    have HE := Lib.hid (HE.out.trans hE)
    have HB := Lib.hid (hE.keep HB.out)
    clear hE c0 c251 c252 c253 c254
    have c0 := pr_kind' HB.out
    have c251 := pr_writer' HB.out
    have c252 := pr_floor' HB.out
    have c253 := pr_head' HB.out
    have c254 := pr_toks' HB.out
    cases FA with
    | false =>
      have HV := Lib.hid (show R = false from by
        have q1 := FAh.out
        have q2 := FBh.out
        have q3 := BAh.out
        have q4 := BBh.out
        have q5 := SRh.out
        rw [← HRr.out]
        unfold prB noneB
        simp (config := { decide := true }) [*])
      go_wp2
      go_ret
      exact ⟨by rw [HV.out]; rfl, HE.out⟩
    | true =>
      go_wp2_with (first | (refine wp_hmid rfl _ rfl g 1 a.1 rfl (pr_ra' HB.out) ?_) | (refine wp_hmid rfl _ rfl g 126 b.1 rfl (pr_rb' HB.out) ?_))
      refine (HFb.out w3 HE.out).mono ?_
      rintro e w4 ⟨rfl, hE⟩
      have HE := Lib.hid (HE.out.trans hE)
      have HB := Lib.hid (hE.keep HB.out)
      clear hE c0 c251 c252 c253 c254
      have c0 := pr_kind' HB.out
      have c251 := pr_writer' HB.out
      have c252 := pr_floor' HB.out
      have c253 := pr_head' HB.out
      have c254 := pr_toks' HB.out
      have HV := Lib.hid (show R = FB from by
        have q1 := FAh.out
        have q2 := FBh.out
        have q3 := BAh.out
        have q4 := BBh.out
        have q5 := SRh.out
        rw [← HRr.out]
        unfold prB noneB
        simp (config := { decide := true }) [*])
      go_wp2
      go_ret
      exact ⟨by rw [HV.out]; rfl, HE.out⟩
  clear hBD
  have q1 : (K == 1) = false := beq_eq_false_iff_ne.2 k1
  have q2 : (K == 2) = false := beq_eq_false_iff_ne.2 k2
  have q3 : (K == 3) = false := beq_eq_false_iff_ne.2 k3
  have q4 : (K == 4) = false := beq_eq_false_iff_ne.2 k4
  have r3 : (K != 3) = true := bne_iff_ne.2 k3
  have r4 : (K != 4) = true := bne_iff_ne.2 k4
  have c0 := pr_kind' HB.out
  have c251 := pr_writer' HB.out
  have c252 := pr_floor' HB.out
  have c253 := pr_head' HB.out
  have c254 := pr_toks' HB.out
  have HV := Lib.hid (show R = false from by
    have q1 := FAh.out
    have q2 := FBh.out
    have q3 := BAh.out
    have q4 := BBh.out
    have q5 := SRh.out
    rw [← HRr.out]
    unfold prB noneB
    simp (config := { decide := true }) [*])
  go_wp2
  go_ret
  exact ⟨by rw [HV.out]; rfl, HE.out⟩

/-- What Num takes: the number, what is left, whether it has failed. -/
def numP (xs : List Int) (bad : Bool) (most : Int) : Int × List Int × Bool :=
  if bad = true ∨ (numT xs).2 = 0 ∨ most < (numT xs).1 then (0, xs, true) else ((numT xs).1, xs.drop (numT xs).2, false)

/-- What Raw takes: the bytes, what is left, whether it has failed. -/
def rawP (xs : List Int) (bad : Bool) (k : Int) : List Int × List Int × Bool :=
  if bad = true ∨ k < 0 ∨ (xs.length : Int) < k then ([], xs, true) else (xs.take k.toNat, xs.drop k.toNat, false)

/-- What Text takes: the bytes, what is left, whether it has failed. -/
def textP (xs : List Int) (bad : Bool) (most : Int) : List Int × List Int × Bool :=
  if bad = true ∨ (numT xs).2 = 0 ∨ most < 0 ∨ min (min most 4096) ((xs.length : Int) - (numT xs).2) < (numT xs).1 then ([], xs, true)
  else ((xs.drop (numT xs).2).take (numT xs).1.toNat, (xs.drop (numT xs).2).drop (numT xs).1.toNat, false)

/-- What Flag takes. -/
def flagP (xs : List Int) (bad : Bool) : Bool × List Int × Bool :=
  if bad = true ∨ xs.length = 0 ∨ 1 < xs.getD 0 0 then (false, xs, true) else (decide (xs.getD 0 0 = 1), xs.tail, false)

theorem numP_back {xs ys : List Int} {bad : Bool} {most v : Int} (hb : ∀ c ∈ xs, 0 ≤ c ∧ c < 256) (h : numP xs bad most = (v, ys, false)) : bad = false ∧ xs = numL v ++ ys ∧ 0 ≤ v ∧ v ≤ most ∧ v < 18446744073709551616 := by
  unfold numP at h
  split at h
  · simp at h
  · rename_i hn
    rw [not_or, not_or] at hn
    obtain ⟨h1, h2, h3⟩ := hn
    simp only [Prod.mk.injEq, and_true] at h
    obtain ⟨rfl, rfl⟩ := h
    obtain ⟨k0, k1, k2, k3⟩ := numT_back hb (x := (numT xs).1) (m := (numT xs).2) rfl (by omega)
    refine ⟨by simpa using h1, ?_, k0, by omega, k1⟩
    rw [← k3, List.take_append_drop]

theorem numP_fwd (x most : Int) (r : List Int) (h0 : 0 ≤ x) (h1 : x ≤ most) (h2 : x < 18446744073709551616) : numP (numL x ++ r) false most = (x, r, false) := by
  unfold numP
  have hl := numL_length_pos x
  rw [numT_numL x r h0 h2, if_neg (by simp only [Bool.false_eq_true, false_or]; omega)]
  simp

theorem textP_back {xs t ys : List Int} {bad : Bool} {most : Int} (hb : ∀ c ∈ xs, 0 ≤ c ∧ c < 256) (h : textP xs bad most = (t, ys, false)) : bad = false ∧ xs = textL t ++ ys ∧ (t.length : Int) ≤ most ∧ t.length ≤ 4096 := by
  unfold textP at h
  split at h
  · simp at h
  · rename_i hn
    rw [not_or, not_or, not_or] at hn
    obtain ⟨h1, h2, h3, h4⟩ := hn
    simp only [Prod.mk.injEq, and_true] at h
    obtain ⟨rfl, rfl⟩ := h
    obtain ⟨k0, k1, k2, k3⟩ := numT_back hb (x := (numT xs).1) (m := (numT xs).2) rfl (by omega)
    have hlen : (((xs.drop (numT xs).2).take (numT xs).1.toNat).length : Int) = (numT xs).1 := by
      rw [List.length_take, List.length_drop]
      omega
    refine ⟨by simpa using h1, ?_, by omega, by omega⟩
    unfold textL
    rw [hlen, ← k3, List.append_assoc, List.take_append_drop, List.take_append_drop]

theorem textP_fwd (t : List Int) (most : Int) (r : List Int) (h0 : (t.length : Int) ≤ most) (h1 : t.length ≤ 4096) : textP (textL t ++ r) false most = (t, r, false) := by
  unfold textP textL
  have hl := numL_length_pos (t.length : Int)
  rw [List.append_assoc, numT_numL _ _ (by omega) (by omega), if_neg ?_]
  · simp
  · rw [not_or, not_or, not_or]
    refine ⟨by simp, by omega, by omega, ?_⟩
    simp only [List.length_append]
    omega

theorem numP_byte {xs : List Int} {bad : Bool} {most : Int} (hb : ∀ c ∈ xs, 0 ≤ c ∧ c < 256) : ∀ c ∈ (numP xs bad most).2.1, 0 ≤ c ∧ c < 256 := by
  unfold numP
  split
  · exact hb
  · exact fun c hc => hb c (List.mem_of_mem_drop hc)
theorem textP_byte {xs : List Int} {bad : Bool} {most : Int} (hb : ∀ c ∈ xs, 0 ≤ c ∧ c < 256) : ∀ c ∈ (textP xs bad most).2.1, 0 ≤ c ∧ c < 256 := by
  unfold textP
  split
  · exact hb
  · exact fun c hc => hb c (List.mem_of_mem_drop (List.mem_of_mem_drop hc))
theorem textP_byte1 {xs : List Int} {bad : Bool} {most : Int} (hb : ∀ c ∈ xs, 0 ≤ c ∧ c < 256) : ∀ c ∈ (textP xs bad most).1, 0 ≤ c ∧ c < 256 := by
  unfold textP
  split
  · exact fun c hc => by cases hc
  · exact fun c hc => hb c (List.mem_of_mem_drop (List.mem_of_mem_take hc))
theorem textP_le {xs : List Int} {bad : Bool} {most : Int} : (textP xs bad most).1.length ≤ xs.length := by
  unfold textP
  split
  · simp
  · simp only [List.length_take, List.length_drop]
    omega
theorem textP_le1 {xs : List Int} {bad : Bool} {most : Int} (hb : ∀ c ∈ xs, 0 ≤ c ∧ c < 256) (h0 : 0 ≤ most) : ((textP xs bad most).1.length : Int) ≤ most := by
  cases h : (textP xs bad most).2.2 with
  | false => exact (textP_back hb (t := (textP xs bad most).1) (ys := (textP xs bad most).2.1) (Prod.ext rfl (Prod.ext rfl h))).2.2.1
  | true =>
    unfold textP at h ⊢
    split at h
    · rename_i hc
      rw [if_pos hc]
      simpa using h0
    · simp at h

theorem textL_byte {xs : List Int} (h : ∀ x ∈ xs, 0 ≤ x ∧ x < 256) : ∀ x ∈ textL xs, 0 ≤ x ∧ x < 256 := by
  intro x hx
  rw [textL] at hx
  rcases List.mem_append.1 hx with h1 | h1
  · exact numL_byte _ (by omega) x h1
  · exact h x h1
theorem textL_le (xs : List Int) : (textL xs).length ≤ 10 + xs.length := by
  have h3 := numL_length_le (xs.length : Int)
  rw [textL, List.length_append]
  omega
theorem numP_bd {xs : List Int} {bad : Bool} {most : Int} (hb : ∀ c ∈ xs, 0 ≤ c ∧ c < 256) (h0 : 0 ≤ most) : 0 ≤ (numP xs bad most).1 ∧ (numP xs bad most).1 ≤ most := by
  unfold numP
  split
  · exact ⟨Int.le_refl _, h0⟩
  · rename_i hn
    rw [not_or, not_or] at hn
    have := numT_back hb (x := (numT xs).1) (m := (numT xs).2) rfl (by omega)
    exact ⟨this.1, by omega⟩

/-- A proof's bytes. -/
def prL (p : Pr) : List Int :=
  numL p.kind ++ (if p.kind = 3 then numL p.writer ++ numL p.floor ++ numL p.head else textL (bytesL p.a.1 p.a.2) ++ (if p.kind = 4 then numL (p.wn : Int) ++ toksL p.ws p.wn else textL (bytesL p.b.1 p.b.2)))
/-- What a formed proof's numbers are. -/
theorem prB_kind {p : Pr} (h : prB p = true) : p.kind = 1 ∨ p.kind = 2 ∨ p.kind = 3 ∨ p.kind = 4 := by
  unfold prB at h
  split at h
  · omega
  · split at h
    · omega
    · simp only [Bool.and_eq_true, decide_eq_true_eq] at h
      omega
theorem prB_3 {p : Pr} (h : prB p = true) (hk : p.kind = 3) : 1 ≤ p.writer ∧ p.writer ≤ 6 ∧ p.head < p.floor ∧ p.floor ≤ 1048576 := by
  unfold prB at h
  rw [if_neg (by omega), if_pos hk] at h
  simp only [Bool.and_eq_true, decide_eq_true_eq] at h
  omega
theorem prB_4 {p : Pr} (h : prB p = true) (hk : p.kind = 4) : p.wn ≤ 8 := by
  unfold prB at h
  rw [if_neg (by omega), if_neg (by omega)] at h
  simp only [Bool.and_eq_true, decide_eq_true_eq] at h
  omega
theorem prL_le {p : Pr} (h : prB p = true) : (prL p).length ≤ 1000 := by
  have h1 := bytesL_le p.a.1 p.a.2
  have h2 := bytesL_le p.b.1 p.b.2
  have h3 := textL_le (bytesL p.a.1 p.a.2)
  have h4 := textL_le (bytesL p.b.1 p.b.2)
  have h5 := numL_length_le p.kind
  have h6 := numL_length_le p.writer
  have h7 := numL_length_le p.floor
  have h8 := numL_length_le p.head
  have h9 := numL_length_le (p.wn : Int)
  unfold prL
  split
  · simp only [List.length_append]; omega
  · split
    · rename_i hk
      have h10 := prB_4 h hk
      simp only [List.length_append, toksL_length]
      omega
    · simp only [List.length_append]; omega
theorem prL_byte {w : World} {p : Pr} (h : PrAt w p) (hf : prB p = true) : ∀ x ∈ prL p, 0 ≤ x ∧ x < 256 := by
  have hb1 := bytesL_byte h.a.ok h.a.toks.len h.a.toks.byte
  have hb2 := bytesL_byte h.b.ok h.b.toks.len h.b.toks.byte
  have hk := prB_kind hf
  intro x hx
  unfold prL at hx
  rcases List.mem_append.1 hx with h1 | h1
  · exact numL_byte _ (by omega) x h1
  · split at h1
    · rename_i hk3
      have h3 := prB_3 hf hk3
      have h4 := h.head
      rcases List.mem_append.1 h1 with h1 | h1
      · rcases List.mem_append.1 h1 with h1 | h1
        · exact numL_byte _ (by omega) x h1
        · exact numL_byte _ (by omega) x h1
      · exact numL_byte _ (by omega) x h1
    · rcases List.mem_append.1 h1 with h1 | h1
      · exact textL_byte hb1 x h1
      · split at h1
        · rcases List.mem_append.1 h1 with h1 | h1
          · exact numL_byte _ (by omega) x h1
          · exact toksL_byte _ h.toks.byte _ (by rw [h.toks.len]; exact Nat.le_refl _) x h1
        · exact textL_byte hb2 x h1

end Go.Proofs.YtpiebfhcfkncoaaDoor
