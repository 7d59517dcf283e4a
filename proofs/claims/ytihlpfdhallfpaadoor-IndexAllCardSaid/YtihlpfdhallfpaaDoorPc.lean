/-
  A piece by value; the walks of index.Whole and jalousieref20.Whole. Asked: the tables lie as the text lays them.
-/
import Derived.Test.YtihlpfdhallfpaaDoorWrT
namespace Go.Proofs.YtihlpfdhallfpaaDoor
open Go.ChangeShapes Go.WideShapes Go.ChangeAt Go.RowKit

structure Pc where
  hd : HT
  ba : Option Addr
  bc : Nat
  bd : List Int
def pcC (p : Pc) (i : Nat) : Value := if i < 125 then hdC p.hd.1 i else .slice p.ba p.bd.length p.bc
def pcV (p : Pc) : Array Value := rowArr 126 (pcC p)
theorem pcV_size (p : Pc) : (pcV p).size = 126 := rowArr_size _ _
theorem pcC_one (p : Pc) (i : Nat) : (pcC p i).oneCell' = true := by unfold pcC; split; exact hdC_one _ _; rfl
theorem pcV_one (p : Pc) : (pcV p).all (·.oneCell') = true := rowArr_one fun i _ => pcC_one p i
structure PcAt (w : World) (p : Pc) : Prop where
  hd : HtAt w p.hd
  body : BsAt w p.ba p.bd.length p.bc p.bd
  room : p.bd.length ≤ 549755813888
theorem PcAt.ext {w w' : World} {p : Pc} (h : PcAt w p) (he : Ext w w') : PcAt w' p := ⟨h.hd.ext he, h.body.ext he, h.room⟩
section
variable {w : World} {g : Nat} {p : Pc} {T : TypeId} {fr : Nat × Nat} (hb : w.heap[g]? = some (.cells (pcV p) T fr))
include hb
theorem pc_hd (i : Nat) (hi : i < 125) : w.cell? ⟨g, i, none⟩ = some (hdC p.hd.1 i) := by
  rw [row_cell hb i (by omega)]
  unfold pcC
  rw [if_pos hi]
theorem pc_body : w.cell? ⟨g, 125, none⟩ = some (.slice p.ba p.bd.length p.bc) := row_cell hb 125 (by omega)
theorem pc_rh : w.rangeAt g 0 (hdL p.hd.1) := range_hd (fun j hj => by rw [Nat.zero_add]; exact pc_hd hb j hj)
end
/-- Whether a piece has the body that its header tells. -/
def wholeB (p : Pc) : Bool := decide ((p.bd.length : Int) = p.hd.1.size) && arrB 32 (shaF p.bd) p.hd.1.sum
theorem eql_a32p (w : World) (f g : Nat → Int) : (binOp .eql 27 (.agg (rowArr 32 fun j => .int .u8 (f j))) (.agg (rowArr 32 fun j => .int .u8 (g j)))).run Tryd.prog w = .ok (.bool (arrB 32 f g)) w :=
  run_eql_arr w 27 5 32 .u8 Tryd.underlying27 Tryd.underlying5 size_u8 f g

set_option maxHeartbeats 4000000 in
set_option maxRecDepth 100000 in
theorem whole_any (p : Pc) (w : World) (hp : PcAt w p) (hk : KsAt 1 w) :
    Calls Tryd.prog 21 #[.agg (pcV p)] w fun e w' => e = .returned (.bool (wholeB p)) ∧ Ext w w' := by
  obtain ⟨w2, hw2⟩ : ∃ x, w.alloc (.cells (pcV p) 37) = x := ⟨_, rfl⟩
  have hE2 : Ext w w2 := by rw [← hw2]; exact (Ext.refl w).alloc _
  have hB2 : w2.heap[w.heap.size]? = some (.cells (pcV p) 37 (0, 0)) := by rw [← hw2]; exact heap_new w _ _ rfl
  obtain ⟨g, hg⟩ : ∃ g, w.heap.size = g := ⟨_, rfl⟩
  rw [hg] at hB2
  have Hg := Lib.hid hg
  have Hw2 := Lib.hid hw2
  have HE2 := Lib.hid hE2
  have C125 := Lib.hid (fun x (hx : Ext w2 x) => pc_body (hx.keep hB2))
  have C92 := Lib.hid (show ∀ x, Ext w2 x → x.cell? ⟨g, 92, none⟩ = some (.int .i64 p.hd.1.size) from fun x hx => pc_hd (hx.keep hB2) 92 (by omega))
  have CS := Lib.hid (show ∀ x, Ext w2 x → ∀ i, i < 32 → x.cell? ⟨g, 60 + i, none⟩ = some (.int .u8 (p.hd.1.sum i)) from fun x hx i hi => by
    rw [pc_hd (hx.keep hB2) (60 + i) (by omega)]
    unfold hdC
    rw [if_neg (by omega), if_neg (by omega), if_neg (by omega), if_neg (by omega), if_neg (by omega), if_neg (by omega), if_neg (by omega), if_neg (by omega), if_neg (by omega), if_pos (by omega), show 60 + i - 60 = i by omega])
  have HBs := Lib.hid (fun x (hx : Ext w2 x) => hp.body.ext (hE2.trans hx))
  have HSu := Lib.hid (show ∀ x, Ext w2 x → ∀ q, PsAt x q 1 1 [p.bd] → Calls Tryd.prog 25 #[.slice q 1 1] x fun e w' => e = .returned (.agg (rowArr 32 fun j => .int .u8 (shaF p.bd j))) ∧ Ext x w' from fun x hx q hq => by
    have h1 := sum_any q 1 1 [p.bd] x hq (by have := hp.room; simp; omega) (by omega) (hdKs_ext hk (hE2.trans hx))
    rw [show ([p.bd] : List (List Int)).flatten = p.bd by simp] at h1
    exact h1)
  have HNe := Lib.hid eql_h
  have hsm := hp.body.small
  have HX := Lib.hid (show ∀ x, Ext w2.drew x → Ext w2 x from fun x hx => Ext.trans (Ext.refl w2).drew hx)
  unfold wholeB
  obtain ⟨PV, hPV⟩ : ∃ x, pcV p = x := ⟨_, rfl⟩
  rw [hPV] at Hw2 ⊢
  obtain ⟨T, hT⟩ : ∃ x, shaF p.bd = x := ⟨_, rfl⟩
  rw [hT] at HSu ⊢
  obtain ⟨sz, hsz⟩ : ∃ x, p.hd.1.size = x := ⟨_, rfl⟩
  rw [hsz] at C92 ⊢
  obtain ⟨⟨h, ts⟩, ba, bc, xs⟩ := p
  dsimp only at C125 CS HBs HSu hsm ⊢
  obtain ⟨bn, hbn⟩ : ∃ x, xs.length = x := ⟨_, rfl⟩
  rw [hbn] at C125 HBs hsm ⊢
  clear hw2 hE2 hB2 hg hp hk hPV hT hsz hbn
  by_cases hE : (bn : Int) = sz
  · have HY := Lib.hid (show ((bn : Int) == sz) = true by simpa using hE)
    rw [decide_eq_true hE]
    clear hE
    go_enter Tryd.func21, Tryd.ntmps21
    go_upto_region 1 with (fail)
    refine wp_world (w' := w2) Hw2.out ?_
    rw [Hg.out]
    refine wp_region_lexA (by kernel_rfl) (by kernel_rfl) ?_
    refine lx_e (.pointer (some ⟨g, 125, none⟩)) [] (by kernel_rfl) rfl (by rfl) (fun w1 hw1 => ?_) ?_
    · simp only [pk, lexVals]
      go_simp
      exact ⟨Ext.refl _, rfl⟩
    refine lx_e (.slice ba bn bc) [(0, 3)] (by kernel_rfl) rfl (by rfl) (fun w1 hw1 => ?_) ?_
    · simp only [pk, nthSp, lexVals]
      have hc := C125.out w1 (HX.out w1 hw1)
      clear hw1
      go_simp
      exact ⟨Ext.refl _, rfl⟩
    refine lx_e (.int .i64 (bn : Int)) [(0, 4)] (by kernel_rfl) rfl (by rfl) (fun w1 hw1 => ?_) ?_
    · simp only [pk, nthSp, lexVals]
      go_simp
      exact ⟨Ext.refl _, rfl⟩
    refine lx_e (.pointer (some ⟨g, 0, none⟩)) [] (by kernel_rfl) rfl (by rfl) (fun w1 hw1 => ?_) ?_
    · simp only [pk, lexVals]
      go_simp
      exact ⟨Ext.refl _, rfl⟩
    refine lx_e (.pointer (some ⟨g, 92, none⟩)) [(0, 6)] (by kernel_rfl) rfl (by rfl) (fun w1 hw1 => ?_) ?_
    · simp only [pk, nthSp, lexVals]
      go_simp
      exact ⟨Ext.refl _, rfl⟩
    refine lx_e (.int .i64 sz) [(0, 7)] (by kernel_rfl) rfl (by rfl) (fun w1 hw1 => ?_) ?_
    · simp only [pk, nthSp, lexVals]
      have hc := C92.out w1 (HX.out w1 hw1)
      clear hw1
      go_simp
      exact ⟨Ext.refl _, rfl⟩
    refine lx_e (.bool true) [(3, 5), (0, 8)] (by kernel_rfl) rfl (by rfl) (fun w1 hw1 => ?_) ?_
    · simp only [pk, nthSp, lexVals]
      have hy := HY.out
      clear hw1
      go_simp
      exact ⟨Ext.refl _, by first | rfl | (rw [hy])⟩
    refine lx_e (.bool true) [(0, 9)] (by kernel_rfl) rfl (by rfl) (fun w1 hw1 => ?_) ?_
    · simp only [pk, nthSp, lexVals]
      go_simp
      exact ⟨Ext.refl _, rfl⟩
    refine lx_ge (.pointer (some ⟨g, 125, none⟩)) [(0, 10)] 10 (by kernel_rfl) rfl (by kernel_rfl) (by rfl) (fun w1 => ?_) (fun w1 hw1 => ?_) ?_
    · simp only [pk, nthSp, lexVals]
      rfl
    · simp only [pk, nthSp, lexVals]
      go_simp
      exact ⟨Ext.refl _, rfl⟩
    refine lx_ge (.slice ba bn bc) [(0, 11), (1, 10)] 10 (by kernel_rfl) rfl (by kernel_rfl) (by rfl) (fun w1 => ?_) (fun w1 hw1 => ?_) ?_
    · simp only [pk, nthSp, lexVals]
      rfl
    · simp only [pk, nthSp, lexVals]
      have hc := C125.out w1 (HX.out w1 hw1)
      clear hw1
      go_simp
      exact ⟨Ext.refl _, rfl⟩
    refine lx_ga (fun u w => ∃ q, u = .slice q 1 1 ∧ PsAt w q 1 1 [xs]) [(0, 12), (2, 10)] 10 (by kernel_rfl) rfl (by kernel_rfl) (by rfl) (fun u w w' he ⟨q, h1, h2⟩ => ⟨q, h1, h2.ext he⟩) (fun w1 => ?_) (fun w1 hw1 => ?_) ?_
    · simp only [pk, nthSp, lexVals]
      rfl
    · simp only [pk, nthSp, lexVals]
      have HV := Lib.hid (HBs.out w1 (HX.out w1 hw1))
      clear hw1
      go_simp
      exact ⟨(Ext.refl w1).alloc _, _, rfl, ps_one HV.out 35⟩
    refine lx_ge (.agg (rowArr 32 fun j => .int .u8 (T j))) [(0, 13), (3, 10)] 10 (by kernel_rfl) rfl (by kernel_rfl) (by rfl) (fun w1 => ?_) (fun w1 hw1 => ?_) ?_
    · simp only [pk, nthSp, lexVals]
      rintro u13 ⟨q13, rfl, -⟩
      rfl
    · simp only [pk, nthSp, lexVals]
      rintro u13 ⟨q13, rfl, h13⟩
      have hm := HSu.out w1 (HX.out w1 hw1) _ h13
      have HM := Lib.hid hm
      clear hm hw1 h13
      go_simp
      refine HM.out.mono ?_
      rintro e w2 ⟨rfl, hE2⟩
      exact ⟨_, rfl, hE2, rfl⟩
    refine lx_ge (.pointer (some ⟨g, 0, none⟩)) [(4, 10)] 10 (by kernel_rfl) rfl (by kernel_rfl) (by rfl) (fun w1 => ?_) (fun w1 hw1 => ?_) ?_
    · simp only [pk, nthSp, lexVals]
      rfl
    · simp only [pk, nthSp, lexVals]
      go_simp
      exact ⟨Ext.refl _, rfl⟩
    refine lx_ge (.pointer (some ⟨g, 60, none⟩)) [(0, 15), (5, 10)] 10 (by kernel_rfl) rfl (by kernel_rfl) (by rfl) (fun w1 => ?_) (fun w1 hw1 => ?_) ?_
    · simp only [pk, nthSp, lexVals]
      rfl
    · simp only [pk, nthSp, lexVals]
      go_simp
      exact ⟨Ext.refl _, rfl⟩
    refine lx_ge (.agg (rowArr 32 fun j => .int .u8 (h.sum j))) [(0, 16), (6, 10)] 10 (by kernel_rfl) rfl (by kernel_rfl) (by rfl) (fun w1 => ?_) (fun w1 hw1 => ?_) ?_
    · simp only [pk, nthSp, lexVals]
      rfl
    · simp only [pk, nthSp, lexVals]
      exact lu_sub rfl rfl Tryd.underlying28 (size_h32 _) (CS.out w1 (HX.out w1 hw1))
    refine lx_ge (.bool (arrB 32 T h.sum)) [(3, 14), (0, 17), (7, 10)] 10 (by kernel_rfl) rfl (by kernel_rfl) (by rfl) (fun w1 => ?_) (fun w1 hw1 => ?_) ?_
    · simp only [pk, nthSp, lexVals]
      rfl
    · simp only [pk, nthSp, lexVals]
      have hn := HNe.out
      clear hw1
      go_simp
      exact ⟨Ext.refl _, rfl⟩
    refine lx_e (.bool (arrB 32 T h.sum)) [(8, 10), (0, 18)] (by kernel_rfl) rfl (by rfl) (fun w1 hw1 => ?_) ?_
    · simp only [pk, nthSp, lexVals]
      go_simp
      exact ⟨Ext.refl _, rfl⟩
    refine lx_e (.bool (arrB 32 T h.sum)) [(0, 19)] (by kernel_rfl) rfl (by rfl) (fun w1 hw1 => ?_) ?_
    · simp only [pk, nthSp, lexVals]
      go_simp
      exact ⟨Ext.refl _, rfl⟩
    refine lx_stopA (by rfl) fun w7 hw7 => ?_
    have HE7 := Lib.hid (HE2.out.trans (HX.out w7 hw7))
    clear hw7
    simp only [rv, pf, lexVals]
    rintro v1 ⟨q1, rfl, -⟩
    simp only [Act.put, List.setIfInBounds_toArray, List.set_cons_zero, List.set_cons_succ]
    go_wp2
    go_ret
    exact ⟨by first | rfl | simp, HE7.out⟩
  · have HY := Lib.hid (show ((bn : Int) == sz) = false by simpa using hE)
    rw [decide_eq_false hE]
    clear hE
    go_enter Tryd.func21, Tryd.ntmps21
    go_upto_region 1 with (fail)
    refine wp_world (w' := w2) Hw2.out ?_
    rw [Hg.out]
    refine wp_region_lexA (by kernel_rfl) (by kernel_rfl) ?_
    refine lx_e (.pointer (some ⟨g, 125, none⟩)) [] (by kernel_rfl) rfl (by rfl) (fun w1 hw1 => ?_) ?_
    · simp only [pk, lexVals]
      go_simp
      exact ⟨Ext.refl _, rfl⟩
    refine lx_e (.slice ba bn bc) [(0, 3)] (by kernel_rfl) rfl (by rfl) (fun w1 hw1 => ?_) ?_
    · simp only [pk, nthSp, lexVals]
      have hc := C125.out w1 (HX.out w1 hw1)
      clear hw1
      go_simp
      exact ⟨Ext.refl _, rfl⟩
    refine lx_e (.int .i64 (bn : Int)) [(0, 4)] (by kernel_rfl) rfl (by rfl) (fun w1 hw1 => ?_) ?_
    · simp only [pk, nthSp, lexVals]
      go_simp
      exact ⟨Ext.refl _, rfl⟩
    refine lx_e (.pointer (some ⟨g, 0, none⟩)) [] (by kernel_rfl) rfl (by rfl) (fun w1 hw1 => ?_) ?_
    · simp only [pk, lexVals]
      go_simp
      exact ⟨Ext.refl _, rfl⟩
    refine lx_e (.pointer (some ⟨g, 92, none⟩)) [(0, 6)] (by kernel_rfl) rfl (by rfl) (fun w1 hw1 => ?_) ?_
    · simp only [pk, nthSp, lexVals]
      go_simp
      exact ⟨Ext.refl _, rfl⟩
    refine lx_e (.int .i64 sz) [(0, 7)] (by kernel_rfl) rfl (by rfl) (fun w1 hw1 => ?_) ?_
    · simp only [pk, nthSp, lexVals]
      have hc := C92.out w1 (HX.out w1 hw1)
      clear hw1
      go_simp
      exact ⟨Ext.refl _, rfl⟩
    refine lx_e (.bool false) [(3, 5), (0, 8)] (by kernel_rfl) rfl (by rfl) (fun w1 hw1 => ?_) ?_
    · simp only [pk, nthSp, lexVals]
      have hy := HY.out
      clear hw1
      go_simp
      exact ⟨Ext.refl _, by first | rfl | (rw [hy])⟩
    refine lx_e (.bool false) [(0, 9)] (by kernel_rfl) rfl (by rfl) (fun w1 hw1 => ?_) ?_
    · simp only [pk, nthSp, lexVals]
      go_simp
      exact ⟨Ext.refl _, rfl⟩
    refine lx_no [(0, 10)] 10 (by kernel_rfl) rfl (by kernel_rfl) (by rfl) (fun w1 => ?_) ?_
    · simp only [pk, nthSp, lexVals]
      first | (go_simp; done) | (go_simp; exact fun h => by cases h)
    refine lx_no [(0, 11), (1, 10)] 10 (by kernel_rfl) rfl (by kernel_rfl) (by rfl) (fun w1 => ?_) ?_
    · simp only [pk, nthSp, lexVals]
      first | (go_simp; done) | (go_simp; exact fun h => by cases h)
    refine lx_no [(0, 12), (2, 10)] 10 (by kernel_rfl) rfl (by kernel_rfl) (by rfl) (fun w1 => ?_) ?_
    · simp only [pk, nthSp, lexVals]
      first | (go_simp; done) | (go_simp; exact fun h => by cases h)
    refine lx_no [(0, 13), (3, 10)] 10 (by kernel_rfl) rfl (by kernel_rfl) (by rfl) (fun w1 => ?_) ?_
    · simp only [pk, nthSp, lexVals]
      first | (go_simp; done) | (go_simp; exact fun h => by cases h)
    refine lx_no [(4, 10)] 10 (by kernel_rfl) rfl (by kernel_rfl) (by rfl) (fun w1 => ?_) ?_
    · simp only [pk, nthSp, lexVals]
      first | (go_simp; done) | (go_simp; exact fun h => by cases h)
    refine lx_no [(0, 15), (5, 10)] 10 (by kernel_rfl) rfl (by kernel_rfl) (by rfl) (fun w1 => ?_) ?_
    · simp only [pk, nthSp, lexVals]
      first | (go_simp; done) | (go_simp; exact fun h => by cases h)
    refine lx_no [(0, 16), (6, 10)] 10 (by kernel_rfl) rfl (by kernel_rfl) (by rfl) (fun w1 => ?_) ?_
    · simp only [pk, nthSp, lexVals]
      first | (go_simp; done) | (go_simp; exact fun h => by cases h)
    refine lx_no [(3, 14), (0, 17), (7, 10)] 10 (by kernel_rfl) rfl (by kernel_rfl) (by rfl) (fun w1 => ?_) ?_
    · simp only [pk, nthSp, lexVals]
      first | (go_simp; done) | (go_simp; exact fun h => by cases h)
    refine lx_e (.bool false) [(8, 10), (0, 18)] (by kernel_rfl) rfl (by rfl) (fun w1 hw1 => ?_) ?_
    · simp only [pk, nthSp, lexVals]
      go_simp
      exact ⟨Ext.refl _, rfl⟩
    refine lx_e (.bool false) [(0, 19)] (by kernel_rfl) rfl (by rfl) (fun w1 hw1 => ?_) ?_
    · simp only [pk, nthSp, lexVals]
      go_simp
      exact ⟨Ext.refl _, rfl⟩
    refine lx_stopA (by rfl) fun w7 hw7 => ?_
    have HE7 := Lib.hid (HE2.out.trans (HX.out w7 hw7))
    clear hw7
    simp only [rv, pf, lexVals]
    simp only [Act.put, List.setIfInBounds_toArray, List.set_cons_zero, List.set_cons_succ]
    go_wp2
    go_ret
    exact ⟨by first | rfl | simp, HE7.out⟩

set_option maxHeartbeats 4000000 in
set_option maxRecDepth 100000 in
theorem refWhole_any (p : Pc) (w : World) (hp : PcAt w p) (hk : KsAt 0 w) :
    Calls Tryd.prog 52 #[.agg (pcV p)] w fun e w' => e = .returned (.bool (wholeB p)) ∧ Ext w w' := by
  obtain ⟨w2, hw2⟩ : ∃ x, w.alloc (.cells (pcV p) 37) = x := ⟨_, rfl⟩
  have hE2 : Ext w w2 := by rw [← hw2]; exact (Ext.refl w).alloc _
  have hB2 : w2.heap[w.heap.size]? = some (.cells (pcV p) 37 (0, 0)) := by rw [← hw2]; exact heap_new w _ _ rfl
  obtain ⟨g, hg⟩ : ∃ g, w.heap.size = g := ⟨_, rfl⟩
  rw [hg] at hB2
  have Hg := Lib.hid hg
  have Hw2 := Lib.hid hw2
  have HE2 := Lib.hid hE2
  have C125 := Lib.hid (fun x (hx : Ext w2 x) => pc_body (hx.keep hB2))
  have C92 := Lib.hid (show ∀ x, Ext w2 x → x.cell? ⟨g, 92, none⟩ = some (.int .i64 p.hd.1.size) from fun x hx => pc_hd (hx.keep hB2) 92 (by omega))
  have CS := Lib.hid (show ∀ x, Ext w2 x → ∀ i, i < 32 → x.cell? ⟨g, 60 + i, none⟩ = some (.int .u8 (p.hd.1.sum i)) from fun x hx i hi => by
    rw [pc_hd (hx.keep hB2) (60 + i) (by omega)]
    unfold hdC
    rw [if_neg (by omega), if_neg (by omega), if_neg (by omega), if_neg (by omega), if_neg (by omega), if_neg (by omega), if_neg (by omega), if_neg (by omega), if_neg (by omega), if_pos (by omega), show 60 + i - 60 = i by omega])
  have HBs := Lib.hid (fun x (hx : Ext w2 x) => hp.body.ext (hE2.trans hx))
  have HSu := Lib.hid (fun x (hx : Ext w2 x) => refSum_any p.ba p.bd.length p.bc p.bd x (hp.body.ext (hE2.trans hx)) (by have := hp.room; omega) (hdKs_ext hk (hE2.trans hx)))
  have HNe := Lib.hid eql_a32p
  have hsm := hp.body.small
  have HX := Lib.hid (show ∀ x, Ext w2.drew x → Ext w2 x from fun x hx => Ext.trans (Ext.refl w2).drew hx)
  unfold wholeB
  obtain ⟨PV, hPV⟩ : ∃ x, pcV p = x := ⟨_, rfl⟩
  rw [hPV] at Hw2 ⊢
  obtain ⟨T, hT⟩ : ∃ x, shaF p.bd = x := ⟨_, rfl⟩
  rw [hT] at HSu ⊢
  obtain ⟨sz, hsz⟩ : ∃ x, p.hd.1.size = x := ⟨_, rfl⟩
  rw [hsz] at C92 ⊢
  obtain ⟨⟨h, ts⟩, ba, bc, xs⟩ := p
  dsimp only at C125 CS HBs HSu hsm ⊢
  obtain ⟨bn, hbn⟩ : ∃ x, xs.length = x := ⟨_, rfl⟩
  rw [hbn] at C125 HBs HSu hsm ⊢
  clear hw2 hE2 hB2 hg hp hk hPV hT hsz hbn
  by_cases hE : (bn : Int) = sz
  · have HY := Lib.hid (show ((bn : Int) == sz) = true by simpa using hE)
    rw [decide_eq_true hE]
    clear hE
    go_enter Tryd.func52, Tryd.ntmps52
    go_upto_region 1 with (fail)
    refine wp_world (w' := w2) Hw2.out ?_
    rw [Hg.out]
    refine wp_region_lexA (by kernel_rfl) (by kernel_rfl) ?_
    refine lx_e (.pointer (some ⟨g, 125, none⟩)) [] (by kernel_rfl) rfl (by rfl) (fun w1 hw1 => ?_) ?_
    · simp only [pk, lexVals]
      go_simp
      exact ⟨Ext.refl _, rfl⟩
    refine lx_e (.slice ba bn bc) [(0, 3)] (by kernel_rfl) rfl (by rfl) (fun w1 hw1 => ?_) ?_
    · simp only [pk, nthSp, lexVals]
      have hc := C125.out w1 (HX.out w1 hw1)
      clear hw1
      go_simp
      exact ⟨Ext.refl _, rfl⟩
    refine lx_e (.int .i64 (bn : Int)) [(0, 4)] (by kernel_rfl) rfl (by rfl) (fun w1 hw1 => ?_) ?_
    · simp only [pk, nthSp, lexVals]
      go_simp
      exact ⟨Ext.refl _, rfl⟩
    refine lx_e (.pointer (some ⟨g, 0, none⟩)) [] (by kernel_rfl) rfl (by rfl) (fun w1 hw1 => ?_) ?_
    · simp only [pk, lexVals]
      go_simp
      exact ⟨Ext.refl _, rfl⟩
    refine lx_e (.pointer (some ⟨g, 92, none⟩)) [(0, 6)] (by kernel_rfl) rfl (by rfl) (fun w1 hw1 => ?_) ?_
    · simp only [pk, nthSp, lexVals]
      go_simp
      exact ⟨Ext.refl _, rfl⟩
    refine lx_e (.int .i64 sz) [(0, 7)] (by kernel_rfl) rfl (by rfl) (fun w1 hw1 => ?_) ?_
    · simp only [pk, nthSp, lexVals]
      have hc := C92.out w1 (HX.out w1 hw1)
      clear hw1
      go_simp
      exact ⟨Ext.refl _, rfl⟩
    refine lx_e (.bool true) [(3, 5), (0, 8)] (by kernel_rfl) rfl (by rfl) (fun w1 hw1 => ?_) ?_
    · simp only [pk, nthSp, lexVals]
      have hy := HY.out
      clear hw1
      go_simp
      exact ⟨Ext.refl _, by first | rfl | (rw [hy])⟩
    refine lx_e (.bool true) [(0, 9)] (by kernel_rfl) rfl (by rfl) (fun w1 hw1 => ?_) ?_
    · simp only [pk, nthSp, lexVals]
      go_simp
      exact ⟨Ext.refl _, rfl⟩
    refine lx_ge (.pointer (some ⟨g, 125, none⟩)) [(0, 10)] 10 (by kernel_rfl) rfl (by kernel_rfl) (by rfl) (fun w1 => ?_) (fun w1 hw1 => ?_) ?_
    · simp only [pk, nthSp, lexVals]
      rfl
    · simp only [pk, nthSp, lexVals]
      go_simp
      exact ⟨Ext.refl _, rfl⟩
    refine lx_ge (.slice ba bn bc) [(0, 11), (1, 10)] 10 (by kernel_rfl) rfl (by kernel_rfl) (by rfl) (fun w1 => ?_) (fun w1 hw1 => ?_) ?_
    · simp only [pk, nthSp, lexVals]
      rfl
    · simp only [pk, nthSp, lexVals]
      have hc := C125.out w1 (HX.out w1 hw1)
      clear hw1
      go_simp
      exact ⟨Ext.refl _, rfl⟩
    refine lx_ge (.agg (rowArr 32 fun j => .int .u8 (T j))) [(0, 12), (2, 10)] 10 (by kernel_rfl) rfl (by kernel_rfl) (by rfl) (fun w1 => ?_) (fun w1 hw1 => ?_) ?_
    · simp only [pk, nthSp, lexVals]
      rfl
    · simp only [pk, nthSp, lexVals]
      have hm := HSu.out w1 (HX.out w1 hw1)
      have HM := Lib.hid hm
      clear hm hw1
      go_simp
      refine HM.out.mono ?_
      rintro e w2 ⟨rfl, hE2⟩
      exact ⟨_, rfl, hE2, rfl⟩
    refine lx_ge (.pointer (some ⟨g, 0, none⟩)) [(3, 10)] 10 (by kernel_rfl) rfl (by kernel_rfl) (by rfl) (fun w1 => ?_) (fun w1 hw1 => ?_) ?_
    · simp only [pk, nthSp, lexVals]
      rfl
    · simp only [pk, nthSp, lexVals]
      go_simp
      exact ⟨Ext.refl _, rfl⟩
    refine lx_ge (.pointer (some ⟨g, 60, none⟩)) [(0, 14), (4, 10)] 10 (by kernel_rfl) rfl (by kernel_rfl) (by rfl) (fun w1 => ?_) (fun w1 hw1 => ?_) ?_
    · simp only [pk, nthSp, lexVals]
      rfl
    · simp only [pk, nthSp, lexVals]
      go_simp
      exact ⟨Ext.refl _, rfl⟩
    refine lx_ge (.agg (rowArr 32 fun j => .int .u8 (h.sum j))) [(0, 15), (5, 10)] 10 (by kernel_rfl) rfl (by kernel_rfl) (by rfl) (fun w1 => ?_) (fun w1 hw1 => ?_) ?_
    · simp only [pk, nthSp, lexVals]
      rfl
    · simp only [pk, nthSp, lexVals]
      exact lu_sub rfl rfl Tryd.underlying28 (size_h32 _) (CS.out w1 (HX.out w1 hw1))
    refine lx_ge (.bool (arrB 32 T h.sum)) [(3, 13), (0, 16), (6, 10)] 10 (by kernel_rfl) rfl (by kernel_rfl) (by rfl) (fun w1 => ?_) (fun w1 hw1 => ?_) ?_
    · simp only [pk, nthSp, lexVals]
      rfl
    · simp only [pk, nthSp, lexVals]
      have hn := HNe.out
      clear hw1
      go_simp
      exact ⟨Ext.refl _, rfl⟩
    refine lx_e (.bool (arrB 32 T h.sum)) [(7, 10), (0, 17)] (by kernel_rfl) rfl (by rfl) (fun w1 hw1 => ?_) ?_
    · simp only [pk, nthSp, lexVals]
      go_simp
      exact ⟨Ext.refl _, rfl⟩
    refine lx_e (.bool (arrB 32 T h.sum)) [(0, 18)] (by kernel_rfl) rfl (by rfl) (fun w1 hw1 => ?_) ?_
    · simp only [pk, nthSp, lexVals]
      go_simp
      exact ⟨Ext.refl _, rfl⟩
    refine lx_stopA (by rfl) fun w7 hw7 => ?_
    have HE7 := Lib.hid (HE2.out.trans (HX.out w7 hw7))
    clear hw7
    simp only [rv, pf, lexVals]
    simp only [Act.put, List.setIfInBounds_toArray, List.set_cons_zero, List.set_cons_succ]
    go_wp2
    go_ret
    exact ⟨by first | rfl | simp, HE7.out⟩
  · have HY := Lib.hid (show ((bn : Int) == sz) = false by simpa using hE)
    rw [decide_eq_false hE]
    clear hE
    go_enter Tryd.func52, Tryd.ntmps52
    go_upto_region 1 with (fail)
    refine wp_world (w' := w2) Hw2.out ?_
    rw [Hg.out]
    refine wp_region_lexA (by kernel_rfl) (by kernel_rfl) ?_
    refine lx_e (.pointer (some ⟨g, 125, none⟩)) [] (by kernel_rfl) rfl (by rfl) (fun w1 hw1 => ?_) ?_
    · simp only [pk, lexVals]
      go_simp
      exact ⟨Ext.refl _, rfl⟩
    refine lx_e (.slice ba bn bc) [(0, 3)] (by kernel_rfl) rfl (by rfl) (fun w1 hw1 => ?_) ?_
    · simp only [pk, nthSp, lexVals]
      have hc := C125.out w1 (HX.out w1 hw1)
      clear hw1
      go_simp
      exact ⟨Ext.refl _, rfl⟩
    refine lx_e (.int .i64 (bn : Int)) [(0, 4)] (by kernel_rfl) rfl (by rfl) (fun w1 hw1 => ?_) ?_
    · simp only [pk, nthSp, lexVals]
      go_simp
      exact ⟨Ext.refl _, rfl⟩
    refine lx_e (.pointer (some ⟨g, 0, none⟩)) [] (by kernel_rfl) rfl (by rfl) (fun w1 hw1 => ?_) ?_
    · simp only [pk, lexVals]
      go_simp
      exact ⟨Ext.refl _, rfl⟩
    refine lx_e (.pointer (some ⟨g, 92, none⟩)) [(0, 6)] (by kernel_rfl) rfl (by rfl) (fun w1 hw1 => ?_) ?_
    · simp only [pk, nthSp, lexVals]
      go_simp
      exact ⟨Ext.refl _, rfl⟩
    refine lx_e (.int .i64 sz) [(0, 7)] (by kernel_rfl) rfl (by rfl) (fun w1 hw1 => ?_) ?_
    · simp only [pk, nthSp, lexVals]
      have hc := C92.out w1 (HX.out w1 hw1)
      clear hw1
      go_simp
      exact ⟨Ext.refl _, rfl⟩
    refine lx_e (.bool false) [(3, 5), (0, 8)] (by kernel_rfl) rfl (by rfl) (fun w1 hw1 => ?_) ?_
    · simp only [pk, nthSp, lexVals]
      have hy := HY.out
      clear hw1
      go_simp
      exact ⟨Ext.refl _, by first | rfl | (rw [hy])⟩
    refine lx_e (.bool false) [(0, 9)] (by kernel_rfl) rfl (by rfl) (fun w1 hw1 => ?_) ?_
    · simp only [pk, nthSp, lexVals]
      go_simp
      exact ⟨Ext.refl _, rfl⟩
    refine lx_no [(0, 10)] 10 (by kernel_rfl) rfl (by kernel_rfl) (by rfl) (fun w1 => ?_) ?_
    · simp only [pk, nthSp, lexVals]
      first | (go_simp; done) | (go_simp; exact fun h => by cases h)
    refine lx_no [(0, 11), (1, 10)] 10 (by kernel_rfl) rfl (by kernel_rfl) (by rfl) (fun w1 => ?_) ?_
    · simp only [pk, nthSp, lexVals]
      first | (go_simp; done) | (go_simp; exact fun h => by cases h)
    refine lx_no [(0, 12), (2, 10)] 10 (by kernel_rfl) rfl (by kernel_rfl) (by rfl) (fun w1 => ?_) ?_
    · simp only [pk, nthSp, lexVals]
      first | (go_simp; done) | (go_simp; exact fun h => by cases h)
    refine lx_no [(3, 10)] 10 (by kernel_rfl) rfl (by kernel_rfl) (by rfl) (fun w1 => ?_) ?_
    · simp only [pk, nthSp, lexVals]
      first | (go_simp; done) | (go_simp; exact fun h => by cases h)
    refine lx_no [(0, 14), (4, 10)] 10 (by kernel_rfl) rfl (by kernel_rfl) (by rfl) (fun w1 => ?_) ?_
    · simp only [pk, nthSp, lexVals]
      first | (go_simp; done) | (go_simp; exact fun h => by cases h)
    refine lx_no [(0, 15), (5, 10)] 10 (by kernel_rfl) rfl (by kernel_rfl) (by rfl) (fun w1 => ?_) ?_
    · simp only [pk, nthSp, lexVals]
      first | (go_simp; done) | (go_simp; exact fun h => by cases h)
    refine lx_no [(3, 13), (0, 16), (6, 10)] 10 (by kernel_rfl) rfl (by kernel_rfl) (by rfl) (fun w1 => ?_) ?_
    · simp only [pk, nthSp, lexVals]
      first | (go_simp; done) | (go_simp; exact fun h => by cases h)
    refine lx_e (.bool false) [(7, 10), (0, 17)] (by kernel_rfl) rfl (by rfl) (fun w1 hw1 => ?_) ?_
    · simp only [pk, nthSp, lexVals]
      go_simp
      exact ⟨Ext.refl _, rfl⟩
    refine lx_e (.bool false) [(0, 18)] (by kernel_rfl) rfl (by rfl) (fun w1 hw1 => ?_) ?_
    · simp only [pk, nthSp, lexVals]
      go_simp
      exact ⟨Ext.refl _, rfl⟩
    refine lx_stopA (by rfl) fun w7 hw7 => ?_
    have HE7 := Lib.hid (HE2.out.trans (HX.out w7 hw7))
    clear hw7
    simp only [rv, pf, lexVals]
    simp only [Act.put, List.setIfInBounds_toArray, List.set_cons_zero, List.set_cons_succ]
    go_wp2
    go_ret
    exact ⟨by first | rfl | simp, HE7.out⟩

end Go.Proofs.YtihlpfdhallfpaaDoor
