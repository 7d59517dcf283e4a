/-
  The walk of jalousielaw15.ProofTurns: it answers true. Asked: the tables lie as the text lays them.
-/
import Derived.Test.YtpiebfhcfkncoaaDoorCoded
import Derived.Test.YtpiebfhcfkncoaaDoorRefCk
namespace Go.Proofs.YtpiebfhcfkncoaaDoor
open Go.ChangeShapes Go.WideShapes Go.ChangeAt Go.RowKit

/-- A proof of two headers. -/
def prK (k : Int) (x y : HT) : Pr := ⟨k, x, y, 0, 0, 0, none, 0, 0, []⟩
theorem prK_at {w : World} {k : Int} {x y : HT} (hk : -9223372036854775808 ≤ k ∧ k ≤ 9223372036854775807) (hx : HtAt w x) (hy : HtAt w y) : PrAt w (prK k x y) :=
  ⟨hk, hx, hy, by show (-9223372036854775808 : Int) ≤ 0 ∧ (0 : Int) ≤ _; omega, by show (0 : Int) ≤ 0 ∧ (0 : Int) < _; omega, by show (0 : Int) ≤ 0 ∧ (0 : Int) < _; omega, TsAt.none_ w⟩
set_option maxRecDepth 100000 in
theorem zero_prZ (w : World) : (zeroValue 35).run Tryd.prog w = .ok (.agg (prV (prZ 0))) w := by kernel_rfl
set_option maxRecDepth 100000 in
theorem build_prK0 (w : World) (f h : Nat → Value) : (Instr.build 35 #[(0, .int .i64 1), (1, .agg (rowArr 125 f)), (2, .agg (rowArr 125 h))]).run Tryd.prog w = .ok (.agg (rowArr 255 fun i => if i < 1 then .int .i64 1 else if i < 126 then f (i - 1) else if i < 251 then h (i - 126) else if i < 252 then .int .i64 0 else if i < 253 then .int .u64 0 else if i < 254 then .int .u64 0 else .slice none 0 0)) w := by kernel_rfl
theorem build_prK (w : World) (x y : HT) : (Instr.build 35 #[(0, .int .i64 1), (1, .agg (hdV x.1)), (2, .agg (hdV y.1))]).run Tryd.prog w = .ok (.agg (prV (prK 1 x y))) w := build_prK0 w (hdC x.1) (hdC y.1)
theorem wp_build_prK {ops : Array Oper} {Q : Exit → Act → World → Prop} {rest : List Oper} {o : Oper} {a : Act} {w : World} (hw : Region.wanted o (yielded ops a.tmps) = true) (x0 x1 x2 : Operand) (ho : o.op = .build 35 #[(0, x0), (1, x1), (2, x2)])
    (x y : HT) (h0 : a.eval x0 = .int .i64 1) (h1 : a.eval x1 = .agg (hdV x.1)) (h2 : a.eval x2 = .agg (hdV y.1)) (A : Array Value) (hA : prV (prK 1 x y) = A)
    (h : wpList Tryd.prog ops Q rest (a.put o.dst (.agg A)) w) : wpList Tryd.prog ops Q (o :: rest) a w := by
  subst hA
  refine wpList_want hw fun K hK => ?_
  unfold Oper.wp execOp
  simp only [ho, List.map_toArray, List.map_cons, List.map_nil, h0, h1, h2, Sem.run_bind, build_prK, Result.andThen_ok, Sem.run_pure]
  exact hK _ _ h
theorem lu_build_prK {w : World} {o : Oper} {ev : Operand → Value} {x0 x1 x2 : Operand} {x y : HT} {A : Array Value} (ho : o.op = .build 35 #[(0, x0), (1, x1), (2, x2)]) (h0 : ev x0 = .int .i64 1) (h1 : ev x1 = .agg (hdV x.1)) (h2 : ev x2 = .agg (hdV y.1)) (hA : prV (prK 1 x y) = A) :
    lexUpon Tryd.prog w (.ex (.agg A)) ((execOp ev o).run Tryd.prog w) := by
  subst hA
  have hb := build_prK w x y
  simp only [execOp, ho, List.map_toArray, List.map_cons, List.map_nil, h0, h1, h2, Sem.run_bind, hb, Result.andThen_ok, Sem.run_pure]
  exact ⟨Ext.refl _, rfl⟩

theorem sameB_comm {x y : HT} {w : World} (hx : HtAt w x) (hy : HtAt w y) : sameB x.1 y.1 x.2 y.2 = sameB y.1 x.1 y.2 x.2 := by
  rw [Bool.eq_iff_iff, sameB_iff hx.toks.len hy.toks.len, sameB_iff hy.toks.len hx.toks.len]
  exact ⟨fun h => h.symm, fun h => h.symm⟩
theorem sameB_self {x : HT} {w : World} (hx : HtAt w x) : sameB x.1 x.1 x.2 x.2 = true :=
  (sameB_iff hx.toks.len hx.toks.len).2 ⟨rfl, rfl, fun _ _ => rfl, rfl, rfl, rfl, fun _ _ => rfl, rfl, fun _ _ _ _ => rfl, fun _ _ => rfl, fun _ _ => rfl, rfl, fun _ _ => rfl⟩
theorem prB_prK (x y : HT) : prB (prK 1 x y) = (hdB x.1 x.2 && hdB y.1 y.2) := by
  unfold prB
  rw [if_pos (.inl rfl)]
  show (hdB x.1 x.2 && hdB y.1 y.2 && noneB (prK 1 x y) && decide (0 = 0)) = _
  rw [show noneB (prK 1 x y) = true from by unfold noneB; simp [prK]]
  simp
/-- A fork is one whichever of both comes first. -/
theorem chk_swap {R : Rt} {r : Rg} {x y : HT} {w : World} (hx : HtAt w x) (hy : HtAt w y) : chkB R r (prK 1 x y) = chkB R r (prK 1 y x) := by
  have hb : prB (prK 1 x y) = prB (prK 1 y x) := by rw [prB_prK, prB_prK, Bool.and_comm]
  cases hf : prB (prK 1 x y) with
  | false => rw [chk_no hf, chk_no (by rw [← hb]; exact hf)]
  | true =>
    rw [chk_1 hf rfl, chk_1 (by rw [← hb]; exact hf) rfl]
    show (decide (x.1.writer = y.1.writer) && (decide (x.1.seq = y.1.seq) && (!sameB x.1 y.1 x.2 y.2 && (rightO R (keyO r x.1) x.1 x.2 && rightO R (keyO r y.1) y.1 y.2)))) = (decide (y.1.writer = x.1.writer) && (decide (y.1.seq = x.1.seq) && (!sameB y.1 x.1 y.2 x.2 && (rightO R (keyO r y.1) y.1 y.2 && rightO R (keyO r x.1) x.1 x.2))))
    rw [sameB_comm hx hy, Bool.and_comm (rightO R (keyO r x.1) x.1 x.2), show decide (x.1.writer = y.1.writer) = decide (y.1.writer = x.1.writer) from decide_eq_decide.2 eq_comm, show decide (x.1.seq = y.1.seq) = decide (y.1.seq = x.1.seq) from decide_eq_decide.2 eq_comm]
/-- No header forks with itself. -/
theorem chk_self {R : Rt} {r : Rg} {x : HT} {w : World} (hx : HtAt w x) : chkB R r (prK 1 x x) = false := by
  cases hf : prB (prK 1 x x) with
  | false => exact chk_no hf
  | true =>
    rw [chk_1 hf rfl]
    show (decide (x.1.writer = x.1.writer) && (decide (x.1.seq = x.1.seq) && (!sameB x.1 x.1 x.2 x.2 && _))) = false
    rw [sameB_self hx]
    simp

set_option maxHeartbeats 8000000 in
set_option maxRecDepth 100000 in
theorem lawTurns_any (r : Rg) (p : Pr) (w : World) (hr : RgAt w r) (hp : PrAt w p) (hk : KsAt 1 w) (hk2 : KsAt 0 w) :
    Calls Tryd.prog 3 #[.agg (rgV r), .agg (prV p)] w fun e w' => e = .returned (.bool true) ∧ Ext w w' := by
  obtain ⟨w2, hw2, hE2, hR2, hB2⟩ := tok_box' w (rgV r) (prV p) 26 35
  obtain ⟨g, hg⟩ : ∃ g, w.heap.size = g := ⟨_, rfl⟩
  rw [hg] at hR2 hB2
  have hz := zero_prZ
  have hz3 := zero_h32
  have Hg := Lib.hid hg
  have Hw2 := Lib.hid hw2
  have HE0 := Lib.hid hE2
  have HR2 := Lib.hid hR2
  have HB2 := Lib.hid hB2
  have Hsr := Lib.hid (rgV_size r)
  have Hsp := Lib.hid (prV_size p)
  have HRg := Lib.hid (fun x (hx : Ext w2 x) => hr.ext (hE2.trans hx))
  have HK := Lib.hid (fun x (hx : Ext w2 x) => hk.ext' (hE2.trans hx))
  have HW := Lib.hid (fun x (hx : Ext w2 x) => hk2.ext' (hE2.trans hx))
  have HN := Lib.hid (fun x (hx : Ext w2 x) => boxNew_any (fun _ => 0) (fun _ _ => by show (0 : Int) ≤ 0 ∧ (0 : Int) < 256; omega) x (hk.ext' (hE2.trans hx)))
  have HFw := Lib.hid (fun x (hx : Ext w2 x) => few15r_any p r x (hp.ext (hE2.trans hx)) (hr.ext (hE2.trans hx)))
  have HCa := Lib.hid (fun x (hx : Ext w2 x) => coded_any r p.a.1 p.a.2 x (hr.ext (hE2.trans hx)) hp.a.ok (hp.a.toks.ext (hE2.trans hx)) (hk.ext' (hE2.trans hx)))
  have HCb := Lib.hid (fun x (hx : Ext w2 x) => coded_any r p.b.1 p.b.2 x (hr.ext (hE2.trans hx)) hp.b.ok (hp.b.toks.ext (hE2.trans hx)) (hk.ext' (hE2.trans hx)))
  have HXA := Lib.hid (fun x (hx : Ext w2 x) => codedH_at (r := r) (hp.a.ext (hE2.trans hx)))
  have HXB := Lib.hid (fun x (hx : Ext w2 x) => codedH_at (r := r) (hp.b.ext (hE2.trans hx)))
  obtain ⟨XA, hXA⟩ : ∃ x, codedH r p.a = x := ⟨_, rfl⟩
  obtain ⟨XB, hXB⟩ : ∃ x, codedH r p.b = x := ⟨_, rfl⟩
  rw [show codedH r (p.a.1, p.a.2) = XA from hXA] at HCa
  rw [show codedH r (p.b.1, p.b.2) = XB from hXB] at HCb
  rw [hXA] at HXA
  rw [hXB] at HXB
  obtain ⟨RV, hRV⟩ : ∃ A, rgV r = A := ⟨_, rfl⟩
  have HRV := Lib.hid hRV
  rw [hRV] at HR2 Hsr Hw2 HFw HCa HCb ⊢
  obtain ⟨PV, hPV⟩ : ∃ A, prV p = A := ⟨_, rfl⟩
  have HBP := Lib.hid HB2.out
  rw [hPV] at HBP Hsp Hw2 HFw ⊢
  clear hw2 hE2 hR2 hB2 hg hr hp hk hk2 hXA hXB hRV hPV
  go_enter Tryd.func3, Tryd.ntmps3
  go_upto_region 1 with (fail)
  refine wp_world (w' := w2) Hw2.out ?_
  rw [Hg.out]
  clear Hw2
  go_wp2_with fail
  refine (awake15_any w2).mono ?_
  rintro e w3 ⟨rfl, hE⟩
  have HE := Lib.hid hE
  clear hE
  go_wp2_with (first | (refine wpList_load_rowW rfl 26 _ rfl g rfl _ _ _ _ (HE.out.keep HR2.out) Tryd.underlying26 rfl (by rw [Hsr.out]; kernel_rfl) ?_) | (refine wpList_load_rowW rfl 35 _ rfl (g + 1) rfl _ _ _ _ (HE.out.keep HBP.out) Tryd.underlying35 rfl (by rw [Hsp.out]; kernel_rfl) ?_))
  refine (HFw.out w3 HE.out).mono ?_
  rintro e w4 ⟨⟨v, rfl⟩, hE⟩
  have HE := Lib.hid (HE.out.trans hE)
  clear hE HFw
  cases v with
  | false =>
    go_wp2_with fail
    refine (awake15_any w4).mono ?_
    rintro e w5 ⟨rfl, hE⟩
    have HE := Lib.hid (HE.out.trans hE)
    clear hE
    go_wp2
    go_ret
    exact ⟨rfl, HE0.out.trans HE.out⟩
  | true =>
  go_wp2_with fail
  refine (HN.out w4 HE.out).mono ?_
  rintro e w5 ⟨gb, rfl, hgb, hE⟩
  have HE := Lib.hid (HE.out.trans hE)
  have HRt := Lib.hid (rightIs_real hgb (HK.out w5 HE.out))
  clear hE hgb HN
  go_upto_region 4 with (fail)
  have HR7 := Lib.hid (HE.out.keep HR2.out)
  have HB7 := Lib.hid (HE.out.keep HB2.out)
  obtain ⟨S7, hS7⟩ : ∃ x, w5.heap.size = x := ⟨_, rfl⟩
  have HS7 := Lib.hid hS7
  have hS72 := Below.size HE.out
  rw [hS7] at hS72
  have Hsa := Lib.hid (prV_size (prK 1 XA XB))
  have Hsb := Lib.hid (prV_size (prK 1 XB XA))
  have Hsc := Lib.hid (prV_size (prK 1 XA XA))
  have Hoa := Lib.hid (prV_one (prK 1 XA XB))
  have Hob := Lib.hid (prV_one (prK 1 XB XA))
  have Hoc := Lib.hid (prV_one (prK 1 XA XA))
  obtain ⟨PVa, hPa⟩ : ∃ x, prV (prK 1 XA XB) = x := ⟨_, rfl⟩
  obtain ⟨PVb, hPb⟩ : ∃ x, prV (prK 1 XB XA) = x := ⟨_, rfl⟩
  obtain ⟨PVc, hPc⟩ : ∃ x, prV (prK 1 XA XA) = x := ⟨_, rfl⟩
  obtain ⟨PVz, hPz⟩ : ∃ x, prV (prZ 0) = x := ⟨_, rfl⟩
  have Hsz := Lib.hid (prV_size (prZ 0))
  have HPa := Lib.hid hPa
  have HPb := Lib.hid hPb
  have HPc := Lib.hid hPc
  have HPz := Lib.hid hPz
  rw [hPa] at Hsa Hoa
  rw [hPb] at Hsb Hob
  rw [hPc] at Hsc Hoc
  rw [hPz] at Hsz hz
  clear hPa hPb hPc hPz hS7
  have HX := Lib.hid (show ∀ x, Ext w5.drew x → Ext w5 x from fun x hx => Ext.trans (Ext.refl w5).drew hx)
  refine wp_region_lexT 10 (by kernel_rfl) (by kernel_rfl) ?_
  simp only [List.take_succ_cons, List.take_zero, List.drop_succ_cons, List.drop_zero]
  refine lx_e (.agg RV) [] (by kernel_rfl) rfl (by rfl) (fun w1 hw1 => ?_) ?_
  · simp only [pk, lexVals]
    exact lu_row rfl rfl ((HX.out w1 hw1).keep HR7.out) Tryd.underlying26 rfl (by rw [Hsr.out]; kernel_rfl)
  refine lx_e (.pointer (some ⟨g + 1, 1, none⟩)) [] (by kernel_rfl) rfl (by rfl) (fun w1 hw1 => ?_) ?_
  · simp only [pk, lexVals]
    go_simp
    exact ⟨Ext.refl _, rfl⟩
  refine lx_e (.agg (hdV p.a.1)) [(0, 21)] (by kernel_rfl) rfl (by rfl) (fun w1 hw1 => ?_) ?_
  · simp only [pk, nthSp, lexVals]
    exact lu_hmid rfl rfl (pr_ra ((HX.out w1 hw1).keep HB7.out))
  refine lx_e (.agg (hdV XA.1)) [(2, 20), (0, 22)] (by kernel_rfl) rfl (by rfl) (fun w1 hw1 => ?_) ?_
  · simp only [pk, nthSp, lexVals]
    have hm := HCa.out w1 (HE.out.trans (HX.out w1 hw1))
    have HM := Lib.hid hm
    clear hm hw1
    go_simp
    refine HM.out.mono ?_
    rintro e w2 ⟨rfl, hE2⟩
    exact ⟨_, rfl, hE2, rfl⟩
  refine lx_e (.agg RV) [] (by kernel_rfl) rfl (by rfl) (fun w1 hw1 => ?_) ?_
  · simp only [pk, lexVals]
    exact lu_row rfl rfl ((HX.out w1 hw1).keep HR7.out) Tryd.underlying26 rfl (by rw [Hsr.out]; kernel_rfl)
  refine lx_e (.pointer (some ⟨g + 1, 126, none⟩)) [] (by kernel_rfl) rfl (by rfl) (fun w1 hw1 => ?_) ?_
  · simp only [pk, lexVals]
    go_simp
    exact ⟨Ext.refl _, rfl⟩
  refine lx_e (.agg (hdV p.b.1)) [(0, 25)] (by kernel_rfl) rfl (by rfl) (fun w1 hw1 => ?_) ?_
  · simp only [pk, nthSp, lexVals]
    exact lu_hmid rfl rfl (pr_rb ((HX.out w1 hw1).keep HB7.out))
  refine lx_e (.agg (hdV XB.1)) [(2, 24), (0, 26)] (by kernel_rfl) rfl (by rfl) (fun w1 hw1 => ?_) ?_
  · simp only [pk, nthSp, lexVals]
    have hm := HCb.out w1 (HE.out.trans (HX.out w1 hw1))
    have HM := Lib.hid hm
    clear hm hw1
    go_simp
    refine HM.out.mono ?_
    rintro e w2 ⟨rfl, hE2⟩
    exact ⟨_, rfl, hE2, rfl⟩
  refine lx_e (.agg PVa) [(4, 23), (0, 27)] (by kernel_rfl) rfl (by rfl) (fun w1 hw1 => ?_) ?_
  · simp only [pk, nthSp, lexVals]
    exact lu_build_prK rfl rfl rfl rfl HPa.out
  refine lx_a (fun u w => ∃ y, u = .pointer (some ⟨y, 0, none⟩) ∧ S7 ≤ y ∧ w.heap[y]? = some (.cells PVz 35 (0, 0))) [] (by kernel_rfl) rfl (by rfl) (fun u w w' he ⟨y, h1, h2, h3⟩ => ⟨y, h1, h2, he.keep h3⟩) (fun w1 hw1 => ?_) ?_
  · simp only [pk, lexVals]
    have hl := Below.size (HX.out w1 hw1)
    rw [HS7.out] at hl
    have hz := zero_prZ
    rw [HPz.out] at hz
    clear hw1
    go_simp
    exact ⟨(Ext.refl w1).alloc _, _, rfl, hl, heap_new w1 _ _ rfl⟩
  refine lx_stopT (by rfl) (by decide) fun w7 hw7 => ?_
  have HE7 := Lib.hid (HE.out.trans (HX.out w7 hw7))
  have HE57 := Lib.hid (HX.out w7 hw7)
  clear hw7 HX HR7 HB7 HCa HCb
  simp only [rv, pf, lexVals, List.drop_succ_cons, List.drop_zero]
  rintro v2 ⟨y, rfl, hy, hN7⟩
  have HN7 := Lib.hid hN7
  simp only [Act.put, List.setIfInBounds_toArray, List.set_cons_zero, List.set_cons_succ]
  go_upto_region 5 with (refine wpList_store_row rfl 35 _ _ rfl y _ rfl rfl _ _ HN7.out (by rw [Hsa.out]; kernel_rfl) (by rw [Hsa.out, Hsz.out]) Hoa.out ?_)
  obtain ⟨w9, hw9⟩ : ∃ x, w7.setRow y PVa = x := ⟨_, rfl⟩
  have hA9 : w9.heap[y]? = some (.cells PVa 35 (0, 0)) := by rw [← hw9]; exact setRow_heap w7 y _ _ _ _ HN7.out
  have HE29 := Lib.hid (show Ext w2 w9 by rw [← hw9]; exact below_setRow HE7.out (Nat.le_trans hS72 hy) _)
  have HE59 := Lib.hid (show Ext w5 w9 by rw [← hw9]; exact below_setRow HE57.out (by rw [HS7.out]; exact hy) _)
  have hA9' : w9.heap[y]? = some (.cells (prV (prK 1 XA XB)) 35 (0, 0)) := by rw [HPa.out]; exact hA9
  have HrA := Lib.hid (show ∀ x, Ext w9 x → x.rangeAt y 1 (hdL XA.1) from fun x hx => pr_ra (hx.keep hA9'))
  have HrB := Lib.hid (show ∀ x, Ext w9 x → x.rangeAt y 126 (hdL XB.1) from fun x hx => pr_rb (hx.keep hA9'))
  have HA9 := Lib.hid hA9
  refine wp_world (w' := w9) hw9 ?_
  clear hw9 hA9 hA9' hN7 HN7 HE7 HE57 hy hS72 HS7
  have HrA0 := Lib.hid (HrA.out w9 (Ext.refl _))
  have HrB0 := Lib.hid (HrB.out w9 (Ext.refl _))
  go_upto_region 6 with (first | (refine wp_hmid rfl _ rfl y 1 XA.1 rfl HrA0.out ?_) | (refine wp_hmid rfl _ rfl y 126 XB.1 rfl HrB0.out ?_) | (refine wp_build_prK rfl _ _ _ rfl XB XA rfl rfl rfl PVb HPb.out ?_) | (refine wpList_store_row rfl 35 _ _ rfl w9.heap.size _ rfl rfl _ _ (heap_new w9 _ _ rfl) (by rw [Hsb.out]; kernel_rfl) (by rw [Hsb.out, Hsz.out]) Hob.out ?_; rw [setRow_new w9 _ _ _ _ rfl]))
  obtain ⟨w10, hw10⟩ : ∃ x, w9.alloc (.cells PVb 35) = x := ⟨_, rfl⟩
  obtain ⟨z1, hz1⟩ : ∃ x, w9.heap.size = x := ⟨_, rfl⟩
  have HB10 := Lib.hid (show w10.heap[z1]? = some (.cells PVb 35 (0, 0)) by rw [← hw10]; exact heap_new w9 _ _ hz1.symm)
  have HE10 := Lib.hid (show Ext w9 w10 by rw [← hw10]; exact (Ext.refl w9).alloc _)
  refine wp_world (w' := w10) hw10 ?_
  rw [hz1]
  clear hw10 hz1
  have HrA1 := Lib.hid (HrA.out w10 HE10.out)
  clear HrA0 HrB0
  go_upto_region 7 with (first | (refine wp_hmid rfl _ rfl y 1 XA.1 rfl HrA1.out ?_) | (refine wp_build_prK rfl _ _ _ rfl XA XA rfl rfl rfl PVc HPc.out ?_) | (refine wpList_store_row rfl 35 _ _ rfl w10.heap.size _ rfl rfl _ _ (heap_new w10 _ _ rfl) (by rw [Hsc.out]; kernel_rfl) (by rw [Hsc.out, Hsz.out]) Hoc.out ?_; rw [setRow_new w10 _ _ _ _ rfl]))
  obtain ⟨w11, hw11⟩ : ∃ x, w10.alloc (.cells PVc 35) = x := ⟨_, rfl⟩
  obtain ⟨z2, hz2⟩ : ∃ x, w10.heap.size = x := ⟨_, rfl⟩
  have HC9 := Lib.hid (show w11.heap[z2]? = some (.cells PVc 35 (0, 0)) by rw [← hw11]; exact heap_new w10 _ _ hz2.symm)
  have hE11 : Ext w10 w11 := by rw [← hw11]; exact (Ext.refl w10).alloc _
  have HB9 := Lib.hid (hE11.keep HB10.out)
  have HA9 := Lib.hid ((HE10.out.trans hE11).keep HA9.out)
  have HE2 := Lib.hid (HE29.out.trans (HE10.out.trans hE11))
  have HR7 := Lib.hid (HE2.out.keep HR2.out)
  have hrt : RightIs gb realR w11 := HRt.out.ext (HE59.out.trans (HE10.out.trans hE11))
  refine wp_world (w' := w11) hw11 ?_
  rw [hz2]
  have hA := fun x (hx : Ext w11 x) => prCheck_any gb realR r (prK 1 XA XB) x (HRg.out x (HE2.out.trans hx)) (prK_at (by omega) (HXA.out x (HE2.out.trans hx)) (HXB.out x (HE2.out.trans hx))) (hrt.ext hx) (HK.out x (HE2.out.trans hx))
  have hB := fun x (hx : Ext w11 x) => prCheck_any gb realR r (prK 1 XB XA) x (HRg.out x (HE2.out.trans hx)) (prK_at (by omega) (HXB.out x (HE2.out.trans hx)) (HXA.out x (HE2.out.trans hx))) (hrt.ext hx) (HK.out x (HE2.out.trans hx))
  have hC := fun x (hx : Ext w11 x) => prCheck_any gb realR r (prK 1 XA XA) x (HRg.out x (HE2.out.trans hx)) (prK_at (by omega) (HXA.out x (HE2.out.trans hx)) (HXA.out x (HE2.out.trans hx))) (hrt.ext hx) (HK.out x (HE2.out.trans hx))
  have hD := fun x (hx : Ext w11 x) => ref15Check_any r (prK 1 XA XB) x (HRg.out x (HE2.out.trans hx)) (prK_at (by omega) (HXA.out x (HE2.out.trans hx)) (HXB.out x (HE2.out.trans hx))) (HW.out x (HE2.out.trans hx))
  rw [← chk_swap (HXA.out w2 (Ext.refl _)) (HXB.out w2 (Ext.refl _)), HRV.out, HPb.out] at hB
  rw [chk_self (HXA.out w2 (Ext.refl _)), HRV.out, HPc.out] at hC
  rw [HRV.out, HPa.out] at hA hD
  obtain ⟨C, hCC⟩ : ∃ x, chkB realR r (prK 1 XA XB) = x := ⟨_, rfl⟩
  rw [hCC] at hA hB hD
  have HKa := Lib.hid hA
  have HKb := Lib.hid hB
  have HKc := Lib.hid hC
  have HKr := Lib.hid hD
  have HX := Lib.hid (show ∀ x, Ext w11.drew x → Ext w11 x from fun x hx => Ext.trans (Ext.refl w11).drew hx)
  clear hw11 hz2 hE11 HB10 HrA1 hrt hA hB hC hD hCC
  refine wp_region_lexA (by kernel_rfl) (by kernel_rfl) ?_
  refine lx_e (.pointer (some ⟨gb, 0, none⟩)) [] (by kernel_rfl) rfl (by rfl) (fun w1 hw1 => ?_) ?_
  · simp only [pk, lexVals]
    go_simp
    exact ⟨Ext.refl _, rfl⟩
  refine lx_e (.agg RV) [] (by kernel_rfl) rfl (by rfl) (fun w1 hw1 => ?_) ?_
  · simp only [pk, lexVals]
    exact lu_row rfl rfl ((HX.out w1 hw1).keep HR7.out) Tryd.underlying26 rfl (by rw [Hsr.out]; kernel_rfl)
  refine lx_e (.agg PVa) [] (by kernel_rfl) rfl (by rfl) (fun w1 hw1 => ?_) ?_
  · simp only [pk, lexVals]
    exact lu_row rfl rfl ((HX.out w1 hw1).keep HA9.out) Tryd.underlying35 rfl (by rw [Hsa.out]; kernel_rfl)
  refine lx_e (.bool C) [(2, 39), (1, 40), (0, 41)] (by kernel_rfl) rfl (by rfl) (fun w1 hw1 => ?_) ?_
  · simp only [pk, nthSp, lexVals]
    have hm := HKa.out w1 (HX.out w1 hw1)
    have HM := Lib.hid hm
    clear hm hw1
    go_simp
    refine HM.out.mono ?_
    rintro e w2 ⟨rfl, hE2⟩
    exact ⟨_, rfl, hE2, rfl⟩
  refine lx_e (.pointer (some ⟨gb, 0, none⟩)) [] (by kernel_rfl) rfl (by rfl) (fun w1 hw1 => ?_) ?_
  · simp only [pk, lexVals]
    go_simp
    exact ⟨Ext.refl _, rfl⟩
  refine lx_e (.agg RV) [] (by kernel_rfl) rfl (by rfl) (fun w1 hw1 => ?_) ?_
  · simp only [pk, lexVals]
    exact lu_row rfl rfl ((HX.out w1 hw1).keep HR7.out) Tryd.underlying26 rfl (by rw [Hsr.out]; kernel_rfl)
  refine lx_e (.agg PVb) [] (by kernel_rfl) rfl (by rfl) (fun w1 hw1 => ?_) ?_
  · simp only [pk, lexVals]
    exact lu_row rfl rfl ((HX.out w1 hw1).keep HB9.out) Tryd.underlying35 rfl (by rw [Hsb.out]; kernel_rfl)
  refine lx_e (.bool C) [(2, 43), (1, 44), (0, 45)] (by kernel_rfl) rfl (by rfl) (fun w1 hw1 => ?_) ?_
  · simp only [pk, nthSp, lexVals]
    have hm := HKb.out w1 (HX.out w1 hw1)
    have HM := Lib.hid hm
    clear hm hw1
    go_simp
    refine HM.out.mono ?_
    rintro e w2 ⟨rfl, hE2⟩
    exact ⟨_, rfl, hE2, rfl⟩
  refine lx_e (.bool true) [(4, 42), (0, 46)] (by kernel_rfl) rfl (by rfl) (fun w1 hw1 => ?_) ?_
  · simp only [pk, nthSp, lexVals]
    go_simp
    exact ⟨Ext.refl _, by first | rfl | simp⟩
  refine lx_e (.bool true) [(0, 47)] (by kernel_rfl) rfl (by rfl) (fun w1 hw1 => ?_) ?_
  · simp only [pk, nthSp, lexVals]
    go_simp
    exact ⟨Ext.refl _, rfl⟩
  refine lx_ge (.pointer (some ⟨gb, 0, none⟩)) [(0, 48)] 48 (by kernel_rfl) rfl (by kernel_rfl) (by rfl) (fun w1 => ?_) (fun w1 hw1 => ?_) ?_
  · simp only [pk, nthSp, lexVals]
    rfl
  · simp only [pk, nthSp, lexVals]
    go_simp
    exact ⟨Ext.refl _, rfl⟩
  refine lx_ge (.agg RV) [(1, 48)] 48 (by kernel_rfl) rfl (by kernel_rfl) (by rfl) (fun w1 => ?_) (fun w1 hw1 => ?_) ?_
  · simp only [pk, nthSp, lexVals]
    rfl
  · simp only [pk, nthSp, lexVals]
    exact lu_row rfl rfl ((HX.out w1 hw1).keep HR7.out) Tryd.underlying26 rfl (by rw [Hsr.out]; kernel_rfl)
  refine lx_ge (.agg PVc) [(2, 48)] 48 (by kernel_rfl) rfl (by kernel_rfl) (by rfl) (fun w1 => ?_) (fun w1 hw1 => ?_) ?_
  · simp only [pk, nthSp, lexVals]
    rfl
  · simp only [pk, nthSp, lexVals]
    exact lu_row rfl rfl ((HX.out w1 hw1).keep HC9.out) Tryd.underlying35 rfl (by rw [Hsc.out]; kernel_rfl)
  refine lx_ge (.bool false) [(2, 49), (1, 50), (0, 51), (3, 48)] 48 (by kernel_rfl) rfl (by kernel_rfl) (by rfl) (fun w1 => ?_) (fun w1 hw1 => ?_) ?_
  · simp only [pk, nthSp, lexVals]
    rfl
  · simp only [pk, nthSp, lexVals]
    have hm := HKc.out w1 (HX.out w1 hw1)
    have HM := Lib.hid hm
    clear hm hw1
    go_simp
    refine HM.out.mono ?_
    rintro e w2 ⟨rfl, hE2⟩
    exact ⟨_, rfl, hE2, rfl⟩
  refine lx_ge (.bool true) [(0, 52), (4, 48)] 48 (by kernel_rfl) rfl (by kernel_rfl) (by rfl) (fun w1 => ?_) (fun w1 hw1 => ?_) ?_
  · simp only [pk, nthSp, lexVals]
    rfl
  · simp only [pk, nthSp, lexVals]
    go_simp
    exact ⟨Ext.refl _, rfl⟩
  refine lx_e (.bool true) [(5, 48), (0, 53)] (by kernel_rfl) rfl (by rfl) (fun w1 hw1 => ?_) ?_
  · simp only [pk, nthSp, lexVals]
    go_simp
    exact ⟨Ext.refl _, rfl⟩
  refine lx_e (.bool true) [(0, 54)] (by kernel_rfl) rfl (by rfl) (fun w1 hw1 => ?_) ?_
  · simp only [pk, nthSp, lexVals]
    go_simp
    exact ⟨Ext.refl _, rfl⟩
  refine lx_ge (.pointer (some ⟨gb, 0, none⟩)) [(0, 55)] 55 (by kernel_rfl) rfl (by kernel_rfl) (by rfl) (fun w1 => ?_) (fun w1 hw1 => ?_) ?_
  · simp only [pk, nthSp, lexVals]
    rfl
  · simp only [pk, nthSp, lexVals]
    go_simp
    exact ⟨Ext.refl _, rfl⟩
  refine lx_ge (.agg RV) [(1, 55)] 55 (by kernel_rfl) rfl (by kernel_rfl) (by rfl) (fun w1 => ?_) (fun w1 hw1 => ?_) ?_
  · simp only [pk, nthSp, lexVals]
    rfl
  · simp only [pk, nthSp, lexVals]
    exact lu_row rfl rfl ((HX.out w1 hw1).keep HR7.out) Tryd.underlying26 rfl (by rw [Hsr.out]; kernel_rfl)
  refine lx_ge (.agg PVa) [(2, 55)] 55 (by kernel_rfl) rfl (by kernel_rfl) (by rfl) (fun w1 => ?_) (fun w1 hw1 => ?_) ?_
  · simp only [pk, nthSp, lexVals]
    rfl
  · simp only [pk, nthSp, lexVals]
    exact lu_row rfl rfl ((HX.out w1 hw1).keep HA9.out) Tryd.underlying35 rfl (by rw [Hsa.out]; kernel_rfl)
  refine lx_ge (.bool C) [(2, 56), (1, 57), (0, 58), (3, 55)] 55 (by kernel_rfl) rfl (by kernel_rfl) (by rfl) (fun w1 => ?_) (fun w1 hw1 => ?_) ?_
  · simp only [pk, nthSp, lexVals]
    rfl
  · simp only [pk, nthSp, lexVals]
    have hm := HKa.out w1 (HX.out w1 hw1)
    have HM := Lib.hid hm
    clear hm hw1
    go_simp
    refine HM.out.mono ?_
    rintro e w2 ⟨rfl, hE2⟩
    exact ⟨_, rfl, hE2, rfl⟩
  refine lx_ge (.agg RV) [(4, 55)] 55 (by kernel_rfl) rfl (by kernel_rfl) (by rfl) (fun w1 => ?_) (fun w1 hw1 => ?_) ?_
  · simp only [pk, nthSp, lexVals]
    rfl
  · simp only [pk, nthSp, lexVals]
    exact lu_row rfl rfl ((HX.out w1 hw1).keep HR7.out) Tryd.underlying26 rfl (by rw [Hsr.out]; kernel_rfl)
  refine lx_ge (.agg PVa) [(5, 55)] 55 (by kernel_rfl) rfl (by kernel_rfl) (by rfl) (fun w1 => ?_) (fun w1 hw1 => ?_) ?_
  · simp only [pk, nthSp, lexVals]
    rfl
  · simp only [pk, nthSp, lexVals]
    exact lu_row rfl rfl ((HX.out w1 hw1).keep HA9.out) Tryd.underlying35 rfl (by rw [Hsa.out]; kernel_rfl)
  refine lx_ge (.bool C) [(1, 60), (0, 61), (6, 55)] 55 (by kernel_rfl) rfl (by kernel_rfl) (by rfl) (fun w1 => ?_) (fun w1 hw1 => ?_) ?_
  · simp only [pk, nthSp, lexVals]
    rfl
  · simp only [pk, nthSp, lexVals]
    have hm := HKr.out w1 (HX.out w1 hw1)
    have HM := Lib.hid hm
    clear hm hw1
    go_simp
    refine HM.out.mono ?_
    rintro e w2 ⟨rfl, hE2⟩
    exact ⟨_, rfl, hE2, rfl⟩
  refine lx_ge (.bool true) [(3, 59), (0, 62), (7, 55)] 55 (by kernel_rfl) rfl (by kernel_rfl) (by rfl) (fun w1 => ?_) (fun w1 hw1 => ?_) ?_
  · simp only [pk, nthSp, lexVals]
    rfl
  · simp only [pk, nthSp, lexVals]
    go_simp
    exact ⟨Ext.refl _, by first | rfl | simp⟩
  refine lx_e (.bool true) [(8, 55), (0, 63)] (by kernel_rfl) rfl (by rfl) (fun w1 hw1 => ?_) ?_
  · simp only [pk, nthSp, lexVals]
    go_simp
    exact ⟨Ext.refl _, rfl⟩
  refine lx_e (.bool true) [(0, 64)] (by kernel_rfl) rfl (by rfl) (fun w1 hw1 => ?_) ?_
  · simp only [pk, nthSp, lexVals]
    go_simp
    exact ⟨Ext.refl _, rfl⟩
  refine lx_stopA (by rfl) fun w12 hw12 => ?_
  have HE12 := Lib.hid (HE0.out.trans (HE2.out.trans (HX.out w12 hw12)))
  clear hw12
  simp only [rv, pf, lexVals]
  simp only [Act.put, List.setIfInBounds_toArray, List.set_cons_zero, List.set_cons_succ]
  go_wp2
  go_ret
  exact ⟨rfl, HE12.out⟩

end Go.Proofs.YtpiebfhcfkncoaaDoor
