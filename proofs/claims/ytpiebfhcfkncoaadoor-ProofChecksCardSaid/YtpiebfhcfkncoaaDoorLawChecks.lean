/-
  The walk of jalousielaw15.ProofChecks: it answers true. Asked: the tables lie as the text lays them.
-/
import Derived.Test.YtpiebfhcfkncoaaDoorCoded
import Derived.Test.YtpiebfhcfkncoaaDoorRefCk
namespace Go.Proofs.YtpiebfhcfkncoaaDoor
open Go.ChangeShapes Go.WideShapes Go.ChangeAt Go.RowKit

/-- Two Booleans. -/
def b2C (b0 b1 : Bool) (i : Nat) : Value := if i < 1 then .bool b0 else .bool b1

set_option maxHeartbeats 16000000 in
set_option maxRecDepth 100000 in
theorem lawChecks_any (r : Rg) (p : Pr) (b0 b1 : Bool) (w : World) (hr : RgAt w r) (hp : PrAt w p) (hk : KsAt 1 w) (hk2 : KsAt 0 w) :
    Calls Tryd.prog 4 #[.agg (rgV r), .agg (prV p), .agg (rowArr 2 (b2C b0 b1))] w fun e w' => e = .returned (.bool true) ∧ Ext w w' := by
  obtain ⟨w2, hw2, hE2, hR2, hB2, hD2⟩ := box3 w (rgV r) (prV p) (rowArr 2 (b2C b0 b1)) 26 35 43
  obtain ⟨g, hg⟩ : ∃ g, w.heap.size = g := ⟨_, rfl⟩
  rw [hg] at hR2 hB2 hD2
  have hz3 := zero_h32
  have Hg := Lib.hid hg
  have Hw2 := Lib.hid hw2
  have HE := Lib.hid hE2
  have HR := Lib.hid hR2
  have HQ := Lib.hid hB2
  have HD2 := Lib.hid hD2
  have Hsr := Lib.hid (rgV_size r)
  have Hsp := Lib.hid (prV_size p)
  have HRg := Lib.hid (fun x (hx : Ext w x) => hr.ext hx)
  have HQA := Lib.hid (fun x (hx : Ext w x) => hp.ext hx)
  have HK := Lib.hid (fun x (hx : Ext w x) => hk.ext' hx)
  have HW := Lib.hid (fun x (hx : Ext w x) => hk2.ext' hx)
  have HN := Lib.hid (fun x (hx : Ext w x) => boxNew_any (fun _ => 0) (fun _ _ => by show (0 : Int) ≤ 0 ∧ (0 : Int) < 256; omega) x (hk.ext' hx))
  have HFw := Lib.hid (fun x (hx : Ext w x) => few15r_any p r x (hp.ext hx) (hr.ext hx))
  have HCa := Lib.hid (fun x (hx : Ext w x) => coded_any r p.a.1 p.a.2 x (hr.ext hx) hp.a.ok (hp.a.toks.ext hx) (hk.ext' hx))
  have HCb := Lib.hid (fun x (hx : Ext w x) => coded_any r p.b.1 p.b.2 x (hr.ext hx) hp.b.ok (hp.b.toks.ext hx) (hk.ext' hx))
  have HXA := Lib.hid (fun x (hx : Ext w x) => codedH_at (r := r) (hp.a.ext hx))
  have HXB := Lib.hid (fun x (hx : Ext w x) => codedH_at (r := r) (hp.b.ext hx))
  obtain ⟨XA, hXA⟩ : ∃ x, codedH r p.a = x := ⟨_, rfl⟩
  obtain ⟨XB, hXB⟩ : ∃ x, codedH r p.b = x := ⟨_, rfl⟩
  rw [show codedH r (p.a.1, p.a.2) = XA from hXA] at HCa
  rw [show codedH r (p.b.1, p.b.2) = XB from hXB] at HCb
  rw [hXA] at HXA
  rw [hXB] at HXB
  obtain ⟨RV, hRV⟩ : ∃ A, rgV r = A := ⟨_, rfl⟩
  have HRV := Lib.hid hRV
  rw [hRV] at HR Hsr Hw2 HFw HCa HCb ⊢
  obtain ⟨PV, hPV⟩ : ∃ A, prV p = A := ⟨_, rfl⟩
  have HBP := Lib.hid HQ.out
  rw [hPV] at HBP Hsp Hw2 HFw ⊢
  obtain ⟨BV, hBV⟩ : ∃ A, rowArr 2 (b2C b0 b1) = A := ⟨_, rfl⟩
  rw [hBV] at Hw2 ⊢
  have HBV := Lib.hid hBV
  clear hw2 hE2 hR2 hB2 hD2 hg hr hp hk hk2 hXA hXB hRV hPV hBV
  go_enter Tryd.func4, Tryd.ntmps4
  go_upto_region 1 with (fail)
  refine wp_world (w' := w2) Hw2.out ?_
  rw [Hg.out]
  clear Hw2
  go_wp2_with fail
  refine (awake15_any w2).mono ?_
  rintro e w3 ⟨rfl, hE⟩
  have HE := Lib.hid (HE.out.trans hE)
  have HR := Lib.hid (hE.keep HR.out)
  have HQ := Lib.hid (hE.keep HQ.out)
  have HBP := Lib.hid (hE.keep HBP.out)
  have HD2 := Lib.hid (hE.keep HD2.out)
  clear hE
  go_wp2_with (first | (refine wpList_load_rowW rfl 26 _ rfl g rfl _ _ _ _ HR.out Tryd.underlying26 rfl (by rw [Hsr.out]; kernel_rfl) ?_) | (refine wpList_load_rowW rfl 35 _ rfl (g + 1) rfl _ _ _ _ HBP.out Tryd.underlying35 rfl (by rw [Hsp.out]; kernel_rfl) ?_))
  refine (HFw.out w3 HE.out).mono ?_
  rintro e w4 ⟨⟨v, rfl⟩, hE⟩
  have HE := Lib.hid (HE.out.trans hE)
  have HR := Lib.hid (hE.keep HR.out)
  have HQ := Lib.hid (hE.keep HQ.out)
  have HD2 := Lib.hid (hE.keep HD2.out)
  clear hE HFw HBP Hsp
  cases v with
  | false =>
    go_wp2_with fail
    refine (awake15_any w4).mono ?_
    rintro e w5 ⟨rfl, hE⟩
    have HE := Lib.hid (HE.out.trans hE)
    clear hE
    go_wp2
    go_ret
    exact ⟨rfl, HE.out⟩
  | true =>
  obtain ⟨q, hq⟩ : ∃ x, p = x := ⟨_, rfl⟩
  have HQa := Lib.hid (show q.a = p.a by rw [hq])
  have HQb := Lib.hid (show q.b = p.b by rw [hq])
  have HQA := Lib.hid (show ∀ x, Ext w x → PrAt x q by rw [← hq]; exact HQA.out)
  have HQ := Lib.hid (show w4.heap[g + 1]? = some (.cells (prV q) 35 (0, 0)) by rw [← hq]; exact HQ.out)
  clear hq
  cases b0 with
  | false =>
    cases b1 with
    | false =>
      have c0 := (show w4.cell? ⟨g + 1 + 1, 0, none⟩ = some (.bool false) from row_cell HD2.out 0 (by omega))
      have c1 := (show w4.cell? ⟨g + 1 + 1, 1, none⟩ = some (.bool false) from row_cell HD2.out 1 (by omega))
      go_wp2_with fail
      clear c0 c1
      refine (HN.out w4 HE.out).mono ?_
      rintro e w5 ⟨gb, rfl, hgb, hE⟩
      have HE := Lib.hid (HE.out.trans hE)
      have hrt := rightIs_real hgb (HK.out w5 HE.out)
      have HR7 := Lib.hid (hE.keep HR.out)
      have HQ7 := Lib.hid (hE.keep HQ.out)
      have HrA := Lib.hid (show ∀ x, Ext w5 x → x.rangeAt (g + 1) 1 (hdL q.a.1) from fun x hx => pr_ra (hx.keep HQ7.out))
      have hA := fun x (hx : Ext w5 x) => prCheck_any gb realR r q x (HRg.out x (HE.out.trans hx)) (HQA.out x (HE.out.trans hx)) (hrt.ext hx) (HK.out x (HE.out.trans hx))
      have hB := fun x (hx : Ext w5 x) => ref15Check_any r q x (HRg.out x (HE.out.trans hx)) (HQA.out x (HE.out.trans hx)) (HW.out x (HE.out.trans hx))
      have hC := fun x (hx : Ext w5 x) => prRight_any gb realR r q.a.1 q.a.2 x (HRg.out x (HE.out.trans hx)) (HQA.out x (HE.out.trans hx)).a.ok (HQA.out x (HE.out.trans hx)).a.toks (hrt.ext hx) (HK.out x (HE.out.trans hx))
      have hD := fun x (hx : Ext w5 x) => ref15Right_any r q.a.1 q.a.2 x (HRg.out x (HE.out.trans hx)) (HQA.out x (HE.out.trans hx)).a.ok (HQA.out x (HE.out.trans hx)).a.toks (HW.out x (HE.out.trans hx))
      rw [HRV.out] at hA hB hC hD
      obtain ⟨C, hCC⟩ : ∃ x, chkB realR r q = x := ⟨_, rfl⟩
      obtain ⟨D, hDD⟩ : ∃ x, rightO realR (keyO r q.a.1) q.a.1 q.a.2 = x := ⟨_, rfl⟩
      have Hsq := Lib.hid (prV_size q)
      obtain ⟨QV, hQV⟩ : ∃ x, prV q = x := ⟨_, rfl⟩
      rw [hCC, hQV] at hA hB
      rw [hDD] at hC hD
      rw [hQV] at Hsq HQ7
      have HKa := Lib.hid hA
      have HKr := Lib.hid hB
      have HKc := Lib.hid hC
      have HKd := Lib.hid hD
      have HX := Lib.hid (show ∀ x, Ext w5.drew x → Ext w5 x from fun x hx => Ext.trans (Ext.refl w5).drew hx)
      clear hE hgb hrt hA hB hC hD hCC hDD hQV HR HQ HN HD2
      go_upto_region 8 with (fail)
      refine wp_region_lexA (by kernel_rfl) (by kernel_rfl) ?_
      refine lx_e (.pointer (some ⟨gb, 0, none⟩)) [] (by kernel_rfl) rfl (by rfl) (fun w1 hw1 => ?_) ?_
      · simp only [pk, lexVals]
        go_simp
        exact ⟨Ext.refl _, rfl⟩
      refine lx_e (.agg RV) [] (by kernel_rfl) rfl (by rfl) (fun w1 hw1 => ?_) ?_
      · simp only [pk, lexVals]
        exact lu_row rfl rfl ((HX.out w1 hw1).keep HR7.out) Tryd.underlying26 rfl (by rw [Hsr.out]; kernel_rfl)
      refine lx_e (.agg QV) [] (by kernel_rfl) rfl (by rfl) (fun w1 hw1 => ?_) ?_
      · simp only [pk, lexVals]
        exact lu_row rfl rfl ((HX.out w1 hw1).keep HQ7.out) Tryd.underlying35 rfl (by rw [Hsq.out]; kernel_rfl)
      refine lx_e (.bool C) [(2, 33), (1, 34), (0, 35)] (by kernel_rfl) rfl (by rfl) (fun w1 hw1 => ?_) ?_
      · simp only [pk, nthSp, lexVals]
        have hm := HKa.out w1 (HX.out w1 hw1)
        have HM := Lib.hid hm
        clear hm hw1
        go_simp
        refine HM.out.mono ?_
        rintro e w2 ⟨rfl, hE2⟩
        exact ⟨_, rfl, hE2, rfl⟩
      refine lx_e (.agg RV) [] (by kernel_rfl) rfl (by rfl) (fun w1 hw1 => ?_) ?_
      · simp only [pk, lexVals]
        exact lu_row rfl rfl ((HX.out w1 hw1).keep HR7.out) Tryd.underlying26 rfl (by rw [Hsr.out]; kernel_rfl)
      refine lx_e (.agg QV) [] (by kernel_rfl) rfl (by rfl) (fun w1 hw1 => ?_) ?_
      · simp only [pk, lexVals]
        exact lu_row rfl rfl ((HX.out w1 hw1).keep HQ7.out) Tryd.underlying35 rfl (by rw [Hsq.out]; kernel_rfl)
      refine lx_e (.bool C) [(1, 37), (0, 38)] (by kernel_rfl) rfl (by rfl) (fun w1 hw1 => ?_) ?_
      · simp only [pk, nthSp, lexVals]
        have hm := HKr.out w1 (HX.out w1 hw1)
        have HM := Lib.hid hm
        clear hm hw1
        go_simp
        refine HM.out.mono ?_
        rintro e w2 ⟨rfl, hE2⟩
        exact ⟨_, rfl, hE2, rfl⟩
      refine lx_e (.bool true) [(3, 36), (0, 39)] (by kernel_rfl) rfl (by rfl) (fun w1 hw1 => ?_) ?_
      · simp only [pk, nthSp, lexVals]
        go_simp
        exact ⟨Ext.refl _, by first | rfl | simp⟩
      refine lx_e (.bool true) [(0, 40)] (by kernel_rfl) rfl (by rfl) (fun w1 hw1 => ?_) ?_
      · simp only [pk, nthSp, lexVals]
        go_simp
        exact ⟨Ext.refl _, rfl⟩
      refine lx_ge (.pointer (some ⟨gb, 0, none⟩)) [(0, 41)] 41 (by kernel_rfl) rfl (by kernel_rfl) (by rfl) (fun w1 => ?_) (fun w1 hw1 => ?_) ?_
      · simp only [pk, nthSp, lexVals]
        rfl
      · simp only [pk, nthSp, lexVals]
        go_simp
        exact ⟨Ext.refl _, rfl⟩
      refine lx_ge (.agg RV) [(1, 41)] 41 (by kernel_rfl) rfl (by kernel_rfl) (by rfl) (fun w1 => ?_) (fun w1 hw1 => ?_) ?_
      · simp only [pk, nthSp, lexVals]
        rfl
      · simp only [pk, nthSp, lexVals]
        exact lu_row rfl rfl ((HX.out w1 hw1).keep HR7.out) Tryd.underlying26 rfl (by rw [Hsr.out]; kernel_rfl)
      refine lx_ge (.pointer (some ⟨g + 1, 1, none⟩)) [(2, 41)] 41 (by kernel_rfl) rfl (by kernel_rfl) (by rfl) (fun w1 => ?_) (fun w1 hw1 => ?_) ?_
      · simp only [pk, nthSp, lexVals]
        rfl
      · simp only [pk, nthSp, lexVals]
        go_simp
        exact ⟨Ext.refl _, rfl⟩
      refine lx_ge (.agg (hdV q.a.1)) [(0, 44), (3, 41)] 41 (by kernel_rfl) rfl (by kernel_rfl) (by rfl) (fun w1 => ?_) (fun w1 hw1 => ?_) ?_
      · simp only [pk, nthSp, lexVals]
        rfl
      · simp only [pk, nthSp, lexVals]
        exact lu_hmid rfl rfl (HrA.out w1 (HX.out w1 hw1))
      refine lx_ge (.bool D) [(3, 42), (2, 43), (0, 45), (4, 41)] 41 (by kernel_rfl) rfl (by kernel_rfl) (by rfl) (fun w1 => ?_) (fun w1 hw1 => ?_) ?_
      · simp only [pk, nthSp, lexVals]
        rfl
      · simp only [pk, nthSp, lexVals]
        have hm := HKc.out w1 (HX.out w1 hw1)
        have HM := Lib.hid hm
        clear hm hw1
        go_simp
        refine HM.out.mono ?_
        rintro e w2 ⟨rfl, hE2⟩
        exact ⟨_, rfl, hE2, rfl⟩
      refine lx_ge (.agg RV) [(5, 41)] 41 (by kernel_rfl) rfl (by kernel_rfl) (by rfl) (fun w1 => ?_) (fun w1 hw1 => ?_) ?_
      · simp only [pk, nthSp, lexVals]
        rfl
      · simp only [pk, nthSp, lexVals]
        exact lu_row rfl rfl ((HX.out w1 hw1).keep HR7.out) Tryd.underlying26 rfl (by rw [Hsr.out]; kernel_rfl)
      refine lx_ge (.pointer (some ⟨g + 1, 1, none⟩)) [(6, 41)] 41 (by kernel_rfl) rfl (by kernel_rfl) (by rfl) (fun w1 => ?_) (fun w1 hw1 => ?_) ?_
      · simp only [pk, nthSp, lexVals]
        rfl
      · simp only [pk, nthSp, lexVals]
        go_simp
        exact ⟨Ext.refl _, rfl⟩
      refine lx_ge (.agg (hdV q.a.1)) [(0, 48), (7, 41)] 41 (by kernel_rfl) rfl (by kernel_rfl) (by rfl) (fun w1 => ?_) (fun w1 hw1 => ?_) ?_
      · simp only [pk, nthSp, lexVals]
        rfl
      · simp only [pk, nthSp, lexVals]
        exact lu_hmid rfl rfl (HrA.out w1 (HX.out w1 hw1))
      refine lx_ge (.bool D) [(2, 47), (0, 49), (8, 41)] 41 (by kernel_rfl) rfl (by kernel_rfl) (by rfl) (fun w1 => ?_) (fun w1 hw1 => ?_) ?_
      · simp only [pk, nthSp, lexVals]
        rfl
      · simp only [pk, nthSp, lexVals]
        have hm := HKd.out w1 (HX.out w1 hw1)
        have HM := Lib.hid hm
        clear hm hw1
        go_simp
        refine HM.out.mono ?_
        rintro e w2 ⟨rfl, hE2⟩
        exact ⟨_, rfl, hE2, rfl⟩
      refine lx_ge (.bool true) [(4, 46), (0, 50), (9, 41)] 41 (by kernel_rfl) rfl (by kernel_rfl) (by rfl) (fun w1 => ?_) (fun w1 hw1 => ?_) ?_
      · simp only [pk, nthSp, lexVals]
        rfl
      · simp only [pk, nthSp, lexVals]
        go_simp
        exact ⟨Ext.refl _, by first | rfl | simp⟩
      refine lx_e (.bool true) [(10, 41), (0, 51)] (by kernel_rfl) rfl (by rfl) (fun w1 hw1 => ?_) ?_
      · simp only [pk, nthSp, lexVals]
        go_simp
        exact ⟨Ext.refl _, rfl⟩
      refine lx_e (.bool true) [(0, 52)] (by kernel_rfl) rfl (by rfl) (fun w1 hw1 => ?_) ?_
      · simp only [pk, nthSp, lexVals]
        go_simp
        exact ⟨Ext.refl _, rfl⟩
      refine lx_stopA (by rfl) fun w19 hw19 => ?_
      have HE := Lib.hid (HE.out.trans (HX.out w19 hw19))
      clear hw19
      simp only [rv, pf, lexVals]
      simp only [Act.put, List.setIfInBounds_toArray, List.set_cons_zero, List.set_cons_succ]
      go_wp2
      go_ret
      exact ⟨rfl, HE.out⟩
    | true =>
      have c0 := (show w4.cell? ⟨g + 1 + 1, 0, none⟩ = some (.bool false) from row_cell HD2.out 0 (by omega))
      have c1 := (show w4.cell? ⟨g + 1 + 1, 1, none⟩ = some (.bool true) from row_cell HD2.out 1 (by omega))
      have HrB := Lib.hid (show w4.rangeAt (g + 1) 126 (hdL q.b.1) from pr_rb HQ.out)
      rw [HQb.out] at HrB
      go_wp2_with (first | (refine wpList_load_rowW rfl 26 _ rfl g rfl _ _ _ _ HR.out Tryd.underlying26 rfl (by rw [Hsr.out]; kernel_rfl) ?_) | (refine wp_hmid rfl _ rfl (g + 1) 126 p.b.1 rfl HrB.out ?_))
      refine (HCb.out w4 HE.out).mono ?_
      rintro e w5 ⟨rfl, hE⟩
      have HE := Lib.hid (HE.out.trans hE)
      have HR := Lib.hid (hE.keep HR.out)
      have HD2 := Lib.hid (hE.keep HD2.out)
      have hst := pr_storeB (rowIs_of (hE.keep HQ.out)) XB
      have HTh := Lib.hid hst.1
      obtain ⟨w6, hw6⟩ : ∃ x, w5.setCells (g + 1) 126 (hdV XB.1).toList = x := ⟨_, rfl⟩
      have hr6 := hst.2
      rw [hw6] at hr6
      have HE := Lib.hid (show Ext w w6 by rw [← hw6]; exact below_setCells (by have := Hg.out; omega) _ _ _ HE.out)
      have hr2 := (setCells_other (g := g + 1) (k := g) (by omega) (hdV XB.1).toList 126 w5).trans HR.out
      have hd2 := (setCells_other (g := g + 1) (k := g + 1 + 1) (by omega) (hdV XB.1).toList 126 w5).trans HD2.out
      rw [hw6] at hr2 hd2
      have HR := Lib.hid hr2
      have HD2 := Lib.hid hd2
      have Hw := Lib.hid hw6
      obtain ⟨q2, hq2⟩ : ∃ x, { q with b := XB } = x := ⟨_, rfl⟩
      rw [hq2] at hr6
      have HQA := Lib.hid (show ∀ x, Ext w x → PrAt x q2 from fun x hx => by rw [← hq2]; have h1 := HQA.out x hx; exact ⟨h1.kind, h1.a, HXB.out x hx, h1.writer, h1.floor, h1.head, h1.toks⟩)
      have HQb := Lib.hid (show q2.b = XB by rw [← hq2])
      have HQ := Lib.hid (show w6.heap[g + 1]? = some (.cells (prV q2) 35 (0, 0)) from rowIs_cells hr6)
      have Hsx := Lib.hid (hdV_size XB.1)
      have Hox := Lib.hid (hdV_one XB.1)
      clear hE hst hr2 hd2 hr6 hw6 HrB hq2 c0 c1
      go_upto_region 7 with (refine wpList_store_mid rfl 33 _ _ rfl (g + 1) 126 (hdV XB.1) rfl rfl HTh.out (by rw [Hsx.out]; kernel_rfl) Hox.out ?_)
      refine wp_world (w' := w6) Hw.out ?_
      clear Hw HTh Hsx Hox
      obtain ⟨q, rfl⟩ : ∃ x, x = q2 := ⟨_, rfl⟩
      have c0 := (show w6.cell? ⟨g + 1 + 1, 0, none⟩ = some (.bool false) from row_cell HD2.out 0 (by omega))
      have c1 := (show w6.cell? ⟨g + 1 + 1, 1, none⟩ = some (.bool true) from row_cell HD2.out 1 (by omega))
      go_wp2_with fail
      clear c0 c1
      refine (HN.out w6 HE.out).mono ?_
      rintro e w7 ⟨gb, rfl, hgb, hE⟩
      have HE := Lib.hid (HE.out.trans hE)
      have hrt := rightIs_real hgb (HK.out w7 HE.out)
      have HR7 := Lib.hid (hE.keep HR.out)
      have HQ7 := Lib.hid (hE.keep HQ.out)
      have HrA := Lib.hid (show ∀ x, Ext w7 x → x.rangeAt (g + 1) 1 (hdL q.a.1) from fun x hx => pr_ra (hx.keep HQ7.out))
      have hA := fun x (hx : Ext w7 x) => prCheck_any gb realR r q x (HRg.out x (HE.out.trans hx)) (HQA.out x (HE.out.trans hx)) (hrt.ext hx) (HK.out x (HE.out.trans hx))
      have hB := fun x (hx : Ext w7 x) => ref15Check_any r q x (HRg.out x (HE.out.trans hx)) (HQA.out x (HE.out.trans hx)) (HW.out x (HE.out.trans hx))
      have hC := fun x (hx : Ext w7 x) => prRight_any gb realR r q.a.1 q.a.2 x (HRg.out x (HE.out.trans hx)) (HQA.out x (HE.out.trans hx)).a.ok (HQA.out x (HE.out.trans hx)).a.toks (hrt.ext hx) (HK.out x (HE.out.trans hx))
      have hD := fun x (hx : Ext w7 x) => ref15Right_any r q.a.1 q.a.2 x (HRg.out x (HE.out.trans hx)) (HQA.out x (HE.out.trans hx)).a.ok (HQA.out x (HE.out.trans hx)).a.toks (HW.out x (HE.out.trans hx))
      rw [HRV.out] at hA hB hC hD
      obtain ⟨C, hCC⟩ : ∃ x, chkB realR r q = x := ⟨_, rfl⟩
      obtain ⟨D, hDD⟩ : ∃ x, rightO realR (keyO r q.a.1) q.a.1 q.a.2 = x := ⟨_, rfl⟩
      have Hsq := Lib.hid (prV_size q)
      obtain ⟨QV, hQV⟩ : ∃ x, prV q = x := ⟨_, rfl⟩
      rw [hCC, hQV] at hA hB
      rw [hDD] at hC hD
      rw [hQV] at Hsq HQ7
      have HKa := Lib.hid hA
      have HKr := Lib.hid hB
      have HKc := Lib.hid hC
      have HKd := Lib.hid hD
      have HX := Lib.hid (show ∀ x, Ext w7.drew x → Ext w7 x from fun x hx => Ext.trans (Ext.refl w7).drew hx)
      clear hE hgb hrt hA hB hC hD hCC hDD hQV HR HQ HN HD2
      go_upto_region 8 with (fail)
      refine wp_region_lexA (by kernel_rfl) (by kernel_rfl) ?_
      refine lx_e (.pointer (some ⟨gb, 0, none⟩)) [] (by kernel_rfl) rfl (by rfl) (fun w1 hw1 => ?_) ?_
      · simp only [pk, lexVals]
        go_simp
        exact ⟨Ext.refl _, rfl⟩
      refine lx_e (.agg RV) [] (by kernel_rfl) rfl (by rfl) (fun w1 hw1 => ?_) ?_
      · simp only [pk, lexVals]
        exact lu_row rfl rfl ((HX.out w1 hw1).keep HR7.out) Tryd.underlying26 rfl (by rw [Hsr.out]; kernel_rfl)
      refine lx_e (.agg QV) [] (by kernel_rfl) rfl (by rfl) (fun w1 hw1 => ?_) ?_
      · simp only [pk, lexVals]
        exact lu_row rfl rfl ((HX.out w1 hw1).keep HQ7.out) Tryd.underlying35 rfl (by rw [Hsq.out]; kernel_rfl)
      refine lx_e (.bool C) [(2, 33), (1, 34), (0, 35)] (by kernel_rfl) rfl (by rfl) (fun w1 hw1 => ?_) ?_
      · simp only [pk, nthSp, lexVals]
        have hm := HKa.out w1 (HX.out w1 hw1)
        have HM := Lib.hid hm
        clear hm hw1
        go_simp
        refine HM.out.mono ?_
        rintro e w2 ⟨rfl, hE2⟩
        exact ⟨_, rfl, hE2, rfl⟩
      refine lx_e (.agg RV) [] (by kernel_rfl) rfl (by rfl) (fun w1 hw1 => ?_) ?_
      · simp only [pk, lexVals]
        exact lu_row rfl rfl ((HX.out w1 hw1).keep HR7.out) Tryd.underlying26 rfl (by rw [Hsr.out]; kernel_rfl)
      refine lx_e (.agg QV) [] (by kernel_rfl) rfl (by rfl) (fun w1 hw1 => ?_) ?_
      · simp only [pk, lexVals]
        exact lu_row rfl rfl ((HX.out w1 hw1).keep HQ7.out) Tryd.underlying35 rfl (by rw [Hsq.out]; kernel_rfl)
      refine lx_e (.bool C) [(1, 37), (0, 38)] (by kernel_rfl) rfl (by rfl) (fun w1 hw1 => ?_) ?_
      · simp only [pk, nthSp, lexVals]
        have hm := HKr.out w1 (HX.out w1 hw1)
        have HM := Lib.hid hm
        clear hm hw1
        go_simp
        refine HM.out.mono ?_
        rintro e w2 ⟨rfl, hE2⟩
        exact ⟨_, rfl, hE2, rfl⟩
      refine lx_e (.bool true) [(3, 36), (0, 39)] (by kernel_rfl) rfl (by rfl) (fun w1 hw1 => ?_) ?_
      · simp only [pk, nthSp, lexVals]
        go_simp
        exact ⟨Ext.refl _, by first | rfl | simp⟩
      refine lx_e (.bool true) [(0, 40)] (by kernel_rfl) rfl (by rfl) (fun w1 hw1 => ?_) ?_
      · simp only [pk, nthSp, lexVals]
        go_simp
        exact ⟨Ext.refl _, rfl⟩
      refine lx_ge (.pointer (some ⟨gb, 0, none⟩)) [(0, 41)] 41 (by kernel_rfl) rfl (by kernel_rfl) (by rfl) (fun w1 => ?_) (fun w1 hw1 => ?_) ?_
      · simp only [pk, nthSp, lexVals]
        rfl
      · simp only [pk, nthSp, lexVals]
        go_simp
        exact ⟨Ext.refl _, rfl⟩
      refine lx_ge (.agg RV) [(1, 41)] 41 (by kernel_rfl) rfl (by kernel_rfl) (by rfl) (fun w1 => ?_) (fun w1 hw1 => ?_) ?_
      · simp only [pk, nthSp, lexVals]
        rfl
      · simp only [pk, nthSp, lexVals]
        exact lu_row rfl rfl ((HX.out w1 hw1).keep HR7.out) Tryd.underlying26 rfl (by rw [Hsr.out]; kernel_rfl)
      refine lx_ge (.pointer (some ⟨g + 1, 1, none⟩)) [(2, 41)] 41 (by kernel_rfl) rfl (by kernel_rfl) (by rfl) (fun w1 => ?_) (fun w1 hw1 => ?_) ?_
      · simp only [pk, nthSp, lexVals]
        rfl
      · simp only [pk, nthSp, lexVals]
        go_simp
        exact ⟨Ext.refl _, rfl⟩
      refine lx_ge (.agg (hdV q.a.1)) [(0, 44), (3, 41)] 41 (by kernel_rfl) rfl (by kernel_rfl) (by rfl) (fun w1 => ?_) (fun w1 hw1 => ?_) ?_
      · simp only [pk, nthSp, lexVals]
        rfl
      · simp only [pk, nthSp, lexVals]
        exact lu_hmid rfl rfl (HrA.out w1 (HX.out w1 hw1))
      refine lx_ge (.bool D) [(3, 42), (2, 43), (0, 45), (4, 41)] 41 (by kernel_rfl) rfl (by kernel_rfl) (by rfl) (fun w1 => ?_) (fun w1 hw1 => ?_) ?_
      · simp only [pk, nthSp, lexVals]
        rfl
      · simp only [pk, nthSp, lexVals]
        have hm := HKc.out w1 (HX.out w1 hw1)
        have HM := Lib.hid hm
        clear hm hw1
        go_simp
        refine HM.out.mono ?_
        rintro e w2 ⟨rfl, hE2⟩
        exact ⟨_, rfl, hE2, rfl⟩
      refine lx_ge (.agg RV) [(5, 41)] 41 (by kernel_rfl) rfl (by kernel_rfl) (by rfl) (fun w1 => ?_) (fun w1 hw1 => ?_) ?_
      · simp only [pk, nthSp, lexVals]
        rfl
      · simp only [pk, nthSp, lexVals]
        exact lu_row rfl rfl ((HX.out w1 hw1).keep HR7.out) Tryd.underlying26 rfl (by rw [Hsr.out]; kernel_rfl)
      refine lx_ge (.pointer (some ⟨g + 1, 1, none⟩)) [(6, 41)] 41 (by kernel_rfl) rfl (by kernel_rfl) (by rfl) (fun w1 => ?_) (fun w1 hw1 => ?_) ?_
      · simp only [pk, nthSp, lexVals]
        rfl
      · simp only [pk, nthSp, lexVals]
        go_simp
        exact ⟨Ext.refl _, rfl⟩
      refine lx_ge (.agg (hdV q.a.1)) [(0, 48), (7, 41)] 41 (by kernel_rfl) rfl (by kernel_rfl) (by rfl) (fun w1 => ?_) (fun w1 hw1 => ?_) ?_
      · simp only [pk, nthSp, lexVals]
        rfl
      · simp only [pk, nthSp, lexVals]
        exact lu_hmid rfl rfl (HrA.out w1 (HX.out w1 hw1))
      refine lx_ge (.bool D) [(2, 47), (0, 49), (8, 41)] 41 (by kernel_rfl) rfl (by kernel_rfl) (by rfl) (fun w1 => ?_) (fun w1 hw1 => ?_) ?_
      · simp only [pk, nthSp, lexVals]
        rfl
      · simp only [pk, nthSp, lexVals]
        have hm := HKd.out w1 (HX.out w1 hw1)
        have HM := Lib.hid hm
        clear hm hw1
        go_simp
        refine HM.out.mono ?_
        rintro e w2 ⟨rfl, hE2⟩
        exact ⟨_, rfl, hE2, rfl⟩
      refine lx_ge (.bool true) [(4, 46), (0, 50), (9, 41)] 41 (by kernel_rfl) rfl (by kernel_rfl) (by rfl) (fun w1 => ?_) (fun w1 hw1 => ?_) ?_
      · simp only [pk, nthSp, lexVals]
        rfl
      · simp only [pk, nthSp, lexVals]
        go_simp
        exact ⟨Ext.refl _, by first | rfl | simp⟩
      refine lx_e (.bool true) [(10, 41), (0, 51)] (by kernel_rfl) rfl (by rfl) (fun w1 hw1 => ?_) ?_
      · simp only [pk, nthSp, lexVals]
        go_simp
        exact ⟨Ext.refl _, rfl⟩
      refine lx_e (.bool true) [(0, 52)] (by kernel_rfl) rfl (by rfl) (fun w1 hw1 => ?_) ?_
      · simp only [pk, nthSp, lexVals]
        go_simp
        exact ⟨Ext.refl _, rfl⟩
      refine lx_stopA (by rfl) fun w19 hw19 => ?_
      have HE := Lib.hid (HE.out.trans (HX.out w19 hw19))
      clear hw19
      simp only [rv, pf, lexVals]
      simp only [Act.put, List.setIfInBounds_toArray, List.set_cons_zero, List.set_cons_succ]
      go_wp2
      go_ret
      exact ⟨rfl, HE.out⟩
  | true =>
    have c0 := (show w4.cell? ⟨g + 1 + 1, 0, none⟩ = some (.bool true) from row_cell HD2.out 0 (by omega))
    have c1 := (show w4.cell? ⟨g + 1 + 1, 1, none⟩ = some (.bool b1) from row_cell HD2.out 1 (by omega))
    have HrA := Lib.hid (show w4.rangeAt (g + 1) 1 (hdL q.a.1) from pr_ra HQ.out)
    rw [HQa.out] at HrA
    go_wp2_with (first | (refine wpList_load_rowW rfl 26 _ rfl g rfl _ _ _ _ HR.out Tryd.underlying26 rfl (by rw [Hsr.out]; kernel_rfl) ?_) | (refine wp_hmid rfl _ rfl (g + 1) 1 p.a.1 rfl HrA.out ?_))
    refine (HCa.out w4 HE.out).mono ?_
    rintro e w5 ⟨rfl, hE⟩
    have HE := Lib.hid (HE.out.trans hE)
    have HR := Lib.hid (hE.keep HR.out)
    have HD2 := Lib.hid (hE.keep HD2.out)
    have hst := pr_storeA (rowIs_of (hE.keep HQ.out)) XA
    have HTh := Lib.hid hst.1
    obtain ⟨w6, hw6⟩ : ∃ x, w5.setCells (g + 1) 1 (hdV XA.1).toList = x := ⟨_, rfl⟩
    have hr6 := hst.2
    rw [hw6] at hr6
    have HE := Lib.hid (show Ext w w6 by rw [← hw6]; exact below_setCells (by have := Hg.out; omega) _ _ _ HE.out)
    have hr2 := (setCells_other (g := g + 1) (k := g) (by omega) (hdV XA.1).toList 1 w5).trans HR.out
    have hd2 := (setCells_other (g := g + 1) (k := g + 1 + 1) (by omega) (hdV XA.1).toList 1 w5).trans HD2.out
    rw [hw6] at hr2 hd2
    have HR := Lib.hid hr2
    have HD2 := Lib.hid hd2
    have Hw := Lib.hid hw6
    obtain ⟨q2, hq2⟩ : ∃ x, { q with a := XA } = x := ⟨_, rfl⟩
    rw [hq2] at hr6
    have HQA := Lib.hid (show ∀ x, Ext w x → PrAt x q2 from fun x hx => by rw [← hq2]; have h1 := HQA.out x hx; exact ⟨h1.kind, HXA.out x hx, h1.b, h1.writer, h1.floor, h1.head, h1.toks⟩)
    have HQb := Lib.hid (show q2.b = p.b by rw [← hq2]; exact HQb.out)
    have HQ := Lib.hid (show w6.heap[g + 1]? = some (.cells (prV q2) 35 (0, 0)) from rowIs_cells hr6)
    have Hsx := Lib.hid (hdV_size XA.1)
    have Hox := Lib.hid (hdV_one XA.1)
    clear hE hst hr2 hd2 hr6 hw6 HrA hq2 HQa c0 c1
    go_upto_region 5 with (refine wpList_store_mid rfl 33 _ _ rfl (g + 1) 1 (hdV XA.1) rfl rfl HTh.out (by rw [Hsx.out]; kernel_rfl) Hox.out ?_)
    refine wp_world (w' := w6) Hw.out ?_
    clear Hw HTh Hsx Hox
    obtain ⟨q, rfl⟩ : ∃ x, x = q2 := ⟨_, rfl⟩
    cases b1 with
    | false =>
      have c0 := (show w6.cell? ⟨g + 1 + 1, 0, none⟩ = some (.bool true) from row_cell HD2.out 0 (by omega))
      have c1 := (show w6.cell? ⟨g + 1 + 1, 1, none⟩ = some (.bool false) from row_cell HD2.out 1 (by omega))
      go_wp2_with fail
      clear c0 c1
      refine (HN.out w6 HE.out).mono ?_
      rintro e w7 ⟨gb, rfl, hgb, hE⟩
      have HE := Lib.hid (HE.out.trans hE)
      have hrt := rightIs_real hgb (HK.out w7 HE.out)
      have HR7 := Lib.hid (hE.keep HR.out)
      have HQ7 := Lib.hid (hE.keep HQ.out)
      have HrA := Lib.hid (show ∀ x, Ext w7 x → x.rangeAt (g + 1) 1 (hdL q.a.1) from fun x hx => pr_ra (hx.keep HQ7.out))
      have hA := fun x (hx : Ext w7 x) => prCheck_any gb realR r q x (HRg.out x (HE.out.trans hx)) (HQA.out x (HE.out.trans hx)) (hrt.ext hx) (HK.out x (HE.out.trans hx))
      have hB := fun x (hx : Ext w7 x) => ref15Check_any r q x (HRg.out x (HE.out.trans hx)) (HQA.out x (HE.out.trans hx)) (HW.out x (HE.out.trans hx))
      have hC := fun x (hx : Ext w7 x) => prRight_any gb realR r q.a.1 q.a.2 x (HRg.out x (HE.out.trans hx)) (HQA.out x (HE.out.trans hx)).a.ok (HQA.out x (HE.out.trans hx)).a.toks (hrt.ext hx) (HK.out x (HE.out.trans hx))
      have hD := fun x (hx : Ext w7 x) => ref15Right_any r q.a.1 q.a.2 x (HRg.out x (HE.out.trans hx)) (HQA.out x (HE.out.trans hx)).a.ok (HQA.out x (HE.out.trans hx)).a.toks (HW.out x (HE.out.trans hx))
      rw [HRV.out] at hA hB hC hD
      obtain ⟨C, hCC⟩ : ∃ x, chkB realR r q = x := ⟨_, rfl⟩
      obtain ⟨D, hDD⟩ : ∃ x, rightO realR (keyO r q.a.1) q.a.1 q.a.2 = x := ⟨_, rfl⟩
      have Hsq := Lib.hid (prV_size q)
      obtain ⟨QV, hQV⟩ : ∃ x, prV q = x := ⟨_, rfl⟩
      rw [hCC, hQV] at hA hB
      rw [hDD] at hC hD
      rw [hQV] at Hsq HQ7
      have HKa := Lib.hid hA
      have HKr := Lib.hid hB
      have HKc := Lib.hid hC
      have HKd := Lib.hid hD
      have HX := Lib.hid (show ∀ x, Ext w7.drew x → Ext w7 x from fun x hx => Ext.trans (Ext.refl w7).drew hx)
      clear hE hgb hrt hA hB hC hD hCC hDD hQV HR HQ HN HD2
      go_upto_region 8 with (fail)
      refine wp_region_lexA (by kernel_rfl) (by kernel_rfl) ?_
      refine lx_e (.pointer (some ⟨gb, 0, none⟩)) [] (by kernel_rfl) rfl (by rfl) (fun w1 hw1 => ?_) ?_
      · simp only [pk, lexVals]
        go_simp
        exact ⟨Ext.refl _, rfl⟩
      refine lx_e (.agg RV) [] (by kernel_rfl) rfl (by rfl) (fun w1 hw1 => ?_) ?_
      · simp only [pk, lexVals]
        exact lu_row rfl rfl ((HX.out w1 hw1).keep HR7.out) Tryd.underlying26 rfl (by rw [Hsr.out]; kernel_rfl)
      refine lx_e (.agg QV) [] (by kernel_rfl) rfl (by rfl) (fun w1 hw1 => ?_) ?_
      · simp only [pk, lexVals]
        exact lu_row rfl rfl ((HX.out w1 hw1).keep HQ7.out) Tryd.underlying35 rfl (by rw [Hsq.out]; kernel_rfl)
      refine lx_e (.bool C) [(2, 33), (1, 34), (0, 35)] (by kernel_rfl) rfl (by rfl) (fun w1 hw1 => ?_) ?_
      · simp only [pk, nthSp, lexVals]
        have hm := HKa.out w1 (HX.out w1 hw1)
        have HM := Lib.hid hm
        clear hm hw1
        go_simp
        refine HM.out.mono ?_
        rintro e w2 ⟨rfl, hE2⟩
        exact ⟨_, rfl, hE2, rfl⟩
      refine lx_e (.agg RV) [] (by kernel_rfl) rfl (by rfl) (fun w1 hw1 => ?_) ?_
      · simp only [pk, lexVals]
        exact lu_row rfl rfl ((HX.out w1 hw1).keep HR7.out) Tryd.underlying26 rfl (by rw [Hsr.out]; kernel_rfl)
      refine lx_e (.agg QV) [] (by kernel_rfl) rfl (by rfl) (fun w1 hw1 => ?_) ?_
      · simp only [pk, lexVals]
        exact lu_row rfl rfl ((HX.out w1 hw1).keep HQ7.out) Tryd.underlying35 rfl (by rw [Hsq.out]; kernel_rfl)
      refine lx_e (.bool C) [(1, 37), (0, 38)] (by kernel_rfl) rfl (by rfl) (fun w1 hw1 => ?_) ?_
      · simp only [pk, nthSp, lexVals]
        have hm := HKr.out w1 (HX.out w1 hw1)
        have HM := Lib.hid hm
        clear hm hw1
        go_simp
        refine HM.out.mono ?_
        rintro e w2 ⟨rfl, hE2⟩
        exact ⟨_, rfl, hE2, rfl⟩
      refine lx_e (.bool true) [(3, 36), (0, 39)] (by kernel_rfl) rfl (by rfl) (fun w1 hw1 => ?_) ?_
      · simp only [pk, nthSp, lexVals]
        go_simp
        exact ⟨Ext.refl _, by first | rfl | simp⟩
      refine lx_e (.bool true) [(0, 40)] (by kernel_rfl) rfl (by rfl) (fun w1 hw1 => ?_) ?_
      · simp only [pk, nthSp, lexVals]
        go_simp
        exact ⟨Ext.refl _, rfl⟩
      refine lx_ge (.pointer (some ⟨gb, 0, none⟩)) [(0, 41)] 41 (by kernel_rfl) rfl (by kernel_rfl) (by rfl) (fun w1 => ?_) (fun w1 hw1 => ?_) ?_
      · simp only [pk, nthSp, lexVals]
        rfl
      · simp only [pk, nthSp, lexVals]
        go_simp
        exact ⟨Ext.refl _, rfl⟩
      refine lx_ge (.agg RV) [(1, 41)] 41 (by kernel_rfl) rfl (by kernel_rfl) (by rfl) (fun w1 => ?_) (fun w1 hw1 => ?_) ?_
      · simp only [pk, nthSp, lexVals]
        rfl
      · simp only [pk, nthSp, lexVals]
        exact lu_row rfl rfl ((HX.out w1 hw1).keep HR7.out) Tryd.underlying26 rfl (by rw [Hsr.out]; kernel_rfl)
      refine lx_ge (.pointer (some ⟨g + 1, 1, none⟩)) [(2, 41)] 41 (by kernel_rfl) rfl (by kernel_rfl) (by rfl) (fun w1 => ?_) (fun w1 hw1 => ?_) ?_
      · simp only [pk, nthSp, lexVals]
        rfl
      · simp only [pk, nthSp, lexVals]
        go_simp
        exact ⟨Ext.refl _, rfl⟩
      refine lx_ge (.agg (hdV q.a.1)) [(0, 44), (3, 41)] 41 (by kernel_rfl) rfl (by kernel_rfl) (by rfl) (fun w1 => ?_) (fun w1 hw1 => ?_) ?_
      · simp only [pk, nthSp, lexVals]
        rfl
      · simp only [pk, nthSp, lexVals]
        exact lu_hmid rfl rfl (HrA.out w1 (HX.out w1 hw1))
      refine lx_ge (.bool D) [(3, 42), (2, 43), (0, 45), (4, 41)] 41 (by kernel_rfl) rfl (by kernel_rfl) (by rfl) (fun w1 => ?_) (fun w1 hw1 => ?_) ?_
      · simp only [pk, nthSp, lexVals]
        rfl
      · simp only [pk, nthSp, lexVals]
        have hm := HKc.out w1 (HX.out w1 hw1)
        have HM := Lib.hid hm
        clear hm hw1
        go_simp
        refine HM.out.mono ?_
        rintro e w2 ⟨rfl, hE2⟩
        exact ⟨_, rfl, hE2, rfl⟩
      refine lx_ge (.agg RV) [(5, 41)] 41 (by kernel_rfl) rfl (by kernel_rfl) (by rfl) (fun w1 => ?_) (fun w1 hw1 => ?_) ?_
      · simp only [pk, nthSp, lexVals]
        rfl
      · simp only [pk, nthSp, lexVals]
        exact lu_row rfl rfl ((HX.out w1 hw1).keep HR7.out) Tryd.underlying26 rfl (by rw [Hsr.out]; kernel_rfl)
      refine lx_ge (.pointer (some ⟨g + 1, 1, none⟩)) [(6, 41)] 41 (by kernel_rfl) rfl (by kernel_rfl) (by rfl) (fun w1 => ?_) (fun w1 hw1 => ?_) ?_
      · simp only [pk, nthSp, lexVals]
        rfl
      · simp only [pk, nthSp, lexVals]
        go_simp
        exact ⟨Ext.refl _, rfl⟩
      refine lx_ge (.agg (hdV q.a.1)) [(0, 48), (7, 41)] 41 (by kernel_rfl) rfl (by kernel_rfl) (by rfl) (fun w1 => ?_) (fun w1 hw1 => ?_) ?_
      · simp only [pk, nthSp, lexVals]
        rfl
      · simp only [pk, nthSp, lexVals]
        exact lu_hmid rfl rfl (HrA.out w1 (HX.out w1 hw1))
      refine lx_ge (.bool D) [(2, 47), (0, 49), (8, 41)] 41 (by kernel_rfl) rfl (by kernel_rfl) (by rfl) (fun w1 => ?_) (fun w1 hw1 => ?_) ?_
      · simp only [pk, nthSp, lexVals]
        rfl
      · simp only [pk, nthSp, lexVals]
        have hm := HKd.out w1 (HX.out w1 hw1)
        have HM := Lib.hid hm
        clear hm hw1
        go_simp
        refine HM.out.mono ?_
        rintro e w2 ⟨rfl, hE2⟩
        exact ⟨_, rfl, hE2, rfl⟩
      refine lx_ge (.bool true) [(4, 46), (0, 50), (9, 41)] 41 (by kernel_rfl) rfl (by kernel_rfl) (by rfl) (fun w1 => ?_) (fun w1 hw1 => ?_) ?_
      · simp only [pk, nthSp, lexVals]
        rfl
      · simp only [pk, nthSp, lexVals]
        go_simp
        exact ⟨Ext.refl _, by first | rfl | simp⟩
      refine lx_e (.bool true) [(10, 41), (0, 51)] (by kernel_rfl) rfl (by rfl) (fun w1 hw1 => ?_) ?_
      · simp only [pk, nthSp, lexVals]
        go_simp
        exact ⟨Ext.refl _, rfl⟩
      refine lx_e (.bool true) [(0, 52)] (by kernel_rfl) rfl (by rfl) (fun w1 hw1 => ?_) ?_
      · simp only [pk, nthSp, lexVals]
        go_simp
        exact ⟨Ext.refl _, rfl⟩
      refine lx_stopA (by rfl) fun w19 hw19 => ?_
      have HE := Lib.hid (HE.out.trans (HX.out w19 hw19))
      clear hw19
      simp only [rv, pf, lexVals]
      simp only [Act.put, List.setIfInBounds_toArray, List.set_cons_zero, List.set_cons_succ]
      go_wp2
      go_ret
      exact ⟨rfl, HE.out⟩
    | true =>
      have c0 := (show w6.cell? ⟨g + 1 + 1, 0, none⟩ = some (.bool true) from row_cell HD2.out 0 (by omega))
      have c1 := (show w6.cell? ⟨g + 1 + 1, 1, none⟩ = some (.bool true) from row_cell HD2.out 1 (by omega))
      have HrB := Lib.hid (show w6.rangeAt (g + 1) 126 (hdL q.b.1) from pr_rb HQ.out)
      rw [HQb.out] at HrB
      go_wp2_with (first | (refine wpList_load_rowW rfl 26 _ rfl g rfl _ _ _ _ HR.out Tryd.underlying26 rfl (by rw [Hsr.out]; kernel_rfl) ?_) | (refine wp_hmid rfl _ rfl (g + 1) 126 p.b.1 rfl HrB.out ?_))
      refine (HCb.out w6 HE.out).mono ?_
      rintro e w7 ⟨rfl, hE⟩
      have HE := Lib.hid (HE.out.trans hE)
      have HR := Lib.hid (hE.keep HR.out)
      have HD2 := Lib.hid (hE.keep HD2.out)
      have hst := pr_storeB (rowIs_of (hE.keep HQ.out)) XB
      have HTh := Lib.hid hst.1
      obtain ⟨w8, hw8⟩ : ∃ x, w7.setCells (g + 1) 126 (hdV XB.1).toList = x := ⟨_, rfl⟩
      have hr8 := hst.2
      rw [hw8] at hr8
      have HE := Lib.hid (show Ext w w8 by rw [← hw8]; exact below_setCells (by have := Hg.out; omega) _ _ _ HE.out)
      have hr2 := (setCells_other (g := g + 1) (k := g) (by omega) (hdV XB.1).toList 126 w7).trans HR.out
      have hd2 := (setCells_other (g := g + 1) (k := g + 1 + 1) (by omega) (hdV XB.1).toList 126 w7).trans HD2.out
      rw [hw8] at hr2 hd2
      have HR := Lib.hid hr2
      have HD2 := Lib.hid hd2
      have Hw := Lib.hid hw8
      obtain ⟨q2, hq2⟩ : ∃ x, { q with b := XB } = x := ⟨_, rfl⟩
      rw [hq2] at hr8
      have HQA := Lib.hid (show ∀ x, Ext w x → PrAt x q2 from fun x hx => by rw [← hq2]; have h1 := HQA.out x hx; exact ⟨h1.kind, h1.a, HXB.out x hx, h1.writer, h1.floor, h1.head, h1.toks⟩)
      have HQb := Lib.hid (show q2.b = XB by rw [← hq2])
      have HQ := Lib.hid (show w8.heap[g + 1]? = some (.cells (prV q2) 35 (0, 0)) from rowIs_cells hr8)
      have Hsx := Lib.hid (hdV_size XB.1)
      have Hox := Lib.hid (hdV_one XB.1)
      clear hE hst hr2 hd2 hr8 hw8 HrB hq2 c0 c1
      go_upto_region 7 with (refine wpList_store_mid rfl 33 _ _ rfl (g + 1) 126 (hdV XB.1) rfl rfl HTh.out (by rw [Hsx.out]; kernel_rfl) Hox.out ?_)
      refine wp_world (w' := w8) Hw.out ?_
      clear Hw HTh Hsx Hox
      obtain ⟨q, rfl⟩ : ∃ x, x = q2 := ⟨_, rfl⟩
      have c0 := (show w8.cell? ⟨g + 1 + 1, 0, none⟩ = some (.bool true) from row_cell HD2.out 0 (by omega))
      have c1 := (show w8.cell? ⟨g + 1 + 1, 1, none⟩ = some (.bool true) from row_cell HD2.out 1 (by omega))
      go_wp2_with fail
      clear c0 c1
      refine (HN.out w8 HE.out).mono ?_
      rintro e w9 ⟨gb, rfl, hgb, hE⟩
      have HE := Lib.hid (HE.out.trans hE)
      have hrt := rightIs_real hgb (HK.out w9 HE.out)
      have HR7 := Lib.hid (hE.keep HR.out)
      have HQ7 := Lib.hid (hE.keep HQ.out)
      have HrA := Lib.hid (show ∀ x, Ext w9 x → x.rangeAt (g + 1) 1 (hdL q.a.1) from fun x hx => pr_ra (hx.keep HQ7.out))
      have hA := fun x (hx : Ext w9 x) => prCheck_any gb realR r q x (HRg.out x (HE.out.trans hx)) (HQA.out x (HE.out.trans hx)) (hrt.ext hx) (HK.out x (HE.out.trans hx))
      have hB := fun x (hx : Ext w9 x) => ref15Check_any r q x (HRg.out x (HE.out.trans hx)) (HQA.out x (HE.out.trans hx)) (HW.out x (HE.out.trans hx))
      have hC := fun x (hx : Ext w9 x) => prRight_any gb realR r q.a.1 q.a.2 x (HRg.out x (HE.out.trans hx)) (HQA.out x (HE.out.trans hx)).a.ok (HQA.out x (HE.out.trans hx)).a.toks (hrt.ext hx) (HK.out x (HE.out.trans hx))
      have hD := fun x (hx : Ext w9 x) => ref15Right_any r q.a.1 q.a.2 x (HRg.out x (HE.out.trans hx)) (HQA.out x (HE.out.trans hx)).a.ok (HQA.out x (HE.out.trans hx)).a.toks (HW.out x (HE.out.trans hx))
      rw [HRV.out] at hA hB hC hD
      obtain ⟨C, hCC⟩ : ∃ x, chkB realR r q = x := ⟨_, rfl⟩
      obtain ⟨D, hDD⟩ : ∃ x, rightO realR (keyO r q.a.1) q.a.1 q.a.2 = x := ⟨_, rfl⟩
      have Hsq := Lib.hid (prV_size q)
      obtain ⟨QV, hQV⟩ : ∃ x, prV q = x := ⟨_, rfl⟩
      rw [hCC, hQV] at hA hB
      rw [hDD] at hC hD
      rw [hQV] at Hsq HQ7
      have HKa := Lib.hid hA
      have HKr := Lib.hid hB
      have HKc := Lib.hid hC
      have HKd := Lib.hid hD
      have HX := Lib.hid (show ∀ x, Ext w9.drew x → Ext w9 x from fun x hx => Ext.trans (Ext.refl w9).drew hx)
      clear hE hgb hrt hA hB hC hD hCC hDD hQV HR HQ HN HD2
      go_upto_region 8 with (fail)
      refine wp_region_lexA (by kernel_rfl) (by kernel_rfl) ?_
      refine lx_e (.pointer (some ⟨gb, 0, none⟩)) [] (by kernel_rfl) rfl (by rfl) (fun w1 hw1 => ?_) ?_
      · simp only [pk, lexVals]
        go_simp
        exact ⟨Ext.refl _, rfl⟩
      refine lx_e (.agg RV) [] (by kernel_rfl) rfl (by rfl) (fun w1 hw1 => ?_) ?_
      · simp only [pk, lexVals]
        exact lu_row rfl rfl ((HX.out w1 hw1).keep HR7.out) Tryd.underlying26 rfl (by rw [Hsr.out]; kernel_rfl)
      refine lx_e (.agg QV) [] (by kernel_rfl) rfl (by rfl) (fun w1 hw1 => ?_) ?_
      · simp only [pk, lexVals]
        exact lu_row rfl rfl ((HX.out w1 hw1).keep HQ7.out) Tryd.underlying35 rfl (by rw [Hsq.out]; kernel_rfl)
      refine lx_e (.bool C) [(2, 33), (1, 34), (0, 35)] (by kernel_rfl) rfl (by rfl) (fun w1 hw1 => ?_) ?_
      · simp only [pk, nthSp, lexVals]
        have hm := HKa.out w1 (HX.out w1 hw1)
        have HM := Lib.hid hm
        clear hm hw1
        go_simp
        refine HM.out.mono ?_
        rintro e w2 ⟨rfl, hE2⟩
        exact ⟨_, rfl, hE2, rfl⟩
      refine lx_e (.agg RV) [] (by kernel_rfl) rfl (by rfl) (fun w1 hw1 => ?_) ?_
      · simp only [pk, lexVals]
        exact lu_row rfl rfl ((HX.out w1 hw1).keep HR7.out) Tryd.underlying26 rfl (by rw [Hsr.out]; kernel_rfl)
      refine lx_e (.agg QV) [] (by kernel_rfl) rfl (by rfl) (fun w1 hw1 => ?_) ?_
      · simp only [pk, lexVals]
        exact lu_row rfl rfl ((HX.out w1 hw1).keep HQ7.out) Tryd.underlying35 rfl (by rw [Hsq.out]; kernel_rfl)
      refine lx_e (.bool C) [(1, 37), (0, 38)] (by kernel_rfl) rfl (by rfl) (fun w1 hw1 => ?_) ?_
      · simp only [pk, nthSp, lexVals]
        have hm := HKr.out w1 (HX.out w1 hw1)
        have HM := Lib.hid hm
        clear hm hw1
        go_simp
        refine HM.out.mono ?_
        rintro e w2 ⟨rfl, hE2⟩
        exact ⟨_, rfl, hE2, rfl⟩
      refine lx_e (.bool true) [(3, 36), (0, 39)] (by kernel_rfl) rfl (by rfl) (fun w1 hw1 => ?_) ?_
      · simp only [pk, nthSp, lexVals]
        go_simp
        exact ⟨Ext.refl _, by first | rfl | simp⟩
      refine lx_e (.bool true) [(0, 40)] (by kernel_rfl) rfl (by rfl) (fun w1 hw1 => ?_) ?_
      · simp only [pk, nthSp, lexVals]
        go_simp
        exact ⟨Ext.refl _, rfl⟩
      refine lx_ge (.pointer (some ⟨gb, 0, none⟩)) [(0, 41)] 41 (by kernel_rfl) rfl (by kernel_rfl) (by rfl) (fun w1 => ?_) (fun w1 hw1 => ?_) ?_
      · simp only [pk, nthSp, lexVals]
        rfl
      · simp only [pk, nthSp, lexVals]
        go_simp
        exact ⟨Ext.refl _, rfl⟩
      refine lx_ge (.agg RV) [(1, 41)] 41 (by kernel_rfl) rfl (by kernel_rfl) (by rfl) (fun w1 => ?_) (fun w1 hw1 => ?_) ?_
      · simp only [pk, nthSp, lexVals]
        rfl
      · simp only [pk, nthSp, lexVals]
        exact lu_row rfl rfl ((HX.out w1 hw1).keep HR7.out) Tryd.underlying26 rfl (by rw [Hsr.out]; kernel_rfl)
      refine lx_ge (.pointer (some ⟨g + 1, 1, none⟩)) [(2, 41)] 41 (by kernel_rfl) rfl (by kernel_rfl) (by rfl) (fun w1 => ?_) (fun w1 hw1 => ?_) ?_
      · simp only [pk, nthSp, lexVals]
        rfl
      · simp only [pk, nthSp, lexVals]
        go_simp
        exact ⟨Ext.refl _, rfl⟩
      refine lx_ge (.agg (hdV q.a.1)) [(0, 44), (3, 41)] 41 (by kernel_rfl) rfl (by kernel_rfl) (by rfl) (fun w1 => ?_) (fun w1 hw1 => ?_) ?_
      · simp only [pk, nthSp, lexVals]
        rfl
      · simp only [pk, nthSp, lexVals]
        exact lu_hmid rfl rfl (HrA.out w1 (HX.out w1 hw1))
      refine lx_ge (.bool D) [(3, 42), (2, 43), (0, 45), (4, 41)] 41 (by kernel_rfl) rfl (by kernel_rfl) (by rfl) (fun w1 => ?_) (fun w1 hw1 => ?_) ?_
      · simp only [pk, nthSp, lexVals]
        rfl
      · simp only [pk, nthSp, lexVals]
        have hm := HKc.out w1 (HX.out w1 hw1)
        have HM := Lib.hid hm
        clear hm hw1
        go_simp
        refine HM.out.mono ?_
        rintro e w2 ⟨rfl, hE2⟩
        exact ⟨_, rfl, hE2, rfl⟩
      refine lx_ge (.agg RV) [(5, 41)] 41 (by kernel_rfl) rfl (by kernel_rfl) (by rfl) (fun w1 => ?_) (fun w1 hw1 => ?_) ?_
      · simp only [pk, nthSp, lexVals]
        rfl
      · simp only [pk, nthSp, lexVals]
        exact lu_row rfl rfl ((HX.out w1 hw1).keep HR7.out) Tryd.underlying26 rfl (by rw [Hsr.out]; kernel_rfl)
      refine lx_ge (.pointer (some ⟨g + 1, 1, none⟩)) [(6, 41)] 41 (by kernel_rfl) rfl (by kernel_rfl) (by rfl) (fun w1 => ?_) (fun w1 hw1 => ?_) ?_
      · simp only [pk, nthSp, lexVals]
        rfl
      · simp only [pk, nthSp, lexVals]
        go_simp
        exact ⟨Ext.refl _, rfl⟩
      refine lx_ge (.agg (hdV q.a.1)) [(0, 48), (7, 41)] 41 (by kernel_rfl) rfl (by kernel_rfl) (by rfl) (fun w1 => ?_) (fun w1 hw1 => ?_) ?_
      · simp only [pk, nthSp, lexVals]
        rfl
      · simp only [pk, nthSp, lexVals]
        exact lu_hmid rfl rfl (HrA.out w1 (HX.out w1 hw1))
      refine lx_ge (.bool D) [(2, 47), (0, 49), (8, 41)] 41 (by kernel_rfl) rfl (by kernel_rfl) (by rfl) (fun w1 => ?_) (fun w1 hw1 => ?_) ?_
      · simp only [pk, nthSp, lexVals]
        rfl
      · simp only [pk, nthSp, lexVals]
        have hm := HKd.out w1 (HX.out w1 hw1)
        have HM := Lib.hid hm
        clear hm hw1
        go_simp
        refine HM.out.mono ?_
        rintro e w2 ⟨rfl, hE2⟩
        exact ⟨_, rfl, hE2, rfl⟩
      refine lx_ge (.bool true) [(4, 46), (0, 50), (9, 41)] 41 (by kernel_rfl) rfl (by kernel_rfl) (by rfl) (fun w1 => ?_) (fun w1 hw1 => ?_) ?_
      · simp only [pk, nthSp, lexVals]
        rfl
      · simp only [pk, nthSp, lexVals]
        go_simp
        exact ⟨Ext.refl _, by first | rfl | simp⟩
      refine lx_e (.bool true) [(10, 41), (0, 51)] (by kernel_rfl) rfl (by rfl) (fun w1 hw1 => ?_) ?_
      · simp only [pk, nthSp, lexVals]
        go_simp
        exact ⟨Ext.refl _, rfl⟩
      refine lx_e (.bool true) [(0, 52)] (by kernel_rfl) rfl (by rfl) (fun w1 hw1 => ?_) ?_
      · simp only [pk, nthSp, lexVals]
        go_simp
        exact ⟨Ext.refl _, rfl⟩
      refine lx_stopA (by rfl) fun w19 hw19 => ?_
      have HE := Lib.hid (HE.out.trans (HX.out w19 hw19))
      clear hw19
      simp only [rv, pf, lexVals]
      simp only [Act.put, List.setIfInBounds_toArray, List.set_cons_zero, List.set_cons_succ]
      go_wp2
      go_ret
      exact ⟨rfl, HE.out⟩

end Go.Proofs.YtpiebfhcfkncoaaDoor
