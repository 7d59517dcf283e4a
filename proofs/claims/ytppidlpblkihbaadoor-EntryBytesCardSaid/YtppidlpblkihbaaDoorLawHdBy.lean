/-
  The walk of jalousielaw12.EntryBytes: it answers true. Asked: the two tables lie as the text lays them.
-/
import Derived.Test.YtppidlpblkihbaaDoorAwk12
import Derived.Test.YtppidlpblkihbaaDoorHdFw
import Derived.Test.YtppidlpblkihbaaDoorHdHash
import Derived.Test.YtppidlpblkihbaaDoorRefHdB
import Derived.Test.YtppidlpblkihbaaDoorHdPar
import Derived.Test.YtppidlpblkihbaaDoorRefSum
namespace Go.Proofs.YtppidlpblkihbaaDoor
open Go.ChangeShapes Go.WideShapes Go.ChangeAt Go.RowKit

set_option maxRecDepth 100000 in
theorem fewHd_any (h : Hd) (w : World) (_hs : h.tn ≤ 140737488355328) : Calls Tryd.prog 30 #[.agg (hdV h)] w fun e w' => e = .returned (.bool (decide (h.tn ≤ 20))) ∧ Ext w w' := by
  obtain ⟨w2, hw2⟩ : ∃ w2, w.alloc (.cells (hdV h) 58) = w2 := ⟨_, rfl⟩
  have hE2 : Ext w w2 := by rw [← hw2]; exact (Ext.refl w).alloc _
  have hB2 : w2.heap[w.heap.size]? = some (.cells (hdV h) 58 (0, 0)) := by rw [← hw2]; exact heap_new w _ _ rfl
  have Hw2 := Lib.hid hw2
  have HE2 := Lib.hid hE2
  obtain ⟨g, hg⟩ : ∃ g, w.heap.size = g := ⟨_, rfl⟩
  rw [hg] at hB2
  have Hg := Lib.hid hg
  have c53 := hd_toks hB2
  obtain ⟨tn, htn⟩ : ∃ n, h.tn = n := ⟨_, rfl⟩
  rw [htn] at c53 ⊢
  clear hw2 hE2 hB2 hg htn _hs
  have HD := Lib.hid (show (decide ((tn : Int) ≤ 20)) = decide (tn ≤ 20) from by
    rw [Bool.eq_iff_iff, decide_eq_true_eq, decide_eq_true_eq]; omega)
  go_enter Tryd.func30, Tryd.ntmps30
  go_upto_region 1 with (fail)
  refine wp_world (w' := w2) Hw2.out ?_
  rw [Hg.out]
  clear Hw2 Hg
  go_wp2
  go_ret
  exact ⟨by rw [← HD.out]; rfl, HE2.out⟩

theorem own_sl_bs {w : World} {B : Nat} {v : Value} {X : List Int} (h : w.ownsRow B 5 1 v X.length (bv X)) (hb : ∀ x ∈ X, 0 ≤ x ∧ x < 256) (hl : X.length ≤ 1000) : ∃ q c, v = .slice q X.length c ∧ BsAt w q X.length c X := by
  obtain ⟨q, c, rfl, _, h2⟩ := owns_slice h
  exact ⟨q, c, rfl, owns_bs h hb (by unfold maxLen at h2; omega) (by omega)⟩

theorem neq_h (w : World) (f g : Nat → Int) : (binOp .neq 23 (.agg (rowArr 32 fun j => .int .u8 (f j))) (.agg (rowArr 32 fun j => .int .u8 (g j)))).run Tryd.prog w = .ok (.bool (!arrB 32 f g)) w :=
  run_neq_arr w 23 5 32 .u8 Tryd.underlying23 Tryd.underlying5 size_u8 f g

set_option maxHeartbeats 8000000 in
set_option maxRecDepth 100000 in
theorem lawHdBy_any (h g : Hd) (ts us : List (Nat → Int)) (w : World) (ho : HdOk h) (go : HdOk g) (ht : TsAt w h.ta h.tn h.tc ts) (hu : TsAt w g.ta g.tn g.tc us) (hk : KsAt 1 w) (hk2 : KsAt 0 w) :
    Calls Tryd.prog 8 #[.agg (hdV h), .agg (hdV g)] w fun e w' => e = .returned (.bool true) ∧ Ext w w' := by
  obtain ⟨w2, hw2, hE2, hB2, hG2⟩ := hd_box w h g
  obtain ⟨p, hp⟩ : ∃ p, w.heap.size = p := ⟨_, rfl⟩
  rw [hp] at hB2 hG2
  obtain ⟨q, hq⟩ : ∃ q, p + 1 = q := ⟨_, rfl⟩
  rw [hq] at hG2
  have Hp := Lib.hid hp
  have Hq := Lib.hid hq
  have hXb := bytesL_byte ho ht.len ht.byte
  have hXl := bytesL_le h ts
  have hYb := bytesL_byte go hu.len hu.byte
  have hYl := bytesL_le g us
  obtain ⟨A, hA⟩ : ∃ A, hdV h = A := ⟨_, rfl⟩
  obtain ⟨B, hB⟩ : ∃ B, hdV g = B := ⟨_, rfl⟩
  have Hsz := Lib.hid (hdV_size h)
  have HszB := Lib.hid (hdV_size g)
  have HFe := Lib.hid (fun w9 => fewHd_any h w9 ht.small)
  have HFg := Lib.hid (fun w9 => fewHd_any g w9 hu.small)
  have HFo := Lib.hid (fun w9 (h9 : Ext w w9) => formedHd_any h ts w9 ho (ht.ext h9))
  have HGo := Lib.hid (fun w9 (h9 : Ext w w9) => formedHd_any g us w9 go (hu.ext h9))
  have HRf := Lib.hid (fun w9 (h9 : Ext w w9) => refHd_any h ts w9 ho (ht.ext h9))
  have HBy := Lib.hid (show ∀ w9, Ext w w9 → Calls Tryd.prog 31 #[.agg (hdV h)] w9 fun e w' => ∃ v, e = .returned v ∧ (∃ q c, v = .slice q (bytesL h ts).length c ∧ BsAt w' q (bytesL h ts).length c (bytesL h ts)) ∧ Ext w9 w' from fun w9 h9 => (hdBytes_any h ts w9 ho (ht.ext h9)).mono fun _ _ ⟨v, h1, h2, h3⟩ => ⟨v, h1, own_sl_bs h2 hXb (by omega), h3⟩)
  have HRb := Lib.hid (show ∀ w9, Ext w w9 → Calls Tryd.prog 32 #[.agg (hdV h)] w9 fun e w' => ∃ v, e = .returned v ∧ (∃ q c, v = .slice q (bytesL h ts).length c ∧ BsAt w' q (bytesL h ts).length c (bytesL h ts)) ∧ Ext w9 w' from fun w9 h9 => (refHdBytes_any h ts w9 ho (ht.ext h9)).mono fun _ _ ⟨v, h1, h2, h3⟩ => ⟨v, h1, own_sl_bs h2 hXb (by omega), h3⟩)
  have HBg := Lib.hid (show ∀ w9, Ext w w9 → Calls Tryd.prog 32 #[.agg (hdV g)] w9 fun e w' => ∃ v, e = .returned v ∧ (∃ q n c, v = .slice q n c ∧ BsAt w' q n c (bytesL g us)) ∧ Ext w9 w' from fun w9 h9 => (refHdBytes_any g us w9 go (hu.ext h9)).mono fun _ _ ⟨v, h1, h2, h3⟩ => by
    obtain ⟨q, c, h4, h5⟩ := own_sl_bs h2 hYb (by omega)
    exact ⟨v, h1, ⟨q, _, c, h4, h5⟩, h3⟩)
  have HHa := Lib.hid (fun w9 (h9 : Ext w w9) => hdHash_any h ts w9 ho (ht.ext h9) (hdKs_ext hk h9))
  have HRs := Lib.hid (fun w9 q c (hb : BsAt w9 q (bytesL h ts).length c (bytesL h ts)) (h9 : Ext w w9) => refSum_any q _ c (bytesL h ts) w9 hb (by omega) (hdKs_ext hk2 h9))
  have HSm := Lib.hid (fun w9 (h9 : Ext w w9) => sameHd_any h h ts ts w9 (ht.ext h9) (ht.ext h9))
  have HSg := Lib.hid (fun w9 (h9 : Ext w w9) => sameHd_any h g ts us w9 (ht.ext h9) (hu.ext h9))
  rw [(sameB_iff ht.len ht.len).2 (HdEq.refl h ts)] at HSm
  have HSa := Lib.hid (fun (hf : hdB h ts = true) (gf : hdB g us = true) => same_bytes ho go ht.len hu.len hf gf)
  have HPa := Lib.hid (fun q n c w9 (hb : BsAt w9 q n c (bytesL h ts)) => parseHd_any q n c (bytesL h ts) w9 hb)
  have HFw := Lib.hid (fun (hf : hdB h ts = true) a c => hd_fwd ho ht.len hf a c)
  have HSp := Lib.hid (show hdB h ts = true → ∀ a c w9, Ext w w9 → TsAt w9 a (hq8 (bytesL h ts)).1.toNat c (tsOf (bytesL h ts)) → Calls Tryd.prog 37 #[.agg (hdV (hdOf (bytesL h ts) a c)), .agg (hdV h)] w9 fun e w' => e = .returned (.bool true) ∧ Ext w9 w' from fun hf a c w9 h9 hs => by
    have h1 := sameHd_any (hdOf (bytesL h ts) a c) h (tsOf (bytesL h ts)) ts w9 hs (ht.ext h9)
    rw [(sameB_iff (tsOf_len _ a c) ht.len).2 (HFw.out hf a c).2.2] at h1
    exact h1)
  have HNil := Lib.hid (show hdB h ts = false → bytesL h ts = [] from fun hf => by unfold bytesL; rw [hf]; rfl)
  have HPos := Lib.hid (show hdB h ts = true → 0 < (bytesL h ts).length from fun hf => by unfold bytesL; rw [if_pos hf, List.length_append, ln_length]; omega)
  have keq := neq_h
  have Hw2 := Lib.hid hw2
  have HE2 := Lib.hid hE2
  have HB2 := Lib.hid hB2
  have HG2 := Lib.hid hG2
  obtain ⟨X, hX⟩ : ∃ X, bytesL h ts = X := ⟨_, rfl⟩
  rw [hX] at HBy HRb HHa HRs HSa HPa HFw HSp HNil HPos hXl
  obtain ⟨Y, hY⟩ : ∃ Y, bytesL g us = Y := ⟨_, rfl⟩
  rw [hY] at HBg HSa
  obtain ⟨DF, hDF⟩ : ∃ D, shaF X = D := ⟨_, rfl⟩
  rw [hDF] at HHa HRs
  obtain ⟨D, hD⟩ : ∃ D, rowArr 32 (fun j => Value.int .u8 (DF j)) = D := ⟨_, rfl⟩
  have kdd : ∀ w, (binOp .neq 23 (.agg D) (.agg D)).run Tryd.prog w = .ok (.bool false) w := by
    intro w
    have h1 := keq w DF DF
    rw [hD] at h1
    rw [h1, show arrB 32 DF DF = true from decide_eq_true fun _ _ => rfl]
    rfl
  rw [hD] at HHa HRs
  have HYb := Lib.hid hYb
  rw [hY] at HYb
  have HXb := Lib.hid hXb
  rw [hX] at HXb
  obtain ⟨S, hS⟩ : ∃ S, sameB h g ts us = S := ⟨_, rfl⟩
  rw [hS] at HSg HSa
  rw [hA] at Hsz HFe HFo HRf HBy HRb HHa HSm HSg HSp HB2 ⊢
  rw [hB] at HszB HFg HGo HBg HSg HG2 ⊢
  rw [hA, hB] at Hw2
  obtain ⟨fh, hfh⟩ : ∃ f, decide (h.tn ≤ 20) = f := ⟨_, rfl⟩
  obtain ⟨fg, hfg⟩ : ∃ f, decide (g.tn ≤ 20) = f := ⟨_, rfl⟩
  rw [hfh] at HFe
  rw [hfg] at HFg
  obtain ⟨F, hF⟩ : ∃ F, hdB h ts = F := ⟨_, rfl⟩
  obtain ⟨G, hG⟩ : ∃ F, hdB g us = F := ⟨_, rfl⟩
  rw [hF] at HFo HRf HSa HFw HSp HNil HPos
  rw [hG] at HGo HSa
  obtain ⟨N, hN⟩ : ∃ N, X.length = N := ⟨_, rfl⟩
  have HN := Lib.hid hN
  rw [hN] at HBy HRb HRs HPos hXl
  clear hp hq hA hB hw2 hE2 hB2 hG2 ho go ht hu hk hk2 hX hY hD hDF hS hfh hfg hF hG hN keq hXb hYb hYl
  cases fh with
  | false =>
    go_enter Tryd.func8, Tryd.ntmps8
    go_upto_region 1 with (fail)
    refine wp_world (w' := w2) Hw2.out ?_
    rw [Hp.out, Hq.out]
    clear Hw2
    go_wp2_with fail
    refine (awake12_any w2).mono ?_
    rintro e w3 ⟨rfl, hE⟩
    have HE3 := Lib.hid (HE2.out.trans hE)
    have HPB := Lib.hid (hE.keep HB2.out)
    have HQB := Lib.hid (hE.keep HG2.out)
    clear hE
    go_wp2_with (refine wpList_load_rowW rfl 58 _ rfl p rfl _ _ _ _ HPB.out Tryd.underlying58 rfl (by rw [Hsz.out]; kernel_rfl) ?_)
    refine (HFe.out w3).mono ?_
    rintro e w4 ⟨rfl, hE⟩
    have HE4 := Lib.hid (HE3.out.trans hE)
    have HPB := Lib.hid (hE.keep HPB.out)
    have HQB := Lib.hid (hE.keep HQB.out)
    clear hE
    go_wp2_with fail
    refine (awake12_any w4).mono ?_
    rintro e w9 ⟨rfl, hE⟩
    have HE9 := Lib.hid (HE4.out.trans hE)
    clear hE
    go_wp2
    go_ret
    exact ⟨rfl, HE9.out⟩
  | true =>
  cases fg with
  | false =>
    go_enter Tryd.func8, Tryd.ntmps8
    go_upto_region 1 with (fail)
    refine wp_world (w' := w2) Hw2.out ?_
    rw [Hp.out, Hq.out]
    clear Hw2
    go_wp2_with fail
    refine (awake12_any w2).mono ?_
    rintro e w3 ⟨rfl, hE⟩
    have HE3 := Lib.hid (HE2.out.trans hE)
    have HPB := Lib.hid (hE.keep HB2.out)
    have HQB := Lib.hid (hE.keep HG2.out)
    clear hE
    go_wp2_with (refine wpList_load_rowW rfl 58 _ rfl p rfl _ _ _ _ HPB.out Tryd.underlying58 rfl (by rw [Hsz.out]; kernel_rfl) ?_)
    refine (HFe.out w3).mono ?_
    rintro e w4 ⟨rfl, hE⟩
    have HE4 := Lib.hid (HE3.out.trans hE)
    have HPB := Lib.hid (hE.keep HPB.out)
    have HQB := Lib.hid (hE.keep HQB.out)
    clear hE
    go_wp2_with (refine wpList_load_rowW rfl 58 _ rfl q rfl _ _ _ _ HQB.out Tryd.underlying58 rfl (by rw [HszB.out]; kernel_rfl) ?_)
    refine (HFg.out w4).mono ?_
    rintro e w5 ⟨rfl, hE⟩
    have HE5 := Lib.hid (HE4.out.trans hE)
    have HPB := Lib.hid (hE.keep HPB.out)
    have HQB := Lib.hid (hE.keep HQB.out)
    clear hE
    go_wp2_with fail
    refine (awake12_any w5).mono ?_
    rintro e w9 ⟨rfl, hE⟩
    have HE9 := Lib.hid (HE5.out.trans hE)
    clear hE
    go_wp2
    go_ret
    exact ⟨rfl, HE9.out⟩
  | true =>
  cases F with
  | false =>
    go_enter Tryd.func8, Tryd.ntmps8
    go_upto_region 1 with (fail)
    refine wp_world (w' := w2) Hw2.out ?_
    rw [Hp.out, Hq.out]
    clear Hw2
    go_wp2_with fail
    refine (awake12_any w2).mono ?_
    rintro e w3 ⟨rfl, hE⟩
    have HE3 := Lib.hid (HE2.out.trans hE)
    have HPB := Lib.hid (hE.keep HB2.out)
    have HQB := Lib.hid (hE.keep HG2.out)
    clear hE
    go_wp2_with (refine wpList_load_rowW rfl 58 _ rfl p rfl _ _ _ _ HPB.out Tryd.underlying58 rfl (by rw [Hsz.out]; kernel_rfl) ?_)
    refine (HFe.out w3).mono ?_
    rintro e w4 ⟨rfl, hE⟩
    have HE4 := Lib.hid (HE3.out.trans hE)
    have HPB := Lib.hid (hE.keep HPB.out)
    have HQB := Lib.hid (hE.keep HQB.out)
    clear hE
    go_wp2_with (refine wpList_load_rowW rfl 58 _ rfl q rfl _ _ _ _ HQB.out Tryd.underlying58 rfl (by rw [HszB.out]; kernel_rfl) ?_)
    refine (HFg.out w4).mono ?_
    rintro e w5 ⟨rfl, hE⟩
    have HE5 := Lib.hid (HE4.out.trans hE)
    have HPB := Lib.hid (hE.keep HPB.out)
    have HQB := Lib.hid (hE.keep HQB.out)
    clear hE
    go_wp2_with (refine wpList_load_rowW rfl 58 _ rfl p rfl _ _ _ _ HPB.out Tryd.underlying58 rfl (by rw [Hsz.out]; kernel_rfl) ?_)
    refine (HBy.out w5 HE5.out).mono ?_
    rintro e w6 ⟨v6, rfl, ⟨qb, cb, rfl, hb⟩, hE⟩
    have HE6 := Lib.hid (HE5.out.trans hE)
    have HPB := Lib.hid (hE.keep HPB.out)
    have HQB := Lib.hid (hE.keep HQB.out)
    have HBb := Lib.hid hb
    clear hE hb
    go_wp2_with (refine wpList_load_rowW rfl 58 _ rfl p rfl _ _ _ _ HPB.out Tryd.underlying58 rfl (by rw [Hsz.out]; kernel_rfl) ?_)
    refine (HRb.out w6 HE6.out).mono ?_
    rintro e w7 ⟨v7, rfl, ⟨qc, cc, rfl, hb⟩, hE⟩
    have HE7 := Lib.hid (HE6.out.trans hE)
    have HPB := Lib.hid (hE.keep HPB.out)
    have HQB := Lib.hid (hE.keep HQB.out)
    have HBb := Lib.hid (HBb.out.ext hE)
    have HBc := Lib.hid hb
    have HX0 := Lib.hid (show ∀ x, Ext w7.drew x → Ext w7 x from fun x hx => Ext.trans (Ext.refl w7).drew hx)
    have HX1 := Lib.hid (show ∀ x, Ext w7.drew x → Ext w x from fun x hx => HE7.out.trans (HX0.out x hx))
    clear hE hb
    go_upto_region 5 with (fail)
    refine wp_region_lexA (by kernel_rfl) (by kernel_rfl) ?_
    refine lx_e (.agg A) [] (by kernel_rfl) rfl (by rfl) (fun w1 hw1 => ?_) ?_
    · simp only [pk, lexVals]
      exact lu_row rfl rfl ((HX0.out w1 hw1).keep HPB.out) Tryd.underlying58 rfl (by rw [Hsz.out]; kernel_rfl)
    refine lx_e (.bool false) [(0, 26)] (by kernel_rfl) rfl (by rfl) (fun w1 hw1 => ?_) ?_
    · simp only [pk, nthSp, lexVals]
      have HM := Lib.hid (HFo.out w1 (HX1.out w1 hw1))
      clear hw1
      go_simp
      refine HM.out.mono ?_
      rintro e w2 ⟨rfl, hE2⟩
      exact ⟨_, rfl, hE2, rfl⟩
    refine lx_e (.agg A) [] (by kernel_rfl) rfl (by rfl) (fun w1 hw1 => ?_) ?_
    · simp only [pk, lexVals]
      exact lu_row rfl rfl ((HX0.out w1 hw1).keep HPB.out) Tryd.underlying58 rfl (by rw [Hsz.out]; kernel_rfl)
    refine lx_e (.bool false) [(0, 28)] (by kernel_rfl) rfl (by rfl) (fun w1 hw1 => ?_) ?_
    · simp only [pk, nthSp, lexVals]
      have HM := Lib.hid (HRf.out w1 (HX1.out w1 hw1))
      clear hw1
      go_simp
      refine HM.out.mono ?_
      rintro e w2 ⟨rfl, hE2⟩
      exact ⟨_, rfl, hE2, rfl⟩
    refine lx_e (.bool false) [(2, 27), (0, 29)] (by kernel_rfl) rfl (by rfl) (fun w1 hw1 => ?_) ?_
    · simp only [pk, nthSp, lexVals]
      go_simp
      exact ⟨Ext.refl _, rfl⟩
    refine lx_e (.bool false) [(0, 30)] (by kernel_rfl) rfl (by rfl) (fun w1 hw1 => ?_) ?_
    · simp only [pk, nthSp, lexVals]
      go_simp
      exact ⟨Ext.refl _, rfl⟩
    refine lx_ge (.slice qb N cb) [(0, 31)] 31 (by kernel_rfl) rfl (by kernel_rfl) (by rfl) (fun w1 => ?_) (fun w1 hw1 => ?_) ?_
    · simp only [pk, nthSp, lexVals]
      rfl
    · simp only [pk, nthSp, lexVals]
      go_simp
      exact ⟨Ext.refl _, rfl⟩
    refine lx_ge (.string (strOf X)) [(0, 32), (1, 31)] 31 (by kernel_rfl) rfl (by kernel_rfl) (by rfl) (fun w1 => ?_) (fun w1 hw1 => ?_) ?_
    · simp only [pk, nthSp, lexVals]
      rfl
    · simp only [pk, nthSp, lexVals]
      exact lu_str rfl rfl (HBb.out.ext (HX0.out w1 hw1))
    refine lx_ge (.slice qc N cc) [(2, 31)] 31 (by kernel_rfl) rfl (by kernel_rfl) (by rfl) (fun w1 => ?_) (fun w1 hw1 => ?_) ?_
    · simp only [pk, nthSp, lexVals]
      rfl
    · simp only [pk, nthSp, lexVals]
      go_simp
      exact ⟨Ext.refl _, rfl⟩
    refine lx_ge (.string (strOf X)) [(0, 34), (3, 31)] 31 (by kernel_rfl) rfl (by kernel_rfl) (by rfl) (fun w1 => ?_) (fun w1 hw1 => ?_) ?_
    · simp only [pk, nthSp, lexVals]
      rfl
    · simp only [pk, nthSp, lexVals]
      exact lu_str rfl rfl (HBc.out.ext (HX0.out w1 hw1))
    refine lx_ge (.bool false) [(2, 33), (0, 35), (4, 31)] 31 (by kernel_rfl) rfl (by kernel_rfl) (by rfl) (fun w1 => ?_) (fun w1 hw1 => ?_) ?_
    · simp only [pk, nthSp, lexVals]
      rfl
    · simp only [pk, nthSp, lexVals]
      go_simp
      exact ⟨Ext.refl _, rfl⟩
    refine lx_e (.bool false) [(5, 31), (0, 36)] (by kernel_rfl) rfl (by rfl) (fun w1 hw1 => ?_) ?_
    · simp only [pk, nthSp, lexVals]
      go_simp
      exact ⟨Ext.refl _, rfl⟩
    refine lx_e (.bool false) [(0, 37)] (by kernel_rfl) rfl (by rfl) (fun w1 hw1 => ?_) ?_
    · simp only [pk, nthSp, lexVals]
      go_simp
      exact ⟨Ext.refl _, rfl⟩
    refine lx_ge (.agg A) [(0, 38)] 38 (by kernel_rfl) rfl (by kernel_rfl) (by rfl) (fun w1 => ?_) (fun w1 hw1 => ?_) ?_
    · simp only [pk, nthSp, lexVals]
      rfl
    · simp only [pk, nthSp, lexVals]
      exact lu_row rfl rfl ((HX0.out w1 hw1).keep HPB.out) Tryd.underlying58 rfl (by rw [Hsz.out]; kernel_rfl)
    refine lx_ge (.agg D) [(0, 39), (1, 38)] 38 (by kernel_rfl) rfl (by kernel_rfl) (by rfl) (fun w1 => ?_) (fun w1 hw1 => ?_) ?_
    · simp only [pk, nthSp, lexVals]
      rfl
    · simp only [pk, nthSp, lexVals]
      have HM := Lib.hid (HHa.out w1 (HX1.out w1 hw1))
      clear hw1
      go_simp
      refine HM.out.mono ?_
      rintro e w2 ⟨rfl, hE2⟩
      exact ⟨_, rfl, hE2, rfl⟩
    refine lx_ge (.slice qc N cc) [(2, 38)] 38 (by kernel_rfl) rfl (by kernel_rfl) (by rfl) (fun w1 => ?_) (fun w1 hw1 => ?_) ?_
    · simp only [pk, nthSp, lexVals]
      rfl
    · simp only [pk, nthSp, lexVals]
      go_simp
      exact ⟨Ext.refl _, rfl⟩
    refine lx_ge (.agg D) [(0, 41), (3, 38)] 38 (by kernel_rfl) rfl (by kernel_rfl) (by rfl) (fun w1 => ?_) (fun w1 hw1 => ?_) ?_
    · simp only [pk, nthSp, lexVals]
      rfl
    · simp only [pk, nthSp, lexVals]
      have HM := Lib.hid (HRs.out w1 qc cc (HBc.out.ext (HX0.out w1 hw1)) (HX1.out w1 hw1))
      clear hw1
      go_simp
      refine HM.out.mono ?_
      rintro e w2 ⟨rfl, hE2⟩
      exact ⟨_, rfl, hE2, rfl⟩
    refine lx_ge (.bool false) [(2, 40), (0, 42), (4, 38)] 38 (by kernel_rfl) rfl (by kernel_rfl) (by rfl) (fun w1 => ?_) (fun w1 hw1 => ?_) ?_
    · simp only [pk, nthSp, lexVals]
      rfl
    · simp only [pk, nthSp, lexVals]
      go_simp
      exact ⟨Ext.refl _, rfl⟩
    refine lx_e (.bool false) [(5, 38), (0, 43)] (by kernel_rfl) rfl (by rfl) (fun w1 hw1 => ?_) ?_
    · simp only [pk, nthSp, lexVals]
      go_simp
      exact ⟨Ext.refl _, rfl⟩
    refine lx_e (.bool false) [(0, 44)] (by kernel_rfl) rfl (by rfl) (fun w1 hw1 => ?_) ?_
    · simp only [pk, nthSp, lexVals]
      go_simp
      exact ⟨Ext.refl _, rfl⟩
    refine lx_ge (.agg A) [(0, 45)] 45 (by kernel_rfl) rfl (by kernel_rfl) (by rfl) (fun w1 => ?_) (fun w1 hw1 => ?_) ?_
    · simp only [pk, nthSp, lexVals]
      rfl
    · simp only [pk, nthSp, lexVals]
      exact lu_row rfl rfl ((HX0.out w1 hw1).keep HPB.out) Tryd.underlying58 rfl (by rw [Hsz.out]; kernel_rfl)
    refine lx_ge (.agg A) [(1, 45)] 45 (by kernel_rfl) rfl (by kernel_rfl) (by rfl) (fun w1 => ?_) (fun w1 hw1 => ?_) ?_
    · simp only [pk, nthSp, lexVals]
      rfl
    · simp only [pk, nthSp, lexVals]
      exact lu_row rfl rfl ((HX0.out w1 hw1).keep HPB.out) Tryd.underlying58 rfl (by rw [Hsz.out]; kernel_rfl)
    refine lx_ge (.bool true) [(1, 46), (0, 47), (2, 45)] 45 (by kernel_rfl) rfl (by kernel_rfl) (by rfl) (fun w1 => ?_) (fun w1 hw1 => ?_) ?_
    · simp only [pk, nthSp, lexVals]
      rfl
    · simp only [pk, nthSp, lexVals]
      have HM := Lib.hid (HSm.out w1 (HX1.out w1 hw1))
      clear hw1
      go_simp
      refine HM.out.mono ?_
      rintro e w2 ⟨rfl, hE2⟩
      exact ⟨_, rfl, hE2, rfl⟩
    refine lx_ge (.bool false) [(0, 48), (3, 45)] 45 (by kernel_rfl) rfl (by kernel_rfl) (by rfl) (fun w1 => ?_) (fun w1 hw1 => ?_) ?_
    · simp only [pk, nthSp, lexVals]
      rfl
    · simp only [pk, nthSp, lexVals]
      go_simp
      exact ⟨Ext.refl _, rfl⟩
    refine lx_e (.bool false) [(4, 45), (0, 49)] (by kernel_rfl) rfl (by rfl) (fun w1 hw1 => ?_) ?_
    · simp only [pk, nthSp, lexVals]
      go_simp
      exact ⟨Ext.refl _, rfl⟩
    refine lx_stopA (by rfl) fun w8 hw8 => ?_
    have HE8 := Lib.hid (HX1.out w8 hw8)
    have HPB := Lib.hid ((HX0.out w8 hw8).keep HPB.out)
    have HQB := Lib.hid ((HX0.out w8 hw8).keep HQB.out)
    have HBb := Lib.hid (HBb.out.ext (HX0.out w8 hw8))
    have HBc := Lib.hid (HBc.out.ext (HX0.out w8 hw8))
    clear hw8 HX0 HX1
    simp only [rv, pf, lexVals]
    simp only [Act.put, List.setIfInBounds_toArray, List.set_cons_zero, List.set_cons_succ]
    have HX0 := Lib.hid (show ∀ x, Ext w8.drew x → Ext w8 x from fun x hx => Ext.trans (Ext.refl w8).drew hx)
    have HX1 := Lib.hid (show ∀ x, Ext w8.drew x → Ext w x from fun x hx => HE8.out.trans (HX0.out x hx))
    go_upto_region 7 with (fail)
    refine wp_region_lexA (by kernel_rfl) (by kernel_rfl) ?_
    refine lx_e (.agg A) [] (by kernel_rfl) rfl (by rfl) (fun w1 hw1 => ?_) ?_
    · simp only [pk, lexVals]
      exact lu_row rfl rfl ((HX0.out w1 hw1).keep HPB.out) Tryd.underlying58 rfl (by rw [Hsz.out]; kernel_rfl)
    refine lx_e (.bool false) [(0, 51)] (by kernel_rfl) rfl (by rfl) (fun w1 hw1 => ?_) ?_
    · simp only [pk, nthSp, lexVals]
      have HM := Lib.hid (HFo.out w1 (HX1.out w1 hw1))
      clear hw1
      go_simp
      refine HM.out.mono ?_
      rintro e w2 ⟨rfl, hE2⟩
      exact ⟨_, rfl, hE2, rfl⟩
    refine lx_e (.bool false) [(0, 52)] (by kernel_rfl) rfl (by rfl) (fun w1 hw1 => ?_) ?_
    · simp only [pk, nthSp, lexVals]
      go_simp
      exact ⟨Ext.refl _, rfl⟩
    refine lx_no [(0, 53)] 53 (by kernel_rfl) rfl (by kernel_rfl) (by rfl) (fun w1 => ?_) ?_
    · simp only [pk, nthSp, lexVals]
      first | (go_simp; done) | (go_simp; exact fun h => by cases h)
    refine lx_no [(0, 54), (1, 53)] 53 (by kernel_rfl) rfl (by kernel_rfl) (by rfl) (fun w1 => ?_) ?_
    · simp only [pk, nthSp, lexVals]
      first | (go_simp; done) | (go_simp; exact fun h => by cases h)
    refine lx_e (.bool false) [(2, 53), (0, 55)] (by kernel_rfl) rfl (by rfl) (fun w1 hw1 => ?_) ?_
    · simp only [pk, nthSp, lexVals]
      go_simp
      exact ⟨Ext.refl _, rfl⟩
    refine lx_e (.bool false) [(0, 56)] (by kernel_rfl) rfl (by rfl) (fun w1 hw1 => ?_) ?_
    · simp only [pk, nthSp, lexVals]
      go_simp
      exact ⟨Ext.refl _, rfl⟩
    refine lx_no [(0, 57)] 57 (by kernel_rfl) rfl (by kernel_rfl) (by rfl) (fun w1 => ?_) ?_
    · simp only [pk, nthSp, lexVals]
      first | (go_simp; done) | (go_simp; exact fun h => by cases h)
    refine lx_no [(1, 57)] 57 (by kernel_rfl) rfl (by kernel_rfl) (by rfl) (fun w1 => ?_) ?_
    · simp only [pk, nthSp, lexVals]
      first | (go_simp; done) | (go_simp; exact fun h => by cases h)
    refine lx_no [(1, 58), (0, 59), (2, 57)] 57 (by kernel_rfl) rfl (by kernel_rfl) (by rfl) (fun w1 => ?_) ?_
    · simp only [pk, nthSp, lexVals]
      first | (go_simp; done) | (go_simp; exact fun h => by cases h)
    refine lx_no [(3, 57)] 57 (by kernel_rfl) rfl (by kernel_rfl) (by rfl) (fun w1 => ?_) ?_
    · simp only [pk, nthSp, lexVals]
      first | (go_simp; done) | (go_simp; exact fun h => by cases h)
    refine lx_no [(0, 61), (4, 57)] 57 (by kernel_rfl) rfl (by kernel_rfl) (by rfl) (fun w1 => ?_) ?_
    · simp only [pk, nthSp, lexVals]
      first | (go_simp; done) | (go_simp; exact fun h => by cases h)
    refine lx_no [(5, 57)] 57 (by kernel_rfl) rfl (by kernel_rfl) (by rfl) (fun w1 => ?_) ?_
    · simp only [pk, nthSp, lexVals]
      first | (go_simp; done) | (go_simp; exact fun h => by cases h)
    refine lx_no [(0, 63), (6, 57)] 57 (by kernel_rfl) rfl (by kernel_rfl) (by rfl) (fun w1 => ?_) ?_
    · simp only [pk, nthSp, lexVals]
      first | (go_simp; done) | (go_simp; exact fun h => by cases h)
    refine lx_no [(0, 64), (7, 57)] 57 (by kernel_rfl) rfl (by kernel_rfl) (by rfl) (fun w1 => ?_) ?_
    · simp only [pk, nthSp, lexVals]
      first | (go_simp; done) | (go_simp; exact fun h => by cases h)
    refine lx_no [(3, 62), (0, 65), (8, 57)] 57 (by kernel_rfl) rfl (by kernel_rfl) (by rfl) (fun w1 => ?_) ?_
    · simp only [pk, nthSp, lexVals]
      first | (go_simp; done) | (go_simp; exact fun h => by cases h)
    refine lx_no [(6, 60), (0, 66), (9, 57)] 57 (by kernel_rfl) rfl (by kernel_rfl) (by rfl) (fun w1 => ?_) ?_
    · simp only [pk, nthSp, lexVals]
      first | (go_simp; done) | (go_simp; exact fun h => by cases h)
    refine lx_e (.bool false) [(10, 57), (0, 67)] (by kernel_rfl) rfl (by rfl) (fun w1 hw1 => ?_) ?_
    · simp only [pk, nthSp, lexVals]
      go_simp
      exact ⟨Ext.refl _, rfl⟩
    refine lx_stopA (by rfl) fun w9 hw9 => ?_
    have HE9 := Lib.hid (HX1.out w9 hw9)
    have HPB := Lib.hid ((HX0.out w9 hw9).keep HPB.out)
    have HQB := Lib.hid ((HX0.out w9 hw9).keep HQB.out)
    have HBb := Lib.hid (HBb.out.ext (HX0.out w9 hw9))
    have HBc := Lib.hid (HBc.out.ext (HX0.out w9 hw9))
    clear hw9 HX0 HX1
    simp only [rv, pf, lexVals]
    simp only [Act.put, List.setIfInBounds_toArray, List.set_cons_zero, List.set_cons_succ]
    go_wp2_with fail
    refine (HPa.out qb N cb w9 HBb.out).mono ?_
    rintro e w10 ⟨⟨hv, rfl, hC, hZ⟩, hE⟩
    have HE10 := Lib.hid (HE9.out.trans hE)
    have Hall := Lib.hid (hdV_one hv)
    have HszP := Lib.hid (hdV_size hv)
    have hX0 := HNil.out (by first | rfl | trivial)
    have hN0 : N = 0 := by rw [← HN.out, hX0]; rfl
    rw [show hdTaken X = false by rw [hX0]; exact taken_nil]
    simp only [Bool.false_eq_true, if_false]
    obtain ⟨CV, hCV⟩ : ∃ CV, hdV hv = CV := ⟨_, rfl⟩
    rw [hCV] at HszP Hall ⊢
    have xN : (N : Int) = 0 := by omega
    clear hC hZ hE hCV hX0 hN0
    go_upto_region 10 with (refine wpList_store_row rfl 58 _ _ rfl w10.heap.size _ rfl rfl _ _ (heap_new w10 _ _ rfl) (by rw [HszP.out]; kernel_rfl) (by rw [HszP.out]; rfl) Hall.out ?_; rw [setRow_new w10 _ _ _ _ rfl])
    go_wp2
    go_ret
    exact ⟨rfl, HE10.out.alloc _⟩
  | true =>
  go_enter Tryd.func8, Tryd.ntmps8
  go_upto_region 1 with (fail)
  refine wp_world (w' := w2) Hw2.out ?_
  rw [Hp.out, Hq.out]
  clear Hw2
  go_wp2_with fail
  refine (awake12_any w2).mono ?_
  rintro e w3 ⟨rfl, hE⟩
  have HE3 := Lib.hid (HE2.out.trans hE)
  have HPB := Lib.hid (hE.keep HB2.out)
  have HQB := Lib.hid (hE.keep HG2.out)
  clear hE
  go_wp2_with (refine wpList_load_rowW rfl 58 _ rfl p rfl _ _ _ _ HPB.out Tryd.underlying58 rfl (by rw [Hsz.out]; kernel_rfl) ?_)
  refine (HFe.out w3).mono ?_
  rintro e w4 ⟨rfl, hE⟩
  have HE4 := Lib.hid (HE3.out.trans hE)
  have HPB := Lib.hid (hE.keep HPB.out)
  have HQB := Lib.hid (hE.keep HQB.out)
  clear hE
  go_wp2_with (refine wpList_load_rowW rfl 58 _ rfl q rfl _ _ _ _ HQB.out Tryd.underlying58 rfl (by rw [HszB.out]; kernel_rfl) ?_)
  refine (HFg.out w4).mono ?_
  rintro e w5 ⟨rfl, hE⟩
  have HE5 := Lib.hid (HE4.out.trans hE)
  have HPB := Lib.hid (hE.keep HPB.out)
  have HQB := Lib.hid (hE.keep HQB.out)
  clear hE
  go_wp2_with (refine wpList_load_rowW rfl 58 _ rfl p rfl _ _ _ _ HPB.out Tryd.underlying58 rfl (by rw [Hsz.out]; kernel_rfl) ?_)
  refine (HBy.out w5 HE5.out).mono ?_
  rintro e w6 ⟨v6, rfl, ⟨qb, cb, rfl, hb⟩, hE⟩
  have HE6 := Lib.hid (HE5.out.trans hE)
  have HPB := Lib.hid (hE.keep HPB.out)
  have HQB := Lib.hid (hE.keep HQB.out)
  have HBb := Lib.hid hb
  clear hE hb
  go_wp2_with (refine wpList_load_rowW rfl 58 _ rfl p rfl _ _ _ _ HPB.out Tryd.underlying58 rfl (by rw [Hsz.out]; kernel_rfl) ?_)
  refine (HRb.out w6 HE6.out).mono ?_
  rintro e w7 ⟨v7, rfl, ⟨qc, cc, rfl, hb⟩, hE⟩
  have HE7 := Lib.hid (HE6.out.trans hE)
  have HPB := Lib.hid (hE.keep HPB.out)
  have HQB := Lib.hid (hE.keep HQB.out)
  have HBb := Lib.hid (HBb.out.ext hE)
  have HBc := Lib.hid hb
  have HX0 := Lib.hid (show ∀ x, Ext w7.drew x → Ext w7 x from fun x hx => Ext.trans (Ext.refl w7).drew hx)
  have HX1 := Lib.hid (show ∀ x, Ext w7.drew x → Ext w x from fun x hx => HE7.out.trans (HX0.out x hx))
  clear hE hb
  go_upto_region 5 with (fail)
  refine wp_region_lexA (by kernel_rfl) (by kernel_rfl) ?_
  refine lx_e (.agg A) [] (by kernel_rfl) rfl (by rfl) (fun w1 hw1 => ?_) ?_
  · simp only [pk, lexVals]
    exact lu_row rfl rfl ((HX0.out w1 hw1).keep HPB.out) Tryd.underlying58 rfl (by rw [Hsz.out]; kernel_rfl)
  refine lx_e (.bool true) [(0, 26)] (by kernel_rfl) rfl (by rfl) (fun w1 hw1 => ?_) ?_
  · simp only [pk, nthSp, lexVals]
    have HM := Lib.hid (HFo.out w1 (HX1.out w1 hw1))
    clear hw1
    go_simp
    refine HM.out.mono ?_
    rintro e w2 ⟨rfl, hE2⟩
    exact ⟨_, rfl, hE2, rfl⟩
  refine lx_e (.agg A) [] (by kernel_rfl) rfl (by rfl) (fun w1 hw1 => ?_) ?_
  · simp only [pk, lexVals]
    exact lu_row rfl rfl ((HX0.out w1 hw1).keep HPB.out) Tryd.underlying58 rfl (by rw [Hsz.out]; kernel_rfl)
  refine lx_e (.bool true) [(0, 28)] (by kernel_rfl) rfl (by rfl) (fun w1 hw1 => ?_) ?_
  · simp only [pk, nthSp, lexVals]
    have HM := Lib.hid (HRf.out w1 (HX1.out w1 hw1))
    clear hw1
    go_simp
    refine HM.out.mono ?_
    rintro e w2 ⟨rfl, hE2⟩
    exact ⟨_, rfl, hE2, rfl⟩
  refine lx_e (.bool false) [(2, 27), (0, 29)] (by kernel_rfl) rfl (by rfl) (fun w1 hw1 => ?_) ?_
  · simp only [pk, nthSp, lexVals]
    go_simp
    exact ⟨Ext.refl _, rfl⟩
  refine lx_e (.bool false) [(0, 30)] (by kernel_rfl) rfl (by rfl) (fun w1 hw1 => ?_) ?_
  · simp only [pk, nthSp, lexVals]
    go_simp
    exact ⟨Ext.refl _, rfl⟩
  refine lx_ge (.slice qb N cb) [(0, 31)] 31 (by kernel_rfl) rfl (by kernel_rfl) (by rfl) (fun w1 => ?_) (fun w1 hw1 => ?_) ?_
  · simp only [pk, nthSp, lexVals]
    rfl
  · simp only [pk, nthSp, lexVals]
    go_simp
    exact ⟨Ext.refl _, rfl⟩
  refine lx_ge (.string (strOf X)) [(0, 32), (1, 31)] 31 (by kernel_rfl) rfl (by kernel_rfl) (by rfl) (fun w1 => ?_) (fun w1 hw1 => ?_) ?_
  · simp only [pk, nthSp, lexVals]
    rfl
  · simp only [pk, nthSp, lexVals]
    exact lu_str rfl rfl (HBb.out.ext (HX0.out w1 hw1))
  refine lx_ge (.slice qc N cc) [(2, 31)] 31 (by kernel_rfl) rfl (by kernel_rfl) (by rfl) (fun w1 => ?_) (fun w1 hw1 => ?_) ?_
  · simp only [pk, nthSp, lexVals]
    rfl
  · simp only [pk, nthSp, lexVals]
    go_simp
    exact ⟨Ext.refl _, rfl⟩
  refine lx_ge (.string (strOf X)) [(0, 34), (3, 31)] 31 (by kernel_rfl) rfl (by kernel_rfl) (by rfl) (fun w1 => ?_) (fun w1 hw1 => ?_) ?_
  · simp only [pk, nthSp, lexVals]
    rfl
  · simp only [pk, nthSp, lexVals]
    exact lu_str rfl rfl (HBc.out.ext (HX0.out w1 hw1))
  refine lx_ge (.bool false) [(2, 33), (0, 35), (4, 31)] 31 (by kernel_rfl) rfl (by kernel_rfl) (by rfl) (fun w1 => ?_) (fun w1 hw1 => ?_) ?_
  · simp only [pk, nthSp, lexVals]
    rfl
  · simp only [pk, nthSp, lexVals]
    go_simp
    exact ⟨Ext.refl _, rfl⟩
  refine lx_e (.bool false) [(5, 31), (0, 36)] (by kernel_rfl) rfl (by rfl) (fun w1 hw1 => ?_) ?_
  · simp only [pk, nthSp, lexVals]
    go_simp
    exact ⟨Ext.refl _, rfl⟩
  refine lx_e (.bool false) [(0, 37)] (by kernel_rfl) rfl (by rfl) (fun w1 hw1 => ?_) ?_
  · simp only [pk, nthSp, lexVals]
    go_simp
    exact ⟨Ext.refl _, rfl⟩
  refine lx_ge (.agg A) [(0, 38)] 38 (by kernel_rfl) rfl (by kernel_rfl) (by rfl) (fun w1 => ?_) (fun w1 hw1 => ?_) ?_
  · simp only [pk, nthSp, lexVals]
    rfl
  · simp only [pk, nthSp, lexVals]
    exact lu_row rfl rfl ((HX0.out w1 hw1).keep HPB.out) Tryd.underlying58 rfl (by rw [Hsz.out]; kernel_rfl)
  refine lx_ge (.agg D) [(0, 39), (1, 38)] 38 (by kernel_rfl) rfl (by kernel_rfl) (by rfl) (fun w1 => ?_) (fun w1 hw1 => ?_) ?_
  · simp only [pk, nthSp, lexVals]
    rfl
  · simp only [pk, nthSp, lexVals]
    have HM := Lib.hid (HHa.out w1 (HX1.out w1 hw1))
    clear hw1
    go_simp
    refine HM.out.mono ?_
    rintro e w2 ⟨rfl, hE2⟩
    exact ⟨_, rfl, hE2, rfl⟩
  refine lx_ge (.slice qc N cc) [(2, 38)] 38 (by kernel_rfl) rfl (by kernel_rfl) (by rfl) (fun w1 => ?_) (fun w1 hw1 => ?_) ?_
  · simp only [pk, nthSp, lexVals]
    rfl
  · simp only [pk, nthSp, lexVals]
    go_simp
    exact ⟨Ext.refl _, rfl⟩
  refine lx_ge (.agg D) [(0, 41), (3, 38)] 38 (by kernel_rfl) rfl (by kernel_rfl) (by rfl) (fun w1 => ?_) (fun w1 hw1 => ?_) ?_
  · simp only [pk, nthSp, lexVals]
    rfl
  · simp only [pk, nthSp, lexVals]
    have HM := Lib.hid (HRs.out w1 qc cc (HBc.out.ext (HX0.out w1 hw1)) (HX1.out w1 hw1))
    clear hw1
    go_simp
    refine HM.out.mono ?_
    rintro e w2 ⟨rfl, hE2⟩
    exact ⟨_, rfl, hE2, rfl⟩
  refine lx_ge (.bool false) [(2, 40), (0, 42), (4, 38)] 38 (by kernel_rfl) rfl (by kernel_rfl) (by rfl) (fun w1 => ?_) (fun w1 hw1 => ?_) ?_
  · simp only [pk, nthSp, lexVals]
    rfl
  · simp only [pk, nthSp, lexVals]
    go_simp
    exact ⟨Ext.refl _, rfl⟩
  refine lx_e (.bool false) [(5, 38), (0, 43)] (by kernel_rfl) rfl (by rfl) (fun w1 hw1 => ?_) ?_
  · simp only [pk, nthSp, lexVals]
    go_simp
    exact ⟨Ext.refl _, rfl⟩
  refine lx_e (.bool false) [(0, 44)] (by kernel_rfl) rfl (by rfl) (fun w1 hw1 => ?_) ?_
  · simp only [pk, nthSp, lexVals]
    go_simp
    exact ⟨Ext.refl _, rfl⟩
  refine lx_ge (.agg A) [(0, 45)] 45 (by kernel_rfl) rfl (by kernel_rfl) (by rfl) (fun w1 => ?_) (fun w1 hw1 => ?_) ?_
  · simp only [pk, nthSp, lexVals]
    rfl
  · simp only [pk, nthSp, lexVals]
    exact lu_row rfl rfl ((HX0.out w1 hw1).keep HPB.out) Tryd.underlying58 rfl (by rw [Hsz.out]; kernel_rfl)
  refine lx_ge (.agg A) [(1, 45)] 45 (by kernel_rfl) rfl (by kernel_rfl) (by rfl) (fun w1 => ?_) (fun w1 hw1 => ?_) ?_
  · simp only [pk, nthSp, lexVals]
    rfl
  · simp only [pk, nthSp, lexVals]
    exact lu_row rfl rfl ((HX0.out w1 hw1).keep HPB.out) Tryd.underlying58 rfl (by rw [Hsz.out]; kernel_rfl)
  refine lx_ge (.bool true) [(1, 46), (0, 47), (2, 45)] 45 (by kernel_rfl) rfl (by kernel_rfl) (by rfl) (fun w1 => ?_) (fun w1 hw1 => ?_) ?_
  · simp only [pk, nthSp, lexVals]
    rfl
  · simp only [pk, nthSp, lexVals]
    have HM := Lib.hid (HSm.out w1 (HX1.out w1 hw1))
    clear hw1
    go_simp
    refine HM.out.mono ?_
    rintro e w2 ⟨rfl, hE2⟩
    exact ⟨_, rfl, hE2, rfl⟩
  refine lx_ge (.bool false) [(0, 48), (3, 45)] 45 (by kernel_rfl) rfl (by kernel_rfl) (by rfl) (fun w1 => ?_) (fun w1 hw1 => ?_) ?_
  · simp only [pk, nthSp, lexVals]
    rfl
  · simp only [pk, nthSp, lexVals]
    go_simp
    exact ⟨Ext.refl _, rfl⟩
  refine lx_e (.bool false) [(4, 45), (0, 49)] (by kernel_rfl) rfl (by rfl) (fun w1 hw1 => ?_) ?_
  · simp only [pk, nthSp, lexVals]
    go_simp
    exact ⟨Ext.refl _, rfl⟩
  refine lx_stopA (by rfl) fun w8 hw8 => ?_
  have HE8 := Lib.hid (HX1.out w8 hw8)
  have HPB := Lib.hid ((HX0.out w8 hw8).keep HPB.out)
  have HQB := Lib.hid ((HX0.out w8 hw8).keep HQB.out)
  have HBb := Lib.hid (HBb.out.ext (HX0.out w8 hw8))
  have HBc := Lib.hid (HBc.out.ext (HX0.out w8 hw8))
  clear hw8 HX0 HX1
  simp only [rv, pf, lexVals]
  simp only [Act.put, List.setIfInBounds_toArray, List.set_cons_zero, List.set_cons_succ]
  have HX0 := Lib.hid (show ∀ x, Ext w8.drew x → Ext w8 x from fun x hx => Ext.trans (Ext.refl w8).drew hx)
  have HX1 := Lib.hid (show ∀ x, Ext w8.drew x → Ext w x from fun x hx => HE8.out.trans (HX0.out x hx))
  go_upto_region 7 with (fail)
  refine wp_region_lexA (by kernel_rfl) (by kernel_rfl) ?_
  cases G with
  | false =>
    refine lx_e (.agg A) [] (by kernel_rfl) rfl (by rfl) (fun w1 hw1 => ?_) ?_
    · simp only [pk, lexVals]
      exact lu_row rfl rfl ((HX0.out w1 hw1).keep HPB.out) Tryd.underlying58 rfl (by rw [Hsz.out]; kernel_rfl)
    refine lx_e (.bool true) [(0, 51)] (by kernel_rfl) rfl (by rfl) (fun w1 hw1 => ?_) ?_
    · simp only [pk, nthSp, lexVals]
      have HM := Lib.hid (HFo.out w1 (HX1.out w1 hw1))
      clear hw1
      go_simp
      refine HM.out.mono ?_
      rintro e w2 ⟨rfl, hE2⟩
      exact ⟨_, rfl, hE2, rfl⟩
    refine lx_e (.bool true) [(0, 52)] (by kernel_rfl) rfl (by rfl) (fun w1 hw1 => ?_) ?_
    · simp only [pk, nthSp, lexVals]
      go_simp
      exact ⟨Ext.refl _, rfl⟩
    refine lx_ge (.agg B) [(0, 53)] 53 (by kernel_rfl) rfl (by kernel_rfl) (by rfl) (fun w1 => ?_) (fun w1 hw1 => ?_) ?_
    · simp only [pk, nthSp, lexVals]
      rfl
    · simp only [pk, nthSp, lexVals]
      exact lu_row rfl rfl ((HX0.out w1 hw1).keep HQB.out) Tryd.underlying58 rfl (by rw [HszB.out]; kernel_rfl)
    refine lx_ge (.bool false) [(0, 54), (1, 53)] 53 (by kernel_rfl) rfl (by kernel_rfl) (by rfl) (fun w1 => ?_) (fun w1 hw1 => ?_) ?_
    · simp only [pk, nthSp, lexVals]
      rfl
    · simp only [pk, nthSp, lexVals]
      have HM := Lib.hid (HGo.out w1 (HX1.out w1 hw1))
      clear hw1
      go_simp
      refine HM.out.mono ?_
      rintro e w2 ⟨rfl, hE2⟩
      exact ⟨_, rfl, hE2, rfl⟩
    refine lx_e (.bool false) [(2, 53), (0, 55)] (by kernel_rfl) rfl (by rfl) (fun w1 hw1 => ?_) ?_
    · simp only [pk, nthSp, lexVals]
      go_simp
      exact ⟨Ext.refl _, rfl⟩
    refine lx_e (.bool false) [(0, 56)] (by kernel_rfl) rfl (by rfl) (fun w1 hw1 => ?_) ?_
    · simp only [pk, nthSp, lexVals]
      go_simp
      exact ⟨Ext.refl _, rfl⟩
    refine lx_no [(0, 57)] 57 (by kernel_rfl) rfl (by kernel_rfl) (by rfl) (fun w1 => ?_) ?_
    · simp only [pk, nthSp, lexVals]
      first | (go_simp; done) | (go_simp; exact fun h => by cases h)
    refine lx_no [(1, 57)] 57 (by kernel_rfl) rfl (by kernel_rfl) (by rfl) (fun w1 => ?_) ?_
    · simp only [pk, nthSp, lexVals]
      first | (go_simp; done) | (go_simp; exact fun h => by cases h)
    refine lx_no [(1, 58), (0, 59), (2, 57)] 57 (by kernel_rfl) rfl (by kernel_rfl) (by rfl) (fun w1 => ?_) ?_
    · simp only [pk, nthSp, lexVals]
      first | (go_simp; done) | (go_simp; exact fun h => by cases h)
    refine lx_no [(3, 57)] 57 (by kernel_rfl) rfl (by kernel_rfl) (by rfl) (fun w1 => ?_) ?_
    · simp only [pk, nthSp, lexVals]
      first | (go_simp; done) | (go_simp; exact fun h => by cases h)
    refine lx_no [(0, 61), (4, 57)] 57 (by kernel_rfl) rfl (by kernel_rfl) (by rfl) (fun w1 => ?_) ?_
    · simp only [pk, nthSp, lexVals]
      first | (go_simp; done) | (go_simp; exact fun h => by cases h)
    refine lx_no [(5, 57)] 57 (by kernel_rfl) rfl (by kernel_rfl) (by rfl) (fun w1 => ?_) ?_
    · simp only [pk, nthSp, lexVals]
      first | (go_simp; done) | (go_simp; exact fun h => by cases h)
    refine lx_no [(0, 63), (6, 57)] 57 (by kernel_rfl) rfl (by kernel_rfl) (by rfl) (fun w1 => ?_) ?_
    · simp only [pk, nthSp, lexVals]
      first | (go_simp; done) | (go_simp; exact fun h => by cases h)
    refine lx_no [(0, 64), (7, 57)] 57 (by kernel_rfl) rfl (by kernel_rfl) (by rfl) (fun w1 => ?_) ?_
    · simp only [pk, nthSp, lexVals]
      first | (go_simp; done) | (go_simp; exact fun h => by cases h)
    refine lx_no [(3, 62), (0, 65), (8, 57)] 57 (by kernel_rfl) rfl (by kernel_rfl) (by rfl) (fun w1 => ?_) ?_
    · simp only [pk, nthSp, lexVals]
      first | (go_simp; done) | (go_simp; exact fun h => by cases h)
    refine lx_no [(6, 60), (0, 66), (9, 57)] 57 (by kernel_rfl) rfl (by kernel_rfl) (by rfl) (fun w1 => ?_) ?_
    · simp only [pk, nthSp, lexVals]
      first | (go_simp; done) | (go_simp; exact fun h => by cases h)
    refine lx_e (.bool false) [(10, 57), (0, 67)] (by kernel_rfl) rfl (by rfl) (fun w1 hw1 => ?_) ?_
    · simp only [pk, nthSp, lexVals]
      go_simp
      exact ⟨Ext.refl _, rfl⟩
    refine lx_stopA (by rfl) fun w9 hw9 => ?_
    have HE9 := Lib.hid (HX1.out w9 hw9)
    have HPB := Lib.hid ((HX0.out w9 hw9).keep HPB.out)
    have HQB := Lib.hid ((HX0.out w9 hw9).keep HQB.out)
    have HBb := Lib.hid (HBb.out.ext (HX0.out w9 hw9))
    have HBc := Lib.hid (HBc.out.ext (HX0.out w9 hw9))
    clear hw9 HX0 HX1
    simp only [rv, pf, lexVals]
    simp only [Act.put, List.setIfInBounds_toArray, List.set_cons_zero, List.set_cons_succ]
    go_wp2_with fail
    refine (HPa.out qb N cb w9 HBb.out).mono ?_
    rintro e w10 ⟨⟨hv, rfl, hC, hZ⟩, hE⟩
    have HE10 := Lib.hid (HE9.out.trans hE)
    have Hall := Lib.hid (hdV_one hv)
    have HszP := Lib.hid (hdV_size hv)
    obtain ⟨ta, tc, rfl, hs⟩ := hC (HFw.out (by first | rfl | trivial) none 0).1
    rw [show hdTaken X = true from (HFw.out (by first | rfl | trivial) none 0).1]
    simp only [if_true]
    have HSq := Lib.hid (show ∀ w9, Ext w10 w9 → _ from fun w9 h9 => HSp.out (by first | rfl | trivial) ta tc w9 (HE10.out.trans h9) (hs.ext h9))
    obtain ⟨CV, hCV⟩ : ∃ CV, hdV (hdOf X ta tc) = CV := ⟨_, rfl⟩
    rw [hCV] at HszP Hall HSq ⊢
    have hpos := HPos.out (by first | rfl | trivial)
    have xN : ¬ (N : Int) = 0 := by omega
    have HPB := Lib.hid (hE.keep HPB.out)
    clear hC hZ hE hCV hs hpos
    go_upto_region 10 with (refine wpList_store_row rfl 58 _ _ rfl w10.heap.size _ rfl rfl _ _ (heap_new w10 _ _ rfl) (by rw [HszP.out]; kernel_rfl) (by rw [HszP.out]; rfl) Hall.out ?_; rw [setRow_new w10 _ _ _ _ rfl])
    obtain ⟨w11, hw11⟩ : ∃ w11, w10.alloc (.cells CV 58) = w11 := ⟨_, rfl⟩
    have hE11 : Ext w10 w11 := by rw [← hw11]; exact (Ext.refl w10).alloc _
    obtain ⟨r, hr⟩ : ∃ r, w10.heap.size = r := ⟨_, rfl⟩
    have hB11 : w11.heap[r]? = some (.cells CV 58 (0, 0)) := by rw [← hw11]; exact heap_new w10 _ _ hr.symm
    refine wp_world (w' := w11) hw11 ?_
    rw [hr]
    have HE11 := Lib.hid (HE10.out.trans hE11)
    have HRB := Lib.hid hB11
    have HPB := Lib.hid (hE11.keep HPB.out)
    have HSq := Lib.hid (HSq.out w11 hE11)
    clear hw11 hE11 hr hB11
    go_wp2_with (first | (refine wpList_load_rowW rfl 58 _ rfl r rfl _ _ _ _ HRB.out Tryd.underlying58 rfl (by rw [HszP.out]; kernel_rfl) ?_) | (refine wpList_load_rowW rfl 58 _ rfl p rfl _ _ _ _ HPB.out Tryd.underlying58 rfl (by rw [Hsz.out]; kernel_rfl) ?_))
    refine HSq.out.mono ?_
    rintro e w12 ⟨rfl, hE⟩
    have HE12 := Lib.hid (HE11.out.trans hE)
    clear hE
    go_wp2
    go_ret
    exact ⟨rfl, HE12.out⟩
  | true =>
  have hS := HSa.out (by first | rfl | trivial) (by first | rfl | trivial)
  by_cases hXY : X = Y
  · rw [decide_eq_true hXY] at hS
    subst hXY
    subst hS
    refine lx_e (.agg A) [] (by kernel_rfl) rfl (by rfl) (fun w1 hw1 => ?_) ?_
    · simp only [pk, lexVals]
      exact lu_row rfl rfl ((HX0.out w1 hw1).keep HPB.out) Tryd.underlying58 rfl (by rw [Hsz.out]; kernel_rfl)
    refine lx_e (.bool true) [(0, 51)] (by kernel_rfl) rfl (by rfl) (fun w1 hw1 => ?_) ?_
    · simp only [pk, nthSp, lexVals]
      have HM := Lib.hid (HFo.out w1 (HX1.out w1 hw1))
      clear hw1
      go_simp
      refine HM.out.mono ?_
      rintro e w2 ⟨rfl, hE2⟩
      exact ⟨_, rfl, hE2, rfl⟩
    refine lx_e (.bool true) [(0, 52)] (by kernel_rfl) rfl (by rfl) (fun w1 hw1 => ?_) ?_
    · simp only [pk, nthSp, lexVals]
      go_simp
      exact ⟨Ext.refl _, rfl⟩
    refine lx_ge (.agg B) [(0, 53)] 53 (by kernel_rfl) rfl (by kernel_rfl) (by rfl) (fun w1 => ?_) (fun w1 hw1 => ?_) ?_
    · simp only [pk, nthSp, lexVals]
      rfl
    · simp only [pk, nthSp, lexVals]
      exact lu_row rfl rfl ((HX0.out w1 hw1).keep HQB.out) Tryd.underlying58 rfl (by rw [HszB.out]; kernel_rfl)
    refine lx_ge (.bool true) [(0, 54), (1, 53)] 53 (by kernel_rfl) rfl (by kernel_rfl) (by rfl) (fun w1 => ?_) (fun w1 hw1 => ?_) ?_
    · simp only [pk, nthSp, lexVals]
      rfl
    · simp only [pk, nthSp, lexVals]
      have HM := Lib.hid (HGo.out w1 (HX1.out w1 hw1))
      clear hw1
      go_simp
      refine HM.out.mono ?_
      rintro e w2 ⟨rfl, hE2⟩
      exact ⟨_, rfl, hE2, rfl⟩
    refine lx_e (.bool true) [(2, 53), (0, 55)] (by kernel_rfl) rfl (by rfl) (fun w1 hw1 => ?_) ?_
    · simp only [pk, nthSp, lexVals]
      go_simp
      exact ⟨Ext.refl _, rfl⟩
    refine lx_e (.bool true) [(0, 56)] (by kernel_rfl) rfl (by rfl) (fun w1 hw1 => ?_) ?_
    · simp only [pk, nthSp, lexVals]
      go_simp
      exact ⟨Ext.refl _, rfl⟩
    refine lx_ge (.agg A) [(0, 57)] 57 (by kernel_rfl) rfl (by kernel_rfl) (by rfl) (fun w1 => ?_) (fun w1 hw1 => ?_) ?_
    · simp only [pk, nthSp, lexVals]
      rfl
    · simp only [pk, nthSp, lexVals]
      exact lu_row rfl rfl ((HX0.out w1 hw1).keep HPB.out) Tryd.underlying58 rfl (by rw [Hsz.out]; kernel_rfl)
    refine lx_ge (.agg B) [(1, 57)] 57 (by kernel_rfl) rfl (by kernel_rfl) (by rfl) (fun w1 => ?_) (fun w1 hw1 => ?_) ?_
    · simp only [pk, nthSp, lexVals]
      rfl
    · simp only [pk, nthSp, lexVals]
      exact lu_row rfl rfl ((HX0.out w1 hw1).keep HQB.out) Tryd.underlying58 rfl (by rw [HszB.out]; kernel_rfl)
    refine lx_ge (.bool true) [(1, 58), (0, 59), (2, 57)] 57 (by kernel_rfl) rfl (by kernel_rfl) (by rfl) (fun w1 => ?_) (fun w1 hw1 => ?_) ?_
    · simp only [pk, nthSp, lexVals]
      rfl
    · simp only [pk, nthSp, lexVals]
      have HM := Lib.hid (HSg.out w1 (HX1.out w1 hw1))
      clear hw1
      go_simp
      refine HM.out.mono ?_
      rintro e w2 ⟨rfl, hE2⟩
      exact ⟨_, rfl, hE2, rfl⟩
    refine lx_ge (.slice qb N cb) [(3, 57)] 57 (by kernel_rfl) rfl (by kernel_rfl) (by rfl) (fun w1 => ?_) (fun w1 hw1 => ?_) ?_
    · simp only [pk, nthSp, lexVals]
      rfl
    · simp only [pk, nthSp, lexVals]
      go_simp
      exact ⟨Ext.refl _, rfl⟩
    refine lx_ge (.string (strOf X)) [(0, 61), (4, 57)] 57 (by kernel_rfl) rfl (by kernel_rfl) (by rfl) (fun w1 => ?_) (fun w1 hw1 => ?_) ?_
    · simp only [pk, nthSp, lexVals]
      rfl
    · simp only [pk, nthSp, lexVals]
      exact lu_str rfl rfl (HBb.out.ext (HX0.out w1 hw1))
    refine lx_ge (.agg B) [(5, 57)] 57 (by kernel_rfl) rfl (by kernel_rfl) (by rfl) (fun w1 => ?_) (fun w1 hw1 => ?_) ?_
    · simp only [pk, nthSp, lexVals]
      rfl
    · simp only [pk, nthSp, lexVals]
      exact lu_row rfl rfl ((HX0.out w1 hw1).keep HQB.out) Tryd.underlying58 rfl (by rw [HszB.out]; kernel_rfl)
    refine lx_ga (fun u w => ∃ q n c, u = .slice q n c ∧ BsAt w q n c X) [(0, 63), (6, 57)] 57 (by kernel_rfl) rfl (by kernel_rfl) (by rfl) (fun u w w' he ⟨q, n, c, h1, h2⟩ => ⟨q, n, c, h1, h2.ext he⟩) (fun w1 => ?_) (fun w1 hw1 => ?_) ?_
    · simp only [pk, nthSp, lexVals]
      rfl
    · simp only [pk, nthSp, lexVals]
      have HM := Lib.hid (HBg.out w1 (HX1.out w1 hw1))
      clear hw1
      go_simp
      refine HM.out.mono ?_
      rintro e w2 ⟨v2, rfl, hs, hE2⟩
      exact ⟨_, rfl, hE2, hs⟩
    refine lx_ge (.string (strOf X)) [(0, 64), (7, 57)] 57 (by kernel_rfl) rfl (by kernel_rfl) (by rfl) (fun w1 => ?_) (fun w1 hw1 => ?_) ?_
    · simp only [pk, nthSp, lexVals]
      rintro u64 ⟨q64, n64, c64, rfl, -⟩
      rfl
    · simp only [pk, nthSp, lexVals]
      rintro u64 ⟨q64, n64, c64, rfl, h64⟩
      exact lu_str rfl rfl h64
    refine lx_ge (.bool true) [(3, 62), (0, 65), (8, 57)] 57 (by kernel_rfl) rfl (by kernel_rfl) (by rfl) (fun w1 => ?_) (fun w1 hw1 => ?_) ?_
    · simp only [pk, nthSp, lexVals]
      rfl
    · simp only [pk, nthSp, lexVals]
      go_simp
      exact ⟨Ext.refl _, rfl⟩
    refine lx_ge (.bool false) [(6, 60), (0, 66), (9, 57)] 57 (by kernel_rfl) rfl (by kernel_rfl) (by rfl) (fun w1 => ?_) (fun w1 hw1 => ?_) ?_
    · simp only [pk, nthSp, lexVals]
      rfl
    · simp only [pk, nthSp, lexVals]
      go_simp
      exact ⟨Ext.refl _, rfl⟩
    refine lx_e (.bool false) [(10, 57), (0, 67)] (by kernel_rfl) rfl (by rfl) (fun w1 hw1 => ?_) ?_
    · simp only [pk, nthSp, lexVals]
      go_simp
      exact ⟨Ext.refl _, rfl⟩
    refine lx_stopA (by rfl) fun w9 hw9 => ?_
    have HE9 := Lib.hid (HX1.out w9 hw9)
    have HPB := Lib.hid ((HX0.out w9 hw9).keep HPB.out)
    have HQB := Lib.hid ((HX0.out w9 hw9).keep HQB.out)
    have HBb := Lib.hid (HBb.out.ext (HX0.out w9 hw9))
    have HBc := Lib.hid (HBc.out.ext (HX0.out w9 hw9))
    clear hw9 HX0 HX1
    simp only [rv, pf, lexVals]
    rintro v64 ⟨q64, n64, c64, rfl, -⟩
    simp only [Act.put, List.setIfInBounds_toArray, List.set_cons_zero, List.set_cons_succ]
    go_wp2_with fail
    refine (HPa.out qb N cb w9 HBb.out).mono ?_
    rintro e w10 ⟨⟨hv, rfl, hC, hZ⟩, hE⟩
    have HE10 := Lib.hid (HE9.out.trans hE)
    have Hall := Lib.hid (hdV_one hv)
    have HszP := Lib.hid (hdV_size hv)
    obtain ⟨ta, tc, rfl, hs⟩ := hC (HFw.out (by first | rfl | trivial) none 0).1
    rw [show hdTaken X = true from (HFw.out (by first | rfl | trivial) none 0).1]
    simp only [if_true]
    have HSq := Lib.hid (show ∀ w9, Ext w10 w9 → _ from fun w9 h9 => HSp.out (by first | rfl | trivial) ta tc w9 (HE10.out.trans h9) (hs.ext h9))
    obtain ⟨CV, hCV⟩ : ∃ CV, hdV (hdOf X ta tc) = CV := ⟨_, rfl⟩
    rw [hCV] at HszP Hall HSq ⊢
    have hpos := HPos.out (by first | rfl | trivial)
    have xN : ¬ (N : Int) = 0 := by omega
    have HPB := Lib.hid (hE.keep HPB.out)
    clear hC hZ hE hCV hs hpos
    go_upto_region 10 with (refine wpList_store_row rfl 58 _ _ rfl w10.heap.size _ rfl rfl _ _ (heap_new w10 _ _ rfl) (by rw [HszP.out]; kernel_rfl) (by rw [HszP.out]; rfl) Hall.out ?_; rw [setRow_new w10 _ _ _ _ rfl])
    obtain ⟨w11, hw11⟩ : ∃ w11, w10.alloc (.cells CV 58) = w11 := ⟨_, rfl⟩
    have hE11 : Ext w10 w11 := by rw [← hw11]; exact (Ext.refl w10).alloc _
    obtain ⟨r, hr⟩ : ∃ r, w10.heap.size = r := ⟨_, rfl⟩
    have hB11 : w11.heap[r]? = some (.cells CV 58 (0, 0)) := by rw [← hw11]; exact heap_new w10 _ _ hr.symm
    refine wp_world (w' := w11) hw11 ?_
    rw [hr]
    have HE11 := Lib.hid (HE10.out.trans hE11)
    have HRB := Lib.hid hB11
    have HPB := Lib.hid (hE11.keep HPB.out)
    have HSq := Lib.hid (HSq.out w11 hE11)
    clear hw11 hE11 hr hB11
    go_wp2_with (first | (refine wpList_load_rowW rfl 58 _ rfl r rfl _ _ _ _ HRB.out Tryd.underlying58 rfl (by rw [HszP.out]; kernel_rfl) ?_) | (refine wpList_load_rowW rfl 58 _ rfl p rfl _ _ _ _ HPB.out Tryd.underlying58 rfl (by rw [Hsz.out]; kernel_rfl) ?_))
    refine HSq.out.mono ?_
    rintro e w12 ⟨rfl, hE⟩
    have HE12 := Lib.hid (HE11.out.trans hE)
    clear hE
    go_wp2
    go_ret
    exact ⟨rfl, HE12.out⟩
  · rw [decide_eq_false hXY] at hS
    subst hS
    have hne : ¬ strOf X = strOf Y := fun q => hXY (by rw [← strB_strOf HXb.out, q, strB_strOf HYb.out])
    have hne2 : ((strOf X).toList == (strOf Y).toList) = false := beq_eq_false_iff_ne.2 fun q => hne (by
      rw [ByteArray.toList_eq, ByteArray.toList_eq] at q
      exact ByteArray.ext (Array.ext' q))
    refine lx_e (.agg A) [] (by kernel_rfl) rfl (by rfl) (fun w1 hw1 => ?_) ?_
    · simp only [pk, lexVals]
      exact lu_row rfl rfl ((HX0.out w1 hw1).keep HPB.out) Tryd.underlying58 rfl (by rw [Hsz.out]; kernel_rfl)
    refine lx_e (.bool true) [(0, 51)] (by kernel_rfl) rfl (by rfl) (fun w1 hw1 => ?_) ?_
    · simp only [pk, nthSp, lexVals]
      have HM := Lib.hid (HFo.out w1 (HX1.out w1 hw1))
      clear hw1
      go_simp
      refine HM.out.mono ?_
      rintro e w2 ⟨rfl, hE2⟩
      exact ⟨_, rfl, hE2, rfl⟩
    refine lx_e (.bool true) [(0, 52)] (by kernel_rfl) rfl (by rfl) (fun w1 hw1 => ?_) ?_
    · simp only [pk, nthSp, lexVals]
      go_simp
      exact ⟨Ext.refl _, rfl⟩
    refine lx_ge (.agg B) [(0, 53)] 53 (by kernel_rfl) rfl (by kernel_rfl) (by rfl) (fun w1 => ?_) (fun w1 hw1 => ?_) ?_
    · simp only [pk, nthSp, lexVals]
      rfl
    · simp only [pk, nthSp, lexVals]
      exact lu_row rfl rfl ((HX0.out w1 hw1).keep HQB.out) Tryd.underlying58 rfl (by rw [HszB.out]; kernel_rfl)
    refine lx_ge (.bool true) [(0, 54), (1, 53)] 53 (by kernel_rfl) rfl (by kernel_rfl) (by rfl) (fun w1 => ?_) (fun w1 hw1 => ?_) ?_
    · simp only [pk, nthSp, lexVals]
      rfl
    · simp only [pk, nthSp, lexVals]
      have HM := Lib.hid (HGo.out w1 (HX1.out w1 hw1))
      clear hw1
      go_simp
      refine HM.out.mono ?_
      rintro e w2 ⟨rfl, hE2⟩
      exact ⟨_, rfl, hE2, rfl⟩
    refine lx_e (.bool true) [(2, 53), (0, 55)] (by kernel_rfl) rfl (by rfl) (fun w1 hw1 => ?_) ?_
    · simp only [pk, nthSp, lexVals]
      go_simp
      exact ⟨Ext.refl _, rfl⟩
    refine lx_e (.bool true) [(0, 56)] (by kernel_rfl) rfl (by rfl) (fun w1 hw1 => ?_) ?_
    · simp only [pk, nthSp, lexVals]
      go_simp
      exact ⟨Ext.refl _, rfl⟩
    refine lx_ge (.agg A) [(0, 57)] 57 (by kernel_rfl) rfl (by kernel_rfl) (by rfl) (fun w1 => ?_) (fun w1 hw1 => ?_) ?_
    · simp only [pk, nthSp, lexVals]
      rfl
    · simp only [pk, nthSp, lexVals]
      exact lu_row rfl rfl ((HX0.out w1 hw1).keep HPB.out) Tryd.underlying58 rfl (by rw [Hsz.out]; kernel_rfl)
    refine lx_ge (.agg B) [(1, 57)] 57 (by kernel_rfl) rfl (by kernel_rfl) (by rfl) (fun w1 => ?_) (fun w1 hw1 => ?_) ?_
    · simp only [pk, nthSp, lexVals]
      rfl
    · simp only [pk, nthSp, lexVals]
      exact lu_row rfl rfl ((HX0.out w1 hw1).keep HQB.out) Tryd.underlying58 rfl (by rw [HszB.out]; kernel_rfl)
    refine lx_ge (.bool false) [(1, 58), (0, 59), (2, 57)] 57 (by kernel_rfl) rfl (by kernel_rfl) (by rfl) (fun w1 => ?_) (fun w1 hw1 => ?_) ?_
    · simp only [pk, nthSp, lexVals]
      rfl
    · simp only [pk, nthSp, lexVals]
      have HM := Lib.hid (HSg.out w1 (HX1.out w1 hw1))
      clear hw1
      go_simp
      refine HM.out.mono ?_
      rintro e w2 ⟨rfl, hE2⟩
      exact ⟨_, rfl, hE2, rfl⟩
    refine lx_ge (.slice qb N cb) [(3, 57)] 57 (by kernel_rfl) rfl (by kernel_rfl) (by rfl) (fun w1 => ?_) (fun w1 hw1 => ?_) ?_
    · simp only [pk, nthSp, lexVals]
      rfl
    · simp only [pk, nthSp, lexVals]
      go_simp
      exact ⟨Ext.refl _, rfl⟩
    refine lx_ge (.string (strOf X)) [(0, 61), (4, 57)] 57 (by kernel_rfl) rfl (by kernel_rfl) (by rfl) (fun w1 => ?_) (fun w1 hw1 => ?_) ?_
    · simp only [pk, nthSp, lexVals]
      rfl
    · simp only [pk, nthSp, lexVals]
      exact lu_str rfl rfl (HBb.out.ext (HX0.out w1 hw1))
    refine lx_ge (.agg B) [(5, 57)] 57 (by kernel_rfl) rfl (by kernel_rfl) (by rfl) (fun w1 => ?_) (fun w1 hw1 => ?_) ?_
    · simp only [pk, nthSp, lexVals]
      rfl
    · simp only [pk, nthSp, lexVals]
      exact lu_row rfl rfl ((HX0.out w1 hw1).keep HQB.out) Tryd.underlying58 rfl (by rw [HszB.out]; kernel_rfl)
    refine lx_ga (fun u w => ∃ q n c, u = .slice q n c ∧ BsAt w q n c Y) [(0, 63), (6, 57)] 57 (by kernel_rfl) rfl (by kernel_rfl) (by rfl) (fun u w w' he ⟨q, n, c, h1, h2⟩ => ⟨q, n, c, h1, h2.ext he⟩) (fun w1 => ?_) (fun w1 hw1 => ?_) ?_
    · simp only [pk, nthSp, lexVals]
      rfl
    · simp only [pk, nthSp, lexVals]
      have HM := Lib.hid (HBg.out w1 (HX1.out w1 hw1))
      clear hw1
      go_simp
      refine HM.out.mono ?_
      rintro e w2 ⟨v2, rfl, hs, hE2⟩
      exact ⟨_, rfl, hE2, hs⟩
    refine lx_ge (.string (strOf Y)) [(0, 64), (7, 57)] 57 (by kernel_rfl) rfl (by kernel_rfl) (by rfl) (fun w1 => ?_) (fun w1 hw1 => ?_) ?_
    · simp only [pk, nthSp, lexVals]
      rintro u64 ⟨q64, n64, c64, rfl, -⟩
      rfl
    · simp only [pk, nthSp, lexVals]
      rintro u64 ⟨q64, n64, c64, rfl, h64⟩
      exact lu_str rfl rfl h64
    refine lx_ge (.bool false) [(3, 62), (0, 65), (8, 57)] 57 (by kernel_rfl) rfl (by kernel_rfl) (by rfl) (fun w1 => ?_) (fun w1 hw1 => ?_) ?_
    · simp only [pk, nthSp, lexVals]
      rfl
    · simp only [pk, nthSp, lexVals]
      go_simp
      exact ⟨Ext.refl _, rfl⟩
    refine lx_ge (.bool false) [(6, 60), (0, 66), (9, 57)] 57 (by kernel_rfl) rfl (by kernel_rfl) (by rfl) (fun w1 => ?_) (fun w1 hw1 => ?_) ?_
    · simp only [pk, nthSp, lexVals]
      rfl
    · simp only [pk, nthSp, lexVals]
      go_simp
      exact ⟨Ext.refl _, rfl⟩
    refine lx_e (.bool false) [(10, 57), (0, 67)] (by kernel_rfl) rfl (by rfl) (fun w1 hw1 => ?_) ?_
    · simp only [pk, nthSp, lexVals]
      go_simp
      exact ⟨Ext.refl _, rfl⟩
    refine lx_stopA (by rfl) fun w9 hw9 => ?_
    have HE9 := Lib.hid (HX1.out w9 hw9)
    have HPB := Lib.hid ((HX0.out w9 hw9).keep HPB.out)
    have HQB := Lib.hid ((HX0.out w9 hw9).keep HQB.out)
    have HBb := Lib.hid (HBb.out.ext (HX0.out w9 hw9))
    have HBc := Lib.hid (HBc.out.ext (HX0.out w9 hw9))
    clear hw9 HX0 HX1
    simp only [rv, pf, lexVals]
    rintro v64 ⟨q64, n64, c64, rfl, -⟩
    simp only [Act.put, List.setIfInBounds_toArray, List.set_cons_zero, List.set_cons_succ]
    go_wp2_with fail
    refine (HPa.out qb N cb w9 HBb.out).mono ?_
    rintro e w10 ⟨⟨hv, rfl, hC, hZ⟩, hE⟩
    have HE10 := Lib.hid (HE9.out.trans hE)
    have Hall := Lib.hid (hdV_one hv)
    have HszP := Lib.hid (hdV_size hv)
    obtain ⟨ta, tc, rfl, hs⟩ := hC (HFw.out (by first | rfl | trivial) none 0).1
    rw [show hdTaken X = true from (HFw.out (by first | rfl | trivial) none 0).1]
    simp only [if_true]
    have HSq := Lib.hid (show ∀ w9, Ext w10 w9 → _ from fun w9 h9 => HSp.out (by first | rfl | trivial) ta tc w9 (HE10.out.trans h9) (hs.ext h9))
    obtain ⟨CV, hCV⟩ : ∃ CV, hdV (hdOf X ta tc) = CV := ⟨_, rfl⟩
    rw [hCV] at HszP Hall HSq ⊢
    have hpos := HPos.out (by first | rfl | trivial)
    have xN : ¬ (N : Int) = 0 := by omega
    have HPB := Lib.hid (hE.keep HPB.out)
    clear hC hZ hE hCV hs hpos
    go_upto_region 10 with (refine wpList_store_row rfl 58 _ _ rfl w10.heap.size _ rfl rfl _ _ (heap_new w10 _ _ rfl) (by rw [HszP.out]; kernel_rfl) (by rw [HszP.out]; rfl) Hall.out ?_; rw [setRow_new w10 _ _ _ _ rfl])
    obtain ⟨w11, hw11⟩ : ∃ w11, w10.alloc (.cells CV 58) = w11 := ⟨_, rfl⟩
    have hE11 : Ext w10 w11 := by rw [← hw11]; exact (Ext.refl w10).alloc _
    obtain ⟨r, hr⟩ : ∃ r, w10.heap.size = r := ⟨_, rfl⟩
    have hB11 : w11.heap[r]? = some (.cells CV 58 (0, 0)) := by rw [← hw11]; exact heap_new w10 _ _ hr.symm
    refine wp_world (w' := w11) hw11 ?_
    rw [hr]
    have HE11 := Lib.hid (HE10.out.trans hE11)
    have HRB := Lib.hid hB11
    have HPB := Lib.hid (hE11.keep HPB.out)
    have HSq := Lib.hid (HSq.out w11 hE11)
    clear hw11 hE11 hr hB11
    go_wp2_with (first | (refine wpList_load_rowW rfl 58 _ rfl r rfl _ _ _ _ HRB.out Tryd.underlying58 rfl (by rw [HszP.out]; kernel_rfl) ?_) | (refine wpList_load_rowW rfl 58 _ rfl p rfl _ _ _ _ HPB.out Tryd.underlying58 rfl (by rw [Hsz.out]; kernel_rfl) ?_))
    refine HSq.out.mono ?_
    rintro e w12 ⟨rfl, hE⟩
    have HE12 := Lib.hid (HE11.out.trans hE)
    clear hE
    go_wp2
    go_ret
    exact ⟨rfl, HE12.out⟩

end Go.Proofs.YtppidlpblkihbaaDoor
