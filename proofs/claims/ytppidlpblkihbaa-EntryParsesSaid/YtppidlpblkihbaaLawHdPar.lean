/-
  The walk of jalousielaw12.EntryParses: it answers true. No conditions.
-/
import Derived.Test.YtppidlpblkihbaaAwk12
import Derived.Test.YtppidlpblkihbaaHdPk
import Derived.Test.YtppidlpblkihbaaRefBlk
import Derived.Test.YtppidlpblkihbaaRefHdB
namespace Go.Proofs.Ytppidlpblkihbaa
open Go.ChangeShapes Go.WideShapes Go.ChangeAt Go.RowKit

set_option maxHeartbeats 2000000 in
set_option maxRecDepth 50000 in
theorem lawHdPar_any (a : Option Addr) (n c : Nat) (b : List Int) (w : World) (h : BsAt w a n c b) :
    Calls Try.prog 5 #[.slice a n c] w fun e w' => e = .returned (.bool true) ∧ Ext w w' := by
  have hsm := h.small
  have hby := h.byte
  have hlen := h.len
  have H := Lib.hid h
  clear h
  by_cases hn : n ≤ 500
  · have x1 : ¬ (500 : Int) < (n : Int) := by omega
    go_enter Try.func5, Try.ntmps5
    go_wp2_with fail
    refine (awake12_any w).mono ?_
    rintro e w1 ⟨rfl, hE1⟩
    have HE1 := Lib.hid hE1
    have HPa := Lib.hid (parseHd_any a n c b w1 (H.out.ext hE1))
    clear hE1
    go_wp2_with fail
    refine HPa.out.mono ?_
    rintro e w2 ⟨⟨hv, rfl, hC, hZ⟩, hE2⟩
    have HE2 := Lib.hid (HE1.out.trans hE2)
    clear hE2 HPa
    have Hsz := Lib.hid (hdV_size hv)
    have Hall := Lib.hid (hdV_one hv)
    cases hD : hdTaken b with
    | false =>
      have HSm := Lib.hid (show ∀ w9, Calls Try.prog 16 #[.agg (hdV hv)] w9 fun e w' => e = .returned (.bool true) ∧ Ext w9 w' from fun w9 => by rw [hZ hD]; exact refBlank_any w9)
      simp only [Bool.false_eq_true, if_false]
      obtain ⟨CV, hCV⟩ : ∃ CV, hdV hv = CV := ⟨_, rfl⟩
      rw [hCV] at HSm Hsz Hall ⊢
      clear hD hC hZ hCV hby hlen
      go_upto_region 4 with (refine wpList_store_row rfl 44 _ _ rfl w2.heap.size _ rfl rfl _ _ (heap_new w2 _ _ rfl) (by rw [Hsz.out]; kernel_rfl) (by rw [Hsz.out]; rfl) Hall.out ?_; rw [setRow_new w2 _ _ _ _ rfl])
      obtain ⟨w3, hw3⟩ : ∃ w3, w2.alloc (.cells CV 44) = w3 := ⟨_, rfl⟩
      have hE3 : Ext w2 w3 := by rw [← hw3]; exact (Ext.refl w2).alloc _
      obtain ⟨g, hg⟩ : ∃ g, w2.heap.size = g := ⟨_, rfl⟩
      have hB3 : w3.heap[g]? = some (.cells CV 44 (0, 0)) := by rw [← hw3]; exact heap_new w2 _ _ hg.symm
      refine wp_world (w' := w3) hw3 ?_
      rw [hg]
      have HE3 := Lib.hid (HE2.out.trans hE3)
      have HB3 := Lib.hid hB3
      clear hw3 hE3 hg hB3
      go_wp2_with (refine wpList_load_rowW rfl 44 _ rfl g rfl _ _ _ _ HB3.out Try.underlying44 rfl (by rw [Hsz.out]; kernel_rfl) ?_)
      refine (HSm.out w3).mono ?_
      rintro e w4 ⟨rfl, hE4⟩
      have HE4 := Lib.hid (HE3.out.trans hE4)
      clear hE4
      go_wp2
      go_ret
      exact ⟨rfl, HE4.out⟩
    | true =>
      obtain ⟨ta, tc, rfl, hs⟩ := hC hD
      have hbk := hd_back hby hD ta tc
      have hform : hdB (hdOf b ta tc) (tsOf b) = true := by
        rw [hdOf_hdB]
        unfold hdTaken at hD
        simp only [Bool.and_eq_true] at hD
        exact hD.2
      have hok := hdOf_ok hby ta tc
      simp only [if_true]
      obtain ⟨HD, hHD⟩ : ∃ HD, hdOf b ta tc = HD := ⟨_, rfl⟩
      have e1 : HD.ta = ta := by rw [← hHD]; rfl
      have e2 : HD.tn = (hq8 b).1.toNat := by rw [← hHD]; rfl
      have e3 : HD.tc = tc := by rw [← hHD]; rfl
      rw [hHD] at hbk hform hok Hsz Hall ⊢
      have hs2 : TsAt w2 HD.ta HD.tn HD.tc (tsOf b) := by rw [e1, e2, e3]; exact hs
      obtain ⟨CV, hCV⟩ : ∃ CV, hdV HD = CV := ⟨_, rfl⟩
      have HFo := Lib.hid (show ∀ w9, Ext w2 w9 → Calls Try.prog 17 #[.agg CV] w9 fun e w' => e = .returned (.bool true) ∧ Ext w9 w' from fun w9 h9 => by
        have h1 := refHd_any HD (tsOf b) w9 hok (hs2.ext h9)
        rw [hCV, hform] at h1
        exact h1)
      have HBy := Lib.hid (show ∀ w9, Ext w2 w9 → Calls Try.prog 18 #[.agg CV] w9 fun e w' => ∃ v, e = .returned v ∧ (∃ q c, v = .slice q n c ∧ BsAt w' q n c b) ∧ Ext w9 w' from fun w9 h9 => by
        have h1 := refHdBytes_any HD (tsOf b) w9 hok (hs2.ext h9)
        rw [hCV, ← hbk, hlen] at h1
        refine h1.mono ?_
        rintro e w' ⟨v, rfl, hown, hE⟩
        obtain ⟨q, cc, rfl, hc1, hc2⟩ := owns_slice hown
        exact ⟨_, rfl, ⟨q, cc, rfl, owns_bs hown hby (by unfold maxLen at hc2; omega) hsm⟩, hE⟩)
      rw [hCV] at Hsz Hall ⊢
      clear hs hs2 hD hC hZ hCV hHD hok hbk hform e1 e2 e3 hby hlen
      go_upto_region 4 with (refine wpList_store_row rfl 44 _ _ rfl w2.heap.size _ rfl rfl _ _ (heap_new w2 _ _ rfl) (by rw [Hsz.out]; kernel_rfl) (by rw [Hsz.out]; rfl) Hall.out ?_; rw [setRow_new w2 _ _ _ _ rfl])
      obtain ⟨w3, hw3⟩ : ∃ w3, w2.alloc (.cells CV 44) = w3 := ⟨_, rfl⟩
      have hE3 : Ext w2 w3 := by rw [← hw3]; exact (Ext.refl w2).alloc _
      obtain ⟨g, hg⟩ : ∃ g, w2.heap.size = g := ⟨_, rfl⟩
      have hB3 : w3.heap[g]? = some (.cells CV 44 (0, 0)) := by rw [← hw3]; exact heap_new w2 _ _ hg.symm
      refine wp_world (w' := w3) hw3 ?_
      rw [hg]
      have HE3 := Lib.hid (HE2.out.trans hE3)
      have HB3 := Lib.hid hB3
      have HX0 := Lib.hid (show ∀ x, Ext w3.drew x → Ext w3 x from fun x hx => Ext.trans (Ext.refl w3).drew hx)
      have HBy := Lib.hid (show ∀ w9, Ext w3 w9 → _ from fun w9 h9 => HBy.out w9 (hE3.trans h9))
      have HFo := Lib.hid (show ∀ w9, Ext w3 w9 → _ from fun w9 h9 => HFo.out w9 (hE3.trans h9))
      clear hw3 hE3 hg hB3
      go_upto_region 6 with (fail)
      refine wp_region_lexA (by kernel_rfl) (by kernel_rfl) ?_
      refine lx_e (.agg CV) [] (by kernel_rfl) rfl (by rfl) (fun w1 hw1 => ?_) ?_
      · simp only [pk, lexVals]
        exact lu_row rfl rfl (hw1.keep HB3.out) Try.underlying44 rfl (by rw [Hsz.out]; kernel_rfl)
      refine lx_e (.bool true) [(0, 26)] (by kernel_rfl) rfl (by rfl) (fun w1 hw1 => ?_) ?_
      · simp only [pk, nthSp, lexVals]
        have HM := Lib.hid (HFo.out w1 (HX0.out w1 hw1))
        clear hw1
        go_simp
        refine HM.out.mono ?_
        rintro e w2 ⟨rfl, hE2⟩
        exact ⟨_, rfl, hE2, rfl⟩
      refine lx_e (.bool true) [(0, 27)] (by kernel_rfl) rfl (by rfl) (fun w1 hw1 => ?_) ?_
      · simp only [pk, nthSp, lexVals]
        go_simp
        exact ⟨Ext.refl _, rfl⟩
      refine lx_ge (.agg CV) [(0, 28)] 28 (by kernel_rfl) rfl (by kernel_rfl) (by rfl) (fun w1 => ?_) (fun w1 hw1 => ?_) ?_
      · simp only [pk, nthSp, lexVals]
        rfl
      · simp only [pk, nthSp, lexVals]
        exact lu_row rfl rfl (hw1.keep HB3.out) Try.underlying44 rfl (by rw [Hsz.out]; kernel_rfl)
      refine lx_ga (fun u w => ∃ q c, u = .slice q n c ∧ BsAt w q n c b) [(0, 29), (1, 28)] 28 (by kernel_rfl) rfl (by kernel_rfl) (by rfl) (fun u w w' he ⟨q, c, h1, h2⟩ => ⟨q, c, h1, h2.ext he⟩) (fun w1 => ?_) (fun w1 hw1 => ?_) ?_
      · simp only [pk, nthSp, lexVals]
        rfl
      · simp only [pk, nthSp, lexVals]
        have HM := Lib.hid (HBy.out w1 (HX0.out w1 hw1))
        clear hw1
        go_simp
        refine HM.out.mono ?_
        rintro e w2 ⟨v2, rfl, hs, hE2⟩
        exact ⟨_, rfl, hE2, hs⟩
      refine lx_ge (.string (strOf b)) [(0, 30), (2, 28)] 28 (by kernel_rfl) rfl (by kernel_rfl) (by rfl) (fun w1 => ?_) (fun w1 hw1 => ?_) ?_
      · simp only [pk, nthSp, lexVals]
        rintro u31 ⟨q31, c31, rfl, -⟩
        rfl
      · simp only [pk, nthSp, lexVals]
        rintro u31 ⟨q31, c31, rfl, h31⟩
        exact lu_str rfl rfl h31
      refine lx_ge (.slice a n c) [(3, 28)] 28 (by kernel_rfl) rfl (by kernel_rfl) (by rfl) (fun w1 => ?_) (fun w1 hw1 => ?_) ?_
      · simp only [pk, nthSp, lexVals]
        rfl
      · simp only [pk, nthSp, lexVals]
        go_simp
        exact ⟨Ext.refl _, rfl⟩
      refine lx_ge (.string (strOf b)) [(0, 32), (4, 28)] 28 (by kernel_rfl) rfl (by kernel_rfl) (by rfl) (fun w1 => ?_) (fun w1 hw1 => ?_) ?_
      · simp only [pk, nthSp, lexVals]
        rfl
      · simp only [pk, nthSp, lexVals]
        exact lu_str rfl rfl (H.out.ext (HE3.out.trans (HX0.out w1 hw1)))
      refine lx_ge (.bool true) [(2, 31), (0, 33), (5, 28)] 28 (by kernel_rfl) rfl (by kernel_rfl) (by rfl) (fun w1 => ?_) (fun w1 hw1 => ?_) ?_
      · simp only [pk, nthSp, lexVals]
        rfl
      · simp only [pk, nthSp, lexVals]
        go_simp
        exact ⟨Ext.refl _, rfl⟩
      refine lx_e (.bool true) [(6, 28), (0, 34)] (by kernel_rfl) rfl (by rfl) (fun w1 hw1 => ?_) ?_
      · simp only [pk, nthSp, lexVals]
        go_simp
        exact ⟨Ext.refl _, rfl⟩
      refine lx_e (.bool true) [(0, 35)] (by kernel_rfl) rfl (by rfl) (fun w1 hw1 => ?_) ?_
      · simp only [pk, nthSp, lexVals]
        go_simp
        exact ⟨Ext.refl _, rfl⟩
      refine lx_stopA (by rfl) fun w5 hw5 => ?_
      have HE5 := Lib.hid (HE3.out.trans (HX0.out w5 hw5))
      clear hw5
      simp only [rv, pf, lexVals]
      rintro v1 ⟨q1, c1, rfl, -⟩
      simp only [Act.put, List.setIfInBounds_toArray, List.set_cons_zero, List.set_cons_succ]
      go_wp2
      go_ret
      exact ⟨rfl, HE5.out⟩
  · have x1 : (500 : Int) < (n : Int) := by omega
    clear hn
    go_enter Try.func5, Try.ntmps5
    go_wp2_with fail
    refine (awake12_any w).mono ?_
    rintro e w1 ⟨rfl, hE1⟩
    have HE1 := Lib.hid hE1
    clear hE1
    go_wp2_with fail
    refine (awake12_any w1).mono ?_
    rintro e w2 ⟨rfl, hE2⟩
    have HE2 := Lib.hid (HE1.out.trans hE2)
    clear hE2
    go_wp2
    go_ret
    exact ⟨rfl, HE2.out⟩

end Go.Proofs.Ytppidlpblkihbaa
