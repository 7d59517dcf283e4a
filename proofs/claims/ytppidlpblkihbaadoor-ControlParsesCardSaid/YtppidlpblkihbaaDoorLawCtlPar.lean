/-
  The walk of jalousielaw16.ControlParses: it answers true. Asked: the table lies as the text lays it.
-/
import Derived.Test.YtppidlpblkihbaaDoorAwk16
import Derived.Test.YtppidlpblkihbaaDoorCtlPar
import Derived.Test.YtppidlpblkihbaaDoorRefForm
import Derived.Test.YtppidlpblkihbaaDoorRefCtl
namespace Go.Proofs.YtppidlpblkihbaaDoor
open Go.ChangeShapes Go.WideShapes Go.ChangeAt Go.RowKit

theorem slotX_le {xs : List Int} {bad : Bool} (hb : ∀ c ∈ xs, 0 ≤ c ∧ c < 256) (k : Nat) : (slotX xs bad k).length ≤ 48 := by
  have h := textP_le1 (xs := (slotS xs bad k).1) (bad := (slotS xs bad k).2) (most := 48) (slotS_byte hb k) (by omega)
  unfold slotX
  omega

/-- What was parsed, all at once. -/
theorem ctlOk_back {b : List Int} (hb : ∀ c ∈ b, 0 ≤ c ∧ c < 256) (h : ctlOk b = true) : b = ctlL (ctlOf b) ∧ (0 ≤ (ctlOf b).op ∧ (ctlOf b).op ≤ 5) ∧ (0 ≤ (ctlOf b).mem ∧ (ctlOf b).mem ≤ 6) ∧ (0 ≤ (ctlOf b).cut ∧ (ctlOf b).cut ≤ 1048576) ∧
    formedB (ctlOf b).op (ctlOf b).mem (ctlOf b).cut (fun i => ((ctlOf b).slots i).length) (ctlOf b).hand.length = true ∧ (∀ i, i < 6 → ((ctlOf b).slots i).length ≤ 48) ∧ (ctlOf b).hand.length ≤ 48 := by
  unfold ctlOk at h
  rw [Bool.and_eq_true, Bool.and_eq_true] at h
  obtain ⟨⟨h1, h2⟩, h3⟩ := h
  have e2 : (handS b).2.1 = [] := List.eq_nil_of_length_eq_zero (of_decide_eq_true h2)
  obtain ⟨k1, k2, k3, k4, k5, k6, k7⟩ := ctl_back hb (by simpa using h1) e2
  have b1 := numP_byte (bad := false) (most := 5) hb
  have b2 := numP_byte (bad := (opS b).2.2) (most := 6) b1
  have b3 := numP_byte (bad := (memS b).2.2) (most := 1048576) b2
  have b4 := slotS_byte (xs := (cutS b).2.1) (bad := (cutS b).2.2) b3 6
  have h5 := textP_le1 (xs := (slotQ b 6).1) (bad := (slotQ b 6).2) (most := 48) b4 (by omega)
  refine ⟨k1, ⟨k2, k3⟩, ⟨k4, k5⟩, ⟨k6, k7⟩, h3, fun i _ => slotX_le b3 i, ?_⟩
  show (handS b).1.length ≤ 48
  unfold handS
  omega

set_option maxHeartbeats 2000000 in
set_option maxRecDepth 100000 in
theorem lawCtlPar_any (a : Option Addr) (n c : Nat) (b : List Int) (w : World) (h : BsAt w a n c b) (hk : KsAt 1 w) :
    Calls Tryd.prog 6 #[.slice a n c] w fun e w' => e = .returned (.bool true) ∧ Ext w w' := by
  have hsm := h.small
  have hby := h.byte
  have hlen := h.len
  have H := Lib.hid h
  have HK := Lib.hid hk
  clear h hk
  by_cases hn : n ≤ 600
  · have x1 : ¬ (600 : Int) < (n : Int) := by omega
    go_enter Tryd.func6, Tryd.ntmps6
    go_wp2_with fail
    refine (awake16_any w HK.out).mono ?_
    rintro e w1 ⟨rfl, hE1⟩
    have HE1 := Lib.hid hE1
    have HPa := Lib.hid (parse_any a n c b w1 (H.out.ext hE1))
    clear hE1
    go_wp2_with fail
    refine HPa.out.mono ?_
    rintro e w2 ⟨⟨v, rfl, hC⟩, hE2⟩
    obtain ⟨A, l, C, ha, hl, hc, rfl, hs, hh⟩ := hC
    have HE2 := Lib.hid (HE1.out.trans hE2)
    clear hE2 HPa
    cases hD : ctlOk b with
    | false =>
      rw [hD] at hs hh
      simp only [Bool.false_eq_true, if_false] at hs hh ⊢
      obtain ⟨CV, hCV⟩ : ∃ CV, ctlV 0 0 0 (fun i => .slice (A i) (l i) (C i)) (.slice ha hl hc) = CV := ⟨_, rfl⟩
      have hsz : CV.size = 10 := by rw [← hCV]; rfl
      have hall : CV.all (·.oneCell') = true := by rw [← hCV]; exact ctlV_one _ _ _ _ _ (fun _ => rfl) rfl
      rw [hCV]
      have HCV := Lib.hid hCV
      have Hsz := Lib.hid hsz
      have Hall := Lib.hid hall
      clear hs hh hD hCV hsz hall
      go_upto_region 4 with (refine wpList_store_row rfl 45 _ _ rfl w2.heap.size _ rfl rfl _ _ (heap_new w2 _ _ rfl) (by rw [Hsz.out]; kernel_rfl) (by rw [Hsz.out]; rfl) Hall.out ?_; rw [setRow_new w2 _ _ _ _ rfl])
      obtain ⟨w3, hw3⟩ : ∃ w3, w2.alloc (.cells CV 45) = w3 := ⟨_, rfl⟩
      have hE3 : Ext w2 w3 := by rw [← hw3]; exact (Ext.refl w2).alloc _
      obtain ⟨g, hg⟩ : ∃ g, w2.heap.size = g := ⟨_, rfl⟩
      have hB3 : w3.heap[g]? = some (.cells CV 45 (0, 0)) := by rw [← hw3]; exact heap_new w2 _ _ hg.symm
      rw [← HCV.out] at hB3
      have hc0 := (ctl_cell hB3).1
      refine wp_world (w' := w3) hw3 ?_
      rw [hg]
      have HE3 := Lib.hid (HE2.out.trans hE3)
      clear hw3 hE3 hg hB3
      go_wp2
      go_ret
      exact ⟨rfl, HE3.out⟩
    | true =>
      rw [hD] at hs hh
      simp only [if_true] at hs hh ⊢
      obtain ⟨hbk, hop, hmem, hcut, hform, hsl, hhl⟩ := ctlOk_back hby hD
      obtain ⟨CV, hCV⟩ : ∃ CV, ctlV (ctlOf b).op (ctlOf b).mem (ctlOf b).cut (fun i => .slice (A i) (l i) (C i)) (.slice ha hl hc) = CV := ⟨_, rfl⟩
      have hsz : CV.size = 10 := by rw [← hCV]; rfl
      have hall : CV.all (·.oneCell') = true := by rw [← hCV]; exact ctlV_one _ _ _ _ _ (fun _ => rfl) rfl
      rw [hCV]
      have HFo := Lib.hid (show ∀ w9, Calls Tryd.prog 23 #[.agg CV] w9 fun e w' => e = .returned (.bool true) ∧ Ext w9 w' from fun w9 => by
        have h1 := refFormed_any (ctlOf b).op (ctlOf b).mem (ctlOf b).cut A l C ha hl hc w9 hcut.1
        rw [hCV] at h1
        have h2 : formedB (ctlOf b).op (ctlOf b).mem (ctlOf b).cut l hl = true := by
          rw [← hform, ← hh.len]
          exact formedB_congr _ _ _ _ _ _ (fun i hi => (hs i hi).len.symm)
        rw [h2] at h1
        exact h1)
      have HBy := Lib.hid (show ∀ w9, Ext w2 w9 → Calls Tryd.prog 24 #[.agg CV] w9 fun e w' => ∃ v, e = .returned v ∧ (∃ q c, v = .slice q n c ∧ BsAt w' q n c b) ∧ Ext w9 w' from fun w9 h9 => by
        have h1 := refCtl_any (ctlOf b).op (ctlOf b).mem (ctlOf b).cut A l C ha hl hc (ctlOf b).slots (ctlOf b).hand w9 ⟨hop.1, by omega⟩ ⟨hmem.1, by omega⟩ ⟨hcut.1, by omega⟩ (fun i hi => (hs i hi).ext h9) (hh.ext h9)
          (fun i hi => by have h2 := (hs i hi).len; have h3 := hsl i hi; omega) (by have h2 := hh.len; omega)
        rw [hCV, show ctlL ⟨(ctlOf b).op, (ctlOf b).mem, (ctlOf b).cut, (ctlOf b).slots, (ctlOf b).hand⟩ = b from hbk.symm, hlen] at h1
        refine h1.mono ?_
        rintro e w' ⟨v, rfl, hown, hE⟩
        obtain ⟨q, cc, rfl, hc1, hc2⟩ := owns_slice hown
        exact ⟨_, rfl, ⟨q, cc, rfl, owns_bs hown hby (by unfold maxLen at hc2; omega) hsm⟩, hE⟩)
      have Hsz := Lib.hid hsz
      have Hall := Lib.hid hall
      clear hs hh hD hCV hsz hall hbk hop hmem hcut hform hsl hhl hby hlen
      go_upto_region 4 with (refine wpList_store_row rfl 45 _ _ rfl w2.heap.size _ rfl rfl _ _ (heap_new w2 _ _ rfl) (by rw [Hsz.out]; kernel_rfl) (by rw [Hsz.out]; rfl) Hall.out ?_; rw [setRow_new w2 _ _ _ _ rfl])
      obtain ⟨w3, hw3⟩ : ∃ w3, w2.alloc (.cells CV 45) = w3 := ⟨_, rfl⟩
      have hE3 : Ext w2 w3 := by rw [← hw3]; exact (Ext.refl w2).alloc _
      obtain ⟨g, hg⟩ : ∃ g, w2.heap.size = g := ⟨_, rfl⟩
      have hB3 : w3.heap[g]? = some (.cells CV 45 (0, 0)) := by rw [← hw3]; exact heap_new w2 _ _ hg.symm
      refine wp_world (w' := w3) hw3 ?_
      rw [hg]
      have HE3 := Lib.hid (HE2.out.trans hE3)
      have HB3 := Lib.hid hB3
      have HX0 := Lib.hid (show ∀ x, Ext w3.drew x → Ext w3 x from fun x hx => Ext.trans (Ext.refl w3).drew hx)
      have HBy := Lib.hid (show ∀ w9, Ext w3 w9 → _ from fun w9 h9 => HBy.out w9 (hE3.trans h9))
      clear hw3 hE3 hg hB3
      go_upto_region 6 with (fail)
      refine wp_region_lexA (by kernel_rfl) (by kernel_rfl) ?_
      refine lx_e (.agg CV) [] (by kernel_rfl) rfl (by rfl) (fun w1 hw1 => ?_) ?_
      · simp only [pk, lexVals]
        exact lu_row rfl rfl (hw1.keep HB3.out) Tryd.underlying45 rfl (by rw [Hsz.out]; kernel_rfl)
      refine lx_e (.bool true) [(0, 27)] (by kernel_rfl) rfl (by rfl) (fun w1 hw1 => ?_) ?_
      · simp only [pk, nthSp, lexVals]
        have HM := Lib.hid (HFo.out w1)
        clear hw1
        go_simp
        refine HM.out.mono ?_
        rintro e w2 ⟨rfl, hE2⟩
        exact ⟨_, rfl, hE2, rfl⟩
      refine lx_e (.bool true) [(0, 28)] (by kernel_rfl) rfl (by rfl) (fun w1 hw1 => ?_) ?_
      · simp only [pk, nthSp, lexVals]
        go_simp
        exact ⟨Ext.refl _, rfl⟩
      refine lx_ge (.agg CV) [(0, 29)] 29 (by kernel_rfl) rfl (by kernel_rfl) (by rfl) (fun w1 => ?_) (fun w1 hw1 => ?_) ?_
      · simp only [pk, nthSp, lexVals]
        rfl
      · simp only [pk, nthSp, lexVals]
        exact lu_row rfl rfl (hw1.keep HB3.out) Tryd.underlying45 rfl (by rw [Hsz.out]; kernel_rfl)
      refine lx_ga (fun u w => ∃ q c, u = .slice q n c ∧ BsAt w q n c b) [(0, 30), (1, 29)] 29 (by kernel_rfl) rfl (by kernel_rfl) (by rfl) (fun u w w' he ⟨q, c, h1, h2⟩ => ⟨q, c, h1, h2.ext he⟩) (fun w1 => ?_) (fun w1 hw1 => ?_) ?_
      · simp only [pk, nthSp, lexVals]
        rfl
      · simp only [pk, nthSp, lexVals]
        have HM := Lib.hid (HBy.out w1 (HX0.out w1 hw1))
        clear hw1
        go_simp
        refine HM.out.mono ?_
        rintro e w2 ⟨v2, rfl, hs, hE2⟩
        exact ⟨_, rfl, hE2, hs⟩
      refine lx_ge (.string (strOf b)) [(0, 31), (2, 29)] 29 (by kernel_rfl) rfl (by kernel_rfl) (by rfl) (fun w1 => ?_) (fun w1 hw1 => ?_) ?_
      · simp only [pk, nthSp, lexVals]
        rintro u31 ⟨q31, c31, rfl, -⟩
        rfl
      · simp only [pk, nthSp, lexVals]
        rintro u31 ⟨q31, c31, rfl, h31⟩
        exact lu_str rfl rfl h31
      refine lx_ge (.slice a n c) [(3, 29)] 29 (by kernel_rfl) rfl (by kernel_rfl) (by rfl) (fun w1 => ?_) (fun w1 hw1 => ?_) ?_
      · simp only [pk, nthSp, lexVals]
        rfl
      · simp only [pk, nthSp, lexVals]
        go_simp
        exact ⟨Ext.refl _, rfl⟩
      refine lx_ge (.string (strOf b)) [(0, 33), (4, 29)] 29 (by kernel_rfl) rfl (by kernel_rfl) (by rfl) (fun w1 => ?_) (fun w1 hw1 => ?_) ?_
      · simp only [pk, nthSp, lexVals]
        rfl
      · simp only [pk, nthSp, lexVals]
        exact lu_str rfl rfl (H.out.ext (HE3.out.trans (HX0.out w1 hw1)))
      refine lx_ge (.bool true) [(2, 32), (0, 34), (5, 29)] 29 (by kernel_rfl) rfl (by kernel_rfl) (by rfl) (fun w1 => ?_) (fun w1 hw1 => ?_) ?_
      · simp only [pk, nthSp, lexVals]
        rfl
      · simp only [pk, nthSp, lexVals]
        go_simp
        exact ⟨Ext.refl _, rfl⟩
      refine lx_e (.bool true) [(6, 29), (0, 35)] (by kernel_rfl) rfl (by rfl) (fun w1 hw1 => ?_) ?_
      · simp only [pk, nthSp, lexVals]
        go_simp
        exact ⟨Ext.refl _, rfl⟩
      refine lx_e (.bool true) [(0, 36)] (by kernel_rfl) rfl (by rfl) (fun w1 hw1 => ?_) ?_
      · simp only [pk, nthSp, lexVals]
        go_simp
        exact ⟨Ext.refl _, rfl⟩
      refine lx_stopA (by rfl) fun w5 hw5 => ?_
      have HE5 := Lib.hid (HE3.out.trans (HX0.out w5 hw5))
      clear hw5
      simp only [rv, pf, lexVals]
      rintro v1 ⟨q1, c1, rfl, -⟩
      simp only [Act.put, List.setIfInBounds_toArray, List.set_cons_zero, List.set_cons_succ]
      go_wp2
      go_ret
      exact ⟨rfl, HE5.out⟩
  · have x1 : (600 : Int) < (n : Int) := by omega
    clear hn
    go_enter Tryd.func6, Tryd.ntmps6
    go_wp2_with fail
    refine (awake16_any w HK.out).mono ?_
    rintro e w1 ⟨rfl, hE1⟩
    have HE1 := Lib.hid hE1
    clear hE1
    go_wp2_with fail
    refine (awake16_any w1 (HK.out.ext' HE1.out)).mono ?_
    rintro e w2 ⟨rfl, hE2⟩
    have HE2 := Lib.hid (HE1.out.trans hE2)
    clear hE2
    go_wp2
    go_ret
    exact ⟨rfl, HE2.out⟩

end Go.Proofs.YtppidlpblkihbaaDoor
