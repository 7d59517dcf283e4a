/-
  The walk of jalousieref15.Check. Asked: the table of 64 words lies as the text lays it.
-/
import Derived.Test.YtpiebfhcfkncoaaDoorPrCk
import Derived.Test.YtpiebfhcfkncoaaDoorRef15
import Derived.Test.YtpiebfhcfkncoaaDoorRefH12
import Derived.Test.YtpiebfhcfkncoaaDoorPrRf
import Derived.Test.YtpiebfhcfkncoaaDoorHdQ
namespace Go.Proofs.YtpiebfhcfkncoaaDoor
open Go.ChangeShapes Go.WideShapes Go.ChangeAt Go.RowKit

theorem strOf_beq {xs ys : List Int} (h1 : ∀ x ∈ xs, 0 ≤ x ∧ x < 256) (h2 : ∀ x ∈ ys, 0 ≤ x ∧ x < 256) : ((strOf xs).toList == (strOf ys).toList) = decide (xs = ys) := by
  rw [Bool.eq_iff_iff, beq_iff_eq, decide_eq_true_eq]
  constructor
  · intro h
    rw [ByteArray.toList_eq, ByteArray.toList_eq] at h
    exact u8s_inj h1 h2 h
  · rintro rfl
    rfl

theorem refBytes_bs (h : Hd) (ts : List (Nat → Int)) (w : World) (ho : HdOk h) (ht : TsAt w h.ta h.tn h.tc ts) :
    Calls Tryd.prog 26 #[.agg (hdV h)] w fun e w' => ∃ q n c, e = .returned (.slice q n c) ∧ BsAt w' q n c (bytesL h ts) ∧ Ext w w' :=
  (refHdBytes_any h ts w ho ht).mono fun e w' ⟨v, he, hown, hE⟩ => by
    obtain ⟨q, c, rfl, h2, h3⟩ := owns_slice hown
    exact ⟨q, _, c, he, owns_bs hown (bytesL_byte ho ht.len ht.byte) (by unfold maxLen at h3; omega) (by have := bytesL_le h ts; omega), hE⟩

set_option maxHeartbeats 16000000 in
set_option maxRecDepth 100000 in
theorem ref15Check_any (r : Rg) (p : Pr) (w : World) (hr : RgAt w r) (hp : PrAt w p) (hk : KsAt 0 w) :
    Calls Tryd.prog 11 #[.agg (rgV r), .agg (prV p)] w fun e w' => e = .returned (.bool (chkB realR r p)) ∧ Ext w w' := by
  obtain ⟨w2, hw2, hE2, hR2, hB2⟩ := tok_box' w (rgV r) (prV p) 26 35
  obtain ⟨g, hg⟩ : ∃ g, w.heap.size = g := ⟨_, rfl⟩
  rw [hg] at hR2 hB2
  have hkd := fun hf : prB p = true => prB_kind hf
  have Hsr := Lib.hid (rgV_size r)
  have Hsp := Lib.hid (prV_size p)
  have HFo := Lib.hid (refPrFormed_any p w2 (hp.ext hE2))
  have hRa := fun w1 (h1 : Ext w2 w1) => ref15Right_any r p.a.1 p.a.2 w1 (hr.ext (hE2.trans h1)) hp.a.ok (hp.a.toks.ext (hE2.trans h1)) (hk.ext' (hE2.trans h1))
  have hRb := fun w1 (h1 : Ext w2 w1) => ref15Right_any r p.b.1 p.b.2 w1 (hr.ext (hE2.trans h1)) hp.b.ok (hp.b.toks.ext (hE2.trans h1)) (hk.ext' (hE2.trans h1))
  have Hba := Lib.hid (bytesL_byte hp.a.ok hp.a.toks.len hp.a.toks.byte)
  have Hbb := Lib.hid (bytesL_byte hp.b.ok hp.b.toks.len hp.b.toks.byte)
  have hBa := fun w1 (h1 : Ext w2 w1) => refBytes_bs p.a.1 p.a.2 w1 hp.a.ok (hp.a.toks.ext (hE2.trans h1))
  have hBb := fun w1 (h1 : Ext w2 w1) => refBytes_bs p.b.1 p.b.2 w1 hp.b.ok (hp.b.toks.ext (hE2.trans h1))
  have hHs := fun w1 (h1 : Ext w2 w1) => refHash12_any p.a.1 p.a.2 w1 hp.a.ok (hp.a.toks.ext (hE2.trans h1)) (hk.ext' (hE2.trans h1))
  have hMe := fun w1 (h1 : Ext w2 w1) => refMeet_any p.a.1.ta p.a.1.tn p.a.1.tc p.a.2 p.wa p.wn p.wc p.ws w1 (hp.a.toks.ext (hE2.trans h1)) (hp.toks.ext (hE2.trans h1))
  have C0 := Lib.hid (fun x (h : Ext w2 x) => pr_kind (h.keep hB2))
  have C1 := Lib.hid (fun x (h : Ext w2 x) => pr_aw (h.keep hB2))
  have C126 := Lib.hid (fun x (h : Ext w2 x) => pr_bw (h.keep hB2))
  have C2 := Lib.hid (show ∀ x, Ext w2 x → x.cell? ⟨g + 1, 2, none⟩ = some (.int .u64 p.a.1.seq) from fun x h => pr_a (h.keep hB2) 1 (by omega))
  have C127 := Lib.hid (show ∀ x, Ext w2 x → x.cell? ⟨g + 1, 127, none⟩ = some (.int .u64 p.b.1.seq) from fun x h => pr_b (h.keep hB2) 1 (by omega))
  have C36 := Lib.hid (show ∀ x, Ext w2 x → x.cell? ⟨g + 1, 36, none⟩ = some (.bool p.a.1.ctl) from fun x h => pr_a (h.keep hB2) 35 (by omega))
  have C54 := Lib.hid (fun x (h : Ext w2 x) => pr_atoks (h.keep hB2))
  have C254 := Lib.hid (fun x (h : Ext w2 x) => pr_toks (h.keep hB2))
  have CP := Lib.hid (show ∀ x, Ext w2 x → ∀ i, i < 32 → x.cell? ⟨g + 1, 128 + i, none⟩ = some (.int .u8 (p.b.1.prev i)) from fun x h i hi => by
    have h1 := pr_b (h.keep hB2) (2 + i) (by omega)
    rw [show 126 + (2 + i) = 128 + i by omega] at h1
    rw [h1]
    unfold hdC
    rw [if_neg (by omega), if_neg (by omega), if_pos (by omega), show 2 + i - 2 = i by omega])
  have hsm := hp.toks.small
  have Ha := Lib.hid hp.a
  have Hb := Lib.hid hp.b
  have Hg := Lib.hid hg
  have Hw2 := Lib.hid hw2
  have HE0 := Lib.hid hE2
  have HR2 := Lib.hid hR2
  have HB2 := Lib.hid hB2
  clear hw2 hE2 hR2 hB2 hg hr hp hk
  obtain ⟨F, hF⟩ : ∃ F, prB p = F := ⟨_, rfl⟩
  rw [hF] at HFo
  cases F with
  | false =>
    rw [chk_no hF]
    have HBP := Lib.hid HB2.out
    clear hF hkd hRa hRb hBa hBb hHs hMe
    go_enter Tryd.func11, Tryd.ntmps11
    go_upto_region 1 with (fail)
    refine wp_world (w' := w2) Hw2.out ?_
    rw [Hg.out]
    clear Hw2
    go_wp2_with (refine wpList_load_rowW rfl 35 _ rfl (g + 1) rfl _ _ _ _ HBP.out Tryd.underlying35 rfl (by rw [Hsp.out]; kernel_rfl) ?_)
    refine HFo.out.mono ?_
    rintro e w3 ⟨rfl, hE⟩
    have HE := Lib.hid hE
    clear hE HFo
    go_wp2
    go_ret
    exact ⟨rfl, HE0.out.trans HE.out⟩
  | true =>
    have hk := hkd hF
    have hf := hF
    clear hkd hF
    obtain ⟨K, a, b, W, F, H, wa, wn, wc, ws⟩ := p
    dsimp only at C0 C1 C126 C2 C127 C36 C54 C254 CP hRa hRb hBa hBb hHs hMe hk hsm Hba Hbb Ha Hb
    obtain ⟨PV, hPV⟩ : ∃ x, prV ⟨K, a, b, W, F, H, wa, wn, wc, ws⟩ = x := ⟨_, rfl⟩
    have HBP := Lib.hid HB2.out
    rw [hPV] at HFo Hsp Hw2 HBP ⊢
    clear hPV
    have HMe := Lib.hid hMe
    have HHs := Lib.hid hHs
    have HBa := Lib.hid hBa
    have HBb := Lib.hid hBb
    obtain ⟨RV, hRV⟩ : ∃ x, rgV r = x := ⟨_, rfl⟩
    rw [hRV] at hRa hRb HR2 Hsr Hw2 ⊢
    clear hMe hHs hRV hBa hBb
    rcases hk with rfl | rfl | rfl | rfl
    · rw [chk_1 hf rfl]
      have hpb := same_bytes Ha.out.ok Hb.out.ok Ha.out.toks.len Hb.out.toks.len (prB_two hf (.inl rfl)).1 (prB_two hf (.inl rfl)).2
      clear hf
      dsimp only at hpb ⊢
      obtain ⟨RA, hRA⟩ : ∃ x, rightO realR (keyO r a.1) a.1 a.2 = x := ⟨_, rfl⟩
      rw [hRA] at hRa ⊢
      have HRa := Lib.hid hRa
      clear hRa hRA
      obtain ⟨RB, hRB⟩ : ∃ x, rightO realR (keyO r b.1) b.1 b.2 = x := ⟨_, rfl⟩
      rw [hRB] at hRb ⊢
      have HRb := Lib.hid hRb
      clear hRb hRB
      obtain ⟨AW, hAW⟩ : ∃ x, a.1.writer = x := ⟨_, rfl⟩
      obtain ⟨BW, hBW⟩ : ∃ x, b.1.writer = x := ⟨_, rfl⟩
      obtain ⟨AS, hAS⟩ : ∃ x, a.1.seq = x := ⟨_, rfl⟩
      obtain ⟨BS, hBS⟩ : ∃ x, b.1.seq = x := ⟨_, rfl⟩
      rw [hAW] at C1 ⊢
      rw [hBW] at C126 ⊢
      rw [hAS] at C2 ⊢
      rw [hBS] at C127 ⊢
      obtain ⟨SB, hSB⟩ : ∃ x, sameB a.1 b.1 a.2 b.2 = x := ⟨_, rfl⟩
      rw [hSB] at hpb ⊢
      have hss := strOf_beq Hba.out Hbb.out
      rw [← hpb] at hss
      obtain ⟨XA, hXA⟩ : ∃ x, bytesL a.1 a.2 = x := ⟨_, rfl⟩
      obtain ⟨XB, hXB⟩ : ∃ x, bytesL b.1 b.2 = x := ⟨_, rfl⟩
      rw [hXA] at HBa hss
      rw [hXB] at HBb hss
      have HSs := Lib.hid hss
      clear hpb hSB hXA hXB hss
      clear hAW hBW hAS hBS
      go_enter Tryd.func11, Tryd.ntmps11
      go_upto_region 1 with (fail)
      refine wp_world (w' := w2) Hw2.out ?_
      rw [Hg.out]
      clear Hw2
      go_wp2_with (refine wpList_load_rowW rfl 35 _ rfl (g + 1) rfl _ _ _ _ HBP.out Tryd.underlying35 rfl (by rw [Hsp.out]; kernel_rfl) ?_)
      refine HFo.out.mono ?_
      rintro e w3 ⟨rfl, hE⟩
      have HE := Lib.hid hE
      clear hE HFo
      have c0 := C0.out w3 HE.out
      have c1 := C1.out w3 HE.out
      have c126 := C126.out w3 HE.out
      by_cases h1 : AW = BW
      case neg =>
        have y1 : (AW == BW) = false := by simpa using h1
        go_wp2
        go_ret
        exact ⟨by first | rfl | (simp; done) | (simp [h1]; done), HE0.out.trans HE.out⟩
      subst h1
      go_wp2_with (first | (refine wpList_load_rowW rfl 26 _ rfl g rfl _ _ _ _ (HE.out.keep HR2.out) Tryd.underlying26 rfl (by rw [Hsr.out]; kernel_rfl) ?_) | (refine wp_hmid rfl _ rfl (g + 1) 1 a.1 rfl (pr_ra' (HE.out.keep HB2.out)) ?_) | (refine wp_hmid rfl _ rfl (g + 1) 126 b.1 rfl (pr_rb' (HE.out.keep HB2.out)) ?_))
      refine (HRa.out w3 HE.out).mono ?_
      rintro e w4 ⟨rfl, hE⟩
      have HE := Lib.hid (HE.out.trans hE)
      clear hE
      clear c0 c1 c126
      cases RA with
      | false =>
        go_wp2
        go_ret
        exact ⟨by first | rfl | (simp; done), HE0.out.trans HE.out⟩
      | true =>
        go_wp2_with (first | (refine wpList_load_rowW rfl 26 _ rfl g rfl _ _ _ _ (HE.out.keep HR2.out) Tryd.underlying26 rfl (by rw [Hsr.out]; kernel_rfl) ?_) | (refine wp_hmid rfl _ rfl (g + 1) 1 a.1 rfl (pr_ra' (HE.out.keep HB2.out)) ?_) | (refine wp_hmid rfl _ rfl (g + 1) 126 b.1 rfl (pr_rb' (HE.out.keep HB2.out)) ?_))
        refine (HRb.out w4 HE.out).mono ?_
        rintro e w5 ⟨rfl, hE⟩
        have HE := Lib.hid (HE.out.trans hE)
        clear hE
        cases RB with
        | false =>
          go_wp2
          go_ret
          exact ⟨by first | rfl | (simp; done), HE0.out.trans HE.out⟩
        | true =>
          have HB3 := Lib.hid (HE.out.keep HB2.out)
          have HX := Lib.hid (show ∀ x, Ext w5.drew x → Ext w5 x from fun x hx => Ext.trans (Ext.refl w5).drew hx)
          have c0 := C0.out w5 HE.out
          have C127 := Lib.hid (fun x (hx : Ext w5 x) => C127.out x (HE.out.trans hx))
          have C2 := Lib.hid (fun x (hx : Ext w5 x) => C2.out x (HE.out.trans hx))
          have CP := Lib.hid (fun x (hx : Ext w5 x) => CP.out x (HE.out.trans hx))
          by_cases h2 : AS = BS
          case neg =>
            have HY := Lib.hid (show (AS == BS) = false by simpa using h2)
            have h2' := Lib.hid h2
            clear h2
            go_upto_region 10 with (fail)
            clear c0
            refine wp_region_lexA (by kernel_rfl) (by kernel_rfl) ?_
            refine lx_e (.pointer (some ⟨g + 1, 1, none⟩)) [] (by kernel_rfl) rfl (by rfl) (fun w1 hw1 => ?_) ?_
            · simp only [pk, lexVals]
              go_simp
              exact ⟨Ext.refl _, rfl⟩
            refine lx_e (.pointer (some ⟨g + 1, 2, none⟩)) [(0, 62)] (by kernel_rfl) rfl (by rfl) (fun w1 hw1 => ?_) ?_
            · simp only [pk, nthSp, lexVals]
              go_simp
              exact ⟨Ext.refl _, rfl⟩
            refine lx_e (.int .u64 AS) [(0, 63)] (by kernel_rfl) rfl (by rfl) (fun w1 hw1 => ?_) ?_
            · simp only [pk, nthSp, lexVals]
              have hc := C2.out w1 (HX.out w1 hw1)
              clear hw1
              go_simp
              exact ⟨Ext.refl _, rfl⟩
            refine lx_e (.pointer (some ⟨g + 1, 126, none⟩)) [] (by kernel_rfl) rfl (by rfl) (fun w1 hw1 => ?_) ?_
            · simp only [pk, lexVals]
              go_simp
              exact ⟨Ext.refl _, rfl⟩
            refine lx_e (.pointer (some ⟨g + 1, 127, none⟩)) [(0, 65)] (by kernel_rfl) rfl (by rfl) (fun w1 hw1 => ?_) ?_
            · simp only [pk, nthSp, lexVals]
              go_simp
              exact ⟨Ext.refl _, rfl⟩
            refine lx_e (.int .u64 BS) [(0, 66)] (by kernel_rfl) rfl (by rfl) (fun w1 hw1 => ?_) ?_
            · simp only [pk, nthSp, lexVals]
              have hc := C127.out w1 (HX.out w1 hw1)
              clear hw1
              go_simp
              exact ⟨Ext.refl _, rfl⟩
            refine lx_e (.bool false) [(3, 64), (0, 67)] (by kernel_rfl) rfl (by rfl) (fun w1 hw1 => ?_) ?_
            · simp only [pk, nthSp, lexVals]
              have hy := HY.out
              clear hw1
              go_simp
              exact ⟨Ext.refl _, by first | rfl | (rw [hy])⟩
            refine lx_e (.bool false) [(0, 68)] (by kernel_rfl) rfl (by rfl) (fun w1 hw1 => ?_) ?_
            · simp only [pk, nthSp, lexVals]
              go_simp
              exact ⟨Ext.refl _, rfl⟩
            refine lx_no [(0, 69)] 69 (by kernel_rfl) rfl (by kernel_rfl) (by rfl) (fun w1 => ?_) ?_
            · simp only [pk, nthSp, lexVals]
              first | (go_simp; done) | (go_simp; exact fun h => by cases h)
            refine lx_no [(0, 70), (1, 69)] 69 (by kernel_rfl) rfl (by kernel_rfl) (by rfl) (fun w1 => ?_) ?_
            · simp only [pk, nthSp, lexVals]
              first | (go_simp; done) | (go_simp; exact fun h => by cases h)
            refine lx_no [(0, 71), (2, 69)] 69 (by kernel_rfl) rfl (by kernel_rfl) (by rfl) (fun w1 => ?_) ?_
            · simp only [pk, nthSp, lexVals]
              first | (go_simp; done) | (go_simp; exact fun h => by cases h)
            refine lx_no [(0, 72), (3, 69)] 69 (by kernel_rfl) rfl (by kernel_rfl) (by rfl) (fun w1 => ?_) ?_
            · simp only [pk, nthSp, lexVals]
              first | (go_simp; done) | (go_simp; exact fun h => by cases h)
            refine lx_no [(4, 69)] 69 (by kernel_rfl) rfl (by kernel_rfl) (by rfl) (fun w1 => ?_) ?_
            · simp only [pk, nthSp, lexVals]
              first | (go_simp; done) | (go_simp; exact fun h => by cases h)
            refine lx_no [(0, 74), (5, 69)] 69 (by kernel_rfl) rfl (by kernel_rfl) (by rfl) (fun w1 => ?_) ?_
            · simp only [pk, nthSp, lexVals]
              first | (go_simp; done) | (go_simp; exact fun h => by cases h)
            refine lx_no [(0, 75), (6, 69)] 69 (by kernel_rfl) rfl (by kernel_rfl) (by rfl) (fun w1 => ?_) ?_
            · simp only [pk, nthSp, lexVals]
              first | (go_simp; done) | (go_simp; exact fun h => by cases h)
            refine lx_no [(0, 76), (7, 69)] 69 (by kernel_rfl) rfl (by kernel_rfl) (by rfl) (fun w1 => ?_) ?_
            · simp only [pk, nthSp, lexVals]
              first | (go_simp; done) | (go_simp; exact fun h => by cases h)
            refine lx_no [(4, 73), (0, 77), (8, 69)] 69 (by kernel_rfl) rfl (by kernel_rfl) (by rfl) (fun w1 => ?_) ?_
            · simp only [pk, nthSp, lexVals]
              first | (go_simp; done) | (go_simp; exact fun h => by cases h)
            refine lx_e (.bool false) [(9, 69), (0, 78)] (by kernel_rfl) rfl (by rfl) (fun w1 hw1 => ?_) ?_
            · simp only [pk, nthSp, lexVals]
              go_simp
              exact ⟨Ext.refl _, rfl⟩
            refine lx_e (.bool false) [(0, 79)] (by kernel_rfl) rfl (by rfl) (fun w1 hw1 => ?_) ?_
            · simp only [pk, nthSp, lexVals]
              go_simp
              exact ⟨Ext.refl _, rfl⟩
            refine lx_stopA (by rfl) fun w9 hw9 => ?_
            have HE := Lib.hid (HE.out.trans (HX.out w9 hw9))
            clear hw9
            simp only [rv, pf, lexVals]
            simp only [Act.put, List.setIfInBounds_toArray, List.set_cons_zero, List.set_cons_succ]
            go_wp2
            go_ret
            exact ⟨by first | rfl | (simp; done) | (simp [h2'.out]; done), HE0.out.trans HE.out⟩
          subst h2
          have HY := Lib.hid (show (AS == AS) = true by simp)
          go_upto_region 10 with (fail)
          clear c0
          refine wp_region_lexA (by kernel_rfl) (by kernel_rfl) ?_
          refine lx_e (.pointer (some ⟨g + 1, 1, none⟩)) [] (by kernel_rfl) rfl (by rfl) (fun w1 hw1 => ?_) ?_
          · simp only [pk, lexVals]
            go_simp
            exact ⟨Ext.refl _, rfl⟩
          refine lx_e (.pointer (some ⟨g + 1, 2, none⟩)) [(0, 62)] (by kernel_rfl) rfl (by rfl) (fun w1 hw1 => ?_) ?_
          · simp only [pk, nthSp, lexVals]
            go_simp
            exact ⟨Ext.refl _, rfl⟩
          refine lx_e (.int .u64 AS) [(0, 63)] (by kernel_rfl) rfl (by rfl) (fun w1 hw1 => ?_) ?_
          · simp only [pk, nthSp, lexVals]
            have hc := C2.out w1 (HX.out w1 hw1)
            clear hw1
            go_simp
            exact ⟨Ext.refl _, rfl⟩
          refine lx_e (.pointer (some ⟨g + 1, 126, none⟩)) [] (by kernel_rfl) rfl (by rfl) (fun w1 hw1 => ?_) ?_
          · simp only [pk, lexVals]
            go_simp
            exact ⟨Ext.refl _, rfl⟩
          refine lx_e (.pointer (some ⟨g + 1, 127, none⟩)) [(0, 65)] (by kernel_rfl) rfl (by rfl) (fun w1 hw1 => ?_) ?_
          · simp only [pk, nthSp, lexVals]
            go_simp
            exact ⟨Ext.refl _, rfl⟩
          refine lx_e (.int .u64 AS) [(0, 66)] (by kernel_rfl) rfl (by rfl) (fun w1 hw1 => ?_) ?_
          · simp only [pk, nthSp, lexVals]
            have hc := C127.out w1 (HX.out w1 hw1)
            clear hw1
            go_simp
            exact ⟨Ext.refl _, rfl⟩
          refine lx_e (.bool true) [(3, 64), (0, 67)] (by kernel_rfl) rfl (by rfl) (fun w1 hw1 => ?_) ?_
          · simp only [pk, nthSp, lexVals]
            go_simp
            exact ⟨Ext.refl _, rfl⟩
          refine lx_e (.bool true) [(0, 68)] (by kernel_rfl) rfl (by rfl) (fun w1 hw1 => ?_) ?_
          · simp only [pk, nthSp, lexVals]
            go_simp
            exact ⟨Ext.refl _, rfl⟩
          refine lx_ge (.pointer (some ⟨g + 1, 1, none⟩)) [(0, 69)] 69 (by kernel_rfl) rfl (by kernel_rfl) (by rfl) (fun w1 => ?_) (fun w1 hw1 => ?_) ?_
          · simp only [pk, nthSp, lexVals]
            rfl
          · simp only [pk, nthSp, lexVals]
            go_simp
            exact ⟨Ext.refl _, rfl⟩
          refine lx_ge (.agg (hdV a.1)) [(0, 70), (1, 69)] 69 (by kernel_rfl) rfl (by kernel_rfl) (by rfl) (fun w1 => ?_) (fun w1 hw1 => ?_) ?_
          · simp only [pk, nthSp, lexVals]
            rfl
          · simp only [pk, nthSp, lexVals]
            exact lu_hmid rfl rfl (pr_ra' ((HX.out w1 hw1).keep HB3.out))
          refine lx_ga (fun u w => ∃ q n c, u = .slice q n c ∧ BsAt w q n c XA) [(0, 71), (2, 69)] 69 (by kernel_rfl) rfl (by kernel_rfl) (by rfl) (fun u w w' he ⟨q, n, c, h1, h2⟩ => ⟨q, n, c, h1, h2.ext he⟩) (fun w1 => ?_) (fun w1 hw1 => ?_) ?_
          · simp only [pk, nthSp, lexVals]
            rfl
          · simp only [pk, nthSp, lexVals]
            have HM := Lib.hid (HBa.out w1 (HE.out.trans (HX.out w1 hw1)))
            clear hw1
            go_simp
            refine HM.out.mono ?_
            rintro e w2 ⟨q, n, c, rfl, hs, hE2⟩
            exact ⟨_, rfl, hE2, _, _, _, rfl, hs⟩
          refine lx_ge (.string (strOf XA)) [(0, 72), (3, 69)] 69 (by kernel_rfl) rfl (by kernel_rfl) (by rfl) (fun w1 => ?_) (fun w1 hw1 => ?_) ?_
          · simp only [pk, nthSp, lexVals]
            rintro u72 ⟨q72, n72, c72, rfl, -⟩
            rfl
          · simp only [pk, nthSp, lexVals]
            rintro u72 ⟨q72, n72, c72, rfl, h72⟩
            exact lu_str rfl rfl h72
          refine lx_ge (.pointer (some ⟨g + 1, 126, none⟩)) [(4, 69)] 69 (by kernel_rfl) rfl (by kernel_rfl) (by rfl) (fun w1 => ?_) (fun w1 hw1 => ?_) ?_
          · simp only [pk, nthSp, lexVals]
            rfl
          · simp only [pk, nthSp, lexVals]
            go_simp
            exact ⟨Ext.refl _, rfl⟩
          refine lx_ge (.agg (hdV b.1)) [(0, 74), (5, 69)] 69 (by kernel_rfl) rfl (by kernel_rfl) (by rfl) (fun w1 => ?_) (fun w1 hw1 => ?_) ?_
          · simp only [pk, nthSp, lexVals]
            rfl
          · simp only [pk, nthSp, lexVals]
            exact lu_hmid rfl rfl (pr_rb' ((HX.out w1 hw1).keep HB3.out))
          refine lx_ga (fun u w => ∃ q n c, u = .slice q n c ∧ BsAt w q n c XB) [(0, 75), (6, 69)] 69 (by kernel_rfl) rfl (by kernel_rfl) (by rfl) (fun u w w' he ⟨q, n, c, h1, h2⟩ => ⟨q, n, c, h1, h2.ext he⟩) (fun w1 => ?_) (fun w1 hw1 => ?_) ?_
          · simp only [pk, nthSp, lexVals]
            rfl
          · simp only [pk, nthSp, lexVals]
            have HM := Lib.hid (HBb.out w1 (HE.out.trans (HX.out w1 hw1)))
            clear hw1
            go_simp
            refine HM.out.mono ?_
            rintro e w2 ⟨q, n, c, rfl, hs, hE2⟩
            exact ⟨_, rfl, hE2, _, _, _, rfl, hs⟩
          refine lx_ge (.string (strOf XB)) [(0, 76), (7, 69)] 69 (by kernel_rfl) rfl (by kernel_rfl) (by rfl) (fun w1 => ?_) (fun w1 hw1 => ?_) ?_
          · simp only [pk, nthSp, lexVals]
            rintro u76 ⟨q76, n76, c76, rfl, -⟩
            rfl
          · simp only [pk, nthSp, lexVals]
            rintro u76 ⟨q76, n76, c76, rfl, h76⟩
            exact lu_str rfl rfl h76
          refine lx_ge (.bool (!SB)) [(4, 73), (0, 77), (8, 69)] 69 (by kernel_rfl) rfl (by kernel_rfl) (by rfl) (fun w1 => ?_) (fun w1 hw1 => ?_) ?_
          · simp only [pk, nthSp, lexVals]
            rfl
          · simp only [pk, nthSp, lexVals]
            have hs := HSs.out
            clear hw1
            go_simp
            exact ⟨Ext.refl _, by first | rfl | (rw [hs]) | (trace_state; simp [hs])⟩
          refine lx_e (.bool (!SB)) [(9, 69), (0, 78)] (by kernel_rfl) rfl (by rfl) (fun w1 hw1 => ?_) ?_
          · simp only [pk, nthSp, lexVals]
            go_simp
            exact ⟨Ext.refl _, rfl⟩
          refine lx_e (.bool (!SB)) [(0, 79)] (by kernel_rfl) rfl (by rfl) (fun w1 hw1 => ?_) ?_
          · simp only [pk, nthSp, lexVals]
            go_simp
            exact ⟨Ext.refl _, rfl⟩
          refine lx_stopA (by rfl) fun w9 hw9 => ?_
          have HE := Lib.hid (HE.out.trans (HX.out w9 hw9))
          clear hw9
          simp only [rv, pf, lexVals]
          rintro v1 ⟨q1, n1, c1, rfl, -⟩ v2 ⟨q2, n2, c2, rfl, -⟩
          simp only [Act.put, List.setIfInBounds_toArray, List.set_cons_zero, List.set_cons_succ]
          go_wp2
          go_ret
          exact ⟨by first | rfl | (simp; done), HE0.out.trans HE.out⟩
    · rw [chk_2 hf rfl]
      have HBd := Lib.hid (prB_seq hf (.inr rfl))
      clear hf
      dsimp only at HBd ⊢
      obtain ⟨RA, hRA⟩ : ∃ x, rightO realR (keyO r a.1) a.1 a.2 = x := ⟨_, rfl⟩
      rw [hRA] at hRa ⊢
      have HRa := Lib.hid hRa
      clear hRa hRA
      obtain ⟨RB, hRB⟩ : ∃ x, rightO realR (keyO r b.1) b.1 b.2 = x := ⟨_, rfl⟩
      rw [hRB] at hRb ⊢
      have HRb := Lib.hid hRb
      clear hRb hRB
      obtain ⟨AW, hAW⟩ : ∃ x, a.1.writer = x := ⟨_, rfl⟩
      obtain ⟨BW, hBW⟩ : ∃ x, b.1.writer = x := ⟨_, rfl⟩
      obtain ⟨AS, hAS⟩ : ∃ x, a.1.seq = x := ⟨_, rfl⟩
      obtain ⟨BS, hBS⟩ : ∃ x, b.1.seq = x := ⟨_, rfl⟩
      rw [hAW] at C1 ⊢
      rw [hBW] at C126 ⊢
      rw [hAS] at C2 HBd ⊢
      rw [hBS] at C127 ⊢
      obtain ⟨T, hT⟩ : ∃ x, shaF (bytesL a.1 a.2) = x := ⟨_, rfl⟩
      rw [hT] at HHs ⊢
      clear hT
      have HNe := Lib.hid neq_h
      clear hAW hBW hAS hBS
      go_enter Tryd.func11, Tryd.ntmps11
      go_upto_region 1 with (fail)
      refine wp_world (w' := w2) Hw2.out ?_
      rw [Hg.out]
      clear Hw2
      go_wp2_with (refine wpList_load_rowW rfl 35 _ rfl (g + 1) rfl _ _ _ _ HBP.out Tryd.underlying35 rfl (by rw [Hsp.out]; kernel_rfl) ?_)
      refine HFo.out.mono ?_
      rintro e w3 ⟨rfl, hE⟩
      have HE := Lib.hid hE
      clear hE HFo
      have c0 := C0.out w3 HE.out
      have c1 := C1.out w3 HE.out
      have c126 := C126.out w3 HE.out
      by_cases h1 : AW = BW
      case neg =>
        have y1 : (AW == BW) = false := by simpa using h1
        go_wp2
        go_ret
        exact ⟨by first | rfl | (simp; done) | (simp [h1]; done), HE0.out.trans HE.out⟩
      subst h1
      go_wp2_with (first | (refine wpList_load_rowW rfl 26 _ rfl g rfl _ _ _ _ (HE.out.keep HR2.out) Tryd.underlying26 rfl (by rw [Hsr.out]; kernel_rfl) ?_) | (refine wp_hmid rfl _ rfl (g + 1) 1 a.1 rfl (pr_ra' (HE.out.keep HB2.out)) ?_) | (refine wp_hmid rfl _ rfl (g + 1) 126 b.1 rfl (pr_rb' (HE.out.keep HB2.out)) ?_))
      refine (HRa.out w3 HE.out).mono ?_
      rintro e w4 ⟨rfl, hE⟩
      have HE := Lib.hid (HE.out.trans hE)
      clear hE
      clear c0 c1 c126
      cases RA with
      | false =>
        go_wp2
        go_ret
        exact ⟨by first | rfl | (simp; done), HE0.out.trans HE.out⟩
      | true =>
        go_wp2_with (first | (refine wpList_load_rowW rfl 26 _ rfl g rfl _ _ _ _ (HE.out.keep HR2.out) Tryd.underlying26 rfl (by rw [Hsr.out]; kernel_rfl) ?_) | (refine wp_hmid rfl _ rfl (g + 1) 1 a.1 rfl (pr_ra' (HE.out.keep HB2.out)) ?_) | (refine wp_hmid rfl _ rfl (g + 1) 126 b.1 rfl (pr_rb' (HE.out.keep HB2.out)) ?_))
        refine (HRb.out w4 HE.out).mono ?_
        rintro e w5 ⟨rfl, hE⟩
        have HE := Lib.hid (HE.out.trans hE)
        clear hE
        cases RB with
        | false =>
          go_wp2
          go_ret
          exact ⟨by first | rfl | (simp; done), HE0.out.trans HE.out⟩
        | true =>
          have HB3 := Lib.hid (HE.out.keep HB2.out)
          have HX := Lib.hid (show ∀ x, Ext w5.drew x → Ext w5 x from fun x hx => Ext.trans (Ext.refl w5).drew hx)
          have c0 := C0.out w5 HE.out
          have C127 := Lib.hid (fun x (hx : Ext w5 x) => C127.out x (HE.out.trans hx))
          have C2 := Lib.hid (fun x (hx : Ext w5 x) => C2.out x (HE.out.trans hx))
          have CP := Lib.hid (fun x (hx : Ext w5 x) => CP.out x (HE.out.trans hx))
          by_cases h2 : BS = AS + 1
          case neg =>
            have HY := Lib.hid (show (BS == AS + 1) = false by simpa using h2)
            have h2' := Lib.hid h2
            clear h2
            go_upto_region 11 with (fail)
            clear c0
            refine wp_region_lexA (by kernel_rfl) (by kernel_rfl) ?_
            refine lx_e (.pointer (some ⟨g + 1, 126, none⟩)) [] (by kernel_rfl) rfl (by rfl) (fun w1 hw1 => ?_) ?_
            · simp only [pk, lexVals]
              go_simp
              exact ⟨Ext.refl _, rfl⟩
            refine lx_e (.pointer (some ⟨g + 1, 127, none⟩)) [(0, 80)] (by kernel_rfl) rfl (by rfl) (fun w1 hw1 => ?_) ?_
            · simp only [pk, nthSp, lexVals]
              go_simp
              exact ⟨Ext.refl _, rfl⟩
            refine lx_e (.int .u64 BS) [(0, 81)] (by kernel_rfl) rfl (by rfl) (fun w1 hw1 => ?_) ?_
            · simp only [pk, nthSp, lexVals]
              have hc := C127.out w1 (HX.out w1 hw1)
              clear hw1
              go_simp
              exact ⟨Ext.refl _, rfl⟩
            refine lx_e (.pointer (some ⟨g + 1, 1, none⟩)) [] (by kernel_rfl) rfl (by rfl) (fun w1 hw1 => ?_) ?_
            · simp only [pk, lexVals]
              go_simp
              exact ⟨Ext.refl _, rfl⟩
            refine lx_e (.pointer (some ⟨g + 1, 2, none⟩)) [(0, 83)] (by kernel_rfl) rfl (by rfl) (fun w1 hw1 => ?_) ?_
            · simp only [pk, nthSp, lexVals]
              go_simp
              exact ⟨Ext.refl _, rfl⟩
            refine lx_e (.int .u64 AS) [(0, 84)] (by kernel_rfl) rfl (by rfl) (fun w1 hw1 => ?_) ?_
            · simp only [pk, nthSp, lexVals]
              have hc := C2.out w1 (HX.out w1 hw1)
              clear hw1
              go_simp
              exact ⟨Ext.refl _, rfl⟩
            refine lx_e (.int .u64 (AS + 1)) [(0, 85)] (by kernel_rfl) rfl (by rfl) (fun w1 hw1 => ?_) ?_
            · simp only [pk, nthSp, lexVals]
              have hb := HBd.out
              clear hw1
              go_simp
              exact ⟨Ext.refl _, by first | rfl | (show Value.int .u64 _ = Value.int .u64 _; congr 1; first | omega | (rw [IntKind.wrap_u64]; omega))⟩
            refine lx_e (.bool false) [(4, 82), (0, 86)] (by kernel_rfl) rfl (by rfl) (fun w1 hw1 => ?_) ?_
            · simp only [pk, nthSp, lexVals]
              have hy := HY.out
              clear hw1
              go_simp
              exact ⟨Ext.refl _, by first | rfl | (rw [hy])⟩
            refine lx_e (.bool false) [(0, 87)] (by kernel_rfl) rfl (by rfl) (fun w1 hw1 => ?_) ?_
            · simp only [pk, nthSp, lexVals]
              go_simp
              exact ⟨Ext.refl _, rfl⟩
            refine lx_no [(0, 88)] 88 (by kernel_rfl) rfl (by kernel_rfl) (by rfl) (fun w1 => ?_) ?_
            · simp only [pk, nthSp, lexVals]
              first | (go_simp; done) | (go_simp; exact fun h => by cases h)
            refine lx_no [(0, 89), (1, 88)] 88 (by kernel_rfl) rfl (by kernel_rfl) (by rfl) (fun w1 => ?_) ?_
            · simp only [pk, nthSp, lexVals]
              first | (go_simp; done) | (go_simp; exact fun h => by cases h)
            refine lx_no [(0, 90), (2, 88)] 88 (by kernel_rfl) rfl (by kernel_rfl) (by rfl) (fun w1 => ?_) ?_
            · simp only [pk, nthSp, lexVals]
              first | (go_simp; done) | (go_simp; exact fun h => by cases h)
            refine lx_no [(3, 88)] 88 (by kernel_rfl) rfl (by kernel_rfl) (by rfl) (fun w1 => ?_) ?_
            · simp only [pk, nthSp, lexVals]
              first | (go_simp; done) | (go_simp; exact fun h => by cases h)
            refine lx_no [(0, 92), (4, 88)] 88 (by kernel_rfl) rfl (by kernel_rfl) (by rfl) (fun w1 => ?_) ?_
            · simp only [pk, nthSp, lexVals]
              first | (go_simp; done) | (go_simp; exact fun h => by cases h)
            refine lx_no [(0, 93), (5, 88)] 88 (by kernel_rfl) rfl (by kernel_rfl) (by rfl) (fun w1 => ?_) ?_
            · simp only [pk, nthSp, lexVals]
              first | (go_simp; done) | (go_simp; exact fun h => by cases h)
            refine lx_no [(3, 91), (0, 94), (6, 88)] 88 (by kernel_rfl) rfl (by kernel_rfl) (by rfl) (fun w1 => ?_) ?_
            · simp only [pk, nthSp, lexVals]
              first | (go_simp; done) | (go_simp; exact fun h => by cases h)
            refine lx_e (.bool false) [(7, 88), (0, 95)] (by kernel_rfl) rfl (by rfl) (fun w1 hw1 => ?_) ?_
            · simp only [pk, nthSp, lexVals]
              go_simp
              exact ⟨Ext.refl _, rfl⟩
            refine lx_e (.bool false) [(0, 96)] (by kernel_rfl) rfl (by rfl) (fun w1 hw1 => ?_) ?_
            · simp only [pk, nthSp, lexVals]
              go_simp
              exact ⟨Ext.refl _, rfl⟩
            refine lx_stopA (by rfl) fun w9 hw9 => ?_
            have HE := Lib.hid (HE.out.trans (HX.out w9 hw9))
            clear hw9
            simp only [rv, pf, lexVals]
            simp only [Act.put, List.setIfInBounds_toArray, List.set_cons_zero, List.set_cons_succ]
            go_wp2
            go_ret
            exact ⟨by first | rfl | (simp; done) | (simp [h2'.out]; done), HE0.out.trans HE.out⟩
          have HY := Lib.hid (show (BS == AS + 1) = true by simpa using h2)
          have h2' := Lib.hid h2
          clear h2
          go_upto_region 11 with (fail)
          clear c0
          refine wp_region_lexA (by kernel_rfl) (by kernel_rfl) ?_
          refine lx_e (.pointer (some ⟨g + 1, 126, none⟩)) [] (by kernel_rfl) rfl (by rfl) (fun w1 hw1 => ?_) ?_
          · simp only [pk, lexVals]
            go_simp
            exact ⟨Ext.refl _, rfl⟩
          refine lx_e (.pointer (some ⟨g + 1, 127, none⟩)) [(0, 80)] (by kernel_rfl) rfl (by rfl) (fun w1 hw1 => ?_) ?_
          · simp only [pk, nthSp, lexVals]
            go_simp
            exact ⟨Ext.refl _, rfl⟩
          refine lx_e (.int .u64 BS) [(0, 81)] (by kernel_rfl) rfl (by rfl) (fun w1 hw1 => ?_) ?_
          · simp only [pk, nthSp, lexVals]
            have hc := C127.out w1 (HX.out w1 hw1)
            clear hw1
            go_simp
            exact ⟨Ext.refl _, rfl⟩
          refine lx_e (.pointer (some ⟨g + 1, 1, none⟩)) [] (by kernel_rfl) rfl (by rfl) (fun w1 hw1 => ?_) ?_
          · simp only [pk, lexVals]
            go_simp
            exact ⟨Ext.refl _, rfl⟩
          refine lx_e (.pointer (some ⟨g + 1, 2, none⟩)) [(0, 83)] (by kernel_rfl) rfl (by rfl) (fun w1 hw1 => ?_) ?_
          · simp only [pk, nthSp, lexVals]
            go_simp
            exact ⟨Ext.refl _, rfl⟩
          refine lx_e (.int .u64 AS) [(0, 84)] (by kernel_rfl) rfl (by rfl) (fun w1 hw1 => ?_) ?_
          · simp only [pk, nthSp, lexVals]
            have hc := C2.out w1 (HX.out w1 hw1)
            clear hw1
            go_simp
            exact ⟨Ext.refl _, rfl⟩
          refine lx_e (.int .u64 (AS + 1)) [(0, 85)] (by kernel_rfl) rfl (by rfl) (fun w1 hw1 => ?_) ?_
          · simp only [pk, nthSp, lexVals]
            have hb := HBd.out
            clear hw1
            go_simp
            exact ⟨Ext.refl _, by first | rfl | (show Value.int .u64 _ = Value.int .u64 _; congr 1; first | omega | (rw [IntKind.wrap_u64]; omega))⟩
          refine lx_e (.bool true) [(4, 82), (0, 86)] (by kernel_rfl) rfl (by rfl) (fun w1 hw1 => ?_) ?_
          · simp only [pk, nthSp, lexVals]
            have hy := HY.out
            clear hw1
            go_simp
            exact ⟨Ext.refl _, by first | rfl | (rw [hy])⟩
          refine lx_e (.bool true) [(0, 87)] (by kernel_rfl) rfl (by rfl) (fun w1 hw1 => ?_) ?_
          · simp only [pk, nthSp, lexVals]
            go_simp
            exact ⟨Ext.refl _, rfl⟩
          refine lx_ge (.pointer (some ⟨g + 1, 126, none⟩)) [(0, 88)] 88 (by kernel_rfl) rfl (by kernel_rfl) (by rfl) (fun w1 => ?_) (fun w1 hw1 => ?_) ?_
          · simp only [pk, nthSp, lexVals]
            rfl
          · simp only [pk, nthSp, lexVals]
            go_simp
            exact ⟨Ext.refl _, rfl⟩
          refine lx_ge (.pointer (some ⟨g + 1, 128, none⟩)) [(0, 89), (1, 88)] 88 (by kernel_rfl) rfl (by kernel_rfl) (by rfl) (fun w1 => ?_) (fun w1 hw1 => ?_) ?_
          · simp only [pk, nthSp, lexVals]
            rfl
          · simp only [pk, nthSp, lexVals]
            go_simp
            exact ⟨Ext.refl _, rfl⟩
          refine lx_ge (.agg (rowArr 32 fun j => .int .u8 (b.1.prev j))) [(0, 90), (2, 88)] 88 (by kernel_rfl) rfl (by kernel_rfl) (by rfl) (fun w1 => ?_) (fun w1 hw1 => ?_) ?_
          · simp only [pk, nthSp, lexVals]
            rfl
          · simp only [pk, nthSp, lexVals]
            exact lu_sub rfl rfl Tryd.underlying23 (size_h32 _) (CP.out w1 (HX.out w1 hw1))
          refine lx_ge (.pointer (some ⟨g + 1, 1, none⟩)) [(3, 88)] 88 (by kernel_rfl) rfl (by kernel_rfl) (by rfl) (fun w1 => ?_) (fun w1 hw1 => ?_) ?_
          · simp only [pk, nthSp, lexVals]
            rfl
          · simp only [pk, nthSp, lexVals]
            go_simp
            exact ⟨Ext.refl _, rfl⟩
          refine lx_ge (.agg (hdV a.1)) [(0, 92), (4, 88)] 88 (by kernel_rfl) rfl (by kernel_rfl) (by rfl) (fun w1 => ?_) (fun w1 hw1 => ?_) ?_
          · simp only [pk, nthSp, lexVals]
            rfl
          · simp only [pk, nthSp, lexVals]
            exact lu_hmid rfl rfl (pr_ra' ((HX.out w1 hw1).keep HB3.out))
          refine lx_ge (.agg (rowArr 32 fun j => .int .u8 (T j))) [(0, 93), (5, 88)] 88 (by kernel_rfl) rfl (by kernel_rfl) (by rfl) (fun w1 => ?_) (fun w1 hw1 => ?_) ?_
          · simp only [pk, nthSp, lexVals]
            rfl
          · simp only [pk, nthSp, lexVals]
            have hm := HHs.out w1 (HE.out.trans (HX.out w1 hw1))
            have HM := Lib.hid hm
            clear hm hw1
            go_simp
            refine HM.out.mono ?_
            rintro e w2 ⟨rfl, hE2⟩
            exact ⟨_, rfl, hE2, rfl⟩
          refine lx_ge (.bool (!arrB 32 b.1.prev T)) [(3, 91), (0, 94), (6, 88)] 88 (by kernel_rfl) rfl (by kernel_rfl) (by rfl) (fun w1 => ?_) (fun w1 hw1 => ?_) ?_
          · simp only [pk, nthSp, lexVals]
            rfl
          · simp only [pk, nthSp, lexVals]
            have hn := HNe.out
            clear hw1
            go_simp
            exact ⟨Ext.refl _, rfl⟩
          refine lx_e (.bool (!arrB 32 b.1.prev T)) [(7, 88), (0, 95)] (by kernel_rfl) rfl (by rfl) (fun w1 hw1 => ?_) ?_
          · simp only [pk, nthSp, lexVals]
            go_simp
            exact ⟨Ext.refl _, rfl⟩
          refine lx_e (.bool (!arrB 32 b.1.prev T)) [(0, 96)] (by kernel_rfl) rfl (by rfl) (fun w1 hw1 => ?_) ?_
          · simp only [pk, nthSp, lexVals]
            go_simp
            exact ⟨Ext.refl _, rfl⟩
          refine lx_stopA (by rfl) fun w9 hw9 => ?_
          have HE := Lib.hid (HE.out.trans (HX.out w9 hw9))
          clear hw9
          simp only [rv, pf, lexVals]
          simp only [Act.put, List.setIfInBounds_toArray, List.set_cons_zero, List.set_cons_succ]
          go_wp2
          go_ret
          exact ⟨by first | rfl | (simp; done) | (simp [h2'.out]; done), HE0.out.trans HE.out⟩
    · rw [chk_3 hf rfl]
      clear hf
      go_enter Tryd.func11, Tryd.ntmps11
      go_upto_region 1 with (fail)
      refine wp_world (w' := w2) Hw2.out ?_
      rw [Hg.out]
      clear Hw2
      go_wp2_with (refine wpList_load_rowW rfl 35 _ rfl (g + 1) rfl _ _ _ _ HBP.out Tryd.underlying35 rfl (by rw [Hsp.out]; kernel_rfl) ?_)
      refine HFo.out.mono ?_
      rintro e w3 ⟨rfl, hE⟩
      have HE := Lib.hid hE
      clear hE HFo
      have c0 := C0.out w3 HE.out
      go_wp2
      go_ret
      exact ⟨by first | rfl | (simp; done), HE0.out.trans HE.out⟩
    · rw [chk_4 hf rfl]
      clear hf
      dsimp only
      obtain ⟨RA, hRA⟩ : ∃ x, rightO realR (keyO r a.1) a.1 a.2 = x := ⟨_, rfl⟩
      rw [hRA] at hRa ⊢
      have HRa := Lib.hid hRa
      clear hRa hRA
      obtain ⟨CT, hCT⟩ : ∃ x, a.1.ctl = x := ⟨_, rfl⟩
      rw [hCT] at C36 ⊢
      clear hCT
      go_enter Tryd.func11, Tryd.ntmps11
      go_upto_region 1 with (fail)
      refine wp_world (w' := w2) Hw2.out ?_
      rw [Hg.out]
      clear Hw2
      go_wp2_with (refine wpList_load_rowW rfl 35 _ rfl (g + 1) rfl _ _ _ _ HBP.out Tryd.underlying35 rfl (by rw [Hsp.out]; kernel_rfl) ?_)
      refine HFo.out.mono ?_
      rintro e w3 ⟨rfl, hE⟩
      have HE := Lib.hid hE
      clear hE HFo
      have c0 := C0.out w3 HE.out
      go_wp2_with (first | (refine wpList_load_rowW rfl 26 _ rfl g rfl _ _ _ _ (HE.out.keep HR2.out) Tryd.underlying26 rfl (by rw [Hsr.out]; kernel_rfl) ?_) | (refine wp_hmid rfl _ rfl (g + 1) 1 a.1 rfl (pr_ra' (HE.out.keep HB2.out)) ?_) | (refine wp_hmid rfl _ rfl (g + 1) 126 b.1 rfl (pr_rb' (HE.out.keep HB2.out)) ?_))
      refine (HRa.out w3 HE.out).mono ?_
      rintro e w4 ⟨rfl, hE⟩
      have HE := Lib.hid (HE.out.trans hE)
      clear hE
      clear c0
      cases RA with
      | false =>
        go_wp2
        go_ret
        exact ⟨by first | rfl | (simp; done), HE0.out.trans HE.out⟩
      | true =>
        have c36 := C36.out w4 HE.out
        cases CT with
        | true =>
          go_wp2
          go_ret
          exact ⟨by first | rfl | (simp; done), HE0.out.trans HE.out⟩
        | false =>
          have c254 := C254.out w4 HE.out
          have c54 := C54.out w4 HE.out
          by_cases h0 : wn = 0
          · subst h0
            clear c54
            go_wp2
            go_ret
            exact ⟨by first | rfl | (simp; done), HE0.out.trans HE.out⟩
          · have h1 : ¬ (wn : Int) = 0 := by omega
            have y1 : ((wn : Int) == 0) = false := by simpa using h0
            go_wp2_with fail
            refine (HMe.out w4 HE.out).mono ?_
            rintro e w5 ⟨rfl, hE⟩
            have HE := Lib.hid (HE.out.trans hE)
            clear hE
            clear c36 c254 c54
            go_wp2
            go_ret
            exact ⟨by first | rfl | (simp; done) | (simp [h0]; done), HE0.out.trans HE.out⟩

end Go.Proofs.YtpiebfhcfkncoaaDoor
