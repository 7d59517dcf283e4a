/-
  The walk of jalousielaw15.ProofIdeal: it answers true. Asked: the tables lie as the text lays them.
-/
import Derived.Test.YtpiebfhcfkncoaaDoorIdealK
import Derived.Test.YtpiebfhcfkncoaaDoorRefHdB
namespace Go.Proofs.YtpiebfhcfkncoaaDoor
open Go.ChangeShapes Go.WideShapes Go.ChangeAt Go.RowKit

set_option maxHeartbeats 16000000 in
set_option maxRecDepth 100000 in
theorem lawIdeal_any (r : Rg) (h : Hd) (ts : List (Nat → Int)) (wa : Option Addr) (wn wc : Nat) (ws : List (Nat → Int)) (w : World) (hr : RgAt w r) (ho : HdOk h) (ht : TsAt w h.ta h.tn h.tc ts) (hws : TsAt w wa wn wc ws) (hk : KsAt 1 w) :
    Calls Tryd.prog 5 #[.agg (rgV r), .agg (hdV h), .slice wa wn wc] w fun e w' => e = .returned (.bool true) ∧ Ext w w' := by
  obtain ⟨w2, hw2, hE2, hR2, hH2⟩ := tok_box' w (rgV r) (hdV h) 26 33
  obtain ⟨g, hg⟩ : ∃ g, w.heap.size = g := ⟨_, rfl⟩
  rw [hg] at hR2 hH2
  have hx : HtAt w (h, ts) := ⟨ho, ht⟩
  have hgs : g + 1 < w2.heap.size := (Array.getElem?_eq_some_iff.1 hH2).1
  have hz := zero_prW
  have Hg := Lib.hid hg
  have Hw2 := Lib.hid hw2
  have HE := Lib.hid hE2
  have HR := Lib.hid hR2
  have HH := Lib.hid hH2
  have Hsz := Lib.hid (hdV_size h)
  have Hsr := Lib.hid (rgV_size r)
  have HRg := Lib.hid (fun x (hq : Ext w x) => hr.ext hq)
  have HXt := Lib.hid (fun x (hq : Ext w x) => hx.ext hq)
  have HWs := Lib.hid (fun x (hq : Ext w x) => hws.ext hq)
  have HK := Lib.hid (fun x (hq : Ext w x) => hk.ext' hq)
  have Hsp := Lib.hid (prV_size (prW (h, ts) wa wn wc ws))
  have Hop := Lib.hid (prV_one (prW (h, ts) wa wn wc ws))
  have Hs0 := Lib.hid (prV_size (prZ 0))
  have hwl := hws.small
  have hel := hr.eps.len
  obtain ⟨PV, hPV⟩ : ∃ x, prV (prW (h, ts) wa wn wc ws) = x := ⟨_, rfl⟩
  have HPV := Lib.hid hPV
  obtain ⟨ZV, hZV⟩ : ∃ x, prV (prZ 0) = x := ⟨_, rfl⟩
  obtain ⟨RV, hRV⟩ : ∃ x, rgV r = x := ⟨_, rfl⟩
  have HRV := Lib.hid hRV
  rw [hPV] at Hsp Hop
  rw [hZV] at hz Hs0
  rw [hRV] at HR Hsr Hw2 ⊢
  clear hw2 hE2 hR2 hH2 hg hr ho ht hws hk hx hPV hZV hRV
  go_enter Tryd.func5, Tryd.ntmps5
  go_upto_region 1 with (fail)
  refine wp_world (w' := w2) Hw2.out ?_
  rw [Hg.out]
  clear Hw2
  go_upto_region 2 with (first | (refine wpList_load_rowW rfl 33 _ rfl (g + 1) rfl _ _ _ _ HH.out Tryd.underlying33 rfl (by rw [Hsz.out]; kernel_rfl) ?_) | (refine wp_build_prW rfl _ _ _ rfl (h, ts) wa wn wc ws rfl rfl rfl PV HPV.out ?_) | (refine wpList_store_row rfl 35 _ _ rfl w2.heap.size _ rfl rfl _ _ (heap_new w2 _ _ rfl) (by rw [Hsp.out]; kernel_rfl) (by rw [Hsp.out, Hs0.out]) Hop.out ?_; rw [setRow_new w2 _ _ _ _ rfl]))
  obtain ⟨w3, hw3⟩ : ∃ x, w2.alloc (.cells PV 35) = x := ⟨_, rfl⟩
  obtain ⟨q, hq⟩ : ∃ x, w2.heap.size = x := ⟨_, rfl⟩
  have hQ3 : w3.heap[q]? = some (.cells PV 35 (0, 0)) := by rw [← hw3]; exact heap_new w2 _ _ hq.symm
  have hE3 : Ext w2 w3 := by rw [← hw3]; exact (Ext.refl w2).alloc _
  have HQ := Lib.hid hQ3
  have HR := Lib.hid (hE3.keep HR.out)
  have HH := Lib.hid (hE3.keep HH.out)
  have HE := Lib.hid (HE.out.trans hE3)
  refine wp_world (w' := w3) hw3 ?_
  rw [hq]
  rw [hq] at hgs
  clear hw3 hq hQ3 hE3 hz
  go_wp2_with fail
  refine (awake15_any w3).mono ?_
  rintro e w4 ⟨rfl, hE⟩
  have HQ := Lib.hid (hE.keep HQ.out)
  have HR := Lib.hid (hE.keep HR.out)
  have HH := Lib.hid (hE.keep HH.out)
  have HE := Lib.hid (HE.out.trans hE)
  have hfw := few15x_any (prW (h, ts) wa wn wc ws) r w4 (prW_at (HXt.out w4 HE.out) (HWs.out w4 HE.out)) (HRg.out w4 HE.out)
  rw [HPV.out, HRV.out] at hfw
  have HFw := Lib.hid hfw
  clear hE hfw
  go_wp2_with (first | (refine wpList_load_rowW rfl 26 _ rfl g rfl _ _ _ _ HR.out Tryd.underlying26 rfl (by rw [Hsr.out]; kernel_rfl) ?_) | (refine wpList_load_rowW rfl 35 _ rfl q rfl _ _ _ _ HQ.out Tryd.underlying35 rfl (by rw [Hsp.out]; kernel_rfl) ?_))
  refine HFw.out.mono ?_
  rintro e w5 ⟨rfl, hE⟩
  have HQ := Lib.hid (hE.keep HQ.out)
  have HR := Lib.hid (hE.keep HR.out)
  have HH := Lib.hid (hE.keep HH.out)
  have HE := Lib.hid (HE.out.trans hE)
  obtain ⟨FW, hFW⟩ : ∃ x, few15B (prW (h, ts) wa wn wc ws) r = x := ⟨_, rfl⟩
  rw [hFW]
  clear hE HFw
  cases FW with
  | false =>
    clear hFW
    go_wp2_with fail
    refine (awake15_any w5).mono ?_
    rintro e w6 ⟨rfl, hE⟩
    have HE := Lib.hid (HE.out.trans hE)
    clear hE
    go_wp2
    go_ret
    exact ⟨rfl, HE.out⟩
  | true =>
  have hfe : r.en ≤ 20 := by
    unfold few15B at hFW
    simp only [Bool.and_eq_true, decide_eq_true_eq] at hFW
    exact hFW.2.2.2
  have Hfe := Lib.hid hfe
  clear hFW hfe
  obtain ⟨B, hB⟩ : ∃ x, w5.heap.size = x := ⟨_, rfl⟩
  have hqB : q < B := by rw [← hB]; exact (Array.getElem?_eq_some_iff.1 HQ.out).1
  have hwB : w.heap.size ≤ B := by rw [← hB]; exact Below.size HE.out
  have HN := Lib.hid (boxNewI_any (oneF 4) (oneF_byte 4 (by omega)) w5 (HK.out w5 HE.out))
  have HB := Lib.hid hB
  have HwB := Lib.hid hwB
  clear hB hwB
  go_wp2_with (refine wp_build_h1 rfl _ rfl 4 rfl ?_)
  refine HN.out.mono ?_
  rintro e w6 ⟨gb, m1, m2, m3, rfl, hb6, hm6, -, hl1, hl2, hl3, hl4, hE⟩
  rw [HB.out] at hl1
  have HQ := Lib.hid (hE.keep HQ.out)
  have HR := Lib.hid (hE.keep HR.out)
  have HH := Lib.hid (hE.keep HH.out)
  have HE := Lib.hid (HE.out.trans hE)
  obtain ⟨sd, hsd⟩ : ∃ x, dvF (oneF 4) (strB labDraw) = x := ⟨_, rfl⟩
  have HSd := Lib.hid (show ∀ j, j < 32 → 0 ≤ sd j ∧ sd j < 256 from fun j _ => by rw [← hsd]; exact dvF_byte _ _ j)
  rw [hsd] at hb6
  have HBx := Lib.hid hb6
  have HMp := Lib.hid hm6
  have hrt0 := rightIs_ideal (l := []) hb6 ⟨⟨#[], 0, hm6, rfl⟩⟩
  have HRt0 := Lib.hid hrt0
  have hck := prCheck_any gb (idealR []) r (prW (h, ts) wa wn wc ws) w6 (HRg.out w6 HE.out) (prW_at (HXt.out w6 HE.out) (HWs.out w6 HE.out)) hrt0 (HK.out w6 HE.out)
  rw [chk_none, HRV.out, HPV.out] at hck
  have HCk := Lib.hid hck
  clear hE hsd hb6 hm6 hrt0 hck HN
  go_wp2_with (first | (refine wpList_load_rowW rfl 26 _ rfl g rfl _ _ _ _ HR.out Tryd.underlying26 rfl (by rw [Hsr.out]; kernel_rfl) ?_) | (refine wpList_load_rowW rfl 35 _ rfl q rfl _ _ _ _ HQ.out Tryd.underlying35 rfl (by rw [Hsp.out]; kernel_rfl) ?_))
  refine HCk.out.mono ?_
  rintro e w7 ⟨rfl, hE⟩
  have HQ := Lib.hid (hE.keep HQ.out)
  have HR := Lib.hid (hE.keep HR.out)
  have HH := Lib.hid (hE.keep HH.out)
  have HBx := Lib.hid (hE.keep HBx.out)
  have HMp := Lib.hid (hE.keep HMp.out)
  have HRt0 := Lib.hid (HRt0.out.ext hE)
  have HE := Lib.hid (HE.out.trans hE)
  have hke := keys15_any r h w7 (HRg.out w7 HE.out) (HK.out w7 HE.out)
  rw [HRV.out] at hke
  have HVo := Lib.hid (rowArr_one (n := 128) fun i _ => setC_one (keyO r h) i)
  have HVs := Lib.hid (rowArr_size 128 (setC (keyO r h)))
  have HVe := Lib.hid (show ∀ f, keyO r h = some f → ∀ i, i < 32 → setC (keyO r h) (32 + i) = .int .u8 (codeK f i) from fun f hf i hi => by rw [hf]; exact ofV_code f i hi)
  obtain ⟨O, hO⟩ : ∃ O, keyO r h = O := ⟨_, rfl⟩
  have HO := Lib.hid hO
  rw [hO] at hke HVo HVs HVe
  obtain ⟨SV, hSV⟩ : ∃ A, rowArr 128 (setC O) = A := ⟨_, rfl⟩
  have HSV := Lib.hid hSV
  rw [hSV] at hke HVo HVs
  have HKe := Lib.hid hke
  have hzs := zero_set
  clear hE hke hO hSV HCk
  go_wp2_with (first | (refine wpList_load_rowW rfl 26 _ rfl g rfl _ _ _ _ HR.out Tryd.underlying26 rfl (by rw [Hsr.out]; kernel_rfl) ?_) | (refine wpList_load_rowW rfl 33 _ rfl (g + 1) rfl _ _ _ _ HH.out Tryd.underlying33 rfl (by rw [Hsz.out]; kernel_rfl) ?_))
  refine HKe.out.mono ?_
  rintro e w8 ⟨rfl, hE8⟩
  have HE8 := Lib.hid hE8
  clear hE8 HKe
  go_upto_region 8 with (refine wpList_store_row rfl 48 _ _ rfl w8.heap.size _ rfl rfl _ _ (heap_new w8 _ _ rfl) (by rw [HVs.out]; kernel_rfl) (by rw [HVs.out]; rfl) HVo.out ?_; rw [setRow_new w8 _ _ _ _ rfl])
  obtain ⟨w9, hw9⟩ : ∃ x, w8.alloc (.cells SV 48) = x := ⟨_, rfl⟩
  obtain ⟨z, hz9⟩ : ∃ z, w8.heap.size = z := ⟨_, rfl⟩
  have HS9 := Lib.hid (show w9.heap[z]? = some (.cells SV 48 (0, 0)) by rw [← hw9]; exact heap_new w8 _ _ hz9.symm)
  have hE : Ext w7 w9 := by rw [← hw9]; exact HE8.out.alloc _
  refine wp_world (w' := w9) hw9 ?_
  rw [hz9]
  have HQ := Lib.hid (hE.keep HQ.out)
  have HR := Lib.hid (hE.keep HR.out)
  have HH := Lib.hid (hE.keep HH.out)
  have HBx := Lib.hid (hE.keep HBx.out)
  have HMp := Lib.hid (hE.keep HMp.out)
  have HRt0 := Lib.hid (HRt0.out.ext hE)
  have HE := Lib.hid (HE.out.trans hE)
  have HRi := Lib.hid (show ∀ x, Ext w9 x → Calls Tryd.prog 12 #[.pointer (some ⟨gb, 0, none⟩), .agg RV, .agg (hdV h)] x fun e w' => e = .returned (.bool false) ∧ Ext x w' from fun x hq => by
    have h1 := prRight_any gb (idealR []) r h ts x (HRg.out x (HE.out.trans hq)) (HXt.out x (HE.out.trans hq)).ok (HXt.out x (HE.out.trans hq)).toks (HRt0.out.ext hq) (HK.out x (HE.out.trans hq))
    rw [rightO_none, HRV.out] at h1
    exact h1)
  clear hw9 hz9 hE HE8 HRt0 hzs HVo
  cases O with
  | none =>
    go_wp2_with (first | (refine wpList_load_rowW rfl 26 _ rfl g rfl _ _ _ _ HR.out Tryd.underlying26 rfl (by rw [Hsr.out]; kernel_rfl) ?_) | (refine wpList_load_rowW rfl 33 _ rfl (g + 1) rfl _ _ _ _ HH.out Tryd.underlying33 rfl (by rw [Hsz.out]; kernel_rfl) ?_))
    refine (HRi.out w9 (Ext.refl _)).mono ?_
    rintro e w10 ⟨rfl, hE⟩
    have HE := Lib.hid (HE.out.trans hE)
    clear hE
    go_wp2
    go_ret
    exact ⟨rfl, HE.out⟩
  | some f =>
  go_wp2_with (refine wpList_load_rowW rfl 33 _ rfl (g + 1) rfl _ _ _ _ HH.out Tryd.underlying33 rfl (by rw [Hsz.out]; kernel_rfl) ?_)
  refine (refHd_any h ts w9 (HXt.out w9 HE.out).ok (HXt.out w9 HE.out).toks).mono ?_
  rintro e w10 ⟨rfl, hE⟩
  have HRi := Lib.hid (HRi.out w10 hE)
  have HQ := Lib.hid (hE.keep HQ.out)
  have HR := Lib.hid (hE.keep HR.out)
  have HH := Lib.hid (hE.keep HH.out)
  have HBx := Lib.hid (hE.keep HBx.out)
  have HMp := Lib.hid (hE.keep HMp.out)
  have HS9 := Lib.hid (hE.keep HS9.out)
  have HE := Lib.hid (HE.out.trans hE)
  obtain ⟨F, hF⟩ : ∃ x, hdB h ts = x := ⟨_, rfl⟩
  rw [hF]
  have HF := Lib.hid hF
  clear hE hF
  cases F with
  | false =>
    go_wp2_with (first | (refine wpList_load_rowW rfl 26 _ rfl g rfl _ _ _ _ HR.out Tryd.underlying26 rfl (by rw [Hsr.out]; kernel_rfl) ?_) | (refine wpList_load_rowW rfl 33 _ rfl (g + 1) rfl _ _ _ _ HH.out Tryd.underlying33 rfl (by rw [Hsz.out]; kernel_rfl) ?_))
    refine HRi.out.mono ?_
    rintro e w11 ⟨rfl, hE⟩
    have HE := Lib.hid (HE.out.trans hE)
    clear hE
    go_wp2
    go_ret
    exact ⟨rfl, HE.out⟩
  | true =>
  clear HRi
  go_upto_region 10 with (fail)
  have hs10 : B ≤ w10.heap.size := by
    have h1 := (Array.getElem?_eq_some_iff.1 HBx.out).1
    omega
  have HGm := Lib.hid (show gb < w10.heap.size ∧ m2 < w10.heap.size from by
    have h1 := (Array.getElem?_eq_some_iff.1 HBx.out).1
    omega)
  have HST := Lib.hid (idC_ext (gb := gb) (m := m2) (w10 := w10) hs10)
  have hgl : g + 1 < w10.heap.size := (Array.getElem?_eq_some_iff.1 HH.out).1
  have hzl : z < w10.heap.size := (Array.getElem?_eq_some_iff.1 HS9.out).1
  have hzn : z ≠ gb ∧ z ≠ m2 := by
    have h1 := HS9.out
    constructor
    · intro e; rw [e, HBx.out] at h1; simp at h1
    · intro e; rw [e, HMp.out] at h1; cases h1
  have HHk := Lib.hid (show ∀ x, Kept gb m2 w10 x → x.heap[g + 1]? = some (.cells (hdV h) 33 (0, 0)) from fun x hx => (hx.2 (g + 1) hgl (by omega) (by omega)).trans HH.out)
  have HSk := Lib.hid (show ∀ x, Kept gb m2 w10 x → x.heap[z]? = some (.cells SV 48 (0, 0)) from fun x hx => (hx.2 z hzl hzn.1 hzn.2).trans HS9.out)
  have HCd := Lib.hid (show ∀ x, Kept gb m2 w10 x → ∀ i, i < 32 → x.cell? ⟨z, 32 + i, none⟩ = some (.int .u8 (codeK f i)) from fun x hx i hi => by
    have hh := HSk.out x hx
    rw [← HSV.out] at hh
    rw [row_cell hh (32 + i) (by omega), HVe.out f rfl i hi])
  have HBl := Lib.hid (show ∀ x, Below B w10 x → Ext w x from fun x hx => Below.trans HE.out (Below.mono hx HwB.out))
  have hsz0 := Below.size HE.out
  have HCo := Lib.hid (show ∀ x, Ext w x → Calls Tryd.prog 17 #[.agg (hdV h)] x fun e w' => ∃ q n c, e = .returned (.slice q n c) ∧ BsAt w' q n c (coreL h ts) ∧ (0 < n → ∀ b off, q = some ⟨b, off, none⟩ → x.heap.size ≤ b ∧ b < w'.heap.size) ∧ Ext x w' from fun x hx =>
    (refCore_any h ts x (HXt.out x hx).ok (HXt.out x hx).toks HF.out).mono fun e w' ⟨v, he, hown, hE⟩ => by
      obtain ⟨q, c, rfl, h2, h3⟩ := owns_slice hown
      refine ⟨q, _, c, he, owns_bs hown (coreL_byte HF.out (HXt.out x hx).ok (HXt.out x hx).toks.len (HXt.out x hx).toks.byte) (by unfold maxLen at h3; omega) (by have := coreL_le HF.out; omega), fun h0 b off e => ?_, hE⟩
      obtain ⟨g', cur, k1, k2, k3⟩ := owns_new hown (Nat.le_refl _) (Nat.le_refl _) h0
      rw [e] at k1
      simp only [Option.some.injEq, Addr.mk.injEq, and_true] at k1
      obtain ⟨rfl, rfl⟩ := k1
      exact ⟨k2, (Array.getElem?_eq_some_iff.1 k3).1⟩)
  obtain ⟨cd, hcd⟩ : ∃ x, codeK f = x := ⟨_, rfl⟩
  obtain ⟨X, hX⟩ : ∃ x, coreL h ts = x := ⟨_, rfl⟩
  have Hcd := Lib.hid hcd
  have HX0 := Lib.hid hX
  rw [hcd] at HCd
  rw [hX] at HCo
  have HCc := Lib.hid (show ∀ x, Ext w10 x → ∀ q n c, BsAt x q n c X → Calls Tryd.prog 16 #[.pointer (some ⟨gb, 0, none⟩), .agg (rowArr 32 fun j => .int .u8 (cd j)), .slice q n c] x fun e w' => ∃ v, e = .returned v ∧ CdP gb m1 m2 m3 sd cd (strOf X) v w' ∧ Below B x w' ∧ Kept gb m2 x w' from fun x hx q n c hq =>
    code_first (hx.keep HBx.out) HSd.out (hx.keep HMp.out) hq (by omega) (by omega) (by omega) (HK.out x (HE.out.trans hx)))
  clear hcd hX hzn hgl hzl HVe HSV
  refine lq_start (C := IdC gb m2 B w10) (E := IdE gb m2) 8 5 (by omega) (by kernel_rfl) (by kernel_rfl) (fun ph w => by unfold IdE; split; exact Ext.refl w; exact ⟨Nat.le_refl _, fun _ _ _ _ => rfl⟩) (fun _ _ h => kept_ext h) ⟨kept_ext ((Ext.refl w10).drew), Below.mono ((Ext.refl w10).drew) hs10, fun _ => (Ext.refl w10).drew⟩ ?_
  simp only [List.take_succ_cons, List.take_zero]
  refine lq_s (.ex (.pointer (some ⟨gb, 0, none⟩))) [] (by decide) (by kernel_rfl) rfl (by rfl) trivial HST.out (fun ph w1 hw1 => ?_) ?_
  · simp only [pk, lexVals]
    clear hw1
    go_simp
    exact ⟨Ext.refl _, rfl⟩
  refine lq_s (.ex (.pointer (some ⟨z, 32, none⟩))) [] (by decide) (by kernel_rfl) rfl (by rfl) trivial HST.out (fun ph w1 hw1 => ?_) ?_
  · simp only [pk, lexVals]
    clear hw1
    go_simp
    exact ⟨Ext.refl _, rfl⟩
  refine lq_s (.ex (.agg (rowArr 32 fun j => .int .u8 (cd j)))) [(0, 50)] (by decide) (by kernel_rfl) rfl (by rfl) trivial HST.out (fun ph w1 hw1 => ?_) ?_
  · simp only [pk, nthSp, lexVals]
    exact lu_sub rfl rfl Tryd.underlying23 (size_h32 _) (HCd.out w1 hw1.1)
  refine lq_s (.ex (.agg (hdV h))) [] (by decide) (by kernel_rfl) rfl (by rfl) trivial HST.out (fun ph w1 hw1 => ?_) ?_
  · simp only [pk, lexVals]
    exact lu_row rfl rfl (HHk.out w1 hw1.1) Tryd.underlying33 rfl (by rw [Hsz.out]; kernel_rfl)
  refine lq_s (.ab (SlP gb m2 X)) [(0, 52)] (by decide) (by kernel_rfl) rfl (by rfl) slP_mono HST.out (fun ph w1 hw1 => ?_) ?_
  · simp only [pk, nthSp, lexVals]
    have HM := Lib.hid (HCo.out w1 (HBl.out w1 hw1.2.1))
    have hl1 := hw1.1.1
    have hl2 := HGm.out
    clear hw1
    go_simp
    refine HM.out.mono ?_
    rintro e w2 ⟨q, n, c, rfl, hs, hN, hE2⟩
    exact ⟨_, rfl, hE2, ⟨_, _, _, rfl, hs, fun h0 b off e => by obtain ⟨k1, k2⟩ := hN h0 b off e; omega⟩⟩
  refine lq_m (.ab (CdP gb m1 m2 m3 sd cd (strOf X))) [(4, 49), (2, 51), (0, 53)] rfl (by kernel_rfl) rfl (by rfl) cdP_mono (fun w1 hw1 => ?_) ?_
  · simp only [pk, nthSp, lexVals]
    rintro u53 ⟨q53, n53, c53, rfl, h53, -⟩
    have HM := Lib.hid (HCc.out w1 (hw1.2.2 rfl) _ _ _ h53)
    have HC1 := Lib.hid hw1
    clear hw1 h53
    go_simp
    refine HM.out.mono ?_
    rintro e w2 ⟨v, rfl, hp, hL, hK⟩
    exact ⟨_, rfl, ⟨kept_trans HC1.out.1 hK, HC1.out.2.1.trans hL, fun e => by cases e⟩, hK, hp⟩
  refine lq_s (.ex (.pointer (some ⟨q, 1, none⟩))) [] (by decide) (by kernel_rfl) rfl (by rfl) trivial HST.out (fun ph w1 hw1 => ?_) ?_
  · simp only [pk, lexVals]
    clear hw1
    go_simp
    exact ⟨Ext.refl _, rfl⟩
  refine lq_s (.ex (.pointer (some ⟨q, 94, none⟩))) [(0, 55)] (by decide) (by kernel_rfl) rfl (by rfl) trivial HST.out (fun ph w1 hw1 => ?_) ?_
  · simp only [pk, nthSp, lexVals]
    clear hw1
    go_simp
    exact ⟨Ext.refl _, rfl⟩
  refine lq_stop (by rfl) (by decide) fun w11 hw11 => ?_
  have HW11 := Lib.hid hw11
  clear hw11
  simp only [rv, pf, lexVals, List.drop_succ_cons, List.drop_zero]
  rintro v1 ⟨q1, n1, c1, rfl, -⟩ v2 ⟨cc, bb, dr, rfl, hcc, hcdat, hrow⟩
  simp only [Act.put, List.setIfInBounds_toArray, List.set_cons_zero, List.set_cons_succ]
  have hL := HW11.out.2.1
  have hR11 := (hL.block g (by omega)).trans HR.out
  have hH11 := (hL.block (g + 1) (by omega)).trans HH.out
  have hQ11 := (hL.block q hqB).trans HQ.out
  have hst := pr_storeCode (rowIs_of (by rw [← HPV.out] at hQ11; exact hQ11)) cc
  have HTh := Lib.hid hst.1
  have Hcc := Lib.hid hcc
  obtain ⟨w12, hw12⟩ : ∃ x, w11.setCells q 94 (rowArr 32 fun j => Value.int .u8 (cc j)).toList = x := ⟨_, rfl⟩
  have hoth : ∀ k, k ≠ q → w12.heap[k]? = w11.heap[k]? := fun k hne => by rw [← hw12]; exact setCells_other hne _ _ _
  have hr12 := hst.2
  rw [hw12] at hr12
  have HQ12 := Lib.hid (show w12.heap[q]? = some (.cells (prV (prW ({ h with code := cc }, ts) wa wn wc ws)) 35 (0, 0)) from rowIs_cells hr12)
  have HR12 := Lib.hid ((hoth g (by omega)).trans hR11)
  have HH12 := Lib.hid ((hoth (g + 1) (by omega)).trans hH11)
  have HB12 := Lib.hid ((hoth gb (by omega)).trans hrow)
  have HC12 := Lib.hid (show CdAt w12 m2 [⟨cd, strOf X, cc, bb⟩] from by
    obtain ⟨es, ck, h1, h2⟩ := hcdat.at_
    exact ⟨es, ck, (hoth m2 (by omega)).trans h1, h2⟩)
  have HE12 := Lib.hid (show Ext w w12 by rw [← hw12]; exact below_setCells (by have := Hg.out; omega) _ _ _ (HBl.out w11 hL))
  have Hw12 := Lib.hid hw12
  clear hL hR11 hH11 hQ11 hst hcc hcdat hrow hw12 hoth hr12 HW11 HBl HST HHk HSk HCd HCo HCc HBx HMp HQ HR HH HS9 hs10 hsz0
  go_upto_region 11 with (refine wpList_store_mid rfl 23 _ _ rfl q 94 (rowArr 32 fun j => .int .u8 (cc j)) rfl rfl HTh.out (by rw [rowArr_size]; kernel_rfl) (rowArr_one fun _ _ => rfl) ?_)
  refine wp_world (w' := w12) Hw12.out ?_
  clear Hw12 HTh
  have hzr := zero_rgN
  have Hrz := Lib.hid (rgV_size rgN)
  have Hor := Lib.hid (show RV.all (·.oneCell') = true by rw [← HRV.out]; exact rgV_one r)
  obtain ⟨ZR, hZR⟩ : ∃ x, rgV rgN = x := ⟨_, rfl⟩
  rw [hZR] at hzr Hrz
  clear hZR
  go_upto_region 12 with (first | (refine wpList_load_rowW rfl 26 _ rfl g rfl _ _ _ _ HR12.out Tryd.underlying26 rfl (by rw [Hsr.out]; kernel_rfl) ?_) | (refine wpList_store_row rfl 26 _ _ rfl w12.heap.size _ rfl rfl _ _ (heap_new w12 _ _ rfl) (by rw [Hsr.out]; kernel_rfl) (by rw [Hsr.out, Hrz.out]) Hor.out ?_; rw [setRow_new w12 _ _ _ _ rfl]))
  obtain ⟨w13, hw13⟩ : ∃ x, w12.alloc (.cells RV 26) = x := ⟨_, rfl⟩
  obtain ⟨y, hy⟩ : ∃ x, w12.heap.size = x := ⟨_, rfl⟩
  have hM13 : w13.heap[y]? = some (.cells RV 26 (0, 0)) := by rw [← hw13]; exact heap_new w12 _ _ hy.symm
  have hE13 : Ext w12 w13 := by rw [← hw13]; exact (Ext.refl w12).alloc _
  refine wp_world (w' := w13) hw13 ?_
  rw [hy]
  have hyB : B ≤ y := by
    have h1 := (Array.getElem?_eq_some_iff.1 HB12.out).1
    omega
  have hqy : q < y ∧ gb < y ∧ m2 < y ∧ g + 1 < y := by
    have h1 := (Array.getElem?_eq_some_iff.1 HB12.out).1
    omega
  have HM13 := Lib.hid hM13
  have HE13 := Lib.hid hE13
  have hyS : y < w13.heap.size := (Array.getElem?_eq_some_iff.1 hM13).1
  clear hw13 hy hM13 hE13 hzr
  obtain ⟨S13, hS13⟩ : ∃ x, w13.heap.size = x := ⟨_, rfl⟩
  have HS13 := Lib.hid hS13
  have hMade : (w13.alloc (.cells #[] 23)).ownsRow w13.heap.size 23 32 (.slice (some ⟨w13.heap.size, 0, none⟩) 0 0) 0 [] := World.ownsRow_made w13 #[] 0 (Nat.le_refl _) (by unfold maxLen; omega) rfl
  have hE13a : Ext w13 (w13.alloc (.cells #[] 23)) := (Ext.refl w13).alloc _
  have hR13a := (HE13.out.trans hE13a).keep HR12.out
  rw [← HRV.out] at hR13a
  have c32 := rg_eps hR13a
  have HEp := Lib.hid (HRg.out _ (HE12.out.trans (HE13.out.trans hE13a))).eps
  have HMade := Lib.hid hMade
  have hfe := Hfe.out
  have hsA : w13.heap.size ≤ (w13.alloc (.cells #[] 23)).heap.size := by simp
  rw [hS13] at hyS
  have HyS := Lib.hid hyS
  have HyB := Lib.hid hyB
  have Hqy := Lib.hid hqy
  clear hE13a hR13a hMade hS13
  go_wp2_with (at_builtin; refine append_epG rfl _ _ rfl w13.heap.size _ rfl HMade.out r.ea r.en r.ec r.ks rfl HEp.out (by omega) hsA ?_)
  intro v14 w14 hown14 hG14
  have hmade := HMade.out
  rw [HS13.out] at hown14 hG14 hsA hmade
  have HO14 := Lib.hid hown14
  have hB14 : Below S13 w13 w14 := by
    refine Below.grown (B := S13) ?_ hG14 hsA (fun k hk => (hmade.lt k hk).1)
    rw [← HS13.out]
    exact (Ext.refl w13).alloc _
  have hs14 := Below.size hB14
  rw [HS13.out] at hs14
  have HB14 := Lib.hid hB14
  clear hown14 hG14 hB14 c32 HEp HMade hsA hmade
  go_wp2_with (first | (refine wp_build_h1 rfl _ rfl 9 rfl ?_) | (at_builtin; refine wpList_world (w' := w14.alloc (.cells (rowArr 32 fun j => .int .u8 (oneF 9 j)) 23)) (by kernel_rfl) ?_; refine append_ep rfl _ _ rfl S13 _ r.en r.ks rfl (HO14.out.alloc _) w14.heap.size 1 (oneF 9) rfl (fun j hj => row_cell (heap_new w14 _ _ rfl) j hj) (by omega) (by simp; omega) ?_))
  intro v15 w15 hown15 hG15
  clear h
  have HB15 := Lib.hid (show Below S13 w13 w15 from Below.grown (HB14.out.alloc (by omega) _) hG15 (by simp; omega) (fun k hk => (HO14.out.lt k hk).1))
  obtain ⟨a15, c15, rfl, hEp15⟩ := own_ep hown15 (by
    intro t ht
    rcases List.mem_append.1 ht with h1 | h1
    · exact (HRg.out w (Ext.refl _)).eps.byte t h1
    · rw [List.mem_singleton.1 h1]; exact oneF_byte 9 (by omega)) (by omega)
  have HO15 := Lib.hid hown15
  have HEp15 := Lib.hid hEp15
  have hM15 := (HB15.out.block y (by omega)).trans HM13.out
  have hr15 : w15.rowIs y 26 33 (rgC r) := rowIs_of (by rw [← HRV.out] at hM15; exact hM15)
  have HM15 := Lib.hid hr15
  have cy := hr15.cell (i := 32) (by omega)
  have fy := hr15.frozen 32
  clear hown15 hG15 hEp15 hM15 hr15 HO14 HB14
  go_upto_region 13 with (fail)
  obtain ⟨w16, hw16⟩ : ∃ x, w15.setCell ⟨y, 32, none⟩ (.slice a15 (r.en + 1) c15) = x := ⟨_, rfl⟩
  refine wp_world (w' := w16) hw16 ?_
  have hoth : ∀ k, k ≠ y → w16.heap[k]? = w15.heap[k]? := fun k hne => by rw [← hw16]; exact Below.heap_setCell w15 _ _ k (fun e => hne e)
  have hold : ∀ k, k < S13 → k ≠ y → w16.heap[k]? = w13.heap[k]? := fun k h1 h2 => (hoth k h2).trans (HB15.out.block k h1)
  have hmore := rowIs_cells (((HM15.out.set 32 (.slice a15 (r.en + 1) c15))).congr (rgC_eps r a15 (r.en + 1) c15 (r.ks ++ [oneF 9])))
  rw [hw16] at hmore
  have hEp16 : EpAt w16 a15 (r.en + 1) c15 (r.ks ++ [oneF 9]) := by
    have h1 := HEp15.out
    refine ⟨h1.len, h1.cap, h1.lim, h1.small, h1.byte, fun h0 => ?_, h1.nil_⟩
    obtain ⟨b, off, ha, hc⟩ := h1.at_ h0
    refine ⟨b, off, ha, fun i hi j hj => ?_⟩
    have h2 := hc i hi j hj
    have h3 := (HO15.out.lt b (by show (Value.slice a15 _ _).ownBlock = some b; rw [ha]; rfl)).1
    unfold World.cell? at h2 ⊢
    rw [hoth b (by omega)]
    exact h2
  have hE16 : Ext w w16 := by
    rw [← hw16]
    exact Below.setCell (Below.trans HE12.out (Below.trans (Below.mono HE13.out (Below.size HE12.out)) (Below.mono HB15.out (by have h1 := Below.size HE12.out; have h2 := Below.size HE13.out; have h3 := HS13.out; omega)))) (Nat.le_trans HwB.out HyB.out) _
  have HE16 := Lib.hid hE16
  have hyS' := HyS.out
  have hqy := Hqy.out
  have hb13 : ∀ k o, k < y → w12.heap[k]? = some o → w16.heap[k]? = some o := fun k o h1 h2 => (hold k (Nat.lt_trans h1 hyS') (Nat.ne_of_lt h1)).trans (HE13.out.keep h2)
  have hQ16 := hb13 q _ hqy.1 HQ12.out
  have HRx := Lib.hid (fun x (hx : Ext w16 x) => hx.keep (hb13 g _ (by omega) HR12.out))
  have hHx := fun x (hx : Ext w16 x) => hx.keep (hb13 (g + 1) _ hqy.2.2.2 HH12.out)
  have C35 := Lib.hid (fun x (hx : Ext w16 x) => hd_ctl (hHx x hx))
  have C53 := Lib.hid (fun x (hx : Ext w16 x) => hd_toks (hHx x hx))
  have HQh := Lib.hid (show ∀ x, Ext w16 x → x.rangeAt q 1 (hdL { h with code := cc }) from fun x hx => pr_ra (hx.keep hQ16))
  have hCd16 : CdAt w16 m2 [⟨cd, strOf X, cc, bb⟩] := by
    obtain ⟨es, ck, h1, h2⟩ := HC12.out.at_
    exact ⟨es, ck, hb13 m2 _ hqy.2.2.1 h1, h2⟩
  have hrt : RightIs gb (idealR [⟨cd, strOf X, cc, bb⟩]) w16 := rightIs_ideal (hb13 gb _ hqy.2.1 HB12.out) hCd16
  have hxt := fun x (hx : Ext w16 x) => HXt.out x (hE16.trans hx)
  have hx1 : ∀ x, Ext w16 x → HtAt x ({ h with code := cc }, ts) := fun x hx => by
    have h1 := hxt x hx
    exact ⟨⟨h1.ok.writer, h1.ok.seq, h1.ok.prev, h1.ok.epoch, h1.ok.time, h1.ok.item, h1.ok.knows, h1.ok.sum, h1.ok.size, Hcc.out⟩, h1.toks⟩
  have hp1 := fun x (hx : Ext w16 x) => prW_at (hx1 x hx) (HWs.out x (hE16.trans hx))
  have hqr := fun x (hx : Ext w16 x) => prRight_any gb _ r { h with code := cc } ts x (HRg.out x (hE16.trans hx)) (hx1 x hx).ok (hx1 x hx).toks (hrt.ext hx) (HK.out x (hE16.trans hx))
  have hqc := fun x (hx : Ext w16 x) => prCheck_any gb _ r _ x (HRg.out x (hE16.trans hx)) (hp1 x hx) (hrt.ext hx) (HK.out x (hE16.trans hx))
  have hqm := fun x (hx : Ext w16 x) => prCheck_any gb _ (Rg.mk r.grp a15 (r.en + 1) c15 (r.ks ++ [oneF 9])) _ x ⟨(HRg.out x (hE16.trans hx)).grp, hEp16.ext hx⟩ (hp1 x hx) (hrt.ext hx) (HK.out x (hE16.trans hx))
  have hfp := fun x (hx : Ext w16 x) => refPrFormed_any _ x (hp1 x hx)
  have HMe := Lib.hid (fun x (hx : Ext w16 x) => meet_any h.ta h.tn h.tc ts wa wn wc ws x (hxt x hx).toks (HWs.out x (hE16.trans hx)))
  have hkr : keyO r { h with code := cc } = some f := HO.out
  have hkm : keyO (Rg.mk r.grp a15 (r.en + 1) c15 (r.ks ++ [oneF 9])) h = some f := keyO_more hel HO.out a15 c15 (oneF 9)
  have hone := chk_one (cc := cc) (b := bb) (wa := wa) (wn := wn) (wc := wc) (ws := ws) HO.out HF.out
  have hone2 := chk_one (cc := cc) (b := bb) (wa := wa) (wn := wn) (wc := wc) (ws := ws) hkm HF.out
  rw [HX0.out, Hcd.out] at hone hone2
  have hrone := rightO_one (f := f) (cc := cc) (b := bb) HF.out
  rw [HX0.out, Hcd.out] at hrone
  rw [hkr, hrone] at hqr
  rw [hone] at hqc
  rw [hone2] at hqm
  obtain ⟨PB, hPB⟩ : ∃ x, prB (prW ({ h with code := cc }, ts) wa wn wc ws) = x := ⟨_, rfl⟩
  have Hsq := Lib.hid (prV_size (prW ({ h with code := cc }, ts) wa wn wc ws))
  have Hsm := Lib.hid (rgV_size (Rg.mk r.grp a15 (r.en + 1) c15 (r.ks ++ [oneF 9])))
  have HQx := Lib.hid (fun x (hx : Ext w16 x) => hx.keep hQ16)
  have HMx := Lib.hid (show ∀ x, Ext w16 x → x.heap[y]? = some (.cells (rgV (Rg.mk r.grp a15 (r.en + 1) c15 (r.ks ++ [oneF 9]))) 26 (0, 0)) from fun x hx => hx.keep hmore)
  obtain ⟨QV, hQV⟩ : ∃ x, prV (prW ({ h with code := cc }, ts) wa wn wc ws) = x := ⟨_, rfl⟩
  obtain ⟨MV, hMV⟩ : ∃ x, rgV (Rg.mk r.grp a15 (r.en + 1) c15 (r.ks ++ [oneF 9])) = x := ⟨_, rfl⟩
  rw [HRV.out] at hqr hqc
  rw [hQV] at hqc hqm hfp HQx Hsq
  rw [hMV] at hqm HMx Hsm
  rw [hPB] at hqc hqm hfp
  obtain ⟨CT, hCT⟩ : ∃ x, h.ctl = x := ⟨_, rfl⟩
  obtain ⟨MB, hMB⟩ : ∃ x, meetB ts ws = x := ⟨_, rfl⟩
  rw [hCT] at hqc hqm C35
  rw [hMB] at hqc hqm HMe
  obtain ⟨MT, hMT⟩ : ∃ x, (PB && (!CT && (decide (wn = 0) || MB))) = x := ⟨_, rfl⟩
  have HMT := Lib.hid hMT.symm
  rw [hMT] at hqc hqm
  have HQr := Lib.hid hqr
  have HQc := Lib.hid hqc
  have HQm := Lib.hid hqm
  have HFp := Lib.hid hfp
  clear hw16 hoth hold hmore hEp16 hE16 hb13 hQ16 hHx hCd16 hrt hxt hx1 hp1 hqr hqc hqm hfp hkr hkm hone hone2 hrone hPB hCT hMB hMT hQV hMV HEp15 HO15 HM15 HB15 HM13 HE13 HR12 HH12 HB12 HC12 HQ12 HE12 cy fy
  cases CT with
  | true =>
    obtain rfl : MT = false := by rw [HMT.out]; first | rfl | simp
    have c35 := C35.out w16 (Ext.refl _)
    by_cases h0 : wn = 0
    · subst h0
      go_wp2_with (first | (refine wpList_load_rowW rfl 26 _ rfl g rfl _ _ _ _ (HRx.out w16 (Ext.refl _)) Tryd.underlying26 rfl (by rw [Hsr.out]; kernel_rfl) ?_) | (refine wpList_load_rowW rfl 26 _ rfl y rfl _ _ _ _ (HMx.out w16 (Ext.refl _)) Tryd.underlying26 rfl (by rw [Hsm.out]; kernel_rfl) ?_) | (refine wpList_load_rowW rfl 35 _ rfl q rfl _ _ _ _ (HQx.out w16 (Ext.refl _)) Tryd.underlying35 rfl (by rw [Hsq.out]; kernel_rfl) ?_) | (refine wp_hmid rfl _ rfl q 1 { h with code := cc } rfl (HQh.out w16 (Ext.refl _)) ?_))
      refine (HQr.out w16 (Ext.refl _)).mono ?_
      rintro e w17 ⟨rfl, hE⟩
      have HEa := Lib.hid (Ext.trans (Ext.refl _) hE)
      clear hE
      go_wp2_with (first | (refine wpList_load_rowW rfl 26 _ rfl g rfl _ _ _ _ (HRx.out w17 HEa.out) Tryd.underlying26 rfl (by rw [Hsr.out]; kernel_rfl) ?_) | (refine wpList_load_rowW rfl 26 _ rfl y rfl _ _ _ _ (HMx.out w17 HEa.out) Tryd.underlying26 rfl (by rw [Hsm.out]; kernel_rfl) ?_) | (refine wpList_load_rowW rfl 35 _ rfl q rfl _ _ _ _ (HQx.out w17 HEa.out) Tryd.underlying35 rfl (by rw [Hsq.out]; kernel_rfl) ?_) | (refine wp_hmid rfl _ rfl q 1 { h with code := cc } rfl (HQh.out w17 HEa.out) ?_))
      refine (HQc.out w17 HEa.out).mono ?_
      rintro e w18 ⟨rfl, hE⟩
      have HEb := Lib.hid (HEa.out.trans hE)
      clear hE
      go_wp2_with (first | (refine wpList_load_rowW rfl 26 _ rfl g rfl _ _ _ _ (HRx.out w18 HEb.out) Tryd.underlying26 rfl (by rw [Hsr.out]; kernel_rfl) ?_) | (refine wpList_load_rowW rfl 26 _ rfl y rfl _ _ _ _ (HMx.out w18 HEb.out) Tryd.underlying26 rfl (by rw [Hsm.out]; kernel_rfl) ?_) | (refine wpList_load_rowW rfl 35 _ rfl q rfl _ _ _ _ (HQx.out w18 HEb.out) Tryd.underlying35 rfl (by rw [Hsq.out]; kernel_rfl) ?_) | (refine wp_hmid rfl _ rfl q 1 { h with code := cc } rfl (HQh.out w18 HEb.out) ?_))
      refine (HQm.out w18 HEb.out).mono ?_
      rintro e w19 ⟨rfl, hE⟩
      have HEc := Lib.hid (HE16.out.trans (HEb.out.trans hE))
      clear hE
      go_wp2
      go_ret
      exact ⟨by first | rfl | simp, HEc.out⟩
    · have x0 : 0 < (wn : Int) := by omega
      go_wp2_with (first | (refine wpList_load_rowW rfl 26 _ rfl g rfl _ _ _ _ (HRx.out w16 (Ext.refl _)) Tryd.underlying26 rfl (by rw [Hsr.out]; kernel_rfl) ?_) | (refine wpList_load_rowW rfl 26 _ rfl y rfl _ _ _ _ (HMx.out w16 (Ext.refl _)) Tryd.underlying26 rfl (by rw [Hsm.out]; kernel_rfl) ?_) | (refine wpList_load_rowW rfl 35 _ rfl q rfl _ _ _ _ (HQx.out w16 (Ext.refl _)) Tryd.underlying35 rfl (by rw [Hsq.out]; kernel_rfl) ?_) | (refine wp_hmid rfl _ rfl q 1 { h with code := cc } rfl (HQh.out w16 (Ext.refl _)) ?_))
      refine (HQr.out w16 (Ext.refl _)).mono ?_
      rintro e w17 ⟨rfl, hE⟩
      have HEa := Lib.hid (Ext.trans (Ext.refl _) hE)
      clear hE
      go_wp2_with (first | (refine wpList_load_rowW rfl 26 _ rfl g rfl _ _ _ _ (HRx.out w17 HEa.out) Tryd.underlying26 rfl (by rw [Hsr.out]; kernel_rfl) ?_) | (refine wpList_load_rowW rfl 26 _ rfl y rfl _ _ _ _ (HMx.out w17 HEa.out) Tryd.underlying26 rfl (by rw [Hsm.out]; kernel_rfl) ?_) | (refine wpList_load_rowW rfl 35 _ rfl q rfl _ _ _ _ (HQx.out w17 HEa.out) Tryd.underlying35 rfl (by rw [Hsq.out]; kernel_rfl) ?_) | (refine wp_hmid rfl _ rfl q 1 { h with code := cc } rfl (HQh.out w17 HEa.out) ?_))
      refine (HQc.out w17 HEa.out).mono ?_
      rintro e w18 ⟨rfl, hE⟩
      have HEb := Lib.hid (HEa.out.trans hE)
      clear hE
      go_wp2_with (first | (refine wpList_load_rowW rfl 26 _ rfl g rfl _ _ _ _ (HRx.out w18 HEb.out) Tryd.underlying26 rfl (by rw [Hsr.out]; kernel_rfl) ?_) | (refine wpList_load_rowW rfl 26 _ rfl y rfl _ _ _ _ (HMx.out w18 HEb.out) Tryd.underlying26 rfl (by rw [Hsm.out]; kernel_rfl) ?_) | (refine wpList_load_rowW rfl 35 _ rfl q rfl _ _ _ _ (HQx.out w18 HEb.out) Tryd.underlying35 rfl (by rw [Hsq.out]; kernel_rfl) ?_) | (refine wp_hmid rfl _ rfl q 1 { h with code := cc } rfl (HQh.out w18 HEb.out) ?_))
      refine (HQm.out w18 HEb.out).mono ?_
      rintro e w19 ⟨rfl, hE⟩
      have HEc := Lib.hid (HE16.out.trans (HEb.out.trans hE))
      clear hE
      go_wp2
      go_ret
      exact ⟨by first | rfl | simp, HEc.out⟩
  | false =>
    have c35 := C35.out w16 (Ext.refl _)
    go_wp2_with (first | (refine wpList_load_rowW rfl 26 _ rfl g rfl _ _ _ _ (HRx.out w16 (Ext.refl _)) Tryd.underlying26 rfl (by rw [Hsr.out]; kernel_rfl) ?_) | (refine wpList_load_rowW rfl 26 _ rfl y rfl _ _ _ _ (HMx.out w16 (Ext.refl _)) Tryd.underlying26 rfl (by rw [Hsm.out]; kernel_rfl) ?_) | (refine wpList_load_rowW rfl 35 _ rfl q rfl _ _ _ _ (HQx.out w16 (Ext.refl _)) Tryd.underlying35 rfl (by rw [Hsq.out]; kernel_rfl) ?_) | (refine wp_hmid rfl _ rfl q 1 { h with code := cc } rfl (HQh.out w16 (Ext.refl _)) ?_))
    refine (HFp.out w16 (Ext.refl _)).mono ?_
    rintro e w17 ⟨rfl, hE⟩
    have HE17 := Lib.hid hE
    clear hE c35
    cases PB with
    | false =>
      obtain rfl : MT = false := by rw [HMT.out]; first | rfl | simp
      by_cases h0 : wn = 0
      · subst h0
        go_wp2_with (first | (refine wpList_load_rowW rfl 26 _ rfl g rfl _ _ _ _ (HRx.out w17 HE17.out) Tryd.underlying26 rfl (by rw [Hsr.out]; kernel_rfl) ?_) | (refine wpList_load_rowW rfl 26 _ rfl y rfl _ _ _ _ (HMx.out w17 HE17.out) Tryd.underlying26 rfl (by rw [Hsm.out]; kernel_rfl) ?_) | (refine wpList_load_rowW rfl 35 _ rfl q rfl _ _ _ _ (HQx.out w17 HE17.out) Tryd.underlying35 rfl (by rw [Hsq.out]; kernel_rfl) ?_) | (refine wp_hmid rfl _ rfl q 1 { h with code := cc } rfl (HQh.out w17 HE17.out) ?_))
        refine (HQr.out w17 HE17.out).mono ?_
        rintro e w18 ⟨rfl, hE⟩
        have HEa := Lib.hid (Ext.trans HE17.out hE)
        clear hE
        go_wp2_with (first | (refine wpList_load_rowW rfl 26 _ rfl g rfl _ _ _ _ (HRx.out w18 HEa.out) Tryd.underlying26 rfl (by rw [Hsr.out]; kernel_rfl) ?_) | (refine wpList_load_rowW rfl 26 _ rfl y rfl _ _ _ _ (HMx.out w18 HEa.out) Tryd.underlying26 rfl (by rw [Hsm.out]; kernel_rfl) ?_) | (refine wpList_load_rowW rfl 35 _ rfl q rfl _ _ _ _ (HQx.out w18 HEa.out) Tryd.underlying35 rfl (by rw [Hsq.out]; kernel_rfl) ?_) | (refine wp_hmid rfl _ rfl q 1 { h with code := cc } rfl (HQh.out w18 HEa.out) ?_))
        refine (HQc.out w18 HEa.out).mono ?_
        rintro e w19 ⟨rfl, hE⟩
        have HEb := Lib.hid (HEa.out.trans hE)
        clear hE
        go_wp2_with (first | (refine wpList_load_rowW rfl 26 _ rfl g rfl _ _ _ _ (HRx.out w19 HEb.out) Tryd.underlying26 rfl (by rw [Hsr.out]; kernel_rfl) ?_) | (refine wpList_load_rowW rfl 26 _ rfl y rfl _ _ _ _ (HMx.out w19 HEb.out) Tryd.underlying26 rfl (by rw [Hsm.out]; kernel_rfl) ?_) | (refine wpList_load_rowW rfl 35 _ rfl q rfl _ _ _ _ (HQx.out w19 HEb.out) Tryd.underlying35 rfl (by rw [Hsq.out]; kernel_rfl) ?_) | (refine wp_hmid rfl _ rfl q 1 { h with code := cc } rfl (HQh.out w19 HEb.out) ?_))
        refine (HQm.out w19 HEb.out).mono ?_
        rintro e w20 ⟨rfl, hE⟩
        have HEc := Lib.hid (HE16.out.trans (HEb.out.trans hE))
        clear hE
        go_wp2
        go_ret
        exact ⟨by first | rfl | simp, HEc.out⟩
      · have x0 : 0 < (wn : Int) := by omega
        go_wp2_with (first | (refine wpList_load_rowW rfl 26 _ rfl g rfl _ _ _ _ (HRx.out w17 HE17.out) Tryd.underlying26 rfl (by rw [Hsr.out]; kernel_rfl) ?_) | (refine wpList_load_rowW rfl 26 _ rfl y rfl _ _ _ _ (HMx.out w17 HE17.out) Tryd.underlying26 rfl (by rw [Hsm.out]; kernel_rfl) ?_) | (refine wpList_load_rowW rfl 35 _ rfl q rfl _ _ _ _ (HQx.out w17 HE17.out) Tryd.underlying35 rfl (by rw [Hsq.out]; kernel_rfl) ?_) | (refine wp_hmid rfl _ rfl q 1 { h with code := cc } rfl (HQh.out w17 HE17.out) ?_))
        refine (HQr.out w17 HE17.out).mono ?_
        rintro e w18 ⟨rfl, hE⟩
        have HEa := Lib.hid (Ext.trans HE17.out hE)
        clear hE
        go_wp2_with (first | (refine wpList_load_rowW rfl 26 _ rfl g rfl _ _ _ _ (HRx.out w18 HEa.out) Tryd.underlying26 rfl (by rw [Hsr.out]; kernel_rfl) ?_) | (refine wpList_load_rowW rfl 26 _ rfl y rfl _ _ _ _ (HMx.out w18 HEa.out) Tryd.underlying26 rfl (by rw [Hsm.out]; kernel_rfl) ?_) | (refine wpList_load_rowW rfl 35 _ rfl q rfl _ _ _ _ (HQx.out w18 HEa.out) Tryd.underlying35 rfl (by rw [Hsq.out]; kernel_rfl) ?_) | (refine wp_hmid rfl _ rfl q 1 { h with code := cc } rfl (HQh.out w18 HEa.out) ?_))
        refine (HQc.out w18 HEa.out).mono ?_
        rintro e w19 ⟨rfl, hE⟩
        have HEb := Lib.hid (HEa.out.trans hE)
        clear hE
        go_wp2_with (first | (refine wpList_load_rowW rfl 26 _ rfl g rfl _ _ _ _ (HRx.out w19 HEb.out) Tryd.underlying26 rfl (by rw [Hsr.out]; kernel_rfl) ?_) | (refine wpList_load_rowW rfl 26 _ rfl y rfl _ _ _ _ (HMx.out w19 HEb.out) Tryd.underlying26 rfl (by rw [Hsm.out]; kernel_rfl) ?_) | (refine wpList_load_rowW rfl 35 _ rfl q rfl _ _ _ _ (HQx.out w19 HEb.out) Tryd.underlying35 rfl (by rw [Hsq.out]; kernel_rfl) ?_) | (refine wp_hmid rfl _ rfl q 1 { h with code := cc } rfl (HQh.out w19 HEb.out) ?_))
        refine (HQm.out w19 HEb.out).mono ?_
        rintro e w20 ⟨rfl, hE⟩
        have HEc := Lib.hid (HE16.out.trans (HEb.out.trans hE))
        clear hE
        go_wp2
        go_ret
        exact ⟨by first | rfl | simp, HEc.out⟩
    | true =>
      by_cases h0 : wn = 0
      · subst h0
        obtain rfl : MT = true := by rw [HMT.out]; first | rfl | simp
        go_wp2_with (first | (refine wpList_load_rowW rfl 26 _ rfl g rfl _ _ _ _ (HRx.out w17 HE17.out) Tryd.underlying26 rfl (by rw [Hsr.out]; kernel_rfl) ?_) | (refine wpList_load_rowW rfl 26 _ rfl y rfl _ _ _ _ (HMx.out w17 HE17.out) Tryd.underlying26 rfl (by rw [Hsm.out]; kernel_rfl) ?_) | (refine wpList_load_rowW rfl 35 _ rfl q rfl _ _ _ _ (HQx.out w17 HE17.out) Tryd.underlying35 rfl (by rw [Hsq.out]; kernel_rfl) ?_) | (refine wp_hmid rfl _ rfl q 1 { h with code := cc } rfl (HQh.out w17 HE17.out) ?_))
        refine (HQr.out w17 HE17.out).mono ?_
        rintro e w18 ⟨rfl, hE⟩
        have HEa := Lib.hid (Ext.trans HE17.out hE)
        clear hE
        go_wp2_with (first | (refine wpList_load_rowW rfl 26 _ rfl g rfl _ _ _ _ (HRx.out w18 HEa.out) Tryd.underlying26 rfl (by rw [Hsr.out]; kernel_rfl) ?_) | (refine wpList_load_rowW rfl 26 _ rfl y rfl _ _ _ _ (HMx.out w18 HEa.out) Tryd.underlying26 rfl (by rw [Hsm.out]; kernel_rfl) ?_) | (refine wpList_load_rowW rfl 35 _ rfl q rfl _ _ _ _ (HQx.out w18 HEa.out) Tryd.underlying35 rfl (by rw [Hsq.out]; kernel_rfl) ?_) | (refine wp_hmid rfl _ rfl q 1 { h with code := cc } rfl (HQh.out w18 HEa.out) ?_))
        refine (HQc.out w18 HEa.out).mono ?_
        rintro e w19 ⟨rfl, hE⟩
        have HEb := Lib.hid (HEa.out.trans hE)
        clear hE
        go_wp2_with (first | (refine wpList_load_rowW rfl 26 _ rfl g rfl _ _ _ _ (HRx.out w19 HEb.out) Tryd.underlying26 rfl (by rw [Hsr.out]; kernel_rfl) ?_) | (refine wpList_load_rowW rfl 26 _ rfl y rfl _ _ _ _ (HMx.out w19 HEb.out) Tryd.underlying26 rfl (by rw [Hsm.out]; kernel_rfl) ?_) | (refine wpList_load_rowW rfl 35 _ rfl q rfl _ _ _ _ (HQx.out w19 HEb.out) Tryd.underlying35 rfl (by rw [Hsq.out]; kernel_rfl) ?_) | (refine wp_hmid rfl _ rfl q 1 { h with code := cc } rfl (HQh.out w19 HEb.out) ?_))
        refine (HQm.out w19 HEb.out).mono ?_
        rintro e w20 ⟨rfl, hE⟩
        have HEc := Lib.hid (HE16.out.trans (HEb.out.trans hE))
        clear hE
        go_wp2
        go_ret
        exact ⟨by first | rfl | simp, HEc.out⟩
      · have x0 : 0 < (wn : Int) := by omega
        have c53 := C53.out w17 HE17.out
        go_wp2_with fail
        refine (HMe.out w17 HE17.out).mono ?_
        rintro e w18 ⟨rfl, hE⟩
        have HE18 := Lib.hid (HE17.out.trans hE)
        clear hE c53
        cases MB with
        | false =>
          obtain rfl : MT = false := by rw [HMT.out]; first | rfl | simp [h0]
          go_wp2_with (first | (refine wpList_load_rowW rfl 26 _ rfl g rfl _ _ _ _ (HRx.out w18 HE18.out) Tryd.underlying26 rfl (by rw [Hsr.out]; kernel_rfl) ?_) | (refine wpList_load_rowW rfl 26 _ rfl y rfl _ _ _ _ (HMx.out w18 HE18.out) Tryd.underlying26 rfl (by rw [Hsm.out]; kernel_rfl) ?_) | (refine wpList_load_rowW rfl 35 _ rfl q rfl _ _ _ _ (HQx.out w18 HE18.out) Tryd.underlying35 rfl (by rw [Hsq.out]; kernel_rfl) ?_) | (refine wp_hmid rfl _ rfl q 1 { h with code := cc } rfl (HQh.out w18 HE18.out) ?_))
          refine (HQr.out w18 HE18.out).mono ?_
          rintro e w19 ⟨rfl, hE⟩
          have HEa := Lib.hid (Ext.trans HE18.out hE)
          clear hE
          go_wp2_with (first | (refine wpList_load_rowW rfl 26 _ rfl g rfl _ _ _ _ (HRx.out w19 HEa.out) Tryd.underlying26 rfl (by rw [Hsr.out]; kernel_rfl) ?_) | (refine wpList_load_rowW rfl 26 _ rfl y rfl _ _ _ _ (HMx.out w19 HEa.out) Tryd.underlying26 rfl (by rw [Hsm.out]; kernel_rfl) ?_) | (refine wpList_load_rowW rfl 35 _ rfl q rfl _ _ _ _ (HQx.out w19 HEa.out) Tryd.underlying35 rfl (by rw [Hsq.out]; kernel_rfl) ?_) | (refine wp_hmid rfl _ rfl q 1 { h with code := cc } rfl (HQh.out w19 HEa.out) ?_))
          refine (HQc.out w19 HEa.out).mono ?_
          rintro e w20 ⟨rfl, hE⟩
          have HEb := Lib.hid (HEa.out.trans hE)
          clear hE
          go_wp2_with (first | (refine wpList_load_rowW rfl 26 _ rfl g rfl _ _ _ _ (HRx.out w20 HEb.out) Tryd.underlying26 rfl (by rw [Hsr.out]; kernel_rfl) ?_) | (refine wpList_load_rowW rfl 26 _ rfl y rfl _ _ _ _ (HMx.out w20 HEb.out) Tryd.underlying26 rfl (by rw [Hsm.out]; kernel_rfl) ?_) | (refine wpList_load_rowW rfl 35 _ rfl q rfl _ _ _ _ (HQx.out w20 HEb.out) Tryd.underlying35 rfl (by rw [Hsq.out]; kernel_rfl) ?_) | (refine wp_hmid rfl _ rfl q 1 { h with code := cc } rfl (HQh.out w20 HEb.out) ?_))
          refine (HQm.out w20 HEb.out).mono ?_
          rintro e w21 ⟨rfl, hE⟩
          have HEc := Lib.hid (HE16.out.trans (HEb.out.trans hE))
          clear hE
          go_wp2
          go_ret
          exact ⟨by first | rfl | simp, HEc.out⟩
        | true =>
          obtain rfl : MT = true := by rw [HMT.out]; first | rfl | simp
          go_wp2_with (first | (refine wpList_load_rowW rfl 26 _ rfl g rfl _ _ _ _ (HRx.out w18 HE18.out) Tryd.underlying26 rfl (by rw [Hsr.out]; kernel_rfl) ?_) | (refine wpList_load_rowW rfl 26 _ rfl y rfl _ _ _ _ (HMx.out w18 HE18.out) Tryd.underlying26 rfl (by rw [Hsm.out]; kernel_rfl) ?_) | (refine wpList_load_rowW rfl 35 _ rfl q rfl _ _ _ _ (HQx.out w18 HE18.out) Tryd.underlying35 rfl (by rw [Hsq.out]; kernel_rfl) ?_) | (refine wp_hmid rfl _ rfl q 1 { h with code := cc } rfl (HQh.out w18 HE18.out) ?_))
          refine (HQr.out w18 HE18.out).mono ?_
          rintro e w19 ⟨rfl, hE⟩
          have HEa := Lib.hid (Ext.trans HE18.out hE)
          clear hE
          go_wp2_with (first | (refine wpList_load_rowW rfl 26 _ rfl g rfl _ _ _ _ (HRx.out w19 HEa.out) Tryd.underlying26 rfl (by rw [Hsr.out]; kernel_rfl) ?_) | (refine wpList_load_rowW rfl 26 _ rfl y rfl _ _ _ _ (HMx.out w19 HEa.out) Tryd.underlying26 rfl (by rw [Hsm.out]; kernel_rfl) ?_) | (refine wpList_load_rowW rfl 35 _ rfl q rfl _ _ _ _ (HQx.out w19 HEa.out) Tryd.underlying35 rfl (by rw [Hsq.out]; kernel_rfl) ?_) | (refine wp_hmid rfl _ rfl q 1 { h with code := cc } rfl (HQh.out w19 HEa.out) ?_))
          refine (HQc.out w19 HEa.out).mono ?_
          rintro e w20 ⟨rfl, hE⟩
          have HEb := Lib.hid (HEa.out.trans hE)
          clear hE
          go_wp2_with (first | (refine wpList_load_rowW rfl 26 _ rfl g rfl _ _ _ _ (HRx.out w20 HEb.out) Tryd.underlying26 rfl (by rw [Hsr.out]; kernel_rfl) ?_) | (refine wpList_load_rowW rfl 26 _ rfl y rfl _ _ _ _ (HMx.out w20 HEb.out) Tryd.underlying26 rfl (by rw [Hsm.out]; kernel_rfl) ?_) | (refine wpList_load_rowW rfl 35 _ rfl q rfl _ _ _ _ (HQx.out w20 HEb.out) Tryd.underlying35 rfl (by rw [Hsq.out]; kernel_rfl) ?_) | (refine wp_hmid rfl _ rfl q 1 { h with code := cc } rfl (HQh.out w20 HEb.out) ?_))
          refine (HQm.out w20 HEb.out).mono ?_
          rintro e w21 ⟨rfl, hE⟩
          have HEc := Lib.hid (HE16.out.trans (HEb.out.trans hE))
          clear hE
          go_wp2
          go_ret
          exact ⟨by first | rfl | simp, HEc.out⟩

end Go.Proofs.YtpiebfhcfkncoaaDoor
