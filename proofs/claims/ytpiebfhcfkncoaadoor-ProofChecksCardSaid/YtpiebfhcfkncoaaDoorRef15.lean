/-
  The walk of jalousieref15.Right. Asked: the table of 64 words lies as the text lays it.
-/
import Derived.Test.YtpiebfhcfkncoaaDoorHdR
import Derived.Test.YtpiebfhcfkncoaaDoorRefHdB
import Derived.Test.YtpiebfhcfkncoaaDoorKeyB
namespace Go.Proofs.YtpiebfhcfkncoaaDoor
open Go.ChangeShapes Go.WideShapes Go.ChangeAt Go.RowKit

theorem l32_eq (f g : Nat → Int) : decide (l32 f = l32 g) = arrB 32 f g := by
  unfold arrB
  rw [decide_eq_decide]
  unfold l32
  constructor
  · intro h j hj
    have h1 := congrArg (fun l => l[j]?) h
    simp only [List.getElem?_map, List.getElem?_range hj, Option.map_some] at h1
    exact Option.some.inj h1
  · intro h
    exact List.map_congr_left fun j hj => h j (List.mem_range.1 hj)
theorem eql_a32 (w : World) (f g : Nat → Int) : (binOp .eql 22 (.agg (rowArr 32 fun j => .int .u8 (f j))) (.agg (rowArr 32 fun j => .int .u8 (g j)))).run Tryd.prog w = .ok (.bool (arrB 32 f g)) w :=
  run_eql_arr w 22 5 32 .u8 Tryd.underlying22 Tryd.underlying5 size_u8 f g
set_option maxRecDepth 100000 in
theorem zero_a32 (w : World) : (zeroValue 22).run Tryd.prog w = .ok (.agg (rowArr 32 fun _ => .int .u8 0)) w := by kernel_rfl

set_option maxHeartbeats 8000000 in
set_option maxRecDepth 100000 in
theorem ref15Right_any (r : Rg) (h : Hd) (ts : List (Nat → Int)) (w : World) (hr : RgAt w r) (ho : HdOk h) (ht : TsAt w h.ta h.tn h.tc ts) (hk : KsAt 0 w) :
    Calls Tryd.prog 13 #[.agg (rgV r), .agg (hdV h)] w fun e w' => e = .returned (.bool (rightO realR (keyO r h) h ts)) ∧ Ext w w' := by
  obtain ⟨w2, hw2, hE2, hR2, hH2⟩ := tok_box' w (rgV r) (hdV h) 26 33
  obtain ⟨g, hg⟩ : ∃ g, w.heap.size = g := ⟨_, rfl⟩
  rw [hg] at hR2 hH2
  have hz := zero_h32
  have hz2 := zero_a32
  have Hg := Lib.hid hg
  have Hw2 := Lib.hid hw2
  have HE0 := Lib.hid hE2
  have HH2 := Lib.hid hH2
  have HW := Lib.hid (hk.ext' hE2)
  have Hsz := Lib.hid (hdV_size h)
  have HG := Lib.hid (fun i (hi : i < 32) => rg_grp hR2 i hi)
  have C32 := Lib.hid (fun x (hx : Ext w2 x) => rg_eps (hx.keep hR2))
  have C35 := Lib.hid (fun x (hx : Ext w2 x) => hd_ctl (hx.keep hH2))
  have C34 := Lib.hid (fun x (hx : Ext w2 x) => hd_epoch (hx.keep hH2))
  have HGb := Lib.hid hr.grp
  have hEp := hr.eps.ext hE2
  have HFo := Lib.hid (fun w1 (h1 : Ext w2 w1) => refHd_any h ts w1 ho (ht.ext (hE2.trans h1)))
  have HDd := Lib.hid (show ∀ w1, Ext w2 w1 → ∀ i, i < 32 → w1.cell? ⟨g + 1, 93 + i, none⟩ = some (.int .u8 (h.code i)) from fun w1 h1 i hi => hd_code (h1.keep hH2) i hi)
  have HCo := Lib.hid (show hdB h ts = true → ∀ w1, Ext w2 w1 → Calls Tryd.prog 17 #[.agg (hdV h)] w1 fun e w' => ∃ q n c, e = .returned (.slice q n c) ∧ BsAt w' q n c (coreL h ts) ∧ Ext w1 w' from fun hf w1 h1 =>
    (refCore_any h ts w1 ho (ht.ext (hE2.trans h1)) hf).mono fun e w' ⟨v, he, hown, hE⟩ => by
      obtain ⟨q, c, rfl, h2, h3⟩ := owns_slice hown
      exact ⟨q, _, c, he, owns_bs hown (coreL_byte hf ho ht.len ht.byte) (by unfold maxLen at h3; omega) (by have := coreL_le hf; omega), hE⟩)
  have HXl := Lib.hid (fun hf : hdB h ts = true => coreL_le (h := h) (ts := ts) hf)
  unfold rightO rightH realR
  obtain ⟨HV, hHV⟩ : ∃ A, hdV h = A := ⟨_, rfl⟩
  obtain ⟨RV, hRV⟩ : ∃ A, rgV r = A := ⟨_, rfl⟩
  rw [hHV] at HH2 Hsz HFo HCo Hw2 ⊢
  rw [hRV] at Hw2 ⊢
  obtain ⟨X, hX⟩ : ∃ X, coreL h ts = X := ⟨_, rfl⟩
  rw [hX] at HCo HXl
  simp only [hX, l32_eq]
  obtain ⟨F, hF⟩ : ∃ F, hdB h ts = F := ⟨_, rfl⟩
  rw [hF] at HCo HXl HFo
  simp only [hF]
  clear hw2 hE2 hR2 hH2 hg ho ht hr hk hHV hRV hX hF
  unfold keyO
  obtain ⟨grp, ea, en, ec, ks⟩ := r
  obtain ⟨B, hB⟩ : ∃ B, h.ctl = B := ⟨_, rfl⟩
  obtain ⟨E, hE⟩ : ∃ B, h.epoch = B := ⟨_, rfl⟩
  rw [hB] at C35 ⊢
  rw [hE] at C34 ⊢
  clear hB hE
  dsimp only at C32 HG HGb hEp ⊢
  cases B with
  | true =>
    simp only [if_true]
    have Hcb := Lib.hid (codeK_byte grp)
    have HDe := Lib.hid (show ∀ x, Ext w2 x → Calls Tryd.prog 29 #[.agg (rowArr 32 fun j => .int .u8 (grp j)), .string labCode] x fun e w' => e = .returned (.agg (rowArr 32 fun j => .int .u8 (codeK grp j))) ∧ Ext x w' from fun x hx => refDerive_any grp HGb.out labCode x (by decide) (hdKs_ext HW.out hx))
    obtain ⟨cd, hcd⟩ : ∃ c, codeK grp = c := ⟨_, rfl⟩
    rw [hcd] at Hcb HDe ⊢
    obtain ⟨M, hM⟩ : ∃ c, macF (l32 cd) X = c := ⟨_, rfl⟩
    have HM0 := Lib.hid hM
    rw [hM]
    clear hcd hM
    go_enter Tryd.func13, Tryd.ntmps13
    go_upto_region 1 with (fail)
    refine wp_world (w' := w2) Hw2.out ?_
    rw [Hg.out]
    clear Hw2
    go_upto_region 2 with (first | (refine wp_sub rfl 23 _ rfl g 0 32 (fun j => .int .u8 (grp j)) rfl Tryd.underlying23 (size_h32 _) HG.out ?_) | (refine wpList_store_row rfl 23 _ _ rfl w2.heap.size _ rfl rfl _ _ (heap_new w2 _ _ rfl) (by kernel_rfl) (by simp only [rowArr_size]) (rowArr_one fun _ _ => rfl) ?_; rw [setRow_new w2 _ _ _ _ rfl]))
    obtain ⟨w3, hw3⟩ : ∃ x, w2.alloc (.cells (rowArr 32 fun j => .int .u8 (grp j)) 23) = x := ⟨_, rfl⟩
    obtain ⟨z, hz4⟩ : ∃ z, w2.heap.size = z := ⟨_, rfl⟩
    have HZ3 := Lib.hid (show w3.heap[z]? = some (.cells (rowArr 32 fun j => .int .u8 (grp j)) 23 (0, 0)) by rw [← hw3]; exact heap_new w2 _ _ hz4.symm)
    have HE3 := Lib.hid (show Ext w2 w3 by rw [← hw3]; exact (Ext.refl w2).alloc _)
    refine wp_world (w' := w3) hw3 ?_
    rw [hz4]
    have Hz4 := Lib.hid hz4
    have c35 := C35.out w3 HE3.out
    have c34 := C34.out w3 HE3.out
    have c32 := C32.out w3 HE3.out
    clear hw3 hz4 HG
    go_upto_region 6 with (fail)
    obtain ⟨w4, rfl⟩ : ∃ x, x = w3 := ⟨_, rfl⟩
    have HK4 := HZ3
    have HE4 := HE3
    clear c35 c34 c32 HE3 HZ3 hEp
    go_wp2_with (refine wpList_load_rowW rfl 33 _ rfl (g + 1) rfl _ _ _ _ (HE4.out.keep HH2.out) Tryd.underlying33 rfl (by rw [Hsz.out]; kernel_rfl) ?_)
    refine (HFo.out w4 HE4.out).mono ?_
    rintro e w5 ⟨rfl, hE⟩
    have HE5 := Lib.hid (HE4.out.trans hE)
    have HK5 := Lib.hid (hE.keep HK4.out)
    clear hE HE4 HK4
    cases F with
    | false =>
      go_wp2
      go_ret
      exact ⟨by first | rfl | simp, HE0.out.trans HE5.out⟩
    | true =>
      have HDv := Lib.hid (HDe.out w5 HE5.out)
      have HXq := Lib.hid (show X.length ≤ 400 from HXl.out (by first | rfl | trivial))
      have HCq := Lib.hid (show ∀ w1, Ext w2 w1 → Calls Tryd.prog 17 #[.agg HV] w1 fun e w' => ∃ q n c, e = .returned (.slice q n c) ∧ BsAt w' q n c X ∧ Ext w1 w' from HCo.out (by first | rfl | trivial))
      clear HXl HCo
      go_wp2_with (refine wpList_load_rowW rfl 23 _ rfl z rfl _ _ _ _ HK5.out Tryd.underlying23 rfl (by kernel_rfl) ?_)
      refine HDv.out.mono ?_
      rintro e w8 ⟨rfl, hE⟩
      have HE8 := Lib.hid (HE5.out.trans hE)
      clear hE HE5 HK5 HDv HDe
      go_upto_region 9 with (refine wpList_store_row rfl 23 _ _ rfl w8.heap.size _ rfl rfl _ _ (heap_new w8 _ _ rfl) (by kernel_rfl) (by simp only [rowArr_size]) (rowArr_one fun _ _ => rfl) ?_; rw [setRow_new w8 _ _ _ _ rfl])
      obtain ⟨w6, hw6⟩ : ∃ x, w8.alloc (.cells (rowArr 32 fun j => .int .u8 (cd j)) 23) = x := ⟨_, rfl⟩
      obtain ⟨y, hy⟩ : ∃ y, w8.heap.size = y := ⟨_, rfl⟩
      have hC6 : w6.heap[y]? = some (.cells (rowArr 32 fun j => .int .u8 (cd j)) 23 (0, 0)) := by rw [← hw6]; exact heap_new w8 _ _ hy.symm
      have HE6 := Lib.hid (show Ext w2 w6 by rw [← hw6]; exact HE8.out.alloc _)
      refine wp_world (w' := w6) hw6 ?_
      rw [hy]
      have HH6 := Lib.hid (HE6.out.keep HH2.out)
      have hbs6 : BsAt w6 (some ⟨y, 0, none⟩) 32 32 (l32 cd) := bs_row (rowIs_of hC6) Hcb.out (by omega)
      have HMc := Lib.hid (show ∀ x, Ext w6 x → ∀ q n c, BsAt x q n c X → Calls Tryd.prog 30 #[.slice (some ⟨y, 0, none⟩) 32 32, .slice q n c] x fun e w' => e = .returned (.agg (rowArr 32 fun j => .int .u8 (M j))) ∧ Ext x w' from fun x hx q n c hq => by
        have h1 := refMac_any _ _ _ _ q n c X x (hbs6.ext hx) hq (by have := hq.len; have := HXq.out; omega) (by omega) (hdKs_ext HW.out (HE6.out.trans hx))
        rw [HM0.out] at h1
        exact h1)
      obtain ⟨S6, hS6⟩ : ∃ x, w6.heap.size = x := ⟨_, rfl⟩
      have HS6 := Lib.hid hS6
      have hS62 := Below.size HE6.out
      rw [hS6] at hS62
      clear hS6
      have HX := Lib.hid (show ∀ x, Ext w6.drew x → Ext w6 x from fun x hx => Ext.trans (Ext.refl w6).drew hx)
      clear hw6 hy hC6 hbs6 HE8
      refine wp_region_lexT 5 (by kernel_rfl) (by kernel_rfl) ?_
      simp only [List.take_succ_cons, List.take_zero, List.drop_succ_cons, List.drop_zero]
      refine lx_e (.slice (some ⟨y, 0, none⟩) 32 32) [] (by kernel_rfl) rfl (by rfl) (fun w1 hw1 => ?_) ?_
      · simp only [pk, lexVals]
        go_simp
        exact ⟨Ext.refl _, rfl⟩
      refine lx_e (.agg HV) [] (by kernel_rfl) rfl (by rfl) (fun w1 hw1 => ?_) ?_
      · simp only [pk, lexVals]
        exact lu_row rfl rfl ((HX.out w1 hw1).keep HH6.out) Tryd.underlying33 rfl (by rw [Hsz.out]; kernel_rfl)
      refine lx_a (fun u w => ∃ q n c, u = .slice q n c ∧ BsAt w q n c X) [(0, 36)] (by kernel_rfl) rfl (by rfl) (fun u w w' he ⟨q, n, c, h1, h2⟩ => ⟨q, n, c, h1, h2.ext he⟩) (fun w1 hw1 => ?_) ?_
      · simp only [pk, nthSp, lexVals]
        have HM := Lib.hid (HCq.out w1 (HE6.out.trans (HX.out w1 hw1)))
        clear hw1
        go_simp
        refine HM.out.mono ?_
        rintro e w2 ⟨q, n, c, rfl, hs, hE2⟩
        exact ⟨_, rfl, hE2, _, _, _, rfl, hs⟩
      refine lx_e (.agg (rowArr 32 fun j => .int .u8 (M j))) [(2, 35), (0, 37)] (by kernel_rfl) rfl (by rfl) (fun w1 hw1 => ?_) ?_
      · simp only [pk, nthSp, lexVals]
        rintro u37 ⟨q37, n37, c37, rfl, h37⟩
        have hm := HMc.out w1 (HX.out w1 hw1) _ _ _ h37
        have HM := Lib.hid hm
        clear hm hw1 h37
        go_simp
        refine HM.out.mono ?_
        rintro e w2 ⟨rfl, hE2⟩
        exact ⟨_, rfl, hE2, rfl⟩
      refine lx_a (fun u w => ∃ y, u = .pointer (some ⟨y, 0, none⟩) ∧ S6 ≤ y ∧ w.heap[y]? = some (.cells (rowArr 32 fun _ => .int .u8 0) 22 (0, 0))) [] (by kernel_rfl) rfl (by rfl) (fun u w w' he ⟨y, h1, h2, h3⟩ => ⟨y, h1, h2, he.keep h3⟩) (fun w1 hw1 => ?_) ?_
      · simp only [pk, lexVals]
        have hl := Below.size (HX.out w1 hw1)
        rw [HS6.out] at hl
        clear hw1
        go_simp
        exact ⟨(Ext.refl w1).alloc _, _, rfl, hl, heap_new w1 _ _ rfl⟩
      refine lx_stopT (by rfl) (by decide) fun w7 hw7 => ?_
      have HE7 := Lib.hid (HE6.out.trans (HX.out w7 hw7))
      clear hw7
      simp only [rv, pf, lexVals, List.drop_succ_cons, List.drop_zero]
      rintro v1 ⟨q1, n1, c1, rfl, -⟩ v2 ⟨v, rfl, hv7, hN7⟩
      have HN7 := Lib.hid hN7
      simp only [Act.put, List.setIfInBounds_toArray, List.set_cons_zero, List.set_cons_succ]
      go_upto_region 10 with (refine wpList_store_row rfl 22 _ _ rfl v _ rfl rfl _ _ HN7.out (by kernel_rfl) (by simp only [rowArr_size]) (rowArr_one fun _ _ => rfl) ?_)
      obtain ⟨w9, hw9⟩ : ∃ x, w7.setRow v (rowArr 32 fun j => .int .u8 (M j)) = x := ⟨_, rfl⟩
      have HM9 := Lib.hid (show w9.heap[v]? = some (.cells (rowArr 32 fun j => .int .u8 (M j)) 22 (0, 0)) by rw [← hw9]; exact setRow_heap w7 v _ _ _ _ HN7.out)
      have HE9 := Lib.hid (show Ext w2 w9 by rw [← hw9]; exact below_setRow HE7.out (Nat.le_trans hS62 hv7) _)
      refine wp_world (w' := w9) hw9 ?_
      have heq := eql_a32
      clear hw9 HN7 HE7 hN7 hv7 hS62
      go_wp2_with (first | (refine wpList_load_rowW rfl 22 _ rfl v rfl _ _ _ _ HM9.out Tryd.underlying22 rfl (by kernel_rfl) ?_) | (refine wp_sub rfl 23 _ rfl (g + 1) 93 32 (fun j => .int .u8 (h.code j)) rfl Tryd.underlying23 (size_h32 _) (HDd.out w9 HE9.out) ?_))
      go_ret
      exact ⟨by first | rfl | simp, HE0.out.trans HE9.out⟩
  | false =>
    simp only [Bool.false_eq_true, if_false]
    by_cases hbad : E < 0 ∨ (en : Int) ≤ E
    · simp only [if_pos hbad]
      clear HCo HXl HFo HDd
      by_cases h0 : E < 0
      case' pos => clear hbad
      case' neg => have h1 : (en : Int) ≤ E := by omega
      case' neg => have h2 : 0 ≤ E := by omega
      case' neg => clear hbad h0
      all_goals
        go_enter Tryd.func13, Tryd.ntmps13
        go_upto_region 1 with (fail)
        refine wp_world (w' := w2) Hw2.out ?_
        rw [Hg.out]
        clear Hw2
        go_upto_region 2 with (first | (refine wp_sub rfl 23 _ rfl g 0 32 (fun j => .int .u8 (grp j)) rfl Tryd.underlying23 (size_h32 _) HG.out ?_) | (refine wpList_store_row rfl 23 _ _ rfl w2.heap.size _ rfl rfl _ _ (heap_new w2 _ _ rfl) (by kernel_rfl) (by simp only [rowArr_size]) (rowArr_one fun _ _ => rfl) ?_; rw [setRow_new w2 _ _ _ _ rfl]))
        obtain ⟨w3, hw3⟩ : ∃ x, w2.alloc (.cells (rowArr 32 fun j => .int .u8 (grp j)) 23) = x := ⟨_, rfl⟩
        obtain ⟨z, hz4⟩ : ∃ z, w2.heap.size = z := ⟨_, rfl⟩
        have HZ3 := Lib.hid (show w3.heap[z]? = some (.cells (rowArr 32 fun j => .int .u8 (grp j)) 23 (0, 0)) by rw [← hw3]; exact heap_new w2 _ _ hz4.symm)
        have HE3 := Lib.hid (show Ext w2 w3 by rw [← hw3]; exact (Ext.refl w2).alloc _)
        refine wp_world (w' := w3) hw3 ?_
        rw [hz4]
        have Hz4 := Lib.hid hz4
        have c35 := C35.out w3 HE3.out
        have c34 := C34.out w3 HE3.out
        have c32 := C32.out w3 HE3.out
        clear hw3 hz4 HG
        go_wp2
        go_ret
        exact ⟨rfl, HE0.out.trans HE3.out⟩
    · simp only [if_neg hbad]
      obtain ⟨k, rfl⟩ : ∃ k : Nat, E = (k : Int) := ⟨E.toNat, by omega⟩
      have h1 : ¬ (en : Int) ≤ (k : Int) := by omega
      have h2 : k < en := by omega
      have Hk := Lib.hid h2
      rw [Int.toNat_natCast]
      obtain ⟨b, off, rfl, hcell⟩ := hEp.at_ (by omega)
      have HC0 := Lib.hid (hcell k h2)
      have HF := Lib.hid (hEp.key k h2)
      have hsm := hEp.small
      obtain ⟨f, hf⟩ : ∃ f, (ks.getD k fun _ => 0) = f := ⟨_, rfl⟩
      rw [hf] at HC0 HF ⊢
      have HC := Lib.hid (show ∀ x, Ext w2 x → ∀ i, i < 32 → x.cell? ⟨b, off + k * 32 + i, none⟩ = some (.int .u8 (f i)) from fun x hx i hi => by rw [Ext.cell hx (World.block_lt_of_cell? w2 _ (HC0.out i hi))]; exact HC0.out i hi)
      have Hcb := Lib.hid (codeK_byte f)
      have HDe := Lib.hid (show ∀ x, Ext w2 x → Calls Tryd.prog 29 #[.agg (rowArr 32 fun j => .int .u8 (f j)), .string labCode] x fun e w' => e = .returned (.agg (rowArr 32 fun j => .int .u8 (codeK f j))) ∧ Ext x w' from fun x hx => refDerive_any f HF.out labCode x (by decide) (hdKs_ext HW.out hx))
      obtain ⟨cd, hcd⟩ : ∃ c, codeK f = c := ⟨_, rfl⟩
      rw [hcd] at Hcb HDe ⊢
      obtain ⟨M, hM⟩ : ∃ c, macF (l32 cd) X = c := ⟨_, rfl⟩
      have HM0 := Lib.hid hM
      rw [hM]
      clear hcd hM hbad hEp hcell hf h2
      go_enter Tryd.func13, Tryd.ntmps13
      go_upto_region 1 with (fail)
      refine wp_world (w' := w2) Hw2.out ?_
      rw [Hg.out]
      clear Hw2
      go_upto_region 2 with (first | (refine wp_sub rfl 23 _ rfl g 0 32 (fun j => .int .u8 (grp j)) rfl Tryd.underlying23 (size_h32 _) HG.out ?_) | (refine wpList_store_row rfl 23 _ _ rfl w2.heap.size _ rfl rfl _ _ (heap_new w2 _ _ rfl) (by kernel_rfl) (by simp only [rowArr_size]) (rowArr_one fun _ _ => rfl) ?_; rw [setRow_new w2 _ _ _ _ rfl]))
      obtain ⟨w3, hw3⟩ : ∃ x, w2.alloc (.cells (rowArr 32 fun j => .int .u8 (grp j)) 23) = x := ⟨_, rfl⟩
      obtain ⟨z, hz4⟩ : ∃ z, w2.heap.size = z := ⟨_, rfl⟩
      have HZ3 := Lib.hid (show w3.heap[z]? = some (.cells (rowArr 32 fun j => .int .u8 (grp j)) 23 (0, 0)) by rw [← hw3]; exact heap_new w2 _ _ hz4.symm)
      have HE3 := Lib.hid (show Ext w2 w3 by rw [← hw3]; exact (Ext.refl w2).alloc _)
      refine wp_world (w' := w3) hw3 ?_
      rw [hz4]
      have Hz4 := Lib.hid hz4
      have c35 := C35.out w3 HE3.out
      have c34 := C34.out w3 HE3.out
      have c32 := C32.out w3 HE3.out
      clear hw3 hz4 HG
      have hc0 := HC.out w3 HE3.out
      have HC3 := Lib.hid hc0
      clear hc0
      go_upto_region 6 with (first | (refine wp_idx32 rfl _ _ rfl b off en ec k rfl rfl Hk.out ?_) | (refine wp_sub rfl 23 _ rfl b (off + k * 32) 32 (fun j => .int .u8 (f j)) rfl Tryd.underlying23 (size_h32 _) HC3.out ?_) | (refine wpList_store_row rfl 23 _ _ rfl z _ rfl rfl _ _ HZ3.out (by kernel_rfl) (by simp only [rowArr_size]) (rowArr_one fun _ _ => rfl) ?_))
      obtain ⟨w4, hw4⟩ : ∃ x, w3.setRow z (rowArr 32 fun j => .int .u8 (f j)) = x := ⟨_, rfl⟩
      have HK4 := Lib.hid (show w4.heap[z]? = some (.cells (rowArr 32 fun j => .int .u8 (f j)) 23 (0, 0)) by rw [← hw4]; exact setRow_heap w3 z _ _ _ _ HZ3.out)
      have HE4 := Lib.hid (show Ext w2 w4 by rw [← hw4]; exact below_setRow HE3.out (Nat.le_of_eq Hz4.out) _)
      refine wp_world (w' := w4) hw4 ?_
      clear hw4 c35 c34 c32 HC HC0 HC3 Hk HE3 HZ3 Hz4
      go_wp2_with (refine wpList_load_rowW rfl 33 _ rfl (g + 1) rfl _ _ _ _ (HE4.out.keep HH2.out) Tryd.underlying33 rfl (by rw [Hsz.out]; kernel_rfl) ?_)
      refine (HFo.out w4 HE4.out).mono ?_
      rintro e w5 ⟨rfl, hE⟩
      have HE5 := Lib.hid (HE4.out.trans hE)
      have HK5 := Lib.hid (hE.keep HK4.out)
      clear hE HE4 HK4
      cases F with
      | false =>
        go_wp2
        go_ret
        exact ⟨by first | rfl | simp, HE0.out.trans HE5.out⟩
      | true =>
        have HDv := Lib.hid (HDe.out w5 HE5.out)
        have HXq := Lib.hid (show X.length ≤ 400 from HXl.out (by first | rfl | trivial))
        have HCq := Lib.hid (show ∀ w1, Ext w2 w1 → Calls Tryd.prog 17 #[.agg HV] w1 fun e w' => ∃ q n c, e = .returned (.slice q n c) ∧ BsAt w' q n c X ∧ Ext w1 w' from HCo.out (by first | rfl | trivial))
        clear HXl HCo
        go_wp2_with (refine wpList_load_rowW rfl 23 _ rfl z rfl _ _ _ _ HK5.out Tryd.underlying23 rfl (by kernel_rfl) ?_)
        refine HDv.out.mono ?_
        rintro e w8 ⟨rfl, hE⟩
        have HE8 := Lib.hid (HE5.out.trans hE)
        clear hE HE5 HK5 HDv HDe
        go_upto_region 9 with (refine wpList_store_row rfl 23 _ _ rfl w8.heap.size _ rfl rfl _ _ (heap_new w8 _ _ rfl) (by kernel_rfl) (by simp only [rowArr_size]) (rowArr_one fun _ _ => rfl) ?_; rw [setRow_new w8 _ _ _ _ rfl])
        obtain ⟨w6, hw6⟩ : ∃ x, w8.alloc (.cells (rowArr 32 fun j => .int .u8 (cd j)) 23) = x := ⟨_, rfl⟩
        obtain ⟨y, hy⟩ : ∃ y, w8.heap.size = y := ⟨_, rfl⟩
        have hC6 : w6.heap[y]? = some (.cells (rowArr 32 fun j => .int .u8 (cd j)) 23 (0, 0)) := by rw [← hw6]; exact heap_new w8 _ _ hy.symm
        have HE6 := Lib.hid (show Ext w2 w6 by rw [← hw6]; exact HE8.out.alloc _)
        refine wp_world (w' := w6) hw6 ?_
        rw [hy]
        have HH6 := Lib.hid (HE6.out.keep HH2.out)
        have hbs6 : BsAt w6 (some ⟨y, 0, none⟩) 32 32 (l32 cd) := bs_row (rowIs_of hC6) Hcb.out (by omega)
        have HMc := Lib.hid (show ∀ x, Ext w6 x → ∀ q n c, BsAt x q n c X → Calls Tryd.prog 30 #[.slice (some ⟨y, 0, none⟩) 32 32, .slice q n c] x fun e w' => e = .returned (.agg (rowArr 32 fun j => .int .u8 (M j))) ∧ Ext x w' from fun x hx q n c hq => by
          have h1 := refMac_any _ _ _ _ q n c X x (hbs6.ext hx) hq (by have := hq.len; have := HXq.out; omega) (by omega) (hdKs_ext HW.out (HE6.out.trans hx))
          rw [HM0.out] at h1
          exact h1)
        obtain ⟨S6, hS6⟩ : ∃ x, w6.heap.size = x := ⟨_, rfl⟩
        have HS6 := Lib.hid hS6
        have hS62 := Below.size HE6.out
        rw [hS6] at hS62
        clear hS6
        have HX := Lib.hid (show ∀ x, Ext w6.drew x → Ext w6 x from fun x hx => Ext.trans (Ext.refl w6).drew hx)
        clear hw6 hy hC6 hbs6 HE8
        refine wp_region_lexT 5 (by kernel_rfl) (by kernel_rfl) ?_
        simp only [List.take_succ_cons, List.take_zero, List.drop_succ_cons, List.drop_zero]
        refine lx_e (.slice (some ⟨y, 0, none⟩) 32 32) [] (by kernel_rfl) rfl (by rfl) (fun w1 hw1 => ?_) ?_
        · simp only [pk, lexVals]
          go_simp
          exact ⟨Ext.refl _, rfl⟩
        refine lx_e (.agg HV) [] (by kernel_rfl) rfl (by rfl) (fun w1 hw1 => ?_) ?_
        · simp only [pk, lexVals]
          exact lu_row rfl rfl ((HX.out w1 hw1).keep HH6.out) Tryd.underlying33 rfl (by rw [Hsz.out]; kernel_rfl)
        refine lx_a (fun u w => ∃ q n c, u = .slice q n c ∧ BsAt w q n c X) [(0, 36)] (by kernel_rfl) rfl (by rfl) (fun u w w' he ⟨q, n, c, h1, h2⟩ => ⟨q, n, c, h1, h2.ext he⟩) (fun w1 hw1 => ?_) ?_
        · simp only [pk, nthSp, lexVals]
          have HM := Lib.hid (HCq.out w1 (HE6.out.trans (HX.out w1 hw1)))
          clear hw1
          go_simp
          refine HM.out.mono ?_
          rintro e w2 ⟨q, n, c, rfl, hs, hE2⟩
          exact ⟨_, rfl, hE2, _, _, _, rfl, hs⟩
        refine lx_e (.agg (rowArr 32 fun j => .int .u8 (M j))) [(2, 35), (0, 37)] (by kernel_rfl) rfl (by rfl) (fun w1 hw1 => ?_) ?_
        · simp only [pk, nthSp, lexVals]
          rintro u37 ⟨q37, n37, c37, rfl, h37⟩
          have hm := HMc.out w1 (HX.out w1 hw1) _ _ _ h37
          have HM := Lib.hid hm
          clear hm hw1 h37
          go_simp
          refine HM.out.mono ?_
          rintro e w2 ⟨rfl, hE2⟩
          exact ⟨_, rfl, hE2, rfl⟩
        refine lx_a (fun u w => ∃ y, u = .pointer (some ⟨y, 0, none⟩) ∧ S6 ≤ y ∧ w.heap[y]? = some (.cells (rowArr 32 fun _ => .int .u8 0) 22 (0, 0))) [] (by kernel_rfl) rfl (by rfl) (fun u w w' he ⟨y, h1, h2, h3⟩ => ⟨y, h1, h2, he.keep h3⟩) (fun w1 hw1 => ?_) ?_
        · simp only [pk, lexVals]
          have hl := Below.size (HX.out w1 hw1)
          rw [HS6.out] at hl
          clear hw1
          go_simp
          exact ⟨(Ext.refl w1).alloc _, _, rfl, hl, heap_new w1 _ _ rfl⟩
        refine lx_stopT (by rfl) (by decide) fun w7 hw7 => ?_
        have HE7 := Lib.hid (HE6.out.trans (HX.out w7 hw7))
        clear hw7
        simp only [rv, pf, lexVals, List.drop_succ_cons, List.drop_zero]
        rintro v1 ⟨q1, n1, c1, rfl, -⟩ v2 ⟨v, rfl, hv7, hN7⟩
        have HN7 := Lib.hid hN7
        simp only [Act.put, List.setIfInBounds_toArray, List.set_cons_zero, List.set_cons_succ]
        go_upto_region 10 with (refine wpList_store_row rfl 22 _ _ rfl v _ rfl rfl _ _ HN7.out (by kernel_rfl) (by simp only [rowArr_size]) (rowArr_one fun _ _ => rfl) ?_)
        obtain ⟨w9, hw9⟩ : ∃ x, w7.setRow v (rowArr 32 fun j => .int .u8 (M j)) = x := ⟨_, rfl⟩
        have HM9 := Lib.hid (show w9.heap[v]? = some (.cells (rowArr 32 fun j => .int .u8 (M j)) 22 (0, 0)) by rw [← hw9]; exact setRow_heap w7 v _ _ _ _ HN7.out)
        have HE9 := Lib.hid (show Ext w2 w9 by rw [← hw9]; exact below_setRow HE7.out (Nat.le_trans hS62 hv7) _)
        refine wp_world (w' := w9) hw9 ?_
        have heq := eql_a32
        clear hw9 HN7 HE7 hN7 hv7 hS62
        go_wp2_with (first | (refine wpList_load_rowW rfl 22 _ rfl v rfl _ _ _ _ HM9.out Tryd.underlying22 rfl (by kernel_rfl) ?_) | (refine wp_sub rfl 23 _ rfl (g + 1) 93 32 (fun j => .int .u8 (h.code j)) rfl Tryd.underlying23 (size_h32 _) (HDd.out w9 HE9.out) ?_))
        go_ret
        exact ⟨by first | rfl | simp, HE0.out.trans HE9.out⟩

end Go.Proofs.YtpiebfhcfkncoaaDoor
