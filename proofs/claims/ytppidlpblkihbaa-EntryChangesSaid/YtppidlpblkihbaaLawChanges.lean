/-
  The walk of jalousielaw12.EntryChanges: it answers true. No conditions.
-/
import Derived.Test.YtppidlpblkihbaaLawTexts
namespace Go.Proofs.Ytppidlpblkihbaa
open Go.ChangeShapes Go.WideShapes Go.ChangeAt Go.RowKit

set_option maxHeartbeats 4000000 in
set_option maxRecDepth 100000 in
theorem lawChanges_any (op : Int) (nm : ByteArray) (ta : Option Addr) (tn tc : Nat) (ss : List ByteArray) (va : ByteArray) (w : World) (_hop : -9223372036854775808 ≤ op ∧ op ≤ 9223372036854775807) (hs : SsAt w ta tn tc ss) (hn : nm.size ≤ 9223372036854775807) (hv : va.size ≤ 9223372036854775807) (hss : ∀ s ∈ ss, s.size ≤ 9223372036854775807) :
    Calls Try.prog 3 #[.agg (chV op nm (.slice ta tn tc) va)] w fun e w' => e = .returned (.bool true) ∧ Ext w w' := by
  obtain ⟨CV, hCV⟩ : ∃ CV, chV op nm (.slice ta tn tc) va = CV := ⟨_, rfl⟩
  have hsz : CV.size = 4 := by rw [← hCV]; rfl
  have HFo := Lib.hid (show ∀ w9, Ext w w9 → Calls Try.prog 11 #[.agg CV] w9 fun e w' => e = .returned (.bool (changeB op nm ss va)) ∧ Ext w9 w' from fun w9 h9 => by
    have h1 := formedCh_any op nm ta tn tc ss va w9 (hs.ext h9) hn hv hss
    rw [hCV] at h1
    exact h1)
  have HRf := Lib.hid (show ∀ w9, Ext w w9 → Calls Try.prog 10 #[.agg CV] w9 fun e w' => e = .returned (.bool (changeB op nm ss va)) ∧ Ext w9 w' from fun w9 h9 => by
    have h1 := refFormedCh_any op nm ta tn tc ss va w9 (hs.ext h9) hn hv hss
    rw [hCV] at h1
    exact h1)
  have HBad := Lib.hid (show changeB op nm ss va = false → ∀ w9, Ext w w9 → Calls Try.prog 9 #[.agg CV] w9 fun e w' => e = .returned (.tuple #[.slice none 0 0, .int .i64 1]) ∧ Ext w9 w' from fun hf w9 h9 => by
    have h1 := packCh_bad op nm ta tn tc ss va w9 hf (hs.ext h9) hn hv hss
    rw [hCV] at h1
    exact h1)
  have HGood := Lib.hid (show changeB op nm ss va = true → ∀ w9, Ext w w9 → Calls Try.prog 9 #[.agg CV] w9 fun e w' => ∃ q n c, e = .returned (.tuple #[.slice q n c, .int .i64 0]) ∧ BsAt w' q n c (chgL op nm ss va) ∧ Ext w9 w' from fun hf w9 h9 => by
    have h1 := packCh_any op nm ta tn tc ss va w9 hf (hs.ext h9) hss
    rw [hCV] at h1
    exact h1)
  rw [hCV]
  obtain ⟨w2, hw2⟩ : ∃ w2, w.alloc (.cells CV 24) = w2 := ⟨_, rfl⟩
  have hE2 : Ext w w2 := by rw [← hw2]; exact (Ext.refl w).alloc _
  have hB2 : w2.heap[w.heap.size]? = some (.cells CV 24 (0, 0)) := by rw [← hw2]; exact heap_new w _ _ rfl
  have Hw2 := Lib.hid hw2
  have HE2 := Lib.hid hE2
  obtain ⟨g, hg⟩ : ∃ g, w.heap.size = g := ⟨_, rfl⟩
  rw [hg] at hB2
  have HB2 := Lib.hid hB2
  have Hg := Lib.hid hg
  have Hsz := Lib.hid hsz
  have HCV := Lib.hid hCV
  have Hs := Lib.hid hs
  have Hlen := Lib.hid hs.len
  have hsm := hs.small
  clear hw2 hE2 hB2 hg hsz hCV hs hss
  by_cases ht : 20 < tn
  · have xt : (20 : Int) < (tn : Int) := by omega
    clear ht
    go_enter Try.func3, Try.ntmps3
    go_upto_region 1 with (fail)
    refine wp_world (w' := w2) Hw2.out ?_
    rw [Hg.out]
    clear Hw2
    go_wp2_with fail
    refine (awake12_any w2).mono ?_
    rintro e w3 ⟨rfl, hE⟩
    have HB3 := Lib.hid (hE.keep HB2.out)
    have HE3 := Lib.hid (HE2.out.trans hE)
    have hB3 := HB3.out
    rw [← HCV.out] at hB3
    obtain ⟨c0, c1, c2, c3⟩ := ch_cell hB3
    clear hE hB3
    go_wp2_with fail
    refine (awake12_any w3).mono ?_
    rintro e w4 ⟨rfl, hE⟩
    have HE4 := Lib.hid (HE3.out.trans hE)
    clear hE
    go_wp2
    go_ret
    exact ⟨rfl, HE4.out⟩
  have xt : ¬ (20 : Int) < (tn : Int) := by omega
  by_cases hnm : 100 < nm.size
  · have xn : (100 : Int) < (nm.size : Int) := by omega
    clear hnm
    go_enter Try.func3, Try.ntmps3
    go_upto_region 1 with (fail)
    refine wp_world (w' := w2) Hw2.out ?_
    rw [Hg.out]
    clear Hw2
    go_wp2_with fail
    refine (awake12_any w2).mono ?_
    rintro e w3 ⟨rfl, hE⟩
    have HB3 := Lib.hid (hE.keep HB2.out)
    have HE3 := Lib.hid (HE2.out.trans hE)
    have hB3 := HB3.out
    rw [← HCV.out] at hB3
    obtain ⟨c0, c1, c2, c3⟩ := ch_cell hB3
    clear hE hB3
    go_wp2_with fail
    refine (awake12_any w3).mono ?_
    rintro e w4 ⟨rfl, hE⟩
    have HE4 := Lib.hid (HE3.out.trans hE)
    clear hE
    go_wp2
    go_ret
    exact ⟨rfl, HE4.out⟩
  have xn : ¬ (100 : Int) < (nm.size : Int) := by omega
  by_cases hva : 700 < va.size
  · have xv : (700 : Int) < (va.size : Int) := by omega
    clear hva
    go_enter Try.func3, Try.ntmps3
    go_upto_region 1 with (fail)
    refine wp_world (w' := w2) Hw2.out ?_
    rw [Hg.out]
    clear Hw2
    go_wp2_with fail
    refine (awake12_any w2).mono ?_
    rintro e w3 ⟨rfl, hE⟩
    have HB3 := Lib.hid (hE.keep HB2.out)
    have HE3 := Lib.hid (HE2.out.trans hE)
    have hB3 := HB3.out
    rw [← HCV.out] at hB3
    obtain ⟨c0, c1, c2, c3⟩ := ch_cell hB3
    clear hE hB3
    go_wp2_with fail
    refine (awake12_any w3).mono ?_
    rintro e w4 ⟨rfl, hE⟩
    have HE4 := Lib.hid (HE3.out.trans hE)
    clear hE
    go_wp2
    go_ret
    exact ⟨rfl, HE4.out⟩
  have xv : ¬ (700 : Int) < (va.size : Int) := by omega
  go_enter Try.func3, Try.ntmps3
  go_upto_region 1 with (fail)
  refine wp_world (w' := w2) Hw2.out ?_
  rw [Hg.out]
  clear Hw2
  go_wp2_with fail
  refine (awake12_any w2).mono ?_
  rintro e w3 ⟨rfl, hE⟩
  have HB3 := Lib.hid (hE.keep HB2.out)
  have HE3 := Lib.hid (HE2.out.trans hE)
  have hB3 := HB3.out
  rw [← HCV.out] at hB3
  obtain ⟨c0, c1, c2, c3⟩ := ch_cell hB3
  clear hE hB3
  go_wp2
  go_loopw [3] (fun i wr => ∃ k : Nat, k ≤ tn ∧ i = .int .i64 (k : Int) ∧ wr = w3) (fun i _ => tn - (intOf i).toNat)
  case atStart => exact ⟨0, Nat.zero_le _, rfl, rfl⟩
  case round =>
    obtain ⟨k, hk, rfl, rfl⟩ := hrel
    by_cases hlt : k < tn
    · have x1 : (k : Int) < (tn : Int) := by omega
      obtain ⟨bt, offt, rfl, hcell⟩ := (Hs.out.ext HE3.out).at_ (by omega)
      have hck := hcell k hlt
      obtain ⟨S, hS⟩ : ∃ S, ss.getD k ByteArray.empty = S := ⟨_, rfl⟩
      rw [hS] at hck
      clear hcell hS
      by_cases h100 : 100 < S.size
      · have x2 : (100 : Int) < (S.size : Int) := by omega
        clear h100
        go_wp2
        go_ret
        exact ⟨rfl, HE3.out⟩
      · have x2 : ¬ (100 : Int) < (S.size : Int) := by omega
        clear h100
        go_wp2
        go_roundw
        case rel => exact ⟨k + 1, by omega, by go_num, by first | rfl | trivial⟩
        case measure => simp [intOf]; omega
    · obtain rfl : k = tn := by omega
      have x1 : ¬ (k : Int) < (k : Int) := by omega
      cases hform : changeB op nm ss va with
      | false =>
        rw [hform] at HFo HRf
        have HBad2 := Lib.hid (HBad.out hform)
        clear hform HBad HGood
        go_wp2_with (refine wpList_load_rowW rfl 24 _ rfl g rfl _ _ _ _ HB3.out Try.underlying24 rfl (by rw [Hsz.out]; kernel_rfl) ?_)
        refine (HBad2.out wr HE3.out).mono ?_
        rintro e w4 ⟨rfl, hE⟩
        have HB4 := Lib.hid (hE.keep HB3.out)
        have HE4 := Lib.hid (HE3.out.trans hE)
        clear c0 c1 c2 c3
        clear hE
        go_wp2_with (refine wpList_load_rowW rfl 24 _ rfl g rfl _ _ _ _ HB4.out Try.underlying24 rfl (by rw [Hsz.out]; kernel_rfl) ?_)
        refine (HRf.out w4 HE4.out).mono ?_
        rintro e w5 ⟨rfl, hE⟩
        have HB5 := Lib.hid (hE.keep HB4.out)
        have HE5 := Lib.hid (HE4.out.trans hE)
        clear hE
        go_wp2_with (refine wpList_load_rowW rfl 24 _ rfl g rfl _ _ _ _ HB5.out Try.underlying24 rfl (by rw [Hsz.out]; kernel_rfl) ?_)
        refine (HFo.out w5 HE5.out).mono ?_
        rintro e w6 ⟨rfl, hE⟩
        have HB6 := Lib.hid (hE.keep HB5.out)
        have HE6 := Lib.hid (HE5.out.trans hE)
        clear hE
        go_wp2
        go_ret
        exact ⟨rfl, HE6.out⟩
      | true =>
        rw [hform] at HFo HRf
        have HGood2 := Lib.hid (HGood.out hform)
        obtain ⟨k1, k2, k3, k4, k5⟩ := chOk_fwd hform
        obtain ⟨⟨ho1, ho2⟩, hns, hts, htg, hvs⟩ := changeB_bd hform
        have hXb := chgL_byte (show 0 ≤ op by omega) nm ss va
        have hXl : (chgL op nm ss va).length ≤ 1000 := by
          have h1 := tagsL_le ss ss.length htg ss.length (Nat.le_refl _)
          have h2 := textL_le (strB nm)
          have h3 := textL_le (strB va)
          have h4 := numL_length_le op
          have h5 := numL_length_le (ss.length : Int)
          rw [strB_length] at h2 h3
          unfold chgL
          simp only [List.length_append]
          omega
        have HBy := Lib.hid (show ∀ w9, Ext w w9 → Calls Try.prog 13 #[.agg CV] w9 fun e w' => ∃ v, e = .returned v ∧ (∃ q c, v = .slice q (chgL op nm ss va).length c ∧ BsAt w' q (chgL op nm ss va).length c (chgL op nm ss va)) ∧ Ext w9 w' from fun w9 h9 => by
          have h1 := refPackCh_any op nm ta k tc ss va w9 hform (Hs.out.ext h9)
          rw [HCV.out] at h1
          refine h1.mono ?_
          rintro e w' ⟨v, rfl, hown, hE⟩
          obtain ⟨q, cc, rfl, hc1, hc2⟩ := owns_slice hown
          exact ⟨_, rfl, ⟨q, cc, rfl, owns_bs hown hXb (by unfold maxLen at hc2; omega) (by omega)⟩, hE⟩)
        have HOk := Lib.hid k1
        have HO := Lib.hid (And.intro k2 (And.intro k3 (And.intro k4 k5)))
        obtain ⟨X, hX⟩ : ∃ X, chgL op nm ss va = X := ⟨_, rfl⟩
        rw [hX] at HOk HO HBy HGood2
        clear hform HBad HGood k1 k2 k3 k4 k5 hX htg hXb hXl
        go_wp2_with (refine wpList_load_rowW rfl 24 _ rfl g rfl _ _ _ _ HB3.out Try.underlying24 rfl (by rw [Hsz.out]; kernel_rfl) ?_)
        refine (HGood2.out wr HE3.out).mono ?_
        rintro e w4 ⟨q, N, cq, rfl, hq, hE⟩
        have HB4 := Lib.hid (hE.keep HB3.out)
        have HE4 := Lib.hid (HE3.out.trans hE)
        have HQ4 := Lib.hid hq
        clear hq
        clear hE
        go_wp2_with (refine wpList_load_rowW rfl 24 _ rfl g rfl _ _ _ _ HB4.out Try.underlying24 rfl (by rw [Hsz.out]; kernel_rfl) ?_)
        refine (HRf.out w4 HE4.out).mono ?_
        rintro e w5 ⟨rfl, hE⟩
        have HB5 := Lib.hid (hE.keep HB4.out)
        have HE5 := Lib.hid (HE4.out.trans hE)
        have HQ5 := Lib.hid (HQ4.out.ext hE)
        clear hE
        go_wp2_with (refine wpList_load_rowW rfl 24 _ rfl g rfl _ _ _ _ HB5.out Try.underlying24 rfl (by rw [Hsz.out]; kernel_rfl) ?_)
        refine (HFo.out w5 HE5.out).mono ?_
        rintro e w6 ⟨rfl, hE⟩
        have HB6 := Lib.hid (hE.keep HB5.out)
        have HE6 := Lib.hid (HE5.out.trans hE)
        have HQ6 := Lib.hid (HQ5.out.ext hE)
        clear hE
        go_wp2_with fail
        refine (parseCh_any q N cq X w6 HQ6.out).mono ?_
        rintro e w7 ⟨⟨v, rfl, hC⟩, hE⟩
        rw [HOk.out] at hC ⊢
        simp only [if_true] at hC ⊢
        rw [HO.out.1, HO.out.2.1, HO.out.2.2.1, HO.out.2.2.2] at hC
        obtain ⟨ta', tn', tc', rfl, hs'⟩ := hC
        have htn' : tn' = k := by rw [← hs'.len, Hlen.out]
        subst htn'
        have HQ7 := Lib.hid (HQ6.out.ext hE)
        have HE7 := Lib.hid (HE6.out.trans hE)
        have HB7 := Lib.hid (hE.keep HB6.out)
        have HSa := Lib.hid (show ∀ w9, Ext w7 w9 → Calls Try.prog 14 #[.agg CV, .agg (chV op nm (.slice ta' tn' tc') va)] w9 fun e w' => e = .returned (.bool true) ∧ Ext w9 w' from fun w9 h9 => by
          have h1 := sameCh_any op nm ta ta' tn' tc tc' ss va w9 ((Hs.out.ext HE7.out).ext h9) (hs'.ext h9)
          rw [HCV.out] at h1
          exact h1)
        obtain ⟨DV, hDV⟩ : ∃ DV, chV op nm (.slice ta' tn' tc') va = DV := ⟨_, rfl⟩
        have hdz : DV.size = 4 := by rw [← hDV]; rfl
        have hall : DV.all (·.oneCell') = true := by rw [← hDV]; exact chV_one _ _ _ _ _ _
        rw [hDV] at HSa ⊢
        have Hdz := Lib.hid hdz
        have Hall := Lib.hid hall
        clear hs' hE hDV hdz hall HOk HO c0 c1 c2 c3
        go_upto_region 15 with (refine wpList_store_row rfl 24 _ _ rfl w7.heap.size _ rfl rfl _ _ (heap_new w7 _ _ rfl) (by rw [Hdz.out]; kernel_rfl) (by rw [Hdz.out]; rfl) Hall.out ?_; rw [setRow_new w7 _ _ _ _ rfl])
        obtain ⟨w9, hw9⟩ : ∃ w9, w7.alloc (.cells DV 24) = w9 := ⟨_, rfl⟩
        have hE9 : Ext w7 w9 := by rw [← hw9]; exact (Ext.refl w7).alloc _
        obtain ⟨g6, hg6⟩ : ∃ g, w7.heap.size = g := ⟨_, rfl⟩
        have hD9 : w9.heap[g6]? = some (.cells DV 24 (0, 0)) := by rw [← hw9]; exact heap_new w7 _ _ hg6.symm
        refine wp_world (w' := w9) hw9 ?_
        rw [hg6]
        have HB8 := Lib.hid (hE9.keep HB7.out)
        have HD8 := Lib.hid hD9
        have HQ := Lib.hid (HQ7.out.ext hE9)
        have HSa := Lib.hid (show ∀ w10, Ext w9 w10 → _ from fun w10 h10 => HSa.out w10 (hE9.trans h10))
        have HE9 := Lib.hid (HE7.out.trans hE9)
        have HBy := Lib.hid (show ∀ w10, Ext w9 w10 → _ from fun w10 h10 => HBy.out w10 (HE9.out.trans h10))
        have HX0 := Lib.hid (show ∀ x, Ext w9.drew x → Ext w9 x from fun x hx => Ext.trans (Ext.refl w9).drew hx)
        clear hw9 hE9 hg6 hD9
        refine wp_region_lexA (by kernel_rfl) (by kernel_rfl) ?_
        refine lx_e (.int .i64 0) [] (by kernel_rfl) rfl (by rfl) (fun w1 hw1 => ?_) ?_
        · simp only [pk, lexVals]
          go_simp
          exact ⟨Ext.refl _, rfl⟩
        refine lx_e (.bool true) [(0, 69)] (by kernel_rfl) rfl (by rfl) (fun w1 hw1 => ?_) ?_
        · simp only [pk, nthSp, lexVals]
          go_simp
          exact ⟨Ext.refl _, rfl⟩
        refine lx_e (.bool true) [(0, 70)] (by kernel_rfl) rfl (by rfl) (fun w1 hw1 => ?_) ?_
        · simp only [pk, nthSp, lexVals]
          go_simp
          exact ⟨Ext.refl _, rfl⟩
        refine lx_ge (.int .i64 0) [(0, 71)] 71 (by kernel_rfl) rfl (by kernel_rfl) (by rfl) (fun w1 => ?_) (fun w1 hw1 => ?_) ?_
        · simp only [pk, nthSp, lexVals]
          rfl
        · simp only [pk, nthSp, lexVals]
          go_simp
          exact ⟨Ext.refl _, rfl⟩
        refine lx_ge (.bool true) [(0, 72), (1, 71)] 71 (by kernel_rfl) rfl (by kernel_rfl) (by rfl) (fun w1 => ?_) (fun w1 hw1 => ?_) ?_
        · simp only [pk, nthSp, lexVals]
          rfl
        · simp only [pk, nthSp, lexVals]
          go_simp
          exact ⟨Ext.refl _, rfl⟩
        refine lx_e (.bool true) [(2, 71), (0, 73)] (by kernel_rfl) rfl (by rfl) (fun w1 hw1 => ?_) ?_
        · simp only [pk, nthSp, lexVals]
          go_simp
          exact ⟨Ext.refl _, rfl⟩
        refine lx_e (.bool true) [(0, 74)] (by kernel_rfl) rfl (by rfl) (fun w1 hw1 => ?_) ?_
        · simp only [pk, nthSp, lexVals]
          go_simp
          exact ⟨Ext.refl _, rfl⟩
        refine lx_ge (.slice q N cq) [(0, 75)] 75 (by kernel_rfl) rfl (by kernel_rfl) (by rfl) (fun w1 => ?_) (fun w1 hw1 => ?_) ?_
        · simp only [pk, nthSp, lexVals]
          rfl
        · simp only [pk, nthSp, lexVals]
          go_simp
          exact ⟨Ext.refl _, rfl⟩
        refine lx_ge (.string (strOf X)) [(0, 76), (1, 75)] 75 (by kernel_rfl) rfl (by kernel_rfl) (by rfl) (fun w1 => ?_) (fun w1 hw1 => ?_) ?_
        · simp only [pk, nthSp, lexVals]
          rfl
        · simp only [pk, nthSp, lexVals]
          exact lu_str rfl rfl (HQ.out.ext (HX0.out w1 hw1))
        refine lx_ge (.agg CV) [(2, 75)] 75 (by kernel_rfl) rfl (by kernel_rfl) (by rfl) (fun w1 => ?_) (fun w1 hw1 => ?_) ?_
        · simp only [pk, nthSp, lexVals]
          rfl
        · simp only [pk, nthSp, lexVals]
          exact lu_row rfl rfl ((HX0.out w1 hw1).keep HB8.out) Try.underlying24 rfl (by rw [Hsz.out]; kernel_rfl)
        refine lx_ga (fun u w => ∃ q c, u = .slice q X.length c ∧ BsAt w q X.length c X) [(0, 78), (3, 75)] 75 (by kernel_rfl) rfl (by kernel_rfl) (by rfl) (fun u w w' he ⟨q, c, h1, h2⟩ => ⟨q, c, h1, h2.ext he⟩) (fun w1 => ?_) (fun w1 hw1 => ?_) ?_
        · simp only [pk, nthSp, lexVals]
          rfl
        · simp only [pk, nthSp, lexVals]
          have HM := Lib.hid (HBy.out w1 (HX0.out w1 hw1))
          clear hw1
          go_simp
          refine HM.out.mono ?_
          rintro e w2 ⟨v2, rfl, hs, hE2⟩
          exact ⟨_, rfl, hE2, hs⟩
        refine lx_ge (.string (strOf X)) [(0, 79), (4, 75)] 75 (by kernel_rfl) rfl (by kernel_rfl) (by rfl) (fun w1 => ?_) (fun w1 hw1 => ?_) ?_
        · simp only [pk, nthSp, lexVals]
          rintro u79 ⟨q79, c79, rfl, -⟩
          rfl
        · simp only [pk, nthSp, lexVals]
          rintro u79 ⟨q79, c79, rfl, h79⟩
          exact lu_str rfl rfl h79
        refine lx_ge (.bool true) [(3, 77), (0, 80), (5, 75)] 75 (by kernel_rfl) rfl (by kernel_rfl) (by rfl) (fun w1 => ?_) (fun w1 hw1 => ?_) ?_
        · simp only [pk, nthSp, lexVals]
          rfl
        · simp only [pk, nthSp, lexVals]
          go_simp
          exact ⟨Ext.refl _, rfl⟩
        refine lx_e (.bool true) [(6, 75), (0, 81)] (by kernel_rfl) rfl (by rfl) (fun w1 hw1 => ?_) ?_
        · simp only [pk, nthSp, lexVals]
          go_simp
          exact ⟨Ext.refl _, rfl⟩
        refine lx_e (.bool true) [(0, 82)] (by kernel_rfl) rfl (by rfl) (fun w1 hw1 => ?_) ?_
        · simp only [pk, nthSp, lexVals]
          go_simp
          exact ⟨Ext.refl _, rfl⟩
        refine lx_ge (.agg CV) [(0, 83)] 83 (by kernel_rfl) rfl (by kernel_rfl) (by rfl) (fun w1 => ?_) (fun w1 hw1 => ?_) ?_
        · simp only [pk, nthSp, lexVals]
          rfl
        · simp only [pk, nthSp, lexVals]
          exact lu_row rfl rfl ((HX0.out w1 hw1).keep HB8.out) Try.underlying24 rfl (by rw [Hsz.out]; kernel_rfl)
        refine lx_ge (.agg DV) [(1, 83)] 83 (by kernel_rfl) rfl (by kernel_rfl) (by rfl) (fun w1 => ?_) (fun w1 hw1 => ?_) ?_
        · simp only [pk, nthSp, lexVals]
          rfl
        · simp only [pk, nthSp, lexVals]
          exact lu_row rfl rfl ((HX0.out w1 hw1).keep HD8.out) Try.underlying24 rfl (by rw [Hdz.out]; kernel_rfl)
        refine lx_ge (.bool true) [(1, 84), (0, 85), (2, 83)] 83 (by kernel_rfl) rfl (by kernel_rfl) (by rfl) (fun w1 => ?_) (fun w1 hw1 => ?_) ?_
        · simp only [pk, nthSp, lexVals]
          rfl
        · simp only [pk, nthSp, lexVals]
          have HM := Lib.hid (HSa.out w1 (HX0.out w1 hw1))
          clear hw1
          go_simp
          refine HM.out.mono ?_
          rintro e w2 ⟨rfl, hE2⟩
          exact ⟨_, rfl, hE2, rfl⟩
        refine lx_e (.bool true) [(3, 83), (0, 86)] (by kernel_rfl) rfl (by rfl) (fun w1 hw1 => ?_) ?_
        · simp only [pk, nthSp, lexVals]
          go_simp
          exact ⟨Ext.refl _, rfl⟩
        refine lx_e (.bool true) [(0, 87)] (by kernel_rfl) rfl (by rfl) (fun w1 hw1 => ?_) ?_
        · simp only [pk, nthSp, lexVals]
          go_simp
          exact ⟨Ext.refl _, rfl⟩
        refine lx_stopA (by rfl) fun w10 hw10 => ?_
        have HE10 := Lib.hid (HE9.out.trans (HX0.out w10 hw10))
        clear hw10
        simp only [rv, pf, lexVals]
        rintro v1 ⟨q1, c1, rfl, -⟩
        simp only [Act.put, List.setIfInBounds_toArray, List.set_cons_zero, List.set_cons_succ]
        go_wp2
        go_ret
        exact ⟨rfl, HE10.out⟩

end Go.Proofs.Ytppidlpblkihbaa
