/-
  The walk of entry.Formed. No conditions.
-/
import Derived.Test.YtldaligeckjhaaaPlaced
namespace Go.Proofs.Ytldaligeckjhaaa
open Go.ChangeShapes Go.WideShapes Go.ChangeAt Go.RowKit

theorem isB_wrap (s : Int) (h : -9223372036854775808 ≤ s ∧ s ≤ 9223372036854775807) : isB (IntKind.i64.wrap (s - 16)) = isB (s - 16) := by
  by_cases h1 : -9223372036854775792 ≤ s
  · rw [show IntKind.i64.wrap (s - 16) = s - 16 by rw [IntKind.wrap_i64]; omega]
  · have h2 : IntKind.i64.wrap (s - 16) = s - 16 + 18446744073709551616 := by rw [IntKind.wrap_i64]; omega
    rw [h2]
    unfold isB
    rw [decide_eq_false (by omega), decide_eq_false (by omega)]

set_option maxHeartbeats 4000000 in
set_option maxRecDepth 100000 in
theorem formedHd_any (h : Hd) (ts : List (Nat → Int)) (w : World) (ho : HdOk h) (ht : TsAt w h.ta h.tn h.tc ts) :
    Calls Try.prog 39 #[.agg (hdV h)] w fun e w' => e = .returned (.bool (hdB h ts)) ∧ Ext w w' := by
  obtain ⟨w2, hw2⟩ : ∃ w2, w.alloc (.cells (hdV h) 31) = w2 := ⟨_, rfl⟩
  have hE2 : Ext w w2 := by rw [← hw2]; exact (Ext.refl w).alloc _
  have hB2 : w2.heap[w.heap.size]? = some (.cells (hdV h) 31 (0, 0)) := by rw [← hw2]; exact heap_new w _ _ rfl
  have Hw2 := Lib.hid hw2
  have HE2 := Lib.hid hE2
  obtain ⟨g, hg⟩ : ∃ g, w.heap.size = g := ⟨_, rfl⟩
  rw [hg] at hB2
  have HB2 := Lib.hid hB2
  have Hg := Lib.hid hg
  have HP := Lib.hid (placed_any h w2 ho)
  have HT := Lib.hid ht
  have hsm := ht.small
  have Hsz := Lib.hid (hdV_size h)
  obtain ⟨M, hM⟩ : ∃ M, IntKind.i64.wrap (h.size - 16) = M := ⟨_, rfl⟩
  have hMb : -9223372036854775808 ≤ M ∧ M ≤ 9223372036854775807 := by rw [← hM, IntKind.wrap_i64]; omega
  have HI := Lib.hid (fun w => padIs_any M w hMb.1 hMb.2)
  have HR := Lib.hid (show hdB h ts = (placedB h && decide (h.tn ≤ 8) && risesB ts && isB M && (!h.ctl || (decide (h.tn = 0) && zeroB 16 h.item))) by rw [← hM, isB_wrap h.size ho.size]; rfl)
  obtain ⟨R, hR⟩ : ∃ R, hdB h ts = R := ⟨_, rfl⟩
  rw [hR] at HR ⊢
  have HM := Lib.hid hM
  have hz := zero_t16
  have he := fun w => eql_t16 w h.item
  obtain ⟨tn, htn⟩ : ∃ n, h.tn = n := ⟨_, rfl⟩
  obtain ⟨ctl, hctl⟩ : ∃ c, h.ctl = c := ⟨_, rfl⟩
  have Htn := Lib.hid htn
  have Hctl := Lib.hid hctl
  have HSt := Lib.hid (show ∀ w', Ext w w' → Calls Try.prog 69 #[.slice h.ta tn h.tc] w' fun e w'' => e = .returned (.bool (risesB ts)) ∧ Ext w' w'' from fun w' h' => by
    have := sorted_any h.ta h.tn h.tc ts w' (ht.ext h')
    rw [htn] at this
    exact this)
  rw [htn] at HR hsm
  rw [hctl] at HR
  clear hw2 hE2 hB2 hg ho ht hM hMb hR htn hctl
  cases hp : placedB h with
  | false =>
    rw [hp] at HP HR
    clear hp
    have HF := Lib.hid (show R = false by rw [HR.out]; simp)
    clear HR
    go_enter Try.func39, Try.ntmps39
    go_upto_region 1 with (fail)
    refine wp_world (w' := w2) Hw2.out ?_
    rw [Hg.out]
    clear Hw2
    go_wp2_with (refine wpList_load_rowW rfl 31 _ rfl g rfl _ _ _ _ HB2.out Try.underlying31 rfl (by rw [Hsz.out]; kernel_rfl) ?_)
    refine HP.out.mono ?_
    rintro e w3 ⟨rfl, hE⟩
    have HE3 := Lib.hid (HE2.out.trans hE)
    have HB3 := Lib.hid (hE.keep HB2.out)
    have c53 := hd_toks HB3.out
    rw [Htn.out] at c53
    clear hE
    go_wp2
    go_ret
    exact ⟨by rw [HF.out]; rfl, HE3.out⟩
  | true =>
    rw [hp] at HP HR
    clear hp
    by_cases h8 : 8 < tn
    · have x8 : (8 : Int) < (tn : Int) := by omega
      have HF := Lib.hid (show R = false by rw [HR.out, decide_eq_false (by omega : ¬ tn ≤ 8)]; simp)
      clear HR
      go_enter Try.func39, Try.ntmps39
      go_upto_region 1 with (fail)
      refine wp_world (w' := w2) Hw2.out ?_
      rw [Hg.out]
      clear Hw2
      go_wp2_with (refine wpList_load_rowW rfl 31 _ rfl g rfl _ _ _ _ HB2.out Try.underlying31 rfl (by rw [Hsz.out]; kernel_rfl) ?_)
      refine HP.out.mono ?_
      rintro e w3 ⟨rfl, hE⟩
      have HE3 := Lib.hid (HE2.out.trans hE)
      have HB3 := Lib.hid (hE.keep HB2.out)
      have c53 := hd_toks HB3.out
      rw [Htn.out] at c53
      clear hE
      go_wp2
      go_ret
      exact ⟨by rw [HF.out]; rfl, HE3.out⟩
    have x8 : ¬ (8 : Int) < (tn : Int) := by omega
    have HR := Lib.hid (show R = (risesB ts && isB M && (!ctl || (decide (tn = 0) && zeroB 16 h.item))) by rw [HR.out, decide_eq_true (by omega : tn ≤ 8)]; simp)
    cases hr : risesB ts with
    | false =>
      rw [hr] at HSt HR
      clear hr
      have HF := Lib.hid (show R = false by rw [HR.out]; simp)
      clear HR
      go_enter Try.func39, Try.ntmps39
      go_upto_region 1 with (fail)
      refine wp_world (w' := w2) Hw2.out ?_
      rw [Hg.out]
      clear Hw2
      go_wp2_with (refine wpList_load_rowW rfl 31 _ rfl g rfl _ _ _ _ HB2.out Try.underlying31 rfl (by rw [Hsz.out]; kernel_rfl) ?_)
      refine HP.out.mono ?_
      rintro e w3 ⟨rfl, hE⟩
      have HE3 := Lib.hid (HE2.out.trans hE)
      have HB3 := Lib.hid (hE.keep HB2.out)
      have c53 := hd_toks HB3.out
      rw [Htn.out] at c53
      clear hE
      go_wp2_with fail
      refine (HSt.out w3 HE3.out).mono ?_
      rintro e w4 ⟨rfl, hE⟩
      have HE4 := Lib.hid (HE3.out.trans hE)
      have HB4 := Lib.hid (hE.keep HB3.out)
      have c92 := hd_size HB4.out
      have hM := HM.out
      clear hE c53
      go_wp2
      go_ret
      exact ⟨by rw [HF.out]; rfl, HE4.out⟩
    | true =>
      rw [hr] at HSt HR
      clear hr
      cases hi : isB M with
      | false =>
        rw [hi] at HI HR
        clear hi
        have HF := Lib.hid (show R = false by rw [HR.out]; simp)
        clear HR
        go_enter Try.func39, Try.ntmps39
        go_upto_region 1 with (fail)
        refine wp_world (w' := w2) Hw2.out ?_
        rw [Hg.out]
        clear Hw2
        go_wp2_with (refine wpList_load_rowW rfl 31 _ rfl g rfl _ _ _ _ HB2.out Try.underlying31 rfl (by rw [Hsz.out]; kernel_rfl) ?_)
        refine HP.out.mono ?_
        rintro e w3 ⟨rfl, hE⟩
        have HE3 := Lib.hid (HE2.out.trans hE)
        have HB3 := Lib.hid (hE.keep HB2.out)
        have c53 := hd_toks HB3.out
        rw [Htn.out] at c53
        clear hE
        go_wp2_with fail
        refine (HSt.out w3 HE3.out).mono ?_
        rintro e w4 ⟨rfl, hE⟩
        have HE4 := Lib.hid (HE3.out.trans hE)
        have HB4 := Lib.hid (hE.keep HB3.out)
        have c92 := hd_size HB4.out
        have hM := HM.out
        clear hE c53
        go_wp2_with fail
        refine (HI.out w4).mono ?_
        rintro e w5 ⟨rfl, rfl⟩
        have c35 := hd_ctl HB4.out
        have c53 := hd_toks HB4.out
        rw [Htn.out] at c53
        rw [Hctl.out] at c35
        have Hit := Lib.hid (hd_item HB4.out)
        clear hM c92
        go_wp2
        go_ret
        exact ⟨by rw [HF.out]; rfl, HE4.out⟩
      | true =>
        rw [hi] at HI HR
        clear hi
        cases ctl with
        | false =>
          have HF := Lib.hid (show R = true by rw [HR.out]; simp)
          clear HR
          go_enter Try.func39, Try.ntmps39
          go_upto_region 1 with (fail)
          refine wp_world (w' := w2) Hw2.out ?_
          rw [Hg.out]
          clear Hw2
          go_wp2_with (refine wpList_load_rowW rfl 31 _ rfl g rfl _ _ _ _ HB2.out Try.underlying31 rfl (by rw [Hsz.out]; kernel_rfl) ?_)
          refine HP.out.mono ?_
          rintro e w3 ⟨rfl, hE⟩
          have HE3 := Lib.hid (HE2.out.trans hE)
          have HB3 := Lib.hid (hE.keep HB2.out)
          have c53 := hd_toks HB3.out
          rw [Htn.out] at c53
          clear hE
          go_wp2_with fail
          refine (HSt.out w3 HE3.out).mono ?_
          rintro e w4 ⟨rfl, hE⟩
          have HE4 := Lib.hid (HE3.out.trans hE)
          have HB4 := Lib.hid (hE.keep HB3.out)
          have c92 := hd_size HB4.out
          have hM := HM.out
          clear hE c53
          go_wp2_with fail
          refine (HI.out w4).mono ?_
          rintro e w5 ⟨rfl, rfl⟩
          have c35 := hd_ctl HB4.out
          have c53 := hd_toks HB4.out
          rw [Htn.out] at c53
          rw [Hctl.out] at c35
          have Hit := Lib.hid (hd_item HB4.out)
          clear hM c92
          go_wp2
          go_ret
          exact ⟨by rw [HF.out]; rfl, HE4.out⟩
        | true =>
          by_cases h0 : tn = 0
          · subst h0
            have HF := Lib.hid (show R = zeroB 16 h.item by rw [HR.out]; simp)
            clear HR
            go_enter Try.func39, Try.ntmps39
            go_upto_region 1 with (fail)
            refine wp_world (w' := w2) Hw2.out ?_
            rw [Hg.out]
            clear Hw2
            go_wp2_with (refine wpList_load_rowW rfl 31 _ rfl g rfl _ _ _ _ HB2.out Try.underlying31 rfl (by rw [Hsz.out]; kernel_rfl) ?_)
            refine HP.out.mono ?_
            rintro e w3 ⟨rfl, hE⟩
            have HE3 := Lib.hid (HE2.out.trans hE)
            have HB3 := Lib.hid (hE.keep HB2.out)
            have c53 := hd_toks HB3.out
            rw [Htn.out] at c53
            clear hE
            go_wp2_with fail
            refine (HSt.out w3 HE3.out).mono ?_
            rintro e w4 ⟨rfl, hE⟩
            have HE4 := Lib.hid (HE3.out.trans hE)
            have HB4 := Lib.hid (hE.keep HB3.out)
            have c92 := hd_size HB4.out
            have hM := HM.out
            clear hE c53
            go_wp2_with fail
            refine (HI.out w4).mono ?_
            rintro e w5 ⟨rfl, rfl⟩
            have c35 := hd_ctl HB4.out
            have c53 := hd_toks HB4.out
            rw [Htn.out] at c53
            rw [Hctl.out] at c35
            have Hit := Lib.hid (hd_item HB4.out)
            clear hM c92
            go_wp2_with (refine wp_sub rfl 27 _ rfl g 37 16 (fun j => .int .u8 (h.item j)) rfl Try.underlying27 (size_tok _) Hit.out ?_)
            go_ret
            exact ⟨by rw [HF.out]; rfl, HE4.out⟩
          · have x0 : ¬ (tn : Int) = 0 := by omega
            have x0' : ((tn : Int) == 0) = false := by simpa using x0
            have HF := Lib.hid (show R = false by rw [HR.out, decide_eq_false h0]; simp)
            clear HR
            go_enter Try.func39, Try.ntmps39
            go_upto_region 1 with (fail)
            refine wp_world (w' := w2) Hw2.out ?_
            rw [Hg.out]
            clear Hw2
            go_wp2_with (refine wpList_load_rowW rfl 31 _ rfl g rfl _ _ _ _ HB2.out Try.underlying31 rfl (by rw [Hsz.out]; kernel_rfl) ?_)
            refine HP.out.mono ?_
            rintro e w3 ⟨rfl, hE⟩
            have HE3 := Lib.hid (HE2.out.trans hE)
            have HB3 := Lib.hid (hE.keep HB2.out)
            have c53 := hd_toks HB3.out
            rw [Htn.out] at c53
            clear hE
            go_wp2_with fail
            refine (HSt.out w3 HE3.out).mono ?_
            rintro e w4 ⟨rfl, hE⟩
            have HE4 := Lib.hid (HE3.out.trans hE)
            have HB4 := Lib.hid (hE.keep HB3.out)
            have c92 := hd_size HB4.out
            have hM := HM.out
            clear hE c53
            go_wp2_with fail
            refine (HI.out w4).mono ?_
            rintro e w5 ⟨rfl, rfl⟩
            have c35 := hd_ctl HB4.out
            have c53 := hd_toks HB4.out
            rw [Htn.out] at c53
            rw [Hctl.out] at c35
            have Hit := Lib.hid (hd_item HB4.out)
            clear hM c92
            go_wp2
            go_ret
            exact ⟨by rw [HF.out]; rfl, HE4.out⟩

end Go.Proofs.Ytldaligeckjhaaa
