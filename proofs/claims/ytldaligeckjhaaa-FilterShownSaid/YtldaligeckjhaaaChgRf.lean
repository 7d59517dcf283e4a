/-
  The walks of jalousieref12.name and FormedChange: they answer what entry's do. No conditions.
-/
import Derived.Test.YtldaligeckjhaaaChgF
import Derived.Test.YtldaligeckjhaaaLexP
namespace Go.Proofs.Ytldaligeckjhaaa
open Go.ChangeShapes Go.WideShapes Go.ChangeAt Go.RowKit

set_option maxRecDepth 100000 in
theorem refname_any (s : ByteArray) (w : World) (hs : s.size ≤ 9223372036854775807) : Calls Try.prog 57 #[.string s] w fun e w' => e = .returned (.bool (nameB s)) ∧ w' = w := by
  by_cases h1 : 1 ≤ s.size
  · have x1 : (1 : Int) ≤ (s.size : Int) := by omega
    have hb : nameB s = decide ((s.size : Int) ≤ 24) := by unfold nameB; by_cases h : s.size ≤ 24 <;> simp [h, h1] <;> omega
    have HB := Lib.hid hb
    clear hb
    go_enter Try.func57, Try.ntmps57
    go_wp2_with fail
    go_ret
    exact ⟨by rw [HB.out]; rfl, rfl⟩
  · have x1 : ¬ (1 : Int) ≤ (s.size : Int) := by omega
    have hb : nameB s = false := by unfold nameB; simp; omega
    have HB := Lib.hid hb
    clear hb
    go_enter Try.func57, Try.ntmps57
    go_wp2_with fail
    go_ret
    exact ⟨by rw [HB.out]; rfl, rfl⟩

set_option maxHeartbeats 4000000 in
set_option maxRecDepth 100000 in
theorem refFormedCh_any (op : Int) (name : ByteArray) (ta : Option Addr) (tn tc : Nat) (ss : List ByteArray) (value : ByteArray) (w : World) (h : SsAt w ta tn tc ss) (hn : name.size ≤ 9223372036854775807) (hv : value.size ≤ 9223372036854775807) (hs : ∀ s ∈ ss, s.size ≤ 9223372036854775807) :
    Calls Try.prog 31 #[.agg (chV op name (.slice ta tn tc) value)] w fun e w' => e = .returned (.bool (changeB op name ss value)) ∧ Ext w w' := by
  obtain ⟨w2, hw2⟩ : ∃ w2, w.alloc (.cells (chV op name (.slice ta tn tc) value) 34) = w2 := ⟨_, rfl⟩
  have hE2 : Ext w w2 := by rw [← hw2]; exact (Ext.refl w).alloc _
  have hB2 : w2.heap[w.heap.size]? = some (.cells (chV op name (.slice ta tn tc) value) 34 (0, 0)) := by rw [← hw2]; exact heap_new w _ _ rfl
  have HN0 := Lib.hid (refname_any name w2 hn)
  have Hw2 := Lib.hid hw2
  have HE2 := Lib.hid hE2
  have Hl := Lib.hid h.len
  have H := Lib.hid h
  have hsm := h.small
  have Hs := Lib.hid (show ∀ i, (ss.getD i ByteArray.empty).size ≤ 9223372036854775807 by
    intro i
    by_cases hi : i < ss.length
    · rw [List.getD_eq_getElem?_getD, List.getElem?_eq_getElem hi]
      exact hs _ (List.getElem_mem hi)
    · rw [List.getD_eq_getElem?_getD, List.getElem?_eq_none (by omega)]
      decide)
  obtain ⟨g, hg⟩ : ∃ g, w.heap.size = g := ⟨_, rfl⟩
  rw [hg] at hB2
  have HB := Lib.hid hB2
  obtain ⟨c0, c1, c2, c3⟩ := ch_cell hB2
  have Hg := Lib.hid hg
  have HRes := Lib.hid (show changeB op name ss value = (nameB name && (tagsN ss tn && decide (tn ≤ 8)) && decide (value.size ≤ 512) && (if op = 2 then decide (tn = 0 ∧ value.size = 0) else if op = 3 then decide (value.size = 0) else decide (op = 1))) by unfold changeB tagsB; rw [h.len])
  clear hw2 hE2 hB2 hg h hs
  obtain ⟨R, hR⟩ : ∃ R, changeB op name ss value = R := ⟨_, rfl⟩
  rw [hR] at HRes ⊢
  clear hR
  by_cases hlo : op < 1
  · skip
    have e3 : (if op = 2 then decide (tn = 0 ∧ value.size = 0) else if op = 3 then decide (value.size = 0) else decide (op = 1)) = false := by rw [if_neg (by omega), if_neg (by omega)]; exact decide_eq_false (by omega)
    have hR : R = false := by rw [HRes.out, e3]; simp
    clear e3
    have HR := Lib.hid hR
    clear hR HRes
    go_enter Try.func31, Try.ntmps31
    go_upto_region 1 with (fail)
    refine wp_world (w' := w2) Hw2.out ?_
    rw [Hg.out]
    clear Hw2
    go_wp2
    go_ret
    exact ⟨by rw [HR.out]; rfl, HE2.out⟩
  by_cases hhi : 3 < op
  · skip
    have e3 : (if op = 2 then decide (tn = 0 ∧ value.size = 0) else if op = 3 then decide (value.size = 0) else decide (op = 1)) = false := by rw [if_neg (by omega), if_neg (by omega)]; exact decide_eq_false (by omega)
    have hR : R = false := by rw [HRes.out, e3]; simp
    clear e3
    have HR := Lib.hid hR
    clear hR HRes
    go_enter Try.func31, Try.ntmps31
    go_upto_region 1 with (fail)
    refine wp_world (w' := w2) Hw2.out ?_
    rw [Hg.out]
    clear Hw2
    go_wp2
    go_ret
    exact ⟨by rw [HR.out]; rfl, HE2.out⟩
  cases hnm0 : nameB name with
  | false =>
    rw [hnm0] at HN0 HRes
    clear hnm0
    have hR : R = false := by rw [HRes.out]; simp
    have HR := Lib.hid hR
    clear hR HRes
    go_enter Try.func31, Try.ntmps31
    go_upto_region 1 with (fail)
    refine wp_world (w' := w2) Hw2.out ?_
    rw [Hg.out]
    clear Hw2
    go_wp2_with fail
    refine HN0.out.mono ?_
    rintro e w3 ⟨rfl, rfl⟩
    go_wp2
    go_ret
    exact ⟨by rw [HR.out]; rfl, HE2.out⟩
  | true =>
  rw [hnm0] at HN0 HRes
  clear hnm0
  by_cases ht8 : 8 < tn
  · have xt8 : (8 : Int) < (tn : Int) := by omega
    have e1 : decide (tn ≤ 8) = false := decide_eq_false (by omega)
    have hR : R = false := by rw [HRes.out, e1]; simp
    clear e1
    have HR := Lib.hid hR
    clear hR HRes
    go_enter Try.func31, Try.ntmps31
    go_upto_region 1 with (fail)
    refine wp_world (w' := w2) Hw2.out ?_
    rw [Hg.out]
    clear Hw2
    go_wp2_with fail
    refine HN0.out.mono ?_
    rintro e w3 ⟨rfl, rfl⟩
    go_wp2
    go_ret
    exact ⟨by rw [HR.out]; rfl, HE2.out⟩
  have xt8 : ¬ (8 : Int) < (tn : Int) := by omega
  by_cases hv5 : 512 < value.size
  · have xv5 : (512 : Int) < (value.size : Int) := by omega
    have e2 : decide (value.size ≤ 512) = false := decide_eq_false (by omega)
    have hR : R = false := by rw [HRes.out, e2]; simp
    clear e2
    have HR := Lib.hid hR
    clear hR HRes
    go_enter Try.func31, Try.ntmps31
    go_upto_region 1 with (fail)
    refine wp_world (w' := w2) Hw2.out ?_
    rw [Hg.out]
    clear Hw2
    go_wp2_with fail
    refine HN0.out.mono ?_
    rintro e w3 ⟨rfl, rfl⟩
    go_wp2
    go_ret
    exact ⟨by rw [HR.out]; rfl, HE2.out⟩
  have xv5 : ¬ (512 : Int) < (value.size : Int) := by omega
  by_cases h2 : op = 2
  · subst h2
    by_cases ht0 : 0 < tn
    · have xt0 : (0 : Int) < (tn : Int) := by omega
      have e3 : (if (2 : Int) = 2 then decide (tn = 0 ∧ value.size = 0) else if (2 : Int) = 3 then decide (value.size = 0) else decide ((2 : Int) = 1)) = false := by rw [if_pos rfl]; exact decide_eq_false (by omega)
      have hR : R = false := by rw [HRes.out, e3]; simp
      clear e3
      have HR := Lib.hid hR
      clear hR HRes
      go_enter Try.func31, Try.ntmps31
      go_upto_region 1 with (fail)
      refine wp_world (w' := w2) Hw2.out ?_
      rw [Hg.out]
      clear Hw2
      go_wp2_with fail
      refine HN0.out.mono ?_
      rintro e w3 ⟨rfl, rfl⟩
      go_wp2
      go_ret
      exact ⟨by rw [HR.out]; rfl, HE2.out⟩
    have xt0 : ¬ (0 : Int) < (tn : Int) := by omega
    by_cases hv0 : value.size = 0
    · have hve := ba_empty hv0
      subst hve
      have e1 : decide (tn ≤ 8) = true := decide_eq_true (by omega)
      have e2 : decide ((⟨#[]⟩ : ByteArray).size ≤ 512) = true := decide_eq_true (by decide)
      have e3 : (if (2 : Int) = 2 then decide (tn = 0 ∧ (⟨#[]⟩ : ByteArray).size = 0) else if (2 : Int) = 3 then decide ((⟨#[]⟩ : ByteArray).size = 0) else decide ((2 : Int) = 1)) = true := by rw [if_pos rfl]; exact decide_eq_true ⟨by omega, rfl⟩
      have hR : R = tagsN ss tn := by rw [HRes.out, e1, e2, e3]; simp
      clear e1 e2 e3
      have HR := Lib.hid hR
      clear hR HRes
      go_enter Try.func31, Try.ntmps31
      go_upto_region 1 with (fail)
      refine wp_world (w' := w2) Hw2.out ?_
      rw [Hg.out]
      clear Hw2
      go_wp2_with fail
      refine HN0.out.mono ?_
      rintro e w3 ⟨rfl, rfl⟩
      go_wp2
      go_loopw [3] (fun i wr => ∃ k : Nat, k ≤ tn ∧ i = .int .i64 (k : Int) ∧ tagsN ss k = true ∧ Ext w3 wr) (fun i _ => tn - (intOf i).toNat)
      case atStart => exact ⟨0, Nat.zero_le _, rfl, rfl, Ext.refl _⟩
      case round =>
        obtain ⟨k, hk, rfl, hok, hE⟩ := hrel
        have HE := Lib.hid hE
        have q2 := (ch_cell (hE.keep HB.out)).2.2.1
        clear hE c0 c1 c2 c3
        by_cases hlt : k < tn
        · exfalso
          omega
        · obtain rfl : k = tn := by omega
          have HB2 := Lib.hid (show R = true by rw [HR.out]; exact hok)
          have x1 : ¬ (k : Int) < (k : Int) := by omega
          clear hok
          go_wp2
          go_ret
          exact ⟨by rw [HB2.out]; rfl, HE2.out.trans HE.out⟩
    · obtain ⟨xe1, xe2⟩ := ba_not hv0
      have e3 : (if (2 : Int) = 2 then decide (tn = 0 ∧ value.size = 0) else if (2 : Int) = 3 then decide (value.size = 0) else decide ((2 : Int) = 1)) = false := by rw [if_pos rfl]; exact decide_eq_false (by omega)
      have hR : R = false := by rw [HRes.out, e3]; simp
      clear e3
      have HR := Lib.hid hR
      clear hR HRes
      go_enter Try.func31, Try.ntmps31
      go_upto_region 1 with (fail)
      refine wp_world (w' := w2) Hw2.out ?_
      rw [Hg.out]
      clear Hw2
      go_wp2_with fail
      refine HN0.out.mono ?_
      rintro e w3 ⟨rfl, rfl⟩
      go_wp2
      go_ret
      exact ⟨by rw [HR.out]; rfl, HE2.out⟩
  by_cases h1 : op = 1
  · subst h1
    have e1 : decide (tn ≤ 8) = true := decide_eq_true (by omega)
    have e2 : decide (value.size ≤ 512) = true := decide_eq_true (by omega)
    have e3 : (if (1 : Int) = 2 then decide (tn = 0 ∧ value.size = 0) else if (1 : Int) = 3 then decide (value.size = 0) else decide ((1 : Int) = 1)) = true := by rw [if_neg (by decide), if_neg (by decide)]; exact rfl
    have hR : R = tagsN ss tn := by rw [HRes.out, e1, e2, e3]; simp
    clear e1 e2 e3
    have HR := Lib.hid hR
    clear hR HRes
    go_enter Try.func31, Try.ntmps31
    go_upto_region 1 with (fail)
    refine wp_world (w' := w2) Hw2.out ?_
    rw [Hg.out]
    clear Hw2
    go_wp2_with fail
    refine HN0.out.mono ?_
    rintro e w3 ⟨rfl, rfl⟩
    go_wp2
    go_loopw [3] (fun i wr => ∃ k : Nat, k ≤ tn ∧ i = .int .i64 (k : Int) ∧ tagsN ss k = true ∧ Ext w3 wr) (fun i _ => tn - (intOf i).toNat)
    case atStart => exact ⟨0, Nat.zero_le _, rfl, rfl, Ext.refl _⟩
    case round =>
      obtain ⟨k, hk, rfl, hok, hE⟩ := hrel
      have HE := Lib.hid hE
      have q2 := (ch_cell (hE.keep HB.out)).2.2.1
      clear hE c0 c1 c2 c3
      by_cases hlt : k < tn
      · obtain ⟨bt, offt, rfl, hc⟩ := H.out.at_ (by omega)
        have HC := Lib.hid (show ∀ i, i < tn → ∀ w', Ext w3 w' → w'.cell? ⟨bt, offt + i, none⟩ = some (.string (ss.getD i ByteArray.empty)) from fun i hi w' h' => by
          rw [Ext.cell (HE2.out.trans h') (World.block_lt_of_cell? w _ (hc i hi))]
          exact hc i hi)
        have ht := tagsN_succ ss k
        rw [hok, Bool.true_and] at ht
        have HT := Lib.hid ht
        have HBad := Lib.hid (show tagOk ss k = false → R = false from fun hb => by rw [HR.out]; exact tagsN_bad ss k tn hlt hb)
        have HOk := Lib.hid (show tagOk ss k = (nameB (ss.getD k ByteArray.empty) && (decide (k = 0) || lessS (ss.getD (k - 1) ByteArray.empty) (ss.getD k ByteArray.empty))) from rfl)
        have HX := Lib.hid (show ∀ x, Ext wr.drew x → Ext w3 x from fun x hx => HE.out.trans (Ext.trans (Ext.refl wr).drew hx))
        have hCk := HC.out k hlt
        obtain ⟨S, hS⟩ : ∃ S, ss.getD k ByteArray.empty = S := ⟨_, rfl⟩
        have HN := Lib.hid (show ∀ w', Calls Try.prog 57 #[.string S] w' fun e w'' => e = .returned (.bool (nameB S)) ∧ w'' = w' from fun w' => refname_any S w' (by rw [← hS]; exact Hs.out k))
        rw [hS] at hCk HOk
        have HCk := Lib.hid hCk
        have HSk := Lib.hid hS
        clear hc ht hok hCk hS
        cases hnm : nameB S with
        | false =>
          rw [hnm] at HN
          have HB2 := Lib.hid (HBad.out (by rw [HOk.out, hnm]; rfl))
          have x1 : (k : Int) < (tn : Int) := by omega
          have x2 : (0 : Int) ≤ (k : Int) := by omega
          clear hnm
          go_upto_region 6 with (fail)
          refine wp_region_lexA (by kernel_rfl) (by kernel_rfl) ?_
          refine lx_e (.pointer (some ⟨g, 2, none⟩)) [] (by kernel_rfl) rfl (by rfl) (fun w1 hw1 => ?_) ?_
          · simp only [pk, lexVals]
            go_simp
            exact ⟨Ext.refl _, rfl⟩
          refine lx_e (.slice (some ⟨bt, offt, none⟩) tn tc) [(0, 58)] (by kernel_rfl) rfl (by rfl) (fun w1 hw1 => ?_) ?_
          · simp only [pk, nthSp, lexVals]
            have q := (ch_cell ((HX.out w1 hw1).keep HB.out)).2.2.1
            clear hw1
            go_simp
            exact ⟨Ext.refl _, rfl⟩
          refine lx_e (.int .i64 (k : Int)) [] (by kernel_rfl) rfl (by rfl) (fun w1 hw1 => ?_) ?_
          · simp only [pk, lexVals]
            go_simp
            exact ⟨Ext.refl _, rfl⟩
          refine lx_e (.pointer (some ⟨bt, offt + k, none⟩)) [(1, 59), (0, 60)] (by kernel_rfl) rfl (by rfl) (fun w1 hw1 => ?_) ?_
          · simp only [pk, nthSp, lexVals]
            go_simp
            exact ⟨Ext.refl _, rfl⟩
          refine lx_e (.string S) [(0, 61)] (by kernel_rfl) rfl (by rfl) (fun w1 hw1 => ?_) ?_
          · simp only [pk, nthSp, lexVals]
            have q := HCk.out w1 (HX.out w1 hw1)
            clear hw1
            go_simp
            exact ⟨Ext.refl _, rfl⟩
          refine lx_e (.bool false) [(0, 62)] (by kernel_rfl) rfl (by rfl) (fun w1 hw1 => ?_) ?_
          · simp only [pk, nthSp, lexVals]
            have HM := Lib.hid (HN.out w1)
            clear hw1
            go_simp
            refine HM.out.mono ?_
            rintro e w2 ⟨rfl, rfl⟩
            exact ⟨_, rfl, Ext.refl _, rfl⟩
          refine lx_e (.bool true) [(0, 63)] (by kernel_rfl) rfl (by rfl) (fun w1 hw1 => ?_) ?_
          · simp only [pk, nthSp, lexVals]
            go_simp
            exact ⟨Ext.refl _, rfl⟩
          refine lx_e (.bool true) [(0, 64)] (by kernel_rfl) rfl (by rfl) (fun w1 hw1 => ?_) ?_
          · simp only [pk, nthSp, lexVals]
            go_simp
            exact ⟨Ext.refl _, rfl⟩
          refine lx_no [(0, 65)] 65 (by kernel_rfl) rfl (by kernel_rfl) (by rfl) (fun w1 => ?_) ?_
          · simp only [pk, nthSp, lexVals]
            first | (go_simp; done) | (go_simp; exact fun h => by cases h)
          refine lx_no [(0, 66), (1, 65)] 65 (by kernel_rfl) rfl (by kernel_rfl) (by rfl) (fun w1 => ?_) ?_
          · simp only [pk, nthSp, lexVals]
            first | (go_simp; done) | (go_simp; exact fun h => by cases h)
          refine lx_no [(0, 67), (2, 65)] 65 (by kernel_rfl) rfl (by kernel_rfl) (by rfl) (fun w1 => ?_) ?_
          · simp only [pk, nthSp, lexVals]
            first | (go_simp; done) | (go_simp; exact fun h => by cases h)
          refine lx_no [(0, 68)] 68 (by kernel_rfl) rfl (by kernel_rfl) (by rfl) (fun w1 => ?_) ?_
          · simp only [pk, nthSp, lexVals]
            first | (go_simp; done) | (go_simp; exact fun h => by cases h)
          refine lx_no [(0, 69), (1, 68)] 68 (by kernel_rfl) rfl (by kernel_rfl) (by rfl) (fun w1 => ?_) ?_
          · simp only [pk, nthSp, lexVals]
            first | (go_simp; done) | (go_simp; exact fun h => by cases h)
          refine lx_no [(2, 68)] 68 (by kernel_rfl) rfl (by kernel_rfl) (by rfl) (fun w1 => ?_) ?_
          · simp only [pk, nthSp, lexVals]
            first | (go_simp; done) | (go_simp; exact fun h => by cases h)
          refine lx_no [(1, 70), (0, 71), (3, 68)] 68 (by kernel_rfl) rfl (by kernel_rfl) (by rfl) (fun w1 => ?_) ?_
          · simp only [pk, nthSp, lexVals]
            first | (go_simp; done) | (go_simp; exact fun h => by cases h)
          refine lx_no [(0, 72), (4, 68)] 68 (by kernel_rfl) rfl (by kernel_rfl) (by rfl) (fun w1 => ?_) ?_
          · simp only [pk, nthSp, lexVals]
            first | (go_simp; done) | (go_simp; exact fun h => by cases h)
          refine lx_no [(5, 68)] 68 (by kernel_rfl) rfl (by kernel_rfl) (by rfl) (fun w1 => ?_) ?_
          · simp only [pk, nthSp, lexVals]
            first | (go_simp; done) | (go_simp; exact fun h => by cases h)
          refine lx_no [(0, 74), (6, 68)] 68 (by kernel_rfl) rfl (by kernel_rfl) (by rfl) (fun w1 => ?_) ?_
          · simp only [pk, nthSp, lexVals]
            first | (go_simp; done) | (go_simp; exact fun h => by cases h)
          refine lx_no [(7, 68)] 68 (by kernel_rfl) rfl (by kernel_rfl) (by rfl) (fun w1 => ?_) ?_
          · simp only [pk, nthSp, lexVals]
            first | (go_simp; done) | (go_simp; exact fun h => by cases h)
          refine lx_no [(0, 76), (8, 68)] 68 (by kernel_rfl) rfl (by kernel_rfl) (by rfl) (fun w1 => ?_) ?_
          · simp only [pk, nthSp, lexVals]
            first | (go_simp; done) | (go_simp; exact fun h => by cases h)
          refine lx_no [(2, 75), (0, 77), (9, 68)] 68 (by kernel_rfl) rfl (by kernel_rfl) (by rfl) (fun w1 => ?_) ?_
          · simp only [pk, nthSp, lexVals]
            first | (go_simp; done) | (go_simp; exact fun h => by cases h)
          refine lx_no [(0, 78), (10, 68)] 68 (by kernel_rfl) rfl (by kernel_rfl) (by rfl) (fun w1 => ?_) ?_
          · simp only [pk, nthSp, lexVals]
            first | (go_simp; done) | (go_simp; exact fun h => by cases h)
          refine lx_no [(6, 73), (0, 79), (11, 68)] 68 (by kernel_rfl) rfl (by kernel_rfl) (by rfl) (fun w1 => ?_) ?_
          · simp only [pk, nthSp, lexVals]
            first | (go_simp; done) | (go_simp; exact fun h => by cases h)
          refine lx_no [(12, 68), (0, 80), (15, 65)] 65 (by kernel_rfl) rfl (by kernel_rfl) (by rfl) (fun w1 => ?_) ?_
          · simp only [pk, nthSp, lexVals]
            first | (go_simp; done) | (go_simp; exact fun h => by cases h)
          refine lx_e (.bool true) [(16, 65), (0, 81)] (by kernel_rfl) rfl (by rfl) (fun w1 hw1 => ?_) ?_
          · simp only [pk, nthSp, lexVals]
            go_simp
            exact ⟨Ext.refl _, rfl⟩
          refine lx_stopA (by rfl) fun w5 hw5 => ?_
          have HE5 := Lib.hid (HE2.out.trans (HX.out w5 hw5))
          clear hw5
          simp only [rv, pf, lexVals]
          simp only [Act.put, List.setIfInBounds_toArray, List.set_cons_zero, List.set_cons_succ]
          go_wp2
          go_ret
          exact ⟨by rw [HB2.out]; rfl, HE5.out⟩
        | true =>
          rw [hnm] at HN
          have HOk2 := Lib.hid (show tagOk ss k = (decide (k = 0) || lessS (ss.getD (k - 1) ByteArray.empty) S) by rw [HOk.out, hnm, Bool.true_and])
          clear hnm
          by_cases hk0 : k = 0
          · subst hk0
            have hCk0 := HCk.out
            simp only [Nat.add_zero] at hCk0
            have HCk := Lib.hid hCk0
            have x1 : (0 : Int) < (tn : Int) := by omega
            have HT2 := Lib.hid (show tagsN ss (0 + 1) = true by rw [HT.out, HOk2.out]; rfl)
            clear hCk0
            go_upto_region 6 with (fail)
            refine wp_region_lexA (by kernel_rfl) (by kernel_rfl) ?_
            refine lx_e (.pointer (some ⟨g, 2, none⟩)) [] (by kernel_rfl) rfl (by rfl) (fun w1 hw1 => ?_) ?_
            · simp only [pk, lexVals]
              go_simp
              exact ⟨Ext.refl _, rfl⟩
            refine lx_e (.slice (some ⟨bt, offt, none⟩) tn tc) [(0, 58)] (by kernel_rfl) rfl (by rfl) (fun w1 hw1 => ?_) ?_
            · simp only [pk, nthSp, lexVals]
              have q := (ch_cell ((HX.out w1 hw1).keep HB.out)).2.2.1
              clear hw1
              go_simp
              exact ⟨Ext.refl _, rfl⟩
            refine lx_e (.int .i64 0) [] (by kernel_rfl) rfl (by rfl) (fun w1 hw1 => ?_) ?_
            · simp only [pk, lexVals]
              go_simp
              exact ⟨Ext.refl _, rfl⟩
            refine lx_e (.pointer (some ⟨bt, offt, none⟩)) [(1, 59), (0, 60)] (by kernel_rfl) rfl (by rfl) (fun w1 hw1 => ?_) ?_
            · simp only [pk, nthSp, lexVals]
              go_simp
              exact ⟨Ext.refl _, rfl⟩
            refine lx_e (.string S) [(0, 61)] (by kernel_rfl) rfl (by rfl) (fun w1 hw1 => ?_) ?_
            · simp only [pk, nthSp, lexVals]
              have q := HCk.out w1 (HX.out w1 hw1)
              clear hw1
              go_simp
              exact ⟨Ext.refl _, rfl⟩
            refine lx_e (.bool true) [(0, 62)] (by kernel_rfl) rfl (by rfl) (fun w1 hw1 => ?_) ?_
            · simp only [pk, nthSp, lexVals]
              have HM := Lib.hid (HN.out w1)
              clear hw1
              go_simp
              refine HM.out.mono ?_
              rintro e w2 ⟨rfl, rfl⟩
              exact ⟨_, rfl, Ext.refl _, rfl⟩
            refine lx_e (.bool false) [(0, 63)] (by kernel_rfl) rfl (by rfl) (fun w1 hw1 => ?_) ?_
            · simp only [pk, nthSp, lexVals]
              go_simp
              exact ⟨Ext.refl _, rfl⟩
            refine lx_e (.bool false) [(0, 64)] (by kernel_rfl) rfl (by rfl) (fun w1 hw1 => ?_) ?_
            · simp only [pk, nthSp, lexVals]
              go_simp
              exact ⟨Ext.refl _, rfl⟩
            refine lx_ge (.int .i64 0) [(0, 65)] 65 (by kernel_rfl) rfl (by kernel_rfl) (by rfl) (fun w1 => ?_) (fun w1 hw1 => ?_) ?_
            · simp only [pk, nthSp, lexVals]
              rfl
            · simp only [pk, nthSp, lexVals]
              go_simp
              exact ⟨Ext.refl _, rfl⟩
            refine lx_ge (.bool false) [(0, 66), (1, 65)] 65 (by kernel_rfl) rfl (by kernel_rfl) (by rfl) (fun w1 => ?_) (fun w1 hw1 => ?_) ?_
            · simp only [pk, nthSp, lexVals]
              rfl
            · simp only [pk, nthSp, lexVals]
              go_simp
              exact ⟨Ext.refl _, rfl⟩
            refine lx_ge (.bool false) [(0, 67), (2, 65)] 65 (by kernel_rfl) rfl (by kernel_rfl) (by rfl) (fun w1 => ?_) (fun w1 hw1 => ?_) ?_
            · simp only [pk, nthSp, lexVals]
              rfl
            · simp only [pk, nthSp, lexVals]
              go_simp
              exact ⟨Ext.refl _, rfl⟩
            refine lx_no [(0, 68)] 68 (by kernel_rfl) rfl (by kernel_rfl) (by rfl) (fun w1 => ?_) ?_
            · simp only [pk, nthSp, lexVals]
              first | (go_simp; done) | (go_simp; exact fun h => by cases h)
            refine lx_no [(0, 69), (1, 68)] 68 (by kernel_rfl) rfl (by kernel_rfl) (by rfl) (fun w1 => ?_) ?_
            · simp only [pk, nthSp, lexVals]
              first | (go_simp; done) | (go_simp; exact fun h => by cases h)
            refine lx_no [(2, 68)] 68 (by kernel_rfl) rfl (by kernel_rfl) (by rfl) (fun w1 => ?_) ?_
            · simp only [pk, nthSp, lexVals]
              first | (go_simp; done) | (go_simp; exact fun h => by cases h)
            refine lx_no [(1, 70), (0, 71), (3, 68)] 68 (by kernel_rfl) rfl (by kernel_rfl) (by rfl) (fun w1 => ?_) ?_
            · simp only [pk, nthSp, lexVals]
              first | (go_simp; done) | (go_simp; exact fun h => by cases h)
            refine lx_no [(0, 72), (4, 68)] 68 (by kernel_rfl) rfl (by kernel_rfl) (by rfl) (fun w1 => ?_) ?_
            · simp only [pk, nthSp, lexVals]
              first | (go_simp; done) | (go_simp; exact fun h => by cases h)
            refine lx_no [(5, 68)] 68 (by kernel_rfl) rfl (by kernel_rfl) (by rfl) (fun w1 => ?_) ?_
            · simp only [pk, nthSp, lexVals]
              first | (go_simp; done) | (go_simp; exact fun h => by cases h)
            refine lx_no [(0, 74), (6, 68)] 68 (by kernel_rfl) rfl (by kernel_rfl) (by rfl) (fun w1 => ?_) ?_
            · simp only [pk, nthSp, lexVals]
              first | (go_simp; done) | (go_simp; exact fun h => by cases h)
            refine lx_no [(7, 68)] 68 (by kernel_rfl) rfl (by kernel_rfl) (by rfl) (fun w1 => ?_) ?_
            · simp only [pk, nthSp, lexVals]
              first | (go_simp; done) | (go_simp; exact fun h => by cases h)
            refine lx_no [(0, 76), (8, 68)] 68 (by kernel_rfl) rfl (by kernel_rfl) (by rfl) (fun w1 => ?_) ?_
            · simp only [pk, nthSp, lexVals]
              first | (go_simp; done) | (go_simp; exact fun h => by cases h)
            refine lx_no [(2, 75), (0, 77), (9, 68)] 68 (by kernel_rfl) rfl (by kernel_rfl) (by rfl) (fun w1 => ?_) ?_
            · simp only [pk, nthSp, lexVals]
              first | (go_simp; done) | (go_simp; exact fun h => by cases h)
            refine lx_no [(0, 78), (10, 68)] 68 (by kernel_rfl) rfl (by kernel_rfl) (by rfl) (fun w1 => ?_) ?_
            · simp only [pk, nthSp, lexVals]
              first | (go_simp; done) | (go_simp; exact fun h => by cases h)
            refine lx_no [(6, 73), (0, 79), (11, 68)] 68 (by kernel_rfl) rfl (by kernel_rfl) (by rfl) (fun w1 => ?_) ?_
            · simp only [pk, nthSp, lexVals]
              first | (go_simp; done) | (go_simp; exact fun h => by cases h)
            refine lx_ge (.bool false) [(12, 68), (0, 80), (15, 65)] 65 (by kernel_rfl) rfl (by kernel_rfl) (by rfl) (fun w1 => ?_) (fun w1 hw1 => ?_) ?_
            · simp only [pk, nthSp, lexVals]
              rfl
            · simp only [pk, nthSp, lexVals]
              go_simp
              exact ⟨Ext.refl _, rfl⟩
            refine lx_e (.bool false) [(16, 65), (0, 81)] (by kernel_rfl) rfl (by rfl) (fun w1 hw1 => ?_) ?_
            · simp only [pk, nthSp, lexVals]
              go_simp
              exact ⟨Ext.refl _, rfl⟩
            refine lx_stopA (by rfl) fun w5 hw5 => ?_
            have HE5 := Lib.hid (HX.out w5 hw5)
            clear hw5
            simp only [rv, pf, lexVals]
            simp only [Act.put, List.setIfInBounds_toArray, List.set_cons_zero, List.set_cons_succ]
            go_wp2
            go_roundw
            case rel => exact ⟨0 + 1, by omega, rfl, HT2.out, HE5.out⟩
            case measure => simp [intOf]; omega
          · obtain ⟨j, rfl⟩ : ∃ j, k = j + 1 := ⟨k - 1, by omega⟩
            have hCj := HC.out j (by omega)
            have hok3 := HOk2.out
            simp only [Nat.add_sub_cancel, Nat.add_eq_zero_iff, Nat.succ_ne_self, and_false, decide_false, Bool.false_or] at hok3
            obtain ⟨S', hS'⟩ : ∃ S', ss.getD j ByteArray.empty = S' := ⟨_, rfl⟩
            rw [hS'] at hCj hok3
            have HCj := Lib.hid hCj
            have HOk3 := Lib.hid hok3
            have HLe := Lib.hid (show (Op.bytesLess S.toList S'.toList || S.toList == S'.toList) = !lessS S' S from less_total _ _)
            have x1 : ((j + 1 : Nat) : Int) < (tn : Int) := by omega
            have x2 : (0 : Int) < ((j + 1 : Nat) : Int) := by omega
            have x3 : (j : Int) < (tn : Int) := by omega
            have x4 : (j : Int) + 1 < (tn : Int) := by omega
            have x5 : (0 : Int) < (j : Int) + 1 := by omega
            have wj1 : IntKind.i64.wrap (j : Int) = (j : Int) := by rw [IntKind.wrap_i64]; omega
            clear hok3 hS' hk0 hCj
            go_upto_region 6 with (fail)
            refine wp_region_lexA (by kernel_rfl) (by kernel_rfl) ?_
            refine lx_e (.pointer (some ⟨g, 2, none⟩)) [] (by kernel_rfl) rfl (by rfl) (fun w1 hw1 => ?_) ?_
            · simp only [pk, lexVals]
              go_simp
              exact ⟨Ext.refl _, rfl⟩
            refine lx_e (.slice (some ⟨bt, offt, none⟩) tn tc) [(0, 58)] (by kernel_rfl) rfl (by rfl) (fun w1 hw1 => ?_) ?_
            · simp only [pk, nthSp, lexVals]
              have q := (ch_cell ((HX.out w1 hw1).keep HB.out)).2.2.1
              clear hw1
              go_simp
              exact ⟨Ext.refl _, rfl⟩
            refine lx_e (.int .i64 ((j + 1 : Nat) : Int)) [] (by kernel_rfl) rfl (by rfl) (fun w1 hw1 => ?_) ?_
            · simp only [pk, lexVals]
              go_simp
              exact ⟨Ext.refl _, rfl⟩
            refine lx_e (.pointer (some ⟨bt, offt + (j + 1), none⟩)) [(1, 59), (0, 60)] (by kernel_rfl) rfl (by rfl) (fun w1 hw1 => ?_) ?_
            · simp only [pk, nthSp, lexVals]
              go_simp
              exact ⟨Ext.refl _, rfl⟩
            refine lx_e (.string S) [(0, 61)] (by kernel_rfl) rfl (by rfl) (fun w1 hw1 => ?_) ?_
            · simp only [pk, nthSp, lexVals]
              have q := HCk.out w1 (HX.out w1 hw1)
              clear hw1
              go_simp
              exact ⟨Ext.refl _, rfl⟩
            refine lx_e (.bool true) [(0, 62)] (by kernel_rfl) rfl (by rfl) (fun w1 hw1 => ?_) ?_
            · simp only [pk, nthSp, lexVals]
              have HM := Lib.hid (HN.out w1)
              clear hw1
              go_simp
              refine HM.out.mono ?_
              rintro e w2 ⟨rfl, rfl⟩
              exact ⟨_, rfl, Ext.refl _, rfl⟩
            refine lx_e (.bool false) [(0, 63)] (by kernel_rfl) rfl (by rfl) (fun w1 hw1 => ?_) ?_
            · simp only [pk, nthSp, lexVals]
              go_simp
              exact ⟨Ext.refl _, rfl⟩
            refine lx_e (.bool false) [(0, 64)] (by kernel_rfl) rfl (by rfl) (fun w1 hw1 => ?_) ?_
            · simp only [pk, nthSp, lexVals]
              go_simp
              exact ⟨Ext.refl _, rfl⟩
            refine lx_ge (.int .i64 ((j + 1 : Nat) : Int)) [(0, 65)] 65 (by kernel_rfl) rfl (by kernel_rfl) (by rfl) (fun w1 => ?_) (fun w1 hw1 => ?_) ?_
            · simp only [pk, nthSp, lexVals]
              rfl
            · simp only [pk, nthSp, lexVals]
              go_simp
              exact ⟨Ext.refl _, rfl⟩
            refine lx_ge (.bool true) [(0, 66), (1, 65)] 65 (by kernel_rfl) rfl (by kernel_rfl) (by rfl) (fun w1 => ?_) (fun w1 hw1 => ?_) ?_
            · simp only [pk, nthSp, lexVals]
              rfl
            · simp only [pk, nthSp, lexVals]
              go_simp
              exact ⟨Ext.refl _, rfl⟩
            refine lx_ge (.bool true) [(0, 67), (2, 65)] 65 (by kernel_rfl) rfl (by kernel_rfl) (by rfl) (fun w1 => ?_) (fun w1 hw1 => ?_) ?_
            · simp only [pk, nthSp, lexVals]
              rfl
            · simp only [pk, nthSp, lexVals]
              go_simp
              exact ⟨Ext.refl _, rfl⟩
            refine lx_ge (.pointer (some ⟨g, 2, none⟩)) [(0, 68)] 68 (by kernel_rfl) rfl (by kernel_rfl) (by rfl) (fun w1 => ?_) (fun w1 hw1 => ?_) ?_
            · simp only [pk, nthSp, lexVals]
              rfl
            · simp only [pk, nthSp, lexVals]
              go_simp
              exact ⟨Ext.refl _, rfl⟩
            refine lx_ge (.slice (some ⟨bt, offt, none⟩) tn tc) [(0, 69), (1, 68)] 68 (by kernel_rfl) rfl (by kernel_rfl) (by rfl) (fun w1 => ?_) (fun w1 hw1 => ?_) ?_
            · simp only [pk, nthSp, lexVals]
              rfl
            · simp only [pk, nthSp, lexVals]
              have q := (ch_cell ((HX.out w1 hw1).keep HB.out)).2.2.1
              clear hw1
              go_simp
              exact ⟨Ext.refl _, rfl⟩
            refine lx_ge (.int .i64 ((j + 1 : Nat) : Int)) [(2, 68)] 68 (by kernel_rfl) rfl (by kernel_rfl) (by rfl) (fun w1 => ?_) (fun w1 hw1 => ?_) ?_
            · simp only [pk, nthSp, lexVals]
              rfl
            · simp only [pk, nthSp, lexVals]
              go_simp
              exact ⟨Ext.refl _, rfl⟩
            refine lx_ge (.pointer (some ⟨bt, offt + (j + 1), none⟩)) [(1, 70), (0, 71), (3, 68)] 68 (by kernel_rfl) rfl (by kernel_rfl) (by rfl) (fun w1 => ?_) (fun w1 hw1 => ?_) ?_
            · simp only [pk, nthSp, lexVals]
              rfl
            · simp only [pk, nthSp, lexVals]
              go_simp
              exact ⟨Ext.refl _, rfl⟩
            refine lx_ge (.string S) [(0, 72), (4, 68)] 68 (by kernel_rfl) rfl (by kernel_rfl) (by rfl) (fun w1 => ?_) (fun w1 hw1 => ?_) ?_
            · simp only [pk, nthSp, lexVals]
              rfl
            · simp only [pk, nthSp, lexVals]
              have q := HCk.out w1 (HX.out w1 hw1)
              clear hw1
              go_simp
              exact ⟨Ext.refl _, rfl⟩
            refine lx_ge (.pointer (some ⟨g, 2, none⟩)) [(5, 68)] 68 (by kernel_rfl) rfl (by kernel_rfl) (by rfl) (fun w1 => ?_) (fun w1 hw1 => ?_) ?_
            · simp only [pk, nthSp, lexVals]
              rfl
            · simp only [pk, nthSp, lexVals]
              go_simp
              exact ⟨Ext.refl _, rfl⟩
            refine lx_ge (.slice (some ⟨bt, offt, none⟩) tn tc) [(0, 74), (6, 68)] 68 (by kernel_rfl) rfl (by kernel_rfl) (by rfl) (fun w1 => ?_) (fun w1 hw1 => ?_) ?_
            · simp only [pk, nthSp, lexVals]
              rfl
            · simp only [pk, nthSp, lexVals]
              have q := (ch_cell ((HX.out w1 hw1).keep HB.out)).2.2.1
              clear hw1
              go_simp
              exact ⟨Ext.refl _, rfl⟩
            refine lx_ge (.int .i64 ((j + 1 : Nat) : Int)) [(7, 68)] 68 (by kernel_rfl) rfl (by kernel_rfl) (by rfl) (fun w1 => ?_) (fun w1 hw1 => ?_) ?_
            · simp only [pk, nthSp, lexVals]
              rfl
            · simp only [pk, nthSp, lexVals]
              go_simp
              exact ⟨Ext.refl _, rfl⟩
            refine lx_ge (.int .i64 (j : Int)) [(0, 76), (8, 68)] 68 (by kernel_rfl) rfl (by kernel_rfl) (by rfl) (fun w1 => ?_) (fun w1 hw1 => ?_) ?_
            · simp only [pk, nthSp, lexVals]
              rfl
            · simp only [pk, nthSp, lexVals]
              go_simp
              exact ⟨Ext.refl _, rfl⟩
            refine lx_ge (.pointer (some ⟨bt, offt + j, none⟩)) [(2, 75), (0, 77), (9, 68)] 68 (by kernel_rfl) rfl (by kernel_rfl) (by rfl) (fun w1 => ?_) (fun w1 hw1 => ?_) ?_
            · simp only [pk, nthSp, lexVals]
              rfl
            · simp only [pk, nthSp, lexVals]
              go_simp
              exact ⟨Ext.refl _, rfl⟩
            refine lx_ge (.string S') [(0, 78), (10, 68)] 68 (by kernel_rfl) rfl (by kernel_rfl) (by rfl) (fun w1 => ?_) (fun w1 hw1 => ?_) ?_
            · simp only [pk, nthSp, lexVals]
              rfl
            · simp only [pk, nthSp, lexVals]
              have q := HCj.out w1 (HX.out w1 hw1)
              clear hw1
              go_simp
              exact ⟨Ext.refl _, rfl⟩
            refine lx_ge (.bool (!lessS S' S)) [(6, 73), (0, 79), (11, 68)] 68 (by kernel_rfl) rfl (by kernel_rfl) (by rfl) (fun w1 => ?_) (fun w1 hw1 => ?_) ?_
            · simp only [pk, nthSp, lexVals]
              rfl
            · simp only [pk, nthSp, lexVals]
              clear hw1
              go_simp
              exact ⟨Ext.refl _, by rw [← HLe.out]; rfl⟩
            refine lx_ge (.bool (!lessS S' S)) [(12, 68), (0, 80), (15, 65)] 65 (by kernel_rfl) rfl (by kernel_rfl) (by rfl) (fun w1 => ?_) (fun w1 hw1 => ?_) ?_
            · simp only [pk, nthSp, lexVals]
              rfl
            · simp only [pk, nthSp, lexVals]
              go_simp
              exact ⟨Ext.refl _, rfl⟩
            refine lx_e (.bool (!lessS S' S)) [(16, 65), (0, 81)] (by kernel_rfl) rfl (by rfl) (fun w1 hw1 => ?_) ?_
            · simp only [pk, nthSp, lexVals]
              go_simp
              exact ⟨Ext.refl _, rfl⟩
            refine lx_stopA (by rfl) fun w5 hw5 => ?_
            have HE5 := Lib.hid (HX.out w5 hw5)
            clear hw5
            simp only [rv, pf, lexVals]
            simp only [Act.put, List.setIfInBounds_toArray, List.set_cons_zero, List.set_cons_succ]
            cases hl : lessS S' S with
            | false =>
              have HB2 := Lib.hid (HBad.out (by rw [HOk3.out]; exact hl))
              clear hl
              go_wp2
              go_ret
              exact ⟨by rw [HB2.out]; rfl, HE2.out.trans HE5.out⟩
            | true =>
              have HT2 := Lib.hid (show tagsN ss (j + 1 + 1) = true by rw [HT.out, HOk3.out]; exact hl)
              clear hl
              go_wp2
              go_roundw
              case rel => exact ⟨j + 1 + 1, by omega, by go_num, HT2.out, HE5.out⟩
              case measure => simp [intOf]; omega
      · obtain rfl : k = tn := by omega
        have HB2 := Lib.hid (show R = true by rw [HR.out]; exact hok)
        have x1 : ¬ (k : Int) < (k : Int) := by omega
        clear hok
        go_wp2
        go_ret
        exact ⟨by rw [HB2.out]; rfl, HE2.out.trans HE.out⟩
  obtain rfl : op = 3 := by omega
  by_cases hv0 : value.size = 0
  · have hve := ba_empty hv0
    subst hve
    have e1 : decide (tn ≤ 8) = true := decide_eq_true (by omega)
    have e2 : decide ((⟨#[]⟩ : ByteArray).size ≤ 512) = true := decide_eq_true (by decide)
    have e3 : (if (3 : Int) = 2 then decide (tn = 0 ∧ (⟨#[]⟩ : ByteArray).size = 0) else if (3 : Int) = 3 then decide ((⟨#[]⟩ : ByteArray).size = 0) else decide ((3 : Int) = 1)) = true := by rw [if_neg (by decide), if_pos rfl]; exact rfl
    have hR : R = tagsN ss tn := by rw [HRes.out, e1, e2, e3]; simp
    clear e1 e2 e3
    have HR := Lib.hid hR
    clear hR HRes
    go_enter Try.func31, Try.ntmps31
    go_upto_region 1 with (fail)
    refine wp_world (w' := w2) Hw2.out ?_
    rw [Hg.out]
    clear Hw2
    go_wp2_with fail
    refine HN0.out.mono ?_
    rintro e w3 ⟨rfl, rfl⟩
    go_wp2
    go_loopw [3] (fun i wr => ∃ k : Nat, k ≤ tn ∧ i = .int .i64 (k : Int) ∧ tagsN ss k = true ∧ Ext w3 wr) (fun i _ => tn - (intOf i).toNat)
    case atStart => exact ⟨0, Nat.zero_le _, rfl, rfl, Ext.refl _⟩
    case round =>
      obtain ⟨k, hk, rfl, hok, hE⟩ := hrel
      have HE := Lib.hid hE
      have q2 := (ch_cell (hE.keep HB.out)).2.2.1
      clear hE c0 c1 c2 c3
      by_cases hlt : k < tn
      · obtain ⟨bt, offt, rfl, hc⟩ := H.out.at_ (by omega)
        have HC := Lib.hid (show ∀ i, i < tn → ∀ w', Ext w3 w' → w'.cell? ⟨bt, offt + i, none⟩ = some (.string (ss.getD i ByteArray.empty)) from fun i hi w' h' => by
          rw [Ext.cell (HE2.out.trans h') (World.block_lt_of_cell? w _ (hc i hi))]
          exact hc i hi)
        have ht := tagsN_succ ss k
        rw [hok, Bool.true_and] at ht
        have HT := Lib.hid ht
        have HBad := Lib.hid (show tagOk ss k = false → R = false from fun hb => by rw [HR.out]; exact tagsN_bad ss k tn hlt hb)
        have HOk := Lib.hid (show tagOk ss k = (nameB (ss.getD k ByteArray.empty) && (decide (k = 0) || lessS (ss.getD (k - 1) ByteArray.empty) (ss.getD k ByteArray.empty))) from rfl)
        have HX := Lib.hid (show ∀ x, Ext wr.drew x → Ext w3 x from fun x hx => HE.out.trans (Ext.trans (Ext.refl wr).drew hx))
        have hCk := HC.out k hlt
        obtain ⟨S, hS⟩ : ∃ S, ss.getD k ByteArray.empty = S := ⟨_, rfl⟩
        have HN := Lib.hid (show ∀ w', Calls Try.prog 57 #[.string S] w' fun e w'' => e = .returned (.bool (nameB S)) ∧ w'' = w' from fun w' => refname_any S w' (by rw [← hS]; exact Hs.out k))
        rw [hS] at hCk HOk
        have HCk := Lib.hid hCk
        have HSk := Lib.hid hS
        clear hc ht hok hCk hS
        cases hnm : nameB S with
        | false =>
          rw [hnm] at HN
          have HB2 := Lib.hid (HBad.out (by rw [HOk.out, hnm]; rfl))
          have x1 : (k : Int) < (tn : Int) := by omega
          have x2 : (0 : Int) ≤ (k : Int) := by omega
          clear hnm
          go_upto_region 6 with (fail)
          refine wp_region_lexA (by kernel_rfl) (by kernel_rfl) ?_
          refine lx_e (.pointer (some ⟨g, 2, none⟩)) [] (by kernel_rfl) rfl (by rfl) (fun w1 hw1 => ?_) ?_
          · simp only [pk, lexVals]
            go_simp
            exact ⟨Ext.refl _, rfl⟩
          refine lx_e (.slice (some ⟨bt, offt, none⟩) tn tc) [(0, 58)] (by kernel_rfl) rfl (by rfl) (fun w1 hw1 => ?_) ?_
          · simp only [pk, nthSp, lexVals]
            have q := (ch_cell ((HX.out w1 hw1).keep HB.out)).2.2.1
            clear hw1
            go_simp
            exact ⟨Ext.refl _, rfl⟩
          refine lx_e (.int .i64 (k : Int)) [] (by kernel_rfl) rfl (by rfl) (fun w1 hw1 => ?_) ?_
          · simp only [pk, lexVals]
            go_simp
            exact ⟨Ext.refl _, rfl⟩
          refine lx_e (.pointer (some ⟨bt, offt + k, none⟩)) [(1, 59), (0, 60)] (by kernel_rfl) rfl (by rfl) (fun w1 hw1 => ?_) ?_
          · simp only [pk, nthSp, lexVals]
            go_simp
            exact ⟨Ext.refl _, rfl⟩
          refine lx_e (.string S) [(0, 61)] (by kernel_rfl) rfl (by rfl) (fun w1 hw1 => ?_) ?_
          · simp only [pk, nthSp, lexVals]
            have q := HCk.out w1 (HX.out w1 hw1)
            clear hw1
            go_simp
            exact ⟨Ext.refl _, rfl⟩
          refine lx_e (.bool false) [(0, 62)] (by kernel_rfl) rfl (by rfl) (fun w1 hw1 => ?_) ?_
          · simp only [pk, nthSp, lexVals]
            have HM := Lib.hid (HN.out w1)
            clear hw1
            go_simp
            refine HM.out.mono ?_
            rintro e w2 ⟨rfl, rfl⟩
            exact ⟨_, rfl, Ext.refl _, rfl⟩
          refine lx_e (.bool true) [(0, 63)] (by kernel_rfl) rfl (by rfl) (fun w1 hw1 => ?_) ?_
          · simp only [pk, nthSp, lexVals]
            go_simp
            exact ⟨Ext.refl _, rfl⟩
          refine lx_e (.bool true) [(0, 64)] (by kernel_rfl) rfl (by rfl) (fun w1 hw1 => ?_) ?_
          · simp only [pk, nthSp, lexVals]
            go_simp
            exact ⟨Ext.refl _, rfl⟩
          refine lx_no [(0, 65)] 65 (by kernel_rfl) rfl (by kernel_rfl) (by rfl) (fun w1 => ?_) ?_
          · simp only [pk, nthSp, lexVals]
            first | (go_simp; done) | (go_simp; exact fun h => by cases h)
          refine lx_no [(0, 66), (1, 65)] 65 (by kernel_rfl) rfl (by kernel_rfl) (by rfl) (fun w1 => ?_) ?_
          · simp only [pk, nthSp, lexVals]
            first | (go_simp; done) | (go_simp; exact fun h => by cases h)
          refine lx_no [(0, 67), (2, 65)] 65 (by kernel_rfl) rfl (by kernel_rfl) (by rfl) (fun w1 => ?_) ?_
          · simp only [pk, nthSp, lexVals]
            first | (go_simp; done) | (go_simp; exact fun h => by cases h)
          refine lx_no [(0, 68)] 68 (by kernel_rfl) rfl (by kernel_rfl) (by rfl) (fun w1 => ?_) ?_
          · simp only [pk, nthSp, lexVals]
            first | (go_simp; done) | (go_simp; exact fun h => by cases h)
          refine lx_no [(0, 69), (1, 68)] 68 (by kernel_rfl) rfl (by kernel_rfl) (by rfl) (fun w1 => ?_) ?_
          · simp only [pk, nthSp, lexVals]
            first | (go_simp; done) | (go_simp; exact fun h => by cases h)
          refine lx_no [(2, 68)] 68 (by kernel_rfl) rfl (by kernel_rfl) (by rfl) (fun w1 => ?_) ?_
          · simp only [pk, nthSp, lexVals]
            first | (go_simp; done) | (go_simp; exact fun h => by cases h)
          refine lx_no [(1, 70), (0, 71), (3, 68)] 68 (by kernel_rfl) rfl (by kernel_rfl) (by rfl) (fun w1 => ?_) ?_
          · simp only [pk, nthSp, lexVals]
            first | (go_simp; done) | (go_simp; exact fun h => by cases h)
          refine lx_no [(0, 72), (4, 68)] 68 (by kernel_rfl) rfl (by kernel_rfl) (by rfl) (fun w1 => ?_) ?_
          · simp only [pk, nthSp, lexVals]
            first | (go_simp; done) | (go_simp; exact fun h => by cases h)
          refine lx_no [(5, 68)] 68 (by kernel_rfl) rfl (by kernel_rfl) (by rfl) (fun w1 => ?_) ?_
          · simp only [pk, nthSp, lexVals]
            first | (go_simp; done) | (go_simp; exact fun h => by cases h)
          refine lx_no [(0, 74), (6, 68)] 68 (by kernel_rfl) rfl (by kernel_rfl) (by rfl) (fun w1 => ?_) ?_
          · simp only [pk, nthSp, lexVals]
            first | (go_simp; done) | (go_simp; exact fun h => by cases h)
          refine lx_no [(7, 68)] 68 (by kernel_rfl) rfl (by kernel_rfl) (by rfl) (fun w1 => ?_) ?_
          · simp only [pk, nthSp, lexVals]
            first | (go_simp; done) | (go_simp; exact fun h => by cases h)
          refine lx_no [(0, 76), (8, 68)] 68 (by kernel_rfl) rfl (by kernel_rfl) (by rfl) (fun w1 => ?_) ?_
          · simp only [pk, nthSp, lexVals]
            first | (go_simp; done) | (go_simp; exact fun h => by cases h)
          refine lx_no [(2, 75), (0, 77), (9, 68)] 68 (by kernel_rfl) rfl (by kernel_rfl) (by rfl) (fun w1 => ?_) ?_
          · simp only [pk, nthSp, lexVals]
            first | (go_simp; done) | (go_simp; exact fun h => by cases h)
          refine lx_no [(0, 78), (10, 68)] 68 (by kernel_rfl) rfl (by kernel_rfl) (by rfl) (fun w1 => ?_) ?_
          · simp only [pk, nthSp, lexVals]
            first | (go_simp; done) | (go_simp; exact fun h => by cases h)
          refine lx_no [(6, 73), (0, 79), (11, 68)] 68 (by kernel_rfl) rfl (by kernel_rfl) (by rfl) (fun w1 => ?_) ?_
          · simp only [pk, nthSp, lexVals]
            first | (go_simp; done) | (go_simp; exact fun h => by cases h)
          refine lx_no [(12, 68), (0, 80), (15, 65)] 65 (by kernel_rfl) rfl (by kernel_rfl) (by rfl) (fun w1 => ?_) ?_
          · simp only [pk, nthSp, lexVals]
            first | (go_simp; done) | (go_simp; exact fun h => by cases h)
          refine lx_e (.bool true) [(16, 65), (0, 81)] (by kernel_rfl) rfl (by rfl) (fun w1 hw1 => ?_) ?_
          · simp only [pk, nthSp, lexVals]
            go_simp
            exact ⟨Ext.refl _, rfl⟩
          refine lx_stopA (by rfl) fun w5 hw5 => ?_
          have HE5 := Lib.hid (HE2.out.trans (HX.out w5 hw5))
          clear hw5
          simp only [rv, pf, lexVals]
          simp only [Act.put, List.setIfInBounds_toArray, List.set_cons_zero, List.set_cons_succ]
          go_wp2
          go_ret
          exact ⟨by rw [HB2.out]; rfl, HE5.out⟩
        | true =>
          rw [hnm] at HN
          have HOk2 := Lib.hid (show tagOk ss k = (decide (k = 0) || lessS (ss.getD (k - 1) ByteArray.empty) S) by rw [HOk.out, hnm, Bool.true_and])
          clear hnm
          by_cases hk0 : k = 0
          · subst hk0
            have hCk0 := HCk.out
            simp only [Nat.add_zero] at hCk0
            have HCk := Lib.hid hCk0
            have x1 : (0 : Int) < (tn : Int) := by omega
            have HT2 := Lib.hid (show tagsN ss (0 + 1) = true by rw [HT.out, HOk2.out]; rfl)
            clear hCk0
            go_upto_region 6 with (fail)
            refine wp_region_lexA (by kernel_rfl) (by kernel_rfl) ?_
            refine lx_e (.pointer (some ⟨g, 2, none⟩)) [] (by kernel_rfl) rfl (by rfl) (fun w1 hw1 => ?_) ?_
            · simp only [pk, lexVals]
              go_simp
              exact ⟨Ext.refl _, rfl⟩
            refine lx_e (.slice (some ⟨bt, offt, none⟩) tn tc) [(0, 58)] (by kernel_rfl) rfl (by rfl) (fun w1 hw1 => ?_) ?_
            · simp only [pk, nthSp, lexVals]
              have q := (ch_cell ((HX.out w1 hw1).keep HB.out)).2.2.1
              clear hw1
              go_simp
              exact ⟨Ext.refl _, rfl⟩
            refine lx_e (.int .i64 0) [] (by kernel_rfl) rfl (by rfl) (fun w1 hw1 => ?_) ?_
            · simp only [pk, lexVals]
              go_simp
              exact ⟨Ext.refl _, rfl⟩
            refine lx_e (.pointer (some ⟨bt, offt, none⟩)) [(1, 59), (0, 60)] (by kernel_rfl) rfl (by rfl) (fun w1 hw1 => ?_) ?_
            · simp only [pk, nthSp, lexVals]
              go_simp
              exact ⟨Ext.refl _, rfl⟩
            refine lx_e (.string S) [(0, 61)] (by kernel_rfl) rfl (by rfl) (fun w1 hw1 => ?_) ?_
            · simp only [pk, nthSp, lexVals]
              have q := HCk.out w1 (HX.out w1 hw1)
              clear hw1
              go_simp
              exact ⟨Ext.refl _, rfl⟩
            refine lx_e (.bool true) [(0, 62)] (by kernel_rfl) rfl (by rfl) (fun w1 hw1 => ?_) ?_
            · simp only [pk, nthSp, lexVals]
              have HM := Lib.hid (HN.out w1)
              clear hw1
              go_simp
              refine HM.out.mono ?_
              rintro e w2 ⟨rfl, rfl⟩
              exact ⟨_, rfl, Ext.refl _, rfl⟩
            refine lx_e (.bool false) [(0, 63)] (by kernel_rfl) rfl (by rfl) (fun w1 hw1 => ?_) ?_
            · simp only [pk, nthSp, lexVals]
              go_simp
              exact ⟨Ext.refl _, rfl⟩
            refine lx_e (.bool false) [(0, 64)] (by kernel_rfl) rfl (by rfl) (fun w1 hw1 => ?_) ?_
            · simp only [pk, nthSp, lexVals]
              go_simp
              exact ⟨Ext.refl _, rfl⟩
            refine lx_ge (.int .i64 0) [(0, 65)] 65 (by kernel_rfl) rfl (by kernel_rfl) (by rfl) (fun w1 => ?_) (fun w1 hw1 => ?_) ?_
            · simp only [pk, nthSp, lexVals]
              rfl
            · simp only [pk, nthSp, lexVals]
              go_simp
              exact ⟨Ext.refl _, rfl⟩
            refine lx_ge (.bool false) [(0, 66), (1, 65)] 65 (by kernel_rfl) rfl (by kernel_rfl) (by rfl) (fun w1 => ?_) (fun w1 hw1 => ?_) ?_
            · simp only [pk, nthSp, lexVals]
              rfl
            · simp only [pk, nthSp, lexVals]
              go_simp
              exact ⟨Ext.refl _, rfl⟩
            refine lx_ge (.bool false) [(0, 67), (2, 65)] 65 (by kernel_rfl) rfl (by kernel_rfl) (by rfl) (fun w1 => ?_) (fun w1 hw1 => ?_) ?_
            · simp only [pk, nthSp, lexVals]
              rfl
            · simp only [pk, nthSp, lexVals]
              go_simp
              exact ⟨Ext.refl _, rfl⟩
            refine lx_no [(0, 68)] 68 (by kernel_rfl) rfl (by kernel_rfl) (by rfl) (fun w1 => ?_) ?_
            · simp only [pk, nthSp, lexVals]
              first | (go_simp; done) | (go_simp; exact fun h => by cases h)
            refine lx_no [(0, 69), (1, 68)] 68 (by kernel_rfl) rfl (by kernel_rfl) (by rfl) (fun w1 => ?_) ?_
            · simp only [pk, nthSp, lexVals]
              first | (go_simp; done) | (go_simp; exact fun h => by cases h)
            refine lx_no [(2, 68)] 68 (by kernel_rfl) rfl (by kernel_rfl) (by rfl) (fun w1 => ?_) ?_
            · simp only [pk, nthSp, lexVals]
              first | (go_simp; done) | (go_simp; exact fun h => by cases h)
            refine lx_no [(1, 70), (0, 71), (3, 68)] 68 (by kernel_rfl) rfl (by kernel_rfl) (by rfl) (fun w1 => ?_) ?_
            · simp only [pk, nthSp, lexVals]
              first | (go_simp; done) | (go_simp; exact fun h => by cases h)
            refine lx_no [(0, 72), (4, 68)] 68 (by kernel_rfl) rfl (by kernel_rfl) (by rfl) (fun w1 => ?_) ?_
            · simp only [pk, nthSp, lexVals]
              first | (go_simp; done) | (go_simp; exact fun h => by cases h)
            refine lx_no [(5, 68)] 68 (by kernel_rfl) rfl (by kernel_rfl) (by rfl) (fun w1 => ?_) ?_
            · simp only [pk, nthSp, lexVals]
              first | (go_simp; done) | (go_simp; exact fun h => by cases h)
            refine lx_no [(0, 74), (6, 68)] 68 (by kernel_rfl) rfl (by kernel_rfl) (by rfl) (fun w1 => ?_) ?_
            · simp only [pk, nthSp, lexVals]
              first | (go_simp; done) | (go_simp; exact fun h => by cases h)
            refine lx_no [(7, 68)] 68 (by kernel_rfl) rfl (by kernel_rfl) (by rfl) (fun w1 => ?_) ?_
            · simp only [pk, nthSp, lexVals]
              first | (go_simp; done) | (go_simp; exact fun h => by cases h)
            refine lx_no [(0, 76), (8, 68)] 68 (by kernel_rfl) rfl (by kernel_rfl) (by rfl) (fun w1 => ?_) ?_
            · simp only [pk, nthSp, lexVals]
              first | (go_simp; done) | (go_simp; exact fun h => by cases h)
            refine lx_no [(2, 75), (0, 77), (9, 68)] 68 (by kernel_rfl) rfl (by kernel_rfl) (by rfl) (fun w1 => ?_) ?_
            · simp only [pk, nthSp, lexVals]
              first | (go_simp; done) | (go_simp; exact fun h => by cases h)
            refine lx_no [(0, 78), (10, 68)] 68 (by kernel_rfl) rfl (by kernel_rfl) (by rfl) (fun w1 => ?_) ?_
            · simp only [pk, nthSp, lexVals]
              first | (go_simp; done) | (go_simp; exact fun h => by cases h)
            refine lx_no [(6, 73), (0, 79), (11, 68)] 68 (by kernel_rfl) rfl (by kernel_rfl) (by rfl) (fun w1 => ?_) ?_
            · simp only [pk, nthSp, lexVals]
              first | (go_simp; done) | (go_simp; exact fun h => by cases h)
            refine lx_ge (.bool false) [(12, 68), (0, 80), (15, 65)] 65 (by kernel_rfl) rfl (by kernel_rfl) (by rfl) (fun w1 => ?_) (fun w1 hw1 => ?_) ?_
            · simp only [pk, nthSp, lexVals]
              rfl
            · simp only [pk, nthSp, lexVals]
              go_simp
              exact ⟨Ext.refl _, rfl⟩
            refine lx_e (.bool false) [(16, 65), (0, 81)] (by kernel_rfl) rfl (by rfl) (fun w1 hw1 => ?_) ?_
            · simp only [pk, nthSp, lexVals]
              go_simp
              exact ⟨Ext.refl _, rfl⟩
            refine lx_stopA (by rfl) fun w5 hw5 => ?_
            have HE5 := Lib.hid (HX.out w5 hw5)
            clear hw5
            simp only [rv, pf, lexVals]
            simp only [Act.put, List.setIfInBounds_toArray, List.set_cons_zero, List.set_cons_succ]
            go_wp2
            go_roundw
            case rel => exact ⟨0 + 1, by omega, rfl, HT2.out, HE5.out⟩
            case measure => simp [intOf]; omega
          · obtain ⟨j, rfl⟩ : ∃ j, k = j + 1 := ⟨k - 1, by omega⟩
            have hCj := HC.out j (by omega)
            have hok3 := HOk2.out
            simp only [Nat.add_sub_cancel, Nat.add_eq_zero_iff, Nat.succ_ne_self, and_false, decide_false, Bool.false_or] at hok3
            obtain ⟨S', hS'⟩ : ∃ S', ss.getD j ByteArray.empty = S' := ⟨_, rfl⟩
            rw [hS'] at hCj hok3
            have HCj := Lib.hid hCj
            have HOk3 := Lib.hid hok3
            have HLe := Lib.hid (show (Op.bytesLess S.toList S'.toList || S.toList == S'.toList) = !lessS S' S from less_total _ _)
            have x1 : ((j + 1 : Nat) : Int) < (tn : Int) := by omega
            have x2 : (0 : Int) < ((j + 1 : Nat) : Int) := by omega
            have x3 : (j : Int) < (tn : Int) := by omega
            have x4 : (j : Int) + 1 < (tn : Int) := by omega
            have x5 : (0 : Int) < (j : Int) + 1 := by omega
            have wj1 : IntKind.i64.wrap (j : Int) = (j : Int) := by rw [IntKind.wrap_i64]; omega
            clear hok3 hS' hk0 hCj
            go_upto_region 6 with (fail)
            refine wp_region_lexA (by kernel_rfl) (by kernel_rfl) ?_
            refine lx_e (.pointer (some ⟨g, 2, none⟩)) [] (by kernel_rfl) rfl (by rfl) (fun w1 hw1 => ?_) ?_
            · simp only [pk, lexVals]
              go_simp
              exact ⟨Ext.refl _, rfl⟩
            refine lx_e (.slice (some ⟨bt, offt, none⟩) tn tc) [(0, 58)] (by kernel_rfl) rfl (by rfl) (fun w1 hw1 => ?_) ?_
            · simp only [pk, nthSp, lexVals]
              have q := (ch_cell ((HX.out w1 hw1).keep HB.out)).2.2.1
              clear hw1
              go_simp
              exact ⟨Ext.refl _, rfl⟩
            refine lx_e (.int .i64 ((j + 1 : Nat) : Int)) [] (by kernel_rfl) rfl (by rfl) (fun w1 hw1 => ?_) ?_
            · simp only [pk, lexVals]
              go_simp
              exact ⟨Ext.refl _, rfl⟩
            refine lx_e (.pointer (some ⟨bt, offt + (j + 1), none⟩)) [(1, 59), (0, 60)] (by kernel_rfl) rfl (by rfl) (fun w1 hw1 => ?_) ?_
            · simp only [pk, nthSp, lexVals]
              go_simp
              exact ⟨Ext.refl _, rfl⟩
            refine lx_e (.string S) [(0, 61)] (by kernel_rfl) rfl (by rfl) (fun w1 hw1 => ?_) ?_
            · simp only [pk, nthSp, lexVals]
              have q := HCk.out w1 (HX.out w1 hw1)
              clear hw1
              go_simp
              exact ⟨Ext.refl _, rfl⟩
            refine lx_e (.bool true) [(0, 62)] (by kernel_rfl) rfl (by rfl) (fun w1 hw1 => ?_) ?_
            · simp only [pk, nthSp, lexVals]
              have HM := Lib.hid (HN.out w1)
              clear hw1
              go_simp
              refine HM.out.mono ?_
              rintro e w2 ⟨rfl, rfl⟩
              exact ⟨_, rfl, Ext.refl _, rfl⟩
            refine lx_e (.bool false) [(0, 63)] (by kernel_rfl) rfl (by rfl) (fun w1 hw1 => ?_) ?_
            · simp only [pk, nthSp, lexVals]
              go_simp
              exact ⟨Ext.refl _, rfl⟩
            refine lx_e (.bool false) [(0, 64)] (by kernel_rfl) rfl (by rfl) (fun w1 hw1 => ?_) ?_
            · simp only [pk, nthSp, lexVals]
              go_simp
              exact ⟨Ext.refl _, rfl⟩
            refine lx_ge (.int .i64 ((j + 1 : Nat) : Int)) [(0, 65)] 65 (by kernel_rfl) rfl (by kernel_rfl) (by rfl) (fun w1 => ?_) (fun w1 hw1 => ?_) ?_
            · simp only [pk, nthSp, lexVals]
              rfl
            · simp only [pk, nthSp, lexVals]
              go_simp
              exact ⟨Ext.refl _, rfl⟩
            refine lx_ge (.bool true) [(0, 66), (1, 65)] 65 (by kernel_rfl) rfl (by kernel_rfl) (by rfl) (fun w1 => ?_) (fun w1 hw1 => ?_) ?_
            · simp only [pk, nthSp, lexVals]
              rfl
            · simp only [pk, nthSp, lexVals]
              go_simp
              exact ⟨Ext.refl _, rfl⟩
            refine lx_ge (.bool true) [(0, 67), (2, 65)] 65 (by kernel_rfl) rfl (by kernel_rfl) (by rfl) (fun w1 => ?_) (fun w1 hw1 => ?_) ?_
            · simp only [pk, nthSp, lexVals]
              rfl
            · simp only [pk, nthSp, lexVals]
              go_simp
              exact ⟨Ext.refl _, rfl⟩
            refine lx_ge (.pointer (some ⟨g, 2, none⟩)) [(0, 68)] 68 (by kernel_rfl) rfl (by kernel_rfl) (by rfl) (fun w1 => ?_) (fun w1 hw1 => ?_) ?_
            · simp only [pk, nthSp, lexVals]
              rfl
            · simp only [pk, nthSp, lexVals]
              go_simp
              exact ⟨Ext.refl _, rfl⟩
            refine lx_ge (.slice (some ⟨bt, offt, none⟩) tn tc) [(0, 69), (1, 68)] 68 (by kernel_rfl) rfl (by kernel_rfl) (by rfl) (fun w1 => ?_) (fun w1 hw1 => ?_) ?_
            · simp only [pk, nthSp, lexVals]
              rfl
            · simp only [pk, nthSp, lexVals]
              have q := (ch_cell ((HX.out w1 hw1).keep HB.out)).2.2.1
              clear hw1
              go_simp
              exact ⟨Ext.refl _, rfl⟩
            refine lx_ge (.int .i64 ((j + 1 : Nat) : Int)) [(2, 68)] 68 (by kernel_rfl) rfl (by kernel_rfl) (by rfl) (fun w1 => ?_) (fun w1 hw1 => ?_) ?_
            · simp only [pk, nthSp, lexVals]
              rfl
            · simp only [pk, nthSp, lexVals]
              go_simp
              exact ⟨Ext.refl _, rfl⟩
            refine lx_ge (.pointer (some ⟨bt, offt + (j + 1), none⟩)) [(1, 70), (0, 71), (3, 68)] 68 (by kernel_rfl) rfl (by kernel_rfl) (by rfl) (fun w1 => ?_) (fun w1 hw1 => ?_) ?_
            · simp only [pk, nthSp, lexVals]
              rfl
            · simp only [pk, nthSp, lexVals]
              go_simp
              exact ⟨Ext.refl _, rfl⟩
            refine lx_ge (.string S) [(0, 72), (4, 68)] 68 (by kernel_rfl) rfl (by kernel_rfl) (by rfl) (fun w1 => ?_) (fun w1 hw1 => ?_) ?_
            · simp only [pk, nthSp, lexVals]
              rfl
            · simp only [pk, nthSp, lexVals]
              have q := HCk.out w1 (HX.out w1 hw1)
              clear hw1
              go_simp
              exact ⟨Ext.refl _, rfl⟩
            refine lx_ge (.pointer (some ⟨g, 2, none⟩)) [(5, 68)] 68 (by kernel_rfl) rfl (by kernel_rfl) (by rfl) (fun w1 => ?_) (fun w1 hw1 => ?_) ?_
            · simp only [pk, nthSp, lexVals]
              rfl
            · simp only [pk, nthSp, lexVals]
              go_simp
              exact ⟨Ext.refl _, rfl⟩
            refine lx_ge (.slice (some ⟨bt, offt, none⟩) tn tc) [(0, 74), (6, 68)] 68 (by kernel_rfl) rfl (by kernel_rfl) (by rfl) (fun w1 => ?_) (fun w1 hw1 => ?_) ?_
            · simp only [pk, nthSp, lexVals]
              rfl
            · simp only [pk, nthSp, lexVals]
              have q := (ch_cell ((HX.out w1 hw1).keep HB.out)).2.2.1
              clear hw1
              go_simp
              exact ⟨Ext.refl _, rfl⟩
            refine lx_ge (.int .i64 ((j + 1 : Nat) : Int)) [(7, 68)] 68 (by kernel_rfl) rfl (by kernel_rfl) (by rfl) (fun w1 => ?_) (fun w1 hw1 => ?_) ?_
            · simp only [pk, nthSp, lexVals]
              rfl
            · simp only [pk, nthSp, lexVals]
              go_simp
              exact ⟨Ext.refl _, rfl⟩
            refine lx_ge (.int .i64 (j : Int)) [(0, 76), (8, 68)] 68 (by kernel_rfl) rfl (by kernel_rfl) (by rfl) (fun w1 => ?_) (fun w1 hw1 => ?_) ?_
            · simp only [pk, nthSp, lexVals]
              rfl
            · simp only [pk, nthSp, lexVals]
              go_simp
              exact ⟨Ext.refl _, rfl⟩
            refine lx_ge (.pointer (some ⟨bt, offt + j, none⟩)) [(2, 75), (0, 77), (9, 68)] 68 (by kernel_rfl) rfl (by kernel_rfl) (by rfl) (fun w1 => ?_) (fun w1 hw1 => ?_) ?_
            · simp only [pk, nthSp, lexVals]
              rfl
            · simp only [pk, nthSp, lexVals]
              go_simp
              exact ⟨Ext.refl _, rfl⟩
            refine lx_ge (.string S') [(0, 78), (10, 68)] 68 (by kernel_rfl) rfl (by kernel_rfl) (by rfl) (fun w1 => ?_) (fun w1 hw1 => ?_) ?_
            · simp only [pk, nthSp, lexVals]
              rfl
            · simp only [pk, nthSp, lexVals]
              have q := HCj.out w1 (HX.out w1 hw1)
              clear hw1
              go_simp
              exact ⟨Ext.refl _, rfl⟩
            refine lx_ge (.bool (!lessS S' S)) [(6, 73), (0, 79), (11, 68)] 68 (by kernel_rfl) rfl (by kernel_rfl) (by rfl) (fun w1 => ?_) (fun w1 hw1 => ?_) ?_
            · simp only [pk, nthSp, lexVals]
              rfl
            · simp only [pk, nthSp, lexVals]
              clear hw1
              go_simp
              exact ⟨Ext.refl _, by rw [← HLe.out]; rfl⟩
            refine lx_ge (.bool (!lessS S' S)) [(12, 68), (0, 80), (15, 65)] 65 (by kernel_rfl) rfl (by kernel_rfl) (by rfl) (fun w1 => ?_) (fun w1 hw1 => ?_) ?_
            · simp only [pk, nthSp, lexVals]
              rfl
            · simp only [pk, nthSp, lexVals]
              go_simp
              exact ⟨Ext.refl _, rfl⟩
            refine lx_e (.bool (!lessS S' S)) [(16, 65), (0, 81)] (by kernel_rfl) rfl (by rfl) (fun w1 hw1 => ?_) ?_
            · simp only [pk, nthSp, lexVals]
              go_simp
              exact ⟨Ext.refl _, rfl⟩
            refine lx_stopA (by rfl) fun w5 hw5 => ?_
            have HE5 := Lib.hid (HX.out w5 hw5)
            clear hw5
            simp only [rv, pf, lexVals]
            simp only [Act.put, List.setIfInBounds_toArray, List.set_cons_zero, List.set_cons_succ]
            cases hl : lessS S' S with
            | false =>
              have HB2 := Lib.hid (HBad.out (by rw [HOk3.out]; exact hl))
              clear hl
              go_wp2
              go_ret
              exact ⟨by rw [HB2.out]; rfl, HE2.out.trans HE5.out⟩
            | true =>
              have HT2 := Lib.hid (show tagsN ss (j + 1 + 1) = true by rw [HT.out, HOk3.out]; exact hl)
              clear hl
              go_wp2
              go_roundw
              case rel => exact ⟨j + 1 + 1, by omega, by go_num, HT2.out, HE5.out⟩
              case measure => simp [intOf]; omega
      · obtain rfl : k = tn := by omega
        have HB2 := Lib.hid (show R = true by rw [HR.out]; exact hok)
        have x1 : ¬ (k : Int) < (k : Int) := by omega
        clear hok
        go_wp2
        go_ret
        exact ⟨by rw [HB2.out]; rfl, HE2.out.trans HE.out⟩
  · obtain ⟨xe1, xe2⟩ := ba_not hv0
    have e3 : (if (3 : Int) = 2 then decide (tn = 0 ∧ value.size = 0) else if (3 : Int) = 3 then decide (value.size = 0) else decide ((3 : Int) = 1)) = false := by rw [if_neg (by decide), if_pos rfl]; exact decide_eq_false hv0
    have hR : R = false := by rw [HRes.out, e3]; simp
    clear e3
    have HR := Lib.hid hR
    clear hR HRes
    go_enter Try.func31, Try.ntmps31
    go_upto_region 1 with (fail)
    refine wp_world (w' := w2) Hw2.out ?_
    rw [Hg.out]
    clear Hw2
    go_wp2_with fail
    refine HN0.out.mono ?_
    rintro e w3 ⟨rfl, rfl⟩
    go_wp2
    go_ret
    exact ⟨by rw [HR.out]; rfl, HE2.out⟩

end Go.Proofs.Ytldaligeckjhaaa
