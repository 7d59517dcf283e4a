/-
  Whether a header is formed, in plain words. No conditions.
  The walk of entry.placed. No conditions.
  The walk of entry.Formed. No conditions.
-/
import Derived.Test.YtihlpfdhallfpaaDoorHdA
import Derived.Test.YtihlpfdhallfpaaDoorNum
namespace Go.Proofs.YtihlpfdhallfpaaDoor
open Go.ChangeAt Go.ChangeShapes Go.RowKit Go.WideShapes

/-- Whether a header's numbers may be. -/
def knB (h : Hd) (k : Nat) : Bool := (List.range k).all fun i => decide (h.knows i ≤ 1048576)
theorem knB_succ (h : Hd) (k : Nat) : knB h (k + 1) = (knB h k && decide (h.knows k ≤ 1048576)) := by
  unfold knB
  rw [List.range_succ, List.all_append]
  simp
theorem knB_bad (h : Hd) (k n : Nat) (hk : k < n) (hb : ¬ h.knows k ≤ 1048576) : knB h n = false := by
  unfold knB
  rw [List.all_eq_false]
  exact ⟨k, List.mem_range.2 hk, by simpa using hb⟩
def numsB (h : Hd) : Bool := decide (1 ≤ h.writer ∧ h.writer ≤ 6 ∧ 1 ≤ h.seq ∧ h.seq ≤ 1048576 ∧ 0 ≤ h.epoch ∧ h.epoch ≤ 255 ∧ h.time ≤ 1099511627776 ∧ h.knows (h.writer - 1).toNat = h.seq - 1)
def placedB (h : Hd) : Bool := numsB h && (knB h 6 && (decide (1 < h.seq) || zeroB 32 h.prev))
/-- Whether a header is formed. -/
def hdB (h : Hd) (ts : List (Nat → Int)) : Bool := placedB h && decide (h.tn ≤ 8) && risesB ts && isB (h.size - 16) && (!h.ctl || (decide (h.tn = 0) && zeroB 16 h.item))

set_option maxHeartbeats 4000000 in
set_option maxRecDepth 100000 in
theorem placed_any (h : Hd) (w : World) (ho : HdOk h) :
    Calls Tryd.prog 64 #[.agg (hdV h)] w fun e w' => e = .returned (.bool (placedB h)) ∧ Ext w w' := by
  obtain ⟨w2, hw2⟩ : ∃ w2, w.alloc (.cells (hdV h) 34) = w2 := ⟨_, rfl⟩
  have hE2 : Ext w w2 := by rw [← hw2]; exact (Ext.refl w).alloc _
  have hB2 : w2.heap[w.heap.size]? = some (.cells (hdV h) 34 (0, 0)) := by rw [← hw2]; exact heap_new w _ _ rfl
  have Hw2 := Lib.hid hw2
  have HE2 := Lib.hid hE2
  obtain ⟨g, hg⟩ : ∃ g, w.heap.size = g := ⟨_, rfl⟩
  rw [hg] at hB2
  have HB2 := Lib.hid hB2
  have Hg := Lib.hid hg
  have c0 := hd_writer hB2
  have c1 := hd_seq hB2
  have c34 := hd_epoch hB2
  have c36 := hd_time hB2
  obtain ⟨A, hA⟩ : ∃ A, hdV h = A := ⟨_, rfl⟩
  have HA := Lib.hid hA
  have Hk := Lib.hid (hd_knows hB2)
  have Hp := Lib.hid (hd_prev hB2)
  rw [hA] at Hw2 HB2 ⊢
  have HR := Lib.hid (show placedB h = (numsB h && (knB h 6 && (decide (1 < h.seq) || zeroB 32 h.prev))) from rfl)
  have Ho := Lib.hid ho
  have s1 := ho.seq.1
  have s2 := ho.seq.2
  have s3 := ho.time.1
  have Hkn := Lib.hid ho.knows
  obtain ⟨wr, hwr⟩ : ∃ x, h.writer = x := ⟨_, rfl⟩
  obtain ⟨sq, hsq⟩ : ∃ x, h.seq = x := ⟨_, rfl⟩
  obtain ⟨ep, hep⟩ : ∃ x, h.epoch = x := ⟨_, rfl⟩
  obtain ⟨ti, hti⟩ : ∃ x, h.time = x := ⟨_, rfl⟩
  have HN := Lib.hid (show numsB h = decide (1 ≤ wr ∧ wr ≤ 6 ∧ 1 ≤ sq ∧ sq ≤ 1048576 ∧ 0 ≤ ep ∧ ep ≤ 255 ∧ ti ≤ 1099511627776 ∧ h.knows (wr - 1).toNat = sq - 1) by rw [← hwr, ← hsq, ← hep, ← hti]; rfl)
  rw [hwr] at c0
  have Hsq := Lib.hid hsq
  rw [hsq] at c1 s1 s2 HR
  rw [hep] at c34
  rw [hti] at c36 s3
  obtain ⟨R, hR⟩ : ∃ R, placedB h = R := ⟨_, rfl⟩
  rw [hR] at HR ⊢
  clear hw2 hE2 hB2 hg hA ho hwr hsq hep hti hR
  by_cases t0 : wr < 1
  · skip
    have hR : R = false := by rw [HR.out, HN.out, decide_eq_false (by omega)]; rfl
    have HF := Lib.hid hR
    clear hR HR HN
    go_enter Tryd.func64, Tryd.ntmps64
    go_upto_region 1 with (fail)
    refine wp_world (w' := w2) Hw2.out ?_
    rw [Hg.out]
    clear Hw2 Hg
    go_quiet (fail)
    go_wp2
    go_ret
    exact ⟨by rw [HF.out]; rfl, HE2.out.drewN' _⟩
  have t0' : decide (wr < 1) = false := decide_eq_false t0
  by_cases t1 : 6 < wr
  · skip
    have hR : R = false := by rw [HR.out, HN.out, decide_eq_false (by omega)]; rfl
    have HF := Lib.hid hR
    clear hR HR HN
    go_enter Tryd.func64, Tryd.ntmps64
    go_upto_region 1 with (fail)
    refine wp_world (w' := w2) Hw2.out ?_
    rw [Hg.out]
    clear Hw2 Hg
    go_quiet (fail)
    go_wp2
    go_ret
    exact ⟨by rw [HF.out]; rfl, HE2.out.drewN' _⟩
  have t1' : decide (6 < wr) = false := decide_eq_false t1
  by_cases t2 : sq < 1
  · skip
    have hR : R = false := by rw [HR.out, HN.out, decide_eq_false (by omega)]; rfl
    have HF := Lib.hid hR
    clear hR HR HN
    go_enter Tryd.func64, Tryd.ntmps64
    go_upto_region 1 with (fail)
    refine wp_world (w' := w2) Hw2.out ?_
    rw [Hg.out]
    clear Hw2 Hg
    go_quiet (fail)
    go_wp2
    go_ret
    exact ⟨by rw [HF.out]; rfl, HE2.out.drewN' _⟩
  have t2' : decide (sq < 1) = false := decide_eq_false t2
  by_cases t3 : 1048576 < sq
  · skip
    have hR : R = false := by rw [HR.out, HN.out, decide_eq_false (by omega)]; rfl
    have HF := Lib.hid hR
    clear hR HR HN
    go_enter Tryd.func64, Tryd.ntmps64
    go_upto_region 1 with (fail)
    refine wp_world (w' := w2) Hw2.out ?_
    rw [Hg.out]
    clear Hw2 Hg
    go_quiet (fail)
    go_wp2
    go_ret
    exact ⟨by rw [HF.out]; rfl, HE2.out.drewN' _⟩
  have t3' : decide (1048576 < sq) = false := decide_eq_false t3
  by_cases t4 : ep < 0
  · skip
    have hR : R = false := by rw [HR.out, HN.out, decide_eq_false (by omega)]; rfl
    have HF := Lib.hid hR
    clear hR HR HN
    go_enter Tryd.func64, Tryd.ntmps64
    go_upto_region 1 with (fail)
    refine wp_world (w' := w2) Hw2.out ?_
    rw [Hg.out]
    clear Hw2 Hg
    go_quiet (fail)
    go_wp2
    go_ret
    exact ⟨by rw [HF.out]; rfl, HE2.out.drewN' _⟩
  have t4' : decide (ep < 0) = false := decide_eq_false t4
  by_cases t5 : 255 < ep
  · skip
    have hR : R = false := by rw [HR.out, HN.out, decide_eq_false (by omega)]; rfl
    have HF := Lib.hid hR
    clear hR HR HN
    go_enter Tryd.func64, Tryd.ntmps64
    go_upto_region 1 with (fail)
    refine wp_world (w' := w2) Hw2.out ?_
    rw [Hg.out]
    clear Hw2 Hg
    go_quiet (fail)
    go_wp2
    go_ret
    exact ⟨by rw [HF.out]; rfl, HE2.out.drewN' _⟩
  have t5' : decide (255 < ep) = false := decide_eq_false t5
  by_cases t6 : 1099511627776 < ti
  · skip
    have hR : R = false := by rw [HR.out, HN.out, decide_eq_false (by omega)]; rfl
    have HF := Lib.hid hR
    clear hR HR HN
    go_enter Tryd.func64, Tryd.ntmps64
    go_upto_region 1 with (fail)
    refine wp_world (w' := w2) Hw2.out ?_
    rw [Hg.out]
    clear Hw2 Hg
    go_quiet (fail)
    go_wp2
    go_ret
    exact ⟨by rw [HF.out]; rfl, HE2.out.drewN' _⟩
  have t6' : decide (1099511627776 < ti) = false := decide_eq_false t6
  obtain ⟨j, hj⟩ : ∃ j : Nat, wr - 1 = (j : Int) := ⟨(wr - 1).toNat, by omega⟩
  have hj6 : j < 6 := by omega
  have ck := Hk.out j hj6
  have hkj := Hkn.out j hj6
  obtain ⟨hkj0, hkj1⟩ := hkj
  have w1 : IntKind.i64.wrap (wr - 1) = (j : Int) := by rw [IntKind.wrap_i64]; omega
  have w2' : IntKind.u64.wrap (sq - 1) = sq - 1 := by rw [IntKind.wrap_u64]; omega
  have hj0 : (0 : Int) ≤ (j : Int) := by omega
  have hj7 : (j : Int) < 6 := by omega
  have HN2 := Lib.hid (show numsB h = decide (h.knows j = sq - 1) by
    rw [HN.out]
    have e1 : (wr - 1).toNat = j := by omega
    rw [e1]
    by_cases h1 : h.knows j = sq - 1
    · rw [decide_eq_true h1]; exact decide_eq_true (by omega)
    · rw [decide_eq_false h1]; exact decide_eq_false (by omega))
  obtain ⟨kj, hkj⟩ : ∃ x, h.knows j = x := ⟨_, rfl⟩
  rw [hkj] at ck hkj0 hkj1 HN2
  clear hkj HN hj
  by_cases t7 : kj = sq - 1
  · have hR : R = (knB h 6 && (decide (1 < sq) || zeroB 32 h.prev)) := by rw [HR.out, HN2.out, decide_eq_true t7, Bool.true_and]
    have HF := Lib.hid hR
    have t7' : (kj != sq - 1) = false := by simpa using t7
    clear hR HR HN2 t7
    go_enter Tryd.func64, Tryd.ntmps64
    go_upto_region 1 with (fail)
    refine wp_world (w' := w2) Hw2.out ?_
    rw [Hg.out]
    clear Hw2 Hg
    go_quiet (fail)
    have HE3 := Lib.hid (HE2.out.drewN' nq)
    obtain ⟨w3, hw3⟩ : ∃ w3, w2.drewN nq = w3 := ⟨_, rfl⟩
    have hE23 : Ext w2 w3 := by rw [← hw3]; exact (Ext.refl w2).drewN' _
    have HB3 := Lib.hid (hE23.keep HB2.out)
    rw [hw3] at HE3 ⊢
    have Hp3 := Lib.hid (show ∀ i, i < 32 → w3.cell? ⟨g, 2 + i, none⟩ = some (.int .u8 (h.prev i)) from hd_prev (by have := HB3.out; rw [← HA.out] at this; exact this))
    have Hk3 := Lib.hid (show ∀ i, i < 6 → w3.cell? ⟨g, 54 + i, none⟩ = some (.int .u64 (h.knows i)) from hd_knows (by have := HB3.out; rw [← HA.out] at this; exact this))
    have c1' := hd_seq (h := h) (by have := HB3.out; rw [← HA.out] at this; exact this)
    rw [Hsq.out] at c1'
    have Hix := Lib.hid (show ∀ (w : World) (k : Nat), k < 6 → _ from fun w k hk => index_k6 w h.knows k hk)
    have hz := zero_h32
    have he := fun w => eql_h32 w h.prev
    clear hE23 hw3 HB3 HB2 HE2 ck c0 c1 c34 c36
    go_wp2_with (refine wp_sub rfl 32 _ rfl g 54 6 (fun j => .int .u64 (h.knows j)) rfl Tryd.underlying32 (size_k6 _) Hk3.out ?_)
    go_loopw [52] (fun i wq => ∃ k : Nat, k ≤ 6 ∧ i = .int .i64 (k : Int) ∧ knB h k = true ∧ wq = w3) (fun i _ => 6 - (intOf i).toNat)
    case atStart => exact ⟨0, Nat.zero_le _, rfl, rfl, rfl⟩
    case round =>
      obtain ⟨k, hk, rfl, hok, rfl⟩ := hrel
      by_cases hlt : k < 6
      · have x1 : (k : Int) < 6 := by omega
        have hs := knB_succ h k
        rw [hok, Bool.true_and] at hs
        have hi := fun w => Hix.out w k hlt
        have HBad := Lib.hid (fun (hb : ¬ h.knows k ≤ 1048576) => knB_bad h k 6 hlt hb)
        obtain ⟨K, hK⟩ : ∃ K, h.knows k = K := ⟨_, rfl⟩
        rw [hK] at hs hi HBad
        have HS := Lib.hid hs
        clear hs hok hK
        by_cases hb : K ≤ 1048576
        · have x2 : ¬ 1048576 < K := by omega
          have HS2 := Lib.hid (show knB h (k + 1) = true by rw [HS.out]; exact decide_eq_true hb)
          clear hb
          go_wp2
          go_roundw
          case rel => exact ⟨k + 1, by omega, by go_num, HS2.out, by first | rfl | trivial⟩
          case measure => simp [intOf]; omega
        · have x2 : 1048576 < K := by omega
          have HRf := Lib.hid (show R = false by rw [HF.out, HBad.out hb]; rfl)
          clear hb
          go_wp2
          go_ret
          exact ⟨by rw [HRf.out]; rfl, HE3.out⟩
      · obtain rfl : k = 6 := by omega
        have HR2 := Lib.hid (show R = (decide (1 < sq) || zeroB 32 h.prev) by rw [HF.out, hok, Bool.true_and])
        clear hok
        by_cases hs1 : 1 < sq
        · have HR3 := Lib.hid (show R = true by rw [HR2.out, decide_eq_true hs1]; rfl)
          go_wp2
          go_ret
          exact ⟨by rw [HR3.out]; rfl, HE3.out⟩
        · have HR3 := Lib.hid (show R = zeroB 32 h.prev by rw [HR2.out, decide_eq_false hs1]; rfl)
          go_wp2_with (refine wp_sub rfl 28 _ rfl g 2 32 (fun j => .int .u8 (h.prev j)) rfl Tryd.underlying28 (size_h32 _) Hp3.out ?_)
          go_ret
          exact ⟨by rw [HR3.out]; rfl, HE3.out⟩
  · have t7' : (kj != sq - 1) = true := by simpa using t7
    have hR : R = false := by rw [HR.out, HN2.out, decide_eq_false t7]; rfl
    have HF := Lib.hid hR
    clear hR HR HN2
    go_enter Tryd.func64, Tryd.ntmps64
    go_upto_region 1 with (fail)
    refine wp_world (w' := w2) Hw2.out ?_
    rw [Hg.out]
    clear Hw2 Hg
    go_quiet (fail)
    go_wp2
    go_ret
    exact ⟨by rw [HF.out]; rfl, HE2.out.drewN' _⟩

theorem isB_wrap (s : Int) (h : -9223372036854775808 ≤ s ∧ s ≤ 9223372036854775807) : isB (IntKind.i64.wrap (s - 16)) = isB (s - 16) := by
  by_cases h1 : -9223372036854775792 ≤ s
  · rw [show IntKind.i64.wrap (s - 16) = s - 16 by rw [IntKind.wrap_i64]; omega]
  · have h2 : IntKind.i64.wrap (s - 16) = s - 16 + 18446744073709551616 := by rw [IntKind.wrap_i64]; omega
    rw [h2]
    unfold isB
    rw [decide_eq_false (by omega), decide_eq_false (by omega)]

set_option maxHeartbeats 4000000 in
set_option maxRecDepth 100000 in
theorem formedHd_any (h : Hd) (ts : List (Nat → Int)) (w : World) (ho : HdOk h) (ht : TsAt w h.ta h.tn h.tc ts) :
    Calls Tryd.prog 46 #[.agg (hdV h)] w fun e w' => e = .returned (.bool (hdB h ts)) ∧ Ext w w' := by
  obtain ⟨w2, hw2⟩ : ∃ w2, w.alloc (.cells (hdV h) 34) = w2 := ⟨_, rfl⟩
  have hE2 : Ext w w2 := by rw [← hw2]; exact (Ext.refl w).alloc _
  have hB2 : w2.heap[w.heap.size]? = some (.cells (hdV h) 34 (0, 0)) := by rw [← hw2]; exact heap_new w _ _ rfl
  have Hw2 := Lib.hid hw2
  have HE2 := Lib.hid hE2
  obtain ⟨g, hg⟩ : ∃ g, w.heap.size = g := ⟨_, rfl⟩
  rw [hg] at hB2
  have HB2 := Lib.hid hB2
  have Hg := Lib.hid hg
  have HP := Lib.hid (placed_any h w2 ho)
  have HT := Lib.hid ht
  have hsm := ht.small
  have Hsz := Lib.hid (hdV_size h)
  obtain ⟨M, hM⟩ : ∃ M, IntKind.i64.wrap (h.size - 16) = M := ⟨_, rfl⟩
  have hMb : -9223372036854775808 ≤ M ∧ M ≤ 9223372036854775807 := by rw [← hM, IntKind.wrap_i64]; omega
  have HI := Lib.hid (fun w => padIs_any M w hMb.1 hMb.2)
  have HR := Lib.hid (show hdB h ts = (placedB h && decide (h.tn ≤ 8) && risesB ts && isB M && (!h.ctl || (decide (h.tn = 0) && zeroB 16 h.item))) by rw [← hM, isB_wrap h.size ho.size]; rfl)
  obtain ⟨R, hR⟩ : ∃ R, hdB h ts = R := ⟨_, rfl⟩
  rw [hR] at HR ⊢
  have HM := Lib.hid hM
  have hz := zero_t16
  have he := fun w => eql_t16 w h.item
  obtain ⟨tn, htn⟩ : ∃ n, h.tn = n := ⟨_, rfl⟩
  obtain ⟨ctl, hctl⟩ : ∃ c, h.ctl = c := ⟨_, rfl⟩
  have Htn := Lib.hid htn
  have Hctl := Lib.hid hctl
  have HSt := Lib.hid (show ∀ w', Ext w w' → Calls Tryd.prog 65 #[.slice h.ta tn h.tc] w' fun e w'' => e = .returned (.bool (risesB ts)) ∧ Ext w' w'' from fun w' h' => by
    have := sorted_any h.ta h.tn h.tc ts w' (ht.ext h')
    rw [htn] at this
    exact this)
  rw [htn] at HR hsm
  rw [hctl] at HR
  clear hw2 hE2 hB2 hg ho ht hM hMb hR htn hctl
  cases hp : placedB h with
  | false =>
    rw [hp] at HP HR
    clear hp
    have HF := Lib.hid (show R = false by rw [HR.out]; simp)
    clear HR
    go_enter Tryd.func46, Tryd.ntmps46
    go_upto_region 1 with (fail)
    refine wp_world (w' := w2) Hw2.out ?_
    rw [Hg.out]
    clear Hw2
    go_wp2_with (refine wpList_load_rowW rfl 34 _ rfl g rfl _ _ _ _ HB2.out Tryd.underlying34 rfl (by rw [Hsz.out]; kernel_rfl) ?_)
    refine HP.out.mono ?_
    rintro e w3 ⟨rfl, hE⟩
    have HE3 := Lib.hid (HE2.out.trans hE)
    have HB3 := Lib.hid (hE.keep HB2.out)
    have c53 := hd_toks HB3.out
    rw [Htn.out] at c53
    clear hE
    go_wp2
    go_ret
    exact ⟨by rw [HF.out]; rfl, HE3.out⟩
  | true =>
    rw [hp] at HP HR
    clear hp
    by_cases h8 : 8 < tn
    · have x8 : (8 : Int) < (tn : Int) := by omega
      have HF := Lib.hid (show R = false by rw [HR.out, decide_eq_false (by omega : ¬ tn ≤ 8)]; simp)
      clear HR
      go_enter Tryd.func46, Tryd.ntmps46
      go_upto_region 1 with (fail)
      refine wp_world (w' := w2) Hw2.out ?_
      rw [Hg.out]
      clear Hw2
      go_wp2_with (refine wpList_load_rowW rfl 34 _ rfl g rfl _ _ _ _ HB2.out Tryd.underlying34 rfl (by rw [Hsz.out]; kernel_rfl) ?_)
      refine HP.out.mono ?_
      rintro e w3 ⟨rfl, hE⟩
      have HE3 := Lib.hid (HE2.out.trans hE)
      have HB3 := Lib.hid (hE.keep HB2.out)
      have c53 := hd_toks HB3.out
      rw [Htn.out] at c53
      clear hE
      go_wp2
      go_ret
      exact ⟨by rw [HF.out]; rfl, HE3.out⟩
    have x8 : ¬ (8 : Int) < (tn : Int) := by omega
    have HR := Lib.hid (show R = (risesB ts && isB M && (!ctl || (decide (tn = 0) && zeroB 16 h.item))) by rw [HR.out, decide_eq_true (by omega : tn ≤ 8)]; simp)
    cases hr : risesB ts with
    | false =>
      rw [hr] at HSt HR
      clear hr
      have HF := Lib.hid (show R = false by rw [HR.out]; simp)
      clear HR
      go_enter Tryd.func46, Tryd.ntmps46
      go_upto_region 1 with (fail)
      refine wp_world (w' := w2) Hw2.out ?_
      rw [Hg.out]
      clear Hw2
      go_wp2_with (refine wpList_load_rowW rfl 34 _ rfl g rfl _ _ _ _ HB2.out Tryd.underlying34 rfl (by rw [Hsz.out]; kernel_rfl) ?_)
      refine HP.out.mono ?_
      rintro e w3 ⟨rfl, hE⟩
      have HE3 := Lib.hid (HE2.out.trans hE)
      have HB3 := Lib.hid (hE.keep HB2.out)
      have c53 := hd_toks HB3.out
      rw [Htn.out] at c53
      clear hE
      go_wp2_with fail
      refine (HSt.out w3 HE3.out).mono ?_
      rintro e w4 ⟨rfl, hE⟩
      have HE4 := Lib.hid (HE3.out.trans hE)
      have HB4 := Lib.hid (hE.keep HB3.out)
      have c92 := hd_size HB4.out
      have hM := HM.out
      clear hE c53
      go_wp2
      go_ret
      exact ⟨by rw [HF.out]; rfl, HE4.out⟩
    | true =>
      rw [hr] at HSt HR
      clear hr
      cases hi : isB M with
      | false =>
        rw [hi] at HI HR
        clear hi
        have HF := Lib.hid (show R = false by rw [HR.out]; simp)
        clear HR
        go_enter Tryd.func46, Tryd.ntmps46
        go_upto_region 1 with (fail)
        refine wp_world (w' := w2) Hw2.out ?_
        rw [Hg.out]
        clear Hw2
        go_wp2_with (refine wpList_load_rowW rfl 34 _ rfl g rfl _ _ _ _ HB2.out Tryd.underlying34 rfl (by rw [Hsz.out]; kernel_rfl) ?_)
        refine HP.out.mono ?_
        rintro e w3 ⟨rfl, hE⟩
        have HE3 := Lib.hid (HE2.out.trans hE)
        have HB3 := Lib.hid (hE.keep HB2.out)
        have c53 := hd_toks HB3.out
        rw [Htn.out] at c53
        clear hE
        go_wp2_with fail
        refine (HSt.out w3 HE3.out).mono ?_
        rintro e w4 ⟨rfl, hE⟩
        have HE4 := Lib.hid (HE3.out.trans hE)
        have HB4 := Lib.hid (hE.keep HB3.out)
        have c92 := hd_size HB4.out
        have hM := HM.out
        clear hE c53
        go_wp2_with fail
        refine (HI.out w4).mono ?_
        rintro e w5 ⟨rfl, rfl⟩
        have c35 := hd_ctl HB4.out
        have c53 := hd_toks HB4.out
        rw [Htn.out] at c53
        rw [Hctl.out] at c35
        have Hit := Lib.hid (hd_item HB4.out)
        clear hM c92
        go_wp2
        go_ret
        exact ⟨by rw [HF.out]; rfl, HE4.out⟩
      | true =>
        rw [hi] at HI HR
        clear hi
        cases ctl with
        | false =>
          have HF := Lib.hid (show R = true by rw [HR.out]; simp)
          clear HR
          go_enter Tryd.func46, Tryd.ntmps46
          go_upto_region 1 with (fail)
          refine wp_world (w' := w2) Hw2.out ?_
          rw [Hg.out]
          clear Hw2
          go_wp2_with (refine wpList_load_rowW rfl 34 _ rfl g rfl _ _ _ _ HB2.out Tryd.underlying34 rfl (by rw [Hsz.out]; kernel_rfl) ?_)
          refine HP.out.mono ?_
          rintro e w3 ⟨rfl, hE⟩
          have HE3 := Lib.hid (HE2.out.trans hE)
          have HB3 := Lib.hid (hE.keep HB2.out)
          have c53 := hd_toks HB3.out
          rw [Htn.out] at c53
          clear hE
          go_wp2_with fail
          refine (HSt.out w3 HE3.out).mono ?_
          rintro e w4 ⟨rfl, hE⟩
          have HE4 := Lib.hid (HE3.out.trans hE)
          have HB4 := Lib.hid (hE.keep HB3.out)
          have c92 := hd_size HB4.out
          have hM := HM.out
          clear hE c53
          go_wp2_with fail
          refine (HI.out w4).mono ?_
          rintro e w5 ⟨rfl, rfl⟩
          have c35 := hd_ctl HB4.out
          have c53 := hd_toks HB4.out
          rw [Htn.out] at c53
          rw [Hctl.out] at c35
          have Hit := Lib.hid (hd_item HB4.out)
          clear hM c92
          go_wp2
          go_ret
          exact ⟨by rw [HF.out]; rfl, HE4.out⟩
        | true =>
          by_cases h0 : tn = 0
          · subst h0
            have HF := Lib.hid (show R = zeroB 16 h.item by rw [HR.out]; simp)
            clear HR
            go_enter Tryd.func46, Tryd.ntmps46
            go_upto_region 1 with (fail)
            refine wp_world (w' := w2) Hw2.out ?_
            rw [Hg.out]
            clear Hw2
            go_wp2_with (refine wpList_load_rowW rfl 34 _ rfl g rfl _ _ _ _ HB2.out Tryd.underlying34 rfl (by rw [Hsz.out]; kernel_rfl) ?_)
            refine HP.out.mono ?_
            rintro e w3 ⟨rfl, hE⟩
            have HE3 := Lib.hid (HE2.out.trans hE)
            have HB3 := Lib.hid (hE.keep HB2.out)
            have c53 := hd_toks HB3.out
            rw [Htn.out] at c53
            clear hE
            go_wp2_with fail
            refine (HSt.out w3 HE3.out).mono ?_
            rintro e w4 ⟨rfl, hE⟩
            have HE4 := Lib.hid (HE3.out.trans hE)
            have HB4 := Lib.hid (hE.keep HB3.out)
            have c92 := hd_size HB4.out
            have hM := HM.out
            clear hE c53
            go_wp2_with fail
            refine (HI.out w4).mono ?_
            rintro e w5 ⟨rfl, rfl⟩
            have c35 := hd_ctl HB4.out
            have c53 := hd_toks HB4.out
            rw [Htn.out] at c53
            rw [Hctl.out] at c35
            have Hit := Lib.hid (hd_item HB4.out)
            clear hM c92
            go_wp2_with (refine wp_sub rfl 30 _ rfl g 37 16 (fun j => .int .u8 (h.item j)) rfl Tryd.underlying30 (size_tok _) Hit.out ?_)
            go_ret
            exact ⟨by rw [HF.out]; rfl, HE4.out⟩
          · have x0 : ¬ (tn : Int) = 0 := by omega
            have x0' : ((tn : Int) == 0) = false := by simpa using x0
            have HF := Lib.hid (show R = false by rw [HR.out, decide_eq_false h0]; simp)
            clear HR
            go_enter Tryd.func46, Tryd.ntmps46
            go_upto_region 1 with (fail)
            refine wp_world (w' := w2) Hw2.out ?_
            rw [Hg.out]
            clear Hw2
            go_wp2_with (refine wpList_load_rowW rfl 34 _ rfl g rfl _ _ _ _ HB2.out Tryd.underlying34 rfl (by rw [Hsz.out]; kernel_rfl) ?_)
            refine HP.out.mono ?_
            rintro e w3 ⟨rfl, hE⟩
            have HE3 := Lib.hid (HE2.out.trans hE)
            have HB3 := Lib.hid (hE.keep HB2.out)
            have c53 := hd_toks HB3.out
            rw [Htn.out] at c53
            clear hE
            go_wp2_with fail
            refine (HSt.out w3 HE3.out).mono ?_
            rintro e w4 ⟨rfl, hE⟩
            have HE4 := Lib.hid (HE3.out.trans hE)
            have HB4 := Lib.hid (hE.keep HB3.out)
            have c92 := hd_size HB4.out
            have hM := HM.out
            clear hE c53
            go_wp2_with fail
            refine (HI.out w4).mono ?_
            rintro e w5 ⟨rfl, rfl⟩
            have c35 := hd_ctl HB4.out
            have c53 := hd_toks HB4.out
            rw [Htn.out] at c53
            rw [Hctl.out] at c35
            have Hit := Lib.hid (hd_item HB4.out)
            clear hM c92
            go_wp2
            go_ret
            exact ⟨by rw [HF.out]; rfl, HE4.out⟩

end Go.Proofs.YtihlpfdhallfpaaDoor
