/-
  The walk of entry.placed. No conditions.
-/
import Derived.Test.YtldaligeckjhaaaHd
namespace Go.Proofs.Ytldaligeckjhaaa
open Go.ChangeShapes Go.WideShapes Go.ChangeAt Go.RowKit

set_option maxHeartbeats 4000000 in
set_option maxRecDepth 100000 in
theorem placed_any (h : Hd) (w : World) (ho : HdOk h) :
    Calls Try.prog 68 #[.agg (hdV h)] w fun e w' => e = .returned (.bool (placedB h)) ∧ Ext w w' := by
  obtain ⟨w2, hw2⟩ : ∃ w2, w.alloc (.cells (hdV h) 31) = w2 := ⟨_, rfl⟩
  have hE2 : Ext w w2 := by rw [← hw2]; exact (Ext.refl w).alloc _
  have hB2 : w2.heap[w.heap.size]? = some (.cells (hdV h) 31 (0, 0)) := by rw [← hw2]; exact heap_new w _ _ rfl
  have Hw2 := Lib.hid hw2
  have HE2 := Lib.hid hE2
  obtain ⟨g, hg⟩ : ∃ g, w.heap.size = g := ⟨_, rfl⟩
  rw [hg] at hB2
  have HB2 := Lib.hid hB2
  have Hg := Lib.hid hg
  have c0 := hd_writer hB2
  have c1 := hd_seq hB2
  have c34 := hd_epoch hB2
  have c36 := hd_time hB2
  obtain ⟨A, hA⟩ : ∃ A, hdV h = A := ⟨_, rfl⟩
  have HA := Lib.hid hA
  have Hk := Lib.hid (hd_knows hB2)
  have Hp := Lib.hid (hd_prev hB2)
  rw [hA] at Hw2 HB2 ⊢
  have HR := Lib.hid (show placedB h = (numsB h && (knB h 6 && (decide (1 < h.seq) || zeroB 32 h.prev))) from rfl)
  have Ho := Lib.hid ho
  have s1 := ho.seq.1
  have s2 := ho.seq.2
  have s3 := ho.time.1
  have Hkn := Lib.hid ho.knows
  obtain ⟨wr, hwr⟩ : ∃ x, h.writer = x := ⟨_, rfl⟩
  obtain ⟨sq, hsq⟩ : ∃ x, h.seq = x := ⟨_, rfl⟩
  obtain ⟨ep, hep⟩ : ∃ x, h.epoch = x := ⟨_, rfl⟩
  obtain ⟨ti, hti⟩ : ∃ x, h.time = x := ⟨_, rfl⟩
  have HN := Lib.hid (show numsB h = decide (1 ≤ wr ∧ wr ≤ 6 ∧ 1 ≤ sq ∧ sq ≤ 1048576 ∧ 0 ≤ ep ∧ ep ≤ 255 ∧ ti ≤ 1099511627776 ∧ h.knows (wr - 1).toNat = sq - 1) by rw [← hwr, ← hsq, ← hep, ← hti]; rfl)
  rw [hwr] at c0
  have Hsq := Lib.hid hsq
  rw [hsq] at c1 s1 s2 HR
  rw [hep] at c34
  rw [hti] at c36 s3
  obtain ⟨R, hR⟩ : ∃ R, placedB h = R := ⟨_, rfl⟩
  rw [hR] at HR ⊢
  clear hw2 hE2 hB2 hg hA ho hwr hsq hep hti hR
  by_cases t0 : wr < 1
  · skip
    have hR : R = false := by rw [HR.out, HN.out, decide_eq_false (by omega)]; rfl
    have HF := Lib.hid hR
    clear hR HR HN
    go_enter Try.func68, Try.ntmps68
    go_upto_region 1 with (fail)
    refine wp_world (w' := w2) Hw2.out ?_
    rw [Hg.out]
    clear Hw2 Hg
    go_quiet (fail)
    go_wp2
    go_ret
    exact ⟨by rw [HF.out]; rfl, HE2.out.drewN' _⟩
  have t0' : decide (wr < 1) = false := decide_eq_false t0
  by_cases t1 : 6 < wr
  · skip
    have hR : R = false := by rw [HR.out, HN.out, decide_eq_false (by omega)]; rfl
    have HF := Lib.hid hR
    clear hR HR HN
    go_enter Try.func68, Try.ntmps68
    go_upto_region 1 with (fail)
    refine wp_world (w' := w2) Hw2.out ?_
    rw [Hg.out]
    clear Hw2 Hg
    go_quiet (fail)
    go_wp2
    go_ret
    exact ⟨by rw [HF.out]; rfl, HE2.out.drewN' _⟩
  have t1' : decide (6 < wr) = false := decide_eq_false t1
  by_cases t2 : sq < 1
  · skip
    have hR : R = false := by rw [HR.out, HN.out, decide_eq_false (by omega)]; rfl
    have HF := Lib.hid hR
    clear hR HR HN
    go_enter Try.func68, Try.ntmps68
    go_upto_region 1 with (fail)
    refine wp_world (w' := w2) Hw2.out ?_
    rw [Hg.out]
    clear Hw2 Hg
    go_quiet (fail)
    go_wp2
    go_ret
    exact ⟨by rw [HF.out]; rfl, HE2.out.drewN' _⟩
  have t2' : decide (sq < 1) = false := decide_eq_false t2
  by_cases t3 : 1048576 < sq
  · skip
    have hR : R = false := by rw [HR.out, HN.out, decide_eq_false (by omega)]; rfl
    have HF := Lib.hid hR
    clear hR HR HN
    go_enter Try.func68, Try.ntmps68
    go_upto_region 1 with (fail)
    refine wp_world (w' := w2) Hw2.out ?_
    rw [Hg.out]
    clear Hw2 Hg
    go_quiet (fail)
    go_wp2
    go_ret
    exact ⟨by rw [HF.out]; rfl, HE2.out.drewN' _⟩
  have t3' : decide (1048576 < sq) = false := decide_eq_false t3
  by_cases t4 : ep < 0
  · skip
    have hR : R = false := by rw [HR.out, HN.out, decide_eq_false (by omega)]; rfl
    have HF := Lib.hid hR
    clear hR HR HN
    go_enter Try.func68, Try.ntmps68
    go_upto_region 1 with (fail)
    refine wp_world (w' := w2) Hw2.out ?_
    rw [Hg.out]
    clear Hw2 Hg
    go_quiet (fail)
    go_wp2
    go_ret
    exact ⟨by rw [HF.out]; rfl, HE2.out.drewN' _⟩
  have t4' : decide (ep < 0) = false := decide_eq_false t4
  by_cases t5 : 255 < ep
  · skip
    have hR : R = false := by rw [HR.out, HN.out, decide_eq_false (by omega)]; rfl
    have HF := Lib.hid hR
    clear hR HR HN
    go_enter Try.func68, Try.ntmps68
    go_upto_region 1 with (fail)
    refine wp_world (w' := w2) Hw2.out ?_
    rw [Hg.out]
    clear Hw2 Hg
    go_quiet (fail)
    go_wp2
    go_ret
    exact ⟨by rw [HF.out]; rfl, HE2.out.drewN' _⟩
  have t5' : decide (255 < ep) = false := decide_eq_false t5
  by_cases t6 : 1099511627776 < ti
  · skip
    have hR : R = false := by rw [HR.out, HN.out, decide_eq_false (by omega)]; rfl
    have HF := Lib.hid hR
    clear hR HR HN
    go_enter Try.func68, Try.ntmps68
    go_upto_region 1 with (fail)
    refine wp_world (w' := w2) Hw2.out ?_
    rw [Hg.out]
    clear Hw2 Hg
    go_quiet (fail)
    go_wp2
    go_ret
    exact ⟨by rw [HF.out]; rfl, HE2.out.drewN' _⟩
  have t6' : decide (1099511627776 < ti) = false := decide_eq_false t6
  obtain ⟨j, hj⟩ : ∃ j : Nat, wr - 1 = (j : Int) := ⟨(wr - 1).toNat, by omega⟩
  have hj6 : j < 6 := by omega
  have ck := Hk.out j hj6
  have hkj := Hkn.out j hj6
  obtain ⟨hkj0, hkj1⟩ := hkj
  have w1 : IntKind.i64.wrap (wr - 1) = (j : Int) := by rw [IntKind.wrap_i64]; omega
  have w2' : IntKind.u64.wrap (sq - 1) = sq - 1 := by rw [IntKind.wrap_u64]; omega
  have hj0 : (0 : Int) ≤ (j : Int) := by omega
  have hj7 : (j : Int) < 6 := by omega
  have HN2 := Lib.hid (show numsB h = decide (h.knows j = sq - 1) by
    rw [HN.out]
    have e1 : (wr - 1).toNat = j := by omega
    rw [e1]
    by_cases h1 : h.knows j = sq - 1
    · rw [decide_eq_true h1]; exact decide_eq_true (by omega)
    · rw [decide_eq_false h1]; exact decide_eq_false (by omega))
  obtain ⟨kj, hkj⟩ : ∃ x, h.knows j = x := ⟨_, rfl⟩
  rw [hkj] at ck hkj0 hkj1 HN2
  clear hkj HN hj
  by_cases t7 : kj = sq - 1
  · have hR : R = (knB h 6 && (decide (1 < sq) || zeroB 32 h.prev)) := by rw [HR.out, HN2.out, decide_eq_true t7, Bool.true_and]
    have HF := Lib.hid hR
    have t7' : (kj != sq - 1) = false := by simpa using t7
    clear hR HR HN2 t7
    go_enter Try.func68, Try.ntmps68
    go_upto_region 1 with (fail)
    refine wp_world (w' := w2) Hw2.out ?_
    rw [Hg.out]
    clear Hw2 Hg
    go_quiet (fail)
    have HE3 := Lib.hid (HE2.out.drewN' nq)
    obtain ⟨w3, hw3⟩ : ∃ w3, w2.drewN nq = w3 := ⟨_, rfl⟩
    have hE23 : Ext w2 w3 := by rw [← hw3]; exact (Ext.refl w2).drewN' _
    have HB3 := Lib.hid (hE23.keep HB2.out)
    rw [hw3] at HE3 ⊢
    have Hp3 := Lib.hid (show ∀ i, i < 32 → w3.cell? ⟨g, 2 + i, none⟩ = some (.int .u8 (h.prev i)) from hd_prev (by have := HB3.out; rw [← HA.out] at this; exact this))
    have Hk3 := Lib.hid (show ∀ i, i < 6 → w3.cell? ⟨g, 54 + i, none⟩ = some (.int .u64 (h.knows i)) from hd_knows (by have := HB3.out; rw [← HA.out] at this; exact this))
    have c1' := hd_seq (h := h) (by have := HB3.out; rw [← HA.out] at this; exact this)
    rw [Hsq.out] at c1'
    have Hix := Lib.hid (show ∀ (w : World) (k : Nat), k < 6 → _ from fun w k hk => index_k6 w h.knows k hk)
    have hz := zero_h32
    have he := fun w => eql_h32 w h.prev
    clear hE23 hw3 HB3 HB2 HE2 ck c0 c1 c34 c36
    go_wp2_with (refine wp_sub rfl 29 _ rfl g 54 6 (fun j => .int .u64 (h.knows j)) rfl Try.underlying29 (size_k6 _) Hk3.out ?_)
    go_loopw [52] (fun i wq => ∃ k : Nat, k ≤ 6 ∧ i = .int .i64 (k : Int) ∧ knB h k = true ∧ wq = w3) (fun i _ => 6 - (intOf i).toNat)
    case atStart => exact ⟨0, Nat.zero_le _, rfl, rfl, rfl⟩
    case round =>
      obtain ⟨k, hk, rfl, hok, rfl⟩ := hrel
      by_cases hlt : k < 6
      · have x1 : (k : Int) < 6 := by omega
        have hs := knB_succ h k
        rw [hok, Bool.true_and] at hs
        have hi := fun w => Hix.out w k hlt
        have HBad := Lib.hid (fun (hb : ¬ h.knows k ≤ 1048576) => knB_bad h k 6 hlt hb)
        obtain ⟨K, hK⟩ : ∃ K, h.knows k = K := ⟨_, rfl⟩
        rw [hK] at hs hi HBad
        have HS := Lib.hid hs
        clear hs hok hK
        by_cases hb : K ≤ 1048576
        · have x2 : ¬ 1048576 < K := by omega
          have HS2 := Lib.hid (show knB h (k + 1) = true by rw [HS.out]; exact decide_eq_true hb)
          clear hb
          go_wp2
          go_roundw
          case rel => exact ⟨k + 1, by omega, by go_num, HS2.out, by first | rfl | trivial⟩
          case measure => simp [intOf]; omega
        · have x2 : 1048576 < K := by omega
          have HRf := Lib.hid (show R = false by rw [HF.out, HBad.out hb]; rfl)
          clear hb
          go_wp2
          go_ret
          exact ⟨by rw [HRf.out]; rfl, HE3.out⟩
      · obtain rfl : k = 6 := by omega
        have HR2 := Lib.hid (show R = (decide (1 < sq) || zeroB 32 h.prev) by rw [HF.out, hok, Bool.true_and])
        clear hok
        by_cases hs1 : 1 < sq
        · have HR3 := Lib.hid (show R = true by rw [HR2.out, decide_eq_true hs1]; rfl)
          go_wp2
          go_ret
          exact ⟨by rw [HR3.out]; rfl, HE3.out⟩
        · have HR3 := Lib.hid (show R = zeroB 32 h.prev by rw [HR2.out, decide_eq_false hs1]; rfl)
          go_wp2_with (refine wp_sub rfl 25 _ rfl g 2 32 (fun j => .int .u8 (h.prev j)) rfl Try.underlying25 (size_h32 _) Hp3.out ?_)
          go_ret
          exact ⟨by rw [HR3.out]; rfl, HE3.out⟩
  · have t7' : (kj != sq - 1) = true := by simpa using t7
    have hR : R = false := by rw [HR.out, HN2.out, decide_eq_false t7]; rfl
    have HF := Lib.hid hR
    clear hR HR HN2
    go_enter Try.func68, Try.ntmps68
    go_upto_region 1 with (fail)
    refine wp_world (w' := w2) Hw2.out ?_
    rw [Hg.out]
    clear Hw2 Hg
    go_quiet (fail)
    go_wp2
    go_ret
    exact ⟨by rw [HF.out]; rfl, HE2.out.drewN' _⟩

end Go.Proofs.Ytldaligeckjhaaa
