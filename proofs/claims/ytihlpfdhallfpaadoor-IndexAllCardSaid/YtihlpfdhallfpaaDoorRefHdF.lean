/-
  The walk of jalousieref06.Bucket. No conditions.
  The walk of jalousieref12.Formed. No conditions.
-/
import Derived.Test.YtihlpfdhallfpaaDoorNum
import Derived.Test.YtihlpfdhallfpaaDoorHdF
import Derived.Test.YtihlpfdhallfpaaDoorSorted
import Derived.Deep.DeepCutAuto
namespace Go.Proofs.YtihlpfdhallfpaaDoor
open Go.ChangeAt Go.ChangeShapes Go.RowKit Go.WideShapes

def rbF (m : Int) : Int := if m < 64 then 64 else if m < 128 then 128 else if m < 256 then 256 else if m < 512 then 512 else if m < 1024 then 1024 else if m < 2048 then 2048 else 0
def sizesV : Array Value := #[.int .i64 64, .int .i64 128, .int .i64 256, .int .i64 512, .int .i64 1024, .int .i64 2048]
set_option maxRecDepth 100000 in
theorem zero_sizes (w : World) : (zeroValue 135).run Tryd.prog w = .ok (.agg (Array.replicate 6 (.int .i64 0))) w := by kernel_rfl
set_option maxRecDepth 100000 in
theorem build_sizes (w : World) : (Instr.build 135 #[(0, .int .i64 64), (1, .int .i64 128), (2, .int .i64 256), (3, .int .i64 512), (4, .int .i64 1024), (5, .int .i64 2048)]).run Tryd.prog w = .ok (.agg sizesV) w := by kernel_rfl

set_option maxHeartbeats 1000000 in
set_option maxRecDepth 100000 in
theorem refBkt_any (m : Int) (w : World) : Calls Tryd.prog 74 #[.int .i64 m] w fun e w' => e = .returned (.int .i64 (rbF m)) ∧ Ext w w' := by
  obtain ⟨R, hR⟩ : ∃ R, rbF m = R := ⟨_, rfl⟩
  have HR := Lib.hid hR
  rw [hR]
  clear hR
  have hz := zero_sizes
  have hb := build_sizes
  obtain ⟨w2, hw2⟩ : ∃ x, w.alloc (.cells sizesV 135) = x := ⟨_, rfl⟩
  obtain ⟨g, hg⟩ : ∃ g, w.heap.size = g := ⟨_, rfl⟩
  have h2 : w2.heap[g]? = some (.cells sizesV 135 (0, 0)) := by rw [← hw2, ← hg]; exact heap_new w _ _ rfl
  have hE2 : Ext w w2 := by rw [← hw2]; exact (Ext.refl w).alloc _
  have hc : ∀ i, w2.cell? ⟨g, i, none⟩ = sizesV[i]? := fun i => by unfold World.cell?; simp only [h2]; rfl
  have c0 : w2.cell? ⟨g, 0, none⟩ = some (.int .i64 64) := hc 0
  have c1 : w2.cell? ⟨g, 1, none⟩ = some (.int .i64 128) := hc 1
  have c2 : w2.cell? ⟨g, 2, none⟩ = some (.int .i64 256) := hc 2
  have c3 : w2.cell? ⟨g, 3, none⟩ = some (.int .i64 512) := hc 3
  have c4 : w2.cell? ⟨g, 4, none⟩ = some (.int .i64 1024) := hc 4
  have c5 : w2.cell? ⟨g, 5, none⟩ = some (.int .i64 2048) := hc 5
  have Hw2 := Lib.hid hw2
  have HE2 := Lib.hid hE2
  have Hg := Lib.hid hg
  clear hw2 h2 hE2 hg hc
  go_enter Tryd.func74, Tryd.ntmps74
  go_upto_region 2 with (fail)
  refine wp_world (w' := w2) (by rw [← Hw2.out]; rfl) ?_
  rw [Hg.out]
  clear Hw2
  go_wp2
  go_loopw [4] (fun i wr => ∃ k : Nat, k ≤ 6 ∧ i = .int .i64 (k : Int) ∧ (0 < k → 64 ≤ m) ∧ (1 < k → 128 ≤ m) ∧ (2 < k → 256 ≤ m) ∧ (3 < k → 512 ≤ m) ∧ (4 < k → 1024 ≤ m) ∧ (5 < k → 2048 ≤ m) ∧ wr = w2) (fun i _ => 6 - (intOf i).toNat)
  case atStart => exact ⟨0, Nat.zero_le _, rfl, by omega, by omega, by omega, by omega, by omega, by omega, rfl⟩
  case round =>
    obtain ⟨k, hk, rfl, k0, k1, k2, k3, k4, k5, rfl⟩ := hrel
    rcases (by omega : k = 0 ∨ k = 1 ∨ k = 2 ∨ k = 3 ∨ k = 4 ∨ k = 5 ∨ k = 6) with rfl | rfl | rfl | rfl | rfl | rfl | rfl
    · by_cases h : m < 64
      · have hr : R = 64 := by rw [← HR.out]; unfold rbF; repeat (first | rw [if_neg (by omega)] | rw [if_pos (by omega)])
        subst hr
        clear k0 k1 k2 k3 k4 k5
        go_wp2
        go_ret
        exact ⟨rfl, HE2.out⟩
      · have h' : 64 ≤ m := by omega
        clear k0 k1 k2 k3 k4 k5
        go_wp2
        go_roundw
        case rel => exact ⟨1, by omega, rfl, by omega, by omega, by omega, by omega, by omega, by omega, by first | rfl | trivial⟩
        case measure => simp [intOf]
    · have q := k0 (by omega)
      by_cases h : m < 128
      · have hr : R = 128 := by rw [← HR.out]; unfold rbF; repeat (first | rw [if_neg (by omega)] | rw [if_pos (by omega)])
        subst hr
        clear k0 k1 k2 k3 k4 k5
        go_wp2
        go_ret
        exact ⟨rfl, HE2.out⟩
      · have h' : 128 ≤ m := by omega
        clear k0 k1 k2 k3 k4 k5
        go_wp2
        go_roundw
        case rel => exact ⟨2, by omega, rfl, by omega, by omega, by omega, by omega, by omega, by omega, by first | rfl | trivial⟩
        case measure => simp [intOf]
    · have q := k1 (by omega)
      by_cases h : m < 256
      · have hr : R = 256 := by rw [← HR.out]; unfold rbF; repeat (first | rw [if_neg (by omega)] | rw [if_pos (by omega)])
        subst hr
        clear k0 k1 k2 k3 k4 k5
        go_wp2
        go_ret
        exact ⟨rfl, HE2.out⟩
      · have h' : 256 ≤ m := by omega
        clear k0 k1 k2 k3 k4 k5
        go_wp2
        go_roundw
        case rel => exact ⟨3, by omega, rfl, by omega, by omega, by omega, by omega, by omega, by omega, by first | rfl | trivial⟩
        case measure => simp [intOf]
    · have q := k2 (by omega)
      by_cases h : m < 512
      · have hr : R = 512 := by rw [← HR.out]; unfold rbF; repeat (first | rw [if_neg (by omega)] | rw [if_pos (by omega)])
        subst hr
        clear k0 k1 k2 k3 k4 k5
        go_wp2
        go_ret
        exact ⟨rfl, HE2.out⟩
      · have h' : 512 ≤ m := by omega
        clear k0 k1 k2 k3 k4 k5
        go_wp2
        go_roundw
        case rel => exact ⟨4, by omega, rfl, by omega, by omega, by omega, by omega, by omega, by omega, by first | rfl | trivial⟩
        case measure => simp [intOf]
    · have q := k3 (by omega)
      by_cases h : m < 1024
      · have hr : R = 1024 := by rw [← HR.out]; unfold rbF; repeat (first | rw [if_neg (by omega)] | rw [if_pos (by omega)])
        subst hr
        clear k0 k1 k2 k3 k4 k5
        go_wp2
        go_ret
        exact ⟨rfl, HE2.out⟩
      · have h' : 1024 ≤ m := by omega
        clear k0 k1 k2 k3 k4 k5
        go_wp2
        go_roundw
        case rel => exact ⟨5, by omega, rfl, by omega, by omega, by omega, by omega, by omega, by omega, by first | rfl | trivial⟩
        case measure => simp [intOf]
    · have q := k4 (by omega)
      by_cases h : m < 2048
      · have hr : R = 2048 := by rw [← HR.out]; unfold rbF; repeat (first | rw [if_neg (by omega)] | rw [if_pos (by omega)])
        subst hr
        clear k0 k1 k2 k3 k4 k5
        go_wp2
        go_ret
        exact ⟨rfl, HE2.out⟩
      · have h' : 2048 ≤ m := by omega
        clear k0 k1 k2 k3 k4 k5
        go_wp2
        go_roundw
        case rel => exact ⟨6, by omega, rfl, by omega, by omega, by omega, by omega, by omega, by omega, by first | rfl | trivial⟩
        case measure => simp [intOf]
    · have q := k5 (by omega)
      have hr : R = 0 := by rw [← HR.out]; unfold rbF; repeat (first | rw [if_neg (by omega)] | rw [if_pos (by omega)])
      subst hr
      clear k0 k1 k2 k3 k4 k5
      go_wp2
      go_ret
      exact ⟨rfl, HE2.out⟩

theorem hdB_nums {h : Hd} {ts : List (Nat → Int)} (hn : ¬ (1 ≤ h.writer ∧ h.writer ≤ 6 ∧ 1 ≤ h.seq ∧ h.seq ≤ 1048576 ∧ 0 ≤ h.epoch ∧ h.epoch ≤ 255 ∧ h.time ≤ 1099511627776)) : hdB h ts = false := by
  unfold hdB placedB numsB
  rw [decide_eq_false (fun q => hn ⟨q.1, q.2.1, q.2.2.1, q.2.2.2.1, q.2.2.2.2.1, q.2.2.2.2.2.1, q.2.2.2.2.2.2.1⟩)]
  rfl
theorem hdB_toks {h : Hd} {ts : List (Nat → Int)} (hn : ¬ h.tn ≤ 8) : hdB h ts = false := by
  unfold hdB
  rw [decide_eq_false hn]
  simp
theorem hdB_rise {h : Hd} {ts : List (Nat → Int)} (hn : risesB ts = false) : hdB h ts = false := by
  unfold hdB
  rw [hn]
  simp
theorem hdB_form {h : Hd} {ts : List (Nat → Int)} (hn : 1 ≤ h.writer ∧ h.writer ≤ 6 ∧ 1 ≤ h.seq ∧ h.seq ≤ 1048576 ∧ 0 ≤ h.epoch ∧ h.epoch ≤ 255 ∧ h.time ≤ 1099511627776) (h8 : h.tn ≤ 8) (hr : risesB ts = true) :
    hdB h ts = (knB h 6 && (isB (h.size - 16) && ((decide (1 < h.seq) || zeroB 32 h.prev) && ((!h.ctl || (decide (h.tn = 0) && zeroB 16 h.item)) && decide (h.knows (h.writer - 1).toNat = h.seq - 1))))) := by
  have e1 : numsB h = decide (h.knows (h.writer - 1).toNat = h.seq - 1) := by
    unfold numsB
    by_cases h1 : h.knows (h.writer - 1).toNat = h.seq - 1
    · rw [decide_eq_true h1]; exact decide_eq_true ⟨hn.1, hn.2.1, hn.2.2.1, hn.2.2.2.1, hn.2.2.2.2.1, hn.2.2.2.2.2.1, hn.2.2.2.2.2.2, h1⟩
    · rw [decide_eq_false h1]; exact decide_eq_false (fun q => h1 q.2.2.2.2.2.2.2)
  unfold hdB placedB
  rw [e1, decide_eq_true h8, hr]
  generalize knB h 6 = a
  generalize isB (h.size - 16) = b
  generalize (decide (1 < h.seq) || zeroB 32 h.prev) = c
  generalize (!h.ctl || (decide (h.tn = 0) && zeroB 16 h.item)) = d
  generalize decide (h.knows (h.writer - 1).toNat = h.seq - 1) = e
  cases a <;> cases b <;> cases c <;> cases d <;> cases e <;> rfl
theorem rb_isB {s : Int} (h1 : 80 ≤ s) (h2 : s ≤ 2064) : (rbF (s - 17) == s - 16) = isB (s - 16) := by
  unfold rbF isB
  rw [Bool.eq_iff_iff, beq_iff_eq, decide_eq_true_eq]
  repeat' split
  all_goals omega
theorem isB_lo {s : Int} (h : s < 80) : isB (s - 16) = false := decide_eq_false (by omega)
theorem isB_hi {s : Int} (h : 2064 < s) : isB (s - 16) = false := decide_eq_false (by omega)

set_option maxHeartbeats 4000000 in
set_option maxRecDepth 100000 in
theorem refHd_any (h : Hd) (ts : List (Nat → Int)) (w : World) (ho : HdOk h) (ht : TsAt w h.ta h.tn h.tc ts) :
    Calls Tryd.prog 50 #[.agg (hdV h)] w fun e w' => e = .returned (.bool (hdB h ts)) ∧ Ext w w' := by
  obtain ⟨w2, hw2⟩ : ∃ w2, w.alloc (.cells (hdV h) 34) = w2 := ⟨_, rfl⟩
  have hE2 : Ext w w2 := by rw [← hw2]; exact (Ext.refl w).alloc _
  have hB2 : w2.heap[w.heap.size]? = some (.cells (hdV h) 34 (0, 0)) := by rw [← hw2]; exact heap_new w _ _ rfl
  have Hw2 := Lib.hid hw2
  have HE2 := Lib.hid hE2
  obtain ⟨g, hg⟩ : ∃ g, w.heap.size = g := ⟨_, rfl⟩
  rw [hg] at hB2
  have HB2 := Lib.hid hB2
  have Hg := Lib.hid hg
  have HS := Lib.hid (refSorted_any h.ta h.tn h.tc ts w2 (ht.ext hE2))
  have hsm := ht.small
  have c0 := hd_writer hB2
  have c1 := hd_seq hB2
  have c34 := hd_epoch hB2
  have c36 := hd_time hB2
  have c53 := hd_toks hB2
  have HN := Lib.hid (fun (q : ¬ (1 ≤ h.writer ∧ h.writer ≤ 6 ∧ 1 ≤ h.seq ∧ h.seq ≤ 1048576 ∧ 0 ≤ h.epoch ∧ h.epoch ≤ 255 ∧ h.time ≤ 1099511627776)) => hdB_nums (ts := ts) q)
  have HT8 := Lib.hid (fun (q : ¬ h.tn ≤ 8) => hdB_toks (ts := ts) q)
  have HRi := Lib.hid (fun (q : risesB ts = false) => hdB_rise (h := h) q)
  have HFo := Lib.hid (fun (q : 1 ≤ h.writer ∧ h.writer ≤ 6 ∧ 1 ≤ h.seq ∧ h.seq ≤ 1048576 ∧ 0 ≤ h.epoch ∧ h.epoch ≤ 255 ∧ h.time ≤ 1099511627776) => fun (q8 : h.tn ≤ 8) (qr : risesB ts = true) => hdB_form q q8 qr)
  have Ho := Lib.hid ho
  have HtE := Lib.hid ht
  obtain ⟨R, hR⟩ : ∃ R, hdB h ts = R := ⟨_, rfl⟩
  rw [hR] at HN HT8 HRi HFo ⊢
  obtain ⟨rs, hrs⟩ : ∃ x, risesB ts = x := ⟨_, rfl⟩
  rw [hrs] at HS HRi HFo
  have s1 := ho.seq.1
  have s2 := ho.seq.2
  have s3 := ho.time.1
  have o1 := ho.writer
  have o2 := ho.epoch
  obtain ⟨wr0, hwr⟩ : ∃ x, h.writer = x := ⟨_, rfl⟩
  obtain ⟨sq, hsq⟩ : ∃ x, h.seq = x := ⟨_, rfl⟩
  obtain ⟨ep, hep⟩ : ∃ x, h.epoch = x := ⟨_, rfl⟩
  obtain ⟨ti, hti⟩ : ∃ x, h.time = x := ⟨_, rfl⟩
  obtain ⟨tn, htn⟩ : ∃ x, h.tn = x := ⟨_, rfl⟩
  have Hsq := Lib.hid hsq
  have Hwr := Lib.hid hwr
  have Htn := Lib.hid htn
  rw [hwr, hsq, hep, hti] at HN HFo
  rw [htn] at HT8 HFo c53 hsm HS
  rw [hwr] at c0 o1
  rw [hsq] at c1 s1 s2
  rw [hep] at c34 o2
  rw [hti] at c36 s3
  clear hw2 hE2 hB2 hg ho ht hwr hsq hep hti htn hR hrs
  by_cases t0 : wr0 < 1
  · have HF := Lib.hid (HN.out (by omega))
    clear HN HT8 HRi HFo
    go_enter Tryd.func50, Tryd.ntmps50
    go_upto_region 1 with (fail)
    refine wp_world (w' := w2) Hw2.out ?_
    rw [Hg.out]
    clear Hw2 Hg
    go_wp2
    go_ret
    exact ⟨by rw [HF.out]; rfl, HE2.out⟩
  by_cases t1 : 6 < wr0
  · have HF := Lib.hid (HN.out (by omega))
    clear HN HT8 HRi HFo
    go_enter Tryd.func50, Tryd.ntmps50
    go_upto_region 1 with (fail)
    refine wp_world (w' := w2) Hw2.out ?_
    rw [Hg.out]
    clear Hw2 Hg
    go_wp2
    go_ret
    exact ⟨by rw [HF.out]; rfl, HE2.out⟩
  by_cases t2 : sq < 1
  · have HF := Lib.hid (HN.out (by omega))
    clear HN HT8 HRi HFo
    go_enter Tryd.func50, Tryd.ntmps50
    go_upto_region 1 with (fail)
    refine wp_world (w' := w2) Hw2.out ?_
    rw [Hg.out]
    clear Hw2 Hg
    go_wp2
    go_ret
    exact ⟨by rw [HF.out]; rfl, HE2.out⟩
  by_cases t3 : 1048576 < sq
  · have HF := Lib.hid (HN.out (by omega))
    clear HN HT8 HRi HFo
    go_enter Tryd.func50, Tryd.ntmps50
    go_upto_region 1 with (fail)
    refine wp_world (w' := w2) Hw2.out ?_
    rw [Hg.out]
    clear Hw2 Hg
    go_wp2
    go_ret
    exact ⟨by rw [HF.out]; rfl, HE2.out⟩
  by_cases t4 : ep < 0
  · have HF := Lib.hid (HN.out (by omega))
    clear HN HT8 HRi HFo
    go_enter Tryd.func50, Tryd.ntmps50
    go_upto_region 1 with (fail)
    refine wp_world (w' := w2) Hw2.out ?_
    rw [Hg.out]
    clear Hw2 Hg
    go_wp2
    go_ret
    exact ⟨by rw [HF.out]; rfl, HE2.out⟩
  by_cases t5 : 255 < ep
  · have HF := Lib.hid (HN.out (by omega))
    clear HN HT8 HRi HFo
    go_enter Tryd.func50, Tryd.ntmps50
    go_upto_region 1 with (fail)
    refine wp_world (w' := w2) Hw2.out ?_
    rw [Hg.out]
    clear Hw2 Hg
    go_wp2
    go_ret
    exact ⟨by rw [HF.out]; rfl, HE2.out⟩
  by_cases t6 : 1099511627776 < ti
  · have HF := Lib.hid (HN.out (by omega))
    clear HN HT8 HRi HFo
    go_enter Tryd.func50, Tryd.ntmps50
    go_upto_region 1 with (fail)
    refine wp_world (w' := w2) Hw2.out ?_
    rw [Hg.out]
    clear Hw2 Hg
    go_wp2
    go_ret
    exact ⟨by rw [HF.out]; rfl, HE2.out⟩
  by_cases t7 : 8 < tn
  · have x8 : (8 : Int) < (tn : Int) := by omega
    have HF := Lib.hid (HT8.out (by omega))
    clear HN HT8 HRi HFo
    go_enter Tryd.func50, Tryd.ntmps50
    go_upto_region 1 with (fail)
    refine wp_world (w' := w2) Hw2.out ?_
    rw [Hg.out]
    clear Hw2 Hg
    go_wp2
    go_ret
    exact ⟨by rw [HF.out]; rfl, HE2.out⟩
  have x8 : ¬ (8 : Int) < (tn : Int) := by omega
  cases rs with
  | false =>
    have HF := Lib.hid (HRi.out rfl)
    clear HN HT8 HRi HFo
    go_enter Tryd.func50, Tryd.ntmps50
    go_upto_region 1 with (fail)
    refine wp_world (w' := w2) Hw2.out ?_
    rw [Hg.out]
    clear Hw2 Hg
    go_wp2_with fail
    refine HS.out.mono ?_
    rintro e w3 ⟨rfl, hE⟩
    have HE3 := Lib.hid (HE2.out.trans hE)
    clear hE
    go_wp2
    go_ret
    exact ⟨by rw [HF.out]; rfl, HE3.out⟩
  | true =>
    have HF := Lib.hid (HFo.out ⟨by omega, by omega, by omega, by omega, by omega, by omega, by omega⟩ (by omega) rfl)
    clear HN HT8 HRi HFo
    go_enter Tryd.func50, Tryd.ntmps50
    go_upto_region 1 with (fail)
    refine wp_world (w' := w2) Hw2.out ?_
    rw [Hg.out]
    clear Hw2 Hg
    go_wp2_with fail
    refine HS.out.mono ?_
    rintro e w3 ⟨rfl, hE⟩
    have HE3 := Lib.hid (HE2.out.trans hE)
    have HB3 := Lib.hid (hE.keep HB2.out)
    have Hk3 := Lib.hid (hd_knows HB3.out)
    clear hE c0 c1 c34 c36 c53 HE2 HB2
    go_wp2
    go_loopw [3] (fun i wr => ∃ k : Nat, k ≤ 6 ∧ i = .int .i64 (k : Int) ∧ knB h k = true ∧ wr = w3) (fun i _ => 6 - (intOf i).toNat)
    case atStart => exact ⟨0, Nat.zero_le _, rfl, rfl, rfl⟩
    case round =>
      obtain ⟨k, hk, rfl, hok, rfl⟩ := hrel
      by_cases hlt : k < 6
      · have x1 : (k : Int) < 6 := by omega
        have hs := knB_succ h k
        rw [hok, Bool.true_and] at hs
        have ck := Hk3.out k hlt
        have HBad := Lib.hid (fun (hb : ¬ h.knows k ≤ 1048576) => knB_bad h k 6 hlt hb)
        obtain ⟨K, hK⟩ : ∃ K, h.knows k = K := ⟨_, rfl⟩
        rw [hK] at hs ck HBad
        have HS1 := Lib.hid hs
        clear hs hok hK
        by_cases hb : 1048576 < K
        · have HF2 := Lib.hid (show R = false by rw [HF.out, HBad.out (by omega)]; rfl)
          clear HF
          go_wp2
          go_ret
          exact ⟨by rw [HF2.out]; rfl, HE3.out⟩
        · have HS2 := Lib.hid (show knB h (k + 1) = true by rw [HS1.out]; exact decide_eq_true (by omega))
          go_wp2
          go_roundw
          case rel => exact ⟨k + 1, by omega, by go_num, HS2.out, by first | rfl | trivial⟩
          case measure => simp [intOf]; omega
      · obtain rfl : k = 6 := by omega
        have HF2 := Lib.hid (show R = _ by rw [HF.out, hok, Bool.true_and])
        clear HF hok
        have x1 : ¬ (6 : Int) < 6 := by omega
        go_upto_region 8 with (fail)
        have hsz := Ho.out.size
        have c92 := hd_size HB3.out
        obtain ⟨S, hS⟩ : ∃ x, h.size = x := ⟨_, rfl⟩
        rw [hS] at hsz c92 HF2
        have HX := Lib.hid (fun (w1 : World) (hw1 : Ext wr.drew w1) => hd_size ((Ext.trans (Ext.refl wr).drew hw1).keep HB3.out))
        rw [hS] at HX
        have a1 : IntKind.i64.wrap (S - 17) = S - 17 ∨ S < 80 := by by_cases h : S < 80; exact Or.inr h; left; rw [IntKind.wrap_i64]; omega
        clear hS
        go_cut [4] (fun v wc => v = .bool (isB (S - 16)) ∧ Ext wr wc)
        case first =>
          by_cases s80 : S < 80
          · have d1 : decide (80 ≤ S) = false := decide_eq_false (by omega)
            have d2 : ¬ 80 ≤ S := by omega
            have HV := Lib.hid (isB_lo s80)
            clear a1
            go_quiet (fail)
            go_wp2
            go_meet
            case rel => exact ⟨by rw [HV.out], (Ext.refl wr).drewN' _⟩
          · by_cases shi : 2064 < S
            · have d1 : decide (80 ≤ S) = true := decide_eq_true (by omega)
              have d1' : 80 ≤ S := by omega
              have d2 : decide (S ≤ 2064) = false := decide_eq_false (by omega)
              have d2' : ¬ S ≤ 2064 := by omega
              have HV := Lib.hid (isB_hi shi)
              clear a1
              go_quiet (fail)
              go_wp2
              go_meet
              case rel => exact ⟨by rw [HV.out], (Ext.refl wr).drewN' _⟩
            · have d1 : decide (80 ≤ S) = true := decide_eq_true (by omega)
              have d1' : 80 ≤ S := by omega
              have d2 : decide (S ≤ 2064) = true := decide_eq_true (by omega)
              have d2' : S ≤ 2064 := by omega
              have e17 : IntKind.i64.wrap (S - 17) = S - 17 := by rw [IntKind.wrap_i64]; omega
              have e16 : IntKind.i64.wrap (S - 16) = S - 16 := by rw [IntKind.wrap_i64]; omega
              have HV := Lib.hid (rb_isB d1' d2')
              clear a1
              refine wp_region_lexA (by kernel_rfl) (by kernel_rfl) ?_
              refine lx_e (.pointer (some ⟨g, 92, none⟩)) [] (by kernel_rfl) rfl (by rfl) (fun w1 hw1 => ?_) ?_
              · simp only [pk, lexVals]
                go_simp
                exact ⟨Ext.refl _, rfl⟩
              refine lx_e (.int .i64 S) [(0, 61)] (by kernel_rfl) rfl (by rfl) (fun w1 hw1 => ?_) ?_
              · simp only [pk, nthSp, lexVals]
                have q := HX.out w1 hw1
                clear hw1
                go_simp
                exact ⟨Ext.refl _, rfl⟩
              refine lx_e (.bool true) [(0, 62)] (by kernel_rfl) rfl (by rfl) (fun w1 hw1 => ?_) ?_
              · simp only [pk, nthSp, lexVals]
                go_simp
                exact ⟨Ext.refl _, rfl⟩
              refine lx_e (.bool true) [(0, 63)] (by kernel_rfl) rfl (by rfl) (fun w1 hw1 => ?_) ?_
              · simp only [pk, nthSp, lexVals]
                go_simp
                exact ⟨Ext.refl _, rfl⟩
              refine lx_ge (.pointer (some ⟨g, 92, none⟩)) [(0, 64)] 64 (by kernel_rfl) rfl (by kernel_rfl) (by rfl) (fun w1 => ?_) (fun w1 hw1 => ?_) ?_
              · simp only [pk, nthSp, lexVals]
                rfl
              · simp only [pk, nthSp, lexVals]
                go_simp
                exact ⟨Ext.refl _, rfl⟩
              refine lx_ge (.int .i64 S) [(0, 65), (1, 64)] 64 (by kernel_rfl) rfl (by kernel_rfl) (by rfl) (fun w1 => ?_) (fun w1 hw1 => ?_) ?_
              · simp only [pk, nthSp, lexVals]
                rfl
              · simp only [pk, nthSp, lexVals]
                have q := HX.out w1 hw1
                clear hw1
                go_simp
                exact ⟨Ext.refl _, rfl⟩
              refine lx_ge (.bool true) [(0, 66), (2, 64)] 64 (by kernel_rfl) rfl (by kernel_rfl) (by rfl) (fun w1 => ?_) (fun w1 hw1 => ?_) ?_
              · simp only [pk, nthSp, lexVals]
                rfl
              · simp only [pk, nthSp, lexVals]
                go_simp
                exact ⟨Ext.refl _, rfl⟩
              refine lx_e (.bool true) [(3, 64), (0, 67)] (by kernel_rfl) rfl (by rfl) (fun w1 hw1 => ?_) ?_
              · simp only [pk, nthSp, lexVals]
                go_simp
                exact ⟨Ext.refl _, rfl⟩
              refine lx_e (.bool true) [(0, 68)] (by kernel_rfl) rfl (by rfl) (fun w1 hw1 => ?_) ?_
              · simp only [pk, nthSp, lexVals]
                go_simp
                exact ⟨Ext.refl _, rfl⟩
              refine lx_ge (.pointer (some ⟨g, 92, none⟩)) [(0, 69)] 69 (by kernel_rfl) rfl (by kernel_rfl) (by rfl) (fun w1 => ?_) (fun w1 hw1 => ?_) ?_
              · simp only [pk, nthSp, lexVals]
                rfl
              · simp only [pk, nthSp, lexVals]
                go_simp
                exact ⟨Ext.refl _, rfl⟩
              refine lx_ge (.int .i64 S) [(0, 70), (1, 69)] 69 (by kernel_rfl) rfl (by kernel_rfl) (by rfl) (fun w1 => ?_) (fun w1 hw1 => ?_) ?_
              · simp only [pk, nthSp, lexVals]
                rfl
              · simp only [pk, nthSp, lexVals]
                have q := HX.out w1 hw1
                clear hw1
                go_simp
                exact ⟨Ext.refl _, rfl⟩
              refine lx_ge (.int .i64 (S - 17)) [(0, 71), (2, 69)] 69 (by kernel_rfl) rfl (by kernel_rfl) (by rfl) (fun w1 => ?_) (fun w1 hw1 => ?_) ?_
              · simp only [pk, nthSp, lexVals]
                rfl
              · simp only [pk, nthSp, lexVals]
                go_simp
                exact ⟨Ext.refl _, rfl⟩
              refine lx_ge (.int .i64 (rbF (S - 17))) [(0, 72), (3, 69)] 69 (by kernel_rfl) rfl (by kernel_rfl) (by rfl) (fun w1 => ?_) (fun w1 hw1 => ?_) ?_
              · simp only [pk, nthSp, lexVals]
                rfl
              · simp only [pk, nthSp, lexVals]
                have hm := refBkt_any (S - 17) w1
                have HM := Lib.hid hm
                clear hm hw1
                go_simp
                refine HM.out.mono ?_
                rintro e w2 ⟨rfl, hE2⟩
                exact ⟨_, rfl, hE2, rfl⟩
              refine lx_ge (.pointer (some ⟨g, 92, none⟩)) [(4, 69)] 69 (by kernel_rfl) rfl (by kernel_rfl) (by rfl) (fun w1 => ?_) (fun w1 hw1 => ?_) ?_
              · simp only [pk, nthSp, lexVals]
                rfl
              · simp only [pk, nthSp, lexVals]
                go_simp
                exact ⟨Ext.refl _, rfl⟩
              refine lx_ge (.int .i64 S) [(0, 74), (5, 69)] 69 (by kernel_rfl) rfl (by kernel_rfl) (by rfl) (fun w1 => ?_) (fun w1 hw1 => ?_) ?_
              · simp only [pk, nthSp, lexVals]
                rfl
              · simp only [pk, nthSp, lexVals]
                have q := HX.out w1 hw1
                clear hw1
                go_simp
                exact ⟨Ext.refl _, rfl⟩
              refine lx_ge (.int .i64 (S - 16)) [(0, 75), (6, 69)] 69 (by kernel_rfl) rfl (by kernel_rfl) (by rfl) (fun w1 => ?_) (fun w1 hw1 => ?_) ?_
              · simp only [pk, nthSp, lexVals]
                rfl
              · simp only [pk, nthSp, lexVals]
                go_simp
                exact ⟨Ext.refl _, rfl⟩
              refine lx_ge (.bool (rbF (S - 17) == S - 16)) [(3, 73), (0, 76), (7, 69)] 69 (by kernel_rfl) rfl (by kernel_rfl) (by rfl) (fun w1 => ?_) (fun w1 hw1 => ?_) ?_
              · simp only [pk, nthSp, lexVals]
                rfl
              · simp only [pk, nthSp, lexVals]
                go_simp
                exact ⟨Ext.refl _, rfl⟩
              refine lx_e (.bool (rbF (S - 17) == S - 16)) [(8, 69), (0, 77)] (by kernel_rfl) rfl (by rfl) (fun w1 hw1 => ?_) ?_
              · simp only [pk, nthSp, lexVals]
                go_simp
                exact ⟨Ext.refl _, rfl⟩
              refine lx_e (.bool (rbF (S - 17) == S - 16)) [(0, 78)] (by kernel_rfl) rfl (by rfl) (fun w1 hw1 => ?_) ?_
              · simp only [pk, nthSp, lexVals]
                go_simp
                exact ⟨Ext.refl _, rfl⟩
              refine lx_stopA (by rfl) fun w5 hw5 => ?_
              have HE5 := Lib.hid (show Ext wr w5 from Ext.trans (Ext.refl wr).drew hw5)
              clear hw5
              simp only [rv, pf, lexVals]
              simp only [Act.put, List.setIfInBounds_toArray, List.set_cons_zero, List.set_cons_succ]
              go_wp2
              go_meet
              case rel => exact ⟨by rw [HV.out], HE5.out⟩
        case rest =>
          obtain ⟨rfl, hE⟩ := hcut
          have HE4 := Lib.hid (HE3.out.trans hE)
          have hb4 := hE.keep HB3.out
          have c1 := hd_seq hb4
          rw [Hsq.out] at c1
          have Hp4 := Lib.hid (hd_prev hb4)
          have HB4 := Lib.hid hb4
          obtain ⟨B8, hB8⟩ : ∃ x, isB (S - 16) = x := ⟨_, rfl⟩
          rw [hB8] at HF2 ⊢
          have hz := zero_h32
          have he := fun w => eql_h32 w h.prev
          clear hE hb4 hB8 c92 HB3 HX
          go_upto_region 9 with (fail)
          go_cut [5] (fun v wd => v = .bool (decide (1 < sq) || zeroB 32 h.prev) ∧ wd = wc)
          case first =>
            by_cases q1 : 1 < sq
            · have q1' : decide (1 < sq) = true := decide_eq_true q1
              go_wp2
              go_meet
              case rel => exact ⟨by first | rfl | (rw [q1']; rfl) | simp [q1], by first | rfl | trivial⟩
            · have q1' : decide (1 < sq) = false := decide_eq_false q1
              go_wp2_with (refine wp_sub rfl 28 _ rfl g 2 32 (fun j => .int .u8 (h.prev j)) rfl Tryd.underlying28 (size_h32 _) Hp4.out ?_)
              go_meet
              case rel => exact ⟨by first | rfl | (rw [q1']; rfl) | simp [q1], by first | rfl | trivial⟩
          case rest =>
            obtain ⟨rfl, hwd⟩ := hcut
            subst hwd
            obtain ⟨B9, hB9⟩ : ∃ x, (decide (1 < sq) || zeroB 32 h.prev) = x := ⟨_, rfl⟩
            rw [hB9] at HF2
            rw [hB9]
            have c35 := hd_ctl HB4.out
            have c53 := hd_toks HB4.out
            rw [Htn.out] at c53
            obtain ⟨ctl, hctl⟩ : ∃ c, h.ctl = c := ⟨_, rfl⟩
            rw [hctl] at c35 HF2
            have Hit := Lib.hid (hd_item HB4.out)
            have hzt := zero_t16
            have het := fun w => eql_t16 w h.item
            clear hB9 hctl hz he c1 Hp4
            go_upto_region 10 with (fail)
            go_cut [6] (fun v wd => v = .bool (!ctl || (decide (tn = 0) && zeroB 16 h.item)) ∧ wd = wc)
            case first =>
              cases ctl with
              | false =>
                go_wp2
                go_meet
                case rel => exact ⟨by first | rfl | simp, by first | rfl | trivial⟩
              | true =>
                by_cases h0 : tn = 0
                · subst h0
                  go_wp2_with (refine wp_sub rfl 30 _ rfl g 37 16 (fun j => .int .u8 (h.item j)) rfl Tryd.underlying30 (size_tok _) Hit.out ?_)
                  go_meet
                  case rel => exact ⟨by first | rfl | simp, by first | rfl | trivial⟩
                · have x0 : ¬ (tn : Int) = 0 := by omega
                  have x0' : ((tn : Int) == 0) = false := by simpa using x0
                  have x0'' : decide (tn = 0) = false := decide_eq_false h0
                  go_wp2
                  go_meet
                  case rel => exact ⟨by first | rfl | (rw [x0'']; rfl) | simp, by first | rfl | trivial⟩
            case rest =>
              obtain ⟨rfl, hwd⟩ := hcut
              subst hwd
              obtain ⟨B10, hB10⟩ : ∃ x, (!ctl || (decide (tn = 0) && zeroB 16 h.item)) = x := ⟨_, rfl⟩
              rw [hB10] at HF2
              rw [hB10]
              clear hB10 hzt het c35 c53 Hit
              go_upto_region 11 with (fail)
              cases B8 with
              | false =>
                have HF3 := Lib.hid (show R = false by rw [HF2.out]; rfl)
                clear HF2
                go_quiet (fail)
                go_wp2
                go_ret
                exact ⟨by rw [HF3.out]; rfl, HE4.out.drewN' _⟩
              | true =>
                cases B9 with
                | false =>
                  have HF3 := Lib.hid (show R = false by rw [HF2.out]; rfl)
                  clear HF2
                  go_quiet (fail)
                  go_wp2
                  go_ret
                  exact ⟨by rw [HF3.out]; rfl, HE4.out.drewN' _⟩
                | true =>
                  cases B10 with
                  | false =>
                    have HF3 := Lib.hid (show R = false by rw [HF2.out]; rfl)
                    clear HF2
                    go_quiet (fail)
                    go_wp2
                    go_ret
                    exact ⟨by rw [HF3.out]; rfl, HE4.out.drewN' _⟩
                  | true =>
                    obtain ⟨j, hj⟩ : ∃ j : Nat, wr0 - 1 = (j : Int) := ⟨(wr0 - 1).toNat, by omega⟩
                    have hj6 : j < 6 := by omega
                    have c0 := hd_writer HB4.out
                    have c1 := hd_seq HB4.out
                    rw [Hwr.out] at c0
                    rw [Hsq.out] at c1
                    have ck := hd_knows HB4.out j hj6
                    have w1 : IntKind.i64.wrap (wr0 - 1) = (j : Int) := by rw [IntKind.wrap_i64]; omega
                    have w2' : IntKind.u64.wrap (sq - 1) = sq - 1 := by rw [IntKind.wrap_u64]; omega
                    have hj0 : (0 : Int) ≤ (j : Int) := by omega
                    have hj7 : (j : Int) < 6 := by omega
                    have e1 : (wr0 - 1).toNat = j := by omega
                    rw [e1] at HF2
                    have HF3 := Lib.hid (show R = (h.knows j == sq - 1) by rw [HF2.out, Bool.true_and, Bool.true_and, Bool.true_and]; rfl)
                    obtain ⟨kj, hkj⟩ : ∃ x, h.knows j = x := ⟨_, rfl⟩
                    rw [hkj] at ck HF3
                    clear HF2 hkj e1 hj
                    go_quiet (fail)
                    go_wp2
                    go_ret
                    exact ⟨by rw [HF3.out]; rfl, HE4.out.drewN' _⟩

end Go.Proofs.YtihlpfdhallfpaaDoor
