/-
  The walks of jalousielaw16.awake and ControlKeys: they answer true. Asked: the two tables lie as the text lays them.
-/
import Derived.Test.YtppidlpblkihbaaDoorCtl
namespace Go.Proofs.YtppidlpblkihbaaDoor
open Go.ChangeShapes Go.WideShapes Go.ChangeAt Go.RowKit

def sevenF : Nat → Int := fun j => if j = 0 then 7 else 0
theorem seven_set : (rowArr 32 fun _ => Value.int .u8 0).setIfInBounds 0 (.int .u8 7) = rowArr 32 (fun j => .int .u8 (sevenF j)) := by kernel_rfl
theorem seven_size : (rowArr 32 fun _ => Value.int .u8 0).size = 32 := rfl
theorem seven_byte : ∀ j, j < 32 → 0 ≤ sevenF j ∧ sevenF j < 256 := fun j _ => by unfold sevenF; split <;> omega
set_option maxRecDepth 100000 in
theorem size_hash : ∀ w, (sizeOf 5).run Tryd.prog w = .ok 1 w := fun _ => by kernel_rfl
theorem eql_same (w : World) (f : Nat → Int) : (binOp .eql 23 (.agg (rowArr 32 fun j => .int .u8 (f j))) (.agg (rowArr 32 fun j => .int .u8 (f j)))).run Tryd.prog w = .ok (.bool true) w := by
  rw [run_eql_arr w 23 5 32 .u8 Tryd.underlying23 Tryd.underlying5 size_hash f f]
  simp
theorem neq_same (w : World) (f : Nat → Int) : (binOp .neq 23 (.agg (rowArr 32 fun j => .int .u8 (f j))) (.agg (rowArr 32 fun j => .int .u8 (f j)))).run Tryd.prog w = .ok (.bool false) w := by
  rw [run_neq_arr w 23 5 32 .u8 Tryd.underlying23 Tryd.underlying5 size_hash f f]
  simp

theorem eql_zero (w : World) : (binOp .eql 23 (.agg (rowArr 32 fun j => .int .u8 (zeroF j))) (.agg (rowArr 32 fun _ => .int .u8 0))).run Tryd.prog w = .ok (.bool true) w := eql_same w zeroF

theorem keyR_255 (f : Nat → Int) : keyR f 255 = f := by unfold keyR; rw [if_pos (by omega)]; rfl
theorem keyE_255 : keyE 255 = 0 := by unfold keyE; rw [if_pos (by omega)]

set_option maxRecDepth 100000 in
theorem awake16_any (w : World) (hk : KsAt 1 w) : Calls Tryd.prog 10 #[] w fun e w' => e = .returned (.bool true) ∧ Ext w w' := by
  have hz := zero_hash
  have hs := seven_size
  have hs7 := seven_set
  have keq := eql_same
  have HY := Lib.hid (key_any sevenF seven_byte 255 w hk)
  clear hk
  go_enter Tryd.func10, Tryd.ntmps10
  go_wp2_with fail
  refine HY.out.mono ?_
  rintro e w1 ⟨rfl, hE⟩
  rw [keyR_255, keyE_255]
  have HE1 := Lib.hid hE
  clear hE HY
  go_upto_region 2 with (refine wpList_store_row rfl 23 _ _ rfl w1.heap.size _ rfl rfl _ _ (heap_new w1 _ _ rfl) (by kernel_rfl) (by simp [rowArr_size]) (rowArr_one fun _ _ => rfl) ?_; rw [setRow_new w1 _ _ _ _ rfl])
  obtain ⟨w2, hw2⟩ : ∃ w2, w1.alloc (.cells (rowArr 32 fun j => .int .u8 (sevenF j)) 23) = w2 := ⟨_, rfl⟩
  have hE : Ext w1 w2 := by rw [← hw2]; exact (Ext.refl w1).alloc _
  obtain ⟨g, hg⟩ : ∃ g, w1.heap.size = g := ⟨_, rfl⟩
  have HS2 := Lib.hid (show w2.heap[g]? = some (.cells (rowArr 32 fun j => .int .u8 (sevenF j)) 23 (0, 0)) by rw [← hw2]; exact heap_new w1 _ _ hg.symm)
  refine wp_world (w' := w2) hw2 ?_
  rw [hg]
  clear hw2 hg
  have HE2 := Lib.hid (HE1.out.trans hE)
  clear hE
  go_wp2_with (refine wpList_load_rowW rfl 23 (.tmp 1) rfl g rfl _ _ _ _ HS2.out Tryd.underlying23 rfl (by kernel_rfl) ?_)
  go_ret
  exact ⟨rfl, HE2.out⟩

set_option maxHeartbeats 2000000 in
set_option maxRecDepth 100000 in
theorem lawControlKeys_any (f : Nat → Int) (a b : Int) (w : World) (hf : ∀ j, j < 32 → 0 ≤ f j ∧ f j < 256) (ha : -9223372036854775808 ≤ a ∧ a ≤ 9223372036854775807) (hb : -9223372036854775808 ≤ b ∧ b ≤ 9223372036854775807) (hk : KsAt 1 w) (hk2 : KsAt 0 w) :
    Calls Tryd.prog 3 #[.agg (rowArr 32 fun j => .int .u8 (f j)), .int .i64 a, .int .i64 b] w fun e w' => e = .returned (.bool true) ∧ Ext w w' := by
  have HK := Lib.hid hk
  have HK2 := Lib.hid hk2
  have Hf := Lib.hid hf
  obtain ⟨_, _⟩ := ha
  obtain ⟨_, _⟩ := hb
  clear hk hk2 hf
  have hz := zero_hash
  have keq := eql_same
  have kne := neq_same
  have kez := eql_zero
  obtain ⟨KF, hKF⟩ : ∃ KF, keyR f a = KF := ⟨_, rfl⟩
  have HKF := Lib.hid hKF
  by_cases hr : 0 ≤ a ∧ a ≤ 255
  · have HKE := Lib.hid (show keyE a = 0 by unfold keyE; rw [if_pos hr])
    have hKB : backF f (255 - a).toNat = KF := by rw [← hKF]; unfold keyR; rw [if_pos hr]
    have HKB := Lib.hid hKB
    have HKby := Lib.hid (show ∀ j, j < 32 → 0 ≤ KF j ∧ KF j < 256 by rw [← hKB]; exact backF_byte f Hf.out _)
    obtain ⟨h0, h1⟩ := hr
    by_cases hb2 : 0 ≤ b ∧ b ≤ a
    · obtain ⟨h2, h3⟩ := hb2
      have x5 : b ≤ 255 := by omega
      obtain ⟨LF, hLF⟩ : ∃ LF, backF KF (a - b).toNat = LF := ⟨_, rfl⟩
      have HLF := Lib.hid hLF
      have HMF := Lib.hid (show keyR f b = LF by
        rw [← hLF, ← hKB, backF_add]
        unfold keyR
        rw [if_pos (by omega), show (255 - a).toNat + (a - b).toNat = (255 - b).toNat by omega])
      have HME := Lib.hid (show keyE b = 0 by unfold keyE; rw [if_pos (by omega)])
      clear hKF hKB hLF
      go_enter Tryd.func3, Tryd.ntmps3
      go_upto_region 1 with (fail)
      obtain ⟨w1, hw1⟩ : ∃ w1, w.alloc (.cells (rowArr 32 fun j => .int .u8 (f j)) 23) = w1 := ⟨_, rfl⟩
      have HE1 := Lib.hid (show Ext w w1 by rw [← hw1]; exact (Ext.refl w).alloc _)
      obtain ⟨g, hg⟩ : ∃ g, w.heap.size = g := ⟨_, rfl⟩
      have HF1 := Lib.hid (show w1.heap[g]? = some (.cells (rowArr 32 fun j => .int .u8 (f j)) 23 (0, 0)) by rw [← hw1]; exact heap_new w _ _ hg.symm)
      refine wp_world (w' := w1) hw1 ?_
      rw [hg]
      clear hw1 hg
      have HY := Lib.hid (key_any f Hf.out a w1 (HK.out.ext' HE1.out))
      go_wp2_with (refine wpList_load_row rfl 23 (.tmp 3) rfl g rfl _ _ _ _ HF1.out Tryd.underlying23 rfl (by kernel_rfl) ?_)
      refine HY.out.mono ?_
      rintro e w2 ⟨rfl, hE⟩
      rw [HKF.out, HKE.out]
      clear HY
      have HE2 := Lib.hid (HE1.out.trans hE)
      have HF2 := Lib.hid (hE.keep HF1.out)
      clear hE
      go_upto_region 2 with (refine wpList_store_row rfl 23 _ _ rfl w2.heap.size _ rfl rfl _ _ (heap_new w2 _ _ rfl) (by kernel_rfl) (by simp [rowArr_size]) (rowArr_one fun _ _ => rfl) ?_; rw [setRow_new w2 _ _ _ _ rfl])
      obtain ⟨w3, hw3⟩ : ∃ w3, w2.alloc (.cells (rowArr 32 fun j => .int .u8 (KF j)) 23) = w3 := ⟨_, rfl⟩
      have hE : Ext w2 w3 := by rw [← hw3]; exact (Ext.refl w2).alloc _
      obtain ⟨gk, hgk⟩ : ∃ gk, w2.heap.size = gk := ⟨_, rfl⟩
      have HK3 := Lib.hid (show w3.heap[gk]? = some (.cells (rowArr 32 fun j => .int .u8 (KF j)) 23 (0, 0)) by rw [← hw3]; exact heap_new w2 _ _ hgk.symm)
      refine wp_world (w' := w3) hw3 ?_
      rw [hgk]
      clear hw3 hgk
      have HE3 := Lib.hid (HE2.out.trans hE)
      have HF3 := Lib.hid (hE.keep HF2.out)
      clear hE
      go_wp2_with fail
      refine (awake16_any w3 (HK.out.ext' HE3.out)).mono ?_
      rintro e w4 ⟨rfl, hE⟩
      have HE4 := Lib.hid (HE3.out.trans hE)
      have HF4 := Lib.hid (hE.keep HF3.out)
      have HK4 := Lib.hid (hE.keep HK3.out)
      clear hE
      have HY := Lib.hid (back_any KF HKby.out a b w4 h2 h3 h1 (HK.out.ext' HE4.out))
      go_wp2_with (refine wpList_load_row rfl 23 (.tmp 7) rfl gk rfl _ _ _ _ HK4.out Tryd.underlying23 rfl (by kernel_rfl) ?_)
      refine HY.out.mono ?_
      rintro e w5 ⟨rfl, hE⟩
      rw [HLF.out]
      clear HY
      have HE5 := Lib.hid (HE4.out.trans hE)
      have HF5 := Lib.hid (hE.keep HF4.out)
      have HK5 := Lib.hid (hE.keep HK4.out)
      clear hE
      go_upto_region 5 with (refine wpList_store_row rfl 23 _ _ rfl w5.heap.size _ rfl rfl _ _ (heap_new w5 _ _ rfl) (by kernel_rfl) (by simp [rowArr_size]) (rowArr_one fun _ _ => rfl) ?_; rw [setRow_new w5 _ _ _ _ rfl])
      obtain ⟨w6, hw6⟩ : ∃ w6, w5.alloc (.cells (rowArr 32 fun j => .int .u8 (LF j)) 23) = w6 := ⟨_, rfl⟩
      have hE : Ext w5 w6 := by rw [← hw6]; exact (Ext.refl w5).alloc _
      obtain ⟨gl, hgl⟩ : ∃ gl, w5.heap.size = gl := ⟨_, rfl⟩
      have HL6 := Lib.hid (show w6.heap[gl]? = some (.cells (rowArr 32 fun j => .int .u8 (LF j)) 23 (0, 0)) by rw [← hw6]; exact heap_new w5 _ _ hgl.symm)
      refine wp_world (w' := w6) hw6 ?_
      rw [hgl]
      clear hw6 hgl
      have HE6 := Lib.hid (HE5.out.trans hE)
      have HF6 := Lib.hid (hE.keep HF5.out)
      have HK6 := Lib.hid (hE.keep HK5.out)
      clear hE
      have HFd := Lib.hid (show w6.drew.heap[g]? = _ from HF6.out)
      have HKd := Lib.hid (show w6.drew.heap[gk]? = _ from HK6.out)
      have HLd := Lib.hid (show w6.drew.heap[gl]? = _ from HL6.out)
      have HX0 := Lib.hid (show ∀ x, Ext w6.drew x → Ext w x from fun x hx => HE6.out.trans (Ext.trans (Ext.refl w6).drew hx))
      refine wp_region_lexA (by kernel_rfl) (by kernel_rfl) ?_
      refine lx_e (.int .i64 0) [] (by kernel_rfl) rfl (by rfl) (fun w1 hw1 => ?_) ?_
      · simp only [pk, lexVals]
        go_simp
        exact ⟨Ext.refl _, rfl⟩
      refine lx_e (.bool false) [(0, 46)] (by kernel_rfl) rfl (by rfl) (fun w1 hw1 => ?_) ?_
      · simp only [pk, nthSp, lexVals]
        go_simp
        exact ⟨Ext.refl _, rfl⟩
      refine lx_e (.bool false) [(0, 47)] (by kernel_rfl) rfl (by rfl) (fun w1 hw1 => ?_) ?_
      · simp only [pk, nthSp, lexVals]
        go_simp
        exact ⟨Ext.refl _, rfl⟩
      refine lx_ge (.agg (rowArr 32 fun j => .int .u8 (KF j))) [(0, 48)] 48 (by kernel_rfl) rfl (by kernel_rfl) (by rfl) (fun w1 => ?_) (fun w1 hw1 => ?_) ?_
      · simp only [pk, nthSp, lexVals]
        rfl
      · simp only [pk, nthSp, lexVals]
        exact lu_row rfl rfl (hw1.keep HKd.out) Tryd.underlying23 rfl (by kernel_rfl)
      refine lx_ge (.agg (rowArr 32 fun j => .int .u8 (f j))) [(1, 48)] 48 (by kernel_rfl) rfl (by kernel_rfl) (by rfl) (fun w1 => ?_) (fun w1 hw1 => ?_) ?_
      · simp only [pk, nthSp, lexVals]
        rfl
      · simp only [pk, nthSp, lexVals]
        exact lu_row rfl rfl (hw1.keep HFd.out) Tryd.underlying23 rfl (by kernel_rfl)
      refine lx_ge (.int .i64 a) [(2, 48)] 48 (by kernel_rfl) rfl (by kernel_rfl) (by rfl) (fun w1 => ?_) (fun w1 hw1 => ?_) ?_
      · simp only [pk, nthSp, lexVals]
        rfl
      · simp only [pk, nthSp, lexVals]
        go_simp
        exact ⟨Ext.refl _, rfl⟩
      refine lx_ge (.agg (rowArr 32 fun j => .int .u8 (KF j))) [(1, 50), (0, 51), (3, 48)] 48 (by kernel_rfl) rfl (by kernel_rfl) (by rfl) (fun w1 => ?_) (fun w1 hw1 => ?_) ?_
      · simp only [pk, nthSp, lexVals]
        rfl
      · simp only [pk, nthSp, lexVals]
        have hm := refKey_any f Hf.out a w1 h0 h1 (HK2.out.ext' (HX0.out w1 hw1))
        rw [HKB.out] at hm
        have HM := Lib.hid hm
        clear hm hw1
        go_simp
        refine HM.out.mono ?_
        rintro e w2 ⟨rfl, hE2⟩
        exact ⟨_, rfl, hE2, rfl⟩
      refine lx_ge (.bool false) [(3, 49), (0, 52), (4, 48)] 48 (by kernel_rfl) rfl (by kernel_rfl) (by rfl) (fun w1 => ?_) (fun w1 hw1 => ?_) ?_
      · simp only [pk, nthSp, lexVals]
        rfl
      · simp only [pk, nthSp, lexVals]
        go_simp
        exact ⟨Ext.refl _, rfl⟩
      refine lx_e (.bool false) [(5, 48), (0, 53)] (by kernel_rfl) rfl (by rfl) (fun w1 hw1 => ?_) ?_
      · simp only [pk, nthSp, lexVals]
        go_simp
        exact ⟨Ext.refl _, rfl⟩
      refine lx_stopA (by rfl) fun w7 hw7 => ?_
      have HE7 := Lib.hid (HX0.out w7 hw7)
      have HF7 := Lib.hid (hw7.keep HFd.out)
      have HL7 := Lib.hid (hw7.keep HLd.out)
      clear hw7 HFd HKd HLd
      simp only [rv, pf, lexVals]
      simp only [Act.put, List.setIfInBounds_toArray, List.set_cons_zero, List.set_cons_succ]
      have HY := Lib.hid (key_any f Hf.out b w7 (HK.out.ext' HE7.out))
      go_wp2_with (refine wpList_load_row rfl 23 (.tmp 3) rfl g rfl _ _ _ _ HF7.out Tryd.underlying23 rfl (by kernel_rfl) ?_)
      refine HY.out.mono ?_
      rintro e w8 ⟨rfl, hE⟩
      rw [HMF.out, HME.out]
      clear HY
      have HE8 := Lib.hid (HE7.out.trans hE)
      have HL8 := Lib.hid (hE.keep HL7.out)
      clear hE
      go_upto_region 10 with (refine wpList_store_row rfl 23 _ _ rfl w8.heap.size _ rfl rfl _ _ (heap_new w8 _ _ rfl) (by kernel_rfl) (by simp [rowArr_size]) (rowArr_one fun _ _ => rfl) ?_; rw [setRow_new w8 _ _ _ _ rfl])
      obtain ⟨w9, hw9⟩ : ∃ w9, w8.alloc (.cells (rowArr 32 fun j => .int .u8 (LF j)) 23) = w9 := ⟨_, rfl⟩
      have hE : Ext w8 w9 := by rw [← hw9]; exact (Ext.refl w8).alloc _
      obtain ⟨gm, hgm⟩ : ∃ gm, w8.heap.size = gm := ⟨_, rfl⟩
      have HM9 := Lib.hid (show w9.heap[gm]? = some (.cells (rowArr 32 fun j => .int .u8 (LF j)) 23 (0, 0)) by rw [← hw9]; exact heap_new w8 _ _ hgm.symm)
      refine wp_world (w' := w9) hw9 ?_
      rw [hgm]
      clear hw9 hgm
      have HE9 := Lib.hid (HE8.out.trans hE)
      have HL9 := Lib.hid (hE.keep HL8.out)
      clear hE
      go_wp2_with (first | (refine wpList_load_rowW rfl 23 (.tmp 9) rfl gl rfl _ _ _ _ HL9.out Tryd.underlying23 rfl (by kernel_rfl) ?_) | (refine wpList_load_rowW rfl 23 (.tmp 11) rfl gm rfl _ _ _ _ HM9.out Tryd.underlying23 rfl (by kernel_rfl) ?_))
      go_ret
      exact ⟨rfl, HE9.out⟩
    · clear hKF hKB
      by_cases hb0 : b < 0
      · clear hb2
        go_enter Tryd.func3, Tryd.ntmps3
        go_upto_region 1 with (fail)
        obtain ⟨w1, hw1⟩ : ∃ w1, w.alloc (.cells (rowArr 32 fun j => .int .u8 (f j)) 23) = w1 := ⟨_, rfl⟩
        have HE1 := Lib.hid (show Ext w w1 by rw [← hw1]; exact (Ext.refl w).alloc _)
        obtain ⟨g, hg⟩ : ∃ g, w.heap.size = g := ⟨_, rfl⟩
        have HF1 := Lib.hid (show w1.heap[g]? = some (.cells (rowArr 32 fun j => .int .u8 (f j)) 23 (0, 0)) by rw [← hw1]; exact heap_new w _ _ hg.symm)
        refine wp_world (w' := w1) hw1 ?_
        rw [hg]
        clear hw1 hg
        have HY := Lib.hid (key_any f Hf.out a w1 (HK.out.ext' HE1.out))
        go_wp2_with (refine wpList_load_row rfl 23 (.tmp 3) rfl g rfl _ _ _ _ HF1.out Tryd.underlying23 rfl (by kernel_rfl) ?_)
        refine HY.out.mono ?_
        rintro e w2 ⟨rfl, hE⟩
        rw [HKF.out, HKE.out]
        clear HY
        have HE2 := Lib.hid (HE1.out.trans hE)
        have HF2 := Lib.hid (hE.keep HF1.out)
        clear hE
        go_upto_region 2 with (refine wpList_store_row rfl 23 _ _ rfl w2.heap.size _ rfl rfl _ _ (heap_new w2 _ _ rfl) (by kernel_rfl) (by simp [rowArr_size]) (rowArr_one fun _ _ => rfl) ?_; rw [setRow_new w2 _ _ _ _ rfl])
        obtain ⟨w3, hw3⟩ : ∃ w3, w2.alloc (.cells (rowArr 32 fun j => .int .u8 (KF j)) 23) = w3 := ⟨_, rfl⟩
        have hE : Ext w2 w3 := by rw [← hw3]; exact (Ext.refl w2).alloc _
        obtain ⟨gk, hgk⟩ : ∃ gk, w2.heap.size = gk := ⟨_, rfl⟩
        have HK3 := Lib.hid (show w3.heap[gk]? = some (.cells (rowArr 32 fun j => .int .u8 (KF j)) 23 (0, 0)) by rw [← hw3]; exact heap_new w2 _ _ hgk.symm)
        refine wp_world (w' := w3) hw3 ?_
        rw [hgk]
        clear hw3 hgk
        have HE3 := Lib.hid (HE2.out.trans hE)
        have HF3 := Lib.hid (hE.keep HF2.out)
        clear hE
        go_wp2_with fail
        refine (awake16_any w3 (HK.out.ext' HE3.out)).mono ?_
        rintro e w4 ⟨rfl, hE⟩
        have HE4 := Lib.hid (HE3.out.trans hE)
        have HF4 := Lib.hid (hE.keep HF3.out)
        have HK4 := Lib.hid (hE.keep HK3.out)
        clear hE
        have HY := Lib.hid (back_bad KF a b w4 (by omega))
        go_wp2_with (refine wpList_load_row rfl 23 (.tmp 7) rfl gk rfl _ _ _ _ HK4.out Tryd.underlying23 rfl (by kernel_rfl) ?_)
        refine HY.out.mono ?_
        rintro e w5 ⟨rfl, hE⟩
        clear HY
        have HE5 := Lib.hid (HE4.out.trans hE)
        have HF5 := Lib.hid (hE.keep HF4.out)
        have HK5 := Lib.hid (hE.keep HK4.out)
        clear hE
        go_upto_region 5 with (refine wpList_store_row rfl 23 _ _ rfl w5.heap.size _ rfl rfl _ _ (heap_new w5 _ _ rfl) (by kernel_rfl) (by simp [rowArr_size]) (rowArr_one fun _ _ => rfl) ?_; rw [setRow_new w5 _ _ _ _ rfl])
        obtain ⟨w6, hw6⟩ : ∃ w6, w5.alloc (.cells (rowArr 32 fun j => .int .u8 (zeroF j)) 23) = w6 := ⟨_, rfl⟩
        have hE : Ext w5 w6 := by rw [← hw6]; exact (Ext.refl w5).alloc _
        obtain ⟨gl, hgl⟩ : ∃ gl, w5.heap.size = gl := ⟨_, rfl⟩
        have HL6 := Lib.hid (show w6.heap[gl]? = some (.cells (rowArr 32 fun j => .int .u8 (zeroF j)) 23 (0, 0)) by rw [← hw6]; exact heap_new w5 _ _ hgl.symm)
        refine wp_world (w' := w6) hw6 ?_
        rw [hgl]
        clear hw6 hgl
        have HE6 := Lib.hid (HE5.out.trans hE)
        have HF6 := Lib.hid (hE.keep HF5.out)
        have HK6 := Lib.hid (hE.keep HK5.out)
        clear hE
        have HFd := Lib.hid (show w6.drew.heap[g]? = _ from HF6.out)
        have HKd := Lib.hid (show w6.drew.heap[gk]? = _ from HK6.out)
        have HLd := Lib.hid (show w6.drew.heap[gl]? = _ from HL6.out)
        have HX0 := Lib.hid (show ∀ x, Ext w6.drew x → Ext w x from fun x hx => HE6.out.trans (Ext.trans (Ext.refl w6).drew hx))
        refine wp_region_lexA (by kernel_rfl) (by kernel_rfl) ?_
        refine lx_e (.int .i64 0) [] (by kernel_rfl) rfl (by rfl) (fun w1 hw1 => ?_) ?_
        · simp only [pk, lexVals]
          go_simp
          exact ⟨Ext.refl _, rfl⟩
        refine lx_e (.bool false) [(0, 46)] (by kernel_rfl) rfl (by rfl) (fun w1 hw1 => ?_) ?_
        · simp only [pk, nthSp, lexVals]
          go_simp
          exact ⟨Ext.refl _, rfl⟩
        refine lx_e (.bool false) [(0, 47)] (by kernel_rfl) rfl (by rfl) (fun w1 hw1 => ?_) ?_
        · simp only [pk, nthSp, lexVals]
          go_simp
          exact ⟨Ext.refl _, rfl⟩
        refine lx_ge (.agg (rowArr 32 fun j => .int .u8 (KF j))) [(0, 48)] 48 (by kernel_rfl) rfl (by kernel_rfl) (by rfl) (fun w1 => ?_) (fun w1 hw1 => ?_) ?_
        · simp only [pk, nthSp, lexVals]
          rfl
        · simp only [pk, nthSp, lexVals]
          exact lu_row rfl rfl (hw1.keep HKd.out) Tryd.underlying23 rfl (by kernel_rfl)
        refine lx_ge (.agg (rowArr 32 fun j => .int .u8 (f j))) [(1, 48)] 48 (by kernel_rfl) rfl (by kernel_rfl) (by rfl) (fun w1 => ?_) (fun w1 hw1 => ?_) ?_
        · simp only [pk, nthSp, lexVals]
          rfl
        · simp only [pk, nthSp, lexVals]
          exact lu_row rfl rfl (hw1.keep HFd.out) Tryd.underlying23 rfl (by kernel_rfl)
        refine lx_ge (.int .i64 a) [(2, 48)] 48 (by kernel_rfl) rfl (by kernel_rfl) (by rfl) (fun w1 => ?_) (fun w1 hw1 => ?_) ?_
        · simp only [pk, nthSp, lexVals]
          rfl
        · simp only [pk, nthSp, lexVals]
          go_simp
          exact ⟨Ext.refl _, rfl⟩
        refine lx_ge (.agg (rowArr 32 fun j => .int .u8 (KF j))) [(1, 50), (0, 51), (3, 48)] 48 (by kernel_rfl) rfl (by kernel_rfl) (by rfl) (fun w1 => ?_) (fun w1 hw1 => ?_) ?_
        · simp only [pk, nthSp, lexVals]
          rfl
        · simp only [pk, nthSp, lexVals]
          have hm := refKey_any f Hf.out a w1 h0 h1 (HK2.out.ext' (HX0.out w1 hw1))
          rw [HKB.out] at hm
          have HM := Lib.hid hm
          clear hm hw1
          go_simp
          refine HM.out.mono ?_
          rintro e w2 ⟨rfl, hE2⟩
          exact ⟨_, rfl, hE2, rfl⟩
        refine lx_ge (.bool false) [(3, 49), (0, 52), (4, 48)] 48 (by kernel_rfl) rfl (by kernel_rfl) (by rfl) (fun w1 => ?_) (fun w1 hw1 => ?_) ?_
        · simp only [pk, nthSp, lexVals]
          rfl
        · simp only [pk, nthSp, lexVals]
          go_simp
          exact ⟨Ext.refl _, rfl⟩
        refine lx_e (.bool false) [(5, 48), (0, 53)] (by kernel_rfl) rfl (by rfl) (fun w1 hw1 => ?_) ?_
        · simp only [pk, nthSp, lexVals]
          go_simp
          exact ⟨Ext.refl _, rfl⟩
        refine lx_stopA (by rfl) fun w7 hw7 => ?_
        have HE7 := Lib.hid (HX0.out w7 hw7)
        have HF7 := Lib.hid (hw7.keep HFd.out)
        have HL7 := Lib.hid (hw7.keep HLd.out)
        clear hw7 HFd HKd HLd
        simp only [rv, pf, lexVals]
        simp only [Act.put, List.setIfInBounds_toArray, List.set_cons_zero, List.set_cons_succ]
        go_wp2_with (refine wpList_load_rowW rfl 23 (.tmp 9) rfl gl rfl _ _ _ _ HL7.out Tryd.underlying23 rfl (by kernel_rfl) ?_)
        go_ret
        exact ⟨rfl, HE7.out⟩
      · have x5 : a < b := by omega
        clear hb2 hb0
        go_enter Tryd.func3, Tryd.ntmps3
        go_upto_region 1 with (fail)
        obtain ⟨w1, hw1⟩ : ∃ w1, w.alloc (.cells (rowArr 32 fun j => .int .u8 (f j)) 23) = w1 := ⟨_, rfl⟩
        have HE1 := Lib.hid (show Ext w w1 by rw [← hw1]; exact (Ext.refl w).alloc _)
        obtain ⟨g, hg⟩ : ∃ g, w.heap.size = g := ⟨_, rfl⟩
        have HF1 := Lib.hid (show w1.heap[g]? = some (.cells (rowArr 32 fun j => .int .u8 (f j)) 23 (0, 0)) by rw [← hw1]; exact heap_new w _ _ hg.symm)
        refine wp_world (w' := w1) hw1 ?_
        rw [hg]
        clear hw1 hg
        have HY := Lib.hid (key_any f Hf.out a w1 (HK.out.ext' HE1.out))
        go_wp2_with (refine wpList_load_row rfl 23 (.tmp 3) rfl g rfl _ _ _ _ HF1.out Tryd.underlying23 rfl (by kernel_rfl) ?_)
        refine HY.out.mono ?_
        rintro e w2 ⟨rfl, hE⟩
        rw [HKF.out, HKE.out]
        clear HY
        have HE2 := Lib.hid (HE1.out.trans hE)
        have HF2 := Lib.hid (hE.keep HF1.out)
        clear hE
        go_upto_region 2 with (refine wpList_store_row rfl 23 _ _ rfl w2.heap.size _ rfl rfl _ _ (heap_new w2 _ _ rfl) (by kernel_rfl) (by simp [rowArr_size]) (rowArr_one fun _ _ => rfl) ?_; rw [setRow_new w2 _ _ _ _ rfl])
        obtain ⟨w3, hw3⟩ : ∃ w3, w2.alloc (.cells (rowArr 32 fun j => .int .u8 (KF j)) 23) = w3 := ⟨_, rfl⟩
        have hE : Ext w2 w3 := by rw [← hw3]; exact (Ext.refl w2).alloc _
        obtain ⟨gk, hgk⟩ : ∃ gk, w2.heap.size = gk := ⟨_, rfl⟩
        have HK3 := Lib.hid (show w3.heap[gk]? = some (.cells (rowArr 32 fun j => .int .u8 (KF j)) 23 (0, 0)) by rw [← hw3]; exact heap_new w2 _ _ hgk.symm)
        refine wp_world (w' := w3) hw3 ?_
        rw [hgk]
        clear hw3 hgk
        have HE3 := Lib.hid (HE2.out.trans hE)
        have HF3 := Lib.hid (hE.keep HF2.out)
        clear hE
        go_wp2_with fail
        refine (awake16_any w3 (HK.out.ext' HE3.out)).mono ?_
        rintro e w4 ⟨rfl, hE⟩
        have HE4 := Lib.hid (HE3.out.trans hE)
        have HF4 := Lib.hid (hE.keep HF3.out)
        have HK4 := Lib.hid (hE.keep HK3.out)
        clear hE
        have HY := Lib.hid (back_bad KF a b w4 (by omega))
        go_wp2_with (refine wpList_load_row rfl 23 (.tmp 7) rfl gk rfl _ _ _ _ HK4.out Tryd.underlying23 rfl (by kernel_rfl) ?_)
        refine HY.out.mono ?_
        rintro e w5 ⟨rfl, hE⟩
        clear HY
        have HE5 := Lib.hid (HE4.out.trans hE)
        have HF5 := Lib.hid (hE.keep HF4.out)
        have HK5 := Lib.hid (hE.keep HK4.out)
        clear hE
        go_upto_region 5 with (refine wpList_store_row rfl 23 _ _ rfl w5.heap.size _ rfl rfl _ _ (heap_new w5 _ _ rfl) (by kernel_rfl) (by simp [rowArr_size]) (rowArr_one fun _ _ => rfl) ?_; rw [setRow_new w5 _ _ _ _ rfl])
        obtain ⟨w6, hw6⟩ : ∃ w6, w5.alloc (.cells (rowArr 32 fun j => .int .u8 (zeroF j)) 23) = w6 := ⟨_, rfl⟩
        have hE : Ext w5 w6 := by rw [← hw6]; exact (Ext.refl w5).alloc _
        obtain ⟨gl, hgl⟩ : ∃ gl, w5.heap.size = gl := ⟨_, rfl⟩
        have HL6 := Lib.hid (show w6.heap[gl]? = some (.cells (rowArr 32 fun j => .int .u8 (zeroF j)) 23 (0, 0)) by rw [← hw6]; exact heap_new w5 _ _ hgl.symm)
        refine wp_world (w' := w6) hw6 ?_
        rw [hgl]
        clear hw6 hgl
        have HE6 := Lib.hid (HE5.out.trans hE)
        have HF6 := Lib.hid (hE.keep HF5.out)
        have HK6 := Lib.hid (hE.keep HK5.out)
        clear hE
        have HFd := Lib.hid (show w6.drew.heap[g]? = _ from HF6.out)
        have HKd := Lib.hid (show w6.drew.heap[gk]? = _ from HK6.out)
        have HLd := Lib.hid (show w6.drew.heap[gl]? = _ from HL6.out)
        have HX0 := Lib.hid (show ∀ x, Ext w6.drew x → Ext w x from fun x hx => HE6.out.trans (Ext.trans (Ext.refl w6).drew hx))
        refine wp_region_lexA (by kernel_rfl) (by kernel_rfl) ?_
        refine lx_e (.int .i64 0) [] (by kernel_rfl) rfl (by rfl) (fun w1 hw1 => ?_) ?_
        · simp only [pk, lexVals]
          go_simp
          exact ⟨Ext.refl _, rfl⟩
        refine lx_e (.bool false) [(0, 46)] (by kernel_rfl) rfl (by rfl) (fun w1 hw1 => ?_) ?_
        · simp only [pk, nthSp, lexVals]
          go_simp
          exact ⟨Ext.refl _, rfl⟩
        refine lx_e (.bool false) [(0, 47)] (by kernel_rfl) rfl (by rfl) (fun w1 hw1 => ?_) ?_
        · simp only [pk, nthSp, lexVals]
          go_simp
          exact ⟨Ext.refl _, rfl⟩
        refine lx_ge (.agg (rowArr 32 fun j => .int .u8 (KF j))) [(0, 48)] 48 (by kernel_rfl) rfl (by kernel_rfl) (by rfl) (fun w1 => ?_) (fun w1 hw1 => ?_) ?_
        · simp only [pk, nthSp, lexVals]
          rfl
        · simp only [pk, nthSp, lexVals]
          exact lu_row rfl rfl (hw1.keep HKd.out) Tryd.underlying23 rfl (by kernel_rfl)
        refine lx_ge (.agg (rowArr 32 fun j => .int .u8 (f j))) [(1, 48)] 48 (by kernel_rfl) rfl (by kernel_rfl) (by rfl) (fun w1 => ?_) (fun w1 hw1 => ?_) ?_
        · simp only [pk, nthSp, lexVals]
          rfl
        · simp only [pk, nthSp, lexVals]
          exact lu_row rfl rfl (hw1.keep HFd.out) Tryd.underlying23 rfl (by kernel_rfl)
        refine lx_ge (.int .i64 a) [(2, 48)] 48 (by kernel_rfl) rfl (by kernel_rfl) (by rfl) (fun w1 => ?_) (fun w1 hw1 => ?_) ?_
        · simp only [pk, nthSp, lexVals]
          rfl
        · simp only [pk, nthSp, lexVals]
          go_simp
          exact ⟨Ext.refl _, rfl⟩
        refine lx_ge (.agg (rowArr 32 fun j => .int .u8 (KF j))) [(1, 50), (0, 51), (3, 48)] 48 (by kernel_rfl) rfl (by kernel_rfl) (by rfl) (fun w1 => ?_) (fun w1 hw1 => ?_) ?_
        · simp only [pk, nthSp, lexVals]
          rfl
        · simp only [pk, nthSp, lexVals]
          have hm := refKey_any f Hf.out a w1 h0 h1 (HK2.out.ext' (HX0.out w1 hw1))
          rw [HKB.out] at hm
          have HM := Lib.hid hm
          clear hm hw1
          go_simp
          refine HM.out.mono ?_
          rintro e w2 ⟨rfl, hE2⟩
          exact ⟨_, rfl, hE2, rfl⟩
        refine lx_ge (.bool false) [(3, 49), (0, 52), (4, 48)] 48 (by kernel_rfl) rfl (by kernel_rfl) (by rfl) (fun w1 => ?_) (fun w1 hw1 => ?_) ?_
        · simp only [pk, nthSp, lexVals]
          rfl
        · simp only [pk, nthSp, lexVals]
          go_simp
          exact ⟨Ext.refl _, rfl⟩
        refine lx_e (.bool false) [(5, 48), (0, 53)] (by kernel_rfl) rfl (by rfl) (fun w1 hw1 => ?_) ?_
        · simp only [pk, nthSp, lexVals]
          go_simp
          exact ⟨Ext.refl _, rfl⟩
        refine lx_stopA (by rfl) fun w7 hw7 => ?_
        have HE7 := Lib.hid (HX0.out w7 hw7)
        have HF7 := Lib.hid (hw7.keep HFd.out)
        have HL7 := Lib.hid (hw7.keep HLd.out)
        clear hw7 HFd HKd HLd
        simp only [rv, pf, lexVals]
        simp only [Act.put, List.setIfInBounds_toArray, List.set_cons_zero, List.set_cons_succ]
        go_wp2_with (refine wpList_load_rowW rfl 23 (.tmp 9) rfl gl rfl _ _ _ _ HL7.out Tryd.underlying23 rfl (by kernel_rfl) ?_)
        go_ret
        exact ⟨rfl, HE7.out⟩
  · have HKE := Lib.hid (show keyE a = 1 by unfold keyE; rw [if_neg hr])
    obtain rfl : KF = zeroF := by rw [← hKF]; unfold keyR; rw [if_neg hr]
    clear hKF
    by_cases h0 : a < 0
    · clear hr
      go_enter Tryd.func3, Tryd.ntmps3
      go_upto_region 1 with (fail)
      obtain ⟨w1, hw1⟩ : ∃ w1, w.alloc (.cells (rowArr 32 fun j => .int .u8 (f j)) 23) = w1 := ⟨_, rfl⟩
      have HE1 := Lib.hid (show Ext w w1 by rw [← hw1]; exact (Ext.refl w).alloc _)
      obtain ⟨g, hg⟩ : ∃ g, w.heap.size = g := ⟨_, rfl⟩
      have HF1 := Lib.hid (show w1.heap[g]? = some (.cells (rowArr 32 fun j => .int .u8 (f j)) 23 (0, 0)) by rw [← hw1]; exact heap_new w _ _ hg.symm)
      refine wp_world (w' := w1) hw1 ?_
      rw [hg]
      clear hw1 hg
      have HY := Lib.hid (key_any f Hf.out a w1 (HK.out.ext' HE1.out))
      go_wp2_with (refine wpList_load_row rfl 23 (.tmp 3) rfl g rfl _ _ _ _ HF1.out Tryd.underlying23 rfl (by kernel_rfl) ?_)
      refine HY.out.mono ?_
      rintro e w2 ⟨rfl, hE⟩
      rw [HKF.out, HKE.out]
      clear HY
      have HE2 := Lib.hid (HE1.out.trans hE)
      have HF2 := Lib.hid (hE.keep HF1.out)
      clear hE
      go_upto_region 2 with (refine wpList_store_row rfl 23 _ _ rfl w2.heap.size _ rfl rfl _ _ (heap_new w2 _ _ rfl) (by kernel_rfl) (by simp [rowArr_size]) (rowArr_one fun _ _ => rfl) ?_; rw [setRow_new w2 _ _ _ _ rfl])
      obtain ⟨w3, hw3⟩ : ∃ w3, w2.alloc (.cells (rowArr 32 fun j => .int .u8 (zeroF j)) 23) = w3 := ⟨_, rfl⟩
      have hE : Ext w2 w3 := by rw [← hw3]; exact (Ext.refl w2).alloc _
      obtain ⟨gk, hgk⟩ : ∃ gk, w2.heap.size = gk := ⟨_, rfl⟩
      have HK3 := Lib.hid (show w3.heap[gk]? = some (.cells (rowArr 32 fun j => .int .u8 (zeroF j)) 23 (0, 0)) by rw [← hw3]; exact heap_new w2 _ _ hgk.symm)
      refine wp_world (w' := w3) hw3 ?_
      rw [hgk]
      clear hw3 hgk
      have HE3 := Lib.hid (HE2.out.trans hE)
      have HF3 := Lib.hid (hE.keep HF2.out)
      clear hE
      go_wp2_with fail
      refine (awake16_any w3 (HK.out.ext' HE3.out)).mono ?_
      rintro e w4 ⟨rfl, hE⟩
      have HE4 := Lib.hid (HE3.out.trans hE)
      have HF4 := Lib.hid (hE.keep HF3.out)
      have HK4 := Lib.hid (hE.keep HK3.out)
      clear hE
      go_wp2_with fail
      refine (awake16_any w4 (HK.out.ext' HE4.out)).mono ?_
      rintro e w5 ⟨rfl, hE⟩
      have HE5 := Lib.hid (HE4.out.trans hE)
      have HF5 := Lib.hid (hE.keep HF4.out)
      have HK5 := Lib.hid (hE.keep HK4.out)
      clear hE
      go_wp2_with (refine wpList_load_rowW rfl 23 (.tmp 7) rfl gk rfl _ _ _ _ HK5.out Tryd.underlying23 rfl (by kernel_rfl) ?_)
      go_ret
      exact ⟨rfl, HE5.out⟩
    · have x5 : 255 < a := by omega
      clear hr h0
      go_enter Tryd.func3, Tryd.ntmps3
      go_upto_region 1 with (fail)
      obtain ⟨w1, hw1⟩ : ∃ w1, w.alloc (.cells (rowArr 32 fun j => .int .u8 (f j)) 23) = w1 := ⟨_, rfl⟩
      have HE1 := Lib.hid (show Ext w w1 by rw [← hw1]; exact (Ext.refl w).alloc _)
      obtain ⟨g, hg⟩ : ∃ g, w.heap.size = g := ⟨_, rfl⟩
      have HF1 := Lib.hid (show w1.heap[g]? = some (.cells (rowArr 32 fun j => .int .u8 (f j)) 23 (0, 0)) by rw [← hw1]; exact heap_new w _ _ hg.symm)
      refine wp_world (w' := w1) hw1 ?_
      rw [hg]
      clear hw1 hg
      have HY := Lib.hid (key_any f Hf.out a w1 (HK.out.ext' HE1.out))
      go_wp2_with (refine wpList_load_row rfl 23 (.tmp 3) rfl g rfl _ _ _ _ HF1.out Tryd.underlying23 rfl (by kernel_rfl) ?_)
      refine HY.out.mono ?_
      rintro e w2 ⟨rfl, hE⟩
      rw [HKF.out, HKE.out]
      clear HY
      have HE2 := Lib.hid (HE1.out.trans hE)
      have HF2 := Lib.hid (hE.keep HF1.out)
      clear hE
      go_upto_region 2 with (refine wpList_store_row rfl 23 _ _ rfl w2.heap.size _ rfl rfl _ _ (heap_new w2 _ _ rfl) (by kernel_rfl) (by simp [rowArr_size]) (rowArr_one fun _ _ => rfl) ?_; rw [setRow_new w2 _ _ _ _ rfl])
      obtain ⟨w3, hw3⟩ : ∃ w3, w2.alloc (.cells (rowArr 32 fun j => .int .u8 (zeroF j)) 23) = w3 := ⟨_, rfl⟩
      have hE : Ext w2 w3 := by rw [← hw3]; exact (Ext.refl w2).alloc _
      obtain ⟨gk, hgk⟩ : ∃ gk, w2.heap.size = gk := ⟨_, rfl⟩
      have HK3 := Lib.hid (show w3.heap[gk]? = some (.cells (rowArr 32 fun j => .int .u8 (zeroF j)) 23 (0, 0)) by rw [← hw3]; exact heap_new w2 _ _ hgk.symm)
      refine wp_world (w' := w3) hw3 ?_
      rw [hgk]
      clear hw3 hgk
      have HE3 := Lib.hid (HE2.out.trans hE)
      have HF3 := Lib.hid (hE.keep HF2.out)
      clear hE
      go_wp2_with fail
      refine (awake16_any w3 (HK.out.ext' HE3.out)).mono ?_
      rintro e w4 ⟨rfl, hE⟩
      have HE4 := Lib.hid (HE3.out.trans hE)
      have HF4 := Lib.hid (hE.keep HF3.out)
      have HK4 := Lib.hid (hE.keep HK3.out)
      clear hE
      go_wp2_with fail
      refine (awake16_any w4 (HK.out.ext' HE4.out)).mono ?_
      rintro e w5 ⟨rfl, hE⟩
      have HE5 := Lib.hid (HE4.out.trans hE)
      have HF5 := Lib.hid (hE.keep HF4.out)
      have HK5 := Lib.hid (hE.keep HK4.out)
      clear hE
      go_wp2_with (refine wpList_load_rowW rfl 23 (.tmp 7) rfl gk rfl _ _ _ _ HK5.out Tryd.underlying23 rfl (by kernel_rfl) ?_)
      go_ret
      exact ⟨rfl, HE5.out⟩

end Go.Proofs.YtppidlpblkihbaaDoor
