/-
  The walk of jalousielaw01.HashGoes: it answers true. Asked: the table lies as the text lays it.
-/
import Derived.Test.YtegajjpfcjfadaaDoorLawSums
import Derived.Test.YtegajjpfcjfadaaDoorLu
namespace Go.Proofs.YtegajjpfcjfadaaDoor
open Go.ChangeShapes Go.WideShapes Go.ChangeAt Go.RowKit

set_option maxHeartbeats 2000000 in
set_option maxRecDepth 100000 in
theorem lawGoes_any (f : Nat → Int) (b : Option Addr) (m d : Nat) (info : List Int) (tw : Nat → Int) (w : World) (hf : ∀ j, j < 32 → 0 ≤ f j ∧ f j < 256) (h : BsAt w b m d info) (htw : ∀ j, j < 2 → 0 ≤ tw j ∧ tw j ≤ 65535) (hk : KsAt 1 w) :
    Calls Tryd.prog 7 #[.agg (rowArr 32 fun j => .int .u8 (f j)), .slice b m d, .agg (rowArr 2 fun j => .int .u16 (tw j))] w fun e w' => e = .returned (.bool true) ∧ Ext w w' := by
  have hmc := h.cap
  have hml := h.lim
  have H := Lib.hid h
  have HK := Lib.hid hk
  have Hf := Lib.hid hf
  obtain ⟨ha0, ha1⟩ := htw 0 (by omega)
  obtain ⟨hb0, hb1⟩ := htw 1 (by omega)
  clear h hk hf htw
  go_enter Tryd.func7, Tryd.ntmps7
  go_upto_region 1 with (fail)
  obtain ⟨w1, hw1⟩ : ∃ w1, w.alloc (.cells (rowArr 32 fun j => .int .u8 (f j)) 26) = w1 := ⟨_, rfl⟩
  have hE1 : Ext w w1 := by rw [← hw1]; exact (Ext.refl w).alloc _
  have hR1 : w1.rowIs w.heap.size 26 32 (fun j => .int .u8 (f j)) := by rw [← hw1]; exact rowIs_of (heap_new w _ _ rfl)
  have hs1 : w1.heap.size = w.heap.size + 1 := by rw [← hw1]; simp
  obtain ⟨w2, hw2⟩ : ∃ w2, w1.alloc (.cells (rowArr 2 fun j => .int .u16 (tw j)) 38) = w2 := ⟨_, rfl⟩
  have hE2 : Ext w w2 := by rw [← hw2]; exact hE1.alloc _
  have hR2 : w2.rowIs w.heap.size 26 32 (fun j => .int .u8 (f j)) := by rw [← hw2]; exact hR1.alloc _
  have hT2 : w2.rowIs (w.heap.size + 1) 38 2 (fun j => .int .u16 (tw j)) := by
    have := rowIs_of (heap_new w1 (.cells (rowArr 2 fun j => .int .u16 (tw j)) 38) _ rfl)
    rwa [hs1, hw2] at this
  refine wp_world (w' := w2) (by rw [← hw2, ← hw1]) ?_
  have c0 := hT2.cell (show 0 < 2 by omega)
  have c1 := hT2.cell (show 1 < 2 by omega)
  obtain ⟨t0, ht0⟩ : ∃ t0, tw 0 = t0 := ⟨_, rfl⟩
  obtain ⟨t1, ht1⟩ : ∃ t1, tw 1 = t1 := ⟨_, rfl⟩
  rw [ht0] at c0 ha0 ha1
  rw [ht1] at c1 hb0 hb1
  obtain ⟨g, hg⟩ : ∃ g, w.heap.size = g := ⟨_, rfl⟩
  rw [hg] at hR2 c0 c1 ⊢
  have HE2 := Lib.hid hE2
  have HR2 := Lib.hid hR2
  clear hw1 hE1 hR1 hs1 hw2 hE2 hR2 hT2 ht0 ht1 hg
  go_quiet (fail)
  have HE3 := Lib.hid (HE2.out.drewN' nq)
  have hR3 : (w2.drewN nq).rowIs g 26 32 (fun j => .int .u8 (f j)) := HR2.out
  obtain ⟨w3, hw3⟩ : ∃ w3, w2.drewN nq = w3 := ⟨_, rfl⟩
  rw [hw3] at HE3 hR3 ⊢
  have HR3 := Lib.hid hR3
  have hs3 := hR3.lt
  clear c0 c1 hw3 HE2 HR2 hR3
  by_cases h1 : 100 < m
  · have x1 : (100 : Int) < (m : Int) := by omega
    go_wp2_with fail
    refine (awake_any w3 (HK.out.ext HE3.out)).mono ?_
    rintro e w4 ⟨rfl, hE4⟩
    have HE4 := Lib.hid (HE3.out.trans hE4)
    clear hE4
    go_wp2_with fail
    refine (awake_any w4 (HK.out.ext HE4.out)).mono ?_
    rintro e w5 ⟨rfl, hE5⟩
    have HE5 := Lib.hid (HE4.out.trans hE5)
    clear hE5
    go_wp2
    go_ret
    exact ⟨rfl, HE5.out⟩
  · have x1 : ¬ (100 : Int) < (m : Int) := by omega
    go_wp2_with fail
    refine (awake_any w3 (HK.out.ext HE3.out)).mono ?_
    rintro e w4 ⟨rfl, hE4⟩
    have HE4 := Lib.hid (HE3.out.trans hE4)
    have HR4 := Lib.hid (rowIs_cells (HR3.out.of_block (hE4.block hs3)))
    have hs4 : g < w4.heap.size := (HR3.out.of_block (hE4.block hs3)).lt
    clear hE4 HE3 HR3
    go_upto_region 5 with (fail)
    obtain ⟨A, hA⟩ : ∃ A : Nat, t0 % 500 = (A : Int) := ⟨(t0 % 500).toNat, by omega⟩
    obtain ⟨B, hB⟩ : ∃ B : Nat, t1 % 500 = (B : Int) := ⟨(t1 % 500).toNat, by omega⟩
    have hA5 : A < 500 := by omega
    have hB5 : B < 500 := by omega
    rw [hA, hB]
    clear hA hB
    obtain ⟨lo, hi, hmin, hmax, hlh, hh⟩ : ∃ lo hi : Nat, min (A : Int) (B : Int) = (lo : Int) ∧ max (A : Int) (B : Int) = (hi : Int) ∧ lo ≤ hi ∧ hi < 500 := by
      by_cases hab : A ≤ B
      · exact ⟨A, B, by omega, by omega, by omega, by omega⟩
      · exact ⟨B, A, by omega, by omega, by omega, by omega⟩
    have y1 : (0 : Int) ≤ (lo : Int) := by omega
    have y2 : (lo : Int) ≤ (hi : Int) := by omega
    have hx := expand_any f Hf.out b m d info lo w4 (H.out.ext HE4.out) (by omega) (by omega) (HK.out.ext HE4.out)
    have HX := Lib.hid hx
    clear hx
    go_wp2_with (refine wpList_load_row rfl 26 _ rfl g rfl _ _ _ _ HR4.out Tryd.underlying26 rfl (by kernel_rfl) ?_)
    refine HX.out.mono ?_
    rintro e w5 ⟨v, rfl, hv, hE5⟩
    obtain ⟨ax, rfl, hX5, -⟩ := hv
    have HX5 := Lib.hid hX5
    have HE5 := Lib.hid (HE4.out.trans hE5)
    have HR5 := Lib.hid (show w5.heap[g]? = some (.cells (rowArr 32 fun j => .int .u8 (f j)) 26 (0, 0)) from (hE5.block hs4).trans HR4.out)
    have hy := expand_any f Hf.out b m d info hi w5 (H.out.ext HE5.out) (by omega) (by omega) (HK.out.ext HE5.out)
    have HY := Lib.hid hy
    clear hX5 hE5 hy HX HR4 HE4
    go_wp2_with (refine wpList_load_row rfl 26 _ rfl g rfl _ _ _ _ HR5.out Tryd.underlying26 rfl (by kernel_rfl) ?_)
    refine HY.out.mono ?_
    rintro e w6 ⟨v, rfl, hv, hE6⟩
    obtain ⟨ay, rfl, hY6, -⟩ := hv
    have hXx := HX5.out.ext hE6
    have hYc := hY6.cut (m := lo) (c' := hi) hlh hlh (Nat.le_refl _)
    rw [expandL_pre _ _ _ _ hlh] at hYc
    have HE6 := Lib.hid (HE5.out.trans hE6)
    obtain ⟨X, hX⟩ : ∃ X, expandL (l32 f) info lo = X := ⟨_, rfl⟩
    rw [hX] at hXx hYc
    have HXx := Lib.hid hXx
    have HYc := Lib.hid hYc
    clear hY6 hE6 hXx hYc hX HY HX5 HR5 HE5
    go_upto_region 7 with (fail)
    have HXw := Lib.hid (show ∀ x, Ext w6.drew x → Ext w6 x from fun x hx => Ext.trans (Ext.refl w6).drew hx)
    refine wp_region_lexA (by kernel_rfl) (by kernel_rfl) ?_
    refine lx_e (.int .i64 0) [] (by kernel_rfl) rfl (by rfl) (fun w1 hw1 => ?_) ?_
    · simp only [pk, lexVals]
      go_simp
      exact ⟨Ext.refl _, rfl⟩
    refine lx_e (.bool true) [(0, 51)] (by kernel_rfl) rfl (by rfl) (fun w1 hw1 => ?_) ?_
    · simp only [pk, nthSp, lexVals]
      go_simp
      exact ⟨Ext.refl _, rfl⟩
    refine lx_e (.bool true) [(0, 52)] (by kernel_rfl) rfl (by rfl) (fun w1 hw1 => ?_) ?_
    · simp only [pk, nthSp, lexVals]
      go_simp
      exact ⟨Ext.refl _, rfl⟩
    refine lx_ge (.int .i64 0) [(0, 53)] 53 (by kernel_rfl) rfl (by kernel_rfl) (by rfl) (fun w1 => ?_) (fun w1 hw1 => ?_) ?_
    · simp only [pk, nthSp, lexVals]
      rfl
    · simp only [pk, nthSp, lexVals]
      go_simp
      exact ⟨Ext.refl _, rfl⟩
    refine lx_ge (.bool true) [(0, 54), (1, 53)] 53 (by kernel_rfl) rfl (by kernel_rfl) (by rfl) (fun w1 => ?_) (fun w1 hw1 => ?_) ?_
    · simp only [pk, nthSp, lexVals]
      rfl
    · simp only [pk, nthSp, lexVals]
      go_simp
      exact ⟨Ext.refl _, rfl⟩
    refine lx_e (.bool true) [(2, 53), (0, 55)] (by kernel_rfl) rfl (by rfl) (fun w1 hw1 => ?_) ?_
    · simp only [pk, nthSp, lexVals]
      go_simp
      exact ⟨Ext.refl _, rfl⟩
    refine lx_e (.bool true) [(0, 56)] (by kernel_rfl) rfl (by rfl) (fun w1 hw1 => ?_) ?_
    · simp only [pk, nthSp, lexVals]
      go_simp
      exact ⟨Ext.refl _, rfl⟩
    refine lx_ge (.slice ay hi hi) [(0, 57)] 57 (by kernel_rfl) rfl (by kernel_rfl) (by rfl) (fun w1 => ?_) (fun w1 hw1 => ?_) ?_
    · simp only [pk, nthSp, lexVals]
      rfl
    · simp only [pk, nthSp, lexVals]
      go_simp
      exact ⟨Ext.refl _, rfl⟩
    refine lx_ge (.int .i64 (hi : Int)) [(0, 58), (1, 57)] 57 (by kernel_rfl) rfl (by kernel_rfl) (by rfl) (fun w1 => ?_) (fun w1 hw1 => ?_) ?_
    · simp only [pk, nthSp, lexVals]
      rfl
    · simp only [pk, nthSp, lexVals]
      go_simp
      exact ⟨Ext.refl _, rfl⟩
    refine lx_ge (.int .i64 (A : Int)) [(2, 57)] 57 (by kernel_rfl) rfl (by kernel_rfl) (by rfl) (fun w1 => ?_) (fun w1 hw1 => ?_) ?_
    · simp only [pk, nthSp, lexVals]
      rfl
    · simp only [pk, nthSp, lexVals]
      go_simp
      exact ⟨Ext.refl _, rfl⟩
    refine lx_ge (.int .i64 (B : Int)) [(3, 57)] 57 (by kernel_rfl) rfl (by kernel_rfl) (by rfl) (fun w1 => ?_) (fun w1 hw1 => ?_) ?_
    · simp only [pk, nthSp, lexVals]
      rfl
    · simp only [pk, nthSp, lexVals]
      go_simp
      exact ⟨Ext.refl _, rfl⟩
    refine lx_ge (.int .i64 (hi : Int)) [(1, 60), (0, 61), (4, 57)] 57 (by kernel_rfl) rfl (by kernel_rfl) (by rfl) (fun w1 => ?_) (fun w1 hw1 => ?_) ?_
    · simp only [pk, nthSp, lexVals]
      rfl
    · simp only [pk, nthSp, lexVals]
      go_simp
      exact ⟨Ext.refl _, rfl⟩
    refine lx_ge (.bool true) [(3, 59), (0, 62), (5, 57)] 57 (by kernel_rfl) rfl (by kernel_rfl) (by rfl) (fun w1 => ?_) (fun w1 hw1 => ?_) ?_
    · simp only [pk, nthSp, lexVals]
      rfl
    · simp only [pk, nthSp, lexVals]
      go_simp
      exact ⟨Ext.refl _, rfl⟩
    refine lx_e (.bool true) [(6, 57), (0, 63)] (by kernel_rfl) rfl (by rfl) (fun w1 hw1 => ?_) ?_
    · simp only [pk, nthSp, lexVals]
      go_simp
      exact ⟨Ext.refl _, rfl⟩
    refine lx_e (.bool true) [(0, 64)] (by kernel_rfl) rfl (by rfl) (fun w1 hw1 => ?_) ?_
    · simp only [pk, nthSp, lexVals]
      go_simp
      exact ⟨Ext.refl _, rfl⟩
    refine lx_ge (.slice ay hi hi) [(0, 65)] 65 (by kernel_rfl) rfl (by kernel_rfl) (by rfl) (fun w1 => ?_) (fun w1 hw1 => ?_) ?_
    · simp only [pk, nthSp, lexVals]
      rfl
    · simp only [pk, nthSp, lexVals]
      go_simp
      exact ⟨Ext.refl _, rfl⟩
    refine lx_ge (.int .i64 (A : Int)) [(1, 65)] 65 (by kernel_rfl) rfl (by kernel_rfl) (by rfl) (fun w1 => ?_) (fun w1 hw1 => ?_) ?_
    · simp only [pk, nthSp, lexVals]
      rfl
    · simp only [pk, nthSp, lexVals]
      go_simp
      exact ⟨Ext.refl _, rfl⟩
    refine lx_ge (.int .i64 (B : Int)) [(2, 65)] 65 (by kernel_rfl) rfl (by kernel_rfl) (by rfl) (fun w1 => ?_) (fun w1 hw1 => ?_) ?_
    · simp only [pk, nthSp, lexVals]
      rfl
    · simp only [pk, nthSp, lexVals]
      go_simp
      exact ⟨Ext.refl _, rfl⟩
    refine lx_ge (.int .i64 (lo : Int)) [(1, 67), (0, 68), (3, 65)] 65 (by kernel_rfl) rfl (by kernel_rfl) (by rfl) (fun w1 => ?_) (fun w1 hw1 => ?_) ?_
    · simp only [pk, nthSp, lexVals]
      rfl
    · simp only [pk, nthSp, lexVals]
      go_simp
      exact ⟨Ext.refl _, rfl⟩
    refine lx_ge (.slice ay lo hi) [(3, 66), (0, 69), (4, 65)] 65 (by kernel_rfl) rfl (by kernel_rfl) (by rfl) (fun w1 => ?_) (fun w1 hw1 => ?_) ?_
    · simp only [pk, nthSp, lexVals]
      rfl
    · simp only [pk, nthSp, lexVals]
      go_simp
      exact ⟨Ext.refl _, rfl⟩
    refine lx_ge (.string (strOf X)) [(0, 70), (5, 65)] 65 (by kernel_rfl) rfl (by kernel_rfl) (by rfl) (fun w1 => ?_) (fun w1 hw1 => ?_) ?_
    · simp only [pk, nthSp, lexVals]
      rfl
    · simp only [pk, nthSp, lexVals]
      exact lu_str rfl rfl (HYc.out.ext (HXw.out w1 hw1))
    refine lx_ge (.slice ax lo lo) [(6, 65)] 65 (by kernel_rfl) rfl (by kernel_rfl) (by rfl) (fun w1 => ?_) (fun w1 hw1 => ?_) ?_
    · simp only [pk, nthSp, lexVals]
      rfl
    · simp only [pk, nthSp, lexVals]
      go_simp
      exact ⟨Ext.refl _, rfl⟩
    refine lx_ge (.string (strOf X)) [(0, 72), (7, 65)] 65 (by kernel_rfl) rfl (by kernel_rfl) (by rfl) (fun w1 => ?_) (fun w1 hw1 => ?_) ?_
    · simp only [pk, nthSp, lexVals]
      rfl
    · simp only [pk, nthSp, lexVals]
      exact lu_str rfl rfl (HXx.out.ext (HXw.out w1 hw1))
    refine lx_ge (.bool true) [(2, 71), (0, 73), (8, 65)] 65 (by kernel_rfl) rfl (by kernel_rfl) (by rfl) (fun w1 => ?_) (fun w1 hw1 => ?_) ?_
    · simp only [pk, nthSp, lexVals]
      rfl
    · simp only [pk, nthSp, lexVals]
      go_simp
      exact ⟨Ext.refl _, rfl⟩
    refine lx_e (.bool true) [(9, 65), (0, 74)] (by kernel_rfl) rfl (by rfl) (fun w1 hw1 => ?_) ?_
    · simp only [pk, nthSp, lexVals]
      go_simp
      exact ⟨Ext.refl _, rfl⟩
    refine lx_e (.bool true) [(0, 75)] (by kernel_rfl) rfl (by rfl) (fun w1 hw1 => ?_) ?_
    · simp only [pk, nthSp, lexVals]
      go_simp
      exact ⟨Ext.refl _, rfl⟩
    refine lx_stopA (by rfl) fun w7 hw7 => ?_
    have HE7 := Lib.hid (HE6.out.trans (HXw.out w7 hw7))
    clear hw7
    simp only [rv, pf, lexVals]
    simp only [Act.put, List.setIfInBounds_toArray, List.set_cons_zero, List.set_cons_succ]
    go_wp2
    go_ret
    exact ⟨rfl, HE7.out⟩

end Go.Proofs.YtegajjpfcjfadaaDoor
