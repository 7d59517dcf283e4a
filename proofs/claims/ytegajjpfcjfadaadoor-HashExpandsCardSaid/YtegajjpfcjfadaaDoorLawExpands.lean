/-
  The walk of jalousielaw01.HashExpands: it answers true. Asked: the two tables lie as the text lays them.
-/
import Derived.Test.YtegajjpfcjfadaaDoorLawSums
import Derived.Test.YtegajjpfcjfadaaDoorLu
import Derived.Test.YtegajjpfcjfadaaDoorRefExp
namespace Go.Proofs.YtegajjpfcjfadaaDoor
open Go.ChangeShapes Go.WideShapes Go.ChangeAt Go.RowKit

set_option maxHeartbeats 2000000 in
set_option maxRecDepth 100000 in
theorem lawExpands_any (f : Nat → Int) (b : Option Addr) (m d : Nat) (info : List Int) (n : Int) (w : World) (hf : ∀ j, j < 32 → 0 ≤ f j ∧ f j < 256) (h : BsAt w b m d info) (hn : -9223372036854775808 ≤ n ∧ n ≤ 9223372036854775807) (hk : KsAt 1 w) (hk2 : KsAt 0 w) :
    Calls Tryd.prog 9 #[.agg (rowArr 32 fun j => .int .u8 (f j)), .slice b m d, .int .i64 n] w fun e w' => e = .returned (.bool true) ∧ Ext w w' := by
  have hmc := h.cap
  have hml := h.lim
  have Hsz := Lib.hid (show (strOf info).size = m from by rw [← h.len, ← u8s_length info]; rfl)
  have Hib := Lib.hid h.byte
  have H := Lib.hid h
  have HK := Lib.hid hk
  have HK2 := Lib.hid hk2
  have Hf := Lib.hid hf
  obtain ⟨hn0, hn1⟩ := hn
  clear h hk hk2 hf hn0 hn1
  by_cases h1 : 200 < m
  · have x1 : (200 : Int) < (m : Int) := by omega
    go_enter Tryd.func9, Tryd.ntmps9
    go_upto_region 1 with (fail)
    obtain ⟨w1, hw1⟩ : ∃ w1, w.alloc (.cells (rowArr 32 fun j => .int .u8 (f j)) 26) = w1 := ⟨_, rfl⟩
    have hE1 : Ext w w1 := by rw [← hw1]; exact (Ext.refl w).alloc _
    have hR1 : w1.rowIs w.heap.size 26 32 (fun j => .int .u8 (f j)) := by rw [← hw1]; exact rowIs_of (heap_new w _ _ rfl)
    refine wp_world (w' := w1) hw1 ?_
    obtain ⟨g, hg⟩ : ∃ g, w.heap.size = g := ⟨_, rfl⟩
    rw [hg] at hR1 ⊢
    have hs1 := hR1.lt
    have HE1 := Lib.hid hE1
    have HR1 := Lib.hid hR1
    clear hw1 hE1 hR1 hg
    go_wp2_with fail
    refine (awake_any w1 (HK.out.ext HE1.out)).mono ?_
    rintro e w2 ⟨rfl, hE2⟩
    have HE2 := Lib.hid (HE1.out.trans hE2)
    have HR2 := Lib.hid (HR1.out.of_block (hE2.block hs1))
    have hs2 := HR2.out.lt
    clear hE2 HE1 HR1
    go_wp2_with fail
    refine (awake_any w2 (HK.out.ext HE2.out)).mono ?_
    rintro e w3 ⟨rfl, hE3⟩
    have HE3 := Lib.hid (HE2.out.trans hE3)
    clear hE3
    go_wp2
    go_ret
    exact ⟨rfl, HE3.out⟩
  have x1 : ¬ (200 : Int) < (m : Int) := by omega
  by_cases h2 : 600 < n ∧ n ≤ 8160
  · obtain ⟨x2, x3⟩ := h2
    go_enter Tryd.func9, Tryd.ntmps9
    go_upto_region 1 with (fail)
    obtain ⟨w1, hw1⟩ : ∃ w1, w.alloc (.cells (rowArr 32 fun j => .int .u8 (f j)) 26) = w1 := ⟨_, rfl⟩
    have hE1 : Ext w w1 := by rw [← hw1]; exact (Ext.refl w).alloc _
    have hR1 : w1.rowIs w.heap.size 26 32 (fun j => .int .u8 (f j)) := by rw [← hw1]; exact rowIs_of (heap_new w _ _ rfl)
    refine wp_world (w' := w1) hw1 ?_
    obtain ⟨g, hg⟩ : ∃ g, w.heap.size = g := ⟨_, rfl⟩
    rw [hg] at hR1 ⊢
    have hs1 := hR1.lt
    have HE1 := Lib.hid hE1
    have HR1 := Lib.hid hR1
    clear hw1 hE1 hR1 hg
    go_wp2_with fail
    refine (awake_any w1 (HK.out.ext HE1.out)).mono ?_
    rintro e w2 ⟨rfl, hE2⟩
    have HE2 := Lib.hid (HE1.out.trans hE2)
    have HR2 := Lib.hid (HR1.out.of_block (hE2.block hs1))
    have hs2 := HR2.out.lt
    clear hE2 HE1 HR1
    go_wp2_with fail
    refine (awake_any w2 (HK.out.ext HE2.out)).mono ?_
    rintro e w3 ⟨rfl, hE3⟩
    have HE3 := Lib.hid (HE2.out.trans hE3)
    clear hE3
    go_wp2
    go_ret
    exact ⟨rfl, HE3.out⟩
  by_cases h3 : n < 0
  · have x2 : ¬ 600 < n := by omega
    clear h2
    go_enter Tryd.func9, Tryd.ntmps9
    go_upto_region 1 with (fail)
    obtain ⟨w1, hw1⟩ : ∃ w1, w.alloc (.cells (rowArr 32 fun j => .int .u8 (f j)) 26) = w1 := ⟨_, rfl⟩
    have hE1 : Ext w w1 := by rw [← hw1]; exact (Ext.refl w).alloc _
    have hR1 : w1.rowIs w.heap.size 26 32 (fun j => .int .u8 (f j)) := by rw [← hw1]; exact rowIs_of (heap_new w _ _ rfl)
    refine wp_world (w' := w1) hw1 ?_
    obtain ⟨g, hg⟩ : ∃ g, w.heap.size = g := ⟨_, rfl⟩
    rw [hg] at hR1 ⊢
    have hs1 := hR1.lt
    have HE1 := Lib.hid hE1
    have HR1 := Lib.hid hR1
    clear hw1 hE1 hR1 hg
    go_wp2_with fail
    refine (awake_any w1 (HK.out.ext HE1.out)).mono ?_
    rintro e w2 ⟨rfl, hE2⟩
    have HE2 := Lib.hid (HE1.out.trans hE2)
    have HR2 := Lib.hid (HR1.out.of_block (hE2.block hs1))
    have hs2 := HR2.out.lt
    clear hE2 HE1 HR1
    have Hc := Lib.hid (rowIs_cells HR2.out)
    go_wp2_with (refine wpList_load_row rfl 26 _ rfl g rfl _ _ _ _ Hc.out Tryd.underlying26 rfl (by kernel_rfl) ?_)
    refine (expand_bad f b m d n w2 (Or.inl h3)).mono ?_
    rintro e w3 ⟨rfl, hE3⟩
    have HE3 := Lib.hid (HE2.out.trans hE3)
    clear hE3 Hc
    go_wp2
    go_ret
    exact ⟨rfl, HE3.out⟩
  by_cases h4 : 8160 < n
  · have x2 : ¬ n ≤ 8160 := by omega
    have x3 : 600 < n := by omega
    clear h2
    go_enter Tryd.func9, Tryd.ntmps9
    go_upto_region 1 with (fail)
    obtain ⟨w1, hw1⟩ : ∃ w1, w.alloc (.cells (rowArr 32 fun j => .int .u8 (f j)) 26) = w1 := ⟨_, rfl⟩
    have hE1 : Ext w w1 := by rw [← hw1]; exact (Ext.refl w).alloc _
    have hR1 : w1.rowIs w.heap.size 26 32 (fun j => .int .u8 (f j)) := by rw [← hw1]; exact rowIs_of (heap_new w _ _ rfl)
    refine wp_world (w' := w1) hw1 ?_
    obtain ⟨g, hg⟩ : ∃ g, w.heap.size = g := ⟨_, rfl⟩
    rw [hg] at hR1 ⊢
    have hs1 := hR1.lt
    have HE1 := Lib.hid hE1
    have HR1 := Lib.hid hR1
    clear hw1 hE1 hR1 hg
    go_wp2_with fail
    refine (awake_any w1 (HK.out.ext HE1.out)).mono ?_
    rintro e w2 ⟨rfl, hE2⟩
    have HE2 := Lib.hid (HE1.out.trans hE2)
    have HR2 := Lib.hid (HR1.out.of_block (hE2.block hs1))
    have hs2 := HR2.out.lt
    clear hE2 HE1 HR1
    have Hc := Lib.hid (rowIs_cells HR2.out)
    go_wp2_with (refine wpList_load_row rfl 26 _ rfl g rfl _ _ _ _ Hc.out Tryd.underlying26 rfl (by kernel_rfl) ?_)
    refine (expand_bad f b m d n w2 (Or.inr h4)).mono ?_
    rintro e w3 ⟨rfl, hE3⟩
    have HE3 := Lib.hid (HE2.out.trans hE3)
    clear hE3 Hc
    go_wp2
    go_ret
    exact ⟨rfl, HE3.out⟩
  obtain ⟨N, rfl⟩ : ∃ N : Nat, n = (N : Int) := ⟨n.toNat, by omega⟩
  have x2 : ¬ 600 < (N : Int) := by omega
  have x3 : (0 : Int) ≤ (N : Int) := by omega
  clear h2
  go_enter Tryd.func9, Tryd.ntmps9
  go_upto_region 1 with (fail)
  obtain ⟨w1, hw1⟩ : ∃ w1, w.alloc (.cells (rowArr 32 fun j => .int .u8 (f j)) 26) = w1 := ⟨_, rfl⟩
  have hE1 : Ext w w1 := by rw [← hw1]; exact (Ext.refl w).alloc _
  have hR1 : w1.rowIs w.heap.size 26 32 (fun j => .int .u8 (f j)) := by rw [← hw1]; exact rowIs_of (heap_new w _ _ rfl)
  refine wp_world (w' := w1) hw1 ?_
  obtain ⟨g, hg⟩ : ∃ g, w.heap.size = g := ⟨_, rfl⟩
  rw [hg] at hR1 ⊢
  have hs1 := hR1.lt
  have HE1 := Lib.hid hE1
  have HR1 := Lib.hid hR1
  clear hw1 hE1 hR1 hg
  go_wp2_with fail
  refine (awake_any w1 (HK.out.ext HE1.out)).mono ?_
  rintro e w2 ⟨rfl, hE2⟩
  have HE2 := Lib.hid (HE1.out.trans hE2)
  have HR2 := Lib.hid (HR1.out.of_block (hE2.block hs1))
  have hs2 := HR2.out.lt
  clear hE2 HE1 HR1
  have Hc := Lib.hid (rowIs_cells HR2.out)
  have hx := expand_any f Hf.out b m d info N w2 (H.out.ext HE2.out) (by omega) (by omega) (HK.out.ext HE2.out)
  have HX := Lib.hid hx
  clear hx
  go_wp2_with (refine wpList_load_row rfl 26 _ rfl g rfl _ _ _ _ Hc.out Tryd.underlying26 rfl (by kernel_rfl) ?_)
  refine HX.out.mono ?_
  rintro e w3 ⟨v, rfl, hv, hE3⟩
  obtain ⟨ab, rfl, hY3, -⟩ := hv
  have HY3 := Lib.hid hY3
  have HE3 := Lib.hid (HE2.out.trans hE3)
  have HR3 := Lib.hid (HR2.out.of_block (hE3.block hs2))
  have hs3 := HR3.out.lt
  have Hc3 := Lib.hid (rowIs_cells HR3.out)
  have HI3 := Lib.hid (H.out.ext HE3.out)
  clear hY3 hE3 Hc HX HE2 HR2
  go_wp2_with (first | (refine wpList_load_row rfl 26 _ rfl g rfl _ _ _ _ Hc3.out Tryd.underlying26 rfl (by kernel_rfl) ?_) | (refine conv_str rfl (.tmp 47) rfl b m d info rfl HI3.out ?_))
  have hd := derive_any f Hf.out (strOf info) w3 (by rw [Hsz.out]; omega) (HK.out.ext HE3.out)
  rw [strB_strOf Hib.out] at hd
  have HDv := Lib.hid hd
  clear hd
  refine HDv.out.mono ?_
  rintro e w4 ⟨rfl, hE4⟩
  obtain ⟨EX, hEX⟩ : ∃ EX, expandL (l32 f) info N = EX := ⟨_, rfl⟩
  obtain ⟨ED, hED⟩ : ∃ ED, expandL (l32 f) info 32 = ED := ⟨_, rfl⟩
  have hedl : ED.length = 32 := by rw [← hED]; exact expandL_length _ _ _
  have hedb : ∀ x ∈ ED, 0 ≤ x ∧ x < 256 := by rw [← hED]; exact expandL_byte _ _ _
  have hed : (List.range 32).map (fun j => ED.getD j 0) = ED := by
    refine List.ext_getElem (by simp [hedl]) fun i h1 h2 => ?_
    simp [List.getD_eq_getElem?_getD, List.getElem?_eq_getElem h2]
  rw [hEX] at HY3
  rw [hED]
  have Hex := Lib.hid hEX
  have Hed := Lib.hid hED
  have HED := Lib.hid hed
  have HEDb := Lib.hid hedb
  have HE4 := Lib.hid (HE3.out.trans hE4)
  have HY4 := Lib.hid (HY3.out.ext hE4)
  have HR4 := Lib.hid (HR3.out.of_block (hE4.block hs3))
  clear hE4 hEX hED hed hedb hedl HDv HY3 HR3 Hc3 HI3 HE3
  go_upto_region 7 with (refine wpList_store_row rfl 26 _ _ rfl w4.heap.size _ rfl rfl _ _ (heap_new w4 _ _ rfl) (by kernel_rfl) (by rw [rowArr_size]; rfl) (rowArr_one fun _ _ => rfl) ?_; rw [setRow_new w4 _ _ _ _ rfl])
  obtain ⟨w6, hw6⟩ : ∃ w6, w4.alloc (.cells (rowArr 32 fun j => .int .u8 (ED.getD j 0)) 26) = w6 := ⟨_, rfl⟩
  have hE6 : Ext w4 w6 := by rw [← hw6]; exact (Ext.refl w4).alloc _
  have hD6 : w6.rowIs w4.heap.size 26 32 (fun j => .int .u8 (ED.getD j 0)) := by rw [← hw6]; exact rowIs_of (heap_new w4 _ _ rfl)
  have hDb := bs_row hD6 (fun j hj => getD_byte HEDb.out j) (by omega)
  rw [HED.out] at hDb
  obtain ⟨g9, hg9⟩ : ∃ g9, w4.heap.size = g9 := ⟨_, rfl⟩
  rw [hg9] at hDb
  refine wp_world (w' := w6) hw6 ?_
  rw [hg9]
  have HD := Lib.hid hDb
  have HY := Lib.hid (HY4.out.ext hE6)
  have hr6 := HR4.out.of_block (hE6.block HR4.out.lt)
  have hs6 : g < w6.drew.heap.size := hr6.lt
  have HR6 := Lib.hid (show w6.drew.heap[g]? = _ from rowIs_cells hr6)
  have HX6 := Lib.hid (show ∀ x, Ext w6.drew x → Ext w6 x from fun x hx => Ext.trans (Ext.refl w6).drew hx)
  have HX0 := Lib.hid (show ∀ x, Ext w6.drew x → Ext w x from fun x hx => (HE4.out.trans hE6).trans (Ext.trans (Ext.refl w6).drew hx))
  clear hw6 hE6 hD6 hDb hg9 hr6 HE4 HY4 HR4
  refine wp_region_lexA (by kernel_rfl) (by kernel_rfl) ?_
  refine lx_e (.int .i64 0) [] (by kernel_rfl) rfl (by rfl) (fun w1 hw1 => ?_) ?_
  · simp only [pk, lexVals]
    go_simp
    exact ⟨Ext.refl _, rfl⟩
  refine lx_e (.bool true) [(0, 50)] (by kernel_rfl) rfl (by rfl) (fun w1 hw1 => ?_) ?_
  · simp only [pk, nthSp, lexVals]
    go_simp
    exact ⟨Ext.refl _, rfl⟩
  refine lx_e (.bool true) [(0, 51)] (by kernel_rfl) rfl (by rfl) (fun w1 hw1 => ?_) ?_
  · simp only [pk, nthSp, lexVals]
    go_simp
    exact ⟨Ext.refl _, rfl⟩
  refine lx_ge (.slice ab N N) [(0, 52)] 52 (by kernel_rfl) rfl (by kernel_rfl) (by rfl) (fun w1 => ?_) (fun w1 hw1 => ?_) ?_
  · simp only [pk, nthSp, lexVals]
    rfl
  · simp only [pk, nthSp, lexVals]
    go_simp
    exact ⟨Ext.refl _, rfl⟩
  refine lx_ge (.string (strOf EX)) [(0, 53), (1, 52)] 52 (by kernel_rfl) rfl (by kernel_rfl) (by rfl) (fun w1 => ?_) (fun w1 hw1 => ?_) ?_
  · simp only [pk, nthSp, lexVals]
    rfl
  · simp only [pk, nthSp, lexVals]
    exact lu_str rfl rfl (HY.out.ext (HX6.out w1 hw1))
  refine lx_ge (.agg (rowArr 32 fun j => .int .u8 (f j))) [(2, 52)] 52 (by kernel_rfl) rfl (by kernel_rfl) (by rfl) (fun w1 => ?_) (fun w1 hw1 => ?_) ?_
  · simp only [pk, nthSp, lexVals]
    rfl
  · simp only [pk, nthSp, lexVals]
    exact lu_row rfl rfl ((hw1.block hs6).trans HR6.out) Tryd.underlying26 rfl (by kernel_rfl)
  refine lx_ge (.slice b m d) [(3, 52)] 52 (by kernel_rfl) rfl (by kernel_rfl) (by rfl) (fun w1 => ?_) (fun w1 hw1 => ?_) ?_
  · simp only [pk, nthSp, lexVals]
    rfl
  · simp only [pk, nthSp, lexVals]
    go_simp
    exact ⟨Ext.refl _, rfl⟩
  refine lx_ge (.int .i64 (N : Int)) [(4, 52)] 52 (by kernel_rfl) rfl (by kernel_rfl) (by rfl) (fun w1 => ?_) (fun w1 hw1 => ?_) ?_
  · simp only [pk, nthSp, lexVals]
    rfl
  · simp only [pk, nthSp, lexVals]
    go_simp
    exact ⟨Ext.refl _, rfl⟩
  refine lx_ga (fun u w => ∃ q c, u = .slice q N c ∧ BsAt w q N c EX) [(2, 55), (1, 56), (0, 57), (5, 52)] 52 (by kernel_rfl) rfl (by kernel_rfl) (by rfl) (fun u w w' he ⟨q, c, h1, h2⟩ => ⟨q, c, h1, h2.ext he⟩) (fun w1 => ?_) (fun w1 hw1 => ?_) ?_
  · simp only [pk, nthSp, lexVals]
    rfl
  · simp only [pk, nthSp, lexVals]
    have hm := refExpand_any f Hf.out _ _ _ info N w1 (H.out.ext (HX0.out w1 hw1)) (by omega) (by omega) (HK2.out.ext (HX0.out w1 hw1))
    rw [Hex.out] at hm
    have HM := Lib.hid hm
    clear hm hw1
    go_simp
    refine HM.out.mono ?_
    rintro e w2 ⟨q, c, rfl, hB2, hE2⟩
    exact ⟨_, rfl, hE2, _, _, rfl, hB2⟩
  refine lx_ge (.string (strOf EX)) [(0, 58), (6, 52)] 52 (by kernel_rfl) rfl (by kernel_rfl) (by rfl) (fun w1 => ?_) (fun w1 hw1 => ?_) ?_
  · simp only [pk, nthSp, lexVals]
    rintro u58 ⟨q58, c58, rfl, -⟩
    rfl
  · simp only [pk, nthSp, lexVals]
    rintro u58 ⟨q58, c58, rfl, h58⟩
    exact lu_str rfl rfl h58
  refine lx_ge (.bool true) [(5, 54), (0, 59), (7, 52)] 52 (by kernel_rfl) rfl (by kernel_rfl) (by rfl) (fun w1 => ?_) (fun w1 hw1 => ?_) ?_
  · simp only [pk, nthSp, lexVals]
    rfl
  · simp only [pk, nthSp, lexVals]
    go_simp
    exact ⟨Ext.refl _, rfl⟩
  refine lx_e (.bool true) [(8, 52), (0, 60)] (by kernel_rfl) rfl (by rfl) (fun w1 hw1 => ?_) ?_
  · simp only [pk, nthSp, lexVals]
    go_simp
    exact ⟨Ext.refl _, rfl⟩
  refine lx_e (.bool true) [(0, 61)] (by kernel_rfl) rfl (by rfl) (fun w1 hw1 => ?_) ?_
  · simp only [pk, nthSp, lexVals]
    go_simp
    exact ⟨Ext.refl _, rfl⟩
  refine lx_ge (.slice (some ⟨g9, 0, none⟩) 32 32) [(0, 62)] 62 (by kernel_rfl) rfl (by kernel_rfl) (by rfl) (fun w1 => ?_) (fun w1 hw1 => ?_) ?_
  · simp only [pk, nthSp, lexVals]
    rfl
  · simp only [pk, nthSp, lexVals]
    go_simp
    exact ⟨Ext.refl _, rfl⟩
  refine lx_ge (.string (strOf ED)) [(0, 63), (1, 62)] 62 (by kernel_rfl) rfl (by kernel_rfl) (by rfl) (fun w1 => ?_) (fun w1 hw1 => ?_) ?_
  · simp only [pk, nthSp, lexVals]
    rfl
  · simp only [pk, nthSp, lexVals]
    exact lu_str rfl rfl (HD.out.ext (HX6.out w1 hw1))
  refine lx_ge (.agg (rowArr 32 fun j => .int .u8 (f j))) [(2, 62)] 62 (by kernel_rfl) rfl (by kernel_rfl) (by rfl) (fun w1 => ?_) (fun w1 hw1 => ?_) ?_
  · simp only [pk, nthSp, lexVals]
    rfl
  · simp only [pk, nthSp, lexVals]
    exact lu_row rfl rfl ((hw1.block hs6).trans HR6.out) Tryd.underlying26 rfl (by kernel_rfl)
  refine lx_ge (.slice b m d) [(3, 62)] 62 (by kernel_rfl) rfl (by kernel_rfl) (by rfl) (fun w1 => ?_) (fun w1 hw1 => ?_) ?_
  · simp only [pk, nthSp, lexVals]
    rfl
  · simp only [pk, nthSp, lexVals]
    go_simp
    exact ⟨Ext.refl _, rfl⟩
  refine lx_ga (fun u w => ∃ q c, u = .slice q 32 c ∧ BsAt w q 32 c ED) [(1, 65), (0, 66), (4, 62)] 62 (by kernel_rfl) rfl (by kernel_rfl) (by rfl) (fun u w w' he ⟨q, c, h1, h2⟩ => ⟨q, c, h1, h2.ext he⟩) (fun w1 => ?_) (fun w1 hw1 => ?_) ?_
  · simp only [pk, nthSp, lexVals]
    rfl
  · simp only [pk, nthSp, lexVals]
    have hm := refExpand_any f Hf.out _ _ _ info 32 w1 (H.out.ext (HX0.out w1 hw1)) (by omega) (by omega) (HK2.out.ext (HX0.out w1 hw1))
    rw [show ((32 : Nat) : Int) = 32 from rfl] at hm
    rw [Hed.out] at hm
    have HM := Lib.hid hm
    clear hm hw1
    go_simp
    refine HM.out.mono ?_
    rintro e w2 ⟨q, c, rfl, hB2, hE2⟩
    exact ⟨_, rfl, hE2, _, _, rfl, hB2⟩
  refine lx_ge (.string (strOf ED)) [(0, 67), (5, 62)] 62 (by kernel_rfl) rfl (by kernel_rfl) (by rfl) (fun w1 => ?_) (fun w1 hw1 => ?_) ?_
  · simp only [pk, nthSp, lexVals]
    rintro u67 ⟨q67, c67, rfl, -⟩
    rfl
  · simp only [pk, nthSp, lexVals]
    rintro u67 ⟨q67, c67, rfl, h67⟩
    exact lu_str rfl rfl h67
  refine lx_ge (.bool true) [(4, 64), (0, 68), (6, 62)] 62 (by kernel_rfl) rfl (by kernel_rfl) (by rfl) (fun w1 => ?_) (fun w1 hw1 => ?_) ?_
  · simp only [pk, nthSp, lexVals]
    rfl
  · simp only [pk, nthSp, lexVals]
    go_simp
    exact ⟨Ext.refl _, rfl⟩
  refine lx_e (.bool true) [(7, 62), (0, 69)] (by kernel_rfl) rfl (by rfl) (fun w1 hw1 => ?_) ?_
  · simp only [pk, nthSp, lexVals]
    go_simp
    exact ⟨Ext.refl _, rfl⟩
  refine lx_e (.bool true) [(0, 70)] (by kernel_rfl) rfl (by rfl) (fun w1 hw1 => ?_) ?_
  · simp only [pk, nthSp, lexVals]
    go_simp
    exact ⟨Ext.refl _, rfl⟩
  refine lx_stopA (by rfl) fun w7 hw7 => ?_
  have HE7 := Lib.hid (HX0.out w7 hw7)
  clear hw7
  simp only [rv, pf, lexVals]
  rintro v1 ⟨q1, c1, rfl, -⟩ v2 ⟨q2, c2, rfl, -⟩
  simp only [Act.put, List.setIfInBounds_toArray, List.set_cons_zero, List.set_cons_succ]
  go_wp2
  go_ret
  exact ⟨rfl, HE7.out⟩

end Go.Proofs.YtegajjpfcjfadaaDoor
