/-
  The walk of jalousielaw01.HashOwn: it answers true. Asked: the table lies as the text lays it.
-/
import Derived.Test.YtegajjpfcjfadaaDoorLawSums
import Derived.Test.YtegajjpfcjfadaaDoorLu
namespace Go.Proofs.YtegajjpfcjfadaaDoor
open Go.ChangeShapes Go.WideShapes Go.ChangeAt Go.RowKit

set_option maxHeartbeats 2000000 in
set_option maxRecDepth 100000 in
theorem lawOwn_any (f : Nat → Int) (b : Option Addr) (m d : Nat) (xs : List Int) (w : World) (hf : ∀ j, j < 32 → 0 ≤ f j ∧ f j < 256) (h : BsAt w b m d xs) (hk : KsAt 1 w) :
    Calls Tryd.prog 8 #[.agg (rowArr 32 fun j => .int .u8 (f j)), .slice b m d] w fun e w' => e = .returned (.bool true) ∧ Ext w w' := by
  have hmc := h.cap
  have hml := h.lim
  have Hxl := Lib.hid h.len
  have H := Lib.hid h
  have HK := Lib.hid hk
  have Hf := Lib.hid hf
  clear h hk hf
  by_cases h1 : 500 < m
  · have x1 : (500 : Int) < (m : Int) := by omega
    go_enter Tryd.func8, Tryd.ntmps8
    go_upto_region 1 with (fail)
    obtain ⟨w1, hw1⟩ : ∃ w1, w.alloc (.cells (rowArr 32 fun j => .int .u8 (f j)) 26) = w1 := ⟨_, rfl⟩
    have hE1 : Ext w w1 := by rw [← hw1]; exact (Ext.refl w).alloc _
    have hR1 : w1.rowIs w.heap.size 26 32 (fun j => .int .u8 (f j)) := by rw [← hw1]; exact rowIs_of (heap_new w _ _ rfl)
    refine wp_world (w' := w1) hw1 ?_
    obtain ⟨g, hg⟩ : ∃ g, w.heap.size = g := ⟨_, rfl⟩
    rw [hg] at hR1 ⊢
    have hs1 := hR1.lt
    have HE1 := Lib.hid hE1
    have HR1 := Lib.hid hR1
    clear hw1 hE1 hR1 hg
    go_wp2_with fail
    refine (awake_any w1 (HK.out.ext HE1.out)).mono ?_
    rintro e w2 ⟨rfl, hE2⟩
    have HE2 := Lib.hid (HE1.out.trans hE2)
    have HR2 := Lib.hid (HR1.out.of_block (hE2.block hs1))
    have hs2 := HR2.out.lt
    clear hE2 HE1 HR1
    go_wp2_with fail
    refine (awake_any w2 (HK.out.ext HE2.out)).mono ?_
    rintro e w3 ⟨rfl, hE3⟩
    have HE3 := Lib.hid (HE2.out.trans hE3)
    clear hE3
    go_wp2
    go_ret
    exact ⟨rfl, HE3.out⟩
  have x1 : ¬ (500 : Int) < (m : Int) := by omega
  go_enter Tryd.func8, Tryd.ntmps8
  go_upto_region 1 with (fail)
  obtain ⟨w1, hw1⟩ : ∃ w1, w.alloc (.cells (rowArr 32 fun j => .int .u8 (f j)) 26) = w1 := ⟨_, rfl⟩
  have hE1 : Ext w w1 := by rw [← hw1]; exact (Ext.refl w).alloc _
  have hR1 : w1.rowIs w.heap.size 26 32 (fun j => .int .u8 (f j)) := by rw [← hw1]; exact rowIs_of (heap_new w _ _ rfl)
  refine wp_world (w' := w1) hw1 ?_
  obtain ⟨g, hg⟩ : ∃ g, w.heap.size = g := ⟨_, rfl⟩
  rw [hg] at hR1 ⊢
  have hs1 := hR1.lt
  have HE1 := Lib.hid hE1
  have HR1 := Lib.hid hR1
  clear hw1 hE1 hR1 hg
  go_wp2_with fail
  refine (awake_any w1 (HK.out.ext HE1.out)).mono ?_
  rintro e w2 ⟨rfl, hE2⟩
  have HE2 := Lib.hid (HE1.out.trans hE2)
  have HR2 := Lib.hid (HR1.out.of_block (hE2.block hs1))
  have hs2 := HR2.out.lt
  clear hE2 HE1 HR1
  have HI2 := Lib.hid (H.out.ext HE2.out)
  have Hc := Lib.hid (rowIs_cells HR2.out)
  have hx := expand_any f Hf.out b m d xs 64 w2 HI2.out (by omega) (by omega) (HK.out.ext HE2.out)
  rw [show ((64 : Nat) : Int) = 64 from rfl] at hx
  have HX := Lib.hid hx
  clear hx
  go_wp2_with (first | (refine conv_str rfl (.tmp 19) rfl b m d xs rfl HI2.out ?_) | (refine wpList_load_row rfl 26 _ rfl g rfl _ _ _ _ Hc.out Tryd.underlying26 rfl (by kernel_rfl) ?_))
  refine HX.out.mono ?_
  rintro e w3 ⟨v, rfl, hv, hE3⟩
  obtain ⟨ax, rfl, hX3, hN3⟩ := hv
  obtain ⟨gx, cur, rfl, hgx, hcur⟩ := hN3 (by omega)
  have HE3 := Lib.hid (HE2.out.trans hE3)
  have HR3 := Lib.hid (HR2.out.of_block (hE3.block hs2))
  have hs3 := HR3.out.lt
  obtain ⟨XX, hXX⟩ : ∃ XX, expandL (l32 f) xs 64 = XX := ⟨_, rfl⟩
  rw [hXX] at hX3
  have hcell : ∀ j, j < 64 → cur[j]? = some (.int .u8 (XX.getD j 0)) := fun j hj => by
    obtain ⟨b', o', e', hc'⟩ := hX3.at_ (by omega)
    simp only [Option.some.injEq, Addr.mk.injEq, and_true] at e'
    obtain ⟨rfl, rfl⟩ := e'
    have := hc' j hj
    rwa [Nat.zero_add, cell_of_row _ _ _ _ _ _ hcur] at this
  have hN64 : 64 ≤ cur.size := by
    have := (Array.getElem?_eq_some_iff.1 (hcell 63 (by omega))).1
    omega
  have hrow : w3.rowIs gx 5 cur.size (fun j => (cur[j]?).getD undef) := ⟨cur, hcur, rfl, fun i hi => by simp [Array.getElem?_eq_getElem hi]⟩
  have hrow2 : w3.rowIs gx 5 cur.size (fun j => if j < 64 then .int .u8 (XX.getD j 0) else (cur[j]?).getD undef) := hrow.congr fun j _ => by
    by_cases hj : j < 64
    · rw [if_pos hj, hcell j hj]; rfl
    · rw [if_neg hj]
  obtain ⟨M, hM⟩ : ∃ M, cur.size = M := ⟨_, rfl⟩
  obtain ⟨R, hR⟩ : ∃ R : Nat → Value, (fun j => (cur[j]?).getD undef) = R := ⟨_, rfl⟩
  have hR' : ∀ j, (cur[j]?).getD undef = R j := fun j => by rw [← hR]
  simp only [hR'] at hrow2
  rw [hM] at hrow2 hN64
  have hby : ∀ j, 0 ≤ XX.getD j 0 ∧ XX.getD j 0 < 256 := fun j => getD_byte hX3.byte j
  have Hby := Lib.hid hby
  have HXX := Lib.hid hXX
  have Hrow := Lib.hid hrow2
  have hsx : w2.heap.size ≤ w3.heap.size := Below.size hE3
  have Hge := Lib.hid hgx
  have HE23 := Lib.hid hE3
  clear hX3 hN3 hE3 hcur hcell hrow hrow2 hM hR hR' hXX hby HX Hc
  go_wp2
  go_loopw [8] (fun i wr => ∃ k : Nat, k ≤ 64 ∧ i = .int .i64 (k : Int) ∧ wr.rowIs gx 5 M (fun j => if j < k then .int .u8 ((XX.getD j 0 + 1) % 256) else if j < 64 then .int .u8 (XX.getD j 0) else R j) ∧ w3.grownBy wr (some gx)) (fun i _ => 64 - (intOf i).toNat)
  case atStart => exact ⟨0, Nat.zero_le _, rfl, Hrow.out.congr fun j _ => by simp, grown_ext (Ext.refl w3) _⟩
  case round =>
    obtain ⟨k, hk, rfl, hW, hG⟩ := hrel
    by_cases hlt : k < 64
    · have c1 := hW.cell (show k < M by omega)
      have f1 := hW.frozen k
      rw [if_neg (by omega), if_pos hlt] at c1
      obtain ⟨x, hx⟩ : ∃ x, XX.getD k 0 = x := ⟨_, rfl⟩
      have hx0 := (Hby.out k).1
      have hx1 := (Hby.out k).2
      rw [hx] at c1 hx0 hx1
      have x2 : (0 : Int) ≤ (k : Int) := by omega
      have x3 : (k : Int) < 64 := by omega
      have HW := Lib.hid hW
      have HG := Lib.hid hG
      have Hx := Lib.hid hx
      clear hW hG hx
      go_wp2
      go_roundw
      case rel =>
        refine ⟨k + 1, by omega, by go_num, (HW.out.set k _).congr fun j hj => ?_, grown_setCell HG.out rfl _⟩
        by_cases hjk : j = k
        · subst hjk
          rw [if_pos rfl, if_pos (by omega), Hx.out]
        · rw [if_neg hjk]
          by_cases h2 : j < k
          · rw [if_pos h2, if_pos (show j < k + 1 by omega)]
          · rw [if_neg (show ¬ j < k by exact h2), if_neg (show ¬ j < k + 1 by omega)]
      case measure => simp [intOf]; omega
    · obtain rfl : k = 64 := by omega
      have hg2 := Hge.out
      have hE4 : Ext w2 wr := ext_grown HE23.out hG hg2
      have hcx := hW.cell (show 0 < M by omega)
      rw [if_pos (by omega)] at hcx
      have HE4 := Lib.hid (HE2.out.trans hE4)
      have HI4 := Lib.hid (HI2.out.ext hE4)
      have HR4 := Lib.hid (HR2.out.of_block (hE4.block hs2))
      have hs4 := HR4.out.lt
      have Hc4 := Lib.hid (rowIs_cells HR4.out)
      have hlt4 := hW.lt
      have HCx := Lib.hid hcx
      have hy := expand_any f Hf.out b m d xs 40 wr HI4.out (by omega) (by omega) (HK.out.ext HE4.out)
      rw [show ((40 : Nat) : Int) = 40 from rfl] at hy
      have HY := Lib.hid hy
      clear hW hG hE4 hcx hy hg2
      rw [show ((64 : Nat) : Int) = 64 from rfl]
      go_wp2_with (refine wpList_load_row rfl 26 _ rfl g rfl _ _ _ _ Hc4.out Tryd.underlying26 rfl (by kernel_rfl) ?_)
      refine HY.out.mono ?_
      rintro e w5 ⟨v, rfl, hv, hE5⟩
      obtain ⟨ay, rfl, hY5, -⟩ := hv
      obtain ⟨gy, oy, rfl, hcy⟩ := hY5.at_ (by omega)
      have hcy0 := hcy 0 (by omega)
      rw [Nat.add_zero] at hcy0
      have hpre := expandL_pre (l32 f) xs 40 64 (by omega)
      rw [HXX.out] at hpre
      have he0 : (expandL (l32 f) xs 40).getD 0 0 = XX.getD 0 0 := by
        rw [← hpre, List.getD_eq_getElem?_getD, List.getD_eq_getElem?_getD, List.getElem?_take, if_pos (by omega)]
      rw [he0] at hcy0
      have HE5 := Lib.hid (HE4.out.trans hE5)
      have HI5 := Lib.hid (H.out.ext (HE4.out.trans hE5))
      have HCx5 := Lib.hid ((Ext.cell (p := ⟨gx, 0, none⟩) hE5 hlt4).trans HCx.out)
      have hlt5 : gx < w5.heap.size := Nat.lt_of_lt_of_le hlt4 (Below.size hE5)
      have hlt5y : gy < w5.heap.size := World.block_lt_of_cell? w5 _ hcy0
      obtain ⟨e0, hee⟩ : ∃ e0, XX.getD 0 0 = e0 := ⟨_, rfl⟩
      have he1 := (Hby.out 0).1
      have he2 := (Hby.out 0).2
      rw [hee] at hcy0 HCx5 he1 he2
      have HCy5 := Lib.hid hcy0
      clear hE5 hY5 hcy hcy0 hpre he0 hee HY HCx Hc4 HE4 HR4
      have hV := (PsV.one HI5.out).append (PsV.one HI5.out)
      have hP := ps_new hV 29 (by omega)
      have hEP : Ext w5 (w5.alloc (.cells #[.slice b m d, .slice b m d] 29)) := (Ext.refl w5).alloc _
      have hsum := sum_any _ _ _ _ _ hP (by simp [Hxl.out]; omega) (by omega) (HK.out.ext (HE5.out.trans hEP))
      have HS := Lib.hid hsum
      have HEP := Lib.hid hEP
      clear hV hP hEP hsum
      go_wp2_with fail
      refine HS.out.mono ?_
      rintro e w6 ⟨rfl, hE6⟩
      have HE56 := Lib.hid (HEP.out.trans hE6)
      have HI6 := Lib.hid (HI5.out.ext (HEP.out.trans hE6))
      clear hE6 HS HEP
      have hP := ps_new (PsV.one HI6.out) 29 (by omega)
      have hEP : Ext w6 (w6.alloc (.cells #[.slice b m d] 29)) := (Ext.refl w6).alloc _
      have hmac := mac_any _ _ _ _ _ _ _ _ _ (HI6.out.ext hEP) hP (by simp [Hxl.out]; omega) (by omega) (by omega) (HK.out.ext ((HE5.out.trans HE56.out).trans hEP))
      have HM := Lib.hid hmac
      have HEP := Lib.hid hEP
      clear hP hEP hmac
      go_wp2_with fail
      refine HM.out.mono ?_
      rintro e w7 ⟨rfl, hE7⟩
      have hE57 := HE56.out.trans (HEP.out.trans hE7)
      have HE7 := Lib.hid (HE5.out.trans hE57)
      have HCx := Lib.hid ((Ext.cell (p := ⟨gx, 0, none⟩) hE57 hlt5).trans HCx5.out)
      have HCy := Lib.hid ((Ext.cell (p := ⟨gy, oy, none⟩) hE57 hlt5y).trans HCy5.out)
      have hltx : gx < w7.heap.size := Nat.lt_of_lt_of_le hlt5 (Below.size hE57)
      have hlty : gy < w7.heap.size := Nat.lt_of_lt_of_le hlt5y (Below.size hE57)
      clear hE7 hE57 HM HEP HE56 HI6
      go_upto_region 12 with (fail)
      have HXw := Lib.hid (show ∀ x, Ext w7.drew x → Ext w7 x from fun x hx => Ext.trans (Ext.refl w7).drew hx)
      have HX0 := Lib.hid (show ∀ x, Ext w7.drew x → Ext w x from fun x hx => HE7.out.trans (Ext.trans (Ext.refl w7).drew hx))
      refine wp_region_lexA (by kernel_rfl) (by kernel_rfl) ?_
      refine lx_e (.slice b m d) [] (by kernel_rfl) rfl (by rfl) (fun w1 hw1 => ?_) ?_
      · simp only [pk, lexVals]
        go_simp
        exact ⟨Ext.refl _, rfl⟩
      refine lx_e (.string (strOf xs)) [(0, 53)] (by kernel_rfl) rfl (by rfl) (fun w1 hw1 => ?_) ?_
      · simp only [pk, nthSp, lexVals]
        exact lu_str rfl rfl (H.out.ext (HX0.out w1 hw1))
      refine lx_e (.string (strOf xs)) [] (by kernel_rfl) rfl (by rfl) (fun w1 hw1 => ?_) ?_
      · simp only [pk, lexVals]
        go_simp
        exact ⟨Ext.refl _, rfl⟩
      refine lx_e (.bool true) [(1, 54), (0, 55)] (by kernel_rfl) rfl (by rfl) (fun w1 hw1 => ?_) ?_
      · simp only [pk, nthSp, lexVals]
        go_simp
        exact ⟨Ext.refl _, rfl⟩
      refine lx_e (.bool true) [(0, 56)] (by kernel_rfl) rfl (by rfl) (fun w1 hw1 => ?_) ?_
      · simp only [pk, nthSp, lexVals]
        go_simp
        exact ⟨Ext.refl _, rfl⟩
      refine lx_ge (.slice (some ⟨gx, 0, none⟩) 64 64) [(0, 57)] 57 (by kernel_rfl) rfl (by kernel_rfl) (by rfl) (fun w1 => ?_) (fun w1 hw1 => ?_) ?_
      · simp only [pk, nthSp, lexVals]
        rfl
      · simp only [pk, nthSp, lexVals]
        go_simp
        exact ⟨Ext.refl _, rfl⟩
      refine lx_ge (.int .i64 64) [(0, 58), (1, 57)] 57 (by kernel_rfl) rfl (by kernel_rfl) (by rfl) (fun w1 => ?_) (fun w1 hw1 => ?_) ?_
      · simp only [pk, nthSp, lexVals]
        rfl
      · simp only [pk, nthSp, lexVals]
        go_simp
        exact ⟨Ext.refl _, rfl⟩
      refine lx_ge (.bool true) [(0, 59), (2, 57)] 57 (by kernel_rfl) rfl (by kernel_rfl) (by rfl) (fun w1 => ?_) (fun w1 hw1 => ?_) ?_
      · simp only [pk, nthSp, lexVals]
        rfl
      · simp only [pk, nthSp, lexVals]
        go_simp
        exact ⟨Ext.refl _, rfl⟩
      refine lx_e (.bool true) [(3, 57), (0, 60)] (by kernel_rfl) rfl (by rfl) (fun w1 hw1 => ?_) ?_
      · simp only [pk, nthSp, lexVals]
        go_simp
        exact ⟨Ext.refl _, rfl⟩
      refine lx_e (.bool true) [(0, 61)] (by kernel_rfl) rfl (by rfl) (fun w1 hw1 => ?_) ?_
      · simp only [pk, nthSp, lexVals]
        go_simp
        exact ⟨Ext.refl _, rfl⟩
      refine lx_ge (.slice (some ⟨gy, oy, none⟩) 40 40) [(0, 62)] 62 (by kernel_rfl) rfl (by kernel_rfl) (by rfl) (fun w1 => ?_) (fun w1 hw1 => ?_) ?_
      · simp only [pk, nthSp, lexVals]
        rfl
      · simp only [pk, nthSp, lexVals]
        go_simp
        exact ⟨Ext.refl _, rfl⟩
      refine lx_ge (.int .i64 40) [(0, 63), (1, 62)] 62 (by kernel_rfl) rfl (by kernel_rfl) (by rfl) (fun w1 => ?_) (fun w1 hw1 => ?_) ?_
      · simp only [pk, nthSp, lexVals]
        rfl
      · simp only [pk, nthSp, lexVals]
        go_simp
        exact ⟨Ext.refl _, rfl⟩
      refine lx_ge (.bool true) [(0, 64), (2, 62)] 62 (by kernel_rfl) rfl (by kernel_rfl) (by rfl) (fun w1 => ?_) (fun w1 hw1 => ?_) ?_
      · simp only [pk, nthSp, lexVals]
        rfl
      · simp only [pk, nthSp, lexVals]
        go_simp
        exact ⟨Ext.refl _, rfl⟩
      refine lx_e (.bool true) [(3, 62), (0, 65)] (by kernel_rfl) rfl (by rfl) (fun w1 hw1 => ?_) ?_
      · simp only [pk, nthSp, lexVals]
        go_simp
        exact ⟨Ext.refl _, rfl⟩
      refine lx_e (.bool true) [(0, 66)] (by kernel_rfl) rfl (by rfl) (fun w1 hw1 => ?_) ?_
      · simp only [pk, nthSp, lexVals]
        go_simp
        exact ⟨Ext.refl _, rfl⟩
      refine lx_ge (.slice (some ⟨gx, 0, none⟩) 64 64) [(0, 67)] 67 (by kernel_rfl) rfl (by kernel_rfl) (by rfl) (fun w1 => ?_) (fun w1 hw1 => ?_) ?_
      · simp only [pk, nthSp, lexVals]
        rfl
      · simp only [pk, nthSp, lexVals]
        go_simp
        exact ⟨Ext.refl _, rfl⟩
      refine lx_ge (.pointer (some ⟨gx, 0, none⟩)) [(0, 68), (1, 67)] 67 (by kernel_rfl) rfl (by kernel_rfl) (by rfl) (fun w1 => ?_) (fun w1 hw1 => ?_) ?_
      · simp only [pk, nthSp, lexVals]
        rfl
      · simp only [pk, nthSp, lexVals]
        go_simp
        exact ⟨Ext.refl _, rfl⟩
      refine lx_ge (.int .u8 ((e0 + 1) % 256)) [(0, 69), (2, 67)] 67 (by kernel_rfl) rfl (by kernel_rfl) (by rfl) (fun w1 => ?_) (fun w1 hw1 => ?_) ?_
      · simp only [pk, nthSp, lexVals]
        rfl
      · simp only [pk, nthSp, lexVals]
        have c1 := (Ext.cell (p := ⟨gx, 0, none⟩) (HXw.out w1 hw1) hltx).trans HCx.out
        clear hw1
        go_simp
        exact ⟨Ext.refl _, rfl⟩
      refine lx_ge (.slice (some ⟨gy, oy, none⟩) 40 40) [(3, 67)] 67 (by kernel_rfl) rfl (by kernel_rfl) (by rfl) (fun w1 => ?_) (fun w1 hw1 => ?_) ?_
      · simp only [pk, nthSp, lexVals]
        rfl
      · simp only [pk, nthSp, lexVals]
        go_simp
        exact ⟨Ext.refl _, rfl⟩
      refine lx_ge (.pointer (some ⟨gy, oy, none⟩)) [(0, 71), (4, 67)] 67 (by kernel_rfl) rfl (by kernel_rfl) (by rfl) (fun w1 => ?_) (fun w1 hw1 => ?_) ?_
      · simp only [pk, nthSp, lexVals]
        rfl
      · simp only [pk, nthSp, lexVals]
        go_simp
        exact ⟨Ext.refl _, rfl⟩
      refine lx_ge (.int .u8 e0) [(0, 72), (5, 67)] 67 (by kernel_rfl) rfl (by kernel_rfl) (by rfl) (fun w1 => ?_) (fun w1 hw1 => ?_) ?_
      · simp only [pk, nthSp, lexVals]
        rfl
      · simp only [pk, nthSp, lexVals]
        have c1 := (Ext.cell (p := ⟨gy, oy, none⟩) (HXw.out w1 hw1) hlty).trans HCy.out
        clear hw1
        go_simp
        exact ⟨Ext.refl _, rfl⟩
      refine lx_ge (.int .u8 ((e0 + 1) % 256)) [(0, 73), (6, 67)] 67 (by kernel_rfl) rfl (by kernel_rfl) (by rfl) (fun w1 => ?_) (fun w1 hw1 => ?_) ?_
      · simp only [pk, nthSp, lexVals]
        rfl
      · simp only [pk, nthSp, lexVals]
        go_simp
        exact ⟨Ext.refl _, rfl⟩
      refine lx_ge (.bool true) [(4, 70), (0, 74), (7, 67)] 67 (by kernel_rfl) rfl (by kernel_rfl) (by rfl) (fun w1 => ?_) (fun w1 hw1 => ?_) ?_
      · simp only [pk, nthSp, lexVals]
        rfl
      · simp only [pk, nthSp, lexVals]
        go_simp
        exact ⟨Ext.refl _, rfl⟩
      refine lx_e (.bool true) [(8, 67), (0, 75)] (by kernel_rfl) rfl (by rfl) (fun w1 hw1 => ?_) ?_
      · simp only [pk, nthSp, lexVals]
        go_simp
        exact ⟨Ext.refl _, rfl⟩
      refine lx_e (.bool true) [(0, 76)] (by kernel_rfl) rfl (by rfl) (fun w1 hw1 => ?_) ?_
      · simp only [pk, nthSp, lexVals]
        go_simp
        exact ⟨Ext.refl _, rfl⟩
      refine lx_stopA (by rfl) fun w8 hw8 => ?_
      have HE8 := Lib.hid (HX0.out w8 hw8)
      clear hw8
      simp only [rv, pf, lexVals]
      simp only [Act.put, List.setIfInBounds_toArray, List.set_cons_zero, List.set_cons_succ]
      go_wp2
      go_ret
      exact ⟨rfl, HE8.out⟩

end Go.Proofs.YtegajjpfcjfadaaDoor
