/-
  The walk of jalousielaw01.HashKeys: it answers true. Asked: the two tables lie as the text lays them.
-/
import Derived.Test.YtegajjpfcjfadaaDoorLawSums
import Derived.Test.YtegajjpfcjfadaaDoorMac
import Derived.Test.YtegajjpfcjfadaaDoorLx
namespace Go.Proofs.YtegajjpfcjfadaaDoor
open Go.ChangeShapes Go.WideShapes Go.ChangeAt Go.RowKit

theorem macF_key (key xs : List Int) (h : 64 < key.length) : macF (shaL key) xs = macF key xs := by
  funext j
  unfold macF
  rw [macKey_short (by rw [shaL_length]; omega), macKey_long h]

set_option maxHeartbeats 1000000 in
set_option maxRecDepth 100000 in
theorem lawKeys_any (a : Option Addr) (n c : Nat) (key : List Int) (b : Option Addr) (m d : Nat) (xs : List Int) (w : World) (hkey : BsAt w a n c key) (h : BsAt w b m d xs) (hk : KsAt 1 w) (hk2 : KsAt 0 w) :
    Calls Tryd.prog 4 #[.slice a n c, .slice b m d] w fun e w' => e = .returned (.bool true) ∧ Ext w w' := by
  have hkc := hkey.cap
  have hkl := hkey.lim
  have hbc := h.cap
  have hbl := h.lim
  have Hkl := Lib.hid hkey.len
  have Hxl := Lib.hid h.len
  have HKey := Lib.hid hkey
  have H := Lib.hid h
  have HK := Lib.hid hk
  have HK2 := Lib.hid hk2
  clear h hk hk2 hkey
  have keq := eql_hash
  by_cases hc : 64 < n ∧ n ≤ 500 ∧ m ≤ 500
  · obtain ⟨h1, h2, h3⟩ := hc
    have x1 : (64 : Int) < (n : Int) := by omega
    have x2 : (n : Int) ≤ 500 := by omega
    have x3 : (m : Int) ≤ 500 := by omega
    go_enter Tryd.func4, Tryd.ntmps4
    go_wp2_with fail
    refine (awake_any w HK.out).mono ?_
    rintro e w1 ⟨rfl, hE1⟩
    have HE1 := Lib.hid hE1
    have hsum := refSum_any a n c key w1 (HKey.out.ext hE1) (by omega) (HK2.out.ext hE1)
    have HS := Lib.hid hsum
    clear hE1 hsum
    go_wp2_with fail
    refine HS.out.mono ?_
    rintro e w2 ⟨rfl, hE2⟩
    have HE2 := Lib.hid (HE1.out.trans hE2)
    clear hE2 HS HE1
    go_upto_region 4 with (refine wpList_store_row rfl 25 _ _ rfl w2.heap.size _ rfl rfl _ _ (heap_new w2 _ _ rfl) (by kernel_rfl) (by rw [rowArr_size]; rfl) (rowArr_one fun _ _ => rfl) ?_; rw [setRow_new w2 _ _ _ _ rfl])
    obtain ⟨w3, hw3⟩ : ∃ w3, w2.alloc (.cells (rowArr 32 fun j => .int .u8 (shaF key j)) 25) = w3 := ⟨_, rfl⟩
    have hE3 : Ext w w3 := by rw [← hw3]; exact HE2.out.alloc _
    have hR3 : w3.rowIs w2.heap.size 25 32 (fun j => .int .u8 (shaF key j)) := by rw [← hw3]; exact rowIs_of (heap_new w2 _ _ rfl)
    refine wp_world (w' := w3) hw3 ?_
    obtain ⟨g, hg⟩ : ∃ g, w2.heap.size = g := ⟨_, rfl⟩
    rw [hg] at hR3 ⊢
    obtain ⟨F, hF⟩ : ∃ F : Nat → Int, macF key xs = F := ⟨_, rfl⟩
    have hF2 : macF (shaL key) xs = F := by rw [macF_key key xs (by rw [Hkl.out]; omega)]; exact hF
    have hX : ∀ x, Ext w3.drew x → Ext w3 x := fun x hx => Ext.trans (Ext.refl w3).drew hx
    have hb3 := bs_sha hR3
    have HX := Lib.hid hX
    have HX0 := Lib.hid (show ∀ x, Ext w3.drew x → Ext w x from fun x hx => hE3.trans (hX x hx))
    have HB3 := Lib.hid hb3
    have HF := Lib.hid hF
    have HF2 := Lib.hid hF2
    have HE3 := Lib.hid hE3
    clear hw3 hE3 hR3 hF hF2 hX hb3 hg HE2
    refine wp_region_lexA (by kernel_rfl) (by kernel_rfl) ?_
    refine lx_e (.slice a n c) [] (by kernel_rfl) rfl (by rfl) (fun w1 hw1 => ?_) ?_
    · simp only [pk, lexVals]
      go_simp
      exact ⟨Ext.refl _, rfl⟩
    refine lx_e (.slice b m d) [] (by kernel_rfl) rfl (by rfl) (fun w1 hw1 => ?_) ?_
    · simp only [pk, lexVals]
      go_simp
      exact ⟨Ext.refl _, rfl⟩
    refine lx_a (fun u w => ∃ q c, u = .slice q 1 c ∧ PsAt w q 1 c [xs]) [(0, 27)] (by kernel_rfl) rfl (by rfl) (fun u w w' he ⟨q, c, h1, h2⟩ => ⟨q, c, h1, h2.ext he⟩) (fun w1 hw1 => ?_) ?_
    · simp only [pk, nthSp, lexVals]
      have HV := Lib.hid (PsV.one (H.out.ext (HX0.out w1 hw1)))
      clear hw1
      go_simp
      exact ⟨(Ext.refl w1).alloc _, _, _, rfl, ps_new HV.out 29 (by omega)⟩
    refine lx_e (.agg (rowArr 32 fun j => .int .u8 (F j))) [(2, 26), (0, 28)] (by kernel_rfl) rfl (by rfl) (fun w1 hw1 => ?_) ?_
    · simp only [pk, nthSp, lexVals]
      rintro u ⟨q, c', rfl, hq⟩
      have hm := mac_any _ _ _ _ _ _ _ _ w1 (HKey.out.ext (HX0.out w1 hw1)) hq (by rw [flat_one, Hxl.out]; omega) (by omega) (by omega) (HK.out.ext (HX0.out w1 hw1))
      rw [flat_one, HF.out] at hm
      have HM := Lib.hid hm
      clear hq hm hw1
      go_simp
      refine HM.out.mono ?_
      rintro e w2 ⟨rfl, hE2⟩
      exact ⟨_, rfl, hE2, rfl⟩
    refine lx_e (.slice (some ⟨g, 0, none⟩) 32 32) [] (by kernel_rfl) rfl (by rfl) (fun w1 hw1 => ?_) ?_
    · simp only [pk, lexVals]
      go_simp
      exact ⟨Ext.refl _, rfl⟩
    refine lx_e (.slice b m d) [] (by kernel_rfl) rfl (by rfl) (fun w1 hw1 => ?_) ?_
    · simp only [pk, lexVals]
      go_simp
      exact ⟨Ext.refl _, rfl⟩
    refine lx_a (fun u w => ∃ q c, u = .slice q 1 c ∧ PsAt w q 1 c [xs]) [(0, 31)] (by kernel_rfl) rfl (by rfl) (fun u w w' he ⟨q, c, h1, h2⟩ => ⟨q, c, h1, h2.ext he⟩) (fun w1 hw1 => ?_) ?_
    · simp only [pk, nthSp, lexVals]
      have HV := Lib.hid (PsV.one (H.out.ext (HX0.out w1 hw1)))
      clear hw1
      go_simp
      exact ⟨(Ext.refl w1).alloc _, _, _, rfl, ps_new HV.out 29 (by omega)⟩
    refine lx_e (.agg (rowArr 32 fun j => .int .u8 (F j))) [(2, 30), (0, 32)] (by kernel_rfl) rfl (by rfl) (fun w1 hw1 => ?_) ?_
    · simp only [pk, nthSp, lexVals]
      rintro u ⟨q, c', rfl, hq⟩
      have hm := mac_any _ _ _ _ _ _ _ _ w1 (HB3.out.ext (HX.out w1 hw1)) hq (by rw [flat_one, Hxl.out]; omega) (by omega) (by omega) (HK.out.ext (HX0.out w1 hw1))
      rw [flat_one, HF2.out] at hm
      have HM := Lib.hid hm
      clear hq hm hw1
      go_simp
      refine HM.out.mono ?_
      rintro e w2 ⟨rfl, hE2⟩
      exact ⟨_, rfl, hE2, rfl⟩
    refine lx_e (.bool true) [(4, 29), (0, 33)] (by kernel_rfl) rfl (by rfl) (fun w1 hw1 => ?_) ?_
    · simp only [pk, nthSp, lexVals]
      go_simp
      exact ⟨Ext.refl _, rfl⟩
    refine lx_e (.bool true) [(0, 34)] (by kernel_rfl) rfl (by rfl) (fun w1 hw1 => ?_) ?_
    · simp only [pk, nthSp, lexVals]
      go_simp
      exact ⟨Ext.refl _, rfl⟩
    refine lx_stopA (by rfl) fun w5 hw5 => ?_
    have HE5 := Lib.hid (HX0.out w5 hw5)
    clear hw5
    simp only [rv, pf, lexVals]
    rintro v1 ⟨q1, c1, rfl, -⟩ v2 ⟨q2, c2, rfl, -⟩
    simp only [Act.put, List.setIfInBounds_toArray, List.set_cons_zero, List.set_cons_succ]
    go_wp2
    go_ret
    exact ⟨rfl, HE5.out⟩
  · by_cases h1 : n ≤ 64
    · have x1 : (n : Int) ≤ 64 := by omega
      clear hc
      go_enter Tryd.func4, Tryd.ntmps4
      go_wp2_with fail
      refine (awake_any w HK.out).mono ?_
      rintro e w1 ⟨rfl, hE1⟩
      have HE1 := Lib.hid hE1
      clear hE1
      go_wp2_with fail
      refine (awake_any w1 (HK.out.ext HE1.out)).mono ?_
      rintro e w2 ⟨rfl, hE2⟩
      have HE2 := Lib.hid (HE1.out.trans hE2)
      clear hE2
      go_wp2
      go_ret
      exact ⟨rfl, HE2.out⟩
    · have x1 : ¬ (n : Int) ≤ 64 := by omega
      by_cases h2 : 500 < n
      · have x2 : (500 : Int) < (n : Int) := by omega
        clear hc
        go_enter Tryd.func4, Tryd.ntmps4
        go_wp2_with fail
        refine (awake_any w HK.out).mono ?_
        rintro e w1 ⟨rfl, hE1⟩
        have HE1 := Lib.hid hE1
        clear hE1
        go_wp2_with fail
        refine (awake_any w1 (HK.out.ext HE1.out)).mono ?_
        rintro e w2 ⟨rfl, hE2⟩
        have HE2 := Lib.hid (HE1.out.trans hE2)
        clear hE2
        go_wp2
        go_ret
        exact ⟨rfl, HE2.out⟩
      · have x2 : ¬ (500 : Int) < (n : Int) := by omega
        have x3 : (500 : Int) < (m : Int) := by omega
        clear hc
        go_enter Tryd.func4, Tryd.ntmps4
        go_wp2_with fail
        refine (awake_any w HK.out).mono ?_
        rintro e w1 ⟨rfl, hE1⟩
        have HE1 := Lib.hid hE1
        clear hE1
        go_wp2_with fail
        refine (awake_any w1 (HK.out.ext HE1.out)).mono ?_
        rintro e w2 ⟨rfl, hE2⟩
        have HE2 := Lib.hid (HE1.out.trans hE2)
        clear hE2
        go_wp2
        go_ret
        exact ⟨rfl, HE2.out⟩

end Go.Proofs.YtegajjpfcjfadaaDoor
