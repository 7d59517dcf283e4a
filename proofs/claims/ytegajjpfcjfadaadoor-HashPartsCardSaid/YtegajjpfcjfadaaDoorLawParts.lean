/-
  The walk of jalousielaw01.HashParts: it answers true. Asked: the table lies as the text lays it.
-/
import Derived.Test.YtegajjpfcjfadaaDoorLawSums
import Derived.Test.YtegajjpfcjfadaaDoorLu
namespace Go.Proofs.YtegajjpfcjfadaaDoor
open Go.ChangeShapes Go.WideShapes Go.ChangeAt Go.RowKit

theorem bs_nil (w : World) : BsAt w none 0 0 [] := ⟨rfl, Nat.le_refl _, by omega, by omega, by simp, fun h => by omega, fun _ => rfl⟩

set_option maxHeartbeats 2000000 in
set_option maxRecDepth 100000 in
theorem lawParts_any (ka : Option Addr) (kn kc : Nat) (key : List Int) (a : Option Addr) (n c : Nat) (xs : List Int) (at_ : Int) (w : World) (hkey : BsAt w ka kn kc key) (h : BsAt w a n c xs) (hat : 0 ≤ at_ ∧ at_ ≤ 65535) (hk : KsAt 1 w) :
    Calls Tryd.prog 5 #[.slice ka kn kc, .slice a n c, .int .u16 at_] w fun e w' => e = .returned (.bool true) ∧ Ext w w' := by
  have hkc := hkey.cap
  have hkl := hkey.lim
  have hac := h.cap
  have hal := h.lim
  have Hxl := Lib.hid h.len
  have HKey := Lib.hid hkey
  have H := Lib.hid h
  have HK := Lib.hid hk
  clear h hk hkey
  have keq := eql_hash
  by_cases hc : n ≤ 2000 ∧ kn ≤ 200
  · obtain ⟨h1, h2⟩ := hc
    obtain ⟨ha0, ha1⟩ := hat
    have x1 : (n : Int) ≤ 2000 := by omega
    have x2 : (kn : Int) ≤ 200 := by omega
    go_enter Tryd.func5, Tryd.ntmps5
    go_wp2_with fail
    refine (awake_any w HK.out).mono ?_
    rintro e w1 ⟨rfl, hE1⟩
    have HE1 := Lib.hid hE1
    clear hE1
    go_upto_region 4 with (fail)
    obtain ⟨k, hkk⟩ : ∃ k : Nat, at_ % ((n : Int) + 1) = (k : Int) := ⟨(at_ % ((n : Int) + 1)).toNat, by have := Int.emod_nonneg at_ (show ((n : Int) + 1) ≠ 0 by omega); omega⟩
    have hkn : k ≤ n := by have := Int.emod_lt_of_pos at_ (show (0 : Int) < (n : Int) + 1 by omega); omega
    rw [hkk]
    clear hkk
    have x3 : (0 : Int) ≤ (k : Int) := by omega
    have x4 : (k : Int) ≤ (n : Int) := by omega
    have x5 : (k : Int) ≤ (c : Int) := by omega
    have HT := Lib.hid (H.out.cut (m := k) (c' := c) hkn (by omega) (Nat.le_refl _))
    have HD := Lib.hid (H.out.drop k hkn)
    have Hf2 := Lib.hid (show ([xs.take k] ++ [xs.drop k]).flatten = xs by simp)
    have Hf3 := Lib.hid (show (([xs.take k] ++ [[]]) ++ [xs.drop k]).flatten = xs by simp)
    obtain ⟨F, hF⟩ : ∃ F : Nat → Int, shaF xs = F := ⟨_, rfl⟩
    obtain ⟨G, hG⟩ : ∃ G : Nat → Int, macF key xs = G := ⟨_, rfl⟩
    have HF := Lib.hid hF
    have HG := Lib.hid hG
    have HX0 := Lib.hid (show ∀ x, Ext w1.drew x → Ext w x from fun x hx => HE1.out.trans (Ext.trans (Ext.refl w1).drew hx))
    clear hF hG
    refine wp_region_lexA (by kernel_rfl) (by kernel_rfl) ?_
    refine lx_e (.slice a n c) [] (by kernel_rfl) rfl (by rfl) (fun w1 hw1 => ?_) ?_
    · simp only [pk, lexVals]
      go_simp
      exact ⟨Ext.refl _, rfl⟩
    refine lx_e (.int .i64 (k : Int)) [] (by kernel_rfl) rfl (by rfl) (fun w1 hw1 => ?_) ?_
    · simp only [pk, lexVals]
      go_simp
      exact ⟨Ext.refl _, rfl⟩
    refine lx_e (.slice a k c) [(1, 27), (0, 28)] (by kernel_rfl) rfl (by rfl) (fun w1 hw1 => ?_) ?_
    · simp only [pk, nthSp, lexVals]
      go_simp
      exact ⟨Ext.refl _, rfl⟩
    refine lx_e (.slice a n c) [] (by kernel_rfl) rfl (by rfl) (fun w1 hw1 => ?_) ?_
    · simp only [pk, lexVals]
      go_simp
      exact ⟨Ext.refl _, rfl⟩
    refine lx_e (.int .i64 (k : Int)) [] (by kernel_rfl) rfl (by rfl) (fun w1 hw1 => ?_) ?_
    · simp only [pk, lexVals]
      go_simp
      exact ⟨Ext.refl _, rfl⟩
    refine lx_e (.slice (cutA a c k) (n - k) (c - k)) [(1, 30), (0, 31)] (by kernel_rfl) rfl (by rfl) (fun w1 hw1 => ?_) ?_
    · simp only [pk, nthSp, lexVals]
      exact lu_from (k := k) rfl rfl rfl hkn
    refine lx_a (fun u w => ∃ q c, u = .slice q 2 c ∧ PsAt w q 2 c ([xs.take k] ++ [xs.drop k])) [(3, 29), (0, 32)] (by kernel_rfl) rfl (by rfl) (fun u w w' he ⟨q, c, h1, h2⟩ => ⟨q, c, h1, h2.ext he⟩) (fun w1 hw1 => ?_) ?_
    · simp only [pk, nthSp, lexVals]
      have HV := Lib.hid ((PsV.one (HT.out.ext (HX0.out w1 hw1))).append (PsV.one (HD.out.ext (HX0.out w1 hw1))))
      clear hw1
      go_simp
      exact ⟨(Ext.refl w1).alloc _, _, _, rfl, ps_new HV.out 29 (by omega)⟩
    refine lx_e (.agg (rowArr 32 fun j => .int .u8 (F j))) [(0, 33)] (by kernel_rfl) rfl (by rfl) (fun w1 hw1 => ?_) ?_
    · simp only [pk, nthSp, lexVals]
      rintro u33 ⟨q33, c33, rfl, h33⟩
      have hm := sum_any _ _ _ _ w1 h33 (by rw [Hf2.out, Hxl.out]; omega) (by omega) (HK.out.ext (HX0.out w1 hw1))
      rw [Hf2.out, HF.out] at hm
      have HM := Lib.hid hm
      clear hm hw1 h33
      go_simp
      refine HM.out.mono ?_
      rintro e w2 ⟨rfl, hE2⟩
      exact ⟨_, rfl, hE2, rfl⟩
    refine lx_e (.slice a n c) [] (by kernel_rfl) rfl (by rfl) (fun w1 hw1 => ?_) ?_
    · simp only [pk, lexVals]
      go_simp
      exact ⟨Ext.refl _, rfl⟩
    refine lx_a (fun u w => ∃ q c, u = .slice q 1 c ∧ PsAt w q 1 c [xs]) [(0, 35)] (by kernel_rfl) rfl (by rfl) (fun u w w' he ⟨q, c, h1, h2⟩ => ⟨q, c, h1, h2.ext he⟩) (fun w1 hw1 => ?_) ?_
    · simp only [pk, nthSp, lexVals]
      have HV := Lib.hid (PsV.one (H.out.ext (HX0.out w1 hw1)))
      clear hw1
      go_simp
      exact ⟨(Ext.refl w1).alloc _, _, _, rfl, ps_new HV.out 29 (by omega)⟩
    refine lx_e (.agg (rowArr 32 fun j => .int .u8 (F j))) [(0, 36)] (by kernel_rfl) rfl (by rfl) (fun w1 hw1 => ?_) ?_
    · simp only [pk, nthSp, lexVals]
      rintro u36 ⟨q36, c36, rfl, h36⟩
      have hm := sum_any _ _ _ _ w1 h36 (by rw [flat_one, Hxl.out]; omega) (by omega) (HK.out.ext (HX0.out w1 hw1))
      rw [flat_one, HF.out] at hm
      have HM := Lib.hid hm
      clear hm hw1 h36
      go_simp
      refine HM.out.mono ?_
      rintro e w2 ⟨rfl, hE2⟩
      exact ⟨_, rfl, hE2, rfl⟩
    refine lx_e (.bool true) [(3, 34), (0, 37)] (by kernel_rfl) rfl (by rfl) (fun w1 hw1 => ?_) ?_
    · simp only [pk, nthSp, lexVals]
      go_simp
      exact ⟨Ext.refl _, rfl⟩
    refine lx_e (.bool true) [(0, 38)] (by kernel_rfl) rfl (by rfl) (fun w1 hw1 => ?_) ?_
    · simp only [pk, nthSp, lexVals]
      go_simp
      exact ⟨Ext.refl _, rfl⟩
    refine lx_ge (.slice ka kn kc) [(0, 39)] 39 (by kernel_rfl) rfl (by kernel_rfl) (by rfl) (fun w1 => ?_) (fun w1 hw1 => ?_) ?_
    · simp only [pk, nthSp, lexVals]
      rfl
    · simp only [pk, nthSp, lexVals]
      go_simp
      exact ⟨Ext.refl _, rfl⟩
    refine lx_ge (.slice a n c) [(1, 39)] 39 (by kernel_rfl) rfl (by kernel_rfl) (by rfl) (fun w1 => ?_) (fun w1 hw1 => ?_) ?_
    · simp only [pk, nthSp, lexVals]
      rfl
    · simp only [pk, nthSp, lexVals]
      go_simp
      exact ⟨Ext.refl _, rfl⟩
    refine lx_ge (.int .i64 (k : Int)) [(2, 39)] 39 (by kernel_rfl) rfl (by kernel_rfl) (by rfl) (fun w1 => ?_) (fun w1 hw1 => ?_) ?_
    · simp only [pk, nthSp, lexVals]
      rfl
    · simp only [pk, nthSp, lexVals]
      go_simp
      exact ⟨Ext.refl _, rfl⟩
    refine lx_ge (.slice a k c) [(1, 41), (0, 42), (3, 39)] 39 (by kernel_rfl) rfl (by kernel_rfl) (by rfl) (fun w1 => ?_) (fun w1 hw1 => ?_) ?_
    · simp only [pk, nthSp, lexVals]
      rfl
    · simp only [pk, nthSp, lexVals]
      go_simp
      exact ⟨Ext.refl _, rfl⟩
    refine lx_ge (.slice a n c) [(4, 39)] 39 (by kernel_rfl) rfl (by kernel_rfl) (by rfl) (fun w1 => ?_) (fun w1 hw1 => ?_) ?_
    · simp only [pk, nthSp, lexVals]
      rfl
    · simp only [pk, nthSp, lexVals]
      go_simp
      exact ⟨Ext.refl _, rfl⟩
    refine lx_ge (.int .i64 (k : Int)) [(5, 39)] 39 (by kernel_rfl) rfl (by kernel_rfl) (by rfl) (fun w1 => ?_) (fun w1 hw1 => ?_) ?_
    · simp only [pk, nthSp, lexVals]
      rfl
    · simp only [pk, nthSp, lexVals]
      go_simp
      exact ⟨Ext.refl _, rfl⟩
    refine lx_ge (.slice (cutA a c k) (n - k) (c - k)) [(1, 44), (0, 45), (6, 39)] 39 (by kernel_rfl) rfl (by kernel_rfl) (by rfl) (fun w1 => ?_) (fun w1 hw1 => ?_) ?_
    · simp only [pk, nthSp, lexVals]
      rfl
    · simp only [pk, nthSp, lexVals]
      exact lu_from (k := k) rfl rfl rfl hkn
    refine lx_ga (fun u w => ∃ q c, u = .slice q 3 c ∧ PsAt w q 3 c (([xs.take k] ++ [[]]) ++ [xs.drop k])) [(3, 43), (0, 46), (7, 39)] 39 (by kernel_rfl) rfl (by kernel_rfl) (by rfl) (fun u w w' he ⟨q, c, h1, h2⟩ => ⟨q, c, h1, h2.ext he⟩) (fun w1 => ?_) (fun w1 hw1 => ?_) ?_
    · simp only [pk, nthSp, lexVals]
      rfl
    · simp only [pk, nthSp, lexVals]
      have HV := Lib.hid (((PsV.one (HT.out.ext (HX0.out w1 hw1))).append (PsV.one (bs_nil w1))).append (PsV.one (HD.out.ext (HX0.out w1 hw1))))
      clear hw1
      go_simp
      exact ⟨(Ext.refl w1).alloc _, _, _, rfl, ps_new HV.out 29 (by omega)⟩
    refine lx_ge (.agg (rowArr 32 fun j => .int .u8 (G j))) [(7, 40), (0, 47), (8, 39)] 39 (by kernel_rfl) rfl (by kernel_rfl) (by rfl) (fun w1 => ?_) (fun w1 hw1 => ?_) ?_
    · simp only [pk, nthSp, lexVals]
      rintro u47 ⟨q47, c47, rfl, -⟩
      rfl
    · simp only [pk, nthSp, lexVals]
      rintro u47 ⟨q47, c47, rfl, h47⟩
      have hm := mac_any _ _ _ _ _ _ _ _ w1 (HKey.out.ext (HX0.out w1 hw1)) h47 (by rw [Hf3.out, Hxl.out]; omega) (by omega) (by omega) (HK.out.ext (HX0.out w1 hw1))
      rw [Hf3.out, HG.out] at hm
      have HM := Lib.hid hm
      clear hm hw1 h47
      go_simp
      refine HM.out.mono ?_
      rintro e w2 ⟨rfl, hE2⟩
      exact ⟨_, rfl, hE2, rfl⟩
    refine lx_ge (.slice ka kn kc) [(9, 39)] 39 (by kernel_rfl) rfl (by kernel_rfl) (by rfl) (fun w1 => ?_) (fun w1 hw1 => ?_) ?_
    · simp only [pk, nthSp, lexVals]
      rfl
    · simp only [pk, nthSp, lexVals]
      go_simp
      exact ⟨Ext.refl _, rfl⟩
    refine lx_ge (.slice a n c) [(10, 39)] 39 (by kernel_rfl) rfl (by kernel_rfl) (by rfl) (fun w1 => ?_) (fun w1 hw1 => ?_) ?_
    · simp only [pk, nthSp, lexVals]
      rfl
    · simp only [pk, nthSp, lexVals]
      go_simp
      exact ⟨Ext.refl _, rfl⟩
    refine lx_ga (fun u w => ∃ q c, u = .slice q 1 c ∧ PsAt w q 1 c [xs]) [(0, 50), (11, 39)] 39 (by kernel_rfl) rfl (by kernel_rfl) (by rfl) (fun u w w' he ⟨q, c, h1, h2⟩ => ⟨q, c, h1, h2.ext he⟩) (fun w1 => ?_) (fun w1 hw1 => ?_) ?_
    · simp only [pk, nthSp, lexVals]
      rfl
    · simp only [pk, nthSp, lexVals]
      have HV := Lib.hid (PsV.one (H.out.ext (HX0.out w1 hw1)))
      clear hw1
      go_simp
      exact ⟨(Ext.refl w1).alloc _, _, _, rfl, ps_new HV.out 29 (by omega)⟩
    refine lx_ge (.agg (rowArr 32 fun j => .int .u8 (G j))) [(2, 49), (0, 51), (12, 39)] 39 (by kernel_rfl) rfl (by kernel_rfl) (by rfl) (fun w1 => ?_) (fun w1 hw1 => ?_) ?_
    · simp only [pk, nthSp, lexVals]
      rintro u51 ⟨q51, c51, rfl, -⟩
      rfl
    · simp only [pk, nthSp, lexVals]
      rintro u51 ⟨q51, c51, rfl, h51⟩
      have hm := mac_any _ _ _ _ _ _ _ _ w1 (HKey.out.ext (HX0.out w1 hw1)) h51 (by rw [flat_one, Hxl.out]; omega) (by omega) (by omega) (HK.out.ext (HX0.out w1 hw1))
      rw [flat_one, HG.out] at hm
      have HM := Lib.hid hm
      clear hm hw1 h51
      go_simp
      refine HM.out.mono ?_
      rintro e w2 ⟨rfl, hE2⟩
      exact ⟨_, rfl, hE2, rfl⟩
    refine lx_ge (.bool true) [(4, 48), (0, 52), (13, 39)] 39 (by kernel_rfl) rfl (by kernel_rfl) (by rfl) (fun w1 => ?_) (fun w1 hw1 => ?_) ?_
    · simp only [pk, nthSp, lexVals]
      rfl
    · simp only [pk, nthSp, lexVals]
      go_simp
      exact ⟨Ext.refl _, rfl⟩
    refine lx_e (.bool true) [(14, 39), (0, 53)] (by kernel_rfl) rfl (by rfl) (fun w1 hw1 => ?_) ?_
    · simp only [pk, nthSp, lexVals]
      go_simp
      exact ⟨Ext.refl _, rfl⟩
    refine lx_e (.bool true) [(0, 54)] (by kernel_rfl) rfl (by rfl) (fun w1 hw1 => ?_) ?_
    · simp only [pk, nthSp, lexVals]
      go_simp
      exact ⟨Ext.refl _, rfl⟩
    refine lx_stopA (by rfl) fun w5 hw5 => ?_
    have HE5 := Lib.hid (HX0.out w5 hw5)
    clear hw5
    simp only [rv, pf, lexVals]
    rintro v1 ⟨q1, c1, rfl, -⟩ v2 ⟨q2, c2, rfl, -⟩ v3 ⟨q3, c3, rfl, -⟩ v4 ⟨q4, c4, rfl, -⟩
    simp only [Act.put, List.setIfInBounds_toArray, List.set_cons_zero, List.set_cons_succ]
    go_wp2
    go_ret
    exact ⟨rfl, HE5.out⟩
  · clear hat
    by_cases h1 : 2000 < n
    · have x1 : (2000 : Int) < (n : Int) := by omega
      clear hc
      go_enter Tryd.func5, Tryd.ntmps5
      go_wp2_with fail
      refine (awake_any w HK.out).mono ?_
      rintro e w1 ⟨rfl, hE1⟩
      have HE1 := Lib.hid hE1
      clear hE1
      go_wp2_with fail
      refine (awake_any w1 (HK.out.ext HE1.out)).mono ?_
      rintro e w2 ⟨rfl, hE2⟩
      have HE2 := Lib.hid (HE1.out.trans hE2)
      clear hE2
      go_wp2
      go_ret
      exact ⟨rfl, HE2.out⟩
    · have x1 : ¬ (2000 : Int) < (n : Int) := by omega
      have x2 : (200 : Int) < (kn : Int) := by omega
      clear hc
      go_enter Tryd.func5, Tryd.ntmps5
      go_wp2_with fail
      refine (awake_any w HK.out).mono ?_
      rintro e w1 ⟨rfl, hE1⟩
      have HE1 := Lib.hid hE1
      clear hE1
      go_wp2_with fail
      refine (awake_any w1 (HK.out.ext HE1.out)).mono ?_
      rintro e w2 ⟨rfl, hE2⟩
      have HE2 := Lib.hid (HE1.out.trans hE2)
      clear hE2
      go_wp2
      go_ret
      exact ⟨rfl, HE2.out⟩

end Go.Proofs.YtegajjpfcjfadaaDoor
