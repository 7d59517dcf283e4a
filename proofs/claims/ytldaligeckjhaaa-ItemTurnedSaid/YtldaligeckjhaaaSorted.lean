/-
  The walk of keys.Sorted. No conditions.
-/
import Derived.Test.YtldaligeckjhaaaToks
namespace Go.Proofs.Ytldaligeckjhaaa
open Go.ChangeShapes Go.WideShapes Go.ChangeAt Go.RowKit

set_option maxRecDepth 100000 in
theorem size_byte11 : ∀ w, (sizeOf 5).run Try.prog w = .ok 1 w := fun _ => by kernel_rfl

set_option maxHeartbeats 1000000 in
set_option maxRecDepth 100000 in
theorem sorted_any (a : Option Addr) (n c : Nat) (ts : List (Nat → Int)) (w : World) (h : TsAt w a n c ts) :
    Calls Try.prog 69 #[.slice a n c] w fun e w' => e = .returned (.bool (risesB ts)) ∧ Ext w w' := by
  have hlen := h.len
  have hsm := h.small
  have H := Lib.hid h
  have Hlen := Lib.hid hlen
  have Hst := Lib.hid (show ∀ k, k + 1 < n → _ from fun k hk => rises_step ts k (by omega))
  have Hen := Lib.hid (show ∀ k, n ≤ k + 1 → _ from fun k hk => rises_end ts k (by omega))
  have H0 := Lib.hid (show risesB (ts.drop 0) = risesB ts from rfl)
  obtain ⟨R, hR⟩ : ∃ R, risesB ts = R := ⟨_, rfl⟩
  rw [hR] at H0 ⊢
  clear h hlen hR
  go_enter Try.func69, Try.ntmps69
  go_wp2
  go_loopw [3] (fun i wr => ∃ m : Nat, m ≤ n ∧ i = .int .i64 ((m + 1 : Nat) : Int) ∧ risesB (ts.drop m) = R ∧ Ext w wr) (fun i _ => n + 1 - (intOf i).toNat)
  case atStart => exact ⟨0, Nat.zero_le _, rfl, H0.out, Ext.refl _⟩
  case round =>
    obtain ⟨m, hm, rfl, hr, hE⟩ := hrel
    have HE := Lib.hid hE
    clear hE
    by_cases hlt : m + 1 < n
    · obtain ⟨b, off, rfl, hc⟩ := H.out.at_ (by omega)
      obtain ⟨F, hF⟩ : ∃ F, (ts.getD m fun _ => 0) = F := ⟨_, rfl⟩
      obtain ⟨G, hG⟩ : ∃ G, (ts.getD (m + 1) fun _ => 0) = G := ⟨_, rfl⟩
      have HF := Lib.hid (hF ▸ H.out.tok m (by omega))
      have HG := Lib.hid (hG ▸ H.out.tok (m + 1) hlt)
      have hE1 : Ext w wr.drew := HE.out.drew
      have HC0 := Lib.hid (show ∀ j, j < 16 → wr.drew.cell? ⟨b, off + m * 16 + j, none⟩ = some (.int .u8 (F j)) from fun j hj => by
        have h1 := hc m (by omega) j hj
        rw [hF] at h1
        rw [Ext.cell hE1 (World.block_lt_of_cell? w _ h1)]
        exact h1)
      have HC1 := Lib.hid (show ∀ j, j < 16 → wr.drew.cell? ⟨b, off + (m + 1) * 16 + j, none⟩ = some (.int .u8 (G j)) from fun j hj => by
        have h1 := hc (m + 1) hlt j hj
        rw [hG] at h1
        rw [Ext.cell hE1 (World.block_lt_of_cell? w _ h1)]
        exact h1)
      have HX0 := Lib.hid (show ∀ x, Ext wr.drew x → Ext w x from fun x hx => hE1.trans hx)
      have hs := Hst.out m hlt
      rw [hF, hG, hr] at hs
      have Hs := Lib.hid hs
      have x1 : ((m + 1 : Nat) : Int) < (n : Int) := by omega
      have x3 : (m : Int) ≤ 140737488355328 := by omega
      clear hc hF hG hE1 hs hr
      go_upto_region 4 with (fail)
      refine wp_region_lexA (by kernel_rfl) (by kernel_rfl) ?_
      refine lx_e (.slice (some ⟨b, off, none⟩) n c) [] (by kernel_rfl) rfl (by rfl) (fun w1 hw1 => ?_) ?_
      · simp only [pk, lexVals]
        go_simp
        exact ⟨Ext.refl _, rfl⟩
      refine lx_e (.int .i64 ((m + 1 : Nat) : Int)) [] (by kernel_rfl) rfl (by rfl) (fun w1 hw1 => ?_) ?_
      · simp only [pk, lexVals]
        go_simp
        exact ⟨Ext.refl _, rfl⟩
      refine lx_e (.int .i64 (m : Int)) [(0, 11)] (by kernel_rfl) rfl (by rfl) (fun w1 hw1 => ?_) ?_
      · simp only [pk, nthSp, lexVals]
        go_simp
        exact ⟨Ext.refl _, val_int (by rw [IntKind.wrap_i64]; omega)⟩
      refine lx_e (.pointer (some ⟨b, off + m * 16, none⟩)) [(2, 10), (0, 12)] (by kernel_rfl) rfl (by rfl) (fun w1 hw1 => ?_) ?_
      · simp only [pk, nthSp, lexVals]
        exact lu_idx rfl rfl rfl (by omega)
      refine lx_e (.agg (rowArr 16 fun j => .int .u8 (F j))) [(0, 13)] (by kernel_rfl) rfl (by rfl) (fun w1 hw1 => ?_) ?_
      · simp only [pk, nthSp, lexVals]
        exact lu_tok rfl rfl (fun j hj => by rw [Ext.cell (hw1) (World.block_lt_of_cell? _ _ (HC0.out j hj))]; exact HC0.out j hj)
      refine lx_e (.slice (some ⟨b, off, none⟩) n c) [] (by kernel_rfl) rfl (by rfl) (fun w1 hw1 => ?_) ?_
      · simp only [pk, lexVals]
        go_simp
        exact ⟨Ext.refl _, rfl⟩
      refine lx_e (.int .i64 ((m + 1 : Nat) : Int)) [] (by kernel_rfl) rfl (by rfl) (fun w1 hw1 => ?_) ?_
      · simp only [pk, lexVals]
        go_simp
        exact ⟨Ext.refl _, rfl⟩
      refine lx_e (.pointer (some ⟨b, off + (m + 1) * 16, none⟩)) [(1, 15), (0, 16)] (by kernel_rfl) rfl (by rfl) (fun w1 hw1 => ?_) ?_
      · simp only [pk, nthSp, lexVals]
        exact lu_idx rfl rfl rfl (by omega)
      refine lx_e (.agg (rowArr 16 fun j => .int .u8 (G j))) [(0, 17)] (by kernel_rfl) rfl (by rfl) (fun w1 hw1 => ?_) ?_
      · simp only [pk, nthSp, lexVals]
        exact lu_tok rfl rfl (fun j hj => by rw [Ext.cell (hw1) (World.block_lt_of_cell? _ _ (HC1.out j hj))]; exact HC1.out j hj)
      refine lx_e (.int .i64 (cmpTok F G)) [(4, 14), (0, 18)] (by kernel_rfl) rfl (by rfl) (fun w1 hw1 => ?_) ?_
      · simp only [pk, nthSp, lexVals]
        have hm := compare_any F G HF.out HG.out w1
        have HM := Lib.hid hm
        clear hm hw1
        go_simp
        refine HM.out.mono ?_
        rintro e w2 ⟨rfl, hE2⟩
        exact ⟨_, rfl, hE2, rfl⟩
      refine lx_e (.bool (decide (0 ≤ cmpTok F G))) [(0, 19)] (by kernel_rfl) rfl (by rfl) (fun w1 hw1 => ?_) ?_
      · simp only [pk, nthSp, lexVals]
        go_simp
        exact ⟨Ext.refl _, rfl⟩
      refine lx_stopA (by rfl) fun w7 hw7 => ?_
      have HE7 := Lib.hid (HX0.out w7 hw7)
      clear hw7
      simp only [rv, pf, lexVals]
      simp only [Act.put, List.setIfInBounds_toArray, List.set_cons_zero, List.set_cons_succ]
      by_cases hcm : 0 ≤ cmpTok F G
      · have hR := Hs.out
        rw [if_pos hcm] at hR
        rw [show decide (0 ≤ cmpTok F G) = true from decide_eq_true hcm]
        go_wp2_with fail
        go_ret
        exact ⟨by rw [hR]; rfl, HE7.out⟩
      · have hR := Hs.out
        rw [if_neg hcm] at hR
        have HR := Lib.hid hR
        rw [show decide (0 ≤ cmpTok F G) = false from decide_eq_false hcm]
        clear hR
        go_wp2_with fail
        go_roundw
        case rel => exact ⟨m + 1, by omega, by go_num, HR.out.symm, HE7.out⟩
        case measure => simp [intOf]; omega
    · have x1 : ¬ ((m + 1 : Nat) : Int) < (n : Int) := by omega
      have hR := Hen.out m (by omega)
      rw [hr] at hR
      go_wp2_with fail
      go_ret
      exact ⟨rfl, HE.out⟩

end Go.Proofs.Ytldaligeckjhaaa
