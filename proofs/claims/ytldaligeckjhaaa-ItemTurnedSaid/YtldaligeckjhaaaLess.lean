/-
  The order of tokens as the reference has it: the walks of jalousieref11.Less and Sorted. No conditions.
-/
import Derived.Test.YtldaligeckjhaaaSorted
namespace Go.Proofs.Ytldaligeckjhaaa
open Go.ChangeShapes Go.WideShapes Go.ChangeAt Go.RowKit

theorem cmp_step (F G : Nat → Int) (k : Nat) (hk : k < 16) : cmpI (((List.range 16).map F).drop k) (((List.range 16).map G).drop k) = if F k < G k then -1 else if G k < F k then 1 else cmpI (((List.range 16).map F).drop (k + 1)) (((List.range 16).map G).drop (k + 1)) := by
  rw [List.drop_eq_getElem_cons (l := (List.range 16).map F) (by simpa using hk), List.drop_eq_getElem_cons (l := (List.range 16).map G) (by simpa using hk)]
  simp only [cmpI, List.getElem_map, List.getElem_range]

/-- A byte's place in a token that lies in a block of its own. -/
theorem lu_at {w : World} {o : Oper} {ev : Operand → Value} {x y : Operand} {g k : Nat} (ho : o.op = .indexAddr 27 x y) (hx : ev x = .pointer (some ⟨g, 0, none⟩)) (hy : ev y = .int .i64 (k : Int)) (hk : k < 16) :
    lexUpon Try.prog w (.ex (.pointer (some ⟨g, k, none⟩))) ((execOp ev o).run Try.prog w) := by
  have hr : (Instr.indexAt 27 (.pointer (some ⟨g, 0, none⟩)) (.int .i64 (k : Int))).run Try.prog w = .ok (.pointer (some ⟨g, k, none⟩)) w := by
    have hb : (0 : Int) ≤ (k : Int) ∧ (k : Int) < ((16 : Nat) : Int) := by omega
    simp only [Instr.indexAt, asIntOf, Instr.sureAddr, Sem.run_bind, Sem.run_pure, Result.andThen_ok, run_underlying Try.underlying27, hb, and_self, if_true, size_byte11, Int.toNat_natCast, add_none, Nat.zero_add, Nat.mul_one]
  simp only [execOp, ho, hx, hy, Sem.run_bind, hr, Result.andThen_ok, Sem.run_pure]
  exact ⟨Ext.refl _, rfl⟩

theorem lu_u8 {w : World} {o : Oper} {ev : Operand → Value} {x : Operand} {ad : Addr} {v : Value} (ho : o.op = .load 5 x) (hx : ev x = .pointer (some ad)) (hc : w.cell? ad = some v) :
    lexUpon Try.prog w (.ex v) ((execOp ev o).run Try.prog w) := by
  have hagg : (isAgg 5).run Try.prog w = .ok false w := by
    unfold isAgg
    rw [Sem.run_bind, run_underlying Try.underlying5 w]
    rfl
  have hv : (loadVar 5 ad).run Try.prog w = .ok v w := by
    simp [loadVar, Sem.run_bind, hagg, hc]
  simp only [execOp, ho, hx, Instr.loadAt, Instr.sureAddr, Sem.run_bind, Sem.run_pure, Result.andThen_ok, hv]
  exact ⟨Ext.refl _, rfl⟩

set_option maxHeartbeats 1000000 in
set_option maxRecDepth 100000 in
theorem refLess_any (F G : Nat → Int) (w : World) :
    Calls Try.prog 49 #[.agg (rowArr 16 fun j => .int .u8 (F j)), .agg (rowArr 16 fun j => .int .u8 (G j))] w fun e w' => e = .returned (.bool (decide (cmpTok F G < 0))) ∧ Ext w w' := by
  obtain ⟨w2, hw2, hE2, hF2, hG2⟩ := tok_box w F G 27
  have Hw2 := Lib.hid hw2
  have HE2 := Lib.hid hE2
  have HF2 := Lib.hid hF2
  have HG2 := Lib.hid hG2
  have Hst := Lib.hid (cmp_step F G)
  have Hen := Lib.hid (show cmpI (((List.range 16).map F).drop 16) (((List.range 16).map G).drop 16) = 0 from rfl)
  have H0 := Lib.hid (show cmpI (((List.range 16).map F).drop 0) (((List.range 16).map G).drop 0) = cmpTok F G from rfl)
  obtain ⟨R, hR⟩ : ∃ R, cmpTok F G = R := ⟨_, rfl⟩
  rw [hR] at H0 ⊢
  clear hw2 hE2 hF2 hG2 hR
  go_enter Try.func49, Try.ntmps49
  go_upto_region 1 with (fail)
  refine wp_world (w' := w2) Hw2.out ?_
  obtain ⟨g, hg⟩ : ∃ g, w.heap.size = g := ⟨_, rfl⟩
  rw [hg] at HF2 HG2 ⊢
  clear hg Hw2
  obtain ⟨g1, hg1⟩ : ∃ g1, g + 1 = g1 := ⟨_, rfl⟩
  rw [hg1] at HG2 ⊢
  clear hg1
  go_wp2
  go_loopw [5] (fun i wr => ∃ k : Nat, k ≤ 16 ∧ i = .int .i64 (k : Int) ∧ cmpI (((List.range 16).map F).drop k) (((List.range 16).map G).drop k) = R ∧ Ext w2 wr) (fun i _ => 16 - (intOf i).toNat)
  case atStart => exact ⟨0, Nat.zero_le _, rfl, H0.out, Ext.refl _⟩
  case round =>
    obtain ⟨k, hm, rfl, hr, hE⟩ := hrel
    have HE := Lib.hid hE
    by_cases hlt : k < 16
    · have Hk := Lib.hid hlt
      have hs := Hst.out k hlt
      rw [hr] at hs
      have Hs := Lib.hid hs
      have HF0 := Lib.hid (show ∀ x, Ext wr.drew x → x.cell? ⟨g, k, none⟩ = some (.int .u8 (F k)) from fun x hx => (rowIs_of (hx.keep (show wr.drew.heap[g]? = _ from hE.keep HF2.out))).cell hlt)
      have HG0 := Lib.hid (show ∀ x, Ext wr.drew x → x.cell? ⟨g1, k, none⟩ = some (.int .u8 (G k)) from fun x hx => (rowIs_of (hx.keep (show wr.drew.heap[g1]? = _ from hE.keep HG2.out))).cell hlt)
      have HX0 := Lib.hid (show ∀ x, Ext wr.drew x → Ext w2 x from fun x hx => hE.drew.trans hx)
      have x1 : (k : Int) < 16 := by omega
      clear hs hr hE
      go_upto_region 4 with (fail)
      refine wp_region_lexA (by kernel_rfl) (by kernel_rfl) ?_
      refine lx_e (.int .i64 (k : Int)) [] (by kernel_rfl) rfl (by rfl) (fun w1 hw1 => ?_) ?_
      · simp only [pk, lexVals]
        go_simp
        exact ⟨Ext.refl _, rfl⟩
      refine lx_e (.pointer (some ⟨g, k, none⟩)) [(0, 10)] (by kernel_rfl) rfl (by rfl) (fun w1 hw1 => ?_) ?_
      · simp only [pk, nthSp, lexVals]
        exact lu_at rfl rfl rfl Hk.out
      refine lx_e (.int .u8 (F k)) [(0, 11)] (by kernel_rfl) rfl (by rfl) (fun w1 hw1 => ?_) ?_
      · simp only [pk, nthSp, lexVals]
        exact lu_u8 rfl rfl (HF0.out w1 hw1)
      refine lx_e (.int .i64 (k : Int)) [] (by kernel_rfl) rfl (by rfl) (fun w1 hw1 => ?_) ?_
      · simp only [pk, lexVals]
        go_simp
        exact ⟨Ext.refl _, rfl⟩
      refine lx_e (.pointer (some ⟨g1, k, none⟩)) [(0, 13)] (by kernel_rfl) rfl (by rfl) (fun w1 hw1 => ?_) ?_
      · simp only [pk, nthSp, lexVals]
        exact lu_at rfl rfl rfl Hk.out
      refine lx_e (.int .u8 (G k)) [(0, 14)] (by kernel_rfl) rfl (by rfl) (fun w1 hw1 => ?_) ?_
      · simp only [pk, nthSp, lexVals]
        exact lu_u8 rfl rfl (HG0.out w1 hw1)
      refine lx_e (.bool (decide (F k ≠ G k))) [(3, 12), (0, 15)] (by kernel_rfl) rfl (by rfl) (fun w1 hw1 => ?_) ?_
      · simp only [pk, nthSp, lexVals]
        go_simp
        exact ⟨Ext.refl _, by first | rfl | (show Value.bool _ = Value.bool _; congr 1; simp)⟩
      refine lx_stopA (by rfl) fun w7 hw7 => ?_
      have HE7 := Lib.hid (HX0.out w7 hw7)
      clear hw7
      simp only [rv, pf, lexVals]
      simp only [Act.put, List.setIfInBounds_toArray, List.set_cons_zero, List.set_cons_succ]
      by_cases hd : F k = G k
      · have hR : R = cmpI (((List.range 16).map F).drop (k + 1)) (((List.range 16).map G).drop (k + 1)) := by
          have h2 := Hs.out
          rw [if_neg (by omega), if_neg (by omega)] at h2
          exact h2
        have HR := Lib.hid hR
        rw [show decide (F k ≠ G k) = false from decide_eq_false (fun h => h hd)]
        clear hR hd
        go_wp2_with fail
        go_roundw
        case rel => exact ⟨k + 1, by omega, by go_num, HR.out.symm, HE7.out⟩
        case measure => simp [intOf]; omega
      · have hR : decide (F k < G k) = decide (R < 0) := by
          have h2 := Hs.out
          by_cases h3 : F k < G k
          · rw [if_pos h3] at h2
            rw [h2, decide_eq_true h3]
            rfl
          · rw [if_neg h3, if_pos (by omega)] at h2
            rw [h2, decide_eq_false h3]
            rfl
        have HR := Lib.hid hR
        rw [show decide (F k ≠ G k) = true from decide_eq_true hd]
        have HF1 := Lib.hid (show ∀ x, Ext w7.drew x → x.cell? ⟨g, k, none⟩ = some (.int .u8 (F k)) from fun x hx => (rowIs_of (hx.keep (show w7.drew.heap[g]? = _ from HE7.out.keep HF2.out))).cell Hk.out)
        have HG1 := Lib.hid (show ∀ x, Ext w7.drew x → x.cell? ⟨g1, k, none⟩ = some (.int .u8 (G k)) from fun x hx => (rowIs_of (hx.keep (show w7.drew.heap[g1]? = _ from HE7.out.keep HG2.out))).cell Hk.out)
        have HX1 := Lib.hid (show ∀ x, Ext w7.drew x → Ext w2 x from fun x hx => HE7.out.drew.trans hx)
        clear hR hd HF0 HG0 HX0
        have HF0 := HF1
        have HG0 := HG1
        have HX0 := HX1
        clear HF1 HG1 HX1 HE7
        go_upto_region 5 with (fail)
        refine wp_region_lexA (by kernel_rfl) (by kernel_rfl) ?_
        refine lx_e (.int .i64 (k : Int)) [] (by kernel_rfl) rfl (by rfl) (fun w1 hw1 => ?_) ?_
        · simp only [pk, lexVals]
          go_simp
          exact ⟨Ext.refl _, rfl⟩
        refine lx_e (.pointer (some ⟨g, k, none⟩)) [(0, 17)] (by kernel_rfl) rfl (by rfl) (fun w1 hw1 => ?_) ?_
        · simp only [pk, nthSp, lexVals]
          exact lu_at rfl rfl rfl Hk.out
        refine lx_e (.int .u8 (F k)) [(0, 18)] (by kernel_rfl) rfl (by rfl) (fun w1 hw1 => ?_) ?_
        · simp only [pk, nthSp, lexVals]
          exact lu_u8 rfl rfl (HF0.out w1 hw1)
        refine lx_e (.int .i64 (k : Int)) [] (by kernel_rfl) rfl (by rfl) (fun w1 hw1 => ?_) ?_
        · simp only [pk, lexVals]
          go_simp
          exact ⟨Ext.refl _, rfl⟩
        refine lx_e (.pointer (some ⟨g1, k, none⟩)) [(0, 20)] (by kernel_rfl) rfl (by rfl) (fun w1 hw1 => ?_) ?_
        · simp only [pk, nthSp, lexVals]
          exact lu_at rfl rfl rfl Hk.out
        refine lx_e (.int .u8 (G k)) [(0, 21)] (by kernel_rfl) rfl (by rfl) (fun w1 hw1 => ?_) ?_
        · simp only [pk, nthSp, lexVals]
          exact lu_u8 rfl rfl (HG0.out w1 hw1)
        refine lx_e (.bool (decide (F k < G k))) [(3, 19), (0, 22)] (by kernel_rfl) rfl (by rfl) (fun w1 hw1 => ?_) ?_
        · simp only [pk, nthSp, lexVals]
          go_simp
          exact ⟨Ext.refl _, rfl⟩
        refine lx_e (.bool (decide (F k < G k))) [(0, 23)] (by kernel_rfl) rfl (by rfl) (fun w1 hw1 => ?_) ?_
        · simp only [pk, nthSp, lexVals]
          go_simp
          exact ⟨Ext.refl _, rfl⟩
        refine lx_stopA (by rfl) fun w7 hw7 => ?_
        have HE7 := Lib.hid (HX0.out w7 hw7)
        clear hw7
        simp only [rv, pf, lexVals]
        simp only [Act.put, List.setIfInBounds_toArray, List.set_cons_zero, List.set_cons_succ]
        go_wp2_with fail
        go_ret
        exact ⟨by rw [← HR.out]; rfl, HE2.out.trans HE7.out⟩
    · obtain rfl : k = 16 := by omega
      have hR : R = 0 := by rw [← hr]; exact Hen.out
      go_wp2_with fail
      go_ret
      exact ⟨by first | rfl | (rw [hR]; rfl), HE2.out.trans HE.out⟩

set_option maxHeartbeats 1000000 in
set_option maxRecDepth 100000 in
theorem refSorted_any (a : Option Addr) (n c : Nat) (ts : List (Nat → Int)) (w : World) (h : TsAt w a n c ts) :
    Calls Try.prog 55 #[.slice a n c] w fun e w' => e = .returned (.bool (risesB ts)) ∧ Ext w w' := by
  have hlen := h.len
  have hsm := h.small
  have H := Lib.hid h
  have Hlen := Lib.hid hlen
  have Hst := Lib.hid (show ∀ k, k + 1 < n → _ from fun k hk => rises_step ts k (by omega))
  have Hen := Lib.hid (show ∀ k, n ≤ k + 1 → _ from fun k hk => rises_end ts k (by omega))
  have H0 := Lib.hid (show risesB (ts.drop 0) = risesB ts from rfl)
  obtain ⟨R, hR⟩ : ∃ R, risesB ts = R := ⟨_, rfl⟩
  rw [hR] at H0 ⊢
  clear h hlen hR
  go_enter Try.func55, Try.ntmps55
  go_wp2
  go_loopw [3] (fun i wr => ∃ m : Nat, m ≤ n ∧ i = .int .i64 (m : Int) ∧ risesB (ts.drop m) = R ∧ Ext w wr) (fun i _ => n + 1 - (intOf i).toNat)
  case atStart => exact ⟨0, Nat.zero_le _, rfl, H0.out, Ext.refl _⟩
  case round =>
    obtain ⟨m, hm, rfl, hr, hE⟩ := hrel
    have HE := Lib.hid hE
    clear hE
    have x4 : (m : Int) ≤ 140737488355328 := by omega
    have x5 : (0 : Int) ≤ (m : Int) := by omega
    by_cases hlt : m + 1 < n
    · obtain ⟨b, off, rfl, hc⟩ := H.out.at_ (by omega)
      obtain ⟨F, hF⟩ : ∃ F, (ts.getD m fun _ => 0) = F := ⟨_, rfl⟩
      obtain ⟨G, hG⟩ : ∃ G, (ts.getD (m + 1) fun _ => 0) = G := ⟨_, rfl⟩
      have hE1 : Ext w wr.drew := HE.out.drew
      have HC0 := Lib.hid (show ∀ j, j < 16 → wr.drew.cell? ⟨b, off + m * 16 + j, none⟩ = some (.int .u8 (F j)) from fun j hj => by
        have h1 := hc m (by omega) j hj
        rw [hF] at h1
        rw [Ext.cell hE1 (World.block_lt_of_cell? w _ h1)]
        exact h1)
      have HC1 := Lib.hid (show ∀ j, j < 16 → wr.drew.cell? ⟨b, off + (m + 1) * 16 + j, none⟩ = some (.int .u8 (G j)) from fun j hj => by
        have h1 := hc (m + 1) hlt j hj
        rw [hG] at h1
        rw [Ext.cell hE1 (World.block_lt_of_cell? w _ h1)]
        exact h1)
      have HX0 := Lib.hid (show ∀ x, Ext wr.drew x → Ext w x from fun x hx => hE1.trans hx)
      have hs := Hst.out m hlt
      rw [hF, hG, hr] at hs
      have Hs := Lib.hid hs
      have x1 : (m : Int) + 1 < (n : Int) := by omega
      clear hc hF hG hE1 hs hr
      go_upto_region 4 with (fail)
      refine wp_region_lexA (by kernel_rfl) (by kernel_rfl) ?_
      refine lx_e (.slice (some ⟨b, off, none⟩) n c) [] (by kernel_rfl) rfl (by rfl) (fun w1 hw1 => ?_) ?_
      · simp only [pk, lexVals]
        go_simp
        exact ⟨Ext.refl _, rfl⟩
      refine lx_e (.int .i64 (m : Int)) [] (by kernel_rfl) rfl (by rfl) (fun w1 hw1 => ?_) ?_
      · simp only [pk, lexVals]
        go_simp
        exact ⟨Ext.refl _, rfl⟩
      refine lx_e (.pointer (some ⟨b, off + m * 16, none⟩)) [(1, 11), (0, 12)] (by kernel_rfl) rfl (by rfl) (fun w1 hw1 => ?_) ?_
      · simp only [pk, nthSp, lexVals]
        exact lu_idx rfl rfl rfl (by omega)
      refine lx_e (.agg (rowArr 16 fun j => .int .u8 (F j))) [(0, 13)] (by kernel_rfl) rfl (by rfl) (fun w1 hw1 => ?_) ?_
      · simp only [pk, nthSp, lexVals]
        exact lu_tok rfl rfl (fun j hj => by rw [Ext.cell (hw1) (World.block_lt_of_cell? _ _ (HC0.out j hj))]; exact HC0.out j hj)
      refine lx_e (.slice (some ⟨b, off, none⟩) n c) [] (by kernel_rfl) rfl (by rfl) (fun w1 hw1 => ?_) ?_
      · simp only [pk, lexVals]
        go_simp
        exact ⟨Ext.refl _, rfl⟩
      refine lx_e (.int .i64 (m : Int)) [] (by kernel_rfl) rfl (by rfl) (fun w1 hw1 => ?_) ?_
      · simp only [pk, lexVals]
        go_simp
        exact ⟨Ext.refl _, rfl⟩
      refine lx_e (.int .i64 ((m + 1 : Nat) : Int)) [(0, 16)] (by kernel_rfl) rfl (by rfl) (fun w1 hw1 => ?_) ?_
      · simp only [pk, nthSp, lexVals]
        go_simp
        exact ⟨Ext.refl _, val_int (by rw [IntKind.wrap_i64]; omega)⟩
      refine lx_e (.pointer (some ⟨b, off + (m + 1) * 16, none⟩)) [(2, 15), (0, 17)] (by kernel_rfl) rfl (by rfl) (fun w1 hw1 => ?_) ?_
      · simp only [pk, nthSp, lexVals]
        exact lu_idx rfl rfl rfl (by omega)
      refine lx_e (.agg (rowArr 16 fun j => .int .u8 (G j))) [(0, 18)] (by kernel_rfl) rfl (by rfl) (fun w1 hw1 => ?_) ?_
      · simp only [pk, nthSp, lexVals]
        exact lu_tok rfl rfl (fun j hj => by rw [Ext.cell (hw1) (World.block_lt_of_cell? _ _ (HC1.out j hj))]; exact HC1.out j hj)
      refine lx_e (.bool (decide (cmpTok F G < 0))) [(5, 14), (0, 19)] (by kernel_rfl) rfl (by rfl) (fun w1 hw1 => ?_) ?_
      · simp only [pk, nthSp, lexVals]
        have hm := refLess_any F G w1
        have HM := Lib.hid hm
        clear hm hw1
        go_simp
        refine HM.out.mono ?_
        rintro e w2 ⟨rfl, hE2⟩
        exact ⟨_, rfl, hE2, rfl⟩
      refine lx_e (.bool (!decide (cmpTok F G < 0))) [(0, 20)] (by kernel_rfl) rfl (by rfl) (fun w1 hw1 => ?_) ?_
      · simp only [pk, nthSp, lexVals]
        go_simp
        exact ⟨Ext.refl _, rfl⟩
      refine lx_stopA (by rfl) fun w7 hw7 => ?_
      have HE7 := Lib.hid (HX0.out w7 hw7)
      clear hw7
      simp only [rv, pf, lexVals]
      simp only [Act.put, List.setIfInBounds_toArray, List.set_cons_zero, List.set_cons_succ]
      by_cases hcm : cmpTok F G < 0
      · have hR := Hs.out
        rw [if_neg (by omega)] at hR
        have HR := Lib.hid hR
        rw [show (!decide (cmpTok F G < 0)) = false by rw [decide_eq_true hcm]; rfl]
        clear hR
        go_wp2_with fail
        go_roundw
        case rel => exact ⟨m + 1, by omega, by go_num, HR.out.symm, HE7.out⟩
        case measure => simp [intOf]; omega
      · have hR := Hs.out
        rw [if_pos (by omega)] at hR
        rw [show (!decide (cmpTok F G < 0)) = true by rw [decide_eq_false hcm]; rfl]
        go_wp2_with fail
        go_ret
        exact ⟨by first | rfl | (rw [hR]; rfl), HE7.out⟩
    · have x1 : ¬ (m : Int) + 1 < (n : Int) := by omega
      have hR := Hen.out m (by omega)
      rw [hr] at hR
      go_wp2_with fail
      go_ret
      exact ⟨by first | rfl | (rw [hR]; rfl), HE.out⟩

end Go.Proofs.Ytldaligeckjhaaa
