/-
  The walks of jalousielaw15.awake and ProofParses: they answer true. No conditions.
-/
import Derived.Test.YtdhbkjajhbfihaaPrBy
import Derived.Test.YtdhbkjajhbfihaaPrPar
import Derived.Test.YtdhbkjajhbfihaaPrRf
import Derived.Test.YtdhbkjajhbfihaaPrRb
namespace Go.Proofs.Ytdhbkjajhbfihaa
open Go.ChangeShapes Go.WideShapes Go.ChangeAt Go.RowKit

def prA : Pr := ⟨3, htN, htN, 1, 5, 3, none, 0, 0, []⟩
theorem prA_at (w : World) : PrAt w prA := ⟨by show (-9223372036854775808 : Int) ≤ 3 ∧ (3 : Int) ≤ _; omega, htN_at w, htN_at w, by show (-9223372036854775808 : Int) ≤ 1 ∧ (1 : Int) ≤ _; omega, by show (0 : Int) ≤ 5 ∧ (5 : Int) < _; omega, by show (0 : Int) ≤ 3 ∧ (3 : Int) < _; omega, TsAt.none_ w⟩
theorem prA_ok : prB prA = true := by decide +kernel
theorem prA_by : prL prA = [3, 1, 5, 3] := by decide +kernel
set_option maxRecDepth 100000 in
theorem build_prA (w : World) : (Instr.build 32 #[(0, .int .i64 3), (3, .int .i64 1), (4, .int .u64 5), (5, .int .u64 3)]).run Try.prog w = .ok (.agg (prV prA)) w := by kernel_rfl
theorem wp_build_prA {ops : Array Oper} {Q : Exit → Act → World → Prop} {rest : List Oper} {o : Oper} {a : Act} {w : World} (hw : Region.wanted o (yielded ops a.tmps) = true) (x0 x1 x2 x3 : Operand) (ho : o.op = .build 32 #[(0, x0), (3, x1), (4, x2), (5, x3)])
    (h0 : a.eval x0 = .int .i64 3) (h1 : a.eval x1 = .int .i64 1) (h2 : a.eval x2 = .int .u64 5) (h3 : a.eval x3 = .int .u64 3) (A : Array Value) (hA : prV prA = A)
    (h : wpList Try.prog ops Q rest (a.put o.dst (.agg A)) w) : wpList Try.prog ops Q (o :: rest) a w := by
  subst hA
  refine wpList_want hw fun K hK => ?_
  unfold Oper.wp execOp
  simp only [ho, List.map_toArray, List.map_cons, List.map_nil, h0, h1, h2, h3, Sem.run_bind, build_prA, Result.andThen_ok, Sem.run_pure]
  exact hK _ _ h
theorem str_prA : strOf [3, 1, 5, 3] = ⟨#[3, 1, 5, 3]⟩ := by decide +kernel

set_option maxHeartbeats 1000000 in
set_option maxRecDepth 100000 in
theorem awake15_any (w : World) : Calls Try.prog 5 #[] w fun e w' => e = .returned (.bool true) ∧ Ext w w' := by
  have hB := prBytes_any prA w (prA_at w)
  rw [prA_ok, if_pos rfl, if_pos rfl, prA_by] at hB
  have HB := Lib.hid hB
  obtain ⟨PV, hPV⟩ : ∃ PV, prV prA = PV := ⟨_, rfl⟩
  rw [hPV] at HB
  have HPV := Lib.hid hPV
  clear hB hPV
  go_enter Try.func5, Try.ntmps5
  go_wp2_with (refine wp_build_prA rfl _ _ _ _ rfl rfl rfl rfl rfl PV HPV.out ?_)
  refine HB.out.mono ?_
  rintro e w1 ⟨a, n, c, rfl, hbs, hE⟩
  have HE := Lib.hid hE
  have HBs := Lib.hid hbs
  clear hE hbs HB
  go_wp2_with (refine conv_strW rfl _ rfl a n c [3, 1, 5, 3] rfl HBs.out ?_; rw [str_prA])
  go_ret
  exact ⟨rfl, HE.out⟩

set_option maxHeartbeats 2000000 in
set_option maxRecDepth 50000 in
theorem lawPrPar_any (a : Option Addr) (n c : Nat) (b : List Int) (w : World) (h : BsAt w a n c b) :
    Calls Try.prog 4 #[.slice a n c] w fun e w' => e = .returned (.bool true) ∧ Ext w w' := by
  have hsm := h.small
  have hby := h.byte
  have H := Lib.hid h
  clear h
  by_cases hn : n ≤ 1200
  · have x1 : ¬ (1200 : Int) < (n : Int) := by omega
    go_enter Try.func4, Try.ntmps4
    go_wp2_with fail
    refine (awake15_any w).mono ?_
    rintro e w1 ⟨rfl, hE1⟩
    have HE1 := Lib.hid hE1
    have HPa := Lib.hid (prParse_any a n c b w1 (H.out.ext hE1))
    clear hE1
    go_wp2_with fail
    refine HPa.out.mono ?_
    rintro e w2 ⟨⟨p, rfl, hC, hZ⟩, hE2⟩
    have HE2 := Lib.hid (HE1.out.trans hE2)
    clear hE2 HPa
    have Hsz := Lib.hid (prV_size p)
    have Hall := Lib.hid (prV_one p)
    cases hD : prTk b with
    | false =>
      simp only [Bool.false_eq_true, if_false]
      have hp := hZ hD
      obtain ⟨CV, hCV⟩ : ∃ CV, prV p = CV := ⟨_, rfl⟩
      rw [hCV] at Hsz Hall ⊢
      have HCV := Lib.hid (show prV (prZ 0) = CV by rw [← hp]; exact hCV)
      clear hD hC hZ hCV hby hp
      have hz := zero_pr
      go_upto_region 4 with (refine wpList_store_row rfl 32 _ _ rfl w2.heap.size _ rfl rfl _ _ (heap_new w2 _ _ rfl) (by rw [Hsz.out]; kernel_rfl) (by rw [Hsz.out]; rfl) Hall.out ?_; rw [setRow_new w2 _ _ _ _ rfl])
      obtain ⟨w3, hw3⟩ : ∃ w3, w2.alloc (.cells CV 32) = w3 := ⟨_, rfl⟩
      have hE3 : Ext w2 w3 := by rw [← hw3]; exact (Ext.refl w2).alloc _
      obtain ⟨g, hg⟩ : ∃ g, w2.heap.size = g := ⟨_, rfl⟩
      have hB3 : w3.heap[g]? = some (.cells CV 32 (0, 0)) := by rw [← hw3]; exact heap_new w2 _ _ hg.symm
      refine wp_world (w' := w3) hw3 ?_
      rw [hg]
      have HE3 := Lib.hid (HE2.out.trans hE3)
      have HE23 := Lib.hid hE3
      have HB3 := Lib.hid hB3
      clear hw3 hE3 hg hB3 hz
      have c0 := pr_kind' (K := 0) (a := htN) (b := htN) (W := 0) (F := 0) (H := 0) (wa := none) (wn := 0) (wc := 0) (ws := []) (show w3.heap[g]? = some (.cells (prV (prZ 0)) 32 (0, 0)) by rw [HCV.out]; exact HB3.out)
      go_wp2
      go_ret
      exact ⟨rfl, HE3.out⟩
    | true =>
      obtain ⟨hAt, aa, ca, ab, cb, wa, wc, hp⟩ := hC hD
      have hbk : prL p = b := by rw [hp, prL_ad]; exact pr_back hby hD
      have hform : prB p = true := by
        rw [hp, prB_ad]
        unfold prTk at hD
        simp only [Bool.and_eq_true] at hD
        exact hD.2
      simp only [if_true]
      have HFo := Lib.hid (show ∀ w9, Ext w2 w9 → Calls Try.prog 8 #[.agg (prV p)] w9 fun e w' => e = .returned (.bool true) ∧ Ext w9 w' from fun w9 h9 => by
        have h1 := refPrFormed_any p w9 (hAt.ext h9)
        rw [hform] at h1
        exact h1)
      have HBy := Lib.hid (show ∀ w9, Ext w2 w9 → Calls Try.prog 10 #[.agg (prV p)] w9 fun e w' => ∃ v, e = .returned v ∧ (∃ q n c, v = .slice q n c ∧ BsAt w' q n c b) ∧ Ext w9 w' from fun w9 h9 => by
        have h1 := refPrBytes_any p w9 (hAt.ext h9) hform
        rw [hbk] at h1
        exact h1)
      obtain ⟨CV, hCV⟩ : ∃ CV, prV p = CV := ⟨_, rfl⟩
      rw [hCV] at Hsz Hall HFo HBy ⊢
      clear hAt hp hbk hform hD hC hZ hCV hby
      have hz := zero_pr
      go_upto_region 4 with (refine wpList_store_row rfl 32 _ _ rfl w2.heap.size _ rfl rfl _ _ (heap_new w2 _ _ rfl) (by rw [Hsz.out]; kernel_rfl) (by rw [Hsz.out]; rfl) Hall.out ?_; rw [setRow_new w2 _ _ _ _ rfl])
      obtain ⟨w3, hw3⟩ : ∃ w3, w2.alloc (.cells CV 32) = w3 := ⟨_, rfl⟩
      have hE3 : Ext w2 w3 := by rw [← hw3]; exact (Ext.refl w2).alloc _
      obtain ⟨g, hg⟩ : ∃ g, w2.heap.size = g := ⟨_, rfl⟩
      have hB3 : w3.heap[g]? = some (.cells CV 32 (0, 0)) := by rw [← hw3]; exact heap_new w2 _ _ hg.symm
      refine wp_world (w' := w3) hw3 ?_
      rw [hg]
      have HE3 := Lib.hid (HE2.out.trans hE3)
      have HE23 := Lib.hid hE3
      have HB3 := Lib.hid hB3
      clear hw3 hE3 hg hB3 hz
      have HX0 := Lib.hid (show ∀ x, Ext w3.drew x → Ext w3 x from fun x hx => Ext.trans (Ext.refl w3).drew hx)
      have HBy := Lib.hid (show ∀ w9, Ext w3 w9 → _ from fun w9 h9 => HBy.out w9 (HE23.out.trans h9))
      have HFo := Lib.hid (show ∀ w9, Ext w3 w9 → _ from fun w9 h9 => HFo.out w9 (HE23.out.trans h9))
      go_upto_region 6 with (fail)
      refine wp_region_lexA (by kernel_rfl) (by kernel_rfl) ?_
      refine lx_e (.agg CV) [] (by kernel_rfl) rfl (by rfl) (fun w1 hw1 => ?_) ?_
      · simp only [pk, lexVals]
        exact lu_row rfl rfl (hw1.keep HB3.out) Try.underlying32 rfl (by rw [Hsz.out]; kernel_rfl)
      refine lx_e (.bool true) [(0, 27)] (by kernel_rfl) rfl (by rfl) (fun w1 hw1 => ?_) ?_
      · simp only [pk, nthSp, lexVals]
        have HM := Lib.hid (HFo.out w1 (HX0.out w1 hw1))
        clear hw1
        go_simp
        refine HM.out.mono ?_
        rintro e w2 ⟨rfl, hE2⟩
        exact ⟨_, rfl, hE2, rfl⟩
      refine lx_e (.bool true) [(0, 28)] (by kernel_rfl) rfl (by rfl) (fun w1 hw1 => ?_) ?_
      · simp only [pk, nthSp, lexVals]
        go_simp
        exact ⟨Ext.refl _, rfl⟩
      refine lx_ge (.agg CV) [(0, 29)] 29 (by kernel_rfl) rfl (by kernel_rfl) (by rfl) (fun w1 => ?_) (fun w1 hw1 => ?_) ?_
      · simp only [pk, nthSp, lexVals]
        rfl
      · simp only [pk, nthSp, lexVals]
        exact lu_row rfl rfl (hw1.keep HB3.out) Try.underlying32 rfl (by rw [Hsz.out]; kernel_rfl)
      refine lx_ga (fun u w => ∃ q n c, u = .slice q n c ∧ BsAt w q n c b) [(0, 30), (1, 29)] 29 (by kernel_rfl) rfl (by kernel_rfl) (by rfl) (fun u w w' he ⟨q, n, c, h1, h2⟩ => ⟨q, n, c, h1, h2.ext he⟩) (fun w1 => ?_) (fun w1 hw1 => ?_) ?_
      · simp only [pk, nthSp, lexVals]
        rfl
      · simp only [pk, nthSp, lexVals]
        have HM := Lib.hid (HBy.out w1 (HX0.out w1 hw1))
        clear hw1
        go_simp
        refine HM.out.mono ?_
        rintro e w2 ⟨v2, rfl, hs, hE2⟩
        exact ⟨_, rfl, hE2, hs⟩
      refine lx_ge (.string (strOf b)) [(0, 31), (2, 29)] 29 (by kernel_rfl) rfl (by kernel_rfl) (by rfl) (fun w1 => ?_) (fun w1 hw1 => ?_) ?_
      · simp only [pk, nthSp, lexVals]
        rintro u31 ⟨q31, n31, c31, rfl, -⟩
        rfl
      · simp only [pk, nthSp, lexVals]
        rintro u31 ⟨q31, n31, c31, rfl, h31⟩
        exact lu_str rfl rfl h31
      refine lx_ge (.slice a n c) [(3, 29)] 29 (by kernel_rfl) rfl (by kernel_rfl) (by rfl) (fun w1 => ?_) (fun w1 hw1 => ?_) ?_
      · simp only [pk, nthSp, lexVals]
        rfl
      · simp only [pk, nthSp, lexVals]
        go_simp
        exact ⟨Ext.refl _, rfl⟩
      refine lx_ge (.string (strOf b)) [(0, 33), (4, 29)] 29 (by kernel_rfl) rfl (by kernel_rfl) (by rfl) (fun w1 => ?_) (fun w1 hw1 => ?_) ?_
      · simp only [pk, nthSp, lexVals]
        rfl
      · simp only [pk, nthSp, lexVals]
        exact lu_str rfl rfl (H.out.ext (HE3.out.trans (HX0.out w1 hw1)))
      refine lx_ge (.bool true) [(2, 32), (0, 34), (5, 29)] 29 (by kernel_rfl) rfl (by kernel_rfl) (by rfl) (fun w1 => ?_) (fun w1 hw1 => ?_) ?_
      · simp only [pk, nthSp, lexVals]
        rfl
      · simp only [pk, nthSp, lexVals]
        go_simp
        exact ⟨Ext.refl _, rfl⟩
      refine lx_e (.bool true) [(6, 29), (0, 35)] (by kernel_rfl) rfl (by rfl) (fun w1 hw1 => ?_) ?_
      · simp only [pk, nthSp, lexVals]
        go_simp
        exact ⟨Ext.refl _, rfl⟩
      refine lx_e (.bool true) [(0, 36)] (by kernel_rfl) rfl (by rfl) (fun w1 hw1 => ?_) ?_
      · simp only [pk, nthSp, lexVals]
        go_simp
        exact ⟨Ext.refl _, rfl⟩
      refine lx_stopA (by rfl) fun w5 hw5 => ?_
      have HE5 := Lib.hid (HE3.out.trans (HX0.out w5 hw5))
      clear hw5
      simp only [rv, pf, lexVals]
      rintro v1 ⟨q1, n1, c1, rfl, -⟩
      simp only [Act.put, List.setIfInBounds_toArray, List.set_cons_zero, List.set_cons_succ]
      go_wp2
      go_ret
      exact ⟨rfl, HE5.out⟩
  · have x1 : (1200 : Int) < (n : Int) := by omega
    clear hn
    go_enter Try.func4, Try.ntmps4
    go_wp2_with fail
    refine (awake15_any w).mono ?_
    rintro e w1 ⟨rfl, hE1⟩
    have HE1 := Lib.hid hE1
    clear hE1
    go_wp2_with fail
    refine (awake15_any w1).mono ?_
    rintro e w2 ⟨rfl, hE2⟩
    have HE2 := Lib.hid (HE1.out.trans hE2)
    clear hE2
    go_wp2
    go_ret
    exact ⟨rfl, HE2.out⟩

end Go.Proofs.Ytdhbkjajhbfihaa
