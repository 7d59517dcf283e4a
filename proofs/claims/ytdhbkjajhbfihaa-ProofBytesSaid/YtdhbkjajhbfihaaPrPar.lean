/-
  The walk of proof.Parse. No conditions.
-/
import Derived.Test.YtdhbkjajhbfihaaPrPs
import Derived.Test.YtdhbkjajhbfihaaPrF
import Derived.Test.YtdhbkjajhbfihaaLexP
import Derived.Deep.DeepCutAuto
namespace Go.Proofs.Ytdhbkjajhbfihaa
open Go.ChangeShapes Go.WideShapes Go.ChangeAt Go.RowKit

/-- A proof, its tokens lying elsewhere. -/
def prAd (p : Pr) (aa : Option Addr) (ca : Nat) (ab : Option Addr) (cb : Nat) (wa : Option Addr) (wc : Nat) : Pr := ⟨p.kind, reT p.a aa ca, reT p.b ab cb, p.writer, p.floor, p.head, wa, p.wn, wc, p.ws⟩
theorem prB_ad (p : Pr) (aa : Option Addr) (ca : Nat) (ab : Option Addr) (cb : Nat) (wa : Option Addr) (wc : Nat) : prB (prAd p aa ca ab cb wa wc) = prB p := rfl
theorem prL_ad (p : Pr) (aa : Option Addr) (ca : Nat) (ab : Option Addr) (cb : Nat) (wa : Option Addr) (wc : Nat) : prL (prAd p aa ca ab cb wa wc) = prL p := rfl
/-- What proof.Parse hands back. -/
def PrSays (b : List Int) (e : Ending) (w : World) : Prop :=
  ∃ p, e = .returned (.tuple #[.agg (prV p), .int .i64 (if prTk b = true then 0 else 2)]) ∧ (prTk b = true → PrAt w p ∧ ∃ aa ca ab cb wa wc, p = prAd (prOf b) aa ca ab cb wa wc) ∧ (prTk b = false → p = prZ 0)
set_option maxRecDepth 100000 in
theorem zero_pr (w : World) : (zeroValue 32).run Try.prog w = .ok (.agg (prV (prZ 0))) w := by kernel_rfl
set_option maxRecDepth 100000 in
theorem build_pr (w : World) (K : Int) : (Instr.build 32 #[(0, .int .i64 K)]).run Try.prog w = .ok (.agg (prV (prZ K))) w := by kernel_rfl
theorem wp_build_pr {ops : Array Oper} {Q : Exit → Act → World → Prop} {rest : List Oper} {o : Oper} {a : Act} {w : World} (hw : Region.wanted o (yielded ops a.tmps) = true) (x : Operand) (ho : o.op = .build 32 #[(0, x)])
    (K : Int) (hx : a.eval x = .int .i64 K) (A : Array Value) (hA : prV (prZ K) = A)
    (h : wpList Try.prog ops Q rest (a.put o.dst (.agg A)) w) : wpList Try.prog ops Q (o :: rest) a w := by
  subst hA
  refine wpList_want hw fun K hK => ?_
  unfold Oper.wp execOp
  simp only [ho, List.map_toArray, List.map_cons, List.map_nil, hx, Sem.run_bind, build_pr, Result.andThen_ok, Sem.run_pure]
  exact hK _ _ h
theorem reT_self (x : HT) : reT x x.1.ta x.1.tc = x := rfl

set_option maxHeartbeats 16000000 in
set_option maxRecDepth 100000 in
theorem prParse_any (a : Option Addr) (n c : Nat) (b : List Int) (w : World) (h : BsAt w a n c b) :
    Calls Try.prog 9 #[.slice a n c] w fun e w' => PrSays b e w' ∧ Ext w w' := by
  have hby := h.byte
  have Hby := Lib.hid hby
  have HBs := Lib.hid h
  have hK0 : 0 ≤ (pK b).1 ∧ (pK b).1 ≤ 4 := numP_bd hby (by omega)
  obtain ⟨V0, x0, b0, e0⟩ : ∃ A B C, pK b = (A, B, C) := ⟨_, _, _, rfl⟩
  have N0 : numP b false 4 = (V0, x0, b0) := e0
  rw [e0] at hK0
  have hK : 0 ≤ V0 ∧ V0 ≤ 4 := hK0
  have M0 := Lib.hid N0
  have He0 := Lib.hid e0
  have wV : IntKind.i64.wrap V0 = V0 := by rw [IntKind.wrap_i64]; omega
  obtain ⟨D, hD⟩ : ∃ D, prTk b = D := ⟨_, rfl⟩
  have HD := Lib.hid hD
  obtain ⟨O, hO⟩ : ∃ O, prOf b = O := ⟨_, rfl⟩
  have HOf := Lib.hid hO
  obtain ⟨w1, hw1⟩ : ∃ w1, w.alloc (.cells (prV (prZ 0)) 32) = w1 := ⟨_, rfl⟩
  have hE1 : Ext w w1 := by rw [← hw1]; exact (Ext.refl w).alloc _
  obtain ⟨g0, hg0⟩ : ∃ g, w.heap.size = g := ⟨_, rfl⟩
  have r1 : w1.rowIs g0 32 255 (prC (prZ 0)) := by rw [← hw1, ← hg0]; exact rowIs_of (heap_new w _ _ rfl)
  have Hw1 := Lib.hid hw1
  have HE1 := Lib.hid hE1
  have Hg0 := Lib.hid hg0
  have HR1 := Lib.hid r1
  have Hq0 := Lib.hid r1.lt
  have hz := zero_pr
  clear h hby hK0 e0 N0 hD hO hw1 hE1 hg0 r1
  go_enter Try.func9, Try.ntmps9
  go_upto_region 1 with (fail)
  refine wp_world (w' := w1) Hw1.out ?_
  rw [Hg0.out]
  clear Hw1
  go_wp2_with fail
  refine (readInB_any a n c b w1 (HBs.out.ext HE1.out)).mono ?_
  rintro e w2 ⟨gI, r, rfl, hgI1, hgI2, hr1, hr2, hI, hB, hE2⟩
  have hn := num_any gI b false 4 w2 hI
  rw [M0.out] at hn
  have HN := Lib.hid hn
  have HL := Lib.hid (show w1.heap.size ≤ gI ∧ gI < w2.heap.size ∧ w1.heap.size ≤ r ∧ r < w2.heap.size from ⟨hgI1, hgI2, hr1, hr2⟩)
  have HB2 := Lib.hid hB
  have HE2 := Lib.hid hE2
  have HR2 := Lib.hid (HR1.out.of_block (hE2.block HR1.out.lt))
  clear hgI1 hgI2 hr1 hr2 hI hB hE2 hn HBs HR1
  go_wp2_with fail
  refine HN.out.mono ?_
  rintro e w3 ⟨rfl, hI, hG, hS⟩
  have HI3 := Lib.hid hI
  have HB3 := Lib.hid (hS r HB2.out)
  have HG3 := Lib.hid hG
  have HR3 := Lib.hid (HR2.out.of_block (hG.block g0 HR2.out.lt (fun e => by have := Option.some.inj e; have := HL.out; have := Hq0.out; omega)))
  have HA := Lib.hid (prV_size (prZ V0))
  have HAo := Lib.hid (prV_one (prZ V0))
  obtain ⟨PV, hPV⟩ : ∃ PV, prV (prZ V0) = PV := ⟨_, rfl⟩
  rw [hPV] at HA HAo
  have HPV := Lib.hid hPV
  clear hI hG hS HN HB2 HR2 hPV
  go_upto_region 3 with (first | (refine wp_build_pr rfl _ rfl V0 rfl PV HPV.out ?_) | (refine wpList_store_row rfl 32 _ _ rfl w3.heap.size _ rfl rfl _ _ (heap_new w3 _ _ rfl) (by rw [HA.out]; kernel_rfl) (by rw [HA.out]; rfl) HAo.out ?_; rw [setRow_new w3 _ _ _ _ rfl]))
  obtain ⟨w4, hw4⟩ : ∃ w4, w3.alloc (.cells PV 32) = w4 := ⟨_, rfl⟩
  have hE4 : Ext w3 w4 := by rw [← hw4]; exact (Ext.refl w3).alloc _
  obtain ⟨g, hg⟩ : ∃ g, w3.heap.size = g := ⟨_, rfl⟩
  have hs4 : w4.heap.size = g + 1 := by rw [← hw4, ← hg]; simp
  have hr4 : w4.rowIs g 32 255 (prC (prZ V0)) := rowIs_of (by rw [show rowArr 255 (prC (prZ V0)) = PV from HPV.out, ← hw4]; exact heap_new w3 _ _ hg.symm)
  have hL := HL.out
  have hG3s := HG3.out.size
  have hE1s := Below.size HE1.out
  have hg00 := Hg0.out
  have hq0 := Hq0.out
  have hN4 : PPn w gI r g0 g := ⟨by omega, by omega, by omega, by omega, by omega, by omega, by omega⟩
  have hEw : Ext w w3 := Below.grown (HE1.out.trans HE2.out) HG3.out (Below.size (HE1.out.trans HE2.out)) (fun k e => by have := Option.some.inj e; omega)
  have hP4 : PP w w4.heap.size gI r g0 g (prZ V0) x0 b0 w4 := by
    refine ⟨inAt_ext HI3.out hE4, inSame_ext hE4 r HB3.out, hr4, HR3.out.of_block (hE4.block HR3.out.lt), htN_at w4, htN_at w4, fun h0 => by have h1 : (0 : Nat) < 0 := h0; omega, fun h0 => by have h1 : (0 : Nat) < 0 := h0; omega, World.ownsRow_nil _ _ _ _, hEw.trans hE4, Nat.le_refl _, by omega, by omega, by omega, by omega⟩
  have HNN := Lib.hid hN4
  have HP := Lib.hid hP4
  refine wp_world (w' := w4) hw4 ?_
  rw [hg]
  clear hw4 hE4 hg hs4 hr4 hL hG3s hE1s hg00 hq0 hN4 hEw hP4 HL HI3 HB3 HG3 HR3 HA HAo HPV HE1 HE2 Hg0 Hq0
  clear hz
  by_cases k1 : V0 = 1
  · subst k1
    obtain ⟨Xt, x1, b1, e1⟩ : ∃ A B C, pA b = (A, B, C) := ⟨_, _, _, rfl⟩
    have M1a := Lib.hid (show (textP x0 b0 4096).1 = Xt by have h1 := e1; unfold pA at h1; rw [He0.out] at h1; rw [h1])
    have M1 := Lib.hid (show textP x0 b0 4096 = (Xt, x1, b1) by have h1 := e1; unfold pA at h1; rw [He0.out] at h1; exact h1)
    have He1 := Lib.hid e1
    clear e1
    obtain ⟨Yt, x2, b2, e2⟩ : ∃ A B C, pB b = (A, B, C) := ⟨_, _, _, rfl⟩
    have M2a := Lib.hid (show (textP x1 b1 4096).1 = Yt by have h1 := e2; unfold pB at h1; rw [He1.out] at h1; rw [h1])
    have M2 := Lib.hid (show textP x1 b1 4096 = (Yt, x2, b2) by have h1 := e2; unfold pB at h1; rw [He1.out] at h1; exact h1)
    have He2 := Lib.hid e2
    clear e2
    have HRst := Lib.hid (show prRest b = (x2, b2) by unfold prRest; rw [He0.out]; simp only; rw [if_pos (by first | omega | decide | simp), He2.out])
    have HO := Lib.hid (show O = ⟨1, hdTk Xt, hdTk Yt, 0, 0, 0, none, 0, 0, []⟩ by rw [← HOf.out]; unfold prOf; rw [He0.out]; simp only; rw [if_pos (by first | omega | decide | simp), He1.out, He2.out])
    have c0 : w4.cell? ⟨g, 0, none⟩ = some (.int .i64 1) := HP.out.row.cell (i := 0) (by omega)
    have HH := Lib.hid (prHeader_any gI r x0 b0 w4 HP.out.inn HP.out.blk (by have := HP.out.br; have := HP.out.low; omega))
    rw [M1.out] at HH
    have c0 := HP.out.row.cell (i := 0) (by omega)
    go_wp2_with fail
    refine HH.out.mono ?_
    rintro e w5a ⟨Xa, Xc, rfl, hAt, hfar, hI, hB, hG⟩
    obtain ⟨X, hX⟩ : ∃ X, reT (hdTk Xt) Xa Xc = X := ⟨_, rfl⟩
    rw [hX] at hAt ⊢
    have HX := Lib.hid hX
    have hP1 := HP.out.step HNN.out hI hB hG
    have hst := pr_storeA hP1.row X
    have hf : 0 < X.1.tn → ∀ k off, X.1.ta = some ⟨k, off, none⟩ → _ := fun h0 k off e => And.intro (Nat.le_trans HP.out.low (hfar k off (by rw [← hX] at e; exact e))) (hAt.lt h0 e)
    have HP2 := Lib.hid (hP1.setA HNN.out ⟨rfl, rfl, rfl, rfl⟩ X hAt hf)
    have HTh := Lib.hid hst.1
    have Hall := Lib.hid (hdV_one X.1)
    have Hsz := Lib.hid (hdV_size X.1)
    obtain ⟨CV, hCV⟩ : ∃ CV, hdV X.1 = CV := ⟨_, rfl⟩
    rw [hCV] at HP2 HTh Hall Hsz ⊢
    clear hAt hfar hI hB hG hX hP1 hst hf hCV c0 HH
    go_upto_region 7 with (refine wpList_store_mid rfl 30 _ _ rfl g 1 CV rfl rfl HTh.out (by rw [Hsz.out]; kernel_rfl) Hall.out ?_)
    obtain ⟨w5, hw⟩ : ∃ x, w5a.setCells g 1 CV.toList = x := ⟨_, rfl⟩
    rw [hw] at HP2
    refine wp_world (w' := w5) hw ?_
    have HP := Lib.hid HP2.out
    clear hw HP2 HTh Hall Hsz
    have HH := Lib.hid (prHeader_any gI r x1 b1 w5 HP.out.inn HP.out.blk (by have := HP.out.br; have := HP.out.low; omega))
    rw [M2.out] at HH
    have c0 := HP.out.row.cell (i := 0) (by omega)
    go_wp2_with fail
    refine HH.out.mono ?_
    rintro e w6a ⟨Ya, Yc, rfl, hAt, hfar, hI, hB, hG⟩
    obtain ⟨Y, hY⟩ : ∃ X, reT (hdTk Yt) Ya Yc = X := ⟨_, rfl⟩
    rw [hY] at hAt ⊢
    have HY := Lib.hid hY
    have hP1 := HP.out.step HNN.out hI hB hG
    have hst := pr_storeB hP1.row Y
    have hf : 0 < Y.1.tn → ∀ k off, Y.1.ta = some ⟨k, off, none⟩ → _ := fun h0 k off e => And.intro (Nat.le_trans HP.out.low (hfar k off (by rw [← hY] at e; exact e))) (hAt.lt h0 e)
    have HP2 := Lib.hid (hP1.setB HNN.out ⟨rfl, rfl, rfl, rfl⟩ Y hAt hf)
    have HTh := Lib.hid hst.1
    have Hall := Lib.hid (hdV_one Y.1)
    have Hsz := Lib.hid (hdV_size Y.1)
    obtain ⟨CV, hCV⟩ : ∃ CV, hdV Y.1 = CV := ⟨_, rfl⟩
    rw [hCV] at HP2 HTh Hall Hsz ⊢
    clear hAt hfar hI hB hG hY hP1 hst hf hCV c0 HH
    go_upto_region 20 with (refine wpList_store_mid rfl 30 _ _ rfl g 126 CV rfl rfl HTh.out (by rw [Hsz.out]; kernel_rfl) Hall.out ?_)
    obtain ⟨w6, hw⟩ : ∃ x, w6a.setCells g 126 CV.toList = x := ⟨_, rfl⟩
    rw [hw] at HP2
    refine wp_world (w' := w6) hw ?_
    have HP := Lib.hid HP2.out
    clear hw HP2 HTh Hall Hsz
    have HP := Lib.hid (show PP w w6.heap.size gI r g0 g ⟨1, X, Y, 0, 0, 0, none, 0, 0, []⟩ x2 b2 w6 from HP.out)
    have hV := over_any gI x2 b2 w6 HP.out.inn
    obtain ⟨V, hVV⟩ : ∃ V, (!b2 && decide (x2.length = 0)) = V := ⟨_, rfl⟩
    have hok : D = (V && prB O) := by
      rw [← HD.out]
      unfold prTk
      rw [HRst.out, HOf.out, ← hVV]
    rw [hVV] at hV
    have hPA : PrAt w6 (Pr.mk 1 X Y 0 0 0 none 0 0 []) := HP.out.prAt (by show (-9223372036854775808 : Int) ≤ 1 ∧ (1 : Int) ≤ _; omega) (by show (-9223372036854775808 : Int) ≤ 0 ∧ (0 : Int) ≤ _; omega) (by show (0 : Int) ≤ 0 ∧ (0 : Int) < _; omega) (by show (0 : Int) ≤ 0 ∧ (0 : Int) < _; omega) (fun t ht => by cases ht) (by show (0 : Nat) ≤ _; omega)
    have hFm := prFormed_any (Pr.mk 1 X Y 0 0 0 none 0 0 []) w6 hPA
    have hfar : ∀ w', Ext w6 w' → ∀ cs, PrAt (w'.setRow g0 cs) (Pr.mk 1 X Y 0 0 0 none 0 0 []) := fun w' hE cs => hPA.newRow cs hE (fun h0 k off e => (HP.out.af h0 k off e).2.2.1) (fun h0 k off e => (HP.out.bf h0 k off e).2.2.1) (fun h0 k off e => by
      have h1 := (HP.out.own.lt k (by show (Value.slice ((Pr.mk 1 X Y 0 0 0 none 0 0 [])).wa _ _).ownBlock = some k; rw [e]; rfl)).1
      have h2 := HP.out.b0
      omega)
    have hPd : (Pr.mk 1 X Y 0 0 0 none 0 0 []) = prAd O Xa Xc Ya Yc none 0 := by rw [HO.out, ← HX.out, ← HY.out]; rfl
    obtain ⟨F, hF⟩ : ∃ F, prB O = F := ⟨_, rfl⟩
    rw [show prB (Pr.mk 1 X Y 0 0 0 none 0 0 []) = F by rw [hPd, prB_ad, hF]] at hFm
    rw [hF] at hok
    have HV := Lib.hid hV
    have HOk := Lib.hid hok
    have HFar := Lib.hid hfar
    have HPd := Lib.hid hPd
    have HRow := Lib.hid (show w6.heap[g]? = some (.cells (prV (Pr.mk 1 X Y 0 0 0 none 0 0 [])) 32 (0, 0)) from rowIs_cells HP.out.row)
    have HRes := Lib.hid (show w6.heap[g0]? = some (.cells (prV (prZ 0)) 32 (0, 0)) from rowIs_cells HP.out.res)
    have HExt := Lib.hid HP.out.ext
    have HL0 := Lib.hid HNN.out.l0
    have Hsz := Lib.hid (prV_size (prZ 0))
    have Hsz2 := Lib.hid (prV_size (Pr.mk 1 X Y 0 0 0 none 0 0 []))
    have Hone := Lib.hid (prV_one (Pr.mk 1 X Y 0 0 0 none 0 0 []))
    have HFm := Lib.hid hFm
    have hb0 := zero_pr
    have Ho0 := Lib.hid (prV_one (prZ 0))
    obtain ⟨Z, hZ⟩ : ∃ Z, prV (prZ 0) = Z := ⟨_, rfl⟩
    have HZ := Lib.hid hZ
    simp only [hZ] at HRes Hsz hb0 Ho0
    obtain ⟨PV, hPV⟩ : ∃ PV, prV (Pr.mk 1 X Y 0 0 0 none 0 0 []) = PV := ⟨_, rfl⟩
    have HPV := Lib.hid hPV
    rw [hPV] at HRow Hsz2 Hone HFm
    clear hV hok hPA hFm hfar hPd hVV hF hZ hPV
    cases V with
    | false =>
      have hDf : D = false := by rw [HOk.out]; rfl
      subst hDf
      go_wp2_with (first | (refine HV.out.mono ?_; rintro e w9 ⟨rfl, rfl⟩) | (refine wpList_store_row rfl 32 _ _ rfl _ _ rfl rfl _ _ HRes.out (by rw [Hsz.out]; kernel_rfl) rfl Ho0.out ?_))
      refine bodyPost_ret (results_row_tmp rfl _ _ g0 _ _ _ _ rfl (setRow_heap _ g0 _ _ _ _ HRes.out) Try.underlying32 rfl (by rw [Hsz.out]; kernel_rfl)) rfl ?_
      refine ⟨⟨prZ 0, ?_, ?_, fun _ => rfl⟩, below_setRow HExt.out HL0.out _⟩
      · rw [HD.out, HZ.out]; rfl
      · intro h1
        rw [HD.out] at h1
        cases h1
    | true =>
      go_wp2_with fail
      refine HV.out.mono ?_
      rintro e w9 ⟨rfl, rfl⟩
      go_wp2_with (refine wpList_load_rowW rfl 32 _ rfl g rfl _ _ _ _ HRow.out Try.underlying32 rfl (by rw [Hsz2.out]; kernel_rfl) ?_)
      refine HFm.out.mono ?_
      rintro e wf ⟨rfl, hE⟩
      have HRow9 := Lib.hid (hE.keep HRow.out)
      have HRes9 := Lib.hid (hE.keep HRes.out)
      have HE9 := Lib.hid hE
      have HExt9 := Lib.hid (HExt.out.trans hE)
      clear hE HRow HRes HExt HFm HV
      cases F with
      | false =>
        have hDf : D = false := by rw [HOk.out]; rfl
        subst hDf
        go_wp2_with (refine wpList_store_row rfl 32 _ _ rfl _ _ rfl rfl _ _ HRes9.out (by rw [Hsz.out]; kernel_rfl) rfl Ho0.out ?_)
        refine bodyPost_ret (results_row_tmp rfl _ _ g0 _ _ _ _ rfl (setRow_heap _ g0 _ _ _ _ HRes9.out) Try.underlying32 rfl (by rw [Hsz.out]; kernel_rfl)) rfl ?_
        refine ⟨⟨prZ 0, ?_, ?_, fun _ => rfl⟩, below_setRow HExt9.out HL0.out _⟩
        · rw [HD.out, HZ.out]; rfl
        · intro h1
          rw [HD.out] at h1
          cases h1
      | true =>
        have hDt : D = true := by rw [HOk.out]; rfl
        subst hDt
        go_wp2_with (first | (refine wpList_load_rowW rfl 32 _ rfl g rfl _ _ _ _ HRow9.out Try.underlying32 rfl (by rw [Hsz2.out]; kernel_rfl) ?_) | (refine wpList_store_row rfl 32 _ _ rfl _ _ rfl rfl _ _ HRes9.out (by rw [Hsz2.out]; kernel_rfl) (by rw [Hsz2.out, Hsz.out]) Hone.out ?_))
        refine bodyPost_ret (results_row_tmp rfl _ _ g0 _ _ _ _ rfl (setRow_heap _ g0 _ _ _ _ HRes9.out) Try.underlying32 rfl (by rw [Hsz2.out]; kernel_rfl)) rfl ?_
        refine ⟨⟨(Pr.mk 1 X Y 0 0 0 none 0 0 []), ?_, fun _ => ⟨HFar.out _ HE9.out _, _, _, _, _, _, _, by rw [HOf.out]; exact HPd.out⟩, fun h1 => ?_⟩, below_setRow HExt9.out HL0.out _⟩
        · rw [HD.out, HPV.out]; rfl
        · rw [HD.out] at h1
          cases h1
  by_cases k2 : V0 = 2
  · subst k2
    obtain ⟨Xt, x1, b1, e1⟩ : ∃ A B C, pA b = (A, B, C) := ⟨_, _, _, rfl⟩
    have M1a := Lib.hid (show (textP x0 b0 4096).1 = Xt by have h1 := e1; unfold pA at h1; rw [He0.out] at h1; rw [h1])
    have M1 := Lib.hid (show textP x0 b0 4096 = (Xt, x1, b1) by have h1 := e1; unfold pA at h1; rw [He0.out] at h1; exact h1)
    have He1 := Lib.hid e1
    clear e1
    obtain ⟨Yt, x2, b2, e2⟩ : ∃ A B C, pB b = (A, B, C) := ⟨_, _, _, rfl⟩
    have M2a := Lib.hid (show (textP x1 b1 4096).1 = Yt by have h1 := e2; unfold pB at h1; rw [He1.out] at h1; rw [h1])
    have M2 := Lib.hid (show textP x1 b1 4096 = (Yt, x2, b2) by have h1 := e2; unfold pB at h1; rw [He1.out] at h1; exact h1)
    have He2 := Lib.hid e2
    clear e2
    have HRst := Lib.hid (show prRest b = (x2, b2) by unfold prRest; rw [He0.out]; simp only; rw [if_pos (by first | omega | decide | simp), He2.out])
    have HO := Lib.hid (show O = ⟨2, hdTk Xt, hdTk Yt, 0, 0, 0, none, 0, 0, []⟩ by rw [← HOf.out]; unfold prOf; rw [He0.out]; simp only; rw [if_pos (by first | omega | decide | simp), He1.out, He2.out])
    have c0 : w4.cell? ⟨g, 0, none⟩ = some (.int .i64 2) := HP.out.row.cell (i := 0) (by omega)
    have HH := Lib.hid (prHeader_any gI r x0 b0 w4 HP.out.inn HP.out.blk (by have := HP.out.br; have := HP.out.low; omega))
    rw [M1.out] at HH
    have c0 := HP.out.row.cell (i := 0) (by omega)
    go_wp2_with fail
    refine HH.out.mono ?_
    rintro e w5a ⟨Xa, Xc, rfl, hAt, hfar, hI, hB, hG⟩
    obtain ⟨X, hX⟩ : ∃ X, reT (hdTk Xt) Xa Xc = X := ⟨_, rfl⟩
    rw [hX] at hAt ⊢
    have HX := Lib.hid hX
    have hP1 := HP.out.step HNN.out hI hB hG
    have hst := pr_storeA hP1.row X
    have hf : 0 < X.1.tn → ∀ k off, X.1.ta = some ⟨k, off, none⟩ → _ := fun h0 k off e => And.intro (Nat.le_trans HP.out.low (hfar k off (by rw [← hX] at e; exact e))) (hAt.lt h0 e)
    have HP2 := Lib.hid (hP1.setA HNN.out ⟨rfl, rfl, rfl, rfl⟩ X hAt hf)
    have HTh := Lib.hid hst.1
    have Hall := Lib.hid (hdV_one X.1)
    have Hsz := Lib.hid (hdV_size X.1)
    obtain ⟨CV, hCV⟩ : ∃ CV, hdV X.1 = CV := ⟨_, rfl⟩
    rw [hCV] at HP2 HTh Hall Hsz ⊢
    clear hAt hfar hI hB hG hX hP1 hst hf hCV c0 HH
    go_upto_region 7 with (refine wpList_store_mid rfl 30 _ _ rfl g 1 CV rfl rfl HTh.out (by rw [Hsz.out]; kernel_rfl) Hall.out ?_)
    obtain ⟨w5, hw⟩ : ∃ x, w5a.setCells g 1 CV.toList = x := ⟨_, rfl⟩
    rw [hw] at HP2
    refine wp_world (w' := w5) hw ?_
    have HP := Lib.hid HP2.out
    clear hw HP2 HTh Hall Hsz
    have HH := Lib.hid (prHeader_any gI r x1 b1 w5 HP.out.inn HP.out.blk (by have := HP.out.br; have := HP.out.low; omega))
    rw [M2.out] at HH
    have c0 := HP.out.row.cell (i := 0) (by omega)
    go_wp2_with fail
    refine HH.out.mono ?_
    rintro e w6a ⟨Ya, Yc, rfl, hAt, hfar, hI, hB, hG⟩
    obtain ⟨Y, hY⟩ : ∃ X, reT (hdTk Yt) Ya Yc = X := ⟨_, rfl⟩
    rw [hY] at hAt ⊢
    have HY := Lib.hid hY
    have hP1 := HP.out.step HNN.out hI hB hG
    have hst := pr_storeB hP1.row Y
    have hf : 0 < Y.1.tn → ∀ k off, Y.1.ta = some ⟨k, off, none⟩ → _ := fun h0 k off e => And.intro (Nat.le_trans HP.out.low (hfar k off (by rw [← hY] at e; exact e))) (hAt.lt h0 e)
    have HP2 := Lib.hid (hP1.setB HNN.out ⟨rfl, rfl, rfl, rfl⟩ Y hAt hf)
    have HTh := Lib.hid hst.1
    have Hall := Lib.hid (hdV_one Y.1)
    have Hsz := Lib.hid (hdV_size Y.1)
    obtain ⟨CV, hCV⟩ : ∃ CV, hdV Y.1 = CV := ⟨_, rfl⟩
    rw [hCV] at HP2 HTh Hall Hsz ⊢
    clear hAt hfar hI hB hG hY hP1 hst hf hCV c0 HH
    go_upto_region 20 with (refine wpList_store_mid rfl 30 _ _ rfl g 126 CV rfl rfl HTh.out (by rw [Hsz.out]; kernel_rfl) Hall.out ?_)
    obtain ⟨w6, hw⟩ : ∃ x, w6a.setCells g 126 CV.toList = x := ⟨_, rfl⟩
    rw [hw] at HP2
    refine wp_world (w' := w6) hw ?_
    have HP := Lib.hid HP2.out
    clear hw HP2 HTh Hall Hsz
    have HP := Lib.hid (show PP w w6.heap.size gI r g0 g ⟨2, X, Y, 0, 0, 0, none, 0, 0, []⟩ x2 b2 w6 from HP.out)
    have hV := over_any gI x2 b2 w6 HP.out.inn
    obtain ⟨V, hVV⟩ : ∃ V, (!b2 && decide (x2.length = 0)) = V := ⟨_, rfl⟩
    have hok : D = (V && prB O) := by
      rw [← HD.out]
      unfold prTk
      rw [HRst.out, HOf.out, ← hVV]
    rw [hVV] at hV
    have hPA : PrAt w6 (Pr.mk 2 X Y 0 0 0 none 0 0 []) := HP.out.prAt (by show (-9223372036854775808 : Int) ≤ 2 ∧ (2 : Int) ≤ _; omega) (by show (-9223372036854775808 : Int) ≤ 0 ∧ (0 : Int) ≤ _; omega) (by show (0 : Int) ≤ 0 ∧ (0 : Int) < _; omega) (by show (0 : Int) ≤ 0 ∧ (0 : Int) < _; omega) (fun t ht => by cases ht) (by show (0 : Nat) ≤ _; omega)
    have hFm := prFormed_any (Pr.mk 2 X Y 0 0 0 none 0 0 []) w6 hPA
    have hfar : ∀ w', Ext w6 w' → ∀ cs, PrAt (w'.setRow g0 cs) (Pr.mk 2 X Y 0 0 0 none 0 0 []) := fun w' hE cs => hPA.newRow cs hE (fun h0 k off e => (HP.out.af h0 k off e).2.2.1) (fun h0 k off e => (HP.out.bf h0 k off e).2.2.1) (fun h0 k off e => by
      have h1 := (HP.out.own.lt k (by show (Value.slice ((Pr.mk 2 X Y 0 0 0 none 0 0 [])).wa _ _).ownBlock = some k; rw [e]; rfl)).1
      have h2 := HP.out.b0
      omega)
    have hPd : (Pr.mk 2 X Y 0 0 0 none 0 0 []) = prAd O Xa Xc Ya Yc none 0 := by rw [HO.out, ← HX.out, ← HY.out]; rfl
    obtain ⟨F, hF⟩ : ∃ F, prB O = F := ⟨_, rfl⟩
    rw [show prB (Pr.mk 2 X Y 0 0 0 none 0 0 []) = F by rw [hPd, prB_ad, hF]] at hFm
    rw [hF] at hok
    have HV := Lib.hid hV
    have HOk := Lib.hid hok
    have HFar := Lib.hid hfar
    have HPd := Lib.hid hPd
    have HRow := Lib.hid (show w6.heap[g]? = some (.cells (prV (Pr.mk 2 X Y 0 0 0 none 0 0 [])) 32 (0, 0)) from rowIs_cells HP.out.row)
    have HRes := Lib.hid (show w6.heap[g0]? = some (.cells (prV (prZ 0)) 32 (0, 0)) from rowIs_cells HP.out.res)
    have HExt := Lib.hid HP.out.ext
    have HL0 := Lib.hid HNN.out.l0
    have Hsz := Lib.hid (prV_size (prZ 0))
    have Hsz2 := Lib.hid (prV_size (Pr.mk 2 X Y 0 0 0 none 0 0 []))
    have Hone := Lib.hid (prV_one (Pr.mk 2 X Y 0 0 0 none 0 0 []))
    have HFm := Lib.hid hFm
    have hb0 := zero_pr
    have Ho0 := Lib.hid (prV_one (prZ 0))
    obtain ⟨Z, hZ⟩ : ∃ Z, prV (prZ 0) = Z := ⟨_, rfl⟩
    have HZ := Lib.hid hZ
    simp only [hZ] at HRes Hsz hb0 Ho0
    obtain ⟨PV, hPV⟩ : ∃ PV, prV (Pr.mk 2 X Y 0 0 0 none 0 0 []) = PV := ⟨_, rfl⟩
    have HPV := Lib.hid hPV
    rw [hPV] at HRow Hsz2 Hone HFm
    clear hV hok hPA hFm hfar hPd hVV hF hZ hPV
    cases V with
    | false =>
      have hDf : D = false := by rw [HOk.out]; rfl
      subst hDf
      go_wp2_with (first | (refine HV.out.mono ?_; rintro e w9 ⟨rfl, rfl⟩) | (refine wpList_store_row rfl 32 _ _ rfl _ _ rfl rfl _ _ HRes.out (by rw [Hsz.out]; kernel_rfl) rfl Ho0.out ?_))
      refine bodyPost_ret (results_row_tmp rfl _ _ g0 _ _ _ _ rfl (setRow_heap _ g0 _ _ _ _ HRes.out) Try.underlying32 rfl (by rw [Hsz.out]; kernel_rfl)) rfl ?_
      refine ⟨⟨prZ 0, ?_, ?_, fun _ => rfl⟩, below_setRow HExt.out HL0.out _⟩
      · rw [HD.out, HZ.out]; rfl
      · intro h1
        rw [HD.out] at h1
        cases h1
    | true =>
      go_wp2_with fail
      refine HV.out.mono ?_
      rintro e w9 ⟨rfl, rfl⟩
      go_wp2_with (refine wpList_load_rowW rfl 32 _ rfl g rfl _ _ _ _ HRow.out Try.underlying32 rfl (by rw [Hsz2.out]; kernel_rfl) ?_)
      refine HFm.out.mono ?_
      rintro e wf ⟨rfl, hE⟩
      have HRow9 := Lib.hid (hE.keep HRow.out)
      have HRes9 := Lib.hid (hE.keep HRes.out)
      have HE9 := Lib.hid hE
      have HExt9 := Lib.hid (HExt.out.trans hE)
      clear hE HRow HRes HExt HFm HV
      cases F with
      | false =>
        have hDf : D = false := by rw [HOk.out]; rfl
        subst hDf
        go_wp2_with (refine wpList_store_row rfl 32 _ _ rfl _ _ rfl rfl _ _ HRes9.out (by rw [Hsz.out]; kernel_rfl) rfl Ho0.out ?_)
        refine bodyPost_ret (results_row_tmp rfl _ _ g0 _ _ _ _ rfl (setRow_heap _ g0 _ _ _ _ HRes9.out) Try.underlying32 rfl (by rw [Hsz.out]; kernel_rfl)) rfl ?_
        refine ⟨⟨prZ 0, ?_, ?_, fun _ => rfl⟩, below_setRow HExt9.out HL0.out _⟩
        · rw [HD.out, HZ.out]; rfl
        · intro h1
          rw [HD.out] at h1
          cases h1
      | true =>
        have hDt : D = true := by rw [HOk.out]; rfl
        subst hDt
        go_wp2_with (first | (refine wpList_load_rowW rfl 32 _ rfl g rfl _ _ _ _ HRow9.out Try.underlying32 rfl (by rw [Hsz2.out]; kernel_rfl) ?_) | (refine wpList_store_row rfl 32 _ _ rfl _ _ rfl rfl _ _ HRes9.out (by rw [Hsz2.out]; kernel_rfl) (by rw [Hsz2.out, Hsz.out]) Hone.out ?_))
        refine bodyPost_ret (results_row_tmp rfl _ _ g0 _ _ _ _ rfl (setRow_heap _ g0 _ _ _ _ HRes9.out) Try.underlying32 rfl (by rw [Hsz2.out]; kernel_rfl)) rfl ?_
        refine ⟨⟨(Pr.mk 2 X Y 0 0 0 none 0 0 []), ?_, fun _ => ⟨HFar.out _ HE9.out _, _, _, _, _, _, _, by rw [HOf.out]; exact HPd.out⟩, fun h1 => ?_⟩, below_setRow HExt9.out HL0.out _⟩
        · rw [HD.out, HPV.out]; rfl
        · rw [HD.out] at h1
          cases h1
  by_cases k3 : V0 = 3
  · subst k3
    obtain ⟨VW, x1, b1, e1⟩ : ∃ A B C, pW b = (A, B, C) := ⟨_, _, _, rfl⟩
    have M1 := Lib.hid (show numP x0 b0 6 = (VW, x1, b1) by have h1 := e1; unfold pW at h1; rw [He0.out] at h1; exact h1)
    have He1 := Lib.hid e1
    clear e1
    obtain ⟨VF, x2, b2, e2⟩ : ∃ A B C, pF b = (A, B, C) := ⟨_, _, _, rfl⟩
    have M2 := Lib.hid (show numP x1 b1 1048576 = (VF, x2, b2) by have h1 := e2; unfold pF at h1; rw [He1.out] at h1; exact h1)
    have He2 := Lib.hid e2
    clear e2
    obtain ⟨VH, x3, b3, e3⟩ : ∃ A B C, pH b = (A, B, C) := ⟨_, _, _, rfl⟩
    have M3 := Lib.hid (show numP x2 b2 1048576 = (VH, x3, b3) by have h1 := e3; unfold pH at h1; rw [He2.out] at h1; exact h1)
    have He3 := Lib.hid e3
    clear e3
    have dW : 0 ≤ VW ∧ VW ≤ 6 := by have h1 := numP_bd (bad := b0) (most := 6) (show ∀ c ∈ x0, 0 ≤ c ∧ c < 256 by have h2 := pK_byte Hby.out; rw [He0.out] at h2; exact h2) (by omega); rw [M1.out] at h1; exact h1
    have dF : 0 ≤ VF ∧ VF ≤ 1048576 := by have h1 := numP_bd (bad := b1) (most := 1048576) (show ∀ c ∈ x1, 0 ≤ c ∧ c < 256 by have h2 := pW_byte Hby.out; rw [He1.out] at h2; exact h2) (by omega); rw [M2.out] at h1; exact h1
    have dH : 0 ≤ VH ∧ VH ≤ 1048576 := by have h1 := numP_bd (bad := b2) (most := 1048576) (show ∀ c ∈ x2, 0 ≤ c ∧ c < 256 by have h2 := pF_byte Hby.out; rw [He2.out] at h2; exact h2) (by omega); rw [M3.out] at h1; exact h1
    have wW : IntKind.i64.wrap VW = VW := by rw [IntKind.wrap_i64]; omega
    have HRst := Lib.hid (show prRest b = (x3, b3) by unfold prRest; rw [He0.out]; simp only; rw [if_neg (by omega), if_pos trivial, He3.out])
    have HO := Lib.hid (show O = ⟨3, htN, htN, VW, VF, VH, none, 0, 0, []⟩ by rw [← HOf.out]; unfold prOf; rw [He0.out]; simp only; rw [if_neg (by omega), if_pos trivial, He1.out, He2.out, He3.out])
    have c0 : w4.cell? ⟨g, 0, none⟩ = some (.int .i64 3) := HP.out.row.cell (i := 0) (by omega)
    have hn := num_any gI x0 b0 6 w4 HP.out.inn
    rw [M1.out] at hn
    have HNm := Lib.hid hn
    clear hn
    go_wp2_with fail
    refine HNm.out.mono ?_
    rintro e w5a ⟨rfl, hI, hG, hS⟩
    obtain ⟨q0, q1, q2⟩ := (HP.out.step HNN.out hI (hS r HP.out.blk) hG).set HNN.out 251 (by omega) (.int .i64 VW) ⟨3, htN, htN, VW, 0, 0, none, 0, 0, []⟩ (prC_setW _ _) rfl rfl ⟨rfl, rfl, rfl, rfl⟩
    obtain ⟨w5, hw⟩ : ∃ x, w5a.setCell ⟨g, 251, none⟩ (.int .i64 VW) = x := ⟨_, rfl⟩
    rw [hw] at q2
    have HP := Lib.hid q2
    have Hw := Lib.hid hw
    clear hI hG hS q2 hw HNm c0
    go_upto_region 10 with (fail)
    refine wp_world (w' := w5) Hw.out ?_
    clear q0 q1 Hw
    have hn := num_any gI x1 b1 1048576 w5 HP.out.inn
    rw [M2.out] at hn
    have HNm := Lib.hid hn
    clear hn
    go_wp2_with fail
    refine HNm.out.mono ?_
    rintro e w6a ⟨rfl, hI, hG, hS⟩
    obtain ⟨q0, q1, q2⟩ := (HP.out.step HNN.out hI (hS r HP.out.blk) hG).set HNN.out 252 (by omega) (.int .u64 VF) ⟨3, htN, htN, VW, VF, 0, none, 0, 0, []⟩ (prC_setF _ _) rfl rfl ⟨rfl, rfl, rfl, rfl⟩
    obtain ⟨w6, hw⟩ : ∃ x, w6a.setCell ⟨g, 252, none⟩ (.int .u64 VF) = x := ⟨_, rfl⟩
    rw [hw] at q2
    have HP := Lib.hid q2
    have Hw := Lib.hid hw
    clear hI hG hS q2 hw HNm
    go_upto_region 11 with (fail)
    refine wp_world (w' := w6) Hw.out ?_
    clear q0 q1 Hw
    have hn := num_any gI x2 b2 1048576 w6 HP.out.inn
    rw [M3.out] at hn
    have HNm := Lib.hid hn
    clear hn
    go_wp2_with fail
    refine HNm.out.mono ?_
    rintro e w7a ⟨rfl, hI, hG, hS⟩
    obtain ⟨q0, q1, q2⟩ := (HP.out.step HNN.out hI (hS r HP.out.blk) hG).set HNN.out 253 (by omega) (.int .u64 VH) ⟨3, htN, htN, VW, VF, VH, none, 0, 0, []⟩ (prC_setH _ _) rfl rfl ⟨rfl, rfl, rfl, rfl⟩
    obtain ⟨w7, hw⟩ : ∃ x, w7a.setCell ⟨g, 253, none⟩ (.int .u64 VH) = x := ⟨_, rfl⟩
    rw [hw] at q2
    have HP := Lib.hid q2
    have Hw := Lib.hid hw
    clear hI hG hS q2 hw HNm
    go_upto_region 20 with (fail)
    refine wp_world (w' := w7) Hw.out ?_
    clear q0 q1 Hw
    have hV := over_any gI x3 b3 w7 HP.out.inn
    obtain ⟨V, hVV⟩ : ∃ V, (!b3 && decide (x3.length = 0)) = V := ⟨_, rfl⟩
    have hok : D = (V && prB O) := by
      rw [← HD.out]
      unfold prTk
      rw [HRst.out, HOf.out, ← hVV]
    rw [hVV] at hV
    have hPA : PrAt w7 (Pr.mk 3 htN htN VW VF VH none 0 0 []) := HP.out.prAt (by show (-9223372036854775808 : Int) ≤ 3 ∧ (3 : Int) ≤ _; omega) (by show (-9223372036854775808 : Int) ≤ VW ∧ VW ≤ _; omega) (by show (0 : Int) ≤ VF ∧ VF < _; omega) (by show (0 : Int) ≤ VH ∧ VH < _; omega) (fun t ht => by cases ht) (by show (0 : Nat) ≤ _; omega)
    have hFm := prFormed_any (Pr.mk 3 htN htN VW VF VH none 0 0 []) w7 hPA
    have hfar : ∀ w', Ext w7 w' → ∀ cs, PrAt (w'.setRow g0 cs) (Pr.mk 3 htN htN VW VF VH none 0 0 []) := fun w' hE cs => hPA.newRow cs hE (fun h0 k off e => (HP.out.af h0 k off e).2.2.1) (fun h0 k off e => (HP.out.bf h0 k off e).2.2.1) (fun h0 k off e => by
      have h1 := (HP.out.own.lt k (by show (Value.slice ((Pr.mk 3 htN htN VW VF VH none 0 0 [])).wa _ _).ownBlock = some k; rw [e]; rfl)).1
      have h2 := HP.out.b0
      omega)
    have hPd : (Pr.mk 3 htN htN VW VF VH none 0 0 []) = prAd O none 0 none 0 none 0 := by rw [HO.out]; rfl
    obtain ⟨F, hF⟩ : ∃ F, prB O = F := ⟨_, rfl⟩
    rw [show prB (Pr.mk 3 htN htN VW VF VH none 0 0 []) = F by rw [hPd, prB_ad, hF]] at hFm
    rw [hF] at hok
    have HV := Lib.hid hV
    have HOk := Lib.hid hok
    have HFar := Lib.hid hfar
    have HPd := Lib.hid hPd
    have HRow := Lib.hid (show w7.heap[g]? = some (.cells (prV (Pr.mk 3 htN htN VW VF VH none 0 0 [])) 32 (0, 0)) from rowIs_cells HP.out.row)
    have HRes := Lib.hid (show w7.heap[g0]? = some (.cells (prV (prZ 0)) 32 (0, 0)) from rowIs_cells HP.out.res)
    have HExt := Lib.hid HP.out.ext
    have HL0 := Lib.hid HNN.out.l0
    have Hsz := Lib.hid (prV_size (prZ 0))
    have Hsz2 := Lib.hid (prV_size (Pr.mk 3 htN htN VW VF VH none 0 0 []))
    have Hone := Lib.hid (prV_one (Pr.mk 3 htN htN VW VF VH none 0 0 []))
    have HFm := Lib.hid hFm
    have hb0 := zero_pr
    have Ho0 := Lib.hid (prV_one (prZ 0))
    obtain ⟨Z, hZ⟩ : ∃ Z, prV (prZ 0) = Z := ⟨_, rfl⟩
    have HZ := Lib.hid hZ
    simp only [hZ] at HRes Hsz hb0 Ho0
    obtain ⟨PV, hPV⟩ : ∃ PV, prV (Pr.mk 3 htN htN VW VF VH none 0 0 []) = PV := ⟨_, rfl⟩
    have HPV := Lib.hid hPV
    rw [hPV] at HRow Hsz2 Hone HFm
    clear hV hok hPA hFm hfar hPd hVV hF hZ hPV
    cases V with
    | false =>
      have hDf : D = false := by rw [HOk.out]; rfl
      subst hDf
      go_wp2_with (first | (refine HV.out.mono ?_; rintro e w9 ⟨rfl, rfl⟩) | (refine wpList_store_row rfl 32 _ _ rfl _ _ rfl rfl _ _ HRes.out (by rw [Hsz.out]; kernel_rfl) rfl Ho0.out ?_))
      refine bodyPost_ret (results_row_tmp rfl _ _ g0 _ _ _ _ rfl (setRow_heap _ g0 _ _ _ _ HRes.out) Try.underlying32 rfl (by rw [Hsz.out]; kernel_rfl)) rfl ?_
      refine ⟨⟨prZ 0, ?_, ?_, fun _ => rfl⟩, below_setRow HExt.out HL0.out _⟩
      · rw [HD.out, HZ.out]; rfl
      · intro h1
        rw [HD.out] at h1
        cases h1
    | true =>
      go_wp2_with fail
      refine HV.out.mono ?_
      rintro e w9 ⟨rfl, rfl⟩
      go_wp2_with (refine wpList_load_rowW rfl 32 _ rfl g rfl _ _ _ _ HRow.out Try.underlying32 rfl (by rw [Hsz2.out]; kernel_rfl) ?_)
      refine HFm.out.mono ?_
      rintro e wf ⟨rfl, hE⟩
      have HRow9 := Lib.hid (hE.keep HRow.out)
      have HRes9 := Lib.hid (hE.keep HRes.out)
      have HE9 := Lib.hid hE
      have HExt9 := Lib.hid (HExt.out.trans hE)
      clear hE HRow HRes HExt HFm HV
      cases F with
      | false =>
        have hDf : D = false := by rw [HOk.out]; rfl
        subst hDf
        go_wp2_with (refine wpList_store_row rfl 32 _ _ rfl _ _ rfl rfl _ _ HRes9.out (by rw [Hsz.out]; kernel_rfl) rfl Ho0.out ?_)
        refine bodyPost_ret (results_row_tmp rfl _ _ g0 _ _ _ _ rfl (setRow_heap _ g0 _ _ _ _ HRes9.out) Try.underlying32 rfl (by rw [Hsz.out]; kernel_rfl)) rfl ?_
        refine ⟨⟨prZ 0, ?_, ?_, fun _ => rfl⟩, below_setRow HExt9.out HL0.out _⟩
        · rw [HD.out, HZ.out]; rfl
        · intro h1
          rw [HD.out] at h1
          cases h1
      | true =>
        have hDt : D = true := by rw [HOk.out]; rfl
        subst hDt
        go_wp2_with (first | (refine wpList_load_rowW rfl 32 _ rfl g rfl _ _ _ _ HRow9.out Try.underlying32 rfl (by rw [Hsz2.out]; kernel_rfl) ?_) | (refine wpList_store_row rfl 32 _ _ rfl _ _ rfl rfl _ _ HRes9.out (by rw [Hsz2.out]; kernel_rfl) (by rw [Hsz2.out, Hsz.out]) Hone.out ?_))
        refine bodyPost_ret (results_row_tmp rfl _ _ g0 _ _ _ _ rfl (setRow_heap _ g0 _ _ _ _ HRes9.out) Try.underlying32 rfl (by rw [Hsz2.out]; kernel_rfl)) rfl ?_
        refine ⟨⟨(Pr.mk 3 htN htN VW VF VH none 0 0 []), ?_, fun _ => ⟨HFar.out _ HE9.out _, _, _, _, _, _, _, by rw [HOf.out]; exact HPd.out⟩, fun h1 => ?_⟩, below_setRow HExt9.out HL0.out _⟩
        · rw [HD.out, HPV.out]; rfl
        · rw [HD.out] at h1
          cases h1
  by_cases k4 : V0 = 4
  · subst k4
    obtain ⟨Xt, x1, b1, e1⟩ : ∃ A B C, pA b = (A, B, C) := ⟨_, _, _, rfl⟩
    have M1a := Lib.hid (show (textP x0 b0 4096).1 = Xt by have h1 := e1; unfold pA at h1; rw [He0.out] at h1; rw [h1])
    have M1 := Lib.hid (show textP x0 b0 4096 = (Xt, x1, b1) by have h1 := e1; unfold pA at h1; rw [He0.out] at h1; exact h1)
    have He1 := Lib.hid e1
    clear e1
    obtain ⟨VN, xN, bN, e2⟩ : ∃ A B C, pN b = (A, B, C) := ⟨_, _, _, rfl⟩
    have M2 := Lib.hid (show numP x1 b1 8 = (VN, xN, bN) by have h1 := e2; unfold pN at h1; rw [He1.out] at h1; exact h1)
    have He2 := Lib.hid e2
    clear e2
    have dN : 0 ≤ VN ∧ VN ≤ 8 := by have h1 := numP_bd (bad := b1) (most := 8) (show ∀ c ∈ x1, 0 ≤ c ∧ c < 256 by have h2 := pA_byte Hby.out; rw [He1.out] at h2; exact h2) (by omega); rw [M2.out] at h1; exact h1
    have hbN : ∀ c ∈ xN, 0 ≤ c ∧ c < 256 := by have h2 := pN_byte Hby.out; rw [He2.out] at h2; exact h2
    have HbN := Lib.hid hbN
    clear hbN
    obtain ⟨t, rfl⟩ : ∃ t : Nat, VN = (t : Int) := ⟨VN.toNat, by omega⟩
    have Ht8 := Lib.hid (show t ≤ 8 by omega)
    have HRst0 := Lib.hid (show prRest b = tokS xN bN t by unfold prRest; rw [He0.out]; simp only; rw [if_neg (by omega), if_neg (by omega), if_pos trivial]; unfold pT; rw [He2.out]; rfl)
    have HO := Lib.hid (show O = ⟨4, hdTk Xt, htN, 0, 0, 0, none, t, 0, (List.range t).map (tokX xN bN)⟩ by rw [← HOf.out]; unfold prOf pWs; rw [He0.out]; simp only; rw [if_neg (by omega), if_neg (by omega), if_pos trivial, He1.out, He2.out]; rfl)
    have c0 : w4.cell? ⟨g, 0, none⟩ = some (.int .i64 4) := HP.out.row.cell (i := 0) (by omega)
    have HH := Lib.hid (prHeader_any gI r x0 b0 w4 HP.out.inn HP.out.blk (by have := HP.out.br; have := HP.out.low; omega))
    rw [M1.out] at HH
    have c0 := HP.out.row.cell (i := 0) (by omega)
    go_wp2_with fail
    refine HH.out.mono ?_
    rintro e w5a ⟨Xa, Xc, rfl, hAt, hfar, hI, hB, hG⟩
    obtain ⟨X, hX⟩ : ∃ X, reT (hdTk Xt) Xa Xc = X := ⟨_, rfl⟩
    rw [hX] at hAt ⊢
    have HX := Lib.hid hX
    have hP1 := HP.out.step HNN.out hI hB hG
    have hst := pr_storeA hP1.row X
    have hf : 0 < X.1.tn → ∀ k off, X.1.ta = some ⟨k, off, none⟩ → _ := fun h0 k off e => And.intro (Nat.le_trans HP.out.low (hfar k off (by rw [← hX] at e; exact e))) (hAt.lt h0 e)
    have HP2 := Lib.hid (hP1.setA HNN.out ⟨rfl, rfl, rfl, rfl⟩ X hAt hf)
    have HTh := Lib.hid hst.1
    have Hall := Lib.hid (hdV_one X.1)
    have Hsz := Lib.hid (hdV_size X.1)
    obtain ⟨CV, hCV⟩ : ∃ CV, hdV X.1 = CV := ⟨_, rfl⟩
    rw [hCV] at HP2 HTh Hall Hsz ⊢
    clear hAt hfar hI hB hG hX hP1 hst hf hCV c0 HH
    go_upto_region 14 with (refine wpList_store_mid rfl 30 _ _ rfl g 1 CV rfl rfl HTh.out (by rw [Hsz.out]; kernel_rfl) Hall.out ?_)
    obtain ⟨w5, hw⟩ : ∃ x, w5a.setCells g 1 CV.toList = x := ⟨_, rfl⟩
    rw [hw] at HP2
    refine wp_world (w' := w5) hw ?_
    have HP := Lib.hid HP2.out
    clear hw HP2 HTh Hall Hsz
    have HP := Lib.hid (show PP w w5.heap.size gI r g0 g ⟨4, X, htN, 0, 0, 0, none, 0, 0, []⟩ x1 b1 w5 from HP.out)
    have hn := num_any gI x1 b1 8 w5 HP.out.inn
    rw [M2.out] at hn
    have HNm := Lib.hid hn
    clear hn
    go_wp2_with fail
    refine HNm.out.mono ?_
    rintro e w6 ⟨rfl, hI, hG, hS⟩
    obtain ⟨B, hBB⟩ : ∃ B, w5.heap.size = B := ⟨_, rfl⟩
    rw [hBB] at HP
    have HP6 := Lib.hid (HP.out.step HNN.out hI (hS r HP.out.blk) hG)
    clear hI hG hS HNm HP hBB
    go_wp2
    go_loopw [43] (fun i wr => ∃ k : Nat, k ≤ t ∧ i = .int .u64 (k : Int) ∧ ∃ a c, PP w B gI r g0 g ⟨4, X, htN, 0, 0, 0, a, k, c, (List.range k).map (tokX xN bN)⟩ (tokS xN bN k).1 (tokS xN bN k).2 wr) (fun i _ => t - (intOf i).toNat)
    case atStart => exact ⟨0, by omega, rfl, none, 0, HP6.out⟩
    case round =>
      obtain ⟨k, hk, rfl, ta, tc, hP⟩ := hrel
      have HPk := Lib.hid hP
      by_cases hlt : k < t
      · have x1 : (k : Int) < (t : Int) := by omega
        obtain ⟨wa, hwa⟩ : ∃ x, wr.alloc (.cells (rowArr 16 fun _ => .int .u8 0) 26) = x := ⟨_, rfl⟩
        obtain ⟨q, hq⟩ : ∃ q, wr.heap.size = q := ⟨_, rfl⟩
        have hEa : Ext wr wa := by rw [← hwa]; exact (Ext.refl wr).alloc _
        have hra : wa.rowIs q 26 16 (fun _ => .int .u8 0) := by rw [← hwa, ← hq]; exact rowIs_of (heap_new wr _ _ rfl)
        have hPa := hP.more hEa
        have hql : B ≤ q := by rw [← hq]; exact hP.low
        have Hra := Lib.hid hra
        have HPa := Lib.hid hPa
        have Hwa := Lib.hid hwa
        have Hq := Lib.hid hq
        have Hql := Lib.hid hql
        have HEa := Lib.hid hEa
        have hzt := zero_t16
        have hle := rawP_len (xs := (tokS xN bN k).1) (bad := (tokS xN bN k).2) (k := 16) (by omega)
        have Hle := Lib.hid hle
        clear hwa hq hEa hra hPa hql hP hle
        go_upto_region 17 with (fail)
        refine wp_world (w' := wa) Hwa.out ?_
        rw [Hq.out]
        clear Hwa hzt
        have HC0 := Lib.hid (show wa.grownBy wa.drew (some gI) ∧ InSame wa wa.drew gI ∧ InAt wa.drew gI (tokS xN bN (if false = true then k + 1 else k)).1 (tokS xN bN (if false = true then k + 1 else k)).2 from
          ⟨grown_ext ((Ext.refl wa).drew) _, inSame_ext ((Ext.refl wa).drew), inAt_ext HPa.out.inn ((Ext.refl wa).drew)⟩)
        have HST := Lib.hid (show ∀ (ph : Bool) (w1 w2 : World), (wa.grownBy w1 (some gI) ∧ InSame wa w1 gI ∧ InAt w1 gI (tokS xN bN (if ph = true then k + 1 else k)).1 (tokS xN bN (if ph = true then k + 1 else k)).2) → Ext w1 w2 → (wa.grownBy w2 (some gI) ∧ InSame wa w2 gI ∧ InAt w2 gI (tokS xN bN (if ph = true then k + 1 else k)).1 (tokS xN bN (if ph = true then k + 1 else k)).2) ∧ w1.grownBy w2 (some gI) from
          fun ph w1 w2 hC hE => ⟨⟨grown_trans hC.1 (grown_ext hE _), hC.2.1.trans (inSame_ext hE), inAt_ext hC.2.2 hE⟩, grown_ext hE _⟩)
        refine lp_start (C := fun ph w => wa.grownBy w (some gI) ∧ InSame wa w gI ∧ InAt w gI (tokS xN bN (if ph = true then k + 1 else k)).1 (tokS xN bN (if ph = true then k + 1 else k)).2) (E := fun w w' => w.grownBy w' (some gI)) 3 2 (by omega) (by kernel_rfl) (by kernel_rfl) (fun w => World.grownBy.refl w _) HC0.out ?_
        refine lp_s (.ex (.slice (some ⟨q, 0, none⟩) 16 16)) [] (by omega) (by kernel_rfl) rfl (by rfl) trivial HST.out (fun ph w1 hw1 => ?_) ?_
        · simp only [pk, lexVals]
          clear hw1
          go_simp
          exact ⟨Ext.refl _, rfl⟩
        refine lp_s (.ex (.pointer (some ⟨gI, 0, none⟩))) [] (by omega) (by kernel_rfl) rfl (by rfl) trivial HST.out (fun ph w1 hw1 => ?_) ?_
        · simp only [pk, lexVals]
          clear hw1
          go_simp
          exact ⟨Ext.refl _, rfl⟩
        refine lp_m (.ab fun u w => ∃ a n c, u = .slice a n c ∧ BsAt w a n c (rawP (tokS xN bN k).1 (tokS xN bN k).2 16).1 ∧ (0 < n → ∀ b off, a = some ⟨b, off, none⟩ → b ≠ gI)) [(0, 46)] rfl (by kernel_rfl) rfl (by rfl)
          (fun v w w' hE ⟨a, n, c, h1, h2, h3⟩ => ⟨a, n, c, h1, h2.grownO hE (fun h0 b off e e2 => h3 h0 b off e (Option.some.inj e2)), h3⟩) (fun w1 hw1 => ?_) ?_
        · simp only [pk, nthSp, lexVals]
          have hr := raw_any gI _ _ 16 w1 hw1.2.2
          have HR := Lib.hid hr
          have HW := Lib.hid hw1
          clear hr hw1
          go_simp
          refine HR.out.mono ?_
          rintro e w2 ⟨a7, n7, c7, rfl, hb7, hI7, hG7, hS7⟩
          refine ⟨_, rfl, ⟨grown_trans HW.out.1 hG7, HW.out.2.1.trans hS7, hI7⟩, hG7, a7, n7, c7, rfl, hb7, fun h0 b off e he => ?_⟩
          subst he
          obtain ⟨b', off', e', hcc⟩ := hb7.at_ h0
          rw [e] at e'
          simp only [Option.some.injEq, Addr.mk.injEq, and_true] at e'
          obtain ⟨rfl, rfl⟩ := e'
          obtain ⟨_, _, _, hgI7, _⟩ := hI7
          exact in_noBytes hgI7 _ _ (hcc 0 h0)
        refine lp_stop (by rfl) (by decide) fun wb hwb => ?_
        simp only [rv, pf, lexVals, List.drop_succ_cons, List.drop_zero]
        rintro u47 ⟨a7, n7, c7, rfl, hb7, -⟩
        obtain ⟨hG7, hS7, hI7⟩ := hwb
        have hl7 := hb7.len
        have hPb := HPa.out.step HNN.out hI7 (hS7 r HPa.out.blk) hG7
        have hqI : q ≠ gI := by have := HPk.out.bI; have := Hql.out; omega
        have hrb : wb.rowIs q 26 16 (fun _ => .int .u8 0) := Hra.out.of_block (hG7.block q Hra.out.lt (fun e => hqI (Option.some.inj e)))
        have Hb7 := Lib.hid hb7
        have Hrb := Lib.hid hrb
        have HPb := Lib.hid hPb
        obtain ⟨R1, hR1⟩ : ∃ R, (rawP (tokS xN bN k).1 (tokS xN bN k).2 16).1 = R := ⟨_, rfl⟩
        rw [hR1] at Hb7 hl7 Hle
        have HR1 := Lib.hid hR1
        subst hl7
        have Hmin := Lib.hid (show R1.length = Nat.min R1.length 16 from (Nat.min_eq_left (by have := Hle.out; omega)).symm)
        clear hG7 hS7 hI7 hb7 hrb hPb hR1 HC0 HST Hra HPa hqI
        simp only [Act.put, List.setIfInBounds_toArray, List.set_cons_zero, List.set_cons_succ]
        refine copy_bs rfl (.tmp 45) (.tmp 47) rfl q 0 16 16 16 26 _ rfl Hrb.out (by omega) a7 R1.length c7 R1 rfl Hb7.out R1.length Hmin.out ?_
        intro wc hrc hGc
        have hr2 : wc.rowIs q 26 16 (fun j => .int .u8 (tokX xN bN k j)) := hrc.congr (fun j _ => by
          by_cases h1 : 0 ≤ j ∧ j < 0 + R1.length
          · rw [if_pos h1]
            unfold tokX
            rw [HR1.out]
            rfl
          · rw [if_neg h1]
            unfold tokX
            rw [HR1.out, arF_out (by omega)])
        have hPc : PP w B gI r g0 g ⟨4, X, htN, 0, 0, 0, ta, k, tc, (List.range k).map (tokX xN bN)⟩ (tokS xN bN (k + 1)).1 (tokS xN bN (k + 1)).2 wc := HPb.out.new HNN.out Hql.out (fun e => by have := (HPk.out.own.lt q e).2; have := Hq.out; omega) hGc
        have c254 : wc.cell? ⟨g, 254, none⟩ = some (.slice ta k tc) := hPc.row.cell (i := 254) (by omega)
        have HPc := Lib.hid (hPc.more ((Ext.refl wc).alloc (.cells (rowArr 16 fun j => .int .u8 (tokX xN bN k j)) 26)))
        have Hr2 := Lib.hid (rowIs_cells hr2)
        have Hrq := Lib.hid (rowIs_of (heap_new wc (.cells (rowArr 16 fun j => .int .u8 (tokX xN bN k j)) 26) _ rfl))
        clear hrc hGc hr2 hPc HPb Hrb Hb7 Hmin HEa Hq
        simp only [Act.put, List.setIfInBounds_toArray, List.set_cons_zero, List.set_cons_succ]
        go_wp2_with (first | (refine wpList_load_rowW rfl 26 _ rfl q rfl _ _ _ _ Hr2.out Try.underlying26 rfl (by kernel_rfl) ?_) | (refine wp_build_tok1 rfl _ rfl (tokX xN bN k) rfl ?_) | (at_builtin; refine append_tk rfl _ _ rfl B _ k ((List.range k).map (tokX xN bN)) rfl HPc.out.own wc.heap.size 1 (tokX xN bN k) rfl (fun j hj => Hrq.out.cell hj) (by have := Ht8.out; omega) HPc.out.low ?_))
        intro v' wd hown hgr
        obtain ⟨a', c', rfl⟩ := own_sl hown
        obtain ⟨q0, q1, q2⟩ := HPc.out.push HNN.out hown hgr
        have hus : (List.range k).map (tokX xN bN) ++ [tokX xN bN k] = (List.range (k + 1)).map (tokX xN bN) := by rw [List.range_succ, List.map_append]; rfl
        rw [hus] at q2
        have HQ := Lib.hid q2
        have q0' : wd.cell? ⟨g, 254, none⟩ = some (.slice ta k tc) := q0
        have ht8 := Ht8.out
        have w8 : IntKind.u64.wrap ((k : Int) + 1) = (k : Int) + 1 := by rw [IntKind.wrap_u64]; omega
        clear hown hgr q2 hus c254 Hr2 HPc Hrq HPk q0
        go_wp2
        go_roundw
        case rel => exact ⟨k + 1, by omega, by go_num, a', c', HQ.out⟩
        case measure => simp [intOf]; omega
      · obtain rfl : t = k := by omega
        obtain ⟨xT, bT, eT⟩ : ∃ B C, tokS xN bN t = (B, C) := ⟨_, _, rfl⟩
        rw [eT] at hP
        have HP := Lib.hid hP
        have HRst := Lib.hid (show prRest b = (xT, bT) by rw [HRst0.out, eT])
        have x1 : ¬ (t : Int) < (t : Int) := by omega
        clear hP HPk eT HP6
        have hV := over_any gI xT bT wr HP.out.inn
        obtain ⟨V, hVV⟩ : ∃ V, (!bT && decide (xT.length = 0)) = V := ⟨_, rfl⟩
        have hok : D = (V && prB O) := by
          rw [← HD.out]
          unfold prTk
          rw [HRst.out, HOf.out, ← hVV]
        rw [hVV] at hV
        have hPA : PrAt wr (Pr.mk 4 X htN 0 0 0 ta t tc ((List.range t).map (tokX xN bN))) := HP.out.prAt (by show (-9223372036854775808 : Int) ≤ 4 ∧ (4 : Int) ≤ _; omega) (by show (-9223372036854775808 : Int) ≤ 0 ∧ (0 : Int) ≤ _; omega) (by show (0 : Int) ≤ 0 ∧ (0 : Int) < _; omega) (by show (0 : Int) ≤ 0 ∧ (0 : Int) < _; omega) (fun t ht j _ => by obtain ⟨i, _, rfl⟩ := List.mem_map.1 ht; exact tokX_byte HbN.out i j) (show t ≤ 1000 by have := Ht8.out; omega)
        have hFm := prFormed_any (Pr.mk 4 X htN 0 0 0 ta t tc ((List.range t).map (tokX xN bN))) wr hPA
        have hfar : ∀ w', Ext wr w' → ∀ cs, PrAt (w'.setRow g0 cs) (Pr.mk 4 X htN 0 0 0 ta t tc ((List.range t).map (tokX xN bN))) := fun w' hE cs => hPA.newRow cs hE (fun h0 k off e => (HP.out.af h0 k off e).2.2.1) (fun h0 k off e => (HP.out.bf h0 k off e).2.2.1) (fun h0 k off e => by
          have h1 := (HP.out.own.lt k (by show (Value.slice ((Pr.mk 4 X htN 0 0 0 ta t tc ((List.range t).map (tokX xN bN)))).wa _ _).ownBlock = some k; rw [e]; rfl)).1
          have h2 := HP.out.b0
          omega)
        have hPd : (Pr.mk 4 X htN 0 0 0 ta t tc ((List.range t).map (tokX xN bN))) = prAd O Xa Xc none 0 ta tc := by rw [HO.out, ← HX.out]; rfl
        obtain ⟨F, hF⟩ : ∃ F, prB O = F := ⟨_, rfl⟩
        rw [show prB (Pr.mk 4 X htN 0 0 0 ta t tc ((List.range t).map (tokX xN bN))) = F by rw [hPd, prB_ad, hF]] at hFm
        rw [hF] at hok
        have HV := Lib.hid hV
        have HOk := Lib.hid hok
        have HFar := Lib.hid hfar
        have HPd := Lib.hid hPd
        have HRow := Lib.hid (show wr.heap[g]? = some (.cells (prV (Pr.mk 4 X htN 0 0 0 ta t tc ((List.range t).map (tokX xN bN)))) 32 (0, 0)) from rowIs_cells HP.out.row)
        have HRes := Lib.hid (show wr.heap[g0]? = some (.cells (prV (prZ 0)) 32 (0, 0)) from rowIs_cells HP.out.res)
        have HExt := Lib.hid HP.out.ext
        have HL0 := Lib.hid HNN.out.l0
        have Hsz := Lib.hid (prV_size (prZ 0))
        have Hsz2 := Lib.hid (prV_size (Pr.mk 4 X htN 0 0 0 ta t tc ((List.range t).map (tokX xN bN))))
        have Hone := Lib.hid (prV_one (Pr.mk 4 X htN 0 0 0 ta t tc ((List.range t).map (tokX xN bN))))
        have HFm := Lib.hid hFm
        have hb0 := zero_pr
        have Ho0 := Lib.hid (prV_one (prZ 0))
        obtain ⟨Z, hZ⟩ : ∃ Z, prV (prZ 0) = Z := ⟨_, rfl⟩
        have HZ := Lib.hid hZ
        simp only [hZ] at HRes Hsz hb0 Ho0
        obtain ⟨PV, hPV⟩ : ∃ PV, prV (Pr.mk 4 X htN 0 0 0 ta t tc ((List.range t).map (tokX xN bN))) = PV := ⟨_, rfl⟩
        have HPV := Lib.hid hPV
        rw [hPV] at HRow Hsz2 Hone HFm
        clear hV hok hPA hFm hfar hPd hVV hF hZ hPV
        cases V with
        | false =>
          have hDf : D = false := by rw [HOk.out]; rfl
          subst hDf
          go_wp2_with (first | (refine HV.out.mono ?_; rintro e w9 ⟨rfl, rfl⟩) | (refine wpList_store_row rfl 32 _ _ rfl _ _ rfl rfl _ _ HRes.out (by rw [Hsz.out]; kernel_rfl) rfl Ho0.out ?_))
          refine bodyPost_ret (results_row_tmp rfl _ _ g0 _ _ _ _ rfl (setRow_heap _ g0 _ _ _ _ HRes.out) Try.underlying32 rfl (by rw [Hsz.out]; kernel_rfl)) rfl ?_
          refine ⟨⟨prZ 0, ?_, ?_, fun _ => rfl⟩, below_setRow HExt.out HL0.out _⟩
          · rw [HD.out, HZ.out]; rfl
          · intro h1
            rw [HD.out] at h1
            cases h1
        | true =>
          go_wp2_with fail
          refine HV.out.mono ?_
          rintro e w9 ⟨rfl, rfl⟩
          go_wp2_with (refine wpList_load_rowW rfl 32 _ rfl g rfl _ _ _ _ HRow.out Try.underlying32 rfl (by rw [Hsz2.out]; kernel_rfl) ?_)
          refine HFm.out.mono ?_
          rintro e wf ⟨rfl, hE⟩
          have HRow9 := Lib.hid (hE.keep HRow.out)
          have HRes9 := Lib.hid (hE.keep HRes.out)
          have HE9 := Lib.hid hE
          have HExt9 := Lib.hid (HExt.out.trans hE)
          clear hE HRow HRes HExt HFm HV
          cases F with
          | false =>
            have hDf : D = false := by rw [HOk.out]; rfl
            subst hDf
            go_wp2_with (refine wpList_store_row rfl 32 _ _ rfl _ _ rfl rfl _ _ HRes9.out (by rw [Hsz.out]; kernel_rfl) rfl Ho0.out ?_)
            refine bodyPost_ret (results_row_tmp rfl _ _ g0 _ _ _ _ rfl (setRow_heap _ g0 _ _ _ _ HRes9.out) Try.underlying32 rfl (by rw [Hsz.out]; kernel_rfl)) rfl ?_
            refine ⟨⟨prZ 0, ?_, ?_, fun _ => rfl⟩, below_setRow HExt9.out HL0.out _⟩
            · rw [HD.out, HZ.out]; rfl
            · intro h1
              rw [HD.out] at h1
              cases h1
          | true =>
            have hDt : D = true := by rw [HOk.out]; rfl
            subst hDt
            go_wp2_with (first | (refine wpList_load_rowW rfl 32 _ rfl g rfl _ _ _ _ HRow9.out Try.underlying32 rfl (by rw [Hsz2.out]; kernel_rfl) ?_) | (refine wpList_store_row rfl 32 _ _ rfl _ _ rfl rfl _ _ HRes9.out (by rw [Hsz2.out]; kernel_rfl) (by rw [Hsz2.out, Hsz.out]) Hone.out ?_))
            refine bodyPost_ret (results_row_tmp rfl _ _ g0 _ _ _ _ rfl (setRow_heap _ g0 _ _ _ _ HRes9.out) Try.underlying32 rfl (by rw [Hsz2.out]; kernel_rfl)) rfl ?_
            refine ⟨⟨(Pr.mk 4 X htN 0 0 0 ta t tc ((List.range t).map (tokX xN bN))), ?_, fun _ => ⟨HFar.out _ HE9.out _, _, _, _, _, _, _, by rw [HOf.out]; exact HPd.out⟩, fun h1 => ?_⟩, below_setRow HExt9.out HL0.out _⟩
            · rw [HD.out, HPV.out]; rfl
            · rw [HD.out] at h1
              cases h1
  have q1 : (V0 == 1) = false := beq_eq_false_iff_ne.2 k1
  have q2 : (V0 == 2) = false := beq_eq_false_iff_ne.2 k2
  have q3 : (V0 == 3) = false := beq_eq_false_iff_ne.2 k3
  have q4 : (V0 == 4) = false := beq_eq_false_iff_ne.2 k4
  have HRst := Lib.hid (show prRest b = (x0, b0) by unfold prRest; rw [He0.out]; simp only; rw [if_neg (by omega), if_neg k3, if_neg k4])
  have HO := Lib.hid (show O = prZ V0 by rw [← HOf.out]; unfold prOf; rw [He0.out]; simp only; rw [if_neg (by omega), if_neg k3, if_neg k4])
  have c0 : w4.cell? ⟨g, 0, none⟩ = some (.int .i64 V0) := HP.out.row.cell (i := 0) (by omega)
  have hV := over_any gI x0 b0 w4 HP.out.inn
  obtain ⟨V, hVV⟩ : ∃ V, (!b0 && decide (x0.length = 0)) = V := ⟨_, rfl⟩
  have hok : D = (V && prB O) := by
    rw [← HD.out]
    unfold prTk
    rw [HRst.out, HOf.out, ← hVV]
  rw [hVV] at hV
  have hPA : PrAt w4 (prZ V0) := HP.out.prAt (by show (-9223372036854775808 : Int) ≤ V0 ∧ (V0 : Int) ≤ _; omega) (by show (-9223372036854775808 : Int) ≤ 0 ∧ (0 : Int) ≤ _; omega) (by show (0 : Int) ≤ 0 ∧ (0 : Int) < _; omega) (by show (0 : Int) ≤ 0 ∧ (0 : Int) < _; omega) (fun t ht => by cases ht) (by show (0 : Nat) ≤ _; omega)
  have hFm := prFormed_any (prZ V0) w4 hPA
  have hfar : ∀ w', Ext w4 w' → ∀ cs, PrAt (w'.setRow g0 cs) (prZ V0) := fun w' hE cs => hPA.newRow cs hE (fun h0 k off e => (HP.out.af h0 k off e).2.2.1) (fun h0 k off e => (HP.out.bf h0 k off e).2.2.1) (fun h0 k off e => by
    have h1 := (HP.out.own.lt k (by show (Value.slice ((prZ V0)).wa _ _).ownBlock = some k; rw [e]; rfl)).1
    have h2 := HP.out.b0
    omega)
  have hPd : (prZ V0) = prAd O none 0 none 0 none 0 := by rw [HO.out]; rfl
  obtain ⟨F, hF⟩ : ∃ F, prB O = F := ⟨_, rfl⟩
  rw [show prB (prZ V0) = F by rw [hPd, prB_ad, hF]] at hFm
  rw [hF] at hok
  have HV := Lib.hid hV
  have HOk := Lib.hid hok
  have HFar := Lib.hid hfar
  have HPd := Lib.hid hPd
  have HRow := Lib.hid (show w4.heap[g]? = some (.cells (prV (prZ V0)) 32 (0, 0)) from rowIs_cells HP.out.row)
  have HRes := Lib.hid (show w4.heap[g0]? = some (.cells (prV (prZ 0)) 32 (0, 0)) from rowIs_cells HP.out.res)
  have HExt := Lib.hid HP.out.ext
  have HL0 := Lib.hid HNN.out.l0
  have Hsz := Lib.hid (prV_size (prZ 0))
  have Hsz2 := Lib.hid (prV_size (prZ V0))
  have Hone := Lib.hid (prV_one (prZ V0))
  have HFm := Lib.hid hFm
  have hb0 := zero_pr
  have Ho0 := Lib.hid (prV_one (prZ 0))
  obtain ⟨Z, hZ⟩ : ∃ Z, prV (prZ 0) = Z := ⟨_, rfl⟩
  have HZ := Lib.hid hZ
  simp only [hZ] at HRes Hsz hb0 Ho0
  obtain ⟨PV, hPV⟩ : ∃ PV, prV (prZ V0) = PV := ⟨_, rfl⟩
  have HPV := Lib.hid hPV
  rw [hPV] at HRow Hsz2 Hone HFm
  clear hV hok hPA hFm hfar hPd hVV hF hZ hPV
  cases V with
  | false =>
    have hDf : D = false := by rw [HOk.out]; rfl
    subst hDf
    go_wp2_with (first | (refine HV.out.mono ?_; rintro e w9 ⟨rfl, rfl⟩) | (refine wpList_store_row rfl 32 _ _ rfl _ _ rfl rfl _ _ HRes.out (by rw [Hsz.out]; kernel_rfl) rfl Ho0.out ?_))
    refine bodyPost_ret (results_row_tmp rfl _ _ g0 _ _ _ _ rfl (setRow_heap _ g0 _ _ _ _ HRes.out) Try.underlying32 rfl (by rw [Hsz.out]; kernel_rfl)) rfl ?_
    refine ⟨⟨prZ 0, ?_, ?_, fun _ => rfl⟩, below_setRow HExt.out HL0.out _⟩
    · rw [HD.out, HZ.out]; rfl
    · intro h1
      rw [HD.out] at h1
      cases h1
  | true =>
    go_wp2_with fail
    refine HV.out.mono ?_
    rintro e w9 ⟨rfl, rfl⟩
    go_wp2_with (refine wpList_load_rowW rfl 32 _ rfl g rfl _ _ _ _ HRow.out Try.underlying32 rfl (by rw [Hsz2.out]; kernel_rfl) ?_)
    refine HFm.out.mono ?_
    rintro e wf ⟨rfl, hE⟩
    have HRow9 := Lib.hid (hE.keep HRow.out)
    have HRes9 := Lib.hid (hE.keep HRes.out)
    have HE9 := Lib.hid hE
    have HExt9 := Lib.hid (HExt.out.trans hE)
    clear hE HRow HRes HExt HFm HV
    cases F with
    | false =>
      have hDf : D = false := by rw [HOk.out]; rfl
      subst hDf
      go_wp2_with (refine wpList_store_row rfl 32 _ _ rfl _ _ rfl rfl _ _ HRes9.out (by rw [Hsz.out]; kernel_rfl) rfl Ho0.out ?_)
      refine bodyPost_ret (results_row_tmp rfl _ _ g0 _ _ _ _ rfl (setRow_heap _ g0 _ _ _ _ HRes9.out) Try.underlying32 rfl (by rw [Hsz.out]; kernel_rfl)) rfl ?_
      refine ⟨⟨prZ 0, ?_, ?_, fun _ => rfl⟩, below_setRow HExt9.out HL0.out _⟩
      · rw [HD.out, HZ.out]; rfl
      · intro h1
        rw [HD.out] at h1
        cases h1
    | true =>
      have hDt : D = true := by rw [HOk.out]; rfl
      subst hDt
      go_wp2_with (first | (refine wpList_load_rowW rfl 32 _ rfl g rfl _ _ _ _ HRow9.out Try.underlying32 rfl (by rw [Hsz2.out]; kernel_rfl) ?_) | (refine wpList_store_row rfl 32 _ _ rfl _ _ rfl rfl _ _ HRes9.out (by rw [Hsz2.out]; kernel_rfl) (by rw [Hsz2.out, Hsz.out]) Hone.out ?_))
      refine bodyPost_ret (results_row_tmp rfl _ _ g0 _ _ _ _ rfl (setRow_heap _ g0 _ _ _ _ HRes9.out) Try.underlying32 rfl (by rw [Hsz2.out]; kernel_rfl)) rfl ?_
      refine ⟨⟨(prZ V0), ?_, fun _ => ⟨HFar.out _ HE9.out _, _, _, _, _, _, _, by rw [HOf.out]; exact HPd.out⟩, fun h1 => ?_⟩, below_setRow HExt9.out HL0.out _⟩
      · rw [HD.out, HPV.out]; rfl
      · rw [HD.out] at h1
        cases h1

end Go.Proofs.Ytdhbkjajhbfihaa
