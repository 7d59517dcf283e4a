/-
  The walk of jalousielaw19.FilterAll: it answers true. No conditions.
-/
import Derived.Test.YtldaligeckjhaaaFaP
namespace Go.Proofs.Ytldaligeckjhaaa
open Go.ChangeShapes Go.WideShapes Go.ChangeAt Go.RowKit

theorem shP_all (t : It) : shP true [] t = (t.al && t.kn) := by
  unfold shP showsB
  simp
theorem inS_nil (x : ByteArray) : inS [] x = false := rfl
theorem meetS_nil (ts : List ByteArray) : meetS ts [] = false := by
  unfold meetS
  rw [List.any_eq_false]
  intro t _
  rw [inS_nil]
  exact Bool.false_ne_true
theorem shP_none (l : List It) : l.filter (shP false []) = [] := by
  rw [List.filter_eq_nil_iff]
  intro t _
  unfold shP showsB
  rw [meetS_nil]
  simp
theorem sr_nil (w : World) : SrAt w none 0 0 [] := ⟨rfl, Nat.le_refl _, by omega, (fun s hs => by cases hs), (fun h => by omega)⟩
set_option maxRecDepth 100000 in
theorem build_flA (w : World) : (Instr.build 55 #[(0, .bool true)]).run Try.prog w = .ok (.agg (fltV true (.slice none 0 0))) w := by kernel_rfl
set_option maxRecDepth 100000 in
theorem build_flZ (w : World) : (Instr.build 55 #[]).run Try.prog w = .ok (.agg (fltV false (.slice none 0 0))) w := by kernel_rfl
theorem wp_build_flA {ops : Array Oper} {Q : Exit → Act → World → Prop} {rest : List Oper} {o : Oper} {a : Act} {w : World} (hw : Region.wanted o (yielded ops a.tmps) = true) (ho : o.op = .build 55 #[(0, .const (.bool true))]) (A : Array Value) (hA : fltV true (.slice none 0 0) = A)
    (h : wpList Try.prog ops Q rest (a.put o.dst (.agg A)) w) : wpList Try.prog ops Q (o :: rest) a w := by
  subst hA
  refine wpList_want hw fun K hK => ?_
  unfold Oper.wp execOp
  simp only [ho, List.map_toArray, List.map_cons, List.map_nil, Act.eval, Sem.run_bind, build_flA, Result.andThen_ok, Sem.run_pure]
  exact hK _ _ h
theorem wp_build_flZ {ops : Array Oper} {Q : Exit → Act → World → Prop} {rest : List Oper} {o : Oper} {a : Act} {w : World} (hw : Region.wanted o (yielded ops a.tmps) = true) (ho : o.op = .build 55 #[]) (A : Array Value) (hA : fltV false (.slice none 0 0) = A)
    (h : wpList Try.prog ops Q rest (a.put o.dst (.agg A)) w) : wpList Try.prog ops Q (o :: rest) a w := by
  subst hA
  refine wpList_want hw fun K hK => ?_
  unfold Oper.wp execOp
  simp only [ho, List.map_toArray, List.map_nil, Sem.run_bind, build_flZ, Result.andThen_ok, Sem.run_pure]
  exact hK _ _ h
/-- The filter for nothing shows nothing. -/
def NoneSays (w : World) (e : Ending) (w' : World) : Prop := ∃ a c, e = .returned (.slice a 0 c) ∧ Ext w w'
theorem shown_none (a : Option Addr) (n c : Nat) (l : List Rw) (w : World) (h : RwsAt w a n c l) (hs : n ≤ 100000) :
    Calls Try.prog 23 #[.agg (fltV false (.slice none 0 0)), .slice a n c] w (NoneSays w) := by
  refine (shown_any false none 0 0 [] a n c l w h hs (sr_nil w)).mono ?_
  rintro e w' ⟨v, its, rfl, hE, ho, _, _⟩
  rw [shP_none] at ho
  obtain ⟨b, d, rfl⟩ := own_itsl ho
  exact ⟨b, d, rfl, hE⟩

set_option maxHeartbeats 8000000 in
set_option maxRecDepth 100000 in
theorem lawFa_any (a : Option Addr) (n c : Nat) (l : List Rw) (w : World) (h : RwsAt w a n c l) :
    Calls Try.prog 7 #[.slice a n c] w fun e w' => e = .returned (.bool true) ∧ Ext w w' := by
  have hcap := h.cap
  have hlim := h.lim
  have H := Lib.hid h
  have HAw := Lib.hid (awake19_any w)
  clear h
  obtain ⟨FA, hFA⟩ : ∃ z, fltV true (.slice none 0 0) = z := ⟨_, rfl⟩
  obtain ⟨FZ, hFZ⟩ : ∃ z, fltV false (.slice none 0 0) = z := ⟨_, rfl⟩
  have HFA := Lib.hid hFA
  have HFZ := Lib.hid hFZ
  clear hFA hFZ
  go_enter Try.func7, Try.ntmps7
  go_wp2_with fail
  refine HAw.out.mono ?_
  rintro e w3 ⟨rfl, hE3⟩
  have HE3 := Lib.hid hE3
  have HFew := Lib.hid (fewR_any a n c l 30 w3 (H.out.ext hE3))
  clear hE3 HAw
  go_wp2_with fail
  refine HFew.out.mono ?_
  rintro e w4 ⟨R, rfl, hR, hE4⟩
  have HE4 := Lib.hid (HE3.out.trans hE4)
  have HRn := Lib.hid hR
  clear hE4 hR HFew HE3
  have HA4 := Lib.hid (awake19_any w4)
  cases R with
  | false =>
    go_wp2_with fail
    refine HA4.out.mono ?_
    rintro e w5 ⟨rfl, hE5⟩
    go_wp2
    go_ret
    exact ⟨rfl, HE4.out.trans hE5⟩
  | true =>
    have hn : n ≤ 30 := by
      have := HRn.out rfl
      omega
    clear HRn HA4
    have HSh := shown_any true none 0 0 [] a n c l w4 (H.out.ext HE4.out) (by omega) (sr_nil w4)
    rw [HFA.out] at HSh
    have HSh := Lib.hid HSh
    go_upto_region 3 with (fail)
    go_upto_region 4 with (first | (refine wp_build_flA rfl rfl FA HFA.out ?_) | (go_at_call 23; refine HSh.out.mono ?_; rintro e y1 ⟨gv, ys, rfl, hE, ho, hat, hfi⟩; obtain ⟨ga, gc, hgv⟩ := own_itsl ho; subst hgv; have HE1 := Lib.hid hE; have HOg := Lib.hid ho; have HAy := Lib.hid hat; have HFy := Lib.hid hfi; clear hE ho hat hfi))
    have HFo := Lib.hid (fold_any a n c l y1 (H.out.ext (HE4.out.trans HE1.out)) (by omega))
    obtain ⟨gs, hgs⟩ : ∃ z, ys.filter (shP true []) = z := ⟨_, rfl⟩
    have Hgs := Lib.hid hgs
    rw [hgs] at HOg ⊢
    obtain ⟨N, hN⟩ : ∃ z, gs.length = z := ⟨_, rfl⟩
    have HN := Lib.hid hN
    rw [hN] at HOg ⊢
    clear hgs hN HSh
    go_upto_region 5 with (first | (go_at_call 21; refine HFo.out.mono ?_; rintro e y2 ⟨vx, xs, rfl, hE, ho, hat, hfi⟩; obtain ⟨xa, xc, hvx⟩ := own_itsl ho; subst hvx; have HE2 := Lib.hid hE; have HOx := Lib.hid (own_its ho); have HAx := Lib.hid hat; have HFx := Lib.hid hfi; clear hE ho hat hfi))
    have HOg2 := Lib.hid (own_its (own_extM HOg.out HE2.out))
    have HAy2 := Lib.hid (show ∀ t ∈ ys, ItAt y2 t from fun t ht => (HAy.out t ht).ext HE2.out)
    have HSame := Lib.hid (HFy.out.same HFx.out)
    have HPair := Lib.hid (HFx.out.pair HFy.out)
    obtain ⟨m, hm⟩ : ∃ z, xs.length = z := ⟨_, rfl⟩
    have HXl := Lib.hid hm
    have HYl := Lib.hid (show ys.length = m by rw [HSame.out.1, hm])
    have HEw := Lib.hid (HE4.out.trans (HE1.out.trans HE2.out))
    rw [hm] at HOx ⊢
    have hmx := HOx.out.1
    have hNx := HOg2.out.1
    have HNm := Lib.hid (show cntI (shP true []) ys m = N by rw [← HYl.out, cntI_all, Hgs.out, HN.out])
    clear hm HFo HOg
    go_wp2_with fail
    go_loopw [5, 6] (fun v i y => ∃ (j kk : Nat), j ≤ m ∧ cntI (shP true []) ys j = kk ∧ v = .int .i64 (kk : Int) ∧ i = .int .i64 (j : Int) ∧ Ext y2 y) (fun _ i _ => m - (intOf i).toNat)
    case atStart => exact ⟨0, 0, by omega, cntI_zero _ _, rfl, rfl, Ext.refl _⟩
    case round =>
      obtain ⟨j, kk, hj, hkk, rfl, rfl, hE⟩ := hrel
      rename World => z
      have HEz := Lib.hid hE
      have Hkk := Lib.hid hkk
      have hkj : kk ≤ j := by rw [← hkk]; exact cntI_le _ _ _
      clear hE hkk
      by_cases hjm : j < m
      · have x2 : (j : Int) < (m : Int) := by omega
        obtain ⟨g2, e2, hx2⟩ := HOx.out.2 (by omega)
        subst e2
        have hx2' := hx2 j hjm
        have hpr := HPair.out j (by rw [HXl.out]; exact hjm)
        obtain ⟨q, hq⟩ : ∃ r, xs.getD j itN = r := ⟨_, rfl⟩
        obtain ⟨p, hp⟩ : ∃ r, ys.getD j itN = r := ⟨_, rfl⟩
        have Hp := Lib.hid (show itAt ys j = p from hp)
        rw [show itAt ys j = p from hp, show itAt xs j = q from hq] at hpr
        rw [hq] at hx2'
        have HV := Lib.hid (show ∀ B, SmR p q (bytesL p.hd.1 p.hd.2) (bytesL q.hd.1 q.hd.2) B → B = true from by
          rw [← hp, ← hq]
          exact HSame.out.2 j (by rw [HYl.out]; exact hjm))
        have HAp := Lib.hid (show ItAt y2 p by
          rw [← hp, List.getD_eq_getElem?_getD, List.getElem?_eq_getElem (by rw [HYl.out]; exact hjm)]
          exact HAy2.out _ (List.getElem_mem _))
        have HAq := Lib.hid (show ItAt y2 q by
          rw [← hq, List.getD_eq_getElem?_getD, List.getElem?_eq_getElem (by rw [HXl.out]; exact hjm)]
          exact HAx.out _ (List.getElem_mem _))
        have HX2 := Lib.hid (show ∀ u, Ext y2 u → u.rangeAt g2 (0 + j * 146) (itL q) from fun u hu i v hv => by
          have h1 := hx2' i v hv
          rw [Nat.zero_add, hu.cell (World.block_lt_of_cell? _ _ h1)]
          exact h1)
        have hPp : shP true [] p = (q.al && q.kn) := by rw [shP_all, hpr.1, hpr.2.1]
        have hcl : z.cell? ⟨g2, j * 146 + 142, none⟩ = some (.bool q.al) := by
          have h1 := HX2.out z HEz.out 142 (itC q 142) (itL_get q 142 (by omega))
          rw [Nat.zero_add] at h1
          exact h1
        have hck : z.cell? ⟨g2, j * 146 + 141, none⟩ = some (.bool q.kn) := by
          have h1 := HX2.out z HEz.out 141 (itC q 141) (itL_get q 141 (by omega))
          rw [Nat.zero_add] at h1
          exact h1
        obtain ⟨PV, hPV⟩ : ∃ q, itV p = q := ⟨_, rfl⟩
        obtain ⟨QV, hQV⟩ : ∃ r, itV q = r := ⟨_, rfl⟩
        have HPa := Lib.hid (show (itL p).toArray = PV by rw [itL_arr, hPV])
        have HQa := Lib.hid (show (itL q).toArray = QV by rw [itL_arr, hQV])
        have HSm := Lib.hid (show ∀ u, Ext y2 u → Calls Try.prog 18 #[.agg PV, .agg QV] u fun e w' => e = .returned (.bool true) ∧ Ext u w' from fun u hu => by
          have h := refSameW_any p q u (HAp.out.ext hu) (HAq.out.ext hu)
          rw [hPV, hQV] at h
          refine h.mono ?_
          rintro e w' ⟨B, rfl, hE, hB⟩
          exact ⟨by rw [HV.out B hB], hE⟩)
        obtain ⟨ql, hql⟩ : ∃ r, q.al = r := ⟨_, rfl⟩
        obtain ⟨qk, hqk⟩ : ∃ r, q.kn = r := ⟨_, rfl⟩
        rw [hql, hqk] at hPp
        rw [hql] at hcl
        rw [hqk] at hck
        have HPp := Lib.hid hPp
        clear hx2 hx2' hp hq hPV hQV hpr hPp hql hqk
        have HNo := Lib.hid (show (ql && qk) = false → cntI (shP true []) ys (j + 1) = kk from fun e => by rw [cntI_no (by rw [HYl.out]; exact hjm) (by rw [Hp.out, HPp.out, e]), Hkk.out])
        have HYs := Lib.hid (show (ql && qk) = true → cntI (shP true []) ys (j + 1) = kk + 1 ∧ kk < N ∧ itAt gs kk = p from fun e => by
          have hpt : shP true [] (itAt ys j) = true := by rw [Hp.out, HPp.out, e]
          have h1 := cntI_at (by rw [HYl.out]; exact hjm) hpt
          rw [Hkk.out, Hgs.out, HN.out, Hp.out] at h1
          exact ⟨by rw [cntI_yes (by rw [HYl.out]; exact hjm) hpt, Hkk.out], h1⟩)
        go_upto_if 23 with (fail)
        cases ql with
        | false =>
          go_wp2_with (first | (refine wp_iidx rfl _ _ rfl g2 0 m xc j rfl (by first | rfl | simp [Act.eval]) hjm ?_))
          go_roundw
          case rel => exact ⟨j + 1, kk, by omega, HNo.out rfl, rfl, by go_num, HEz.out⟩
          case measure => simp [intOf]; omega
        | true =>
          cases qk with
          | false =>
            go_wp2_with (first | (refine wp_iidx rfl _ _ rfl g2 0 m xc j rfl (by first | rfl | simp [Act.eval]) hjm ?_))
            go_roundw
            case rel => exact ⟨j + 1, kk, by omega, HNo.out rfl, rfl, by go_num, HEz.out⟩
            case measure => simp [intOf]; omega
          | true =>
            obtain ⟨hk1, hk2, hk3⟩ := HYs.out rfl
            have Hk1 := Lib.hid hk1
            obtain ⟨g1, e1, hx1⟩ := HOg2.out.2 (by omega)
            subst e1
            have hx1' := hx1 kk hk2
            rw [show gs.getD kk itN = p from hk3] at hx1'
            have HX1 := Lib.hid (show ∀ u, Ext y2 u → u.rangeAt g1 (0 + kk * 146) (itL p) from fun u hu i v hv => by
              have h1 := hx1' i v hv
              rw [Nat.zero_add, hu.cell (World.block_lt_of_cell? _ _ h1)]
              exact h1)
            have x3 : ¬ (N : Int) ≤ (kk : Int) := by omega
            clear hk1 hk3 hx1 hx1' HNo HYs
            go_upto_region 10 with (first | (refine wp_iidx rfl _ _ rfl g2 0 m xc j rfl (by first | rfl | simp [Act.eval]) hjm ?_))
            have HY := Lib.hid (show ∀ u, Ext z.drew u → Ext y2 u from fun u hu => HEz.out.trans (Ext.trans (Ext.refl z).drew hu))
            refine wp_region_lexA (by kernel_rfl) (by kernel_rfl) ?_
            refine lx_e (.int .i64 (kk : Int)) [] (by kernel_rfl) rfl (by rfl) (fun w1 hw1 => ?_) ?_
            · simp only [pk, lexVals]
              go_simp
              exact ⟨Ext.refl _, rfl⟩
            refine lx_e (.slice (some ⟨g1, 0, none⟩) N gc) [] (by kernel_rfl) rfl (by rfl) (fun w1 hw1 => ?_) ?_
            · simp only [pk, lexVals]
              go_simp
              exact ⟨Ext.refl _, rfl⟩
            refine lx_e (.int .i64 (N : Int)) [(0, 39)] (by kernel_rfl) rfl (by rfl) (fun w1 hw1 => ?_) ?_
            · simp only [pk, nthSp, lexVals]
              go_simp
              exact ⟨Ext.refl _, rfl⟩
            refine lx_e (.bool false) [(2, 38), (0, 40)] (by kernel_rfl) rfl (by rfl) (fun w1 hw1 => ?_) ?_
            · simp only [pk, nthSp, lexVals]
              clear hw1
              go_simp
              exact ⟨Ext.refl _, by first | rfl | simp | (simp; omega)⟩
            refine lx_e (.bool false) [(0, 41)] (by kernel_rfl) rfl (by rfl) (fun w1 hw1 => ?_) ?_
            · simp only [pk, nthSp, lexVals]
              go_simp
              exact ⟨Ext.refl _, rfl⟩
            refine lx_ge (.slice (some ⟨g1, 0, none⟩) N gc) [(0, 42)] 42 (by kernel_rfl) rfl (by kernel_rfl) (by rfl) (fun w1 => ?_) (fun w1 hw1 => ?_) ?_
            · simp only [pk, nthSp, lexVals]
              rfl
            · simp only [pk, nthSp, lexVals]
              go_simp
              exact ⟨Ext.refl _, rfl⟩
            refine lx_ge (.int .i64 (kk : Int)) [(1, 42)] 42 (by kernel_rfl) rfl (by kernel_rfl) (by rfl) (fun w1 => ?_) (fun w1 hw1 => ?_) ?_
            · simp only [pk, nthSp, lexVals]
              rfl
            · simp only [pk, nthSp, lexVals]
              go_simp
              exact ⟨Ext.refl _, rfl⟩
            refine lx_ge (.pointer (some ⟨g1, 0 + kk * 146, none⟩)) [(1, 43), (0, 44), (2, 42)] 42 (by kernel_rfl) rfl (by kernel_rfl) (by rfl) (fun w1 => ?_) (fun w1 hw1 => ?_) ?_
            · simp only [pk, nthSp, lexVals]
              rfl
            · simp only [pk, nthSp, lexVals]
              exact lu_iidx rfl rfl rfl hk2
            refine lx_ge (.agg PV) [(0, 45), (3, 42)] 42 (by kernel_rfl) rfl (by kernel_rfl) (by rfl) (fun w1 => ?_) (fun w1 hw1 => ?_) ?_
            · simp only [pk, nthSp, lexVals]
              rfl
            · simp only [pk, nthSp, lexVals]
              exact lu_mid rfl rfl (itL p) (HX1.out w1 (HY.out w1 hw1)) Try.underlying41 rfl (by rw [itL_length]; kernel_rfl) PV HPa.out
            refine lx_ge (.slice (some ⟨g2, 0, none⟩) m xc) [(4, 42)] 42 (by kernel_rfl) rfl (by kernel_rfl) (by rfl) (fun w1 => ?_) (fun w1 hw1 => ?_) ?_
            · simp only [pk, nthSp, lexVals]
              rfl
            · simp only [pk, nthSp, lexVals]
              go_simp
              exact ⟨Ext.refl _, rfl⟩
            refine lx_ge (.int .i64 (j : Int)) [(5, 42)] 42 (by kernel_rfl) rfl (by kernel_rfl) (by rfl) (fun w1 => ?_) (fun w1 hw1 => ?_) ?_
            · simp only [pk, nthSp, lexVals]
              rfl
            · simp only [pk, nthSp, lexVals]
              go_simp
              exact ⟨Ext.refl _, rfl⟩
            refine lx_ge (.pointer (some ⟨g2, 0 + j * 146, none⟩)) [(1, 47), (0, 48), (6, 42)] 42 (by kernel_rfl) rfl (by kernel_rfl) (by rfl) (fun w1 => ?_) (fun w1 hw1 => ?_) ?_
            · simp only [pk, nthSp, lexVals]
              rfl
            · simp only [pk, nthSp, lexVals]
              exact lu_iidx rfl rfl rfl hjm
            refine lx_ge (.agg QV) [(0, 49), (7, 42)] 42 (by kernel_rfl) rfl (by kernel_rfl) (by rfl) (fun w1 => ?_) (fun w1 hw1 => ?_) ?_
            · simp only [pk, nthSp, lexVals]
              rfl
            · simp only [pk, nthSp, lexVals]
              exact lu_mid rfl rfl (itL q) (HX2.out w1 (HY.out w1 hw1)) Try.underlying41 rfl (by rw [itL_length]; kernel_rfl) QV HQa.out
            refine lx_ge (.bool true) [(4, 46), (0, 50), (8, 42)] 42 (by kernel_rfl) rfl (by kernel_rfl) (by rfl) (fun w1 => ?_) (fun w1 hw1 => ?_) ?_
            · simp only [pk, nthSp, lexVals]
              rfl
            · simp only [pk, nthSp, lexVals]
              have HM := Lib.hid (HSm.out w1 (HY.out w1 hw1))
              clear hw1
              go_simp
              refine HM.out.mono ?_
              rintro e w2 ⟨rfl, hE2⟩
              exact ⟨_, rfl, hE2, rfl⟩
            refine lx_ge (.bool false) [(0, 51), (9, 42)] 42 (by kernel_rfl) rfl (by kernel_rfl) (by rfl) (fun w1 => ?_) (fun w1 hw1 => ?_) ?_
            · simp only [pk, nthSp, lexVals]
              rfl
            · simp only [pk, nthSp, lexVals]
              clear hw1
              go_simp
              exact ⟨Ext.refl _, by first | rfl | simp | (simp; omega)⟩
            refine lx_e (.bool false) [(10, 42), (0, 52)] (by kernel_rfl) rfl (by rfl) (fun w1 hw1 => ?_) ?_
            · simp only [pk, nthSp, lexVals]
              go_simp
              exact ⟨Ext.refl _, rfl⟩
            refine lx_stopA (by rfl) fun z3 hz3 => ?_
            have HE3 := Lib.hid (HY.out z3 hz3)
            clear hz3
            simp only [rv, pf, lexVals]
            simp only [Act.put, List.setIfInBounds_toArray, List.set_cons_zero, List.set_cons_succ]
            go_wp2
            go_roundw
            case rel => exact ⟨j + 1, kk + 1, by omega, Hk1.out, by go_num, by go_num, HE3.out⟩
            case measure => simp [intOf]; omega
      · obtain rfl : j = m := by omega
        have x2 : ¬ (j : Int) < (j : Int) := by omega
        obtain rfl : kk = N := by rw [← Hkk.out, HNm.out]
        have HNo := shown_none a n c l z (H.out.ext (HEw.out.trans HEz.out)) (by omega)
        rw [HFZ.out] at HNo
        have HNo := Lib.hid HNo
        go_wp2_with (first | (refine wp_build_flZ rfl rfl FZ HFZ.out ?_) | (go_at_call 23; refine HNo.out.mono ?_; rintro e z5 ⟨na, nc, rfl, hE5⟩; have HE5 := Lib.hid hE5; clear hE5))
        go_ret
        exact ⟨rfl, HEw.out.trans (HEz.out.trans HE5.out)⟩

end Go.Proofs.Ytldaligeckjhaaa
