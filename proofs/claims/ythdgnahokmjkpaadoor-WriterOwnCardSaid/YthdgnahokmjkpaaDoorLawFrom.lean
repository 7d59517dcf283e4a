/-
  The walk of jalousielaw13.WriterFrom: it answers true. Asked: the tables lie as the text lays them.
-/
import Derived.Test.YthdgnahokmjkpaaDoorFrom
import Derived.Test.YthdgnahokmjkpaaDoorFrom
namespace Go.Proofs.YthdgnahokmjkpaaDoor
open Go.ChangeShapes Go.WideShapes Go.ChangeAt Go.RowKit

theorem range_ext {w w1 : World} {b off : Nat} {l : List Value} (h : w.rangeAt b off l) (he : Ext w w1) : w1.rangeAt b off l := fun j v hv => by
  have h2 := h j v hv
  rw [Ext.cell he (World.block_lt_of_cell? w _ h2)]
  exact h2
/-- What From gathered may stand in memory. -/
theorem FrAt.hs {w wr : World} {l : List HT} {q : Nat} {lo : List HT} {ao : Option Addr} {co : Nat} (h : FrAt w wr l q lo ao co) (he : ∀ x ∈ l, HtAt w x) (hq : lo.length = 0 ∨ q + lo.length ≤ l.length ∧ l.length ≤ 90000) (ht : ∀ x ∈ l, x.1.tn ≤ 1000000) : HsAt wr ao lo.length co lo := by
  refine own_hs h.own (fun x hx => ?_) (by rcases hq with q | q <;> omega)
  obtain ⟨i, hi, rfl⟩ := List.getElem_of_mem hx
  have hl : q + i < l.length := by rcases hq with q | q <;> omega
  have hm : l.getD (q + i) htN ∈ l := by
    rw [List.getD_eq_getElem?_getD, List.getElem?_eq_getElem hl]
    exact List.getElem_mem _
  obtain ⟨ta, tc, h1, h2, _⟩ := h.each i hi
  rw [List.getD_eq_getElem?_getD, List.getElem?_eq_getElem hi] at h1
  have h1' : lo[i] = reT (l.getD (q + i) htN) ta tc := h1
  rw [h1']
  exact reT_at (he _ hm).ok (he _ hm).toks.byte (ht _ hm) h2

set_option maxHeartbeats 8000000 in
set_option maxRecDepth 100000 in
theorem lawFrom_any (a : Option Addr) (n c : Nat) (l : List HT) (s most : Int) (w : World) (h : HsAt w a n c l) (hs0 : 0 ≤ s ∧ s < 18446744073709551616) (_hm : -9223372036854775808 ≤ most ∧ most ≤ 9223372036854775807) (hk : KsAt 1 w) (hk2 : KsAt 0 w) :
    Calls Tryd.prog 7 #[.slice a n c, .int .u64 s, .int .i64 most] w fun e w' => e = .returned (.bool true) ∧ Ext w w' := by
  have hg0 : 1 < w.heap.size := World.block_lt_of_cell? w _ (hk 0 (by omega))
  have H := Lib.hid h
  have HK := Lib.hid hk
  have HK2 := Lib.hid hk2
  have Hg0 := Lib.hid hg0
  have kne := neq_h
  clear h hk hk2 hg0
  go_enter Tryd.func7, Tryd.ntmps7
  go_wp2_with fail
  refine (awake13_any w HK.out).mono ?_
  rintro e w1 ⟨rfl, hE⟩
  have HE1 := Lib.hid hE
  clear hE
  go_wp2_with fail
  refine (few13_any a n c l 25 w1 (H.out.ext HE1.out)).mono ?_
  rintro e w2 ⟨v, rfl, ⟨b, rfl, hb⟩, hE⟩
  have HE2 := Lib.hid (HE1.out.trans hE)
  have Hb := Lib.hid hb
  clear hE hb
  cases b with
  | false =>
    go_wp2_with fail
    refine (awake13_any w2 (hdKs_ext HK.out HE2.out)).mono ?_
    rintro e w3 ⟨rfl, hE⟩
    have HE3 := Lib.hid (HE2.out.trans hE)
    clear hE
    go_wp2
    go_ret
    exact ⟨rfl, HE3.out⟩
  | true =>
    obtain ⟨hn, htn⟩ := Hb.out rfl
    have Htn := Lib.hid htn
    have hn25 : n ≤ 25 := by omega
    clear hn htn Hb
    go_wp2_with fail
    refine (new_any 2 w2).mono ?_
    rintro e w3 ⟨g, rfl, hC, hE⟩
    obtain ⟨B, hB⟩ : ∃ B, w2.heap.size = B := ⟨_, rfl⟩
    rw [hB] at hC
    have HW := Lib.hid (WSt.begin hC (HE2.out.trans hE) (by rw [← hB]; exact Below.size HE2.out) (by rw [← hB]; exact Below.size hE))
    have HwB := Lib.hid (show w.heap.size ≤ B by rw [← hB]; exact Below.size HE2.out)
    clear hC hE hB
    go_wp2
    go_loopw [8, 9] (fun v i wr => ∃ (k : Nat) (lc lh : List HT) (ac : Option Addr) (cc : Nat) (ah : Option Addr) (ch : Nat), k ≤ n ∧ i = .int .i64 (k : Int) ∧ v = .slice ah lh.length ch ∧ lh.length ≤ k ∧ WSt w wr B g 2 lc lh ac cc ah ch ∧ LkS 2 lh) (fun _ i _ => n - (intOf i).toNat)
    case atStart => exact ⟨0, [], [], none, 0, none, 0, Nat.zero_le _, rfl, rfl, Nat.le_refl _, HW.out, LkS.nil 2⟩
    case round =>
      obtain ⟨k, lc, lh, ac, cc, ah, ch, hk, rfl, rfl, hlk, hst, hLk⟩ := hrel
      have HLk := Lib.hid hLk
      have HS := Lib.hid hst
      have HE := Lib.hid hst.ext
      obtain ⟨N, hN⟩ : ∃ N, lh.length = N := ⟨_, rfl⟩
      have HN := Lib.hid hN
      rw [hN] at hlk ⊢
      clear hst HW hN hLk
      by_cases hlt : k < n
      case neg =>
        obtain rfl : k = n := by omega
        have x1 : ¬ (k : Int) < (k : Int) := by omega
        have HSl := Lib.hid (show lc.length ≤ 90000 by have := HS.out.len; have := HN.out; omega)
        have HFr := Lib.hid (from_any HS.out.chn HSl.out HS.out.tnc s most hs0.1 hs0.2)
        have HNk := Lib.hid hlk
        go_wp2_with fail
        refine HFr.out.mono ?_
        rintro e w4 ⟨lo, ao, co, rfl, hfr, hb1, hb2, hb3⟩
        have HS4 := Lib.hid (HS.out.more hfr.ext)
        have HE4 := Lib.hid HS4.out.ext
        rw [HS.out.len, HN.out] at hb1 hb2
        have hG := hfr.hs (fun x hx => HS.out.chn.each x hx) (by rw [HS.out.len, HN.out]; omega) HS.out.tnc
        have hV4 := HS4.out.hs (by have := HN.out; omega)
        rw [HN.out] at hV4
        have HLn := Lib.hid (show lkFrom lo lo.length 0 = true from by
          by_cases h0 : lo.length = 0
          · rw [h0]; exact lkFrom_end lo 0
          refine HLk.out.run (q := (max s 1).toNat - 1) (by rw [HN.out]; omega) (by rw [HN.out]; omega) (fun x hx => (HS.out.src x hx).toks.len) (fun x hx => (hG.each x hx).toks.len) (fun i hi => ?_)
          obtain ⟨ta, tc, h1, _⟩ := hfr.each i hi
          rw [h1]
          exact (reT_eq _ ta tc).trans (HS.out.eq _ (by rw [HS.out.len, HN.out]; omega)))
        have HEq := Lib.hid (show ∀ j, j < lo.length → HdEq (lo.getD j htN).1 (lh.getD ((max s 1).toNat - 1 + j) htN).1 (lo.getD j htN).2 (lh.getD ((max s 1).toNat - 1 + j) htN).2 from fun i hi => by
          obtain ⟨ta, tc, h1, _⟩ := hfr.each i hi
          rw [h1]
          exact (reT_eq _ ta tc).trans (HS.out.eq _ (by rw [HS.out.len, HN.out]; omega)))
        obtain ⟨M, hM⟩ : ∃ M, lo.length = M := ⟨_, rfl⟩
        rw [hM] at hb1 hb2 hb3 hG HLn HEq ⊢
        have HG := Lib.hid hG
        have HV4 := Lib.hid hV4
        have HM := Lib.hid hM
        have HMs := Lib.hid (show M ≤ 100 by omega)
        -- where it begins
        obtain ⟨u, hu⟩ : ∃ u, min s 1000 = u := ⟨_, rfl⟩
        have wU : IntKind.i64.wrap u = u := by rw [IntKind.wrap_i64]; omega
        obtain ⟨T, hT⟩ : ∃ T, max u 1 = T := ⟨_, rfl⟩
        obtain ⟨q, hq⟩ : ∃ q : Nat, T = (q : Int) + 1 := ⟨(T - 1).toNat, by omega⟩
        have HB1 := Lib.hid (show q + M ≤ N ∨ M = 0 by omega)
        have HB2 := Lib.hid (show N ≤ q + M ∨ most ≤ (M : Int) by omega)
        have HB3 := Lib.hid (show (M : Int) ≤ most ∨ M = 0 by omega)
        have HQ := Lib.hid (show q < N → (max s 1).toNat - 1 = q by omega)
        have HQ1 := Lib.hid (show q ≤ 1000 by omega)
        have HU := Lib.hid hu
        rw [hq] at hT
        clear hfr hb1 hb2 hb3 hG hV4 hq HFr hM HS HN HLk
        go_wp2
        go_loopw [13, 14] (fun nv kv wr2 => ∃ j : Nat, j ≤ M ∧ nv = .int .i64 (j : Int) ∧ kv = .int .i64 (((q + j : Nat) : Int) + 1) ∧ Ext w4 wr2) (fun nv _ _ => M + 1 - (intOf nv).toNat)
        case atStart => exact ⟨0, Nat.zero_le _, rfl, by first | rfl | (simp; done) | (simp [hT]; done), Ext.refl _⟩
        case round =>
          obtain ⟨j, hj, rfl, rfl, hE⟩ := hrel
          have HE := Lib.hid hE
          clear hE hT wU hu
          obtain ⟨m, hm⟩ : ∃ m, q + j = m := ⟨_, rfl⟩
          rw [hm]
          have HMm := Lib.hid hm
          clear hm
          by_cases hkN : m < N
          case neg =>
            obtain rfl : j = M := by have := HB1.out; have := HB3.out; have := HMm.out; omega
            have x1 : ¬ (m : Int) + 1 ≤ (N : Int) := by omega
            have HLi := Lib.hid (linked_any ao j co lo wr (HG.out.ext HE.out) (hdKs_ext HK.out (HE4.out.trans HE.out)))
            rw [HLn.out] at HLi
            clear HEq HG HV4
            go_wp2_with fail
            refine HLi.out.mono ?_
            rintro e w7 ⟨rfl, hE⟩
            have HE7 := Lib.hid ((HE4.out.trans HE.out).trans hE)
            clear hE HLi
            go_wp2
            go_ret
            exact ⟨rfl, HE7.out⟩
          by_cases hmo : (j : Int) < most
          case neg =>
            obtain rfl : j = M := by have := HB1.out; have := HB3.out; have := HMm.out; omega
            have x1 : (m : Int) + 1 ≤ (N : Int) := by omega
            have x2 : ¬ (j : Int) < most := hmo
            have HLi := Lib.hid (linked_any ao j co lo wr (HG.out.ext HE.out) (hdKs_ext HK.out (HE4.out.trans HE.out)))
            rw [HLn.out] at HLi
            clear HEq HG HV4
            go_wp2_with fail
            refine HLi.out.mono ?_
            rintro e w7 ⟨rfl, hE⟩
            have HE7 := Lib.hid ((HE4.out.trans HE.out).trans hE)
            clear hE HLi
            go_wp2
            go_ret
            exact ⟨rfl, HE7.out⟩
          have x1 : (m : Int) + 1 ≤ (N : Int) := by omega
          have x2 : (j : Int) < most := hmo
          have hjM : j < M := by have := HB2.out; have := HMm.out; omega
          have x3 : ¬ (M : Int) ≤ (j : Int) := by omega
          have wS : IntKind.i64.wrap (m : Int) = (m : Int) := by rw [IntKind.wrap_i64]; have := HMm.out; have := HQ1.out; omega
          obtain ⟨b2, off2, rfl, hr2⟩ := HG.out.range j hjM
          obtain ⟨b3, off3, rfl, hr3⟩ := HV4.out.range m hkN
          have heq := HEq.out j hjM
          rw [HQ.out (by have := HMm.out; omega), HMm.out] at heq
          have HXt := Lib.hid (HG.out.get j hjM)
          have HYt := Lib.hid (HV4.out.get m hkN)
          obtain ⟨X, hX⟩ : ∃ X, lo.getD j htN = X := ⟨_, rfl⟩
          obtain ⟨Y, hY⟩ : ∃ Y, lh.getD m htN = Y := ⟨_, rfl⟩
          rw [hX] at hr2 heq HXt
          rw [hY] at hr3 heq HYt
          have HXr := Lib.hid (fun w1 (h1 : Ext wr w1) => range_ext hr2 (HE.out.trans h1))
          have HYr := Lib.hid (fun w1 (h1 : Ext wr w1) => range_ext hr3 (HE.out.trans h1))
          have hsm : sameB X.1 Y.1 X.2 Y.2 = true := (sameB_iff HXt.out.toks.len HYt.out.toks.len).2 heq
          have HSm := Lib.hid (fun w1 (h1 : Ext wr w1) => sameHd_any X.1 Y.1 X.2 Y.2 w1 ((HXt.out.ext (HE.out.trans h1)).toks) ((HYt.out.ext (HE.out.trans h1)).toks))
          rw [hsm] at HSm
          obtain ⟨A, hA⟩ : ∃ A, hdV X.1 = A := ⟨_, rfl⟩
          obtain ⟨C, hC⟩ : ∃ C, hdV Y.1 = C := ⟨_, rfl⟩
          have HAe := Lib.hid hA
          have HCe := Lib.hid hC
          rw [hA, hC] at HSm
          have Hj := Lib.hid hjM
          have Hm := Lib.hid hkN
          clear heq hX hY hr2 hr3 hsm hA hC HXt HYt hjM
          go_upto_region 17 with (fail)
          have HX0 := Lib.hid (show ∀ x, Ext wr.drew x → Ext wr x from fun x hx => Ext.trans (Ext.refl wr).drew hx)
          have HX1 := Lib.hid (show ∀ x, Ext wr.drew x → Ext wr x from fun x hx => HX0.out x hx)
          refine wp_region_lexA (by kernel_rfl) (by kernel_rfl) ?_
          refine lx_e (.int .i64 (j : Int)) [] (by kernel_rfl) rfl (by rfl) (fun w1 hw1 => ?_) ?_
          · simp only [pk, lexVals]
            go_simp
            exact ⟨Ext.refl _, rfl⟩
          refine lx_e (.slice (some ⟨b2, off2, none⟩) M co) [] (by kernel_rfl) rfl (by rfl) (fun w1 hw1 => ?_) ?_
          · simp only [pk, lexVals]
            go_simp
            exact ⟨Ext.refl _, rfl⟩
          refine lx_e (.int .i64 (M : Int)) [(0, 65)] (by kernel_rfl) rfl (by rfl) (fun w1 hw1 => ?_) ?_
          · simp only [pk, nthSp, lexVals]
            go_simp
            exact ⟨Ext.refl _, rfl⟩
          refine lx_e (.bool false) [(2, 64), (0, 66)] (by kernel_rfl) rfl (by rfl) (fun w1 hw1 => ?_) ?_
          · simp only [pk, nthSp, lexVals]
            go_simp
            exact ⟨Ext.refl _, rfl⟩
          refine lx_e (.bool false) [(0, 67)] (by kernel_rfl) rfl (by rfl) (fun w1 hw1 => ?_) ?_
          · simp only [pk, nthSp, lexVals]
            go_simp
            exact ⟨Ext.refl _, rfl⟩
          refine lx_ge (.slice (some ⟨b2, off2, none⟩) M co) [(0, 68)] 68 (by kernel_rfl) rfl (by kernel_rfl) (by rfl) (fun w1 => ?_) (fun w1 hw1 => ?_) ?_
          · simp only [pk, nthSp, lexVals]
            rfl
          · simp only [pk, nthSp, lexVals]
            go_simp
            exact ⟨Ext.refl _, rfl⟩
          refine lx_ge (.int .i64 (j : Int)) [(1, 68)] 68 (by kernel_rfl) rfl (by kernel_rfl) (by rfl) (fun w1 => ?_) (fun w1 hw1 => ?_) ?_
          · simp only [pk, nthSp, lexVals]
            rfl
          · simp only [pk, nthSp, lexVals]
            go_simp
            exact ⟨Ext.refl _, rfl⟩
          refine lx_ge (.pointer (some ⟨b2, off2 + j * 125, none⟩)) [(1, 69), (0, 70), (2, 68)] 68 (by kernel_rfl) rfl (by kernel_rfl) (by rfl) (fun w1 => ?_) (fun w1 hw1 => ?_) ?_
          · simp only [pk, nthSp, lexVals]
            rfl
          · simp only [pk, nthSp, lexVals]
            exact lu_hidx rfl rfl rfl Hj.out
          refine lx_ge (.agg A) [(0, 71), (3, 68)] 68 (by kernel_rfl) rfl (by kernel_rfl) (by rfl) (fun w1 => ?_) (fun w1 hw1 => ?_) ?_
          · simp only [pk, nthSp, lexVals]
            rfl
          · simp only [pk, nthSp, lexVals]
            rw [← HAe.out]
            exact lu_hmid rfl rfl (HXr.out w1 (HX1.out w1 hw1))
          refine lx_ge (.slice (some ⟨b3, off3, none⟩) N ch) [(4, 68)] 68 (by kernel_rfl) rfl (by kernel_rfl) (by rfl) (fun w1 => ?_) (fun w1 hw1 => ?_) ?_
          · simp only [pk, nthSp, lexVals]
            rfl
          · simp only [pk, nthSp, lexVals]
            go_simp
            exact ⟨Ext.refl _, rfl⟩
          refine lx_ge (.int .i64 ((m : Int) + 1)) [(5, 68)] 68 (by kernel_rfl) rfl (by kernel_rfl) (by rfl) (fun w1 => ?_) (fun w1 hw1 => ?_) ?_
          · simp only [pk, nthSp, lexVals]
            rfl
          · simp only [pk, nthSp, lexVals]
            go_simp
            exact ⟨Ext.refl _, rfl⟩
          refine lx_ge (.int .i64 (m : Int)) [(0, 74), (6, 68)] 68 (by kernel_rfl) rfl (by kernel_rfl) (by rfl) (fun w1 => ?_) (fun w1 hw1 => ?_) ?_
          · simp only [pk, nthSp, lexVals]
            rfl
          · simp only [pk, nthSp, lexVals]
            go_simp
            exact ⟨Ext.refl _, rfl⟩
          refine lx_ge (.pointer (some ⟨b3, off3 + m * 125, none⟩)) [(2, 73), (0, 75), (7, 68)] 68 (by kernel_rfl) rfl (by kernel_rfl) (by rfl) (fun w1 => ?_) (fun w1 hw1 => ?_) ?_
          · simp only [pk, nthSp, lexVals]
            rfl
          · simp only [pk, nthSp, lexVals]
            exact lu_hidx rfl rfl rfl Hm.out
          refine lx_ge (.agg C) [(0, 76), (8, 68)] 68 (by kernel_rfl) rfl (by kernel_rfl) (by rfl) (fun w1 => ?_) (fun w1 hw1 => ?_) ?_
          · simp only [pk, nthSp, lexVals]
            rfl
          · simp only [pk, nthSp, lexVals]
            rw [← HCe.out]
            exact lu_hmid rfl rfl (HYr.out w1 (HX1.out w1 hw1))
          refine lx_ge (.bool true) [(5, 72), (0, 77), (9, 68)] 68 (by kernel_rfl) rfl (by kernel_rfl) (by rfl) (fun w1 => ?_) (fun w1 hw1 => ?_) ?_
          · simp only [pk, nthSp, lexVals]
            rfl
          · simp only [pk, nthSp, lexVals]
            have HM := Lib.hid (HSm.out w1 (HX1.out w1 hw1))
            clear hw1
            go_simp
            refine HM.out.mono ?_
            rintro e w2 ⟨rfl, hE2⟩
            exact ⟨_, rfl, hE2, rfl⟩
          refine lx_ge (.bool false) [(0, 78), (10, 68)] 68 (by kernel_rfl) rfl (by kernel_rfl) (by rfl) (fun w1 => ?_) (fun w1 hw1 => ?_) ?_
          · simp only [pk, nthSp, lexVals]
            rfl
          · simp only [pk, nthSp, lexVals]
            go_simp
            exact ⟨Ext.refl _, rfl⟩
          refine lx_e (.bool false) [(11, 68), (0, 79)] (by kernel_rfl) rfl (by rfl) (fun w1 hw1 => ?_) ?_
          · simp only [pk, nthSp, lexVals]
            go_simp
            exact ⟨Ext.refl _, rfl⟩
          refine lx_stopA (by rfl) fun w6 hw6 => ?_
          have HE6 := Lib.hid (HE.out.trans (HX0.out w6 hw6))
          clear hw6 HX0 HX1 HSm HXr HYr
          simp only [rv, pf, lexVals]
          simp only [Act.put, List.setIfInBounds_toArray, List.set_cons_zero, List.set_cons_succ]
          have wJ : IntKind.i64.wrap ((j : Int) + 1) = (j : Int) + 1 := by rw [IntKind.wrap_i64]; have := Hj.out; have := HMs.out; omega
          have wM : IntKind.i64.wrap ((m : Int) + 1 + 1) = (m : Int) + 1 + 1 := by rw [IntKind.wrap_i64]; have := HMm.out; have := HQ1.out; omega
          go_wp2
          go_roundw
          case rel => exact ⟨j + 1, by have := Hj.out; omega, by go_num, val_int (by have := HMm.out; omega), HE6.out⟩
          case measure => have := Hj.out; simp [intOf]; omega
      have x1 : (k : Int) < (n : Int) := by omega
      have x2 : (0 : Int) ≤ (k : Int) := by omega
      obtain ⟨b, off, rfl, hr⟩ := (H.out.ext HE.out).range k hlt
      obtain ⟨x, hx⟩ : ∃ x, l.getD k htN = x := ⟨_, rfl⟩
      rw [hx] at hr
      have Hr := Lib.hid hr
      have HX := Lib.hid (show HtAt w x by rw [← hx]; exact H.out.get k hlt)
      have HXn := Lib.hid (show x.1.tn ≤ 20 by rw [← hx]; exact Htn.out k hlt (by omega))
      have hHs := HS.out.hs (by have := HN.out; omega)
      rw [HN.out] at hHs
      have HBe := Lib.hid (behind_any ah N ch lh 2 x wr hHs (by omega) (by omega) (hdKs_ext HK2.out HE.out))
      have HY := Lib.hid (bhd_at (wr := 2) HX.out (show lh.length ≤ 100000 by have := HN.out; omega) (by omega))
      have HYn := Lib.hid (show (bhd lh 2 x).1.tn ≤ 1000000 by have := HXn.out; show x.1.tn ≤ _; omega)
      obtain ⟨y, hy⟩ : ∃ y, bhd lh 2 x = y := ⟨_, rfl⟩
      rw [hy] at HBe HY HYn
      clear hr hx hHs hy HX HXn
      go_wp2_with (refine wpList_load_mid rfl 35 _ rfl b (off + k * 125) rfl (hdL x.1) _ Hr.out Tryd.underlying35 rfl (by rw [hdL_length]; kernel_rfl) ?_; rw [hdL_arr])
      refine HBe.out.mono ?_
      rintro e w4 ⟨rfl, hE⟩
      have HS4 := Lib.hid (HS.out.more hE)
      have Hsz := Lib.hid (hdV_size y.1)
      have Hall := Lib.hid (hdV_one y.1)
      obtain ⟨A, hA⟩ : ∃ A, hdV y.1 = A := ⟨_, rfl⟩
      have HAe := Lib.hid hA
      rw [hA] at Hsz Hall ⊢
      clear hE hA HBe HS Hr HE
      go_upto_region 9 with (refine wpList_store_row rfl 35 _ _ rfl w4.heap.size _ rfl rfl _ _ (heap_new w4 _ _ rfl) (by rw [Hsz.out]; kernel_rfl) (by rw [Hsz.out]; rfl) Hall.out ?_; rw [setRow_new w4 _ _ _ _ rfl])
      obtain ⟨w5, hw5⟩ : ∃ w5, w4.alloc (.cells A 35) = w5 := ⟨_, rfl⟩
      have hE5 : Ext w4 w5 := by rw [← hw5]; exact (Ext.refl w4).alloc _
      obtain ⟨p, hp⟩ : ∃ p, w4.heap.size = p := ⟨_, rfl⟩
      have hB5 : w5.heap[p]? = some (.cells A 35 (0, 0)) := by rw [← hw5]; exact heap_new w4 _ _ hp.symm
      refine wp_world (w' := w5) hw5 ?_
      rw [hp]
      have HS5 := Lib.hid (HS4.out.more hE5)
      have HPg := Lib.hid (show p ≠ g ∧ some p ≠ (Value.slice ac lc.length cc).ownBlock ∧ some p ≠ (Value.slice ah lh.length ch).ownBlock from by
        have h1 := HS4.out.chn.row.lt
        refine ⟨by omega, fun e => ?_, fun e => ?_⟩
        · have := (HS4.out.chn.own.lt p e.symm).2
          omega
        · have := (HS4.out.own.lt p e.symm).2
          omega)
      have HPB := Lib.hid hB5
      obtain ⟨V, hV⟩ : ∃ V, askV 2 lc (tipF lh) y = V := ⟨_, rfl⟩
      have HV := Lib.hid hV
      clear hw5 hE5 hp hB5 HS4 hV
      have HS9 := Lib.hid HS5.out
      clear HS5
      have HAd := Lib.hid (add_any HS9.out.chn (by have := HS9.out.len; have := HN.out; omega) HS9.out.tnc y (HY.out.ext HS9.out.ext) HYn.out (fun h0 b off hta => by
        have h1 := HY.out.lt h0 hta
        have h2 := HS9.out.low
        have h3 := HS9.out.chn.low
        refine ⟨by omega, fun e => ?_⟩
        have h4 := (HS9.out.chn.own.lt b e.symm).1
        omega) (hdKs_ext HK.out HS9.out.ext) (by have := HwB.out; have := Hg0.out; omega) HS9.out.hi)
      rw [HV.out, HAe.out] at HAd
      go_wp2_with (refine wpList_load_rowW rfl 35 _ rfl p rfl _ _ _ _ HPB.out Tryd.underlying35 rfl (by rw [Hsz.out]; kernel_rfl) ?_)
      refine HAd.out.mono ?_
      rintro e w10 ⟨rfl, hno, hyes⟩
      by_cases hV0 : V = 0
      · obtain ⟨a2, c2, ta, tc, had⟩ := hyes hV0
        have HM := Lib.hid (HS9.out.put HY.out HYn.out had)
        have hst := had.step
        have HPB := Lib.hid (show w10.heap[p]? = some (.cells A 35 (0, 0)) by
          rw [hst.block p (Array.getElem?_eq_some_iff.1 HPB.out).1 HPg.out.1 HPg.out.2.1]
          exact HPB.out)
        have HVl := Lib.hid (show askV 2 lc (tipF lh) y = 0 by rw [HV.out, hV0])
        have HS12l := Lib.hid HS9.out.len
        subst hV0
        have HM11 := Lib.hid (HM.out.more ((Ext.refl w10).alloc (.cells A 35)))
        have ho11 := HM11.out.own
        rw [HN.out] at ho11
        have HO11 := Lib.hid ho11
        have HQ11 := Lib.hid (show ∀ j, j < 125 → (w10.alloc (.cells A 35)).cell? ⟨w10.heap.size, j, none⟩ = some (hdC y.1 j) from fun j hj => by
          rw [← HAe.out]
          exact row_cell (heap_new w10 _ _ rfl) j hj)
        have HB11 := Lib.hid HM11.out.hi
        clear hno hyes had hst ho11 HAd HS9
        go_wp2_with (first | (refine wpList_load_rowW rfl 35 _ rfl p rfl _ _ _ _ HPB.out Tryd.underlying35 rfl (by rw [Hsz.out]; kernel_rfl) ?_) | (refine wp_build_hd1 rfl _ rfl y.1 A HAe.out rfl ?_) | (at_builtin; refine append_hd rfl _ _ rfl B (.slice ah N ch) N lh rfl HO11.out w10.heap.size 1 y rfl HQ11.out (by omega) HB11.out ?_))
        intro v' w12 hown12 hG12 hwh12
        obtain ⟨a3, c3, rfl⟩ := own_hsl hown12
        have hl1 : (lh ++ [y]).length = N + 1 := by rw [List.length_append, HN.out]; rfl
        have HPB := Lib.hid (show w12.heap[p]? = some (.cells A 35 (0, 0)) by
          have h1 : (w10.alloc (.cells A 35)).heap[p]? = some (.cells A 35 (0, 0)) := ((Ext.refl w10).alloc _).keep HPB.out
          rw [hG12.block p (Array.getElem?_eq_some_iff.1 h1).1 (by have := HPg.out.2.2; rw [HN.out] at this; exact this)]
          exact h1)
        rw [← HN.out] at hown12 hG12 hwh12
        have HS12 := Lib.hid (HM11.out.push hown12 hG12 (by rw [show (w10.alloc (.cells A 35)).heap.size = w10.heap.size + 1 by simp]; exact hwh12))
        have HHl := Lib.hid hl1
        clear hown12 hG12 hwh12 hl1 HM11 HO11 HQ11 HM
        go_wp2
        go_roundw
        case rel => exact ⟨k + 1, lc ++ [reT y ta tc], lh ++ [y], a2, c2, a3, c3, by omega, by go_num, by rw [HHl.out], by have := HHl.out; omega, HS12.out, HLk.out.push HS12l.out (by rw [HVl.out])⟩
        case measure => simp [intOf]; omega
      · have HS10 := Lib.hid (HS9.out.more (hno hV0))
        have hV1 : (V == 0) = false := beq_eq_false_iff_ne.2 hV0
        have hV2 : (V != 0) = true := bne_iff_ne.2 hV0
        clear hno hyes HAd HS9
        go_wp2
        go_roundw
        case rel => exact ⟨k + 1, lc, lh, ac, cc, ah, ch, by omega, by go_num, by rw [HN.out], by have := HN.out; omega, HS10.out, HLk.out⟩
        case measure => simp [intOf]; omega

end Go.Proofs.YthdgnahokmjkpaaDoor
