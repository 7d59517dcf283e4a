/-
  The walk of jalousielaw13.WriterAsks: it answers true. Asked: the tables lie as the text lays them.
-/
import Derived.Test.YthdgnahokmjkpaaDoorWrS
namespace Go.Proofs.YthdgnahokmjkpaaDoor
open Go.ChangeShapes Go.WideShapes Go.ChangeAt Go.RowKit

set_option maxHeartbeats 8000000 in
set_option maxRecDepth 100000 in
theorem lawAsks_any (a : Option Addr) (n c : Nat) (l : List HT) (w : World) (h : HsAt w a n c l) (hk : KsAt 1 w) (hk2 : KsAt 0 w) :
    Calls Tryd.prog 3 #[.slice a n c] w fun e w' => e = .returned (.bool true) ∧ Ext w w' := by
  have hg0 : 1 < w.heap.size := World.block_lt_of_cell? w _ (hk 0 (by omega))
  have H := Lib.hid h
  have HK := Lib.hid hk
  have HK2 := Lib.hid hk2
  have Hg0 := Lib.hid hg0
  have kne := neq_h
  clear h hk hk2 hg0
  go_enter Tryd.func3, Tryd.ntmps3
  go_wp2_with fail
  refine (awake13_any w HK.out).mono ?_
  rintro e w1 ⟨rfl, hE⟩
  have HE1 := Lib.hid hE
  clear hE
  go_wp2_with fail
  refine (few13_any a n c l 20 w1 (H.out.ext HE1.out)).mono ?_
  rintro e w2 ⟨v, rfl, ⟨b, rfl, hb⟩, hE⟩
  have HE2 := Lib.hid (HE1.out.trans hE)
  have Hb := Lib.hid hb
  clear hE hb
  cases b with
  | false =>
    go_wp2_with fail
    refine (awake13_any w2 (hdKs_ext HK.out HE2.out)).mono ?_
    rintro e w3 ⟨rfl, hE⟩
    have HE3 := Lib.hid (HE2.out.trans hE)
    clear hE
    go_wp2
    go_ret
    exact ⟨rfl, HE3.out⟩
  | true =>
    obtain ⟨hn, htn⟩ := Hb.out rfl
    have Htn := Lib.hid htn
    have hn20 : n ≤ 20 := by omega
    clear hn htn Hb
    go_wp2_with fail
    refine (new_any 1 w2).mono ?_
    rintro e w3 ⟨g, rfl, hC, hE⟩
    obtain ⟨B, hB⟩ : ∃ B, w2.heap.size = B := ⟨_, rfl⟩
    rw [hB] at hC
    have HW := Lib.hid (WSt.begin hC (HE2.out.trans hE) (by rw [← hB]; exact Below.size HE2.out) (by rw [← hB]; exact Below.size hE))
    have HwB := Lib.hid (show w.heap.size ≤ B by rw [← hB]; exact Below.size HE2.out)
    clear hC hE hB
    go_wp2
    go_loopw [4, 5] (fun v i wr => ∃ (k : Nat) (lc lh : List HT) (ac : Option Addr) (cc : Nat) (ah : Option Addr) (ch : Nat), k ≤ n ∧ i = .int .i64 (k : Int) ∧ v = .slice ah lh.length ch ∧ lh.length ≤ k ∧ WSt w wr B g 1 lc lh ac cc ah ch) (fun _ i _ => n - (intOf i).toNat)
    case atStart => exact ⟨0, [], [], none, 0, none, 0, Nat.zero_le _, rfl, rfl, Nat.le_refl _, HW.out⟩
    case round =>
      obtain ⟨k, lc, lh, ac, cc, ah, ch, hk, rfl, rfl, hlk, hst⟩ := hrel
      have HS := Lib.hid hst
      have HE := Lib.hid hst.ext
      obtain ⟨N, hN⟩ : ∃ N, lh.length = N := ⟨_, rfl⟩
      have HN := Lib.hid hN
      rw [hN] at hlk ⊢
      clear hst HW hN
      by_cases hlt : k < n
      case neg =>
        obtain rfl : k = n := by omega
        have x1 : ¬ (k : Int) < (k : Int) := by omega
        go_wp2
        go_ret
        exact ⟨rfl, HE.out⟩
      have x1 : (k : Int) < (n : Int) := by omega
      have x2 : (0 : Int) ≤ (k : Int) := by omega
      obtain ⟨b, off, rfl, hr⟩ := (H.out.ext HE.out).range k hlt
      obtain ⟨x, hx⟩ : ∃ x, l.getD k htN = x := ⟨_, rfl⟩
      rw [hx] at hr
      have Hr := Lib.hid hr
      have HX := Lib.hid (show HtAt w x by rw [← hx]; exact H.out.get k hlt)
      have HXn := Lib.hid (show x.1.tn ≤ 20 by rw [← hx]; exact Htn.out k hlt (by omega))
      have hHs := HS.out.hs (by have := HN.out; omega)
      rw [HN.out] at hHs
      have HBe := Lib.hid (behind_any ah N ch lh 1 x wr hHs (by omega) (by omega) (hdKs_ext HK2.out HE.out))
      have HY := Lib.hid (bhd_at (wr := 1) HX.out (show lh.length ≤ 100000 by have := HN.out; omega) (by omega))
      have HYn := Lib.hid (show (bhd lh 1 x).1.tn ≤ 1000000 by have := HXn.out; show x.1.tn ≤ _; omega)
      obtain ⟨y, hy⟩ : ∃ y, bhd lh 1 x = y := ⟨_, rfl⟩
      rw [hy] at HBe HY HYn
      clear hr hx hHs hy HX HXn
      go_wp2_with (refine wpList_load_mid rfl 35 _ rfl b (off + k * 125) rfl (hdL x.1) _ Hr.out Tryd.underlying35 rfl (by rw [hdL_length]; kernel_rfl) ?_; rw [hdL_arr])
      refine HBe.out.mono ?_
      rintro e w4 ⟨rfl, hE⟩
      have HS4 := Lib.hid (HS.out.more hE)
      have Hsz := Lib.hid (hdV_size y.1)
      have Hall := Lib.hid (hdV_one y.1)
      obtain ⟨A, hA⟩ : ∃ A, hdV y.1 = A := ⟨_, rfl⟩
      have HAe := Lib.hid hA
      rw [hA] at Hsz Hall ⊢
      clear hE hA HBe HS Hr HE
      go_upto_region 9 with (refine wpList_store_row rfl 35 _ _ rfl w4.heap.size _ rfl rfl _ _ (heap_new w4 _ _ rfl) (by rw [Hsz.out]; kernel_rfl) (by rw [Hsz.out]; rfl) Hall.out ?_; rw [setRow_new w4 _ _ _ _ rfl])
      obtain ⟨w5, hw5⟩ : ∃ w5, w4.alloc (.cells A 35) = w5 := ⟨_, rfl⟩
      have hE5 : Ext w4 w5 := by rw [← hw5]; exact (Ext.refl w4).alloc _
      obtain ⟨p, hp⟩ : ∃ p, w4.heap.size = p := ⟨_, rfl⟩
      have hB5 : w5.heap[p]? = some (.cells A 35 (0, 0)) := by rw [← hw5]; exact heap_new w4 _ _ hp.symm
      refine wp_world (w' := w5) hw5 ?_
      rw [hp]
      have HS5 := Lib.hid (HS4.out.more hE5)
      have HPg := Lib.hid (show p ≠ g ∧ some p ≠ (Value.slice ac lc.length cc).ownBlock ∧ some p ≠ (Value.slice ah lh.length ch).ownBlock from by
        have h1 := HS4.out.chn.row.lt
        refine ⟨by omega, fun e => ?_, fun e => ?_⟩
        · have := (HS4.out.chn.own.lt p e.symm).2
          omega
        · have := (HS4.out.own.lt p e.symm).2
          omega)
      have HPB := Lib.hid hB5
      have HAs := Lib.hid (fun w9 (h9 : Ext w5 w9) => ask_any (HS5.out.more h9).chn (by have := HS5.out.len; have := HN.out; omega) HS5.out.tnc y (HY.out.ext ((HS5.out.more h9).ext)))
      rw [HAe.out] at HAs
      obtain ⟨V, hV⟩ : ∃ V, askV 1 lc (tipF lh) y = V := ⟨_, rfl⟩
      rw [hV] at HAs
      have HV := Lib.hid hV
      clear hw5 hE5 hp hB5 HS4 hV
      have HX0 := Lib.hid (show ∀ x, Ext w5.drew x → Ext w5 x from fun x hx => Ext.trans (Ext.refl w5).drew hx)
      refine wp_region_lexA (by kernel_rfl) (by kernel_rfl) ?_
      refine lx_e (.pointer (some ⟨g, 0, none⟩)) [] (by kernel_rfl) rfl (by rfl) (fun w1 hw1 => ?_) ?_
      · simp only [pk, lexVals]
        go_simp
        exact ⟨Ext.refl _, rfl⟩
      refine lx_e (.agg A) [] (by kernel_rfl) rfl (by rfl) (fun w1 hw1 => ?_) ?_
      · simp only [pk, lexVals]
        exact lu_row rfl rfl ((HX0.out w1 hw1).keep HPB.out) Tryd.underlying35 rfl (by rw [Hsz.out]; kernel_rfl)
      refine lx_e (.int .i64 V) [(1, 30), (0, 31)] (by kernel_rfl) rfl (by rfl) (fun w1 hw1 => ?_) ?_
      · simp only [pk, nthSp, lexVals]
        have hm := (HAs.out w1 (HX0.out w1 hw1))
        have HM := Lib.hid hm
        clear hw1 hm
        go_simp
        refine HM.out.mono ?_
        rintro e w2 ⟨rfl, hE2⟩
        exact ⟨_, rfl, hE2, rfl⟩
      refine lx_e (.pointer (some ⟨g, 0, none⟩)) [] (by kernel_rfl) rfl (by rfl) (fun w1 hw1 => ?_) ?_
      · simp only [pk, lexVals]
        go_simp
        exact ⟨Ext.refl _, rfl⟩
      refine lx_e (.agg A) [] (by kernel_rfl) rfl (by rfl) (fun w1 hw1 => ?_) ?_
      · simp only [pk, lexVals]
        exact lu_row rfl rfl ((HX0.out w1 hw1).keep HPB.out) Tryd.underlying35 rfl (by rw [Hsz.out]; kernel_rfl)
      refine lx_e (.int .i64 V) [(1, 33), (0, 34)] (by kernel_rfl) rfl (by rfl) (fun w1 hw1 => ?_) ?_
      · simp only [pk, nthSp, lexVals]
        have hm := (HAs.out w1 (HX0.out w1 hw1))
        have HM := Lib.hid hm
        clear hw1 hm
        go_simp
        refine HM.out.mono ?_
        rintro e w2 ⟨rfl, hE2⟩
        exact ⟨_, rfl, hE2, rfl⟩
      refine lx_e (.int .i64 V) [(3, 32)] (by kernel_rfl) rfl (by rfl) (fun w1 hw1 => ?_) ?_
      · simp only [pk, nthSp, lexVals]
        go_simp
        exact ⟨Ext.refl _, rfl⟩
      refine lx_e (.int .i64 V) [(1, 35)] (by kernel_rfl) rfl (by rfl) (fun w1 hw1 => ?_) ?_
      · simp only [pk, nthSp, lexVals]
        go_simp
        exact ⟨Ext.refl _, rfl⟩
      refine lx_stopA (by rfl) fun w6 hw6 => ?_
      have HS6 := Lib.hid (HS5.out.more (HX0.out w6 hw6))
      have HPB := Lib.hid ((HX0.out w6 hw6).keep HPB.out)
      clear hw6 HX0 HS5 HAs
      simp only [rv, pf, lexVals]
      simp only [Act.put, List.setIfInBounds_toArray, List.set_cons_zero, List.set_cons_succ]
      have wN3 : IntKind.u64.wrap (N : Int) = (N : Int) := by rw [IntKind.wrap_u64]; omega
      have hHd := head_any HS6.out.chn (by have := HS6.out.len; have := HN.out; omega)
      rw [HS6.out.len, HN.out] at hHd
      have HHd := Lib.hid hHd
      clear hHd
      go_wp2_with fail
      refine HHd.out.mono ?_
      rintro e w7 ⟨rfl, hE⟩
      have HS7 := Lib.hid (HS6.out.more hE)
      have HPB := Lib.hid (hE.keep HPB.out)
      clear hE HHd HS6
      go_wp2_with fail
      refine (chTip_any HS7.out.chn).mono ?_
      rintro e w8 ⟨rfl, hE⟩
      have HS8 := Lib.hid (HS7.out.more hE)
      have HPB := Lib.hid (hE.keep HPB.out)
      clear hE HS7
      have hHs := HS8.out.hs (by have := HN.out; omega)
      rw [HN.out] at hHs
      have HRt := Lib.hid (refTip_any ah N ch lh w8 hHs (hdKs_ext HK2.out HS8.out.ext))
      obtain ⟨T, hT⟩ : ∃ T, tipF lh = T := ⟨_, rfl⟩
      rw [hT] at HRt ⊢
      have kne2 : ∀ w, (binOp .neq 29 (.agg (rowArr 32 fun j => .int .u8 (T j))) (.agg (rowArr 32 fun j => .int .u8 (T j)))).run Tryd.prog w = .ok (.bool false) w := fun w => by
        rw [kne w T T, show arrB 32 T T = true from decide_eq_true fun _ _ => rfl]
        rfl
      clear hHs hT kne
      go_wp2_with fail
      refine HRt.out.mono ?_
      rintro e w9 ⟨rfl, hE⟩
      have HS9 := Lib.hid (HS8.out.more hE)
      have HPB := Lib.hid (hE.keep HPB.out)
      clear hE HS8 HRt
      have HAd := Lib.hid (add_any HS9.out.chn (by have := HS9.out.len; have := HN.out; omega) HS9.out.tnc y (HY.out.ext HS9.out.ext) HYn.out (fun h0 b off hta => by
        have h1 := HY.out.lt h0 hta
        have h2 := HS9.out.low
        have h3 := HS9.out.chn.low
        refine ⟨by omega, fun e => ?_⟩
        have h4 := (HS9.out.chn.own.lt b e.symm).1
        omega) (hdKs_ext HK.out HS9.out.ext) (by have := HwB.out; have := Hg0.out; omega) HS9.out.hi)
      rw [HV.out, HAe.out] at HAd
      go_wp2_with (refine wpList_load_rowW rfl 35 _ rfl p rfl _ _ _ _ HPB.out Tryd.underlying35 rfl (by rw [Hsz.out]; kernel_rfl) ?_)
      refine HAd.out.mono ?_
      rintro e w10 ⟨rfl, hno, hyes⟩
      by_cases hV0 : V = 0
      · obtain ⟨a2, c2, ta, tc, had⟩ := hyes hV0
        have HM := Lib.hid (HS9.out.put HY.out HYn.out had)
        have hst := had.step
        have HPB := Lib.hid (show w10.heap[p]? = some (.cells A 35 (0, 0)) by
          rw [hst.block p (Array.getElem?_eq_some_iff.1 HPB.out).1 HPg.out.1 HPg.out.2.1]
          exact HPB.out)
        have H13 := Lib.hid (ask_again (T' := tipF (lh ++ [y])) (ta := ta) (tc := tc) HY.out.toks.len (show askV 1 lc (tipF lh) y = 0 by rw [HV.out, hV0]))
        subst hV0
        have HM11 := Lib.hid (HM.out.more ((Ext.refl w10).alloc (.cells A 35)))
        have ho11 := HM11.out.own
        rw [HN.out] at ho11
        have HO11 := Lib.hid ho11
        have HQ11 := Lib.hid (show ∀ j, j < 125 → (w10.alloc (.cells A 35)).cell? ⟨w10.heap.size, j, none⟩ = some (hdC y.1 j) from fun j hj => by
          rw [← HAe.out]
          exact row_cell (heap_new w10 _ _ rfl) j hj)
        have HB11 := Lib.hid HM11.out.hi
        clear hno hyes had hst ho11 HAd HS9
        go_wp2_with (first | (refine wpList_load_rowW rfl 35 _ rfl p rfl _ _ _ _ HPB.out Tryd.underlying35 rfl (by rw [Hsz.out]; kernel_rfl) ?_) | (refine wp_build_hd1 rfl _ rfl y.1 A HAe.out rfl ?_) | (at_builtin; refine append_hd rfl _ _ rfl B (.slice ah N ch) N lh rfl HO11.out w10.heap.size 1 y rfl HQ11.out (by omega) HB11.out ?_))
        intro v' w12 hown12 hG12 hwh12
        obtain ⟨a3, c3, rfl⟩ := own_hsl hown12
        have hl1 : (lh ++ [y]).length = N + 1 := by rw [List.length_append, HN.out]; rfl
        have HPB := Lib.hid (show w12.heap[p]? = some (.cells A 35 (0, 0)) by
          have h1 : (w10.alloc (.cells A 35)).heap[p]? = some (.cells A 35 (0, 0)) := ((Ext.refl w10).alloc _).keep HPB.out
          rw [hG12.block p (Array.getElem?_eq_some_iff.1 h1).1 (by have := HPg.out.2.2; rw [HN.out] at this; exact this)]
          exact h1)
        rw [← HN.out] at hown12 hG12 hwh12
        have HS12 := Lib.hid (HM11.out.push hown12 hG12 (by rw [show (w10.alloc (.cells A 35)).heap.size = w10.heap.size + 1 by simp]; exact hwh12))
        have HHl := Lib.hid hl1
        clear hown12 hG12 hwh12 hl1 HM11 HO11 HQ11 HM
        have HA2 := Lib.hid (ask_any HS12.out.chn (by have := HS12.out.len; have := HHl.out; omega) HS12.out.tnc y (HY.out.ext HS12.out.ext))
        rw [H13.out, HAe.out] at HA2
        go_wp2_with (refine wpList_load_rowW rfl 35 _ rfl p rfl _ _ _ _ HPB.out Tryd.underlying35 rfl (by rw [Hsz.out]; kernel_rfl) ?_)
        refine HA2.out.mono ?_
        rintro e w13 ⟨rfl, hE⟩
        have HS13 := Lib.hid (HS12.out.more hE)
        clear hE HA2 HS12
        go_wp2
        go_roundw
        case rel => exact ⟨k + 1, lc ++ [reT y ta tc], lh ++ [y], a2, c2, a3, c3, by omega, by go_num, by rw [HHl.out], by have := HHl.out; omega, HS13.out⟩
        case measure => simp [intOf]; omega
      · have HS10 := Lib.hid (HS9.out.more (hno hV0))
        have hV1 : (V == 0) = false := beq_eq_false_iff_ne.2 hV0
        have hV2 : (V != 0) = true := bne_iff_ne.2 hV0
        clear hno hyes HAd HS9
        go_wp2
        go_roundw
        case rel => exact ⟨k + 1, lc, lh, ac, cc, ah, ch, by omega, by go_num, by rw [HN.out], by have := HN.out; omega, HS10.out⟩
        case measure => simp [intOf]; omega

end Go.Proofs.YthdgnahokmjkpaaDoor
