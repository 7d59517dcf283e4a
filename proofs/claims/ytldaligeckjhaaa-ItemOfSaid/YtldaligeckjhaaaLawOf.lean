/-
  The walk of jalousielaw18.ItemOf: it answers true. No conditions.
-/
import Derived.Test.YtldaligeckjhaaaOfP
import Derived.Test.YtldaligeckjhaaaLater
namespace Go.Proofs.Ytldaligeckjhaaa
open Go.ChangeShapes Go.WideShapes Go.ChangeAt Go.RowKit

set_option maxHeartbeats 8000000 in
set_option maxRecDepth 100000 in
theorem lawOf_any (a : Option Addr) (n c : Nat) (l : List Rw) (x : Nat → Int) (w : World) (h : RwsAt w a n c l) :
    Calls Try.prog 4 #[.slice a n c, .agg (rowArr 16 fun j => .int .u8 (x j))] w fun e w' => e = .returned (.bool true) ∧ Ext w w' := by
  have hcap := h.cap
  have hlim := h.lim
  have H := Lib.hid h
  have HLen := Lib.hid h.len
  obtain ⟨X, hX⟩ : ∃ z, (rowArr 16 fun j => Value.int .u8 (x j)) = z := ⟨_, rfl⟩
  have HX := Lib.hid hX
  have HXs := Lib.hid (show X.size = 16 ∧ X.all (·.oneCell') = true by rw [← hX]; exact ⟨rowArr_size _ _, rowArr_one fun _ _ => rfl⟩)
  rw [hX]
  obtain ⟨S, hS⟩ : ∃ z, w.heap.size = z := ⟨_, rfl⟩
  have HS := Lib.hid hS
  obtain ⟨w2, hw2⟩ : ∃ z, w.alloc (.cells X 27) = z := ⟨_, rfl⟩
  have HE2 := Lib.hid (show Ext w w2 by rw [← hw2]; exact (Ext.refl w).alloc _)
  have HB2 := Lib.hid (show w2.heap[S]? = some (.cells X 27 (0, 0)) by rw [← hw2]; exact heap_new w _ _ hS.symm)
  have HAw := Lib.hid (awake18_any w2)
  have Hw2 := Lib.hid hw2
  clear h hX hS hw2
  go_enter Try.func4, Try.ntmps4
  go_upto_region 1 with (fail)
  refine wp_world (w' := w2) Hw2.out ?_
  rw [HS.out]
  clear Hw2
  go_wp2_with fail
  refine HAw.out.mono ?_
  rintro e w3 ⟨rfl, hE3⟩
  have HE3 := Lib.hid hE3
  have HFew := Lib.hid (fewR_any a n c l 40 w3 (H.out.ext (HE2.out.trans hE3)))
  clear hE3 HAw
  go_wp2_with fail
  refine HFew.out.mono ?_
  rintro e w4 ⟨R, rfl, hR, hE4⟩
  have HE4 := Lib.hid (HE3.out.trans hE4)
  have HRn := Lib.hid hR
  clear hE4 hR HFew HE3
  have HA4 := Lib.hid (awake18_any w4)
  cases R with
  | false =>
    go_wp2_with fail
    refine HA4.out.mono ?_
    rintro e w5 ⟨rfl, hE5⟩
    go_wp2
    go_ret
    exact ⟨rfl, HE2.out.trans (HE4.out.trans hE5)⟩
  | true =>
    have hn : n ≤ 40 := by
      have := HRn.out rfl
      omega
    have HCn := Lib.hid (refCnt_any a n c l w4 (H.out.ext (HE2.out.trans HE4.out)) (by omega))
    clear HRn HA4
    go_upto_region 3 with (fail)
    go_upto_region 4 with (first | (go_at_call 16; refine HCn.out.mono ?_; rintro e w5 ⟨v, rfl, hE5, hown⟩; obtain ⟨ca, cc, hsl⟩ := own_rwsl hown; subst hsl; have HE5 := Lib.hid (HE2.out.trans (HE4.out.trans hE5)); have HOwn := Lib.hid hown; have HB5 := Lib.hid ((HE4.out.trans hE5).keep HB2.out); clear hE5 hown))
    obtain ⟨cs, hcs⟩ : ∃ z, cntN l n = z := ⟨_, rfl⟩
    have HCs := Lib.hid hcs
    rw [hcs] at HOwn ⊢
    have HF := Lib.hid (show ∀ r ∈ cs, rowB r = true from fun r hr => by
      rw [← hcs] at hr
      exact (cntN_mem l n (by rw [HLen.out]; exact Nat.le_refl _) r hr).2)
    have hMn : cs.length ≤ n := by rw [← hcs]; exact cntN_le l n
    have HRc := Lib.hid (own_rws HOwn.out (fun q hq => (H.out.each q (by rw [← hcs] at hq; exact (cntN_mem l n (by rw [HLen.out]; exact Nat.le_refl _) q hq).1)).ext HE5.out) (by omega))
    obtain ⟨M, hM⟩ : ∃ z, cs.length = z := ⟨_, rfl⟩
    rw [hM] at HRc HOwn hMn ⊢
    obtain ⟨L, hL⟩ : ∃ z, ofTok x cs = z := ⟨_, rfl⟩
    have HL := Lib.hid hL
    obtain ⟨OKB, hOK⟩ : ∃ z, decide (L ≠ []) = z := ⟨_, rfl⟩
    have HOK := Lib.hid hOK
    have HOf := Lib.hid (of_was x a n c l w5 (H.out.ext HE5.out) (by omega) L (by rw [hcs, hL]))
    have HRf := Lib.hid (show ∀ z, Ext w5 z → Calls Try.prog 17 #[.slice ca M cc, .agg X] z fun e w' => ∃ t : It, e = .returned (.tuple #[.agg (itV t), .bool OKB]) ∧ Ext z w' ∧ ItAt w' t ∧ Was x L t from fun z hz => by
      have h := refOf_any x ca M cc cs z (HRc.out.ext hz) (by omega)
      rw [HX.out, hL, hOK] at h
      exact h)
    rw [HX.out, hOK] at HOf
    clear hcs hM hL hOK HCn
    have hzi := it_zero
    obtain ⟨ZI, hZI⟩ : ∃ z, itV itN = z := ⟨_, rfl⟩
    have HZs := Lib.hid (show ZI.size = 146 by rw [← hZI]; exact itV_size _)
    rw [hZI] at hzi
    clear hZI
    go_upto_region 5 with (first | (refine wpList_load_rowW rfl 27 (.tmp 3) rfl S rfl _ _ _ _ HB5.out Try.underlying27 rfl (by rw [HXs.out.1]; kernel_rfl) ?_; simp only [Act.put, List.setIfInBounds_toArray, List.set_cons_zero, List.set_cons_succ]) | (go_at_call 13; refine HOf.out.mono ?_; rintro e u1 ⟨was, rfl, hE, hA, hW⟩; obtain ⟨J, hJ⟩ : ∃ z, itV was = z := ⟨_, rfl⟩; have HJ := Lib.hid hJ; have HJs := Lib.hid (show J.size = 146 ∧ J.all (·.oneCell') = true by rw [← hJ]; exact ⟨itV_size _, itV_one _⟩); have HEu := Lib.hid hE; have HAu := Lib.hid hA.at; have HWas := Lib.hid hW; rw [hJ]; clear hE hA hW hJ) | (refine wpList_store_row rfl 41 _ _ rfl u1.heap.size _ rfl rfl _ _ (heap_new u1 _ _ rfl) (by rw [HJs.out.1]; kernel_rfl) (by rw [HJs.out.1, HZs.out]) HJs.out.2 ?_; rw [setRow_new u1 _ _ _ _ rfl]))
    obtain ⟨v1, hv1⟩ : ∃ z, u1.alloc (.cells J 41) = z := ⟨_, rfl⟩
    obtain ⟨t6, ht6⟩ : ∃ z, u1.heap.size = z := ⟨_, rfl⟩
    have HV1 := Lib.hid (show Ext w5 v1 by rw [← hv1]; exact HEu.out.alloc _)
    have HT6 := Lib.hid (show v1.heap[t6]? = some (.cells J 41 (0, 0)) by rw [← hv1]; exact heap_new u1 _ _ ht6.symm)
    have HA6 := Lib.hid (show ItAt v1 was by rw [← hv1]; exact HAu.out.ext ((Ext.refl u1).alloc _))
    have HBv := Lib.hid (HV1.out.keep HB5.out)
    have HRf1 := Lib.hid (HRf.out v1 HV1.out)
    rw [ht6]
    refine wp_world (w' := v1) hv1 ?_
    clear hv1 ht6
    go_upto_region 6 with (first | (refine wpList_load_rowW rfl 27 (.tmp 3) rfl S rfl _ _ _ _ HBv.out Try.underlying27 rfl (by rw [HXs.out.1]; kernel_rfl) ?_; simp only [Act.put, List.setIfInBounds_toArray, List.set_cons_zero, List.set_cons_succ]) | (go_at_call 17; refine HRf1.out.mono ?_; rintro e u2 ⟨want, rfl, hE, hA, hW⟩; obtain ⟨K, hK⟩ : ∃ z, itV want = z := ⟨_, rfl⟩; have HK := Lib.hid hK; have HKs := Lib.hid (show K.size = 146 ∧ K.all (·.oneCell') = true by rw [← hK]; exact ⟨itV_size _, itV_one _⟩); have HEu2 := Lib.hid hE; have HAu2 := Lib.hid hA; have HWant := Lib.hid hW; rw [hK]; clear hE hA hW hK) | (refine wpList_store_row rfl 41 _ _ rfl u2.heap.size _ rfl rfl _ _ (heap_new u2 _ _ rfl) (by rw [HKs.out.1]; kernel_rfl) (by rw [HKs.out.1, HZs.out]) HKs.out.2 ?_; rw [setRow_new u2 _ _ _ _ rfl]))
    obtain ⟨v2, hv2⟩ : ∃ z, u2.alloc (.cells K 41) = z := ⟨_, rfl⟩
    obtain ⟨t8, ht8⟩ : ∃ z, u2.heap.size = z := ⟨_, rfl⟩
    have HV2 := Lib.hid (show Ext v1 v2 by rw [← hv2]; exact HEu2.out.alloc _)
    have HT8 := Lib.hid (show v2.heap[t8]? = some (.cells K 41 (0, 0)) by rw [← hv2]; exact heap_new u2 _ _ ht8.symm)
    have HA8 := Lib.hid (show ItAt v2 want by rw [← hv2]; exact HAu2.out.ext ((Ext.refl u2).alloc _))
    have HT6' := Lib.hid (HV2.out.keep HT6.out)
    have HA6' := Lib.hid (HA6.out.ext HV2.out)
    rw [ht8]
    refine wp_world (w' := v2) hv2 ?_
    clear hv2 ht8
    go_cut [69] (fun v yc => v = .bool false ∧ Ext v2 yc)
    case first =>
      cases OKB with
      | true =>
        have hL0 : L ≠ [] := of_decide_eq_true HOK.out
        have HV := Lib.hid (show ∀ B, SmR was want (bytesL was.hd.1 was.hd.2) (bytesL want.hd.1 want.hd.2) B → B = true from fun B hB => by
          have h1 := HWas.out
          have h2 := HWant.out
          unfold Was at h1 h2
          rw [if_neg hL0] at h1 h2
          have hm := same_made h1 h2
          exact hB.2.2.2 (by rw [h1.tok, h2.tok]; exact arrB_self 16 x) hm.1 hm.2.1 hm.2.2.1 hm.2.2.2.1 hm.2.2.2.2.1 hm.2.2.2.2.2.1)
        have HSm := Lib.hid (refSameW_any was want v2 HA6'.out HA8.out)
        rw [HJ.out, HK.out] at HSm
        clear hL0
        go_wp2_with (first | (refine wpList_load_rowW rfl 41 (.tmp 6) rfl t6 rfl _ _ _ _ HT6'.out Try.underlying41 rfl (by rw [HJs.out.1]; kernel_rfl) ?_; simp only [Act.put, List.setIfInBounds_toArray, List.set_cons_zero, List.set_cons_succ]) | (refine wpList_load_rowW rfl 41 (.tmp 8) rfl t8 rfl _ _ _ _ HT8.out Try.underlying41 rfl (by rw [HKs.out.1]; kernel_rfl) ?_; simp only [Act.put, List.setIfInBounds_toArray, List.set_cons_zero, List.set_cons_succ]))
        refine HSm.out.mono ?_
        rintro e u3 ⟨B, rfl, hE, hB⟩
        obtain rfl := HV.out B hB
        have HE3 := Lib.hid hE
        clear hE hB HSm HV
        go_wp2_with fail
        go_meet
        case rel => exact ⟨rfl, HE3.out⟩
      | false =>
        have hL0 : L = [] := by
          have h := of_decide_eq_false HOK.out
          exact Classical.not_not.1 h
        have hw0 : was = itN := by
          have h1 := HWas.out
          unfold Was at h1
          rw [if_pos hL0] at h1
          exact h1
        have hb6 : v2.heap[t6]? = some (.cells (itV itN) 41 (0, 0)) := by rw [← hw0, HJ.out]; exact HT6'.out
        obtain ⟨-, k1, k2, k3, k4, -⟩ := it_rng hb6
        have c1 : v2.cell? ⟨t6, 141, none⟩ = some (.bool false) := k1
        have c2 : v2.cell? ⟨t6, 142, none⟩ = some (.bool false) := k2
        have c3 : v2.cell? ⟨t6, 143, none⟩ = some (.string ⟨#[]⟩) := k3
        have c4 : v2.cell? ⟨t6, 144, none⟩ = some (.slice none 0 0) := k4
        clear hb6 hw0 hL0 k1 k2 k3 k4
        go_wp2_with fail
        all_goals
          go_meet
          case rel => exact ⟨rfl, Ext.refl _⟩
    case rest =>
      obtain ⟨rfl, hEc⟩ := hcut
      have HEc := Lib.hid hEc
      clear hEc
      rename World => vc
      have HEv := Lib.hid (show Ext w vc from HE5.out.trans (HV1.out.trans (HV2.out.trans HEc.out)))
      have HTv := Lib.hid (HEc.out.keep HT6'.out)
      have HAv := Lib.hid (HA6'.out.ext HEc.out)
      clear HT6 HA6 HA8 HT8 HRf HRf1 HOf HEu HAu HEu2 HAu2
      go_wp2_with fail
      go_loopw [10] (fun i y => ∃ k : Nat, k ≤ n ∧ i = .int .i64 (k : Int) ∧ Ext vc y) (fun i _ => n - (intOf i).toNat)
      case atStart => exact ⟨0, by omega, rfl, Ext.refl _⟩
      case round =>
        obtain ⟨k, hk, rfl, hE⟩ := hrel
        rename World => y
        have HE := Lib.hid hE
        clear hE
        by_cases hlt : k < n
        · have x1 : (k : Int) < (n : Int) := by omega
          have HEy := Lib.hid (HEv.out.trans HE.out)
          obtain ⟨b, off, hab, hcell⟩ := (H.out.ext HEy.out).at_ (by omega)
          subst hab
          obtain ⟨r, hr⟩ : ∃ x, l.getD k rwN = x := ⟨_, rfl⟩
          have hck := hcell k hlt
          rw [hr] at hck
          have HRr := Lib.hid (show RwAt y r by rw [← hr]; exact (H.out.get hlt).ext HEy.out)
          obtain ⟨z, hz⟩ : ∃ z, r.hd.1.item = z := ⟨_, rfl⟩
          obtain ⟨RV, hRV⟩ : ∃ q, rwV r = q := ⟨_, rfl⟩
          have HRV := Lib.hid hRV
          have HRa := Lib.hid (show (rwL r).toArray = RV by rw [rwL_arr, hRV])
          have HRg := Lib.hid (show ∀ q, Ext y q → q.rangeAt b (off + k * 130) (rwL r) from fun q hq => rwL_range fun j hj => by
            have h1 := hck j hj
            rw [hq.cell (World.block_lt_of_cell? _ _ h1)]
            exact h1)
          obtain ⟨Z, hZ⟩ : ∃ q, (rowArr 16 fun j => Value.int .u8 (z j)) = q := ⟨_, rfl⟩
          obtain ⟨LI, hLI⟩ : ∃ q, tokL z = q := ⟨_, rfl⟩
          have HLa := Lib.hid (show LI.toArray = Z ∧ LI.length = 16 by rw [← hLI, ← hZ]; exact ⟨rfl, tokL_length _⟩)
          have HRi := Lib.hid (show y.rangeAt b (off + k * 130 + 37) LI from fun j v hv => by
            rw [← hLI] at hv
            unfold tokL at hv
            have hj : j < 16 := by
              have := (List.getElem?_eq_some_iff.1 hv).1
              simpa using this
            rw [List.getElem?_map, List.getElem?_range hj] at hv
            obtain rfl := Option.some.inj hv
            have h1 := hck (37 + j) (by omega)
            have e : rwC r (37 + j) = hdC r.hd.1 (37 + j) := by
              unfold rwC
              rw [if_pos (by omega)]
            rw [e, ← Nat.add_assoc] at h1
            rw [h1, ← hz]
            exact hdC_item r.hd.1 j hj)
          have HOz := Lib.hid (of_was z (some ⟨b, off, none⟩) n c l y (H.out.ext HEy.out) (by omega) (ofTok z cs) (by rw [HCs.out]))
          rw [hZ] at HOz
          obtain ⟨OZ, hOZ⟩ : ∃ q, decide (ofTok z cs ≠ []) = q := ⟨_, rfl⟩
          rw [hOZ] at HOz
          clear hcell hck hr hz hRV hZ hLI hOZ
          go_upto_region 12 with (first | (refine wp_ridx rfl _ _ rfl b off n c k rfl (by first | rfl | simp [Act.eval]) hlt ?_) | (refine wpList_load_mid rfl 27 (.tmp 82) rfl b _ rfl LI _ HRi.out Try.underlying27 rfl (by rw [HLa.out.2]; kernel_rfl) ?_; rw [HLa.out.1]; simp only [Act.put, List.setIfInBounds_toArray, List.set_cons_zero, List.set_cons_succ]) | (go_at_call 13; refine HOz.out.mono ?_; rintro e y1 ⟨yt, rfl, hE, hA, hW⟩; obtain ⟨Y, hY⟩ : ∃ z, itV yt = z := ⟨_, rfl⟩; have HY' := Lib.hid hY; have HYs := Lib.hid (show Y.size = 146 ∧ Y.all (·.oneCell') = true by rw [← hY]; exact ⟨itV_size _, itV_one _⟩); have HE1 := Lib.hid hE; have HA1 := Lib.hid hA.at; have HWy := Lib.hid hW; rw [hY]; clear hE hA hW hY) | (refine wpList_store_row rfl 41 _ _ rfl y1.heap.size _ rfl rfl _ _ (heap_new y1 _ _ rfl) (by rw [HYs.out.1]; kernel_rfl) (by rw [HYs.out.1, HZs.out]) HYs.out.2 ?_; rw [setRow_new y1 _ _ _ _ rfl]))
          obtain ⟨y2, hy2⟩ : ∃ z, y1.alloc (.cells Y 41) = z := ⟨_, rfl⟩
          obtain ⟨t11, ht11⟩ : ∃ z, y1.heap.size = z := ⟨_, rfl⟩
          have HEy2 := Lib.hid (show Ext y y2 by rw [← hy2]; exact HE1.out.alloc _)
          have HT11 := Lib.hid (show y2.heap[t11]? = some (.cells Y 41 (0, 0)) by rw [← hy2]; exact heap_new y1 _ _ ht11.symm)
          have HAy := Lib.hid (show ItAt y2 yt by rw [← hy2]; exact HA1.out.ext ((Ext.refl y1).alloc _))
          have HTy := Lib.hid ((HE.out.trans HEy2.out).keep HTv.out)
          have HAw := Lib.hid (HAv.out.ext (HE.out.trans HEy2.out))
          rw [ht11]
          refine wp_world (w' := y2) hy2 ?_
          clear hy2 ht11
          obtain ⟨V, hV1, hV2⟩ := sm_det HF.out (show Was x (ofTok x cs) was by rw [HL.out]; exact HWas.out) HWy.out
          have HV1 := Lib.hid hV1
          have HV2 := Lib.hid hV2
          obtain ⟨FB, hFB⟩ : ∃ q, rowB r = q := ⟨_, rfl⟩
          have HFm := Lib.hid (show ∀ q, Ext y2 q → Calls Try.prog 19 #[.agg RV] q fun e w' => e = .returned (.bool FB) ∧ Ext q w' from fun q hq => by
            have h := rowFormed_any r q (HRr.out.ext (HEy2.out.trans hq))
            rw [HRV.out, hFB] at h
            exact h)
          have HRm := Lib.hid (show ∀ q, Ext y2 q → Calls Try.prog 12 #[.agg RV] q fun e w' => e = .returned (.bool FB) ∧ Ext q w' from fun q hq => by
            have h := refRow_any r q (HRr.out.ext (HEy2.out.trans hq))
            rw [HRV.out, hFB] at h
            exact h)
          have HS1 := Lib.hid (show ∀ q, Ext y2 q → Calls Try.prog 20 #[.agg J, .agg Y] q fun e w' => e = .returned (.bool V) ∧ Ext q w' from fun q hq => by
            have h := itSameW_any was yt q (HAw.out.ext hq) (HAy.out.ext hq)
            rw [HJ.out, HY'.out] at h
            refine h.mono ?_
            rintro e w' ⟨B, rfl, hE, hB⟩
            exact ⟨by rw [HV1.out B hB], hE⟩)
          have HS2 := Lib.hid (show ∀ q, Ext y2 q → Calls Try.prog 18 #[.agg J, .agg Y] q fun e w' => e = .returned (.bool V) ∧ Ext q w' from fun q hq => by
            have h := refSameW_any was yt q (HAw.out.ext hq) (HAy.out.ext hq)
            rw [HJ.out, HY'.out] at h
            refine h.mono ?_
            rintro e w' ⟨B, rfl, hE, hB⟩
            exact ⟨by rw [HV2.out B hB], hE⟩)
          have HYq := Lib.hid (show ∀ q, Ext y2.drew q → Ext y2 q from fun q hq => Ext.trans (Ext.refl y2).drew hq)
          clear hV1 hV2 hFB hzi
          refine wp_region_lexA (by kernel_rfl) (by kernel_rfl) ?_
          refine lx_e (.slice (some ⟨b, off, none⟩) n c) [] (by kernel_rfl) rfl (by rfl) (fun w1 hw1 => ?_) ?_
          · simp only [pk, lexVals]
            go_simp
            exact ⟨Ext.refl _, rfl⟩
          refine lx_e (.int .i64 (k : Int)) [] (by kernel_rfl) rfl (by rfl) (fun w1 hw1 => ?_) ?_
          · simp only [pk, lexVals]
            go_simp
            exact ⟨Ext.refl _, rfl⟩
          refine lx_e (.pointer (some ⟨b, off + k * 130, none⟩)) [(1, 87), (0, 88)] (by kernel_rfl) rfl (by rfl) (fun w1 hw1 => ?_) ?_
          · simp only [pk, nthSp, lexVals]
            exact lu_ridx rfl rfl rfl hlt
          refine lx_e (.agg RV) [(0, 89)] (by kernel_rfl) rfl (by rfl) (fun w1 hw1 => ?_) ?_
          · simp only [pk, nthSp, lexVals]
            exact lu_mid rfl rfl (rwL r) (HRg.out w1 (HEy2.out.trans (HYq.out w1 hw1))) Try.underlying36 rfl (by rw [rwL_length]; kernel_rfl) RV HRa.out
          refine lx_e (.bool FB) [(0, 90)] (by kernel_rfl) rfl (by rfl) (fun w1 hw1 => ?_) ?_
          · simp only [pk, nthSp, lexVals]
            have HM := Lib.hid (HFm.out w1 (HYq.out w1 hw1))
            clear hw1
            go_simp
            refine HM.out.mono ?_
            rintro e w2 ⟨rfl, hE2⟩
            exact ⟨_, rfl, hE2, rfl⟩
          refine lx_e (.slice (some ⟨b, off, none⟩) n c) [] (by kernel_rfl) rfl (by rfl) (fun w1 hw1 => ?_) ?_
          · simp only [pk, lexVals]
            go_simp
            exact ⟨Ext.refl _, rfl⟩
          refine lx_e (.int .i64 (k : Int)) [] (by kernel_rfl) rfl (by rfl) (fun w1 hw1 => ?_) ?_
          · simp only [pk, lexVals]
            go_simp
            exact ⟨Ext.refl _, rfl⟩
          refine lx_e (.pointer (some ⟨b, off + k * 130, none⟩)) [(1, 92), (0, 93)] (by kernel_rfl) rfl (by rfl) (fun w1 hw1 => ?_) ?_
          · simp only [pk, nthSp, lexVals]
            exact lu_ridx rfl rfl rfl hlt
          refine lx_e (.agg RV) [(0, 94)] (by kernel_rfl) rfl (by rfl) (fun w1 hw1 => ?_) ?_
          · simp only [pk, nthSp, lexVals]
            exact lu_mid rfl rfl (rwL r) (HRg.out w1 (HEy2.out.trans (HYq.out w1 hw1))) Try.underlying36 rfl (by rw [rwL_length]; kernel_rfl) RV HRa.out
          refine lx_e (.bool FB) [(0, 95)] (by kernel_rfl) rfl (by rfl) (fun w1 hw1 => ?_) ?_
          · simp only [pk, nthSp, lexVals]
            have HM := Lib.hid (HRm.out w1 (HYq.out w1 hw1))
            clear hw1
            go_simp
            refine HM.out.mono ?_
            rintro e w2 ⟨rfl, hE2⟩
            exact ⟨_, rfl, hE2, rfl⟩
          refine lx_e (.bool false) [(5, 91), (0, 96)] (by kernel_rfl) rfl (by rfl) (fun w1 hw1 => ?_) ?_
          · simp only [pk, nthSp, lexVals]
            clear hw1
            go_simp
            exact ⟨Ext.refl _, by first | rfl | simp⟩
          refine lx_e (.bool false) [(0, 97)] (by kernel_rfl) rfl (by rfl) (fun w1 hw1 => ?_) ?_
          · simp only [pk, nthSp, lexVals]
            go_simp
            exact ⟨Ext.refl _, rfl⟩
          refine lx_ge (.agg J) [(0, 98)] 98 (by kernel_rfl) rfl (by kernel_rfl) (by rfl) (fun w1 => ?_) (fun w1 hw1 => ?_) ?_
          · simp only [pk, nthSp, lexVals]
            rfl
          · simp only [pk, nthSp, lexVals]
            exact lu_row rfl rfl ((HYq.out w1 hw1).keep HTy.out) Try.underlying41 rfl (by rw [HJs.out.1]; kernel_rfl)
          refine lx_ge (.agg Y) [(1, 98)] 98 (by kernel_rfl) rfl (by kernel_rfl) (by rfl) (fun w1 => ?_) (fun w1 hw1 => ?_) ?_
          · simp only [pk, nthSp, lexVals]
            rfl
          · simp only [pk, nthSp, lexVals]
            exact lu_row rfl rfl ((HYq.out w1 hw1).keep HT11.out) Try.underlying41 rfl (by rw [HYs.out.1]; kernel_rfl)
          refine lx_ge (.bool V) [(1, 99), (0, 100), (2, 98)] 98 (by kernel_rfl) rfl (by kernel_rfl) (by rfl) (fun w1 => ?_) (fun w1 hw1 => ?_) ?_
          · simp only [pk, nthSp, lexVals]
            rfl
          · simp only [pk, nthSp, lexVals]
            have HM := Lib.hid (HS1.out w1 (HYq.out w1 hw1))
            clear hw1
            go_simp
            refine HM.out.mono ?_
            rintro e w2 ⟨rfl, hE2⟩
            exact ⟨_, rfl, hE2, rfl⟩
          refine lx_ge (.agg J) [(3, 98)] 98 (by kernel_rfl) rfl (by kernel_rfl) (by rfl) (fun w1 => ?_) (fun w1 hw1 => ?_) ?_
          · simp only [pk, nthSp, lexVals]
            rfl
          · simp only [pk, nthSp, lexVals]
            exact lu_row rfl rfl ((HYq.out w1 hw1).keep HTy.out) Try.underlying41 rfl (by rw [HJs.out.1]; kernel_rfl)
          refine lx_ge (.agg Y) [(4, 98)] 98 (by kernel_rfl) rfl (by kernel_rfl) (by rfl) (fun w1 => ?_) (fun w1 hw1 => ?_) ?_
          · simp only [pk, nthSp, lexVals]
            rfl
          · simp only [pk, nthSp, lexVals]
            exact lu_row rfl rfl ((HYq.out w1 hw1).keep HT11.out) Try.underlying41 rfl (by rw [HYs.out.1]; kernel_rfl)
          refine lx_ge (.bool V) [(1, 102), (0, 103), (5, 98)] 98 (by kernel_rfl) rfl (by kernel_rfl) (by rfl) (fun w1 => ?_) (fun w1 hw1 => ?_) ?_
          · simp only [pk, nthSp, lexVals]
            rfl
          · simp only [pk, nthSp, lexVals]
            have HM := Lib.hid (HS2.out w1 (HYq.out w1 hw1))
            clear hw1
            go_simp
            refine HM.out.mono ?_
            rintro e w2 ⟨rfl, hE2⟩
            exact ⟨_, rfl, hE2, rfl⟩
          refine lx_ge (.bool false) [(3, 101), (0, 104), (6, 98)] 98 (by kernel_rfl) rfl (by kernel_rfl) (by rfl) (fun w1 => ?_) (fun w1 hw1 => ?_) ?_
          · simp only [pk, nthSp, lexVals]
            rfl
          · simp only [pk, nthSp, lexVals]
            clear hw1
            go_simp
            exact ⟨Ext.refl _, by first | rfl | simp⟩
          refine lx_ge (.bool false) [(0, 105), (7, 98)] 98 (by kernel_rfl) rfl (by kernel_rfl) (by rfl) (fun w1 => ?_) (fun w1 hw1 => ?_) ?_
          · simp only [pk, nthSp, lexVals]
            rfl
          · simp only [pk, nthSp, lexVals]
            go_simp
            exact ⟨Ext.refl _, rfl⟩
          refine lx_no [(0, 106)] 106 (by kernel_rfl) rfl (by kernel_rfl) (by rfl) (fun w1 => ?_) ?_
          · simp only [pk, nthSp, lexVals]
            first | (go_simp; done) | (go_simp; exact fun h => by cases h)
          refine lx_ge (.bool false) [(1, 106), (0, 107), (9, 98)] 98 (by kernel_rfl) rfl (by kernel_rfl) (by rfl) (fun w1 => ?_) (fun w1 hw1 => ?_) ?_
          · simp only [pk, nthSp, lexVals]
            rfl
          · simp only [pk, nthSp, lexVals]
            go_simp
            exact ⟨Ext.refl _, rfl⟩
          refine lx_e (.bool false) [(10, 98), (0, 108)] (by kernel_rfl) rfl (by rfl) (fun w1 hw1 => ?_) ?_
          · simp only [pk, nthSp, lexVals]
            go_simp
            exact ⟨Ext.refl _, rfl⟩
          refine lx_stopA (by rfl) fun y3 hy3 => ?_
          have HE3 := Lib.hid (HE.out.trans (HEy2.out.trans (HYq.out y3 hy3)))
          clear hy3
          simp only [rv, pf, lexVals]
          simp only [Act.put, List.setIfInBounds_toArray, List.set_cons_zero, List.set_cons_succ]
          go_wp2
          go_roundw
          case rel => exact ⟨k + 1, by omega, by go_num, HE3.out⟩
          case measure => simp [intOf]; omega
        · obtain rfl : k = n := by omega
          have x1 : ¬ (k : Int) < (k : Int) := by omega
          go_wp2_with fail
          go_ret
          exact ⟨rfl, HEv.out.trans HE.out⟩

end Go.Proofs.Ytldaligeckjhaaa
