/-
  A header's place in a slice. No conditions.
  The walk of jalousieref13.Ask at formed headers. Asked: the table of words lies as the text lays it.
-/
import Derived.Test.YtihlpfdhallfpaaDoorWrT
import Derived.Test.YtihlpfdhallfpaaDoorHdQ
namespace Go.Proofs.YtihlpfdhallfpaaDoor
open Go.ChangeAt Go.ChangeShapes Go.RowKit Go.WideShapes

set_option maxRecDepth 100000 in
theorem size_hd (w : World) : (sizeOf 34).run Tryd.prog w = .ok 125 w := by kernel_rfl
/-- A header's place in a slice. -/
theorem lu_hidx {w : World} {o : Oper} {ev : Operand → Value} {x y : Operand} {b off n c k : Nat} (ho : o.op = .indexAddr 90 x y) (hx : ev x = .slice (some ⟨b, off, none⟩) n c) (hy : ev y = .int .i64 (k : Int)) (hk : k < n) :
    lexUpon Tryd.prog w (.ex (.pointer (some ⟨b, off + k * 125, none⟩))) ((execOp ev o).run Tryd.prog w) := by
  have hr : (Instr.indexAt 90 (.slice (some ⟨b, off, none⟩) n c) (.int .i64 (k : Int))).run Tryd.prog w = .ok (.pointer (some ⟨b, off + k * 125, none⟩)) w := by
    have hb : (0 : Int) ≤ (k : Int) ∧ (k : Int) < (n : Int) := by omega
    simp only [Instr.indexAt, asIntOf, Sem.run_bind, Sem.run_pure, Result.andThen_ok, run_underlying Tryd.underlying90, hb, and_self, if_true, size_hd, Int.toNat_natCast, add_none]
  simp only [execOp, ho, hx, hy, Sem.run_bind, hr, Result.andThen_ok, Sem.run_pure]
  exact ⟨Ext.refl _, rfl⟩
theorem hd_mid_prev {w : World} {b off : Nat} {h : Hd} (hc : ∀ j, j < 125 → w.cell? ⟨b, off + j, none⟩ = some (hdC h j)) (j : Nat) (hj : j < 32) : w.cell? ⟨b, off + 2 + j, none⟩ = some (.int .u8 (h.prev j)) := by
  rw [Nat.add_assoc, hc (2 + j) (by omega)]
  unfold hdC
  rw [if_neg (by omega), if_neg (by omega), if_pos (by omega), show 2 + j - 2 = j by omega]

theorem lu_hidxU {w : World} {o : Oper} {ev : Operand → Value} {x y : Operand} {b off n c k : Nat} (ho : o.op = .indexAddr 90 x y) (hx : ev x = .slice (some ⟨b, off, none⟩) n c) (hy : ev y = .int .u64 (k : Int)) (hk : k < n) :
    lexUpon Tryd.prog w (.ex (.pointer (some ⟨b, off + k * 125, none⟩))) ((execOp ev o).run Tryd.prog w) := by
  have hr : (Instr.indexAt 90 (.slice (some ⟨b, off, none⟩) n c) (.int .u64 (k : Int))).run Tryd.prog w = .ok (.pointer (some ⟨b, off + k * 125, none⟩)) w := by
    have hb : (0 : Int) ≤ (k : Int) ∧ (k : Int) < (n : Int) := by omega
    simp only [Instr.indexAt, asIntOf, Sem.run_bind, Sem.run_pure, Result.andThen_ok, run_underlying Tryd.underlying90, hb, and_self, if_true, size_hd, Int.toNat_natCast, add_none]
  simp only [execOp, ho, hx, hy, Sem.run_bind, hr, Result.andThen_ok, Sem.run_pure]
  exact ⟨Ext.refl _, rfl⟩

/-- The bytes that a call hands back. -/
theorem refBy_any (h : Hd) (ts : List (Nat → Int)) (w : World) (ho : HdOk h) (ht : TsAt w h.ta h.tn h.tc ts) :
    Calls Tryd.prog 35 #[.agg (hdV h)] w fun e w' => ∃ v, e = .returned v ∧ (∃ q n c, v = .slice q n c ∧ BsAt w' q n c (bytesL h ts)) ∧ Ext w w' := by
  refine (refHdBytes_any h ts w ho ht).mono ?_
  rintro e w' ⟨v, rfl, hown, hE⟩
  obtain ⟨a3, c3, rfl, hc1, hc2⟩ := owns_slice hown
  have hle := bytesL_le h ts
  have htn := ht.small
  exact ⟨_, rfl, ⟨a3, _, c3, rfl, owns_bs hown (bytesL_byte ho ht.len ht.byte) (by unfold maxLen at hc2; omega) (by omega)⟩, hE⟩

set_option maxHeartbeats 4000000 in
set_option maxRecDepth 100000 in
theorem refAsk_any (wr : Int) (a : Option Addr) (n c : Nat) (l : List HT) (x : HT) (w : World) (h : HsAt w a n c l) (hs : n ≤ 100000) (hf : ∀ y ∈ l, hdB y.1 y.2 = true) (hx : HtAt w x) (hk : KsAt 0 w) :
    Calls Tryd.prog 51 #[.int .i64 wr, .slice a n c, .agg (hdV x.1)] w fun e w' => e = .returned (.int .i64 (askV wr l (tipF l) x)) ∧ Ext w w' := by
  obtain ⟨w2, hw2⟩ : ∃ w2, w.alloc (.cells (hdV x.1) 34) = w2 := ⟨_, rfl⟩
  have hE2 : Ext w w2 := by rw [← hw2]; exact (Ext.refl w).alloc _
  have hB2 : w2.heap[w.heap.size]? = some (.cells (hdV x.1) 34 (0, 0)) := by rw [← hw2]; exact heap_new w _ _ rfl
  obtain ⟨p, hp⟩ : ∃ p, w.heap.size = p := ⟨_, rfl⟩
  rw [hp] at hB2
  have Hp := Lib.hid hp
  have Hw2 := Lib.hid hw2
  have HE := Lib.hid hE2
  have HPB := Lib.hid hB2
  have HPH := Lib.hid hB2
  have HH := Lib.hid h
  have HFm := Lib.hid hf
  have Hx := Lib.hid hx
  have Hsz := Lib.hid (hdV_size x.1)
  have HFo := Lib.hid (fun w9 (h9 : Ext w w9) => refHd_any x.1 x.2 w9 hx.ok (hx.toks.ext h9))
  have HTp := Lib.hid (fun w9 (h9 : Ext w w9) => refTip_any a n c l w9 (h.ext h9) (hdKs_ext hk h9))
  have HBx := Lib.hid (fun w9 (h9 : Ext w w9) => refBy_any x.1 x.2 w9 hx.ok (hx.toks.ext h9))
  have kne := neq_h
  have hl := h.len
  obtain ⟨T, hT⟩ : ∃ T, tipF l = T := ⟨_, rfl⟩
  rw [hT] at HTp ⊢
  obtain ⟨A, hA⟩ : ∃ A, hdV x.1 = A := ⟨_, rfl⟩
  have HAe := Lib.hid hA
  rw [hA] at HPB Hsz HFo HBx Hw2 ⊢
  obtain ⟨xw, hxw⟩ : ∃ v, x.1.writer = v := ⟨_, rfl⟩
  have Hxw := Lib.hid hxw
  obtain ⟨s, hxs⟩ : ∃ v, x.1.seq = v := ⟨_, rfl⟩
  have Hxs := Lib.hid hxs
  have hs0 := hx.ok.seq.1
  have hs1 := hx.ok.seq.2
  obtain ⟨V, hV⟩ : ∃ V, askV wr l T x = V := ⟨_, rfl⟩
  rw [hV]
  unfold askV at hV
  rw [hxs] at hs0 hs1
  rw [hxw, hxs, hl] at hV
  clear h hf hk hx hw2 hE2 hB2 hp hA hxw hxs hT
  have wN0 : IntKind.u64.wrap (n : Int) = (n : Int) := by rw [IntKind.wrap_u64]; omega
  have wN : IntKind.u64.wrap ((n : Int) + 1) = (n : Int) + 1 := by rw [IntKind.wrap_u64]; omega
  cases hF : hdB x.1 x.2 with
  | false =>
    rw [hF] at hV HFo
    rw [if_pos (Or.inl rfl)] at hV
    have HV := Lib.hid hV.symm
    clear hV hF
    go_enter Tryd.func51, Tryd.ntmps51
    go_upto_region 1 with (fail)
    refine wp_world (w' := w2) Hw2.out ?_
    rw [Hp.out]
    clear Hw2
    go_wp2_with (refine wpList_load_rowW rfl 34 _ rfl p rfl _ _ _ _ HPB.out Tryd.underlying34 rfl (by rw [Hsz.out]; kernel_rfl) ?_)
    refine (HFo.out w2 HE.out).mono ?_
    rintro e w3 ⟨rfl, hE⟩
    have HE := Lib.hid (HE.out.trans hE)
    have HPB := Lib.hid (hE.keep HPB.out)
    have HPH := Lib.hid (hE.keep HPH.out)
    clear hE HFo
    go_wp2
    go_ret
    exact ⟨by rw [HV.out]; rfl, HE.out⟩
  | true =>
  rw [hF] at hV HFo
  have Hgood := Lib.hid hF
  have hbd := hdB_bd hF
  have hsp : 1 ≤ s := by rw [← Hxs.out]; omega
  clear hF hbd
  by_cases hW : xw = wr
  case neg =>
    have hW2 : (xw == wr) = false := beq_eq_false_iff_ne.2 hW
    have hW3 : (xw != wr) = true := bne_iff_ne.2 hW
    rw [if_pos (Or.inr hW)] at hV
    have HV := Lib.hid hV.symm
    clear hV
    go_enter Tryd.func51, Tryd.ntmps51
    go_upto_region 1 with (fail)
    refine wp_world (w' := w2) Hw2.out ?_
    rw [Hp.out]
    clear Hw2
    go_wp2_with (refine wpList_load_rowW rfl 34 _ rfl p rfl _ _ _ _ HPB.out Tryd.underlying34 rfl (by rw [Hsz.out]; kernel_rfl) ?_)
    refine (HFo.out w2 HE.out).mono ?_
    rintro e w3 ⟨rfl, hE⟩
    have HE := Lib.hid (HE.out.trans hE)
    have HPB := Lib.hid (hE.keep HPB.out)
    have HPH := Lib.hid (hE.keep HPH.out)
    clear hE HFo
    have c0 := hd_writer HPH.out
    rw [Hxw.out] at c0
    have c1 := hd_seq HPH.out
    rw [Hxs.out] at c1
    go_wp2
    go_ret
    exact ⟨by rw [HV.out]; rfl, HE.out⟩
  subst hW
  rw [if_neg (by simp)] at hV
  by_cases hin : s ≤ (n : Int)
  · rw [if_pos ⟨hsp, hin⟩] at hV
    obtain ⟨k, hk⟩ : ∃ k : Nat, s = (k : Int) + 1 := ⟨s.toNat - 1, by omega⟩
    have hkn : k < n := by omega
    have wS : IntKind.u64.wrap (s - 1) = (k : Int) := by rw [IntKind.wrap_u64]; omega
    rw [show s.toNat - 1 = k by omega] at hV
    obtain ⟨b, off, rfl, hr⟩ := HH.out.range k hkn
    obtain ⟨K, hK⟩ : ∃ K, l.getD k htN = K := ⟨_, rfl⟩
    have HKt := Lib.hid (show HtAt w K by rw [← hK]; exact HH.out.get k hkn)
    have HKf := Lib.hid (show hdB K.1 K.2 = true by
      rw [← hK, List.getD_eq_getElem?_getD, List.getElem?_eq_getElem (by omega)]
      exact HFm.out _ (List.getElem_mem _))
    rw [hK] at hV hr
    have HKr := Lib.hid (show ∀ w1, Ext w w1 → w1.rangeAt b (off + k * 125) (hdL K.1) from fun w1 h1 j v hv => by
      have h2 := hr j v hv
      rw [Ext.cell h1 (World.block_lt_of_cell? w _ h2)]
      exact h2)
    have HBk := Lib.hid (fun w9 (h9 : Ext w w9) => refBy_any K.1 K.2 w9 HKt.out.ok (HKt.out.toks.ext h9))
    have hsb := same_bytes HKt.out.ok Hx.out.ok HKt.out.toks.len Hx.out.toks.len HKf.out Hgood.out
    have HXb := Lib.hid (bytesL_byte HKt.out.ok HKt.out.toks.len HKt.out.toks.byte)
    have HYb := Lib.hid (bytesL_byte Hx.out.ok Hx.out.toks.len Hx.out.toks.byte)
    obtain ⟨C, hC⟩ : ∃ C, hdV K.1 = C := ⟨_, rfl⟩
    have HCe := Lib.hid hC
    obtain ⟨X, hX⟩ : ∃ X, bytesL K.1 K.2 = X := ⟨_, rfl⟩
    obtain ⟨Y, hY⟩ : ∃ Y, bytesL x.1 x.2 = Y := ⟨_, rfl⟩
    rw [hX] at hsb HBk HXb
    rw [hY] at hsb HBx HYb
    rw [hC] at HBk
    rw [hsb] at hV
    have Hk := Lib.hid hkn
    have HsK := Lib.hid hk
    clear hsb hX hY hC hr hK hl
    by_cases hXY : X = Y
    · rw [decide_eq_true hXY, if_pos rfl] at hV
      subst hXY
      have HV := Lib.hid hV.symm
      clear hV hk
      go_enter Tryd.func51, Tryd.ntmps51
      go_upto_region 1 with (fail)
      refine wp_world (w' := w2) Hw2.out ?_
      rw [Hp.out]
      clear Hw2
      go_wp2_with (refine wpList_load_rowW rfl 34 _ rfl p rfl _ _ _ _ HPB.out Tryd.underlying34 rfl (by rw [Hsz.out]; kernel_rfl) ?_)
      refine (HFo.out w2 HE.out).mono ?_
      rintro e w3 ⟨rfl, hE⟩
      have HE := Lib.hid (HE.out.trans hE)
      have HPB := Lib.hid (hE.keep HPB.out)
      have HPH := Lib.hid (hE.keep HPH.out)
      clear hE HFo
      have c0 := hd_writer HPH.out
      rw [Hxw.out] at c0
      have c1 := hd_seq HPH.out
      rw [Hxs.out] at c1
      go_upto_region 4 with (fail)
      have HX0 := Lib.hid (show ∀ x, Ext w3.drew x → Ext w3 x from fun x hx => Ext.trans (Ext.refl w3).drew hx)
      have HX1 := Lib.hid (show ∀ x, Ext w3.drew x → Ext w x from fun x hx => HE.out.trans (HX0.out x hx))
      refine wp_region_lexA (by kernel_rfl) (by kernel_rfl) ?_
      refine lx_e (.slice (some ⟨b, off, none⟩) n c) [] (by kernel_rfl) rfl (by rfl) (fun w1 hw1 => ?_) ?_
      · simp only [pk, lexVals]
        go_simp
        exact ⟨Ext.refl _, rfl⟩
      refine lx_e (.pointer (some ⟨p, 1, none⟩)) [] (by kernel_rfl) rfl (by rfl) (fun w1 hw1 => ?_) ?_
      · simp only [pk, lexVals]
        go_simp
        exact ⟨Ext.refl _, rfl⟩
      refine lx_e (.int .u64 s) [(0, 23)] (by kernel_rfl) rfl (by rfl) (fun w1 hw1 => ?_) ?_
      · simp only [pk, nthSp, lexVals]
        have hc := hd_seq (show w1.heap[p]? = _ from (HX0.out w1 hw1).keep HPH.out)
        rw [Hxs.out] at hc
        clear hw1
        go_simp
        exact ⟨Ext.refl _, rfl⟩
      refine lx_e (.int .u64 (k : Int)) [(0, 24)] (by kernel_rfl) rfl (by rfl) (fun w1 hw1 => ?_) ?_
      · simp only [pk, nthSp, lexVals]
        go_simp
        exact ⟨Ext.refl _, rfl⟩
      refine lx_e (.pointer (some ⟨b, off + k * 125, none⟩)) [(3, 22), (0, 25)] (by kernel_rfl) rfl (by rfl) (fun w1 hw1 => ?_) ?_
      · simp only [pk, nthSp, lexVals]
        exact lu_hidxU rfl rfl rfl Hk.out
      refine lx_e (.agg C) [(0, 26)] (by kernel_rfl) rfl (by rfl) (fun w1 hw1 => ?_) ?_
      · simp only [pk, nthSp, lexVals]
        rw [← HCe.out]
        exact lu_hmid rfl rfl (HKr.out w1 (HX1.out w1 hw1))
      refine lx_a (fun u w => ∃ q n c, u = .slice q n c ∧ BsAt w q n c X) [(0, 27)] (by kernel_rfl) rfl (by rfl) (fun u w w' he ⟨q, n, c, h1, h2⟩ => ⟨q, n, c, h1, h2.ext he⟩) (fun w1 hw1 => ?_) ?_
      · simp only [pk, nthSp, lexVals]
        have HM := Lib.hid (HBk.out w1 (HX1.out w1 hw1))
        clear hw1
        go_simp
        refine HM.out.mono ?_
        rintro e w2 ⟨v2, rfl, hs, hE2⟩
        exact ⟨_, rfl, hE2, hs⟩
      refine lx_e (.string (strOf X)) [(0, 28)] (by kernel_rfl) rfl (by rfl) (fun w1 hw1 => ?_) ?_
      · simp only [pk, nthSp, lexVals]
        rintro u28 ⟨q28, n28, c28, rfl, h28⟩
        exact lu_str rfl rfl h28
      refine lx_e (.agg A) [] (by kernel_rfl) rfl (by rfl) (fun w1 hw1 => ?_) ?_
      · simp only [pk, lexVals]
        exact lu_row rfl rfl ((HX0.out w1 hw1).keep HPB.out) Tryd.underlying34 rfl (by rw [Hsz.out]; kernel_rfl)
      refine lx_a (fun u w => ∃ q n c, u = .slice q n c ∧ BsAt w q n c X) [(0, 30)] (by kernel_rfl) rfl (by rfl) (fun u w w' he ⟨q, n, c, h1, h2⟩ => ⟨q, n, c, h1, h2.ext he⟩) (fun w1 hw1 => ?_) ?_
      · simp only [pk, nthSp, lexVals]
        have HM := Lib.hid (HBx.out w1 (HX1.out w1 hw1))
        clear hw1
        go_simp
        refine HM.out.mono ?_
        rintro e w2 ⟨v2, rfl, hs, hE2⟩
        exact ⟨_, rfl, hE2, hs⟩
      refine lx_e (.string (strOf X)) [(0, 31)] (by kernel_rfl) rfl (by rfl) (fun w1 hw1 => ?_) ?_
      · simp only [pk, nthSp, lexVals]
        rintro u31 ⟨q31, n31, c31, rfl, h31⟩
        exact lu_str rfl rfl h31
      refine lx_e (.bool true) [(3, 29), (0, 32)] (by kernel_rfl) rfl (by rfl) (fun w1 hw1 => ?_) ?_
      · simp only [pk, nthSp, lexVals]
        go_simp
        exact ⟨Ext.refl _, rfl⟩
      refine lx_stopA (by rfl) fun w6 hw6 => ?_
      have HE := Lib.hid (HX1.out w6 hw6)
      have HPB := Lib.hid ((HX0.out w6 hw6).keep HPB.out)
      have HPH := Lib.hid ((HX0.out w6 hw6).keep HPH.out)
      clear hw6 HX0 HX1
      simp only [rv, pf, lexVals]
      rintro u28 ⟨q28, n28, c28, rfl, -⟩ u31 ⟨q31, n31, c31, rfl, -⟩
      simp only [Act.put, List.setIfInBounds_toArray, List.set_cons_zero, List.set_cons_succ]
      go_wp2
      go_ret
      exact ⟨by rw [HV.out]; rfl, HE.out⟩
    · rw [decide_eq_false hXY, if_neg (by simp)] at hV
      have hne : ¬ strOf X = strOf Y := fun q => hXY (by rw [← strB_strOf HXb.out, q, strB_strOf HYb.out])
      have hne2 : ((strOf X).toList == (strOf Y).toList) = false := beq_eq_false_iff_ne.2 fun q => hne (by
        rw [ByteArray.toList_eq, ByteArray.toList_eq] at q
        exact ByteArray.ext (Array.ext' q))
      have HV := Lib.hid hV.symm
      clear hV hk
      go_enter Tryd.func51, Tryd.ntmps51
      go_upto_region 1 with (fail)
      refine wp_world (w' := w2) Hw2.out ?_
      rw [Hp.out]
      clear Hw2
      go_wp2_with (refine wpList_load_rowW rfl 34 _ rfl p rfl _ _ _ _ HPB.out Tryd.underlying34 rfl (by rw [Hsz.out]; kernel_rfl) ?_)
      refine (HFo.out w2 HE.out).mono ?_
      rintro e w3 ⟨rfl, hE⟩
      have HE := Lib.hid (HE.out.trans hE)
      have HPB := Lib.hid (hE.keep HPB.out)
      have HPH := Lib.hid (hE.keep HPH.out)
      clear hE HFo
      have c0 := hd_writer HPH.out
      rw [Hxw.out] at c0
      have c1 := hd_seq HPH.out
      rw [Hxs.out] at c1
      go_upto_region 4 with (fail)
      have HX0 := Lib.hid (show ∀ x, Ext w3.drew x → Ext w3 x from fun x hx => Ext.trans (Ext.refl w3).drew hx)
      have HX1 := Lib.hid (show ∀ x, Ext w3.drew x → Ext w x from fun x hx => HE.out.trans (HX0.out x hx))
      refine wp_region_lexA (by kernel_rfl) (by kernel_rfl) ?_
      refine lx_e (.slice (some ⟨b, off, none⟩) n c) [] (by kernel_rfl) rfl (by rfl) (fun w1 hw1 => ?_) ?_
      · simp only [pk, lexVals]
        go_simp
        exact ⟨Ext.refl _, rfl⟩
      refine lx_e (.pointer (some ⟨p, 1, none⟩)) [] (by kernel_rfl) rfl (by rfl) (fun w1 hw1 => ?_) ?_
      · simp only [pk, lexVals]
        go_simp
        exact ⟨Ext.refl _, rfl⟩
      refine lx_e (.int .u64 s) [(0, 23)] (by kernel_rfl) rfl (by rfl) (fun w1 hw1 => ?_) ?_
      · simp only [pk, nthSp, lexVals]
        have hc := hd_seq (show w1.heap[p]? = _ from (HX0.out w1 hw1).keep HPH.out)
        rw [Hxs.out] at hc
        clear hw1
        go_simp
        exact ⟨Ext.refl _, rfl⟩
      refine lx_e (.int .u64 (k : Int)) [(0, 24)] (by kernel_rfl) rfl (by rfl) (fun w1 hw1 => ?_) ?_
      · simp only [pk, nthSp, lexVals]
        go_simp
        exact ⟨Ext.refl _, rfl⟩
      refine lx_e (.pointer (some ⟨b, off + k * 125, none⟩)) [(3, 22), (0, 25)] (by kernel_rfl) rfl (by rfl) (fun w1 hw1 => ?_) ?_
      · simp only [pk, nthSp, lexVals]
        exact lu_hidxU rfl rfl rfl Hk.out
      refine lx_e (.agg C) [(0, 26)] (by kernel_rfl) rfl (by rfl) (fun w1 hw1 => ?_) ?_
      · simp only [pk, nthSp, lexVals]
        rw [← HCe.out]
        exact lu_hmid rfl rfl (HKr.out w1 (HX1.out w1 hw1))
      refine lx_a (fun u w => ∃ q n c, u = .slice q n c ∧ BsAt w q n c X) [(0, 27)] (by kernel_rfl) rfl (by rfl) (fun u w w' he ⟨q, n, c, h1, h2⟩ => ⟨q, n, c, h1, h2.ext he⟩) (fun w1 hw1 => ?_) ?_
      · simp only [pk, nthSp, lexVals]
        have HM := Lib.hid (HBk.out w1 (HX1.out w1 hw1))
        clear hw1
        go_simp
        refine HM.out.mono ?_
        rintro e w2 ⟨v2, rfl, hs, hE2⟩
        exact ⟨_, rfl, hE2, hs⟩
      refine lx_e (.string (strOf X)) [(0, 28)] (by kernel_rfl) rfl (by rfl) (fun w1 hw1 => ?_) ?_
      · simp only [pk, nthSp, lexVals]
        rintro u28 ⟨q28, n28, c28, rfl, h28⟩
        exact lu_str rfl rfl h28
      refine lx_e (.agg A) [] (by kernel_rfl) rfl (by rfl) (fun w1 hw1 => ?_) ?_
      · simp only [pk, lexVals]
        exact lu_row rfl rfl ((HX0.out w1 hw1).keep HPB.out) Tryd.underlying34 rfl (by rw [Hsz.out]; kernel_rfl)
      refine lx_a (fun u w => ∃ q n c, u = .slice q n c ∧ BsAt w q n c Y) [(0, 30)] (by kernel_rfl) rfl (by rfl) (fun u w w' he ⟨q, n, c, h1, h2⟩ => ⟨q, n, c, h1, h2.ext he⟩) (fun w1 hw1 => ?_) ?_
      · simp only [pk, nthSp, lexVals]
        have HM := Lib.hid (HBx.out w1 (HX1.out w1 hw1))
        clear hw1
        go_simp
        refine HM.out.mono ?_
        rintro e w2 ⟨v2, rfl, hs, hE2⟩
        exact ⟨_, rfl, hE2, hs⟩
      refine lx_e (.string (strOf Y)) [(0, 31)] (by kernel_rfl) rfl (by rfl) (fun w1 hw1 => ?_) ?_
      · simp only [pk, nthSp, lexVals]
        rintro u31 ⟨q31, n31, c31, rfl, h31⟩
        exact lu_str rfl rfl h31
      refine lx_e (.bool false) [(3, 29), (0, 32)] (by kernel_rfl) rfl (by rfl) (fun w1 hw1 => ?_) ?_
      · simp only [pk, nthSp, lexVals]
        go_simp
        exact ⟨Ext.refl _, rfl⟩
      refine lx_stopA (by rfl) fun w6 hw6 => ?_
      have HE := Lib.hid (HX1.out w6 hw6)
      have HPB := Lib.hid ((HX0.out w6 hw6).keep HPB.out)
      have HPH := Lib.hid ((HX0.out w6 hw6).keep HPH.out)
      clear hw6 HX0 HX1
      simp only [rv, pf, lexVals]
      rintro u28 ⟨q28, n28, c28, rfl, -⟩ u31 ⟨q31, n31, c31, rfl, -⟩
      simp only [Act.put, List.setIfInBounds_toArray, List.set_cons_zero, List.set_cons_succ]
      go_wp2
      go_ret
      exact ⟨by rw [HV.out]; rfl, HE.out⟩
  · rw [if_neg (fun q => hin q.2)] at hV
    by_cases hO : (n : Int) + 1 < s
    · rw [if_pos hO] at hV
      have HV := Lib.hid hV.symm
      clear hV
      go_enter Tryd.func51, Tryd.ntmps51
      go_upto_region 1 with (fail)
      refine wp_world (w' := w2) Hw2.out ?_
      rw [Hp.out]
      clear Hw2
      go_wp2_with (refine wpList_load_rowW rfl 34 _ rfl p rfl _ _ _ _ HPB.out Tryd.underlying34 rfl (by rw [Hsz.out]; kernel_rfl) ?_)
      refine (HFo.out w2 HE.out).mono ?_
      rintro e w3 ⟨rfl, hE⟩
      have HE := Lib.hid (HE.out.trans hE)
      have HPB := Lib.hid (hE.keep HPB.out)
      have HPH := Lib.hid (hE.keep HPH.out)
      clear hE HFo
      have c0 := hd_writer HPH.out
      rw [Hxw.out] at c0
      have c1 := hd_seq HPH.out
      rw [Hxs.out] at c1
      go_wp2
      go_ret
      exact ⟨by rw [HV.out]; rfl, HE.out⟩
    · rw [if_neg hO] at hV
      have kne2 := fun w => kne w x.1.prev T
      obtain ⟨Pq, hPq⟩ : ∃ P, arrB 32 x.1.prev T = P := ⟨_, rfl⟩
      rw [hPq] at hV kne2
      clear kne hPq
      cases Pq with
      | true =>
        have HV := Lib.hid hV.symm
        clear hV
        go_enter Tryd.func51, Tryd.ntmps51
        go_upto_region 1 with (fail)
        refine wp_world (w' := w2) Hw2.out ?_
        rw [Hp.out]
        clear Hw2
        go_wp2_with (refine wpList_load_rowW rfl 34 _ rfl p rfl _ _ _ _ HPB.out Tryd.underlying34 rfl (by rw [Hsz.out]; kernel_rfl) ?_)
        refine (HFo.out w2 HE.out).mono ?_
        rintro e w3 ⟨rfl, hE⟩
        have HE := Lib.hid (HE.out.trans hE)
        have HPB := Lib.hid (hE.keep HPB.out)
        have HPH := Lib.hid (hE.keep HPH.out)
        clear hE HFo
        have c0 := hd_writer HPH.out
        rw [Hxw.out] at c0
        have c1 := hd_seq HPH.out
        rw [Hxs.out] at c1
        go_upto_region 9 with (fail)
        have HX0 := Lib.hid (show ∀ x, Ext w3.drew x → Ext w3 x from fun x hx => Ext.trans (Ext.refl w3).drew hx)
        have HX1 := Lib.hid (show ∀ x, Ext w3.drew x → Ext w x from fun x hx => HE.out.trans (HX0.out x hx))
        refine wp_region_lexA (by kernel_rfl) (by kernel_rfl) ?_
        refine lx_e (.pointer (some ⟨p, 2, none⟩)) [] (by kernel_rfl) rfl (by rfl) (fun w1 hw1 => ?_) ?_
        · simp only [pk, lexVals]
          go_simp
          exact ⟨Ext.refl _, rfl⟩
        refine lx_e (.agg (rowArr 32 fun j => .int .u8 (x.1.prev j))) [(0, 41)] (by kernel_rfl) rfl (by rfl) (fun w1 hw1 => ?_) ?_
        · simp only [pk, nthSp, lexVals]
          exact lu_sub rfl rfl Tryd.underlying28 (size_h32 w1) (hd_prev (show w1.heap[p]? = _ from (HX0.out w1 hw1).keep HPH.out))
        refine lx_e (.slice a n c) [] (by kernel_rfl) rfl (by rfl) (fun w1 hw1 => ?_) ?_
        · simp only [pk, lexVals]
          go_simp
          exact ⟨Ext.refl _, rfl⟩
        refine lx_e (.agg (rowArr 32 fun j => .int .u8 (T j))) [(0, 43)] (by kernel_rfl) rfl (by rfl) (fun w1 hw1 => ?_) ?_
        · simp only [pk, nthSp, lexVals]
          have HM := Lib.hid (HTp.out w1 (HX1.out w1 hw1))
          clear hw1
          go_simp
          refine HM.out.mono ?_
          rintro e w2 ⟨rfl, hE2⟩
          exact ⟨_, rfl, hE2, rfl⟩
        refine lx_e (.bool false) [(2, 42), (0, 44)] (by kernel_rfl) rfl (by rfl) (fun w1 hw1 => ?_) ?_
        · simp only [pk, nthSp, lexVals]
          go_simp
          exact ⟨Ext.refl _, rfl⟩
        refine lx_stopA (by rfl) fun w6 hw6 => ?_
        have HE := Lib.hid (HX1.out w6 hw6)
        have HPB := Lib.hid ((HX0.out w6 hw6).keep HPB.out)
        have HPH := Lib.hid ((HX0.out w6 hw6).keep HPH.out)
        clear hw6 HX0 HX1
        simp only [rv, pf, lexVals]
        simp only [Act.put, List.setIfInBounds_toArray, List.set_cons_zero, List.set_cons_succ]
        go_wp2
        go_ret
        exact ⟨by rw [HV.out]; rfl, HE.out⟩
      | false =>
        have HV := Lib.hid hV.symm
        clear hV
        go_enter Tryd.func51, Tryd.ntmps51
        go_upto_region 1 with (fail)
        refine wp_world (w' := w2) Hw2.out ?_
        rw [Hp.out]
        clear Hw2
        go_wp2_with (refine wpList_load_rowW rfl 34 _ rfl p rfl _ _ _ _ HPB.out Tryd.underlying34 rfl (by rw [Hsz.out]; kernel_rfl) ?_)
        refine (HFo.out w2 HE.out).mono ?_
        rintro e w3 ⟨rfl, hE⟩
        have HE := Lib.hid (HE.out.trans hE)
        have HPB := Lib.hid (hE.keep HPB.out)
        have HPH := Lib.hid (hE.keep HPH.out)
        clear hE HFo
        have c0 := hd_writer HPH.out
        rw [Hxw.out] at c0
        have c1 := hd_seq HPH.out
        rw [Hxs.out] at c1
        go_upto_region 9 with (fail)
        have HX0 := Lib.hid (show ∀ x, Ext w3.drew x → Ext w3 x from fun x hx => Ext.trans (Ext.refl w3).drew hx)
        have HX1 := Lib.hid (show ∀ x, Ext w3.drew x → Ext w x from fun x hx => HE.out.trans (HX0.out x hx))
        refine wp_region_lexA (by kernel_rfl) (by kernel_rfl) ?_
        refine lx_e (.pointer (some ⟨p, 2, none⟩)) [] (by kernel_rfl) rfl (by rfl) (fun w1 hw1 => ?_) ?_
        · simp only [pk, lexVals]
          go_simp
          exact ⟨Ext.refl _, rfl⟩
        refine lx_e (.agg (rowArr 32 fun j => .int .u8 (x.1.prev j))) [(0, 41)] (by kernel_rfl) rfl (by rfl) (fun w1 hw1 => ?_) ?_
        · simp only [pk, nthSp, lexVals]
          exact lu_sub rfl rfl Tryd.underlying28 (size_h32 w1) (hd_prev (show w1.heap[p]? = _ from (HX0.out w1 hw1).keep HPH.out))
        refine lx_e (.slice a n c) [] (by kernel_rfl) rfl (by rfl) (fun w1 hw1 => ?_) ?_
        · simp only [pk, lexVals]
          go_simp
          exact ⟨Ext.refl _, rfl⟩
        refine lx_e (.agg (rowArr 32 fun j => .int .u8 (T j))) [(0, 43)] (by kernel_rfl) rfl (by rfl) (fun w1 hw1 => ?_) ?_
        · simp only [pk, nthSp, lexVals]
          have HM := Lib.hid (HTp.out w1 (HX1.out w1 hw1))
          clear hw1
          go_simp
          refine HM.out.mono ?_
          rintro e w2 ⟨rfl, hE2⟩
          exact ⟨_, rfl, hE2, rfl⟩
        refine lx_e (.bool true) [(2, 42), (0, 44)] (by kernel_rfl) rfl (by rfl) (fun w1 hw1 => ?_) ?_
        · simp only [pk, nthSp, lexVals]
          go_simp
          exact ⟨Ext.refl _, rfl⟩
        refine lx_stopA (by rfl) fun w6 hw6 => ?_
        have HE := Lib.hid (HX1.out w6 hw6)
        have HPB := Lib.hid ((HX0.out w6 hw6).keep HPB.out)
        have HPH := Lib.hid ((HX0.out w6 hw6).keep HPH.out)
        clear hw6 HX0 HX1
        simp only [rv, pf, lexVals]
        simp only [Act.put, List.setIfInBounds_toArray, List.set_cons_zero, List.set_cons_succ]
        go_wp2
        go_ret
        exact ⟨by rw [HV.out]; rfl, HE.out⟩

end Go.Proofs.YtihlpfdhallfpaaDoor
