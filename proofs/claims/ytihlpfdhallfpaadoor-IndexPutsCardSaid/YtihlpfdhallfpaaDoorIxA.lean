/-
  The walks of an index's Count and Ask. Asked: the table of 64 words lies as the text lays it.
-/
import Derived.Test.YtihlpfdhallfpaaDoorIx
import Derived.Test.YtihlpfdhallfpaaDoorPc
namespace Go.Proofs.YtihlpfdhallfpaaDoor
open Go.ChangeShapes Go.WideShapes Go.ChangeAt Go.RowKit

theorem wp_hmidI {ops : Array Oper} {Q : Exit → Act → World → Prop} {rest : List Oper} {o : Oper} {a : Act} {w : World} (hw : Region.wanted o (yielded ops a.tmps) = true) (x : Operand) (ho : o.op = .load 34 x)
    (b off : Nat) (h : Hd) (hx : a.eval x = .pointer (some ⟨b, off, none⟩)) (hr : w.rangeAt b off (hdL h)) (k : wpList Tryd.prog ops Q rest (a.put o.dst (.agg (hdV h))) w) : wpList Tryd.prog ops Q (o :: rest) a w := by
  refine wpList_want hw fun K hK => ?_
  unfold Oper.wp execOp
  simp only [ho, hx, Instr.loadAt, Instr.sureAddr, Sem.run_bind, Sem.run_pure, Result.andThen_ok, run_loadVar_mid w b off 34 (hdL h) _ hr Tryd.underlying34 rfl (by rw [hdL_length]; exact info_hd125)]
  exact hK _ _ k
theorem IxAt.cells {w : World} {B gx : Nat} {G : Nat → Nat} {S : Nat → CSt} {cnt : Int} (h : IxAt w B gx G S cnt) : (∀ i, i < 6 → w.cell? ⟨gx, i, none⟩ = some (.pointer (some ⟨G i, 0, none⟩))) ∧ (∀ i, i < 6 → w.cell? ⟨gx, 6 + i, none⟩ = some (.slice (S i).ba (S i).bl.length (S i).bc)) ∧ w.cell? ⟨gx, 12, none⟩ = some (.int .i64 cnt) := by
  refine ⟨fun i hi => ?_, fun i hi => ?_, ?_⟩
  · rw [h.row.cell (i := i) (by omega)]
    unfold ixC
    rw [if_pos hi]
  · rw [h.row.cell (i := 6 + i) (by omega)]
    unfold ixC
    rw [if_neg (by omega), if_pos (by omega), show 6 + i - 6 = i by omega]
  · exact h.row.cell (i := 12) (by omega)
theorem ixCount_any {w : World} {B gx : Nat} {G : Nat → Nat} {S : Nat → CSt} {cnt : Int} (h : IxAt w B gx G S cnt) :
    Calls Tryd.prog 13 #[.pointer (some ⟨gx, 0, none⟩)] w fun e w' => e = .returned (.int .i64 cnt) ∧ Ext w w' := by
  have c12 := h.cells.2.2
  clear h
  go_enter Tryd.func13, Tryd.ntmps13
  go_wp2
  go_ret
  exact ⟨rfl, Ext.refl _⟩

/-- What Ask answers. -/
def ixAsk (S : Nat → CSt) (cnt : Int) (p : Pc) : Int :=
  if hdB p.hd.1 p.hd.2 = true then
    if askV p.hd.1.writer (S (p.hd.1.writer - 1).toNat).l (S (p.hd.1.writer - 1).toNat).T p.hd = 0 then if wholeB p = true then if 400 ≤ cnt then 4 else 0 else 2
    else askV p.hd.1.writer (S (p.hd.1.writer - 1).toNat).l (S (p.hd.1.writer - 1).toNat).T p.hd
  else 1
/-- Of a size that is walked. -/
def Modest (S : Nat → CSt) : Prop := ∀ i, i < 6 → (S i).l.length ≤ 1000 ∧ (S i).bl.length ≤ 1000 ∧ ∀ x ∈ (S i).l, x.1.tn ≤ 1000000

set_option maxHeartbeats 8000000 in
set_option maxRecDepth 100000 in
theorem ixAsk_any {w : World} {B gx : Nat} {G : Nat → Nat} {S : Nat → CSt} {cnt : Int} (h0 : IxAt w B gx G S cnt) (hm : Modest S) (hc : 0 ≤ cnt ∧ cnt ≤ 1000) (p : Pc) (hp : PcAt w p) (hk : KsAt 1 w) :
    Calls Tryd.prog 28 #[.pointer (some ⟨gx, 0, none⟩), .agg (pcV p)] w fun e w' => e = .returned (.int .i64 (ixAsk S cnt p)) ∧ Ext w w' := by
  obtain ⟨w2, hw2⟩ : ∃ x, w.alloc (.cells (pcV p) 37) = x := ⟨_, rfl⟩
  have hE2 : Ext w w2 := by rw [← hw2]; exact (Ext.refl w).alloc _
  have hB2 : w2.heap[w.heap.size]? = some (.cells (pcV p) 37 (0, 0)) := by rw [← hw2]; exact heap_new w _ _ rfl
  obtain ⟨g, hg⟩ : ∃ g, w.heap.size = g := ⟨_, rfl⟩
  rw [hg] at hB2
  have Hg := Lib.hid hg
  have Hw2 := Lib.hid hw2
  have HE2 := Lib.hid hE2
  have HB2 := Lib.hid hB2
  have Hsz := Lib.hid (pcV_size p)
  have HRh := Lib.hid (fun x (hx : Ext w2 x) => pc_rh (hx.keep hB2))
  have HRh0 := Lib.hid (pc_rh hB2)
  have HFo := Lib.hid (formedHd_any p.hd.1 p.hd.2 w2 (hp.hd.ext hE2).ok (hp.hd.ext hE2).toks)
  have HWh := Lib.hid (fun x (hx : Ext w2 x) => whole_any p x (hp.ext (hE2.trans hx)) (hdKs_ext hk (hE2.trans hx)))
  have C12 := Lib.hid (fun x (hx : Ext w2 x) => (h0.ext (hE2.trans hx)).cells.2.2)
  have hC0 := fun x (hx : Ext w2 x) => pc_hd (hx.keep hB2) 0 (by omega)
  unfold ixAsk
  cases hF : hdB p.hd.1 p.hd.2 with
  | false =>
    rw [hF] at HFo
    rw [if_neg (by simp)]
    obtain ⟨PV, hPV⟩ : ∃ x, pcV p = x := ⟨_, rfl⟩
    rw [hPV] at Hw2 ⊢
    obtain ⟨h, hh⟩ : ∃ x, p.hd.1 = x := ⟨_, rfl⟩
    rw [hh] at HRh0 HFo
    clear hw2 hE2 hB2 hg hF h0 hm hp hk hC0 hPV hh HRh
    go_enter Tryd.func28, Tryd.ntmps28
    go_upto_region 1 with (fail)
    refine wp_world (w' := w2) Hw2.out ?_
    rw [Hg.out]
    go_wp2_with (refine wp_hmidI rfl _ rfl g 0 h rfl HRh0.out ?_)
    refine HFo.out.mono ?_
    rintro e w3 ⟨rfl, hE⟩
    have HE := Lib.hid (HE2.out.trans hE)
    clear hE
    go_wp2
    go_ret
    exact ⟨rfl, HE.out⟩
  | true =>
    have hbd := (hdB_bd hF).1
    obtain ⟨i, hiw, hi⟩ : ∃ i : Nat, p.hd.1.writer = (i : Int) + 1 ∧ i < 6 := ⟨(p.hd.1.writer - 1).toNat, by omega, by omega⟩
    rw [hF] at HFo
    rw [if_pos rfl, hiw, show ((i : Int) + 1 - 1).toNat = i by omega]
    have Hi := Lib.hid hi
    have hch := h0.ch i hi
    have HAs := Lib.hid (fun x (hx : Ext w2 x) => ask_any (hch.ext (hE2.trans hx)) (by have := (hm i hi).1; omega) (hm i hi).2.2 p.hd (hp.hd.ext (hE2.trans hx)))
    have CG := Lib.hid (fun x (hx : Ext w2 x) => (h0.ext (hE2.trans hx)).cells.1 i hi)
    have C0 := Lib.hid (show ∀ x, Ext w2 x → x.cell? ⟨g, 0, none⟩ = some (.int .i64 ((i : Int) + 1)) from fun x hx => by rw [hC0 x hx, ← hiw]; rfl)
    obtain ⟨V, hV⟩ : ∃ x, askV ((i : Int) + 1) (S i).l (S i).T p.hd = x := ⟨_, rfl⟩
    obtain ⟨q, hq⟩ : ∃ x, G i = x := ⟨_, rfl⟩
    obtain ⟨PV, hPV⟩ : ∃ x, pcV p = x := ⟨_, rfl⟩
    obtain ⟨W, hW⟩ : ∃ x, wholeB p = x := ⟨_, rfl⟩
    obtain ⟨h, hh⟩ : ∃ x, p.hd.1 = x := ⟨_, rfl⟩
    rw [hV, hq] at HAs
    rw [hq] at CG
    rw [hPV] at Hw2 HWh HB2 Hsz ⊢
    rw [hV, hW]
    rw [hW] at HWh
    rw [hh] at HRh HRh0 HFo HAs
    clear hw2 hE2 hB2 hg hF h0 hm hp hk hC0 hbd hiw hi hch hV hq hPV hW hh
    go_enter Tryd.func28, Tryd.ntmps28
    go_upto_region 1 with (fail)
    refine wp_world (w' := w2) Hw2.out ?_
    rw [Hg.out]
    clear Hw2
    go_wp2_with (refine wp_hmidI rfl _ rfl g 0 h rfl HRh0.out ?_)
    refine HFo.out.mono ?_
    rintro e w3 ⟨rfl, hE⟩
    have HE3 := Lib.hid hE
    clear hE HFo HRh0
    go_upto_region 3 with (fail)
    have HX := Lib.hid (show ∀ x, Ext w3.drew x → Ext w2 x from fun x hx => HE3.out.trans (Ext.trans (Ext.refl w3).drew hx))
    refine wp_region_lexA (by kernel_rfl) (by kernel_rfl) ?_
    refine lx_e (.pointer (some ⟨gx, 0, none⟩)) [] (by kernel_rfl) rfl (by rfl) (fun w1 hw1 => ?_) ?_
    · simp only [pk, lexVals]
      go_simp
      exact ⟨Ext.refl _, rfl⟩
    refine lx_e (.pointer (some ⟨g, 0, none⟩)) [] (by kernel_rfl) rfl (by rfl) (fun w1 hw1 => ?_) ?_
    · simp only [pk, lexVals]
      go_simp
      exact ⟨Ext.refl _, rfl⟩
    refine lx_e (.pointer (some ⟨g, 0, none⟩)) [(0, 11)] (by kernel_rfl) rfl (by rfl) (fun w1 hw1 => ?_) ?_
    · simp only [pk, nthSp, lexVals]
      go_simp
      exact ⟨Ext.refl _, rfl⟩
    refine lx_e (.int .i64 ((i : Int) + 1)) [(0, 12)] (by kernel_rfl) rfl (by rfl) (fun w1 hw1 => ?_) ?_
    · simp only [pk, nthSp, lexVals]
      have hc := C0.out w1 (HX.out w1 hw1)
      clear hw1
      go_simp
      exact ⟨Ext.refl _, rfl⟩
    refine lx_e (.int .i64 (i : Int)) [(0, 13)] (by kernel_rfl) rfl (by rfl) (fun w1 hw1 => ?_) ?_
    · simp only [pk, nthSp, lexVals]
      have hi := Hi.out
      clear hw1
      go_simp
      exact ⟨Ext.refl _, by first | rfl | (show Value.int .i64 _ = Value.int .i64 _; congr 1; first | omega | (rw [IntKind.wrap_i64]; omega))⟩
    refine lx_e (.pointer (some ⟨gx, 0, none⟩)) [(4, 10)] (by kernel_rfl) rfl (by rfl) (fun w1 hw1 => ?_) ?_
    · simp only [pk, nthSp, lexVals]
      go_simp
      exact ⟨Ext.refl _, rfl⟩
    refine lx_e (.pointer (some ⟨gx, 0, none⟩)) [(0, 15)] (by kernel_rfl) rfl (by rfl) (fun w1 hw1 => ?_) ?_
    · simp only [pk, nthSp, lexVals]
      go_simp
      exact ⟨Ext.refl _, rfl⟩
    refine lx_e (.pointer (some ⟨gx, i, none⟩)) [(0, 16), (2, 14)] (by kernel_rfl) rfl (by rfl) (fun w1 hw1 => ?_) ?_
    · simp only [pk, nthSp, lexVals]
      have hi := Hi.out
      have hi1 : (i : Int) < 6 := by omega
      clear hw1
      go_simp
      exact ⟨Ext.refl _, by first | rfl | simp⟩
    refine lx_e (.pointer (some ⟨q, 0, none⟩)) [(0, 17)] (by kernel_rfl) rfl (by rfl) (fun w1 hw1 => ?_) ?_
    · simp only [pk, nthSp, lexVals]
      have hc := CG.out w1 (HX.out w1 hw1)
      clear hw1
      go_simp
      exact ⟨Ext.refl _, rfl⟩
    refine lx_e (.pointer (some ⟨g, 0, none⟩)) [] (by kernel_rfl) rfl (by rfl) (fun w1 hw1 => ?_) ?_
    · simp only [pk, lexVals]
      go_simp
      exact ⟨Ext.refl _, rfl⟩
    refine lx_e (.agg (hdV h)) [(0, 19)] (by kernel_rfl) rfl (by rfl) (fun w1 hw1 => ?_) ?_
    · simp only [pk, nthSp, lexVals]
      exact lu_hmid rfl rfl (HRh.out w1 (HX.out w1 hw1))
    refine lx_e (.int .i64 V) [(2, 18), (0, 20)] (by kernel_rfl) rfl (by rfl) (fun w1 hw1 => ?_) ?_
    · simp only [pk, nthSp, lexVals]
      have hm := HAs.out w1 (HX.out w1 hw1)
      have HM := Lib.hid hm
      clear hm hw1
      go_simp
      refine HM.out.mono ?_
      rintro e w2 ⟨rfl, hE2⟩
      exact ⟨_, rfl, hE2, rfl⟩
    refine lx_e (.int .i64 V) [(0, 21)] (by kernel_rfl) rfl (by rfl) (fun w1 hw1 => ?_) ?_
    · simp only [pk, nthSp, lexVals]
      go_simp
      exact ⟨Ext.refl _, rfl⟩
    refine lx_stopA (by rfl) fun w5 hw5 => ?_
    have HE5 := Lib.hid (HX.out w5 hw5)
    clear hw5 HX
    simp only [rv, pf, lexVals]
    simp only [Act.put, List.setIfInBounds_toArray, List.set_cons_zero, List.set_cons_succ]
    by_cases hv : V = 0
    · subst hv
      go_wp2_with (refine wpList_load_rowW rfl 37 _ rfl g rfl _ _ _ _ (HE5.out.keep HB2.out) Tryd.underlying37 rfl (by rw [Hsz.out]; kernel_rfl) ?_)
      refine (HWh.out w5 HE5.out).mono ?_
      rintro e w6 ⟨rfl, hE⟩
      have HE6 := Lib.hid (HE5.out.trans hE)
      clear hE
      cases W with
      | false =>
        go_wp2
        go_ret
        exact ⟨by first | rfl | simp, HE2.out.trans HE6.out⟩
      | true =>
        have c12 := C12.out w6 HE6.out
        by_cases hfull : 400 ≤ cnt
        · go_wp2
          go_ret
          exact ⟨by first | rfl | simp [hfull], HE2.out.trans HE6.out⟩
        · go_wp2
          go_ret
          exact ⟨by first | rfl | simp [hfull], HE2.out.trans HE6.out⟩
    · have y1 : (V == 0) = false := by simpa using hv
      go_wp2
      go_ret
      exact ⟨by first | rfl | simp [hv], HE2.out.trans HE5.out⟩

end Go.Proofs.YtihlpfdhallfpaaDoor
