/-
  The walk of a chain's Ask. No conditions but lengths.
-/
import Derived.Test.YthdgnahokmjkpaaDoorChain
namespace Go.Proofs.YthdgnahokmjkpaaDoor
open Go.ChangeShapes Go.WideShapes Go.ChangeAt Go.RowKit

/-- What comes of a header that is asked of. -/
def askV (wr : Int) (l : List HT) (T : Nat → Int) (x : HT) : Int :=
  if hdB x.1 x.2 = false ∨ x.1.writer ≠ wr then 1 else if 1 ≤ x.1.seq ∧ x.1.seq ≤ (l.length : Int) then (if sameB (l.getD (x.1.seq.toNat - 1) htN).1 x.1 (l.getD (x.1.seq.toNat - 1) htN).2 x.2 = true then 13 else 8)
  else if (l.length : Int) + 1 < x.1.seq then 12 else if arrB 32 x.1.prev T = true then 0 else 7

set_option maxHeartbeats 4000000 in
set_option maxRecDepth 100000 in
theorem ask_any {w : World} {B g : Nat} {wr : Int} {a : Option Addr} {c : Nat} {l : List HT} {T : Nat → Int} (h : ChAt w B g wr a c l T) (hs : l.length ≤ 100000) (htn : ∀ x ∈ l, x.1.tn ≤ 1000000) (x : HT) (hx : HtAt w x) :
    Calls Tryd.prog 12 #[.pointer (some ⟨g, 0, none⟩), .agg (hdV x.1)] w fun e w' => e = .returned (.int .i64 (askV wr l T x)) ∧ Ext w w' := by
  obtain ⟨w2, hw2⟩ : ∃ w2, w.alloc (.cells (hdV x.1) 35) = w2 := ⟨_, rfl⟩
  have hE2 : Ext w w2 := by rw [← hw2]; exact (Ext.refl w).alloc _
  have hB2 : w2.heap[w.heap.size]? = some (.cells (hdV x.1) 35 (0, 0)) := by rw [← hw2]; exact heap_new w _ _ rfl
  obtain ⟨p, hp⟩ : ∃ p, w.heap.size = p := ⟨_, rfl⟩
  rw [hp] at hB2
  have Hp := Lib.hid hp
  have Hw2 := Lib.hid hw2
  have HE := Lib.hid hE2
  have HPB := Lib.hid hB2
  have HPH := Lib.hid hB2
  have HH := Lib.hid h
  have HL := Lib.hid hs
  have HTN := Lib.hid htn
  have Hx := Lib.hid hx
  have Hsz := Lib.hid (hdV_size x.1)
  have HFo := Lib.hid (fun w9 (h9 : Ext w w9) => formedHd_any x.1 x.2 w9 hx.ok (hx.toks.ext h9))
  have kne := neq_h
  obtain ⟨A, hA⟩ : ∃ A, hdV x.1 = A := ⟨_, rfl⟩
  have HAe := Lib.hid hA
  rw [hA] at HPB Hsz HFo Hw2 ⊢
  obtain ⟨xw, hxw⟩ : ∃ v, x.1.writer = v := ⟨_, rfl⟩
  have Hxw := Lib.hid hxw
  obtain ⟨s, hxs⟩ : ∃ v, x.1.seq = v := ⟨_, rfl⟩
  have Hxs := Lib.hid hxs
  have hs0 := hx.ok.seq.1
  have hs1 := hx.ok.seq.2
  obtain ⟨N, hN⟩ : ∃ N, l.length = N := ⟨_, rfl⟩
  have HN := Lib.hid hN
  obtain ⟨V, hV⟩ : ∃ V, askV wr l T x = V := ⟨_, rfl⟩
  rw [hV]
  unfold askV at hV
  rw [hxs] at hs0 hs1
  rw [hxw, hxs, hN] at hV
  rw [hN] at hs
  clear h htn hx hw2 hE2 hB2 hp hA hxw hxs hN
  cases hF : hdB x.1 x.2 with
  | false =>
    rw [hF] at hV HFo
    rw [if_pos (Or.inl rfl)] at hV
    have HV := Lib.hid hV.symm
    clear hV hF
    go_enter Tryd.func12, Tryd.ntmps12
    go_upto_region 1 with (fail)
    refine wp_world (w' := w2) Hw2.out ?_
    rw [Hp.out]
    clear Hw2
    go_upto_region 1 with (fail)
    have HX0 := Lib.hid (show ∀ x, Ext w2.drew x → Ext w2 x from fun x hx => Ext.trans (Ext.refl w2).drew hx)
    have HX1 := Lib.hid (show ∀ x, Ext w2.drew x → Ext w x from fun x hx => HE.out.trans (HX0.out x hx))
    have HX2 := Lib.hid (show ∀ x, Ext w2.drew x → Ext w x from fun x hx => HE.out.trans (HX0.out x hx))
    refine wp_region_lexA (by kernel_rfl) (by kernel_rfl) ?_
    refine lx_e (.agg A) [] (by kernel_rfl) rfl (by rfl) (fun w1 hw1 => ?_) ?_
    · simp only [pk, lexVals]
      exact lu_row rfl rfl ((HX0.out w1 hw1).keep HPB.out) Tryd.underlying35 rfl (by rw [Hsz.out]; kernel_rfl)
    refine lx_e (.bool false) [(0, 7)] (by kernel_rfl) rfl (by rfl) (fun w1 hw1 => ?_) ?_
    · simp only [pk, nthSp, lexVals]
      have HM := Lib.hid (HFo.out w1 (HX1.out w1 hw1))
      clear hw1
      go_simp
      refine HM.out.mono ?_
      rintro e w2 ⟨rfl, hE2⟩
      exact ⟨_, rfl, hE2, rfl⟩
    refine lx_e (.bool true) [(0, 8)] (by kernel_rfl) rfl (by rfl) (fun w1 hw1 => ?_) ?_
    · simp only [pk, nthSp, lexVals]
      go_simp
      exact ⟨Ext.refl _, rfl⟩
    refine lx_e (.bool true) [(0, 9)] (by kernel_rfl) rfl (by rfl) (fun w1 hw1 => ?_) ?_
    · simp only [pk, nthSp, lexVals]
      go_simp
      exact ⟨Ext.refl _, rfl⟩
    refine lx_no [(0, 10)] 10 (by kernel_rfl) rfl (by kernel_rfl) (by rfl) (fun w1 => ?_) ?_
    · simp only [pk, nthSp, lexVals]
      first | (go_simp; done) | (go_simp; exact fun h => by cases h)
    refine lx_no [(0, 11), (1, 10)] 10 (by kernel_rfl) rfl (by kernel_rfl) (by rfl) (fun w1 => ?_) ?_
    · simp only [pk, nthSp, lexVals]
      first | (go_simp; done) | (go_simp; exact fun h => by cases h)
    refine lx_no [(2, 10)] 10 (by kernel_rfl) rfl (by kernel_rfl) (by rfl) (fun w1 => ?_) ?_
    · simp only [pk, nthSp, lexVals]
      first | (go_simp; done) | (go_simp; exact fun h => by cases h)
    refine lx_no [(0, 13), (3, 10)] 10 (by kernel_rfl) rfl (by kernel_rfl) (by rfl) (fun w1 => ?_) ?_
    · simp only [pk, nthSp, lexVals]
      first | (go_simp; done) | (go_simp; exact fun h => by cases h)
    refine lx_no [(0, 14), (4, 10)] 10 (by kernel_rfl) rfl (by kernel_rfl) (by rfl) (fun w1 => ?_) ?_
    · simp only [pk, nthSp, lexVals]
      first | (go_simp; done) | (go_simp; exact fun h => by cases h)
    refine lx_no [(0, 15), (5, 10)] 10 (by kernel_rfl) rfl (by kernel_rfl) (by rfl) (fun w1 => ?_) ?_
    · simp only [pk, nthSp, lexVals]
      first | (go_simp; done) | (go_simp; exact fun h => by cases h)
    refine lx_no [(4, 12), (0, 16), (6, 10)] 10 (by kernel_rfl) rfl (by kernel_rfl) (by rfl) (fun w1 => ?_) ?_
    · simp only [pk, nthSp, lexVals]
      first | (go_simp; done) | (go_simp; exact fun h => by cases h)
    refine lx_e (.bool true) [(7, 10), (0, 17)] (by kernel_rfl) rfl (by rfl) (fun w1 hw1 => ?_) ?_
    · simp only [pk, nthSp, lexVals]
      go_simp
      exact ⟨Ext.refl _, rfl⟩
    refine lx_stopA (by rfl) fun w3 hw3 => ?_
    have HE := Lib.hid (HX1.out w3 hw3)
    have HPB := Lib.hid ((HX0.out w3 hw3).keep HPB.out)
    have HPH := Lib.hid ((HX0.out w3 hw3).keep HPH.out)
    clear hw3 HX0 HX1 HX2
    simp only [rv, pf, lexVals]
    simp only [Act.put, List.setIfInBounds_toArray, List.set_cons_zero, List.set_cons_succ]
    go_wp2
    go_ret
    exact ⟨by rw [HV.out]; rfl, HE.out⟩
  | true =>
  rw [hF] at hV HFo
  clear hF
  by_cases hW : xw = wr
  case neg =>
    have hW2 : (xw == wr) = false := beq_eq_false_iff_ne.2 hW
    have hW3 : (xw != wr) = true := bne_iff_ne.2 hW
    rw [if_pos (Or.inr hW)] at hV
    have HV := Lib.hid hV.symm
    clear hV
    go_enter Tryd.func12, Tryd.ntmps12
    go_upto_region 1 with (fail)
    refine wp_world (w' := w2) Hw2.out ?_
    rw [Hp.out]
    clear Hw2
    go_upto_region 1 with (fail)
    have HX0 := Lib.hid (show ∀ x, Ext w2.drew x → Ext w2 x from fun x hx => Ext.trans (Ext.refl w2).drew hx)
    have HX1 := Lib.hid (show ∀ x, Ext w2.drew x → Ext w x from fun x hx => HE.out.trans (HX0.out x hx))
    have HX2 := Lib.hid (show ∀ x, Ext w2.drew x → Ext w x from fun x hx => HE.out.trans (HX0.out x hx))
    refine wp_region_lexA (by kernel_rfl) (by kernel_rfl) ?_
    refine lx_e (.agg A) [] (by kernel_rfl) rfl (by rfl) (fun w1 hw1 => ?_) ?_
    · simp only [pk, lexVals]
      exact lu_row rfl rfl ((HX0.out w1 hw1).keep HPB.out) Tryd.underlying35 rfl (by rw [Hsz.out]; kernel_rfl)
    refine lx_e (.bool true) [(0, 7)] (by kernel_rfl) rfl (by rfl) (fun w1 hw1 => ?_) ?_
    · simp only [pk, nthSp, lexVals]
      have HM := Lib.hid (HFo.out w1 (HX1.out w1 hw1))
      clear hw1
      go_simp
      refine HM.out.mono ?_
      rintro e w2 ⟨rfl, hE2⟩
      exact ⟨_, rfl, hE2, rfl⟩
    refine lx_e (.bool false) [(0, 8)] (by kernel_rfl) rfl (by rfl) (fun w1 hw1 => ?_) ?_
    · simp only [pk, nthSp, lexVals]
      go_simp
      exact ⟨Ext.refl _, rfl⟩
    refine lx_e (.bool false) [(0, 9)] (by kernel_rfl) rfl (by rfl) (fun w1 hw1 => ?_) ?_
    · simp only [pk, nthSp, lexVals]
      go_simp
      exact ⟨Ext.refl _, rfl⟩
    refine lx_ge (.pointer (some ⟨p, 0, none⟩)) [(0, 10)] 10 (by kernel_rfl) rfl (by kernel_rfl) (by rfl) (fun w1 => ?_) (fun w1 hw1 => ?_) ?_
    · simp only [pk, nthSp, lexVals]
      rfl
    · simp only [pk, nthSp, lexVals]
      go_simp
      exact ⟨Ext.refl _, rfl⟩
    refine lx_ge (.int .i64 xw) [(0, 11), (1, 10)] 10 (by kernel_rfl) rfl (by kernel_rfl) (by rfl) (fun w1 => ?_) (fun w1 hw1 => ?_) ?_
    · simp only [pk, nthSp, lexVals]
      rfl
    · simp only [pk, nthSp, lexVals]
      have hc := hd_writer (show w1.heap[p]? = _ from (HX0.out w1 hw1).keep HPH.out)
      rw [Hxw.out] at hc
      clear hw1
      go_simp
      exact ⟨Ext.refl _, rfl⟩
    refine lx_ge (.pointer (some ⟨g, 0, none⟩)) [(2, 10)] 10 (by kernel_rfl) rfl (by kernel_rfl) (by rfl) (fun w1 => ?_) (fun w1 hw1 => ?_) ?_
    · simp only [pk, nthSp, lexVals]
      rfl
    · simp only [pk, nthSp, lexVals]
      go_simp
      exact ⟨Ext.refl _, rfl⟩
    refine lx_ge (.pointer (some ⟨g, 0, none⟩)) [(0, 13), (3, 10)] 10 (by kernel_rfl) rfl (by kernel_rfl) (by rfl) (fun w1 => ?_) (fun w1 hw1 => ?_) ?_
    · simp only [pk, nthSp, lexVals]
      rfl
    · simp only [pk, nthSp, lexVals]
      go_simp
      exact ⟨Ext.refl _, rfl⟩
    refine lx_ge (.pointer (some ⟨g, 0, none⟩)) [(0, 14), (4, 10)] 10 (by kernel_rfl) rfl (by kernel_rfl) (by rfl) (fun w1 => ?_) (fun w1 hw1 => ?_) ?_
    · simp only [pk, nthSp, lexVals]
      rfl
    · simp only [pk, nthSp, lexVals]
      go_simp
      exact ⟨Ext.refl _, rfl⟩
    refine lx_ge (.int .i64 wr) [(0, 15), (5, 10)] 10 (by kernel_rfl) rfl (by kernel_rfl) (by rfl) (fun w1 => ?_) (fun w1 hw1 => ?_) ?_
    · simp only [pk, nthSp, lexVals]
      rfl
    · simp only [pk, nthSp, lexVals]
      have hc := (HH.out.ext (HX2.out w1 hw1)).cells.1
      clear hw1
      go_simp
      exact ⟨Ext.refl _, rfl⟩
    refine lx_ge (.bool true) [(4, 12), (0, 16), (6, 10)] 10 (by kernel_rfl) rfl (by kernel_rfl) (by rfl) (fun w1 => ?_) (fun w1 hw1 => ?_) ?_
    · simp only [pk, nthSp, lexVals]
      rfl
    · simp only [pk, nthSp, lexVals]
      go_simp
      exact ⟨Ext.refl _, rfl⟩
    refine lx_e (.bool true) [(7, 10), (0, 17)] (by kernel_rfl) rfl (by rfl) (fun w1 hw1 => ?_) ?_
    · simp only [pk, nthSp, lexVals]
      go_simp
      exact ⟨Ext.refl _, rfl⟩
    refine lx_stopA (by rfl) fun w3 hw3 => ?_
    have HE := Lib.hid (HX1.out w3 hw3)
    have HPB := Lib.hid ((HX0.out w3 hw3).keep HPB.out)
    have HPH := Lib.hid ((HX0.out w3 hw3).keep HPH.out)
    clear hw3 HX0 HX1 HX2
    simp only [rv, pf, lexVals]
    simp only [Act.put, List.setIfInBounds_toArray, List.set_cons_zero, List.set_cons_succ]
    go_wp2
    go_ret
    exact ⟨by rw [HV.out]; rfl, HE.out⟩
  subst hW
  rw [if_neg (by simp)] at hV
  obtain ⟨K, hK⟩ : ∃ K, l.getD (s.toNat - 1) htN = K := ⟨_, rfl⟩
  rw [hK] at hV
  have HK := Lib.hid hK
  clear hK
  have HV0 := Lib.hid hV
  clear hV
  go_enter Tryd.func12, Tryd.ntmps12
  go_upto_region 1 with (fail)
  refine wp_world (w' := w2) Hw2.out ?_
  rw [Hp.out]
  clear Hw2
  go_upto_region 1 with (fail)
  have HX0 := Lib.hid (show ∀ x, Ext w2.drew x → Ext w2 x from fun x hx => Ext.trans (Ext.refl w2).drew hx)
  have HX1 := Lib.hid (show ∀ x, Ext w2.drew x → Ext w x from fun x hx => HE.out.trans (HX0.out x hx))
  have HX2 := Lib.hid (show ∀ x, Ext w2.drew x → Ext w x from fun x hx => HE.out.trans (HX0.out x hx))
  refine wp_region_lexA (by kernel_rfl) (by kernel_rfl) ?_
  refine lx_e (.agg A) [] (by kernel_rfl) rfl (by rfl) (fun w1 hw1 => ?_) ?_
  · simp only [pk, lexVals]
    exact lu_row rfl rfl ((HX0.out w1 hw1).keep HPB.out) Tryd.underlying35 rfl (by rw [Hsz.out]; kernel_rfl)
  refine lx_e (.bool true) [(0, 7)] (by kernel_rfl) rfl (by rfl) (fun w1 hw1 => ?_) ?_
  · simp only [pk, nthSp, lexVals]
    have HM := Lib.hid (HFo.out w1 (HX1.out w1 hw1))
    clear hw1
    go_simp
    refine HM.out.mono ?_
    rintro e w2 ⟨rfl, hE2⟩
    exact ⟨_, rfl, hE2, rfl⟩
  refine lx_e (.bool false) [(0, 8)] (by kernel_rfl) rfl (by rfl) (fun w1 hw1 => ?_) ?_
  · simp only [pk, nthSp, lexVals]
    go_simp
    exact ⟨Ext.refl _, rfl⟩
  refine lx_e (.bool false) [(0, 9)] (by kernel_rfl) rfl (by rfl) (fun w1 hw1 => ?_) ?_
  · simp only [pk, nthSp, lexVals]
    go_simp
    exact ⟨Ext.refl _, rfl⟩
  refine lx_ge (.pointer (some ⟨p, 0, none⟩)) [(0, 10)] 10 (by kernel_rfl) rfl (by kernel_rfl) (by rfl) (fun w1 => ?_) (fun w1 hw1 => ?_) ?_
  · simp only [pk, nthSp, lexVals]
    rfl
  · simp only [pk, nthSp, lexVals]
    go_simp
    exact ⟨Ext.refl _, rfl⟩
  refine lx_ge (.int .i64 xw) [(0, 11), (1, 10)] 10 (by kernel_rfl) rfl (by kernel_rfl) (by rfl) (fun w1 => ?_) (fun w1 hw1 => ?_) ?_
  · simp only [pk, nthSp, lexVals]
    rfl
  · simp only [pk, nthSp, lexVals]
    have hc := hd_writer (show w1.heap[p]? = _ from (HX0.out w1 hw1).keep HPH.out)
    rw [Hxw.out] at hc
    clear hw1
    go_simp
    exact ⟨Ext.refl _, rfl⟩
  refine lx_ge (.pointer (some ⟨g, 0, none⟩)) [(2, 10)] 10 (by kernel_rfl) rfl (by kernel_rfl) (by rfl) (fun w1 => ?_) (fun w1 hw1 => ?_) ?_
  · simp only [pk, nthSp, lexVals]
    rfl
  · simp only [pk, nthSp, lexVals]
    go_simp
    exact ⟨Ext.refl _, rfl⟩
  refine lx_ge (.pointer (some ⟨g, 0, none⟩)) [(0, 13), (3, 10)] 10 (by kernel_rfl) rfl (by kernel_rfl) (by rfl) (fun w1 => ?_) (fun w1 hw1 => ?_) ?_
  · simp only [pk, nthSp, lexVals]
    rfl
  · simp only [pk, nthSp, lexVals]
    go_simp
    exact ⟨Ext.refl _, rfl⟩
  refine lx_ge (.pointer (some ⟨g, 0, none⟩)) [(0, 14), (4, 10)] 10 (by kernel_rfl) rfl (by kernel_rfl) (by rfl) (fun w1 => ?_) (fun w1 hw1 => ?_) ?_
  · simp only [pk, nthSp, lexVals]
    rfl
  · simp only [pk, nthSp, lexVals]
    go_simp
    exact ⟨Ext.refl _, rfl⟩
  refine lx_ge (.int .i64 xw) [(0, 15), (5, 10)] 10 (by kernel_rfl) rfl (by kernel_rfl) (by rfl) (fun w1 => ?_) (fun w1 hw1 => ?_) ?_
  · simp only [pk, nthSp, lexVals]
    rfl
  · simp only [pk, nthSp, lexVals]
    have hc := (HH.out.ext (HX2.out w1 hw1)).cells.1
    clear hw1
    go_simp
    exact ⟨Ext.refl _, rfl⟩
  refine lx_ge (.bool false) [(4, 12), (0, 16), (6, 10)] 10 (by kernel_rfl) rfl (by kernel_rfl) (by rfl) (fun w1 => ?_) (fun w1 hw1 => ?_) ?_
  · simp only [pk, nthSp, lexVals]
    rfl
  · simp only [pk, nthSp, lexVals]
    go_simp
    exact ⟨Ext.refl _, rfl⟩
  refine lx_e (.bool false) [(7, 10), (0, 17)] (by kernel_rfl) rfl (by rfl) (fun w1 hw1 => ?_) ?_
  · simp only [pk, nthSp, lexVals]
    go_simp
    exact ⟨Ext.refl _, rfl⟩
  refine lx_stopA (by rfl) fun w3 hw3 => ?_
  have HE := Lib.hid (HX1.out w3 hw3)
  have HPB := Lib.hid ((HX0.out w3 hw3).keep HPB.out)
  have HPH := Lib.hid ((HX0.out w3 hw3).keep HPH.out)
  clear hw3 HX0 HX1 HX2
  simp only [rv, pf, lexVals]
  simp only [Act.put, List.setIfInBounds_toArray, List.set_cons_zero, List.set_cons_succ]
  have hcs := hd_seq HPH.out
  rw [Hxs.out] at hcs
  have HAt := Lib.hid (at_any (HH.out.ext HE.out) HL.out HTN.out s hs0 hs1)
  rw [HN.out, HK.out] at HAt
  go_wp2_with fail
  refine HAt.out.mono ?_
  rintro e w4 ⟨hno, hyes, hE⟩
  have hV := HV0.out
  have HE4 := Lib.hid (HE.out.trans hE)
  have HPB4 := Lib.hid (hE.keep HPB.out)
  have HPH4 := Lib.hid (hE.keep HPH.out)
  have Hlow := Lib.hid (Below.size HE.out)
  clear hcs HAt HV0 HPB HPH
  have HPB := Lib.hid HPB4.out
  have HPH := Lib.hid HPH4.out
  clear HPB4 HPH4
  by_cases hin : 1 ≤ s ∧ s ≤ (N : Int)
  · rw [if_pos hin] at hV
    obtain ⟨a', c', rfl, hown⟩ := hyes hin
    have hKm : K ∈ l := by
      have h1 := HN.out
      have h2 := HK.out
      rw [← h2, List.getD_eq_getElem?_getD, List.getElem?_eq_getElem (by omega)]
      exact List.getElem_mem _
    have hKt := HH.out.each K hKm
    have hKn := HTN.out K hKm
    have hRt := reT_at hKt.ok hKt.toks.byte hKn hown
    have HszC := Lib.hid (hdV_size (reT K a' c').1)
    have HallC := Lib.hid (hdV_one (reT K a' c').1)
    have HSa := Lib.hid (fun w9 (h9 : Ext w4 w9) => sameHd_any (reT K a' c').1 x.1 K.2 x.2 w9 (hRt.toks.ext h9) (Hx.out.toks.ext (HE4.out.trans h9)))
    obtain ⟨S, hS⟩ : ∃ S, sameB K.1 x.1 K.2 x.2 = S := ⟨_, rfl⟩
    rw [hS] at hV
    rw [show sameB (reT K a' c').1 x.1 K.2 x.2 = sameB K.1 x.1 K.2 x.2 from rfl, hS, HAe.out] at HSa
    obtain ⟨CV, hCV⟩ : ∃ CV, hdV (reT K a' c').1 = CV := ⟨_, rfl⟩
    rw [hCV] at HszC HallC HSa ⊢
    have HV := Lib.hid hV.symm
    clear hno hyes hE hKm hKt hKn hRt hown hS hCV hV hin
    go_upto_region 4 with (refine wpList_store_row rfl 35 _ _ rfl w4.heap.size _ rfl rfl _ _ (heap_new w4 _ _ rfl) (by rw [HszC.out]; kernel_rfl) (by rw [HszC.out]; rfl) HallC.out ?_; rw [setRow_new w4 _ _ _ _ rfl])
    obtain ⟨w5, hw5⟩ : ∃ w5, w4.alloc (.cells CV 35) = w5 := ⟨_, rfl⟩
    have hE5 : Ext w4 w5 := by rw [← hw5]; exact (Ext.refl w4).alloc _
    obtain ⟨r, hr⟩ : ∃ r, w4.heap.size = r := ⟨_, rfl⟩
    have hB5 : w5.heap[r]? = some (.cells CV 35 (0, 0)) := by rw [← hw5]; exact heap_new w4 _ _ hr.symm
    refine wp_world (w' := w5) hw5 ?_
    rw [hr]
    have HE := Lib.hid (HE4.out.trans hE5)
    have HRB := Lib.hid hB5
    have HPB := Lib.hid (hE5.keep HPB.out)
    have HPH := Lib.hid (hE5.keep HPH.out)
    have HSa := Lib.hid (HSa.out w5 hE5)
    clear hw5 hE5 hr hB5
    go_wp2_with (first | (refine wpList_load_rowW rfl 35 _ rfl r rfl _ _ _ _ HRB.out Tryd.underlying35 rfl (by rw [HszC.out]; kernel_rfl) ?_) | (refine wpList_load_rowW rfl 35 _ rfl p rfl _ _ _ _ HPB.out Tryd.underlying35 rfl (by rw [Hsz.out]; kernel_rfl) ?_))
    refine HSa.out.mono ?_
    rintro e w6 ⟨rfl, hE⟩
    have HE := Lib.hid (HE.out.trans hE)
    clear hE HSa
    cases S with
    | true =>
      go_wp2
      go_ret
      exact ⟨by rw [HV.out]; rfl, HE.out⟩
    | false =>
      go_wp2
      go_ret
      exact ⟨by rw [HV.out]; rfl, HE.out⟩
  · rw [if_neg hin] at hV
    obtain rfl := hno hin
    have HszC := Lib.hid (hdV_size hdN)
    have HallC := Lib.hid (hdV_one hdN)
    obtain ⟨CV, hCV⟩ : ∃ CV, hdV hdN = CV := ⟨_, rfl⟩
    rw [hCV] at HszC HallC ⊢
    clear hno hyes hE hCV
    go_upto_region 4 with (refine wpList_store_row rfl 35 _ _ rfl w4.heap.size _ rfl rfl _ _ (heap_new w4 _ _ rfl) (by rw [HszC.out]; kernel_rfl) (by rw [HszC.out]; rfl) HallC.out ?_; rw [setRow_new w4 _ _ _ _ rfl])
    obtain ⟨w5, hw5⟩ : ∃ w5, w4.alloc (.cells CV 35) = w5 := ⟨_, rfl⟩
    have hE5 : Ext w4 w5 := by rw [← hw5]; exact (Ext.refl w4).alloc _
    obtain ⟨r, hr⟩ : ∃ r, w4.heap.size = r := ⟨_, rfl⟩
    have hB5 : w5.heap[r]? = some (.cells CV 35 (0, 0)) := by rw [← hw5]; exact heap_new w4 _ _ hr.symm
    refine wp_world (w' := w5) hw5 ?_
    rw [hr]
    have HE := Lib.hid (HE4.out.trans hE5)
    have HRB := Lib.hid hB5
    have HPB := Lib.hid (hE5.keep HPB.out)
    have HPH := Lib.hid (hE5.keep HPH.out)
    clear hw5 hE5 hr hB5
    by_cases hO : (N : Int) + 1 < s
    · rw [if_pos hO] at hV
      have HV := Lib.hid hV.symm
      have wN : IntKind.u64.wrap ((N : Int) + 1) = (N : Int) + 1 := by rw [IntKind.wrap_u64]; omega
      clear hV hin
      go_upto_region 8 with (fail)
      have HX0 := Lib.hid (show ∀ x, Ext w5.drew x → Ext w5 x from fun x hx => Ext.trans (Ext.refl w5).drew hx)
      have HX1 := Lib.hid (show ∀ x, Ext w5.drew x → Ext w x from fun x hx => HE.out.trans (HX0.out x hx))
      have HX2 := Lib.hid (show ∀ x, Ext w5.drew x → Ext w x from fun x hx => HE.out.trans (HX0.out x hx))
      refine wp_region_lexA (by kernel_rfl) (by kernel_rfl) ?_
      refine lx_e (.pointer (some ⟨p, 1, none⟩)) [] (by kernel_rfl) rfl (by rfl) (fun w1 hw1 => ?_) ?_
      · simp only [pk, lexVals]
        go_simp
        exact ⟨Ext.refl _, rfl⟩
      refine lx_e (.int .u64 s) [(0, 31)] (by kernel_rfl) rfl (by rfl) (fun w1 hw1 => ?_) ?_
      · simp only [pk, nthSp, lexVals]
        have hc := hd_seq (show w1.heap[p]? = _ from (HX0.out w1 hw1).keep HPH.out)
        rw [Hxs.out] at hc
        clear hw1
        go_simp
        exact ⟨Ext.refl _, rfl⟩
      refine lx_e (.pointer (some ⟨g, 0, none⟩)) [] (by kernel_rfl) rfl (by rfl) (fun w1 hw1 => ?_) ?_
      · simp only [pk, lexVals]
        go_simp
        exact ⟨Ext.refl _, rfl⟩
      refine lx_e (.int .u64 (N : Int)) [(0, 33)] (by kernel_rfl) rfl (by rfl) (fun w1 hw1 => ?_) ?_
      · simp only [pk, nthSp, lexVals]
        have hm := head_any (HH.out.ext (HX2.out w1 hw1)) HL.out
        rw [HN.out] at hm
        have HM := Lib.hid (hm)
        clear hw1
        go_simp
        refine HM.out.mono ?_
        rintro e w2 ⟨rfl, hE2⟩
        exact ⟨_, rfl, hE2, rfl⟩
      refine lx_e (.int .u64 ((N : Int) + 1)) [(0, 34)] (by kernel_rfl) rfl (by rfl) (fun w1 hw1 => ?_) ?_
      · simp only [pk, nthSp, lexVals]
        go_simp
        exact ⟨Ext.refl _, rfl⟩
      refine lx_e (.bool true) [(3, 32), (0, 35)] (by kernel_rfl) rfl (by rfl) (fun w1 hw1 => ?_) ?_
      · simp only [pk, nthSp, lexVals]
        go_simp
        exact ⟨Ext.refl _, rfl⟩
      refine lx_e (.bool true) [(0, 36)] (by kernel_rfl) rfl (by rfl) (fun w1 hw1 => ?_) ?_
      · simp only [pk, nthSp, lexVals]
        go_simp
        exact ⟨Ext.refl _, rfl⟩
      refine lx_stopA (by rfl) fun w7 hw7 => ?_
      have HE := Lib.hid (HX1.out w7 hw7)
      have HPB := Lib.hid ((HX0.out w7 hw7).keep HPB.out)
      have HPH := Lib.hid ((HX0.out w7 hw7).keep HPH.out)
      clear hw7 HX0 HX1 HX2
      simp only [rv, pf, lexVals]
      simp only [Act.put, List.setIfInBounds_toArray, List.set_cons_zero, List.set_cons_succ]
      go_wp2
      go_ret
      exact ⟨by rw [HV.out]; rfl, HE.out⟩
    · rw [if_neg hO] at hV
      have wN : IntKind.u64.wrap ((N : Int) + 1) = (N : Int) + 1 := by rw [IntKind.wrap_u64]; omega
      have HV0 := Lib.hid hV
      clear hV hin
      go_upto_region 8 with (fail)
      have HX0 := Lib.hid (show ∀ x, Ext w5.drew x → Ext w5 x from fun x hx => Ext.trans (Ext.refl w5).drew hx)
      have HX1 := Lib.hid (show ∀ x, Ext w5.drew x → Ext w x from fun x hx => HE.out.trans (HX0.out x hx))
      have HX2 := Lib.hid (show ∀ x, Ext w5.drew x → Ext w x from fun x hx => HE.out.trans (HX0.out x hx))
      refine wp_region_lexA (by kernel_rfl) (by kernel_rfl) ?_
      refine lx_e (.pointer (some ⟨p, 1, none⟩)) [] (by kernel_rfl) rfl (by rfl) (fun w1 hw1 => ?_) ?_
      · simp only [pk, lexVals]
        go_simp
        exact ⟨Ext.refl _, rfl⟩
      refine lx_e (.int .u64 s) [(0, 31)] (by kernel_rfl) rfl (by rfl) (fun w1 hw1 => ?_) ?_
      · simp only [pk, nthSp, lexVals]
        have hc := hd_seq (show w1.heap[p]? = _ from (HX0.out w1 hw1).keep HPH.out)
        rw [Hxs.out] at hc
        clear hw1
        go_simp
        exact ⟨Ext.refl _, rfl⟩
      refine lx_e (.pointer (some ⟨g, 0, none⟩)) [] (by kernel_rfl) rfl (by rfl) (fun w1 hw1 => ?_) ?_
      · simp only [pk, lexVals]
        go_simp
        exact ⟨Ext.refl _, rfl⟩
      refine lx_e (.int .u64 (N : Int)) [(0, 33)] (by kernel_rfl) rfl (by rfl) (fun w1 hw1 => ?_) ?_
      · simp only [pk, nthSp, lexVals]
        have hm := head_any (HH.out.ext (HX2.out w1 hw1)) HL.out
        rw [HN.out] at hm
        have HM := Lib.hid (hm)
        clear hw1
        go_simp
        refine HM.out.mono ?_
        rintro e w2 ⟨rfl, hE2⟩
        exact ⟨_, rfl, hE2, rfl⟩
      refine lx_e (.int .u64 ((N : Int) + 1)) [(0, 34)] (by kernel_rfl) rfl (by rfl) (fun w1 hw1 => ?_) ?_
      · simp only [pk, nthSp, lexVals]
        go_simp
        exact ⟨Ext.refl _, rfl⟩
      refine lx_e (.bool false) [(3, 32), (0, 35)] (by kernel_rfl) rfl (by rfl) (fun w1 hw1 => ?_) ?_
      · simp only [pk, nthSp, lexVals]
        go_simp
        exact ⟨Ext.refl _, rfl⟩
      refine lx_e (.bool false) [(0, 36)] (by kernel_rfl) rfl (by rfl) (fun w1 hw1 => ?_) ?_
      · simp only [pk, nthSp, lexVals]
        go_simp
        exact ⟨Ext.refl _, rfl⟩
      refine lx_stopA (by rfl) fun w7 hw7 => ?_
      have HE := Lib.hid (HX1.out w7 hw7)
      have HPB := Lib.hid ((HX0.out w7 hw7).keep HPB.out)
      have HPH := Lib.hid ((HX0.out w7 hw7).keep HPH.out)
      clear hw7 HX0 HX1 HX2
      simp only [rv, pf, lexVals]
      simp only [Act.put, List.setIfInBounds_toArray, List.set_cons_zero, List.set_cons_succ]
      have kne2 := fun w => kne w x.1.prev T
      have hV := HV0.out
      obtain ⟨Pq, hPq⟩ : ∃ P, arrB 32 x.1.prev T = P := ⟨_, rfl⟩
      rw [hPq] at hV kne2
      clear kne hPq HV0
      cases Pq with
      | true =>
        have HV := Lib.hid hV.symm
        clear hV
        go_upto_region 10 with (fail)
        have HX0 := Lib.hid (show ∀ x, Ext w7.drew x → Ext w7 x from fun x hx => Ext.trans (Ext.refl w7).drew hx)
        have HX1 := Lib.hid (show ∀ x, Ext w7.drew x → Ext w x from fun x hx => HE.out.trans (HX0.out x hx))
        have HX2 := Lib.hid (show ∀ x, Ext w7.drew x → Ext w x from fun x hx => HE.out.trans (HX0.out x hx))
        refine wp_region_lexA (by kernel_rfl) (by kernel_rfl) ?_
        refine lx_e (.pointer (some ⟨p, 2, none⟩)) [] (by kernel_rfl) rfl (by rfl) (fun w1 hw1 => ?_) ?_
        · simp only [pk, lexVals]
          go_simp
          exact ⟨Ext.refl _, rfl⟩
        refine lx_e (.agg (rowArr 32 fun j => .int .u8 (x.1.prev j))) [(0, 38)] (by kernel_rfl) rfl (by rfl) (fun w1 hw1 => ?_) ?_
        · simp only [pk, nthSp, lexVals]
          exact lu_sub rfl rfl Tryd.underlying29 (size_h32 w1) (hd_prev (show w1.heap[p]? = _ from (HX0.out w1 hw1).keep HPH.out))
        refine lx_e (.pointer (some ⟨g, 0, none⟩)) [] (by kernel_rfl) rfl (by rfl) (fun w1 hw1 => ?_) ?_
        · simp only [pk, lexVals]
          go_simp
          exact ⟨Ext.refl _, rfl⟩
        refine lx_e (.pointer (some ⟨g, 0, none⟩)) [(0, 40)] (by kernel_rfl) rfl (by rfl) (fun w1 hw1 => ?_) ?_
        · simp only [pk, nthSp, lexVals]
          go_simp
          exact ⟨Ext.refl _, rfl⟩
        refine lx_e (.pointer (some ⟨g, 2, none⟩)) [(0, 41)] (by kernel_rfl) rfl (by rfl) (fun w1 hw1 => ?_) ?_
        · simp only [pk, nthSp, lexVals]
          go_simp
          exact ⟨Ext.refl _, rfl⟩
        refine lx_e (.agg (rowArr 32 fun j => .int .u8 (T j))) [(0, 42)] (by kernel_rfl) rfl (by rfl) (fun w1 hw1 => ?_) ?_
        · simp only [pk, nthSp, lexVals]
          exact lu_sub rfl rfl Tryd.underlying29 (size_h32 w1) (HH.out.ext (HX2.out w1 hw1)).cells.2.2
        refine lx_e (.bool false) [(4, 39), (0, 43)] (by kernel_rfl) rfl (by rfl) (fun w1 hw1 => ?_) ?_
        · simp only [pk, nthSp, lexVals]
          go_simp
          exact ⟨Ext.refl _, rfl⟩
        refine lx_e (.bool false) [(0, 44)] (by kernel_rfl) rfl (by rfl) (fun w1 hw1 => ?_) ?_
        · simp only [pk, nthSp, lexVals]
          go_simp
          exact ⟨Ext.refl _, rfl⟩
        refine lx_stopA (by rfl) fun w8 hw8 => ?_
        have HE := Lib.hid (HX1.out w8 hw8)
        have HPB := Lib.hid ((HX0.out w8 hw8).keep HPB.out)
        have HPH := Lib.hid ((HX0.out w8 hw8).keep HPH.out)
        clear hw8 HX0 HX1 HX2
        simp only [rv, pf, lexVals]
        simp only [Act.put, List.setIfInBounds_toArray, List.set_cons_zero, List.set_cons_succ]
        go_wp2
        go_ret
        exact ⟨by rw [HV.out]; rfl, HE.out⟩
      | false =>
        have HV := Lib.hid hV.symm
        clear hV
        go_upto_region 10 with (fail)
        have HX0 := Lib.hid (show ∀ x, Ext w7.drew x → Ext w7 x from fun x hx => Ext.trans (Ext.refl w7).drew hx)
        have HX1 := Lib.hid (show ∀ x, Ext w7.drew x → Ext w x from fun x hx => HE.out.trans (HX0.out x hx))
        have HX2 := Lib.hid (show ∀ x, Ext w7.drew x → Ext w x from fun x hx => HE.out.trans (HX0.out x hx))
        refine wp_region_lexA (by kernel_rfl) (by kernel_rfl) ?_
        refine lx_e (.pointer (some ⟨p, 2, none⟩)) [] (by kernel_rfl) rfl (by rfl) (fun w1 hw1 => ?_) ?_
        · simp only [pk, lexVals]
          go_simp
          exact ⟨Ext.refl _, rfl⟩
        refine lx_e (.agg (rowArr 32 fun j => .int .u8 (x.1.prev j))) [(0, 38)] (by kernel_rfl) rfl (by rfl) (fun w1 hw1 => ?_) ?_
        · simp only [pk, nthSp, lexVals]
          exact lu_sub rfl rfl Tryd.underlying29 (size_h32 w1) (hd_prev (show w1.heap[p]? = _ from (HX0.out w1 hw1).keep HPH.out))
        refine lx_e (.pointer (some ⟨g, 0, none⟩)) [] (by kernel_rfl) rfl (by rfl) (fun w1 hw1 => ?_) ?_
        · simp only [pk, lexVals]
          go_simp
          exact ⟨Ext.refl _, rfl⟩
        refine lx_e (.pointer (some ⟨g, 0, none⟩)) [(0, 40)] (by kernel_rfl) rfl (by rfl) (fun w1 hw1 => ?_) ?_
        · simp only [pk, nthSp, lexVals]
          go_simp
          exact ⟨Ext.refl _, rfl⟩
        refine lx_e (.pointer (some ⟨g, 2, none⟩)) [(0, 41)] (by kernel_rfl) rfl (by rfl) (fun w1 hw1 => ?_) ?_
        · simp only [pk, nthSp, lexVals]
          go_simp
          exact ⟨Ext.refl _, rfl⟩
        refine lx_e (.agg (rowArr 32 fun j => .int .u8 (T j))) [(0, 42)] (by kernel_rfl) rfl (by rfl) (fun w1 hw1 => ?_) ?_
        · simp only [pk, nthSp, lexVals]
          exact lu_sub rfl rfl Tryd.underlying29 (size_h32 w1) (HH.out.ext (HX2.out w1 hw1)).cells.2.2
        refine lx_e (.bool true) [(4, 39), (0, 43)] (by kernel_rfl) rfl (by rfl) (fun w1 hw1 => ?_) ?_
        · simp only [pk, nthSp, lexVals]
          go_simp
          exact ⟨Ext.refl _, rfl⟩
        refine lx_e (.bool true) [(0, 44)] (by kernel_rfl) rfl (by rfl) (fun w1 hw1 => ?_) ?_
        · simp only [pk, nthSp, lexVals]
          go_simp
          exact ⟨Ext.refl _, rfl⟩
        refine lx_stopA (by rfl) fun w8 hw8 => ?_
        have HE := Lib.hid (HX1.out w8 hw8)
        have HPB := Lib.hid ((HX0.out w8 hw8).keep HPB.out)
        have HPH := Lib.hid ((HX0.out w8 hw8).keep HPH.out)
        clear hw8 HX0 HX1 HX2
        simp only [rv, pf, lexVals]
        simp only [Act.put, List.setIfInBounds_toArray, List.set_cons_zero, List.set_cons_succ]
        go_wp2
        go_ret
        exact ⟨by rw [HV.out]; rfl, HE.out⟩

end Go.Proofs.YthdgnahokmjkpaaDoor
