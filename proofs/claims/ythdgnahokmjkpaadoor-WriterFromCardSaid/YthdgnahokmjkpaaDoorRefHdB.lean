/-
  The walk of jalousieref12.Bytes. No conditions.
-/
import Derived.Test.YthdgnahokmjkpaaDoorRefCore
namespace Go.Proofs.YthdgnahokmjkpaaDoor
open Go.ChangeShapes Go.WideShapes Go.ChangeAt Go.RowKit

set_option maxHeartbeats 2000000 in
set_option maxRecDepth 100000 in
theorem refHdBytes_any (h : Hd) (ts : List (Nat → Int)) (w : World) (ho : HdOk h) (ht : TsAt w h.ta h.tn h.tc ts) :
    Calls Tryd.prog 30 #[.agg (hdV h)] w fun e w' => ∃ v, e = .returned v ∧ w'.ownsRow w.heap.size 5 1 v (bytesL h ts).length (bv (bytesL h ts)) ∧ Ext w w' := by
  obtain ⟨w2, hw2⟩ : ∃ w2, w.alloc (.cells (hdV h) 35) = w2 := ⟨_, rfl⟩
  have hE2 : Ext w w2 := by rw [← hw2]; exact (Ext.refl w).alloc _
  have hB2 : w2.heap[w.heap.size]? = some (.cells (hdV h) 35 (0, 0)) := by rw [← hw2]; exact heap_new w _ _ rfl
  have HF := Lib.hid (refHd_any h ts w2 ho (ht.ext hE2))
  have Hw2 := Lib.hid hw2
  have HE2 := Lib.hid hE2
  obtain ⟨g, hg⟩ : ∃ g, w.heap.size = g := ⟨_, rfl⟩
  rw [hg] at hB2
  have HB2 := Lib.hid hB2
  have Hg := Lib.hid hg
  have Ho := Lib.hid ho
  have HT := Lib.hid ht
  have Hsz := Lib.hid (hdV_size h)
  cases hf : hdB h ts with
  | false =>
    rw [hf] at HF
    have HL := Lib.hid (show bytesL h ts = [] by unfold bytesL; rw [hf]; rfl)
    clear hw2 hE2 hB2 hg ho ht hf
    go_enter Tryd.func30, Tryd.ntmps30
    go_upto_region 1 with (fail)
    refine wp_world (w' := w2) Hw2.out ?_
    rw [Hg.out]
    clear Hw2
    go_wp2_with (refine wpList_load_rowW rfl 35 _ rfl g rfl _ _ _ _ HB2.out Tryd.underlying35 rfl (by rw [Hsz.out]; kernel_rfl) ?_)
    refine HF.out.mono ?_
    rintro e w3 ⟨rfl, hE⟩
    have HE3 := Lib.hid (HE2.out.trans hE)
    clear hE
    go_wp2
    go_ret
    refine ⟨_, rfl, ?_, HE3.out⟩
    rw [HL.out]
    exact World.ownsRow_nil _ _ _ _
  | true =>
    rw [hf] at HF
    have HLb := Lib.hid (coreL_byte hf ho ht.len ht.byte)
    have HLl := Lib.hid (coreL_le hf)
    have HCo := Lib.hid (show ∀ w9, Ext w w9 → Calls Tryd.prog 41 #[.agg (hdV h)] w9 fun e w' => ∃ v, e = .returned v ∧ w'.ownsRow w9.heap.size 5 1 v (coreL h ts).length (bv (coreL h ts)) ∧ Ext w9 w' from fun w9 h9 => refCore_any h ts w9 ho (ht.ext h9) hf)
    have HL := Lib.hid (show bytesL h ts = coreL h ts ++ ln 32 h.code by unfold bytesL; rw [hf]; rfl)
    obtain ⟨CL, hCL⟩ : ∃ CL, coreL h ts = CL := ⟨_, rfl⟩
    rw [hCL] at HLb HLl HCo HL
    obtain ⟨A, hA⟩ : ∃ A, hdV h = A := ⟨_, rfl⟩
    have HA := Lib.hid hA
    rw [hA] at HCo Hsz HF Hw2 HB2 ⊢
    clear hw2 hE2 hB2 hg ho ht hf hCL hA
    go_enter Tryd.func30, Tryd.ntmps30
    go_upto_region 1 with (fail)
    refine wp_world (w' := w2) Hw2.out ?_
    rw [Hg.out]
    clear Hw2
    go_wp2_with (refine wpList_load_rowW rfl 35 _ rfl g rfl _ _ _ _ HB2.out Tryd.underlying35 rfl (by rw [Hsz.out]; kernel_rfl) ?_)
    refine HF.out.mono ?_
    rintro e w3 ⟨rfl, hE⟩
    have HE3 := Lib.hid (HE2.out.trans hE)
    have HB3 := Lib.hid (hE.keep HB2.out)
    have HX := Lib.hid (show ∀ x, Ext w3.drew x → Ext w3 x from fun x hx => Ext.trans (Ext.refl w3).drew hx)
    have hws : w.heap.size ≤ w3.heap.size := Below.size HE3.out
    clear hE
    go_upto_region 3 with (fail)
    refine wp_region_lexT 4 (by kernel_rfl) (by kernel_rfl) ?_
    refine lx_e (.agg A) [] (by kernel_rfl) rfl (by rfl) (fun w1 hw1 => ?_) ?_
    · simp only [pk, lexVals]
      exact lu_row rfl rfl ((HX.out w1 hw1).keep HB3.out) Tryd.underlying35 rfl (by rw [Hsz.out]; kernel_rfl)
    refine lx_a (fun u w' => w'.ownsRow w3.heap.size 5 1 u CL.length (bv CL)) [(0, 6)] (by kernel_rfl) rfl (by rfl) (fun v w w' hE hv => hv.kept (grown_ext hE none) (by cases h : v.ownBlock <;> simp)) (fun w1 hw1 => ?_) ?_
    · simp only [pk, nthSp, lexVals]
      have HM := Lib.hid (HCo.out w1 (HE3.out.trans (HX.out w1 hw1)))
      have hs3 := Lib.hid (Below.size (HX.out w1 hw1))
      clear hw1
      go_simp
      refine HM.out.mono ?_
      rintro e w5 ⟨v5, rfl, ho5, hE5⟩
      exact ⟨_, rfl, hE5, own_mono ho5 hs3.out⟩
    refine lx_e (.pointer (some ⟨g, 93, none⟩)) [] (by kernel_rfl) rfl (by rfl) (fun w1 hw1 => ?_) ?_
    · simp only [pk, lexVals]
      clear hw1
      go_simp
      exact ⟨Ext.refl _, rfl⟩
    refine lx_e (.slice (some ⟨g, 93, none⟩) 32 32) [(0, 8)] (by kernel_rfl) rfl (by rfl) (fun w1 hw1 => ?_) ?_
    · simp only [pk, nthSp, lexVals]
      clear hw1
      go_simp
      exact ⟨Ext.refl _, rfl⟩
    refine lx_stopT (by rfl) (by decide) fun w5 hw5 => ?_
    have HE5 := Lib.hid (HX.out w5 hw5)
    clear hw5
    simp only [rv, pf, lexVals]
    intro v5 hown5
    obtain ⟨a5, c5, rfl, _, _⟩ := owns_slice hown5
    have HO5 := Lib.hid hown5
    have hB5 := HE5.out.keep HB3.out
    rw [← HA.out] at hB5
    have HBc := Lib.hid (bs_cells (n := 32) (hd_code hB5) Ho.out.code (by omega))
    have hs5 := Below.size HE5.out
    clear hown5 hB5
    simp only [Act.put, List.setIfInBounds_toArray, List.set_cons_zero, List.set_cons_succ]
    refine append_bsG rfl (.tmp 7) (.tmp 9) rfl w3.heap.size _ CL.length CL rfl HO5.out _ 32 32 _ rfl HBc.out (by have := HLl.out; omega) hs5 ?_
    intro v6 w6 hown6 hB6 _
    obtain ⟨a6, c6, rfl, _, _⟩ := owns_slice hown6
    have hown7 : w6.ownsRow w.heap.size 5 1 (.slice a6 (CL.length + 32) c6) (bytesL h ts).length (bv (bytesL h ts)) := by
      rw [HL.out, List.length_append, ln_length]
      exact own_mono hown6 hws
    have HO7 := Lib.hid hown7
    have HE6 := Lib.hid ((HE3.out.trans HE5.out).trans' (Below.mono hB6 (by have h1 := Below.size HE3.out; omega)))
    clear hown6 hown7 hB6
    go_wp2
    go_ret
    exact ⟨_, rfl, HO7.out, HE6.out⟩

end Go.Proofs.YthdgnahokmjkpaaDoor
