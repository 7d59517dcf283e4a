/-
  The walk of entry.Bytes. No conditions.
  Rows of tokens that a call owns. No conditions.
  A header's cells, one of them written anew. No conditions.
-/
import Derived.Test.YtihlpfdhallfpaaDoorSorted
import Derived.Test.YtihlpfdhallfpaaDoorCore
namespace Go.Proofs.YtihlpfdhallfpaaDoor
open Go.ChangeAt Go.ChangeShapes Go.RowKit Go.WideShapes

set_option maxHeartbeats 2000000 in
set_option maxRecDepth 100000 in
theorem hdBytes_any (h : Hd) (ts : List (Nat → Int)) (w : World) (ho : HdOk h) (ht : TsAt w h.ta h.tn h.tc ts) :
    Calls Tryd.prog 26 #[.agg (hdV h)] w fun e w' => ∃ v, e = .returned v ∧ w'.ownsRow w.heap.size 5 1 v (bytesL h ts).length (bv (bytesL h ts)) ∧ Ext w w' := by
  obtain ⟨w2, hw2⟩ : ∃ w2, w.alloc (.cells (hdV h) 34) = w2 := ⟨_, rfl⟩
  have hE2 : Ext w w2 := by rw [← hw2]; exact (Ext.refl w).alloc _
  have hB2 : w2.heap[w.heap.size]? = some (.cells (hdV h) 34 (0, 0)) := by rw [← hw2]; exact heap_new w _ _ rfl
  have HF := Lib.hid (formedHd_any h ts w2 ho (ht.ext hE2))
  have Hw2 := Lib.hid hw2
  have HE2 := Lib.hid hE2
  obtain ⟨g, hg⟩ : ∃ g, w.heap.size = g := ⟨_, rfl⟩
  rw [hg] at hB2
  have HB2 := Lib.hid hB2
  have Hg := Lib.hid hg
  have Ho := Lib.hid ho
  have HT := Lib.hid ht
  have Hsz := Lib.hid (hdV_size h)
  cases hf : hdB h ts with
  | false =>
    rw [hf] at HF
    have HL := Lib.hid (show bytesL h ts = [] by unfold bytesL; rw [hf]; rfl)
    clear hw2 hE2 hB2 hg ho ht hf
    go_enter Tryd.func26, Tryd.ntmps26
    go_upto_region 1 with (fail)
    refine wp_world (w' := w2) Hw2.out ?_
    rw [Hg.out]
    clear Hw2
    go_wp2_with (refine wpList_load_rowW rfl 34 _ rfl g rfl _ _ _ _ HB2.out Tryd.underlying34 rfl (by rw [Hsz.out]; kernel_rfl) ?_)
    refine HF.out.mono ?_
    rintro e w3 ⟨rfl, hE⟩
    have HE3 := Lib.hid (HE2.out.trans hE)
    clear hE
    go_wp2
    go_ret
    refine ⟨_, rfl, ?_, HE3.out⟩
    rw [HL.out]
    exact World.ownsRow_nil _ _ _ _
  | true =>
    rw [hf] at HF
    have HLb := Lib.hid (coreL_byte hf ho ht.len ht.byte)
    have HLl := Lib.hid (coreL_le hf)
    have HCo := Lib.hid (show ∀ w9, Ext w w9 → Calls Tryd.prog 47 #[.agg (hdV h)] w9 fun e w' => ∃ v, e = .returned v ∧ w'.ownsRow w9.heap.size 5 1 v (coreL h ts).length (bv (coreL h ts)) ∧ Ext w9 w' from fun w9 h9 => core_any h ts w9 ho (ht.ext h9) hf)
    have HL := Lib.hid (show bytesL h ts = coreL h ts ++ ln 32 h.code by unfold bytesL; rw [hf]; rfl)
    obtain ⟨CL, hCL⟩ : ∃ CL, coreL h ts = CL := ⟨_, rfl⟩
    rw [hCL] at HLb HLl HCo HL
    obtain ⟨A, hA⟩ : ∃ A, hdV h = A := ⟨_, rfl⟩
    have HA := Lib.hid hA
    rw [hA] at HCo Hsz HF Hw2 HB2 ⊢
    clear hw2 hE2 hB2 hg ho ht hf hCL hA
    go_enter Tryd.func26, Tryd.ntmps26
    go_upto_region 1 with (fail)
    refine wp_world (w' := w2) Hw2.out ?_
    rw [Hg.out]
    clear Hw2
    go_wp2_with (refine wpList_load_rowW rfl 34 _ rfl g rfl _ _ _ _ HB2.out Tryd.underlying34 rfl (by rw [Hsz.out]; kernel_rfl) ?_)
    refine HF.out.mono ?_
    rintro e w3 ⟨rfl, hE⟩
    have HE3 := Lib.hid (HE2.out.trans hE)
    have HB3 := Lib.hid (hE.keep HB2.out)
    have HX := Lib.hid (show ∀ x, Ext w3.drew x → Ext w3 x from fun x hx => Ext.trans (Ext.refl w3).drew hx)
    have hws : w.heap.size ≤ w3.heap.size := Below.size HE3.out
    clear hE
    go_upto_region 3 with (fail)
    refine wp_region_lexT 4 (by kernel_rfl) (by kernel_rfl) ?_
    refine lx_e (.agg A) [] (by kernel_rfl) rfl (by rfl) (fun w1 hw1 => ?_) ?_
    · simp only [pk, lexVals]
      exact lu_row rfl rfl ((HX.out w1 hw1).keep HB3.out) Tryd.underlying34 rfl (by rw [Hsz.out]; kernel_rfl)
    refine lx_a (fun u w' => w'.ownsRow w3.heap.size 5 1 u CL.length (bv CL)) [(0, 6)] (by kernel_rfl) rfl (by rfl) (fun v w w' hE hv => hv.kept (grown_ext hE none) (by cases h : v.ownBlock <;> simp)) (fun w1 hw1 => ?_) ?_
    · simp only [pk, nthSp, lexVals]
      have HM := Lib.hid (HCo.out w1 (HE3.out.trans (HX.out w1 hw1)))
      have hs3 := Lib.hid (Below.size (HX.out w1 hw1))
      clear hw1
      go_simp
      refine HM.out.mono ?_
      rintro e w5 ⟨v5, rfl, ho5, hE5⟩
      exact ⟨_, rfl, hE5, own_mono ho5 hs3.out⟩
    refine lx_e (.pointer (some ⟨g, 93, none⟩)) [] (by kernel_rfl) rfl (by rfl) (fun w1 hw1 => ?_) ?_
    · simp only [pk, lexVals]
      clear hw1
      go_simp
      exact ⟨Ext.refl _, rfl⟩
    refine lx_e (.slice (some ⟨g, 93, none⟩) 32 32) [(0, 8)] (by kernel_rfl) rfl (by rfl) (fun w1 hw1 => ?_) ?_
    · simp only [pk, nthSp, lexVals]
      clear hw1
      go_simp
      exact ⟨Ext.refl _, rfl⟩
    refine lx_stopT (by rfl) (by decide) fun w5 hw5 => ?_
    have HE5 := Lib.hid (HX.out w5 hw5)
    clear hw5
    simp only [rv, pf, lexVals]
    intro v5 hown5
    obtain ⟨a5, c5, rfl, _, _⟩ := owns_slice hown5
    have HO5 := Lib.hid hown5
    have hB5 := HE5.out.keep HB3.out
    rw [← HA.out] at hB5
    have HBc := Lib.hid (bs_cells (n := 32) (hd_code hB5) Ho.out.code (by omega))
    have hs5 := Below.size HE5.out
    clear hown5 hB5
    simp only [Act.put, List.setIfInBounds_toArray, List.set_cons_zero, List.set_cons_succ]
    refine append_bsG rfl (.tmp 7) (.tmp 9) rfl w3.heap.size _ CL.length CL rfl HO5.out _ 32 32 _ rfl HBc.out (by have := HLl.out; omega) hs5 ?_
    intro v6 w6 hown6 hB6 _
    obtain ⟨a6, c6, rfl, _, _⟩ := owns_slice hown6
    have hown7 : w6.ownsRow w.heap.size 5 1 (.slice a6 (CL.length + 32) c6) (bytesL h ts).length (bv (bytesL h ts)) := by
      rw [HL.out, List.length_append, ln_length]
      exact own_mono hown6 hws
    have HO7 := Lib.hid hown7
    have HE6 := Lib.hid ((HE3.out.trans HE5.out).trans' (Below.mono hB6 (by have h1 := Below.size HE3.out; omega)))
    clear hown6 hown7 hB6
    go_wp2
    go_ret
    exact ⟨_, rfl, HO7.out, HE6.out⟩

theorem hdC_congr (h h' : Hd) (j : Nat) (hj : j < 125) (e0 : 0 ≤ j → j < 1 → h.writer = h'.writer) (e1 : 1 ≤ j → j < 2 → h.seq = h'.seq) (e2 : 2 ≤ j → j < 34 → h.prev (j - 2) = h'.prev (j - 2)) (e3 : 34 ≤ j → j < 35 → h.epoch = h'.epoch) (e4 : 35 ≤ j → j < 36 → h.ctl = h'.ctl) (e5 : 36 ≤ j → j < 37 → h.time = h'.time) (e6 : 37 ≤ j → j < 53 → h.item (j - 37) = h'.item (j - 37)) (e7 : 53 ≤ j → j < 54 → h.ta = h'.ta ∧ h.tn = h'.tn ∧ h.tc = h'.tc) (e8 : 54 ≤ j → j < 60 → h.knows (j - 54) = h'.knows (j - 54)) (e9 : 60 ≤ j → j < 92 → h.sum (j - 60) = h'.sum (j - 60)) (e10 : 92 ≤ j → j < 93 → h.size = h'.size) (e11 : 93 ≤ j → j < 125 → h.code (j - 93) = h'.code (j - 93)) : hdC h j = hdC h' j := by
  unfold hdC
  by_cases c0 : j < 1
  · rw [if_pos c0, if_pos c0, e0 (by omega) c0]
  rw [if_neg c0, if_neg c0]
  by_cases c1 : j < 2
  · rw [if_pos c1, if_pos c1, e1 (by omega) c1]
  rw [if_neg c1, if_neg c1]
  by_cases c2 : j < 34
  · rw [if_pos c2, if_pos c2, e2 (by omega) c2]
  rw [if_neg c2, if_neg c2]
  by_cases c3 : j < 35
  · rw [if_pos c3, if_pos c3, e3 (by omega) c3]
  rw [if_neg c3, if_neg c3]
  by_cases c4 : j < 36
  · rw [if_pos c4, if_pos c4, e4 (by omega) c4]
  rw [if_neg c4, if_neg c4]
  by_cases c5 : j < 37
  · rw [if_pos c5, if_pos c5, e5 (by omega) c5]
  rw [if_neg c5, if_neg c5]
  by_cases c6 : j < 53
  · rw [if_pos c6, if_pos c6, e6 (by omega) c6]
  rw [if_neg c6, if_neg c6]
  by_cases c7 : j < 54
  · obtain ⟨a1, a2, a3⟩ := e7 (by omega) c7
    rw [if_pos c7, if_pos c7, a1, a2, a3]
  rw [if_neg c7, if_neg c7]
  by_cases c8 : j < 60
  · rw [if_pos c8, if_pos c8, e8 (by omega) c8]
  rw [if_neg c8, if_neg c8]
  by_cases c9 : j < 92
  · rw [if_pos c9, if_pos c9, e9 (by omega) c9]
  rw [if_neg c9, if_neg c9]
  by_cases c10 : j < 93
  · rw [if_pos c10, if_pos c10, e10 (by omega) c10]
  rw [if_neg c10, if_neg c10]
  rw [e11 (by omega) hj]
theorem hdC_set0 (h : Hd) (x : Int) : ∀ j, j < 125 → (if j = 0 then .int .i64 x else hdC h j) = hdC { h with writer := x } j := by
  intro j _
  by_cases hj : j = 0
  · subst hj
    rfl
  · rw [if_neg hj]
    exact hdC_congr h { h with writer := x } j (by omega) (by intro c d; first | rfl | exact ⟨rfl, rfl, rfl⟩ | (exfalso; omega)) (by intro c d; first | rfl | exact ⟨rfl, rfl, rfl⟩ | (exfalso; omega)) (by intro c d; first | rfl | exact ⟨rfl, rfl, rfl⟩ | (exfalso; omega)) (by intro c d; first | rfl | exact ⟨rfl, rfl, rfl⟩ | (exfalso; omega)) (by intro c d; first | rfl | exact ⟨rfl, rfl, rfl⟩ | (exfalso; omega)) (by intro c d; first | rfl | exact ⟨rfl, rfl, rfl⟩ | (exfalso; omega)) (by intro c d; first | rfl | exact ⟨rfl, rfl, rfl⟩ | (exfalso; omega)) (by intro c d; first | rfl | exact ⟨rfl, rfl, rfl⟩ | (exfalso; omega)) (by intro c d; first | rfl | exact ⟨rfl, rfl, rfl⟩ | (exfalso; omega)) (by intro c d; first | rfl | exact ⟨rfl, rfl, rfl⟩ | (exfalso; omega)) (by intro c d; first | rfl | exact ⟨rfl, rfl, rfl⟩ | (exfalso; omega)) (by intro c d; first | rfl | exact ⟨rfl, rfl, rfl⟩ | (exfalso; omega))
theorem hdC_set1 (h : Hd) (x : Int) : ∀ j, j < 125 → (if j = 1 then .int .u64 x else hdC h j) = hdC { h with seq := x } j := by
  intro j _
  by_cases hj : j = 1
  · subst hj
    rfl
  · rw [if_neg hj]
    exact hdC_congr h { h with seq := x } j (by omega) (by intro c d; first | rfl | exact ⟨rfl, rfl, rfl⟩ | (exfalso; omega)) (by intro c d; first | rfl | exact ⟨rfl, rfl, rfl⟩ | (exfalso; omega)) (by intro c d; first | rfl | exact ⟨rfl, rfl, rfl⟩ | (exfalso; omega)) (by intro c d; first | rfl | exact ⟨rfl, rfl, rfl⟩ | (exfalso; omega)) (by intro c d; first | rfl | exact ⟨rfl, rfl, rfl⟩ | (exfalso; omega)) (by intro c d; first | rfl | exact ⟨rfl, rfl, rfl⟩ | (exfalso; omega)) (by intro c d; first | rfl | exact ⟨rfl, rfl, rfl⟩ | (exfalso; omega)) (by intro c d; first | rfl | exact ⟨rfl, rfl, rfl⟩ | (exfalso; omega)) (by intro c d; first | rfl | exact ⟨rfl, rfl, rfl⟩ | (exfalso; omega)) (by intro c d; first | rfl | exact ⟨rfl, rfl, rfl⟩ | (exfalso; omega)) (by intro c d; first | rfl | exact ⟨rfl, rfl, rfl⟩ | (exfalso; omega)) (by intro c d; first | rfl | exact ⟨rfl, rfl, rfl⟩ | (exfalso; omega))
theorem hdC_set3 (h : Hd) (x : Int) : ∀ j, j < 125 → (if j = 34 then .int .i64 x else hdC h j) = hdC { h with epoch := x } j := by
  intro j _
  by_cases hj : j = 34
  · subst hj
    rfl
  · rw [if_neg hj]
    exact hdC_congr h { h with epoch := x } j (by omega) (by intro c d; first | rfl | exact ⟨rfl, rfl, rfl⟩ | (exfalso; omega)) (by intro c d; first | rfl | exact ⟨rfl, rfl, rfl⟩ | (exfalso; omega)) (by intro c d; first | rfl | exact ⟨rfl, rfl, rfl⟩ | (exfalso; omega)) (by intro c d; first | rfl | exact ⟨rfl, rfl, rfl⟩ | (exfalso; omega)) (by intro c d; first | rfl | exact ⟨rfl, rfl, rfl⟩ | (exfalso; omega)) (by intro c d; first | rfl | exact ⟨rfl, rfl, rfl⟩ | (exfalso; omega)) (by intro c d; first | rfl | exact ⟨rfl, rfl, rfl⟩ | (exfalso; omega)) (by intro c d; first | rfl | exact ⟨rfl, rfl, rfl⟩ | (exfalso; omega)) (by intro c d; first | rfl | exact ⟨rfl, rfl, rfl⟩ | (exfalso; omega)) (by intro c d; first | rfl | exact ⟨rfl, rfl, rfl⟩ | (exfalso; omega)) (by intro c d; first | rfl | exact ⟨rfl, rfl, rfl⟩ | (exfalso; omega)) (by intro c d; first | rfl | exact ⟨rfl, rfl, rfl⟩ | (exfalso; omega))
theorem hdC_set4 (h : Hd) (x : Bool) : ∀ j, j < 125 → (if j = 35 then .bool x else hdC h j) = hdC { h with ctl := x } j := by
  intro j _
  by_cases hj : j = 35
  · subst hj
    rfl
  · rw [if_neg hj]
    exact hdC_congr h { h with ctl := x } j (by omega) (by intro c d; first | rfl | exact ⟨rfl, rfl, rfl⟩ | (exfalso; omega)) (by intro c d; first | rfl | exact ⟨rfl, rfl, rfl⟩ | (exfalso; omega)) (by intro c d; first | rfl | exact ⟨rfl, rfl, rfl⟩ | (exfalso; omega)) (by intro c d; first | rfl | exact ⟨rfl, rfl, rfl⟩ | (exfalso; omega)) (by intro c d; first | rfl | exact ⟨rfl, rfl, rfl⟩ | (exfalso; omega)) (by intro c d; first | rfl | exact ⟨rfl, rfl, rfl⟩ | (exfalso; omega)) (by intro c d; first | rfl | exact ⟨rfl, rfl, rfl⟩ | (exfalso; omega)) (by intro c d; first | rfl | exact ⟨rfl, rfl, rfl⟩ | (exfalso; omega)) (by intro c d; first | rfl | exact ⟨rfl, rfl, rfl⟩ | (exfalso; omega)) (by intro c d; first | rfl | exact ⟨rfl, rfl, rfl⟩ | (exfalso; omega)) (by intro c d; first | rfl | exact ⟨rfl, rfl, rfl⟩ | (exfalso; omega)) (by intro c d; first | rfl | exact ⟨rfl, rfl, rfl⟩ | (exfalso; omega))
theorem hdC_set5 (h : Hd) (x : Int) : ∀ j, j < 125 → (if j = 36 then .int .u64 x else hdC h j) = hdC { h with time := x } j := by
  intro j _
  by_cases hj : j = 36
  · subst hj
    rfl
  · rw [if_neg hj]
    exact hdC_congr h { h with time := x } j (by omega) (by intro c d; first | rfl | exact ⟨rfl, rfl, rfl⟩ | (exfalso; omega)) (by intro c d; first | rfl | exact ⟨rfl, rfl, rfl⟩ | (exfalso; omega)) (by intro c d; first | rfl | exact ⟨rfl, rfl, rfl⟩ | (exfalso; omega)) (by intro c d; first | rfl | exact ⟨rfl, rfl, rfl⟩ | (exfalso; omega)) (by intro c d; first | rfl | exact ⟨rfl, rfl, rfl⟩ | (exfalso; omega)) (by intro c d; first | rfl | exact ⟨rfl, rfl, rfl⟩ | (exfalso; omega)) (by intro c d; first | rfl | exact ⟨rfl, rfl, rfl⟩ | (exfalso; omega)) (by intro c d; first | rfl | exact ⟨rfl, rfl, rfl⟩ | (exfalso; omega)) (by intro c d; first | rfl | exact ⟨rfl, rfl, rfl⟩ | (exfalso; omega)) (by intro c d; first | rfl | exact ⟨rfl, rfl, rfl⟩ | (exfalso; omega)) (by intro c d; first | rfl | exact ⟨rfl, rfl, rfl⟩ | (exfalso; omega)) (by intro c d; first | rfl | exact ⟨rfl, rfl, rfl⟩ | (exfalso; omega))
theorem hdC_set12 (h : Hd) (x : Int) : ∀ j, j < 125 → (if j = 92 then .int .i64 x else hdC h j) = hdC { h with size := x } j := by
  intro j _
  by_cases hj : j = 92
  · subst hj
    rfl
  · rw [if_neg hj]
    exact hdC_congr h { h with size := x } j (by omega) (by intro c d; first | rfl | exact ⟨rfl, rfl, rfl⟩ | (exfalso; omega)) (by intro c d; first | rfl | exact ⟨rfl, rfl, rfl⟩ | (exfalso; omega)) (by intro c d; first | rfl | exact ⟨rfl, rfl, rfl⟩ | (exfalso; omega)) (by intro c d; first | rfl | exact ⟨rfl, rfl, rfl⟩ | (exfalso; omega)) (by intro c d; first | rfl | exact ⟨rfl, rfl, rfl⟩ | (exfalso; omega)) (by intro c d; first | rfl | exact ⟨rfl, rfl, rfl⟩ | (exfalso; omega)) (by intro c d; first | rfl | exact ⟨rfl, rfl, rfl⟩ | (exfalso; omega)) (by intro c d; first | rfl | exact ⟨rfl, rfl, rfl⟩ | (exfalso; omega)) (by intro c d; first | rfl | exact ⟨rfl, rfl, rfl⟩ | (exfalso; omega)) (by intro c d; first | rfl | exact ⟨rfl, rfl, rfl⟩ | (exfalso; omega)) (by intro c d; first | rfl | exact ⟨rfl, rfl, rfl⟩ | (exfalso; omega)) (by intro c d; first | rfl | exact ⟨rfl, rfl, rfl⟩ | (exfalso; omega))
theorem hdC_setT (h : Hd) (a : Option Addr) (n c : Nat) : ∀ j, j < 125 → (if j = 53 then .slice a n c else hdC h j) = hdC { h with ta := a, tn := n, tc := c } j := by
  intro j _
  by_cases hj : j = 53
  · subst hj
    rfl
  · rw [if_neg hj]
    exact hdC_congr h { h with ta := a, tn := n, tc := c } j (by omega) (by intro c d; first | rfl | exact ⟨rfl, rfl, rfl⟩ | (exfalso; omega)) (by intro c d; first | rfl | exact ⟨rfl, rfl, rfl⟩ | (exfalso; omega)) (by intro c d; first | rfl | exact ⟨rfl, rfl, rfl⟩ | (exfalso; omega)) (by intro c d; first | rfl | exact ⟨rfl, rfl, rfl⟩ | (exfalso; omega)) (by intro c d; first | rfl | exact ⟨rfl, rfl, rfl⟩ | (exfalso; omega)) (by intro c d; first | rfl | exact ⟨rfl, rfl, rfl⟩ | (exfalso; omega)) (by intro c d; first | rfl | exact ⟨rfl, rfl, rfl⟩ | (exfalso; omega)) (by intro c d; first | rfl | exact ⟨rfl, rfl, rfl⟩ | (exfalso; omega)) (by intro c d; first | rfl | exact ⟨rfl, rfl, rfl⟩ | (exfalso; omega)) (by intro c d; first | rfl | exact ⟨rfl, rfl, rfl⟩ | (exfalso; omega)) (by intro c d; first | rfl | exact ⟨rfl, rfl, rfl⟩ | (exfalso; omega)) (by intro c d; first | rfl | exact ⟨rfl, rfl, rfl⟩ | (exfalso; omega))
theorem hdC_setK (h : Hd) (f : Nat → Int) (k : Nat) (hk : k < 6) (hz : h.knows = fun i => if i < k then f i else 0) : ∀ j, j < 125 → (if j = 54 + k then .int .u64 (f k) else hdC h j) = hdC { h with knows := fun i => if i < k + 1 then f i else 0 } j := by
  intro j _
  by_cases hj : 54 ≤ j ∧ j < 60
  · have e1 : hdC { h with knows := fun i => if i < k + 1 then f i else 0 } j = .int .u64 (if j - 54 < k + 1 then f (j - 54) else 0) := by
      unfold hdC
      rw [if_neg (by omega), if_neg (by omega), if_neg (by omega), if_neg (by omega), if_neg (by omega), if_neg (by omega), if_neg (by omega), if_neg (by omega), if_pos (by omega)]
    have e2 : hdC h j = .int .u64 (if j - 54 < k then f (j - 54) else 0) := by
      unfold hdC
      rw [if_neg (by omega), if_neg (by omega), if_neg (by omega), if_neg (by omega), if_neg (by omega), if_neg (by omega), if_neg (by omega), if_neg (by omega), if_pos (by omega), hz]
    rw [e1, e2]
    by_cases h1 : j = 54 + k
    · subst h1
      rw [if_pos rfl, if_pos (by omega), show 54 + k - 54 = k by omega]
    · rw [if_neg h1]
      by_cases h2 : j - 54 < k
      · rw [if_pos h2, if_pos (by omega)]
      · rw [if_neg h2, if_neg (by omega)]
  · rw [if_neg (by omega)]
    exact hdC_congr h { h with knows := fun i => if i < k + 1 then f i else 0 } j (by omega) (by intro c d; first | rfl | exact ⟨rfl, rfl, rfl⟩ | (exfalso; omega)) (by intro c d; first | rfl | exact ⟨rfl, rfl, rfl⟩ | (exfalso; omega)) (by intro c d; first | rfl | exact ⟨rfl, rfl, rfl⟩ | (exfalso; omega)) (by intro c d; first | rfl | exact ⟨rfl, rfl, rfl⟩ | (exfalso; omega)) (by intro c d; first | rfl | exact ⟨rfl, rfl, rfl⟩ | (exfalso; omega)) (by intro c d; first | rfl | exact ⟨rfl, rfl, rfl⟩ | (exfalso; omega)) (by intro c d; first | rfl | exact ⟨rfl, rfl, rfl⟩ | (exfalso; omega)) (by intro c d; first | rfl | exact ⟨rfl, rfl, rfl⟩ | (exfalso; omega)) (by intro c d; first | rfl | exact ⟨rfl, rfl, rfl⟩ | (exfalso; omega)) (by intro c d; first | rfl | exact ⟨rfl, rfl, rfl⟩ | (exfalso; omega)) (by intro c d; first | rfl | exact ⟨rfl, rfl, rfl⟩ | (exfalso; omega)) (by intro c d; first | rfl | exact ⟨rfl, rfl, rfl⟩ | (exfalso; omega))

theorem hdC_setP (h : Hd) (F : Nat → Int) : ∀ j, j < 125 → (if 2 ≤ j ∧ j < 34 then .int .u8 (F (j - 2)) else hdC h j) = hdC { h with prev := F } j := by
  intro j hj
  by_cases hc : 2 ≤ j ∧ j < 34
  · rw [if_pos hc]
    unfold hdC
    rw [if_neg (by omega), if_neg (by omega), if_pos hc.2]
  · rw [if_neg hc]
    exact hdC_congr h { h with prev := F } j hj (by intro c d; first | rfl | exact ⟨rfl, rfl, rfl⟩ | (exfalso; omega)) (by intro c d; first | rfl | exact ⟨rfl, rfl, rfl⟩ | (exfalso; omega)) (by intro c d; first | rfl | exact ⟨rfl, rfl, rfl⟩ | (exfalso; omega)) (by intro c d; first | rfl | exact ⟨rfl, rfl, rfl⟩ | (exfalso; omega)) (by intro c d; first | rfl | exact ⟨rfl, rfl, rfl⟩ | (exfalso; omega)) (by intro c d; first | rfl | exact ⟨rfl, rfl, rfl⟩ | (exfalso; omega)) (by intro c d; first | rfl | exact ⟨rfl, rfl, rfl⟩ | (exfalso; omega)) (by intro c d; first | rfl | exact ⟨rfl, rfl, rfl⟩ | (exfalso; omega)) (by intro c d; first | rfl | exact ⟨rfl, rfl, rfl⟩ | (exfalso; omega)) (by intro c d; first | rfl | exact ⟨rfl, rfl, rfl⟩ | (exfalso; omega)) (by intro c d; first | rfl | exact ⟨rfl, rfl, rfl⟩ | (exfalso; omega)) (by intro c d; first | rfl | exact ⟨rfl, rfl, rfl⟩ | (exfalso; omega))
theorem hdC_setK1 (h : Hd) (k : Nat) (hk : k < 6) (x : Int) : ∀ j, j < 125 → (if j = 54 + k then .int .u64 x else hdC h j) = hdC { h with knows := fun i => if i = k then x else h.knows i } j := by
  intro j hj
  by_cases hc : j = 54 + k
  · subst hc
    rw [if_pos rfl]
    unfold hdC
    rw [if_neg (by omega), if_neg (by omega), if_neg (by omega), if_neg (by omega), if_neg (by omega), if_neg (by omega), if_neg (by omega), if_neg (by omega), if_pos (by omega)]
    show _ = Value.int .u64 (if 54 + k - 54 = k then x else h.knows (54 + k - 54))
    rw [if_pos (by omega)]
  · rw [if_neg hc]
    refine hdC_congr h { h with knows := fun i => if i = k then x else h.knows i } j hj (by intro c d; first | rfl | exact ⟨rfl, rfl, rfl⟩ | (exfalso; omega)) (by intro c d; first | rfl | exact ⟨rfl, rfl, rfl⟩ | (exfalso; omega)) (by intro c d; first | rfl | exact ⟨rfl, rfl, rfl⟩ | (exfalso; omega)) (by intro c d; first | rfl | exact ⟨rfl, rfl, rfl⟩ | (exfalso; omega)) (by intro c d; first | rfl | exact ⟨rfl, rfl, rfl⟩ | (exfalso; omega)) (by intro c d; first | rfl | exact ⟨rfl, rfl, rfl⟩ | (exfalso; omega)) (by intro c d; first | rfl | exact ⟨rfl, rfl, rfl⟩ | (exfalso; omega)) (by intro c d; first | rfl | exact ⟨rfl, rfl, rfl⟩ | (exfalso; omega)) (fun c d => ?_) (by intro c d; first | rfl | exact ⟨rfl, rfl, rfl⟩ | (exfalso; omega)) (by intro c d; first | rfl | exact ⟨rfl, rfl, rfl⟩ | (exfalso; omega)) (by intro c d; first | rfl | exact ⟨rfl, rfl, rfl⟩ | (exfalso; omega))
    show h.knows (j - 54) = if j - 54 = k then x else h.knows (j - 54)
    rw [if_neg (by omega)]

end Go.Proofs.YtihlpfdhallfpaaDoor
