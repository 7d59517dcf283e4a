/-
  THE WALK OF THE STATEMENT IndexBatches: of all cursors, and wishes, the batch is the chapter's. Asked: the two tables.
-/
import Derived.Test.YtihlpfdhallfpaaDoorBatP
namespace Go.Proofs.YtihlpfdhallfpaaDoor
open Go.ChangeShapes Go.WideShapes Go.ChangeAt Go.RowKit

/-- What is asked, by value. -/
def askC (cu : Nat → Nat) (al : Bool) (a : Option Addr) (n c : Nat) (most : Int) (i : Nat) : Value := if i < 6 then .int .u64 (cu i : Int) else if i = 6 then .bool al else if i = 7 then .slice a n c else .int .i64 most
def askV20 (cu : Nat → Nat) (al : Bool) (a : Option Addr) (n c : Nat) (most : Int) : Array Value := rowArr 9 (askC cu al a n c most)
theorem ask_cur {w : World} {g : Nat} {cu : Nat → Nat} {al : Bool} {a : Option Addr} {n c : Nat} {most : Int} {T : TypeId} {fr : Nat × Nat} (h : w.heap[g]? = some (.cells (askV20 cu al a n c most) T fr)) : w.rangeAt g 0 (curV cu).toList := fun j v hv => by
  have hj : j < 6 := by
    have := (List.getElem?_eq_some_iff.1 hv).1
    simpa [curV, rowArr_size] using this
  have h1 := row_cell h j (by omega)
  rw [Array.getElem?_toList, show (curV cu)[j]? = some (.int .u64 (cu j : Int)) from rowArr_get _ _ _ hj] at hv
  obtain rfl := Option.some.inj hv
  rw [Nat.zero_add, h1]
  unfold askC
  rw [if_pos hj]
theorem ask_wish {w : World} {g : Nat} {cu : Nat → Nat} {al : Bool} {a : Option Addr} {n c : Nat} {most : Int} {T : TypeId} {fr : Nat × Nat} (h : w.heap[g]? = some (.cells (askV20 cu al a n c most) T fr)) : w.rangeAt g 6 (fltV al (.slice a n c)).toList := fun j v hv => by
  have hj : j < 2 := by
    have := (List.getElem?_eq_some_iff.1 hv).1
    simpa [fltV] using this
  have h1 := row_cell h (6 + j) (by omega)
  rw [h1]
  rcases (show j = 0 ∨ j = 1 by omega) with rfl | rfl
  · exact hv
  · exact hv
/-- A batch, as a value. -/
def BatV (ps : World → List Pc → Prop) (u : Value) (w : World) : Prop := ∃ a n c l, u = .slice a n c ∧ PisAt w a n c l ∧ l.length = n ∧ ps w l

set_option maxHeartbeats 8000000 in
set_option maxRecDepth 100000 in
theorem lawBat_any (a : Option Addr) (n c : Nat) (l : List Pc) (ra : Option Addr) (rn rc : Nat) (rs : List Int) (cu : Nat → Nat) (al : Bool) (ta : Option Addr) (tn tc : Nat) (ts : List (Nat → Int)) (most : Int) (w : World) (h : PisR w a n c l) (hb : BsAt w ra rn rc rs) (hcu : ∀ i, i < 6 → cu i < 18446744073709551616) (hmo : -9223372036854775808 ≤ most ∧ most ≤ 9223372036854775807) (hts : TsAt w ta tn tc ts) (hk : KsAt 1 w) (hkw : KsAt 0 w) :
    Calls Tryd.prog 6 #[.slice a n c, .slice ra rn rc, .agg (askV20 cu al ta tn tc most)] w fun e w' => e = .returned (.bool true) ∧ Ext w w' := by
  obtain ⟨AV, hAV⟩ : ∃ z, askV20 cu al ta tn tc most = z := ⟨_, rfl⟩
  obtain ⟨w1, hw1⟩ : ∃ z, w.alloc (.cells AV 64) = z := ⟨_, rfl⟩
  have hE1 : Ext w w1 := by rw [← hw1]; exact (Ext.refl w).alloc _
  obtain ⟨g, hg⟩ : ∃ z, w.heap.size = z := ⟨_, rfl⟩
  have hB1 : w1.heap[g]? = some (.cells (askV20 cu al ta tn tc most) 64 (0, 0)) := by rw [← hw1, hAV]; exact heap_new w _ _ hg.symm
  have HCl := Lib.hid (show ∀ z, Ext w1 z → z.rangeAt g 0 (curV cu).toList ∧ z.rangeAt g 6 (fltV al (.slice ta tn tc)).toList ∧ z.cell? ⟨g, 7, none⟩ = some (.slice ta tn tc) ∧ z.cell? ⟨g, 8, none⟩ = some (.int .i64 most) from fun z hz => ⟨ask_cur (hz.keep hB1), ask_wish (hz.keep hB1), row_cell (hz.keep hB1) 7 (by omega), row_cell (hz.keep hB1) 8 (by omega)⟩)
  have H := Lib.hid (show ∀ x, Ext w1 x → PisR x a n c l from fun x hx => h.ext (hE1.trans hx))
  have HB := Lib.hid (show ∀ x, Ext w1 x → BsAt x ra rn rc rs from fun x hx => hb.ext (hE1.trans hx))
  have HRg := Lib.hid (show ∀ x, Ext w1 x → KsAt 1 x from fun x hx => hdKs_ext hk (hE1.trans hx))
  have HRw := Lib.hid (show ∀ x, Ext w1 x → KsAt 0 x from fun x hx => hdKs_ext hkw (hE1.trans hx))
  have HAw := Lib.hid (show ∀ x, Ext w1 x → Calls Tryd.prog 9 #[] x fun e w' => e = .returned (.bool true) ∧ Ext x w' from fun x hx => awake20_any x (hdKs_ext hk (hE1.trans hx)) (hdKs_ext hkw (hE1.trans hx)))
  have HTs := Lib.hid (show ∀ x, Ext w1 x → TsAt x ta tn tc ts from fun x hx => hts.ext (hE1.trans hx))
  have Hcu := Lib.hid hcu
  have Hmo := Lib.hid hmo
  have HE1 := Lib.hid hE1
  have Hw1 := Lib.hid hw1
  have Hg := Lib.hid hg
  rw [hAV]
  clear h hb hk hkw hts hcu hmo hE1 hw1 hg hAV hB1
  go_enter Tryd.func6, Tryd.ntmps6
  go_upto_region 1 with (fail)
  refine wp_world (w' := w1) Hw1.out ?_
  rw [Hg.out]
  clear Hw1 Hg
  go_wp2_with fail
  refine (HAw.out w1 (Ext.refl w1)).mono ?_
  rintro e w2 ⟨rfl, hE2⟩
  have HE2 := Lib.hid hE2
  have HFw := Lib.hid (few20_any a n c l 30 w2 (H.out w2 hE2))
  clear hE2
  go_wp2_with fail
  refine HFw.out.mono ?_
  rintro e w3 ⟨v, rfl, ⟨B, rfl, hB⟩, hE⟩
  have HE3 := Lib.hid (HE2.out.trans hE)
  have HBf := Lib.hid hB
  clear hE hB HFw
  cases B with
  | false =>
    go_wp2_with fail
    refine (HAw.out w3 HE3.out).mono ?_
    rintro e w4 ⟨rfl, hE⟩
    have HE4 := Lib.hid (HE3.out.trans hE)
    clear hE
    go_wp2
    go_ret
    exact ⟨rfl, HE1.out.trans HE4.out⟩
  | true =>
    have c7 := (HCl.out w3 HE3.out).2.2.1
    by_cases ht : tn ≤ 20
    · have xt : ¬ (20 : Int) < (tn : Int) := by omega
      obtain ⟨hn, htn⟩ := HBf.out rfl
      have hn30 : n ≤ 30 := by omega
      have HP0 := Lib.hid ((H.out w3 HE3.out).full fun j hj => (htn j hj (by omega)).2)
      have HFl := Lib.hid (filled_any a n c l ra rn rc rs w3 HP0.out hn30 (fun j hj => htn j hj (by omega)) (HB.out w3 HE3.out) (HRg.out w3 HE3.out) (HRw.out w3 HE3.out))
      clear hn htn HBf HAw
      go_wp2_with fail
      refine HFl.out.mono ?_
      rintro e w4 ⟨gx, G, S, gr, R, L, cnt, rfl, hM, hR, hcn⟩
      have HM := Lib.hid hM
      have HR := Lib.hid hR
      have Hcn := Lib.hid (show cnt ≤ 400 by omega)
      have HE4 := Lib.hid (HE3.out.trans hM.ext)
      have HMo := Lib.hid (hR.modest (by omega))
      have HEv := Lib.hid hR.even
      have H4 := Lib.hid (xrel_400 hR (show cnt ≤ 400 by omega))
      clear hM hR hcn HFl c7 xt
      go_upto_region 4 with (fail)
      have HY := Lib.hid (show ∀ z, Ext w4.drew z → Ext w4 z from fun z hz => Ext.trans (Ext.refl w4).drew hz)
      have HBa := Lib.hid (show ∀ z, Ext w4 z → Calls Tryd.prog 19 #[.pointer (some ⟨gx, 0, none⟩), .agg (curV cu), .agg (fltV al (.slice ta tn tc)), .int .i64 most] z fun e w' => ∃ u, e = .returned u ∧ Ext z w' ∧ BatV (fun _ ps => ps.length = ((allB (lenS S) cu).take (min most 8).toNat).length ∧ ∀ j, j < ((allB (lenS S) cu).take (min most 8).toNat).length → CutIs S al ts (((allB (lenS S) cu).take (min most 8).toNat).getD j (0, 0)) (ps.getD j pcZ)) u w' from fun z hz => by
        refine (batch_any HMo.out HEv.out (fun i hi => (H4.out i hi).1) Hcu.out al ta tn tc ts most Hmo.out z (HM.out.ix.ext hz) (HTs.out z (HE4.out.trans hz))).mono ?_
        rintro e w' ⟨v, ps, rfl, hE, ho, hp, h1, h2⟩
        obtain ⟨va, vc, rfl⟩ := own_pisl ho
        have hlen : ps.length ≤ 140737488355328 := by
          rw [h1, List.length_take]
          omega
        exact ⟨_, rfl, hE, va, ps.length, vc, ps, rfl, own_pis ho hp hlen, rfl, h1, h2⟩)
      have HRb := Lib.hid (show ∀ z, Ext w4 z → Calls Tryd.prog 22 #[.pointer (some ⟨gr, 0, none⟩), .agg (curV cu), .agg (fltV al (.slice ta tn tc)), .int .i64 most] z fun e w' => ∃ u, e = .returned u ∧ Ext z w' ∧ BatV (fun _ ps => ps = ((allB (lenL L) cu).take (min most 8).toNat).map (refP L al ts)) u w' from fun z hz => by
        refine (refBatch_any (fun i hi => (H4.out i hi).2) Hcu.out al ta tn tc ts most z (HM.out.ri.ext hz) (HTs.out z (HE4.out.trans hz))).mono ?_
        rintro e w' ⟨v, ps, rfl, hE, ho, h1⟩
        obtain ⟨va, vc, rfl⟩ := own_pisl ho
        have hlen : ps.length ≤ 140737488355328 := by
          rw [h1, List.length_map, List.length_take]
          omega
        refine ⟨_, rfl, hE, va, ps.length, vc, ps, rfl, own_pis ho (fun x hx => ?_) hlen, rfl, h1⟩
        rw [h1] at hx
        obtain ⟨q, hq, rfl⟩ := List.mem_map.1 hx
        obtain ⟨hq1, hq2⟩ := allB_mem (List.mem_of_mem_take hq)
        exact cutP_at ((HM.out.ri.pcs q.1 hq1 _ (getD_mem pcN (show q.2 < (L q.1).length from hq2))).ext (hz.trans hE)) al ts)
      have HSa := Lib.hid (show ∀ z (u v : Value), BatV (fun _ ps => ps.length = ((allB (lenS S) cu).take (min most 8).toNat).length ∧ ∀ j, j < ((allB (lenS S) cu).take (min most 8).toNat).length → CutIs S al ts (((allB (lenS S) cu).take (min most 8).toNat).getD j (0, 0)) (ps.getD j pcZ)) u z → BatV (fun _ ps => ps = ((allB (lenL L) cu).take (min most 8).toNat).map (refP L al ts)) v z → Calls Tryd.prog 18 #[u, v] z fun e w' => e = .returned (.bool true) ∧ Ext z w' from by
        rintro z u v ⟨a1, n1, c1, l1, rfl, hp1, hl1, k1, k2⟩ ⟨a2, n2, c2, l2, rfl, hp2, hl2, k3⟩
        obtain ⟨e1, e2⟩ := batch_eq HM.out HR.out k1 k2 k3
        obtain rfl : n1 = n2 := by omega
        exact refSame_any a1 n1 c1 l1 a2 c2 l2 z hp1 hp2 fun k hk => e2 k (by omega))
      obtain ⟨Q1, hQ1⟩ : ∃ z : World → List Pc → Prop, (fun _ ps => ps.length = ((allB (lenS S) cu).take (min most 8).toNat).length ∧ ∀ j, j < ((allB (lenS S) cu).take (min most 8).toNat).length → CutIs S al ts (((allB (lenS S) cu).take (min most 8).toNat).getD j (0, 0)) (ps.getD j pcZ)) = z := ⟨_, rfl⟩
      obtain ⟨Q2, hQ2⟩ : ∃ z : World → List Pc → Prop, (fun _ ps => ps = ((allB (lenL L) cu).take (min most 8).toNat).map (refP L al ts)) = z := ⟨_, rfl⟩
      have HQ1 := Lib.hid (show ∀ u z z', Ext z z' → BatV Q1 u z → BatV Q1 u z' from by
        rw [← hQ1]
        rintro u z z' hE ⟨a1, n1, c1, l1, rfl, hp1, k⟩
        exact ⟨a1, n1, c1, l1, rfl, hp1.ext hE, k⟩)
      have HQ2 := Lib.hid (show ∀ u z z', Ext z z' → BatV Q2 u z → BatV Q2 u z' from by
        rw [← hQ2]
        rintro u z z' hE ⟨a1, n1, c1, l1, rfl, hp1, k⟩
        exact ⟨a1, n1, c1, l1, rfl, hp1.ext hE, k⟩)
      rw [hQ1] at HBa HSa
      rw [hQ2] at HRb HSa
      obtain ⟨CV, hCV⟩ : ∃ z, curV cu = z := ⟨_, rfl⟩
      obtain ⟨FV, hFV⟩ : ∃ z, fltV al (.slice ta tn tc) = z := ⟨_, rfl⟩
      have HCs := Lib.hid (show CV.toList.length = 6 ∧ FV.toList.length = 2 by rw [← hCV, ← hFV]; exact ⟨by simp [curV, rowArr_size], rfl⟩)
      rw [hCV, hFV] at HCl HBa HRb
      clear hQ1 hQ2 hCV hFV
      refine wp_region_lexA (by kernel_rfl) (by kernel_rfl) ?_
      refine lx_e (.bool true) [] (by kernel_rfl) rfl (by rfl) (fun w1 hw1 => ?_) ?_
      · simp only [pk, lexVals]
        go_simp
        exact ⟨Ext.refl _, rfl⟩
      refine lx_e (.bool true) [(0, 32)] (by kernel_rfl) rfl (by rfl) (fun w1 hw1 => ?_) ?_
      · simp only [pk, nthSp, lexVals]
        go_simp
        exact ⟨Ext.refl _, rfl⟩
      refine lx_ge (.pointer (some ⟨gx, 0, none⟩)) [(0, 33)] 33 (by kernel_rfl) rfl (by kernel_rfl) (by rfl) (fun w1 => ?_) (fun w1 hw1 => ?_) ?_
      · simp only [pk, nthSp, lexVals]
        rfl
      · simp only [pk, nthSp, lexVals]
        go_simp
        exact ⟨Ext.refl _, rfl⟩
      refine lx_ge (.pointer (some ⟨g, 0, none⟩)) [(1, 33)] 33 (by kernel_rfl) rfl (by kernel_rfl) (by rfl) (fun w1 => ?_) (fun w1 hw1 => ?_) ?_
      · simp only [pk, nthSp, lexVals]
        rfl
      · simp only [pk, nthSp, lexVals]
        go_simp
        exact ⟨Ext.refl _, rfl⟩
      refine lx_ge (.agg CV) [(0, 35), (2, 33)] 33 (by kernel_rfl) rfl (by kernel_rfl) (by rfl) (fun w1 => ?_) (fun w1 hw1 => ?_) ?_
      · simp only [pk, nthSp, lexVals]
        rfl
      · simp only [pk, nthSp, lexVals]
        exact lu_midP rfl rfl CV.toList (HCl.out w1 (HE4.out.trans (HY.out w1 hw1))).1 Tryd.underlying48 rfl (by rw [HCs.out.1]; kernel_rfl) CV (by simp)
      refine lx_ge (.pointer (some ⟨g, 6, none⟩)) [(3, 33)] 33 (by kernel_rfl) rfl (by kernel_rfl) (by rfl) (fun w1 => ?_) (fun w1 hw1 => ?_) ?_
      · simp only [pk, nthSp, lexVals]
        rfl
      · simp only [pk, nthSp, lexVals]
        go_simp
        exact ⟨Ext.refl _, rfl⟩
      refine lx_ge (.agg FV) [(0, 37), (4, 33)] 33 (by kernel_rfl) rfl (by kernel_rfl) (by rfl) (fun w1 => ?_) (fun w1 hw1 => ?_) ?_
      · simp only [pk, nthSp, lexVals]
        rfl
      · simp only [pk, nthSp, lexVals]
        exact lu_midP rfl rfl FV.toList (HCl.out w1 (HE4.out.trans (HY.out w1 hw1))).2.1 Tryd.underlying58 rfl (by rw [HCs.out.2]; kernel_rfl) FV (by simp)
      refine lx_ge (.pointer (some ⟨g, 8, none⟩)) [(5, 33)] 33 (by kernel_rfl) rfl (by kernel_rfl) (by rfl) (fun w1 => ?_) (fun w1 hw1 => ?_) ?_
      · simp only [pk, nthSp, lexVals]
        rfl
      · simp only [pk, nthSp, lexVals]
        go_simp
        exact ⟨Ext.refl _, rfl⟩
      refine lx_ge (.int .i64 most) [(0, 39), (6, 33)] 33 (by kernel_rfl) rfl (by kernel_rfl) (by rfl) (fun w1 => ?_) (fun w1 hw1 => ?_) ?_
      · simp only [pk, nthSp, lexVals]
        rfl
      · simp only [pk, nthSp, lexVals]
        have hc := (HCl.out w1 (HE4.out.trans (HY.out w1 hw1))).2.2.2
        clear hw1
        go_simp
        exact ⟨Ext.refl _, rfl⟩
      refine lx_ga (BatV Q1) [(6, 34), (4, 36), (2, 38), (0, 40), (7, 33)] 33 (by kernel_rfl) rfl (by kernel_rfl) (by rfl) (fun u z z' he h => HQ1.out u z z' he h) (fun w1 => ?_) (fun w1 hw1 => ?_) ?_
      · simp only [pk, nthSp, lexVals]
        rfl
      · simp only [pk, nthSp, lexVals]
        have HC := Lib.hid (HBa.out w1 (HY.out w1 hw1))
        clear hw1
        go_simp
        refine HC.out.mono ?_
        rintro e w9 ⟨u, rfl, h1, h2⟩
        exact ⟨u, rfl, h1, h2⟩
      refine lx_ge (.pointer (some ⟨gr, 0, none⟩)) [(8, 33)] 33 (by kernel_rfl) rfl (by kernel_rfl) (by rfl) (fun w1 => ?_) (fun w1 hw1 => ?_) ?_
      · simp only [pk, nthSp, lexVals]
        rfl
      · simp only [pk, nthSp, lexVals]
        go_simp
        exact ⟨Ext.refl _, rfl⟩
      refine lx_ge (.pointer (some ⟨g, 0, none⟩)) [(9, 33)] 33 (by kernel_rfl) rfl (by kernel_rfl) (by rfl) (fun w1 => ?_) (fun w1 hw1 => ?_) ?_
      · simp only [pk, nthSp, lexVals]
        rfl
      · simp only [pk, nthSp, lexVals]
        go_simp
        exact ⟨Ext.refl _, rfl⟩
      refine lx_ge (.agg CV) [(0, 43), (10, 33)] 33 (by kernel_rfl) rfl (by kernel_rfl) (by rfl) (fun w1 => ?_) (fun w1 hw1 => ?_) ?_
      · simp only [pk, nthSp, lexVals]
        rfl
      · simp only [pk, nthSp, lexVals]
        exact lu_midP rfl rfl CV.toList (HCl.out w1 (HE4.out.trans (HY.out w1 hw1))).1 Tryd.underlying48 rfl (by rw [HCs.out.1]; kernel_rfl) CV (by simp)
      refine lx_ge (.pointer (some ⟨g, 6, none⟩)) [(11, 33)] 33 (by kernel_rfl) rfl (by kernel_rfl) (by rfl) (fun w1 => ?_) (fun w1 hw1 => ?_) ?_
      · simp only [pk, nthSp, lexVals]
        rfl
      · simp only [pk, nthSp, lexVals]
        go_simp
        exact ⟨Ext.refl _, rfl⟩
      refine lx_ge (.agg FV) [(0, 45), (12, 33)] 33 (by kernel_rfl) rfl (by kernel_rfl) (by rfl) (fun w1 => ?_) (fun w1 hw1 => ?_) ?_
      · simp only [pk, nthSp, lexVals]
        rfl
      · simp only [pk, nthSp, lexVals]
        exact lu_midP rfl rfl FV.toList (HCl.out w1 (HE4.out.trans (HY.out w1 hw1))).2.1 Tryd.underlying58 rfl (by rw [HCs.out.2]; kernel_rfl) FV (by simp)
      refine lx_ge (.pointer (some ⟨g, 8, none⟩)) [(13, 33)] 33 (by kernel_rfl) rfl (by kernel_rfl) (by rfl) (fun w1 => ?_) (fun w1 hw1 => ?_) ?_
      · simp only [pk, nthSp, lexVals]
        rfl
      · simp only [pk, nthSp, lexVals]
        go_simp
        exact ⟨Ext.refl _, rfl⟩
      refine lx_ge (.int .i64 most) [(0, 47), (14, 33)] 33 (by kernel_rfl) rfl (by kernel_rfl) (by rfl) (fun w1 => ?_) (fun w1 hw1 => ?_) ?_
      · simp only [pk, nthSp, lexVals]
        rfl
      · simp only [pk, nthSp, lexVals]
        have hc := (HCl.out w1 (HE4.out.trans (HY.out w1 hw1))).2.2.2
        clear hw1
        go_simp
        exact ⟨Ext.refl _, rfl⟩
      refine lx_ga (BatV Q2) [(6, 42), (4, 44), (2, 46), (0, 48), (15, 33)] 33 (by kernel_rfl) rfl (by kernel_rfl) (by rfl) (fun u z z' he h => HQ2.out u z z' he h) (fun w1 => ?_) (fun w1 hw1 => ?_) ?_
      · simp only [pk, nthSp, lexVals]
        rfl
      · simp only [pk, nthSp, lexVals]
        have HC := Lib.hid (HRb.out w1 (HY.out w1 hw1))
        clear hw1
        go_simp
        refine HC.out.mono ?_
        rintro e w9 ⟨u, rfl, h1, h2⟩
        exact ⟨u, rfl, h1, h2⟩
      refine lx_ge (.bool true) [(8, 41), (0, 49), (16, 33)] 33 (by kernel_rfl) rfl (by kernel_rfl) (by rfl) (fun w1 => ?_) (fun w1 hw1 => ?_) ?_
      · simp only [pk, nthSp, lexVals]
        rintro u41 h41
        rintro u49 h49
        rfl
      · simp only [pk, nthSp, lexVals]
        rintro u41 h41
        rintro u49 h49
        have HC := Lib.hid (HSa.out w1 u41 u49 h41 h49)
        clear hw1
        go_simp
        refine HC.out.mono ?_
        rintro e w9 ⟨rfl, hE9⟩
        exact ⟨_, rfl, hE9, rfl⟩
      refine lx_e (.bool true) [(17, 33), (0, 50)] (by kernel_rfl) rfl (by rfl) (fun w1 hw1 => ?_) ?_
      · simp only [pk, nthSp, lexVals]
        go_simp
        exact ⟨Ext.refl _, rfl⟩
      refine lx_e (.bool true) [(0, 51)] (by kernel_rfl) rfl (by rfl) (fun w1 hw1 => ?_) ?_
      · simp only [pk, nthSp, lexVals]
        go_simp
        exact ⟨Ext.refl _, rfl⟩
      refine lx_stopA (by rfl) fun y hy => ?_
      have HEy := Lib.hid (HY.out y hy)
      clear hy HY
      simp only [rv, pf, lexVals]
      rintro v41 - v49 -
      simp only [Act.put, List.setIfInBounds_toArray, List.set_cons_zero, List.set_cons_succ]
      go_wp2_with fail
      go_ret
      exact ⟨rfl, HE1.out.trans (HE4.out.trans HEy.out)⟩
    · have xt : (20 : Int) < (tn : Int) := by omega
      go_wp2_with fail
      refine (HAw.out w3 HE3.out).mono ?_
      rintro e w4 ⟨rfl, hE⟩
      have HE4 := Lib.hid (HE3.out.trans hE)
      clear hE
      go_wp2
      go_ret
      exact ⟨rfl, HE1.out.trans HE4.out⟩

end Go.Proofs.YtihlpfdhallfpaaDoor
