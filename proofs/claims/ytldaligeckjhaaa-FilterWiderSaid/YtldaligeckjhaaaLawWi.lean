/-
  The walk of jalousielaw19.FilterWider: it answers true. No conditions.
-/
import Derived.Test.YtldaligeckjhaaaFaP
import Derived.Test.YtldaligeckjhaaaWid
namespace Go.Proofs.Ytldaligeckjhaaa
open Go.ChangeShapes Go.WideShapes Go.ChangeAt Go.RowKit

/-- Items that a filter shows, as a slice. -/
def ShV (cs : List Rw) (p : It → Bool) (u : Value) (w : World) : Prop := ∃ (a : Option Addr) (n c : Nat) (its : List It), u = .slice a n c ∧ (its.filter p).length = n ∧ n ≤ 9223372036854775807 ∧ (0 < n → ∃ g, a = some ⟨g, 0, none⟩ ∧ ∀ i, i < n → w.rangeAt g (i * 146) (itL (itAt (its.filter p) i))) ∧ (∀ t ∈ its, ItAt w t) ∧ FoldIs cs its
theorem rangeAt_ext {w w' : World} {g o : Nat} {l : List Value} (h : w.rangeAt g o l) (he : Ext w w') : w'.rangeAt g o l := fun i v hv => by
  have h1 := h i v hv
  rw [he.cell (World.block_lt_of_cell? _ _ h1)]
  exact h1
theorem ShV.ext {cs : List Rw} {p : It → Bool} {u : Value} {w w' : World} (he : Ext w w') (h : ShV cs p u w) : ShV cs p u w' := by
  obtain ⟨a, n, c, its, h1, h2, h3, h4, h5, h6⟩ := h
  refine ⟨a, n, c, its, h1, h2, h3, fun hn => ?_, fun t ht => (h5 t ht).ext he, h6⟩
  obtain ⟨g, e, hg⟩ := h4 hn
  exact ⟨g, e, fun i hi => rangeAt_ext (hg i hi) he⟩
theorem shownV (al : Bool) (b : Option Addr) (m d : Nat) (ss : List ByteArray) (a : Option Addr) (n c : Nat) (l : List Rw) (w : World) (h : RwsAt w a n c l) (hs : n ≤ 100000) (hu : SrAt w b m d ss) :
    Calls Try.prog 23 #[.agg (fltV al (.slice b m d)), .slice a n c] w fun e w' => ∃ v, e = .returned v ∧ Ext w w' ∧ ShV (cntN l n) (shP al ss) v w' := by
  refine (shown_any al b m d ss a n c l w h hs hu).mono ?_
  rintro e w' ⟨v, its, rfl, hE, ho, hat, hfi⟩
  obtain ⟨ga, gc, rfl⟩ := own_itsl ho
  obtain ⟨k1, k2⟩ := own_its ho
  exact ⟨_, rfl, hE, ga, _, gc, its, rfl, rfl, k1, k2, hat, hfi⟩
/-- A Boolean that is true at one place. -/
def YesAt (k ks : Nat) (u : Value) : Prop := ∃ B : Bool, u = .bool B ∧ (k = ks → B = true)
theorem mem_itAt {l : List It} {t : It} (h : t ∈ l) : ∃ i, i < l.length ∧ itAt l i = t := by
  obtain ⟨i, hi⟩ := List.getElem?_of_mem h
  refine ⟨i, (List.getElem?_eq_some_iff.1 hi).1, ?_⟩
  unfold itAt
  rw [List.getD_eq_getElem?_getD, hi]
  rfl
/-- What the wider filter shows besides: of each shown item the same. -/
theorem wider_has {cs : List Rw} {xs ys : List It} {p q : It → Bool} (hx : FoldIs cs xs) (hy : FoldIs cs ys) (hpq : ∀ t u : It, t.kn = u.kn → t.al = u.al → t.tags = u.tags → q u = true → p t = true) {j : Nat} (hj : j < (ys.filter q).length) :
    ∃ k, k < (xs.filter p).length ∧ ∀ B, SmR (itAt (xs.filter p) k) (itAt (ys.filter q) j) (bytesL (itAt (xs.filter p) k).hd.1 (itAt (xs.filter p) k).hd.2) (bytesL (itAt (ys.filter q) j).hd.1 (itAt (ys.filter q) j).hd.2) B → B = true := by
  obtain ⟨u, hu⟩ : ∃ u, itAt (ys.filter q) j = u := ⟨_, rfl⟩
  have hm : u ∈ ys.filter q := by rw [← hu]; exact itAt_mem hj
  obtain ⟨hm1, hm2⟩ := List.mem_filter.1 hm
  obtain ⟨i, hi, e⟩ := mem_itAt hm1
  have hs := hx.same hy
  have hp := hx.pair hy i (by rw [hs.1]; exact hi)
  rw [e] at hp
  have ht : itAt xs i ∈ xs.filter p := List.mem_filter.2 ⟨itAt_mem (by rw [hs.1]; exact hi), hpq _ _ hp.1 hp.2.1 hp.2.2 hm2⟩
  obtain ⟨k, hk, ek⟩ := mem_itAt ht
  have h2 := hs.2 i (by rw [hs.1]; exact hi)
  refine ⟨k, hk, ?_⟩
  rw [ek, hu, ← e]
  exact h2

set_option maxHeartbeats 8000000 in
set_option maxRecDepth 100000 in
theorem lawWi_any (al : Bool) (sa : Option Addr) (sm sd : Nat) (ss : List ByteArray) (bl : Bool) (ta : Option Addr) (tm td : Nat) (ts : List ByteArray) (a : Option Addr) (n c : Nat) (l : List Rw) (w : World) (hs : SrAt w sa sm sd ss) (hu : SrAt w ta tm td ts) (h : RwsAt w a n c l) :
    Calls Try.prog 9 #[.agg (fltV al (.slice sa sm sd)), .agg (fltV bl (.slice ta tm td)), .slice a n c] w fun e w' => e = .returned (.bool true) ∧ Ext w w' := by
  have hcap := h.cap
  have hlim := h.lim
  obtain ⟨w2, hw2, hE2, hB2, hD2⟩ := two_box w (fltV al (.slice sa sm sd)) (fltV bl (.slice ta tm td)) 55 55
  obtain ⟨g, hg⟩ : ∃ g, w.heap.size = g := ⟨_, rfl⟩
  rw [hg] at hB2 hD2
  have H := Lib.hid (h.ext hE2)
  have HS := Lib.hid (hs.ext hE2)
  have HU := Lib.hid (hu.ext hE2)
  have HFew1 := Lib.hid (fun u (hu : Ext w2 u) => few19_any al sa sm sd ss u (HS.out.ext hu))
  have HFew2 := Lib.hid (fun u (hu : Ext w2 u) => few19_any bl ta tm td ts u (HU.out.ext hu))
  have HFewR := Lib.hid (fun u (hu : Ext w2 u) => fewR_any a n c l 25 u (H.out.ext hu))
  have HWi := Lib.hid (fun u (hu : Ext w2 u) => wider_any al sa sm sd ss bl ta tm td ts u (HS.out.ext hu) (HU.out.ext hu))
  have HRw := Lib.hid (fun u (hu : Ext w2 u) => refWider_any al sa sm sd ss bl ta tm td ts u (HS.out.ext hu) (HU.out.ext hu))
  have HSh1 := Lib.hid (fun (hn : n ≤ 100000) u (hu : Ext w2 u) => shownV al sa sm sd ss a n c l u (H.out.ext hu) hn (HS.out.ext hu))
  have HSh2 := Lib.hid (fun (hn : n ≤ 100000) u (hu : Ext w2 u) => shownV bl ta tm td ts a n c l u (H.out.ext hu) hn (HU.out.ext hu))
  have HA := Lib.hid awake19_any
  obtain ⟨WB, hWB⟩ : ∃ z, widB al bl ss ts = z := ⟨_, rfl⟩
  have HWB := Lib.hid hWB
  rw [hWB] at HWi HRw
  obtain ⟨FA, hFA⟩ : ∃ z, fltV al (.slice sa sm sd) = z := ⟨_, rfl⟩
  obtain ⟨FB, hFB⟩ : ∃ z, fltV bl (.slice ta tm td) = z := ⟨_, rfl⟩
  have HFs := Lib.hid (show FA.size = 2 ∧ FB.size = 2 by rw [← hFA, ← hFB]; exact ⟨rfl, rfl⟩)
  rw [hFA] at HFew1 HWi HRw HSh1 hw2 hB2 ⊢
  rw [hFB] at HFew2 HWi HRw HSh2 hw2 hD2 ⊢
  have HBx := Lib.hid (show ∀ u, Ext w2 u → u.heap[g]? = some (.cells FA 55 (0, 0)) ∧ u.heap[g + 1]? = some (.cells FB 55 (0, 0)) from fun u hu => ⟨hu.keep hB2, hu.keep hD2⟩)
  have HE2 := Lib.hid hE2
  have Hw2 := Lib.hid hw2
  have Hg := Lib.hid hg
  clear h hs hu hw2 hE2 hB2 hD2 hg hWB hFA hFB
  go_enter Try.func9, Try.ntmps9
  go_upto_region 1 with (fail)
  refine wp_world (w' := w2) Hw2.out ?_
  rw [Hg.out]
  clear Hw2 Hg
  go_wp2_with fail
  refine (HA.out w2).mono ?_
  rintro e w3 ⟨rfl, hE3⟩
  have HE3 := Lib.hid hE3
  clear hE3
  go_wp2_with (refine wpList_load_rowW rfl 55 (.tmp 3) rfl g rfl _ _ _ _ (HBx.out _ HE3.out).1 Try.underlying55 rfl (by rw [HFs.out.1]; kernel_rfl) ?_; simp only [Act.put, List.setIfInBounds_toArray, List.set_cons_zero, List.set_cons_succ])
  refine (HFew1.out w3 HE3.out).mono ?_
  rintro e w4 ⟨R1, rfl, -, hE4⟩
  have HE4 := Lib.hid (HE3.out.trans hE4)
  clear hE4
  cases R1 with
  | false =>
    go_wp2_with fail
    refine (HA.out _).mono ?_
    rintro e w9 ⟨rfl, hE9⟩
    go_wp2
    go_ret
    exact ⟨rfl, HE2.out.trans (HE4.out.trans hE9)⟩
  | true =>
    go_wp2_with (refine wpList_load_rowW rfl 55 (.tmp 4) rfl (g + 1) rfl _ _ _ _ (HBx.out _ HE4.out).2 Try.underlying55 rfl (by rw [HFs.out.2]; kernel_rfl) ?_; simp only [Act.put, List.setIfInBounds_toArray, List.set_cons_zero, List.set_cons_succ])
    refine (HFew2.out w4 HE4.out).mono ?_
    rintro e w5 ⟨R2, rfl, -, hE5⟩
    have HE5 := Lib.hid (HE4.out.trans hE5)
    clear hE5
    cases R2 with
    | false =>
      go_wp2_with fail
      refine (HA.out _).mono ?_
      rintro e w9 ⟨rfl, hE9⟩
      go_wp2
      go_ret
      exact ⟨rfl, HE2.out.trans (HE5.out.trans hE9)⟩
    | true =>
      go_wp2_with fail
      refine (HFewR.out w5 HE5.out).mono ?_
      rintro e w6 ⟨R3, rfl, hR3, hE6⟩
      have HE6 := Lib.hid (HE5.out.trans hE6)
      have HRn := Lib.hid hR3
      clear hE6 hR3
      cases R3 with
      | false =>
        go_wp2_with fail
        refine (HA.out _).mono ?_
        rintro e w9 ⟨rfl, hE9⟩
        go_wp2
        go_ret
        exact ⟨rfl, HE2.out.trans (HE6.out.trans hE9)⟩
      | true =>
        have hn : n ≤ 25 := by
          have := HRn.out rfl
          omega
        have Hn := Lib.hid (show n ≤ 100000 by omega)
        clear HRn
        go_upto_region 3 with (fail)
        go_wp2_with (first | (refine wpList_load_rowW rfl 55 (.tmp 3) rfl g rfl _ _ _ _ (HBx.out _ HE6.out).1 Try.underlying55 rfl (by rw [HFs.out.1]; kernel_rfl) ?_; simp only [Act.put, List.setIfInBounds_toArray, List.set_cons_zero, List.set_cons_succ]) | (refine wpList_load_rowW rfl 55 (.tmp 4) rfl (g + 1) rfl _ _ _ _ (HBx.out _ HE6.out).2 Try.underlying55 rfl (by rw [HFs.out.2]; kernel_rfl) ?_; simp only [Act.put, List.setIfInBounds_toArray, List.set_cons_zero, List.set_cons_succ]))
        refine (HWi.out w6 HE6.out).mono ?_
        rintro e w7 ⟨rfl, hE7⟩
        have HE7 := Lib.hid (HE6.out.trans hE7)
        clear hE7
        have hne : (WB != WB) = false := by cases WB <;> rfl
        go_upto_region 4 with (fail)
        go_wp2_with (first | (refine wpList_load_rowW rfl 55 (.tmp 3) rfl g rfl _ _ _ _ (HBx.out _ HE7.out).1 Try.underlying55 rfl (by rw [HFs.out.1]; kernel_rfl) ?_; simp only [Act.put, List.setIfInBounds_toArray, List.set_cons_zero, List.set_cons_succ]) | (refine wpList_load_rowW rfl 55 (.tmp 4) rfl (g + 1) rfl _ _ _ _ (HBx.out _ HE7.out).2 Try.underlying55 rfl (by rw [HFs.out.2]; kernel_rfl) ?_; simp only [Act.put, List.setIfInBounds_toArray, List.set_cons_zero, List.set_cons_succ]))
        refine (HRw.out w7 HE7.out).mono ?_
        rintro e w8 ⟨rfl, hE8⟩
        have HE8 := Lib.hid (HE7.out.trans hE8)
        clear hE8
        go_upto_region 6 with (fail)
        have HY := Lib.hid (show ∀ u, Ext w8.drew u → Ext w2 u from fun u hu => HE8.out.trans (Ext.trans (Ext.refl w8).drew hu))
        refine wp_region_lexA (by kernel_rfl) (by kernel_rfl) ?_
        refine lx_e (.agg FA) [] (by kernel_rfl) rfl (by rfl) (fun w1 hw1 => ?_) ?_
        · simp only [pk, lexVals]
          exact lu_row rfl rfl (HBx.out _ (HY.out w1 hw1)).1 Try.underlying55 rfl (by rw [HFs.out.1]; kernel_rfl)
        refine lx_e (.slice a n c) [] (by kernel_rfl) rfl (by rfl) (fun w1 hw1 => ?_) ?_
        · simp only [pk, lexVals]
          go_simp
          exact ⟨Ext.refl _, rfl⟩
        refine lx_a (ShV (cntN l n) (shP al ss)) [(1, 39), (0, 40)] (by kernel_rfl) rfl (by rfl) (fun u w1 w2 he h => h.ext he) (fun w1 hw1 => ?_) ?_
        · simp only [pk, nthSp, lexVals]
          have HM := Lib.hid (HSh1.out Hn.out w1 (HY.out w1 hw1))
          clear hw1
          go_simp
          refine HM.out.mono ?_
          rintro e w9 ⟨v, rfl, hE9, hv⟩
          exact ⟨v, rfl, hE9, hv⟩
        refine lx_e (.agg FB) [] (by kernel_rfl) rfl (by rfl) (fun w1 hw1 => ?_) ?_
        · simp only [pk, lexVals]
          exact lu_row rfl rfl (HBx.out _ (HY.out w1 hw1)).2 Try.underlying55 rfl (by rw [HFs.out.2]; kernel_rfl)
        refine lx_e (.slice a n c) [] (by kernel_rfl) rfl (by rfl) (fun w1 hw1 => ?_) ?_
        · simp only [pk, lexVals]
          go_simp
          exact ⟨Ext.refl _, rfl⟩
        refine lx_a (ShV (cntN l n) (shP bl ts)) [(1, 42), (0, 43)] (by kernel_rfl) rfl (by rfl) (fun u w1 w2 he h => h.ext he) (fun w1 hw1 => ?_) ?_
        · simp only [pk, nthSp, lexVals]
          have HM := Lib.hid (HSh2.out Hn.out w1 (HY.out w1 hw1))
          clear hw1
          go_simp
          refine HM.out.mono ?_
          rintro e w9 ⟨v, rfl, hE9, hv⟩
          exact ⟨v, rfl, hE9, hv⟩
        refine lx_a (ShV (cntN l n) (shP al ss)) [(3, 41)] (by kernel_rfl) rfl (by rfl) (fun u w1 w2 he h => h.ext he) (fun w1 hw1 => ?_) ?_
        · simp only [pk, nthSp, lexVals]
          rintro u41 h41
          clear hw1
          go_simp
          exact ⟨Ext.refl _, h41⟩
        refine lx_a (ShV (cntN l n) (shP bl ts)) [(1, 44)] (by kernel_rfl) rfl (by rfl) (fun u w1 w2 he h => h.ext he) (fun w1 hw1 => ?_) ?_
        · simp only [pk, nthSp, lexVals]
          rintro u44 h44
          clear hw1
          go_simp
          exact ⟨Ext.refl _, h44⟩
        refine lx_stopA (by rfl) fun y hy => ?_
        have HEy := Lib.hid (HY.out y hy)
        clear hy HY
        simp only [rv, pf, lexVals]
        rintro v41 - v44 - v8 ⟨xa, mx, xc, its, rfl, hx1, hx2, hx3, hx4, hx5⟩ v9 ⟨ya, my, yc, jts, rfl, hy1, hy2, hy3, hy4, hy5⟩
        simp only [Act.put, List.setIfInBounds_toArray, List.set_cons_zero, List.set_cons_succ]
        have HX3 := Lib.hid hx3
        have HX4 := Lib.hid hx4
        have HY3 := Lib.hid hy3
        have HY4 := Lib.hid hy4
        have HLx := Lib.hid hx1
        have HLy := Lib.hid hy1
        have HHas := Lib.hid (show WB = true → ∀ j, j < my → ∃ k, k < mx ∧ ∀ B, SmR (itAt (its.filter (shP al ss)) k) (itAt (jts.filter (shP bl ts)) j) (bytesL (itAt (its.filter (shP al ss)) k).hd.1 (itAt (its.filter (shP al ss)) k).hd.2) (bytesL (itAt (jts.filter (shP bl ts)) j).hd.1 (itAt (jts.filter (shP bl ts)) j).hd.2) B → B = true from fun e j hj => by
          have h1 := wider_has hx5 hy5 (p := shP al ss) (q := shP bl ts) (fun t u k1 k2 k3 k4 => by
            unfold shP at k4 ⊢
            rw [k1, k2, k3]
            exact widB_shows (HWB.out.trans e) _ _ _ k4) (j := j) (by rw [hy1]; exact hj)
          rw [hx1] at h1
          exact h1)
        have HItx := Lib.hid (show ∀ k, k < mx → ItAt y (itAt (its.filter (shP al ss)) k) from fun k hk => hx4 _ (List.mem_filter.1 (itAt_mem (by rw [hx1]; exact hk))).1)
        have HIty := Lib.hid (show ∀ k, k < my → ItAt y (itAt (jts.filter (shP bl ts)) k) from fun k hk => hy4 _ (List.mem_filter.1 (itAt_mem (by rw [hy1]; exact hk))).1)
        obtain ⟨gs, hgs⟩ : ∃ z, its.filter (shP al ss) = z := ⟨_, rfl⟩
        obtain ⟨hs, hhs⟩ : ∃ z, jts.filter (shP bl ts) = z := ⟨_, rfl⟩
        rw [hgs] at HX3 HHas HItx
        rw [hhs] at HY3 HHas HIty
        clear hx1 hx3 hx4 hx5 hy1 hy3 hy4 hy5 hgs hhs hne
        cases WB with
        | false =>
          go_wp2_with fail
          go_loopw [10] (fun i z => ∃ j : Nat, j ≤ my ∧ i = .int .i64 (j : Int) ∧ Ext y z) (fun i _ => my - (intOf i).toNat)
          case atStart => exact ⟨0, Nat.zero_le _, rfl, Ext.refl y⟩
          case round =>
            obtain ⟨j, hj, rfl, hE⟩ := hrel
            rename World => z
            have HEz := Lib.hid hE
            clear hE
            by_cases hjm : j < my
            · have x1 : (j : Int) < (my : Int) := by omega
              go_wp2
              go_ret
              exact ⟨rfl, HE2.out.trans (HEy.out.trans HEz.out)⟩
            · have x1 : ¬ (j : Int) < (my : Int) := by omega
              go_wp2
              go_ret
              exact ⟨rfl, HE2.out.trans (HEy.out.trans HEz.out)⟩
        | true =>
          go_wp2_with fail
          go_loopw [10] (fun i z => ∃ j : Nat, j ≤ my ∧ i = .int .i64 (j : Int) ∧ Ext y z) (fun i _ => my - (intOf i).toNat)
          case atStart => exact ⟨0, Nat.zero_le _, rfl, Ext.refl y⟩
          case round =>
            obtain ⟨j, hj, rfl, hE⟩ := hrel
            rename World => z
            have HEz := Lib.hid hE
            clear hE
            by_cases hjm : j < my
            · have x1 : (j : Int) < (my : Int) := by omega
              obtain ⟨ks, hk1, hk2⟩ := HHas.out (by first | rfl | trivial) j hjm
              obtain ⟨u, hu⟩ : ∃ r, itAt hs j = r := ⟨_, rfl⟩
              rw [hu] at hk2
              have HIu := Lib.hid (show ItAt y u by rw [← hu]; exact HIty.out j hjm)
              obtain ⟨g2, e2, hy'⟩ := HY3.out (by omega)
              subst e2
              have hy2' := hy' j hjm
              rw [hu] at hy2'
              have HR2 := Lib.hid (show ∀ v, Ext y v → v.rangeAt g2 (0 + j * 146) (itL u) from fun v hv => by rw [Nat.zero_add]; exact rangeAt_ext hy2' hv)
              obtain ⟨UV, hUV⟩ : ∃ r, itV u = r := ⟨_, rfl⟩
              have HUa := Lib.hid (show (itL u).toArray = UV by rw [itL_arr, hUV])
              have HUV := Lib.hid hUV
              have Hk2 := Lib.hid hk2
              clear hu hk2 hy' hy2' hUV
              go_upto_region 12 with (fail)
              go_loopw [11, 12] (fun f i z' => ∃ (k : Nat) (q : Bool), k ≤ mx ∧ i = .int .i64 (k : Int) ∧ f = .bool q ∧ (ks < k → q = true) ∧ Ext z z') (fun _ i _ => mx - (intOf i).toNat)
              case atStart => exact ⟨0, false, Nat.zero_le _, rfl, rfl, (fun h => absurd h (Nat.not_lt_zero _)), Ext.refl z⟩
              case round =>
                obtain ⟨k, q, hk, rfl, rfl, hq, hE⟩ := hrel
                rename World => x
                have HEx := Lib.hid (HEz.out.trans hE)
                have HEzx := Lib.hid hE
                have Hq := Lib.hid hq
                clear hE hq
                by_cases hkm : k < mx
                · have x2 : (k : Int) < (mx : Int) := by omega
                  have HY := Lib.hid (show ∀ v, Ext x.drew v → Ext y v ∧ Ext z v from fun v hv => by
                    have h1 : Ext x v := Ext.trans (Ext.refl x).drew hv
                    exact ⟨HEx.out.trans h1, HEzx.out.trans h1⟩)
                  cases q with
                  | true =>
                    go_upto_region 14 with (fail)
                    refine wp_region_lexA (by kernel_rfl) (by kernel_rfl) ?_
                    refine lx_e (.bool true) [] (by kernel_rfl) rfl (by rfl) (fun w1 hw1 => ?_) ?_
                    · simp only [pk, lexVals]
                      go_simp
                      exact ⟨Ext.refl _, rfl⟩
                    refine lx_e (.bool true) [(0, 60)] (by kernel_rfl) rfl (by rfl) (fun w1 hw1 => ?_) ?_
                    · simp only [pk, nthSp, lexVals]
                      go_simp
                      exact ⟨Ext.refl _, rfl⟩
                    refine lx_no [(0, 61)] 61 (by kernel_rfl) rfl (by kernel_rfl) (by rfl) (fun w1 => ?_) ?_
                    · simp only [pk, nthSp, lexVals]
                      first | (go_simp; done) | (go_simp; exact fun h => by cases h)
                    refine lx_no [(1, 61)] 61 (by kernel_rfl) rfl (by kernel_rfl) (by rfl) (fun w1 => ?_) ?_
                    · simp only [pk, nthSp, lexVals]
                      first | (go_simp; done) | (go_simp; exact fun h => by cases h)
                    refine lx_no [(1, 62), (0, 63), (2, 61)] 61 (by kernel_rfl) rfl (by kernel_rfl) (by rfl) (fun w1 => ?_) ?_
                    · simp only [pk, nthSp, lexVals]
                      first | (go_simp; done) | (go_simp; exact fun h => by cases h)
                    refine lx_no [(0, 64), (3, 61)] 61 (by kernel_rfl) rfl (by kernel_rfl) (by rfl) (fun w1 => ?_) ?_
                    · simp only [pk, nthSp, lexVals]
                      first | (go_simp; done) | (go_simp; exact fun h => by cases h)
                    refine lx_no [(4, 61)] 61 (by kernel_rfl) rfl (by kernel_rfl) (by rfl) (fun w1 => ?_) ?_
                    · simp only [pk, nthSp, lexVals]
                      first | (go_simp; done) | (go_simp; exact fun h => by cases h)
                    refine lx_no [(5, 61)] 61 (by kernel_rfl) rfl (by kernel_rfl) (by rfl) (fun w1 => ?_) ?_
                    · simp only [pk, nthSp, lexVals]
                      first | (go_simp; done) | (go_simp; exact fun h => by cases h)
                    refine lx_no [(1, 66), (0, 67), (6, 61)] 61 (by kernel_rfl) rfl (by kernel_rfl) (by rfl) (fun w1 => ?_) ?_
                    · simp only [pk, nthSp, lexVals]
                      first | (go_simp; done) | (go_simp; exact fun h => by cases h)
                    refine lx_no [(0, 68), (7, 61)] 61 (by kernel_rfl) rfl (by kernel_rfl) (by rfl) (fun w1 => ?_) ?_
                    · simp only [pk, nthSp, lexVals]
                      first | (go_simp; done) | (go_simp; exact fun h => by cases h)
                    refine lx_no [(4, 65), (0, 69), (8, 61)] 61 (by kernel_rfl) rfl (by kernel_rfl) (by rfl) (fun w1 => ?_) ?_
                    · simp only [pk, nthSp, lexVals]
                      first | (go_simp; done) | (go_simp; exact fun h => by cases h)
                    refine lx_e (.bool true) [(9, 61), (0, 70)] (by kernel_rfl) rfl (by rfl) (fun w1 hw1 => ?_) ?_
                    · simp only [pk, nthSp, lexVals]
                      go_simp
                      exact ⟨Ext.refl _, rfl⟩
                    refine lx_e (.bool true) [(0, 71)] (by kernel_rfl) rfl (by rfl) (fun w1 hw1 => ?_) ?_
                    · simp only [pk, nthSp, lexVals]
                      go_simp
                      exact ⟨Ext.refl _, rfl⟩
                    refine lx_stopA (by rfl) fun z3 hz3 => ?_
                    have HE3 := Lib.hid (HY.out z3 hz3).2
                    clear hz3
                    simp only [rv, pf, lexVals]
                    simp only [Act.put, List.setIfInBounds_toArray, List.set_cons_zero, List.set_cons_succ]
                    go_wp2
                    go_roundw
                    case rel => exact ⟨k + 1, true, by omega, by go_num, rfl, (fun _ => rfl), HE3.out⟩
                    case measure => simp [intOf]; omega
                  | false =>
                    obtain ⟨t, ht⟩ : ∃ r, itAt gs k = r := ⟨_, rfl⟩
                    have HIt := Lib.hid (show ItAt y t by rw [← ht]; exact HItx.out k hkm)
                    obtain ⟨g1, e1, hx'⟩ := HX3.out (by omega)
                    subst e1
                    have hx2' := hx' k hkm
                    rw [ht] at hx2'
                    have HR1 := Lib.hid (show ∀ v, Ext y v → v.rangeAt g1 (0 + k * 146) (itL t) from fun v hv => by rw [Nat.zero_add]; exact rangeAt_ext hx2' hv)
                    obtain ⟨TV, hTV⟩ : ∃ r, itV t = r := ⟨_, rfl⟩
                    have HTa := Lib.hid (show (itL t).toArray = TV by rw [itL_arr, hTV])
                    have HSm := Lib.hid (show ∀ v, Ext y v → Calls Try.prog 18 #[.agg TV, .agg UV] v fun e w' => ∃ u, e = .returned u ∧ Ext v w' ∧ YesAt k ks u from fun v hv => by
                      have h := refSameW_any t u v (HIt.out.ext hv) (HIu.out.ext hv)
                      rw [hTV, HUV.out] at h
                      refine h.mono ?_
                      rintro e w' ⟨B, rfl, hE, hB⟩
                      exact ⟨_, rfl, hE, B, rfl, fun e => by
                        subst e
                        have h2 := Hk2.out B
                        rw [ht] at h2
                        exact h2 hB⟩)
                    clear ht hx' hx2' hTV
                    go_upto_region 14 with (fail)
                    refine wp_region_lexA (by kernel_rfl) (by kernel_rfl) ?_
                    refine lx_e (.bool false) [] (by kernel_rfl) rfl (by rfl) (fun w1 hw1 => ?_) ?_
                    · simp only [pk, lexVals]
                      go_simp
                      exact ⟨Ext.refl _, rfl⟩
                    refine lx_e (.bool false) [(0, 60)] (by kernel_rfl) rfl (by rfl) (fun w1 hw1 => ?_) ?_
                    · simp only [pk, nthSp, lexVals]
                      go_simp
                      exact ⟨Ext.refl _, rfl⟩
                    refine lx_ge (.slice (some ⟨g1, 0, none⟩) mx xc) [(0, 61)] 61 (by kernel_rfl) rfl (by kernel_rfl) (by rfl) (fun w1 => ?_) (fun w1 hw1 => ?_) ?_
                    · simp only [pk, nthSp, lexVals]
                      rfl
                    · simp only [pk, nthSp, lexVals]
                      go_simp
                      exact ⟨Ext.refl _, rfl⟩
                    refine lx_ge (.int .i64 (k : Int)) [(1, 61)] 61 (by kernel_rfl) rfl (by kernel_rfl) (by rfl) (fun w1 => ?_) (fun w1 hw1 => ?_) ?_
                    · simp only [pk, nthSp, lexVals]
                      rfl
                    · simp only [pk, nthSp, lexVals]
                      go_simp
                      exact ⟨Ext.refl _, rfl⟩
                    refine lx_ge (.pointer (some ⟨g1, 0 + k * 146, none⟩)) [(1, 62), (0, 63), (2, 61)] 61 (by kernel_rfl) rfl (by kernel_rfl) (by rfl) (fun w1 => ?_) (fun w1 hw1 => ?_) ?_
                    · simp only [pk, nthSp, lexVals]
                      rfl
                    · simp only [pk, nthSp, lexVals]
                      exact lu_iidx rfl rfl rfl hkm
                    refine lx_ge (.agg TV) [(0, 64), (3, 61)] 61 (by kernel_rfl) rfl (by kernel_rfl) (by rfl) (fun w1 => ?_) (fun w1 hw1 => ?_) ?_
                    · simp only [pk, nthSp, lexVals]
                      rfl
                    · simp only [pk, nthSp, lexVals]
                      exact lu_mid rfl rfl (itL t) (HR1.out w1 (HY.out w1 hw1).1) Try.underlying41 rfl (by rw [itL_length]; kernel_rfl) TV HTa.out
                    refine lx_ge (.slice (some ⟨g2, 0, none⟩) my yc) [(4, 61)] 61 (by kernel_rfl) rfl (by kernel_rfl) (by rfl) (fun w1 => ?_) (fun w1 hw1 => ?_) ?_
                    · simp only [pk, nthSp, lexVals]
                      rfl
                    · simp only [pk, nthSp, lexVals]
                      go_simp
                      exact ⟨Ext.refl _, rfl⟩
                    refine lx_ge (.int .i64 (j : Int)) [(5, 61)] 61 (by kernel_rfl) rfl (by kernel_rfl) (by rfl) (fun w1 => ?_) (fun w1 hw1 => ?_) ?_
                    · simp only [pk, nthSp, lexVals]
                      rfl
                    · simp only [pk, nthSp, lexVals]
                      go_simp
                      exact ⟨Ext.refl _, rfl⟩
                    refine lx_ge (.pointer (some ⟨g2, 0 + j * 146, none⟩)) [(1, 66), (0, 67), (6, 61)] 61 (by kernel_rfl) rfl (by kernel_rfl) (by rfl) (fun w1 => ?_) (fun w1 hw1 => ?_) ?_
                    · simp only [pk, nthSp, lexVals]
                      rfl
                    · simp only [pk, nthSp, lexVals]
                      exact lu_iidx rfl rfl rfl hjm
                    refine lx_ge (.agg UV) [(0, 68), (7, 61)] 61 (by kernel_rfl) rfl (by kernel_rfl) (by rfl) (fun w1 => ?_) (fun w1 hw1 => ?_) ?_
                    · simp only [pk, nthSp, lexVals]
                      rfl
                    · simp only [pk, nthSp, lexVals]
                      exact lu_mid rfl rfl (itL u) (HR2.out w1 (HY.out w1 hw1).1) Try.underlying41 rfl (by rw [itL_length]; kernel_rfl) UV HUa.out
                    refine lx_ga (fun u _ => YesAt k ks u) [(4, 65), (0, 69), (8, 61)] 61 (by kernel_rfl) rfl (by kernel_rfl) (by rfl) (fun u w1 w2 he h => h) (fun w1 => ?_) (fun w1 hw1 => ?_) ?_
                    · simp only [pk, nthSp, lexVals]
                      rfl
                    · simp only [pk, nthSp, lexVals]
                      have HM := Lib.hid (HSm.out w1 (HY.out w1 hw1).1)
                      clear hw1
                      go_simp
                      refine HM.out.mono ?_
                      rintro e w9 ⟨v, rfl, hE9, hv⟩
                      exact ⟨v, rfl, hE9, hv⟩
                    refine lx_a (fun u _ => YesAt k ks u) [(9, 61), (0, 70)] (by kernel_rfl) rfl (by rfl) (fun u w1 w2 he h => h) (fun w1 hw1 => ?_) ?_
                    · simp only [pk, nthSp, lexVals]
                      rintro u70 ⟨B, rfl, hB⟩
                      clear hw1
                      go_simp
                      exact ⟨Ext.refl _, B, rfl, hB⟩
                    refine lx_a (fun u _ => YesAt k ks u) [(0, 71)] (by kernel_rfl) rfl (by rfl) (fun u w1 w2 he h => h) (fun w1 hw1 => ?_) ?_
                    · simp only [pk, nthSp, lexVals]
                      rintro u71 ⟨B, rfl, hB⟩
                      clear hw1
                      go_simp
                      exact ⟨Ext.refl _, B, rfl, hB⟩
                    refine lx_stopA (by rfl) fun z3 hz3 => ?_
                    have HE3 := Lib.hid (HY.out z3 hz3).2
                    clear hz3
                    simp only [rv, pf, lexVals]
                    rintro v70 - v71 - v11 ⟨B, rfl, hB⟩
                    simp only [Act.put, List.setIfInBounds_toArray, List.set_cons_zero, List.set_cons_succ]
                    have HB := Lib.hid hB
                    clear hB
                    go_wp2
                    go_roundw
                    case rel => exact ⟨k + 1, B, by omega, by go_num, rfl, (fun h => by
                      by_cases e : ks < k
                      · exact absurd (Hq.out e) Bool.false_ne_true
                      · exact HB.out (by omega)), HE3.out⟩
                    case measure => simp [intOf]; omega
                · obtain rfl : k = mx := by omega
                  have x2 : ¬ (k : Int) < (k : Int) := by omega
                  obtain rfl : q = true := Hq.out hk1
                  go_wp2
                  go_roundw
                  case rel => exact ⟨j + 1, by omega, by go_num, HEx.out⟩
                  case measure => simp [intOf]; omega
            · obtain rfl : j = my := by omega
              have x1 : ¬ (j : Int) < (j : Int) := by omega
              go_wp2
              go_ret
              exact ⟨rfl, HE2.out.trans (HEy.out.trans HEz.out)⟩

end Go.Proofs.Ytldaligeckjhaaa
