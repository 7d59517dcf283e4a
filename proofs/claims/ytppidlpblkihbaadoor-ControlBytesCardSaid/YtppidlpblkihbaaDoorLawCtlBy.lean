/-
  The walk of jalousielaw16.ControlBytes: it answers true. Asked: the table lies as the text lays it.
-/
import Derived.Test.YtppidlpblkihbaaDoorAwk16
import Derived.Test.YtppidlpblkihbaaDoorCtlPar
import Derived.Test.YtppidlpblkihbaaDoorRefForm
import Derived.Test.YtppidlpblkihbaaDoorRefCtl
import Derived.Test.YtppidlpblkihbaaDoorCtlBy
import Derived.Test.YtppidlpblkihbaaDoorCtlSame
namespace Go.Proofs.YtppidlpblkihbaaDoor
open Go.ChangeShapes Go.WideShapes Go.ChangeAt Go.RowKit

/-- What was packed of a formed control is taken. -/
theorem ctlOk_fwd {op mem cut : Int} {l : Nat → Nat} {hl : Nat} {s : Nat → List Int} {hd : List Int} (hf : formedB op mem cut l hl = true) (hcut : 0 ≤ cut) (hs : ∀ i, i < 6 → (s i).length = l i) (hh : hd.length = hl) :
    ctlOk (ctlL ⟨op, mem, cut, s, hd⟩) = true ∧ (ctlOf (ctlL ⟨op, mem, cut, s, hd⟩)).op = op ∧ (ctlOf (ctlL ⟨op, mem, cut, s, hd⟩)).mem = mem ∧ (ctlOf (ctlL ⟨op, mem, cut, s, hd⟩)).cut = cut ∧ (∀ i, i < 6 → (ctlOf (ctlL ⟨op, mem, cut, s, hd⟩)).slots i = s i) ∧ (ctlOf (ctlL ⟨op, mem, cut, s, hd⟩)).hand = hd := by
  obtain ⟨h1, h2, h3, h4, h5⟩ := formedB_bd hf
  obtain ⟨k1, k2, k3, k4, k5, k6⟩ := ctl_fwd ⟨op, mem, cut, s, hd⟩ ⟨by show 0 ≤ op; omega, h1.2⟩ h2 ⟨hcut, h3⟩ (fun k hk => by show (s k).length ≤ 48; rw [hs k hk]; exact h4 k hk) (by show hd.length ≤ 48; omega)
  refine ⟨?_, k1, k2, k3, k4, k5⟩
  unfold ctlOk
  rw [k6, k1, k2, k3, k5, Bool.and_eq_true]
  refine ⟨rfl, ?_⟩
  rw [← hf]
  show formedB op mem cut _ hd.length = _
  rw [hh]
  exact formedB_congr _ _ _ _ _ _ (fun i hi => by rw [k4 i hi]; exact hs i hi)

set_option maxHeartbeats 4000000 in
set_option maxRecDepth 100000 in
theorem lawCtlBy_any (op mem cut : Int) (A : Nat → Option Addr) (l C : Nat → Nat) (ha : Option Addr) (hl hc : Nat) (s : Nat → List Int) (hd : List Int) (w : World) (hcut : 0 ≤ cut ∧ cut < 18446744073709551616)
    (hs : ∀ i, i < 6 → BsAt w (A i) (l i) (C i) (s i)) (hh : BsAt w ha hl hc hd) (hk : KsAt 1 w) :
    Calls Tryd.prog 7 #[.agg (ctlV op mem cut (fun i => .slice (A i) (l i) (C i)) (.slice ha hl hc))] w fun e w' => e = .returned (.bool true) ∧ Ext w w' := by
  obtain ⟨CV, hCV⟩ : ∃ CV, ctlV op mem cut (fun i => .slice (A i) (l i) (C i)) (.slice ha hl hc) = CV := ⟨_, rfl⟩
  have hsz : CV.size = 10 := by rw [← hCV]; rfl
  have HFew := Lib.hid (show ∀ w9, Calls Tryd.prog 25 #[.agg CV] w9 fun e w' => e = .returned (.bool (fewB l hl)) ∧ Ext w9 w' from fun w9 => by
    have h1 := few16_any op mem cut A l C ha hl hc w9
    rw [hCV] at h1
    exact h1)
  have HFo := Lib.hid (show ∀ w9, Calls Tryd.prog 27 #[.agg CV] w9 fun e w' => e = .returned (.bool (formedB op mem cut l hl)) ∧ Ext w9 w' from fun w9 => by
    have h1 := formed_any op mem cut A l C ha hl hc w9
    rw [hCV] at h1
    exact h1)
  have HRf := Lib.hid (show ∀ w9, Calls Tryd.prog 23 #[.agg CV] w9 fun e w' => e = .returned (.bool (formedB op mem cut l hl)) ∧ Ext w9 w' from fun w9 => by
    have h1 := refFormed_any op mem cut A l C ha hl hc w9 hcut.1
    rw [hCV] at h1
    exact h1)
  have HBad := Lib.hid (show formedB op mem cut l hl = false → ∀ w9, Calls Tryd.prog 26 #[.agg CV] w9 fun e w' => e = .returned (.tuple #[.slice none 0 0, .int .i64 1]) ∧ Ext w9 w' from fun hf w9 => by
    have h1 := ctlBytes_bad op mem cut A l C ha hl hc w9 hf
    rw [hCV] at h1
    exact h1)
  have HGood := Lib.hid (show formedB op mem cut l hl = true → ∀ w9, Ext w w9 → Calls Tryd.prog 26 #[.agg CV] w9 fun e w' => ∃ q n c, e = .returned (.tuple #[.slice q n c, .int .i64 0]) ∧ BsAt w' q n c (ctlL ⟨op, mem, cut, s, hd⟩) ∧ Ext w9 w' from fun hf w9 h9 => by
    have h1 := ctlBytes_any op mem cut A l C ha hl hc s hd w9 hf hcut.1 (fun i hi => (hs i hi).ext h9) (hh.ext h9)
    rw [hCV] at h1
    exact h1)
  rw [hCV]
  obtain ⟨w2, hw2⟩ : ∃ w2, w.alloc (.cells CV 45) = w2 := ⟨_, rfl⟩
  have hE2 : Ext w w2 := by rw [← hw2]; exact (Ext.refl w).alloc _
  have hB2 : w2.heap[w.heap.size]? = some (.cells CV 45 (0, 0)) := by rw [← hw2]; exact heap_new w _ _ rfl
  have Hw2 := Lib.hid hw2
  have HE2 := Lib.hid hE2
  obtain ⟨g, hg⟩ : ∃ g, w.heap.size = g := ⟨_, rfl⟩
  rw [hg] at hB2
  have HB2 := Lib.hid hB2
  have Hg := Lib.hid hg
  have Hsz := Lib.hid hsz
  have HCV := Lib.hid hCV
  have Hs := Lib.hid hs
  have Hh := Lib.hid hh
  have HK := Lib.hid hk
  obtain ⟨hcut1, hcut2⟩ := hcut
  clear hw2 hE2 hB2 hg hsz hCV hs hh hk
  go_enter Tryd.func7, Tryd.ntmps7
  go_upto_region 1 with (fail)
  refine wp_world (w' := w2) Hw2.out ?_
  rw [Hg.out]
  clear Hw2
  go_wp2_with fail
  refine (awake16_any w2 (HK.out.ext' HE2.out)).mono ?_
  rintro e w3 ⟨rfl, hE⟩
  have HB3 := Lib.hid (hE.keep HB2.out)
  have HE3 := Lib.hid (HE2.out.trans hE)
  clear hE
  go_wp2_with (refine wpList_load_rowW rfl 45 _ rfl g rfl _ _ _ _ HB3.out Tryd.underlying45 rfl (by rw [Hsz.out]; kernel_rfl) ?_)
  refine (HFew.out w3).mono ?_
  rintro e w4 ⟨rfl, hE⟩
  have HB4 := Lib.hid (hE.keep HB3.out)
  have HE4 := Lib.hid (HE3.out.trans hE)
  clear hE
  cases hfew : fewB l hl with
  | false =>
    clear hfew
    go_wp2_with fail
    refine (awake16_any w4 (HK.out.ext' HE4.out)).mono ?_
    rintro e w5 ⟨rfl, hE⟩
    have HE5 := Lib.hid (HE4.out.trans hE)
    clear hE
    go_wp2
    go_ret
    exact ⟨rfl, HE5.out⟩
  | true =>
    clear hfew
    cases hform : formedB op mem cut l hl with
    | false =>
      rw [hform] at HFo HRf
      have HBad2 := Lib.hid (HBad.out hform)
      clear hform HBad HGood
      go_wp2_with (refine wpList_load_rowW rfl 45 _ rfl g rfl _ _ _ _ HB4.out Tryd.underlying45 rfl (by rw [Hsz.out]; kernel_rfl) ?_)
      refine (HBad2.out w4).mono ?_
      rintro e w5 ⟨rfl, hE⟩
      have HB5 := Lib.hid (hE.keep HB4.out)
      have HE5 := Lib.hid (HE4.out.trans hE)
      clear hE
      go_wp2_with (refine wpList_load_rowW rfl 45 _ rfl g rfl _ _ _ _ HB5.out Tryd.underlying45 rfl (by rw [Hsz.out]; kernel_rfl) ?_)
      refine (HRf.out w5).mono ?_
      rintro e w6 ⟨rfl, hE⟩
      have HB6 := Lib.hid (hE.keep HB5.out)
      have HE6 := Lib.hid (HE5.out.trans hE)
      clear hE
      go_wp2_with (refine wpList_load_rowW rfl 45 _ rfl g rfl _ _ _ _ HB6.out Tryd.underlying45 rfl (by rw [Hsz.out]; kernel_rfl) ?_)
      refine (HFo.out w6).mono ?_
      rintro e w7 ⟨rfl, hE⟩
      have HB7 := Lib.hid (hE.keep HB6.out)
      have HE7 := Lib.hid (HE6.out.trans hE)
      clear hE
      go_wp2
      go_ret
      exact ⟨rfl, HE7.out⟩
    | true =>
      rw [hform] at HFo HRf
      have HGood2 := Lib.hid (HGood.out hform)
      obtain ⟨k1, k2, k3, k4, k5, k6⟩ := ctlOk_fwd hform hcut1 (fun i hi => (Hs.out i hi).len) Hh.out.len
      obtain ⟨⟨ho1, ho2⟩, ⟨hm1, hm2⟩, hc2, hsl, hhl⟩ := formedB_bd hform
      have HBy := Lib.hid (show ∀ w9, Ext w w9 → Calls Tryd.prog 24 #[.agg CV] w9 fun e w' => ∃ v, e = .returned v ∧ (∃ q c, v = .slice q (ctlL ⟨op, mem, cut, s, hd⟩).length c ∧ BsAt w' q (ctlL ⟨op, mem, cut, s, hd⟩).length c (ctlL ⟨op, mem, cut, s, hd⟩)) ∧ Ext w9 w' from fun w9 h9 => by
        have h1 := refCtl_any op mem cut A l C ha hl hc s hd w9 ⟨by omega, by omega⟩ ⟨hm1, by omega⟩ ⟨hcut1, hcut2⟩ (fun i hi => (Hs.out i hi).ext h9) (Hh.out.ext h9)
          (fun i hi => by have := hsl i hi; omega) (by omega)
        rw [HCV.out] at h1
        refine h1.mono ?_
        rintro e w' ⟨v, rfl, hown, hE⟩
        obtain ⟨q, cc, rfl, hc1, hc2⟩ := owns_slice hown
        have hby : ∀ x ∈ ctlL ⟨op, mem, cut, s, hd⟩, 0 ≤ x ∧ x < 256 := ctlL_byte _ (by show 0 ≤ op; omega) hm1 hcut1 (fun i hi => (Hs.out i hi).byte) Hh.out.byte
        have hle : (ctlL ⟨op, mem, cut, s, hd⟩).length ≤ 440 := ctlL_le _ (fun i hi => by show (s i).length ≤ 48; rw [(Hs.out i hi).len]; exact hsl i hi) (by show hd.length ≤ 48; rw [Hh.out.len]; exact hhl)
        exact ⟨_, rfl, ⟨q, cc, rfl, owns_bs hown hby (by unfold maxLen at hc2; omega) (by omega)⟩, hE⟩)
      have HOk := Lib.hid k1
      have HO := Lib.hid (And.intro k2 (And.intro k3 (And.intro k4 (And.intro k5 k6))))
      obtain ⟨X, hX⟩ : ∃ X, ctlL ⟨op, mem, cut, s, hd⟩ = X := ⟨_, rfl⟩
      rw [hX] at HOk HO HBy HGood2
      clear hform HBad HGood k1 k2 k3 k4 k5 k6 hX hsl
      go_wp2_with (refine wpList_load_rowW rfl 45 _ rfl g rfl _ _ _ _ HB4.out Tryd.underlying45 rfl (by rw [Hsz.out]; kernel_rfl) ?_)
      refine (HGood2.out w4 HE4.out).mono ?_
      rintro e w5 ⟨q, N, cq, rfl, hq, hE⟩
      have HB5 := Lib.hid (hE.keep HB4.out)
      have HE5 := Lib.hid (HE4.out.trans hE)
      have HQ5 := Lib.hid hq
      clear hq
      clear hE
      go_wp2_with (refine wpList_load_rowW rfl 45 _ rfl g rfl _ _ _ _ HB5.out Tryd.underlying45 rfl (by rw [Hsz.out]; kernel_rfl) ?_)
      refine (HRf.out w5).mono ?_
      rintro e w6 ⟨rfl, hE⟩
      have HB6 := Lib.hid (hE.keep HB5.out)
      have HE6 := Lib.hid (HE5.out.trans hE)
      have HQ6 := Lib.hid (HQ5.out.ext hE)
      clear hE
      go_wp2_with (refine wpList_load_rowW rfl 45 _ rfl g rfl _ _ _ _ HB6.out Tryd.underlying45 rfl (by rw [Hsz.out]; kernel_rfl) ?_)
      refine (HFo.out w6).mono ?_
      rintro e w7 ⟨rfl, hE⟩
      have HB7 := Lib.hid (hE.keep HB6.out)
      have HE7 := Lib.hid (HE6.out.trans hE)
      have HQ7 := Lib.hid (HQ6.out.ext hE)
      clear hE
      go_wp2_with fail
      refine (parse_any q N cq X w7 HQ7.out).mono ?_
      rintro e w8 ⟨⟨v, rfl, hC⟩, hE⟩
      rw [HOk.out] at hC ⊢
      simp only [if_true] at hC ⊢
      obtain ⟨A', l', C', ha', hl', hc', rfl, hs', hh'⟩ := hC
      rw [HO.out.1, HO.out.2.1, HO.out.2.2.1]
      rw [HO.out.2.2.2.2] at hh'
      have hs2 : ∀ i, i < 6 → BsAt w8 (A' i) (l' i) (C' i) (s i) := fun i hi => by
        have h1 := hs' i hi
        rw [HO.out.2.2.2.1 i hi] at h1
        exact h1
      have HQ8 := Lib.hid (HQ7.out.ext hE)
      have HE8 := Lib.hid (HE7.out.trans hE)
      have HB8' := Lib.hid (hE.keep HB7.out)
      have HSa := Lib.hid (show ∀ w9, Ext w8 w9 → Calls Tryd.prog 28 #[.agg CV, .agg (ctlV op mem cut (fun i => .slice (A' i) (l' i) (C' i)) (.slice ha' hl' hc'))] w9 fun e w' => e = .returned (.bool true) ∧ Ext w9 w' from fun w9 h9 => by
        have h1 := same16_any op mem cut A A' l C l' C' ha ha' hl hc hl' hc' s hd w9 (fun i hi => ((Hs.out i hi).ext HE8.out).ext h9) ((Hh.out.ext HE8.out).ext h9) (fun i hi => (hs2 i hi).ext h9) (hh'.ext h9)
        rw [HCV.out] at h1
        exact h1)
      obtain ⟨DV, hDV⟩ : ∃ DV, ctlV op mem cut (fun i => .slice (A' i) (l' i) (C' i)) (.slice ha' hl' hc') = DV := ⟨_, rfl⟩
      have hdz : DV.size = 10 := by rw [← hDV]; rfl
      have hall : DV.all (·.oneCell') = true := by rw [← hDV]; exact ctlV_one _ _ _ _ _ (fun _ => rfl) rfl
      rw [hDV] at HSa ⊢
      have Hdz := Lib.hid hdz
      have Hall := Lib.hid hall
      clear hs' hs2 hh' hE hDV hdz hall HOk HO
      go_upto_region 10 with (refine wpList_store_row rfl 45 _ _ rfl w8.heap.size _ rfl rfl _ _ (heap_new w8 _ _ rfl) (by rw [Hdz.out]; kernel_rfl) (by rw [Hdz.out]; rfl) Hall.out ?_; rw [setRow_new w8 _ _ _ _ rfl])
      obtain ⟨w9, hw9⟩ : ∃ w9, w8.alloc (.cells DV 45) = w9 := ⟨_, rfl⟩
      have hE9 : Ext w8 w9 := by rw [← hw9]; exact (Ext.refl w8).alloc _
      obtain ⟨g6, hg6⟩ : ∃ g, w8.heap.size = g := ⟨_, rfl⟩
      have hD9 : w9.heap[g6]? = some (.cells DV 45 (0, 0)) := by rw [← hw9]; exact heap_new w8 _ _ hg6.symm
      refine wp_world (w' := w9) hw9 ?_
      rw [hg6]
      have HB8 := Lib.hid (hE9.keep HB8'.out)
      have HD8 := Lib.hid hD9
      have HQ := Lib.hid (HQ8.out.ext hE9)
      have HSa := Lib.hid (show ∀ w10, Ext w9 w10 → _ from fun w10 h10 => HSa.out w10 (hE9.trans h10))
      have HE9 := Lib.hid (HE8.out.trans hE9)
      have HBy := Lib.hid (show ∀ w10, Ext w9 w10 → _ from fun w10 h10 => HBy.out w10 (HE9.out.trans h10))
      have HX0 := Lib.hid (show ∀ x, Ext w9.drew x → Ext w9 x from fun x hx => Ext.trans (Ext.refl w9).drew hx)
      clear hw9 hE9 hg6 hD9
      refine wp_region_lexA (by kernel_rfl) (by kernel_rfl) ?_
      refine lx_e (.int .i64 0) [] (by kernel_rfl) rfl (by rfl) (fun w1 hw1 => ?_) ?_
      · simp only [pk, lexVals]
        go_simp
        exact ⟨Ext.refl _, rfl⟩
      refine lx_e (.bool true) [(0, 41)] (by kernel_rfl) rfl (by rfl) (fun w1 hw1 => ?_) ?_
      · simp only [pk, nthSp, lexVals]
        go_simp
        exact ⟨Ext.refl _, rfl⟩
      refine lx_e (.bool true) [(0, 42)] (by kernel_rfl) rfl (by rfl) (fun w1 hw1 => ?_) ?_
      · simp only [pk, nthSp, lexVals]
        go_simp
        exact ⟨Ext.refl _, rfl⟩
      refine lx_ge (.int .i64 0) [(0, 43)] 43 (by kernel_rfl) rfl (by kernel_rfl) (by rfl) (fun w1 => ?_) (fun w1 hw1 => ?_) ?_
      · simp only [pk, nthSp, lexVals]
        rfl
      · simp only [pk, nthSp, lexVals]
        go_simp
        exact ⟨Ext.refl _, rfl⟩
      refine lx_ge (.bool true) [(0, 44), (1, 43)] 43 (by kernel_rfl) rfl (by kernel_rfl) (by rfl) (fun w1 => ?_) (fun w1 hw1 => ?_) ?_
      · simp only [pk, nthSp, lexVals]
        rfl
      · simp only [pk, nthSp, lexVals]
        go_simp
        exact ⟨Ext.refl _, rfl⟩
      refine lx_e (.bool true) [(2, 43), (0, 45)] (by kernel_rfl) rfl (by rfl) (fun w1 hw1 => ?_) ?_
      · simp only [pk, nthSp, lexVals]
        go_simp
        exact ⟨Ext.refl _, rfl⟩
      refine lx_e (.bool true) [(0, 46)] (by kernel_rfl) rfl (by rfl) (fun w1 hw1 => ?_) ?_
      · simp only [pk, nthSp, lexVals]
        go_simp
        exact ⟨Ext.refl _, rfl⟩
      refine lx_ge (.slice q N cq) [(0, 47)] 47 (by kernel_rfl) rfl (by kernel_rfl) (by rfl) (fun w1 => ?_) (fun w1 hw1 => ?_) ?_
      · simp only [pk, nthSp, lexVals]
        rfl
      · simp only [pk, nthSp, lexVals]
        go_simp
        exact ⟨Ext.refl _, rfl⟩
      refine lx_ge (.string (strOf X)) [(0, 48), (1, 47)] 47 (by kernel_rfl) rfl (by kernel_rfl) (by rfl) (fun w1 => ?_) (fun w1 hw1 => ?_) ?_
      · simp only [pk, nthSp, lexVals]
        rfl
      · simp only [pk, nthSp, lexVals]
        exact lu_str rfl rfl (HQ.out.ext (HX0.out w1 hw1))
      refine lx_ge (.agg CV) [(2, 47)] 47 (by kernel_rfl) rfl (by kernel_rfl) (by rfl) (fun w1 => ?_) (fun w1 hw1 => ?_) ?_
      · simp only [pk, nthSp, lexVals]
        rfl
      · simp only [pk, nthSp, lexVals]
        exact lu_row rfl rfl ((HX0.out w1 hw1).keep HB8.out) Tryd.underlying45 rfl (by rw [Hsz.out]; kernel_rfl)
      refine lx_ga (fun u w => ∃ q c, u = .slice q X.length c ∧ BsAt w q X.length c X) [(0, 50), (3, 47)] 47 (by kernel_rfl) rfl (by kernel_rfl) (by rfl) (fun u w w' he ⟨q, c, h1, h2⟩ => ⟨q, c, h1, h2.ext he⟩) (fun w1 => ?_) (fun w1 hw1 => ?_) ?_
      · simp only [pk, nthSp, lexVals]
        rfl
      · simp only [pk, nthSp, lexVals]
        have HM := Lib.hid (HBy.out w1 (HX0.out w1 hw1))
        clear hw1
        go_simp
        refine HM.out.mono ?_
        rintro e w2 ⟨v2, rfl, hs, hE2⟩
        exact ⟨_, rfl, hE2, hs⟩
      refine lx_ge (.string (strOf X)) [(0, 51), (4, 47)] 47 (by kernel_rfl) rfl (by kernel_rfl) (by rfl) (fun w1 => ?_) (fun w1 hw1 => ?_) ?_
      · simp only [pk, nthSp, lexVals]
        rintro u51 ⟨q51, c51, rfl, -⟩
        rfl
      · simp only [pk, nthSp, lexVals]
        rintro u51 ⟨q51, c51, rfl, h51⟩
        exact lu_str rfl rfl h51
      refine lx_ge (.bool true) [(3, 49), (0, 52), (5, 47)] 47 (by kernel_rfl) rfl (by kernel_rfl) (by rfl) (fun w1 => ?_) (fun w1 hw1 => ?_) ?_
      · simp only [pk, nthSp, lexVals]
        rfl
      · simp only [pk, nthSp, lexVals]
        go_simp
        exact ⟨Ext.refl _, rfl⟩
      refine lx_e (.bool true) [(6, 47), (0, 53)] (by kernel_rfl) rfl (by rfl) (fun w1 hw1 => ?_) ?_
      · simp only [pk, nthSp, lexVals]
        go_simp
        exact ⟨Ext.refl _, rfl⟩
      refine lx_e (.bool true) [(0, 54)] (by kernel_rfl) rfl (by rfl) (fun w1 hw1 => ?_) ?_
      · simp only [pk, nthSp, lexVals]
        go_simp
        exact ⟨Ext.refl _, rfl⟩
      refine lx_ge (.agg CV) [(0, 55)] 55 (by kernel_rfl) rfl (by kernel_rfl) (by rfl) (fun w1 => ?_) (fun w1 hw1 => ?_) ?_
      · simp only [pk, nthSp, lexVals]
        rfl
      · simp only [pk, nthSp, lexVals]
        exact lu_row rfl rfl ((HX0.out w1 hw1).keep HB8.out) Tryd.underlying45 rfl (by rw [Hsz.out]; kernel_rfl)
      refine lx_ge (.agg DV) [(1, 55)] 55 (by kernel_rfl) rfl (by kernel_rfl) (by rfl) (fun w1 => ?_) (fun w1 hw1 => ?_) ?_
      · simp only [pk, nthSp, lexVals]
        rfl
      · simp only [pk, nthSp, lexVals]
        exact lu_row rfl rfl ((HX0.out w1 hw1).keep HD8.out) Tryd.underlying45 rfl (by rw [Hdz.out]; kernel_rfl)
      refine lx_ge (.bool true) [(1, 56), (0, 57), (2, 55)] 55 (by kernel_rfl) rfl (by kernel_rfl) (by rfl) (fun w1 => ?_) (fun w1 hw1 => ?_) ?_
      · simp only [pk, nthSp, lexVals]
        rfl
      · simp only [pk, nthSp, lexVals]
        have HM := Lib.hid (HSa.out w1 (HX0.out w1 hw1))
        clear hw1
        go_simp
        refine HM.out.mono ?_
        rintro e w2 ⟨rfl, hE2⟩
        exact ⟨_, rfl, hE2, rfl⟩
      refine lx_e (.bool true) [(3, 55), (0, 58)] (by kernel_rfl) rfl (by rfl) (fun w1 hw1 => ?_) ?_
      · simp only [pk, nthSp, lexVals]
        go_simp
        exact ⟨Ext.refl _, rfl⟩
      refine lx_e (.bool true) [(0, 59)] (by kernel_rfl) rfl (by rfl) (fun w1 hw1 => ?_) ?_
      · simp only [pk, nthSp, lexVals]
        go_simp
        exact ⟨Ext.refl _, rfl⟩
      refine lx_stopA (by rfl) fun w10 hw10 => ?_
      have HE10 := Lib.hid (HE9.out.trans (HX0.out w10 hw10))
      clear hw10
      simp only [rv, pf, lexVals]
      rintro v1 ⟨q1, c1, rfl, -⟩
      simp only [Act.put, List.setIfInBounds_toArray, List.set_cons_zero, List.set_cons_succ]
      go_wp2
      go_ret
      exact ⟨rfl, HE10.out⟩

end Go.Proofs.YtppidlpblkihbaaDoor
