/-
  The walk of control.Parse. No conditions.
-/
import Derived.Test.YtppidlpblkihbaaDoorCtlQ
namespace Go.Proofs.YtppidlpblkihbaaDoor
open Go.ChangeShapes Go.WideShapes Go.ChangeAt Go.RowKit

/-- Whether a control is taken of some bytes. -/
def ctlOk (b : List Int) : Bool := !(handS b).2.2 && decide ((handS b).2.1.length = 0) && formedB (ctlOf b).op (ctlOf b).mem (ctlOf b).cut (fun i => ((ctlOf b).slots i).length) (ctlOf b).hand.length
/-- What control.Parse hands back. -/
def ParseSays (b : List Int) (e : Ending) (w : World) : Prop :=
  ∃ v, e = .returned (.tuple #[v, .int .i64 (if ctlOk b = true then 0 else 2)]) ∧ CtlAt w v (if ctlOk b = true then ctlOf b else ⟨0, 0, 0, fun _ => [], []⟩)

theorem formedB_congr (op mem cut : Int) (l l' : Nat → Nat) (hl : Nat) (h : ∀ i, i < 6 → l i = l' i) : formedB op mem cut l hl = formedB op mem cut l' hl := by
  have h1 : okB l 6 = okB l' 6 := by
    unfold okB
    rw [Bool.eq_iff_iff, List.all_eq_true, List.all_eq_true]
    exact ⟨fun g i hi => by rw [← h i (List.mem_range.1 hi)]; exact g i hi, fun g i hi => by rw [h i (List.mem_range.1 hi)]; exact g i hi⟩
  have h2 : posB l 6 = posB l' 6 := by
    unfold posB
    rw [Bool.eq_iff_iff, List.any_eq_true, List.any_eq_true]
    exact ⟨fun ⟨i, hi, g⟩ => ⟨i, hi, by rw [← h i (List.mem_range.1 hi)]; exact g⟩, fun ⟨i, hi, g⟩ => ⟨i, hi, by rw [h i (List.mem_range.1 hi)]; exact g⟩⟩
  unfold formedB
  rw [h1, h2]

theorem ctlZero_at (w : World) : CtlAt w (.agg (ctlV 0 0 0 (fun _ => nilV) nilV)) ⟨0, 0, 0, fun _ => [], []⟩ :=
  ⟨fun _ => none, fun _ => 0, fun _ => 0, none, 0, 0, rfl, fun _ _ => bs_none _, bs_none _⟩

theorem ctlV_one (op mem cut : Int) (s : Nat → Value) (hand : Value) (hs : ∀ i, (s i).oneCell' = true) (hh : hand.oneCell' = true) : (ctlV op mem cut s hand).all (·.oneCell') = true := by
  have e0 := hs 0; have e1 := hs 1; have e2 := hs 2; have e3 := hs 3; have e4 := hs 4; have e5 := hs 5
  simp only [Value.oneCell'] at e0 e1 e2 e3 e4 e5 hh
  simp [ctlV, Value.oneCell', e0, e1, e2, e3, e4, e5, hh]

set_option maxHeartbeats 2000000 in
set_option maxRecDepth 100000 in
theorem parse_any (a : Option Addr) (n c : Nat) (b : List Int) (w : World) (h : BsAt w a n c b) :
    Calls Tryd.prog 22 #[.slice a n c] w fun e w' => ParseSays b e w' ∧ Ext w w' := by
  have hby := h.byte
  obtain ⟨O, xs1, b1, hO⟩ : ∃ O xs1 b1, opS b = (O, xs1, b1) := ⟨_, _, _, rfl⟩
  obtain ⟨M, xs2, b2, hM⟩ : ∃ M xs2 b2, numP xs1 b1 6 = (M, xs2, b2) := ⟨_, _, _, rfl⟩
  obtain ⟨K, xs3, b3, hK⟩ : ∃ K xs3 b3, numP xs2 b2 1048576 = (K, xs3, b3) := ⟨_, _, _, rfl⟩
  obtain ⟨H, xs4, b4, hH⟩ : ∃ H xs4 b4, textP (slotS xs3 b3 6).1 (slotS xs3 b3 6).2 48 = (H, xs4, b4) := ⟨_, _, _, rfl⟩
  have e2 : memS b = (M, xs2, b2) := by unfold memS; rw [hO]; exact hM
  have e3 : cutS b = (K, xs3, b3) := by unfold cutS; rw [e2]; exact hK
  have e4 : handS b = (H, xs4, b4) := by unfold handS slotQ; rw [e3]; exact hH
  have ec : ctlOf b = ⟨O, M, K, slotX xs3 b3, H⟩ := by unfold ctlOf; rw [hO, e2, e3, e4]
  have y1 : ∀ c ∈ xs1, 0 ≤ c ∧ c < 256 := by have := numP_byte (bad := false) (most := 5) hby; rw [show numP b false 5 = _ from hO] at this; exact this
  have y2 : ∀ c ∈ xs2, 0 ≤ c ∧ c < 256 := by have := numP_byte (bad := b1) (most := 6) y1; rw [hM] at this; exact this
  have d1 : 0 ≤ O ∧ O ≤ 5 := by have := numP_bd (bad := false) (most := 5) hby (by omega); rw [show numP b false 5 = _ from hO] at this; exact this
  have d2 : 0 ≤ M ∧ M ≤ 6 := by have := numP_bd (bad := b1) (most := 6) y1 (by omega); rw [hM] at this; exact this
  have d3 : 0 ≤ K ∧ K ≤ 1048576 := by have := numP_bd (bad := b2) (most := 1048576) y2 (by omega); rw [hK] at this; exact this
  have wO : IntKind.i64.wrap O = O := by rw [IntKind.wrap_i64]; omega
  have wM : IntKind.i64.wrap M = M := by rw [IntKind.wrap_i64]; omega
  have hok : ctlOk b = (!b4 && decide (xs4.length = 0) && formedB O M K (fun i => (slotX xs3 b3 i).length) H.length) := by unfold ctlOk; rw [e4, ec]
  obtain ⟨D, hD⟩ : ∃ D, ctlOk b = D := ⟨_, rfl⟩
  have HD := Lib.hid hD
  rw [hD] at hok
  have Hok := Lib.hid hok
  have Hec := Lib.hid ec
  have NO := Lib.hid (show numP b false 5 = _ from hO)
  have NM := Lib.hid hM
  have NK := Lib.hid hK
  have NH := Lib.hid hH
  have WO := Lib.hid wO
  have WM := Lib.hid wM
  obtain ⟨d1a, d1b⟩ := d1
  obtain ⟨d2a, d2b⟩ := d2
  obtain ⟨d3a, d3b⟩ := d3
  have Hb := Lib.hid h
  obtain ⟨w1, hw1⟩ : ∃ w1, w.alloc (.cells (ctlV 0 0 0 (fun _ => nilV) nilV) 45) = w1 := ⟨_, rfl⟩
  have hE1 : Ext w w1 := by rw [← hw1]; exact (Ext.refl w).alloc _
  have hR1 : w1.heap[w.heap.size]? = some (.cells (ctlV 0 0 0 (fun _ => nilV) nilV) 45 (0, 0)) := by rw [← hw1]; exact heap_new w _ _ rfl
  have Hw1 := Lib.hid hw1
  have HE1 := Lib.hid hE1
  have HR1 := Lib.hid hR1
  obtain ⟨g2, hg2⟩ : ∃ g, w.heap.size = g := ⟨_, rfl⟩
  rw [hg2] at HR1
  have Hg2 := Lib.hid hg2
  clear hby hO hM hK hH e2 e3 e4 ec y1 y2 wO wM hok hD h hw1 hE1 hR1 hg2
  go_enter Tryd.func22, Tryd.ntmps22
  go_upto_region 1 with (fail)
  refine wp_world (w' := w1) Hw1.out ?_
  rw [Hg2.out]
  go_wp2_with fail
  refine (readIn_any a n c b w1 (Hb.out.ext HE1.out)).mono ?_
  rintro e w2 ⟨gI, rfl, hgI, hI, hE2⟩
  have HI := Lib.hid hI
  have HE2 := Lib.hid (HE1.out.trans hE2)
  have HR2 := Lib.hid (hE2.keep HR1.out)
  have HgI := Lib.hid hgI
  clear hI hE2 hgI
  go_wp2_with fail
  have hn := num_any gI b false 5 w2 HI.out
  rw [NO.out] at hn
  refine hn.mono ?_
  rintro e w3 ⟨rfl, hI3, hG3⟩
  have hn := num_any gI xs1 b1 6 w3 hI3
  rw [NM.out] at hn
  have HN3 := Lib.hid hn
  have HG3 := Lib.hid hG3
  clear hI3 hG3 hn
  have wO := WO.out
  go_wp2_with fail
  refine HN3.out.mono ?_
  rintro e w4 ⟨rfl, hI4, hG4⟩
  have hn := num_any gI xs2 b2 1048576 w4 hI4
  rw [NK.out] at hn
  have HN4 := Lib.hid hn
  have HG4 := Lib.hid hG4
  clear hI4 hG4 hn
  have wM := WM.out
  go_wp2_with fail
  refine HN4.out.mono ?_
  rintro e w5 ⟨rfl, hI5, hG5⟩
  have hG5' : w2.grownBy w5 (some gI) := grown_trans (grown_trans HG3.out HG4.out) hG5
  have hlt2 : g2 < w2.heap.size := (Array.getElem?_eq_some_iff.1 HR2.out).1
  have hne2 : g2 ≠ gI := by
    have h1 : g2 < w1.heap.size := (Array.getElem?_eq_some_iff.1 HR1.out).1
    have := HgI.out
    omega
  have hgI2 : w.heap.size ≤ gI := Nat.le_trans (Below.size HE1.out) HgI.out
  have HR5 := Lib.hid (show w5.heap[g2]? = some (.cells (ctlV 0 0 0 (fun _ => nilV) nilV) 45 (0, 0)) by rw [hG5'.block g2 hlt2 (fun e => hne2 (Option.some.inj e))]; exact HR2.out)
  have hE5 : Ext w w5 := Below.grown HE2.out hG5' (Below.size HE2.out) (fun k e => by have := Option.some.inj e; omega)
  have HE5 := Lib.hid hE5
  have HI5 := Lib.hid hI5
  have HgI2 := Lib.hid hgI2
  clear hI5 hG5 hG5' hlt2 hne2 HG3 HG4 HN3 HN4 HR2 HI hE5 hgI2 WO WM
  have hbc := fun w => build_ctl w O M K
  obtain ⟨w6, hw6⟩ : ∃ w6, w5.alloc (.cells (ctlV O M K (fun _ => nilV) nilV) 45) = w6 := ⟨_, rfl⟩
  have hB6 : w6.heap[w5.heap.size]? = some (.cells (ctlV O M K (fun _ => nilV) nilV) 45 (0, 0)) := by rw [← hw6]; exact heap_new w5 _ _ rfl
  have hE6 : Ext w5 w6 := by rw [← hw6]; exact (Ext.refl w5).alloc _
  have HS := Lib.hid hw6
  have HB6 := Lib.hid hB6
  have HE6 := Lib.hid hE6
  clear hw6 hB6 hE6
  go_upto_region 3 with (fail)
  refine wp_world (w' := w6) HS.out ?_
  obtain ⟨gC, hgC⟩ : ∃ g, w5.heap.size = g := ⟨_, rfl⟩
  rw [hgC] at HB6 ⊢
  have hlt2 : g2 < w5.heap.size := (Array.getElem?_eq_some_iff.1 HR5.out).1
  have hP : PInv w xs3 b3 gI gC g2 O M K 0 w6 := by
    refine ⟨?_, ⟨fun _ => none, fun _ => 0, fun _ => 0, ?_, fun i hi => by omega⟩, HE6.out.keep HR5.out, HE5.out.trans HE6.out⟩
    · obtain ⟨a1, n1, c1, hg1, hb1⟩ := HI5.out
      exact ⟨a1, n1, c1, HE6.out.keep hg1, hb1.ext HE6.out⟩
    · rw [HB6.out]
      congr 3
  have hne : gC ≠ g2 := by omega
  have hlo : w.heap.size ≤ gI ∧ w.heap.size ≤ gC := ⟨HgI2.out, by have := Below.size HE5.out; omega⟩
  have HP := Lib.hid hP
  have Hne := Lib.hid hne
  have HQ2 := Lib.hid (show w.heap.size ≤ g2 from Nat.le_of_eq Hg2.out)
  have Hlo := Lib.hid hlo
  clear hgC hlt2 hP hne hlo HS HB6 HE6 hbc HR5 HE5 HI5 Hg2 HE1 HR1 HgI HE2
  go_wp2
  go_loopw [18] (fun i wr => ∃ k : Nat, k ≤ 6 ∧ i = .int .i64 (k : Int) ∧ PInv w xs3 b3 gI gC g2 O M K k wr) (fun i _ => 6 - (intOf i).toNat)
  case atStart => exact ⟨0, by omega, rfl, HP.out⟩
  case round =>
    obtain ⟨k, hk, rfl, hP⟩ := hrel
    have HPk := Lib.hid hP
    by_cases hlt : k < 6
    · have x1 : (k : Int) < 6 := by omega
      have ht := text_any gI (slotS xs3 b3 k).1 (slotS xs3 b3 k).2 48 wr hP.inn (by omega) (by omega)
      have HT := Lib.hid ht
      clear ht hP
      go_wp2_with fail
      refine HT.out.mono ?_
      rintro e w7 ⟨a7, n7, c7, rfl, hb7, hI7, hG7⟩
      obtain ⟨q0, q1, q2⟩ := HPk.out.step hlt Hne.out Hlo.out hb7 hI7 hG7
      have HQ := Lib.hid q2
      clear hb7 hI7 hG7 q2
      go_wp2
      go_roundw
      case rel => exact ⟨k + 1, by omega, by go_num, HQ.out⟩
      case measure => simp [intOf]; omega
    · obtain rfl : k = 6 := by omega
      have ht := text_any gI (slotS xs3 b3 6).1 (slotS xs3 b3 6).2 48 wr hP.inn (by omega) (by omega)
      rw [NH.out] at ht
      have HT := Lib.hid ht
      clear ht hP
      go_wp2_with fail
      refine HT.out.mono ?_
      rintro e w7 ⟨a7, n7, c7, rfl, hb7, hI7, hG7⟩
      obtain ⟨q0, q1, A, l, C, q2⟩ := HPk.out.fin Hne.out Hlo.out hb7 hI7 hG7
      obtain ⟨w8, hw8⟩ : ∃ w8, w7.setCell ⟨gC, 9, none⟩ (.slice a7 n7 c7) = w8 := ⟨_, rfl⟩
      rw [hw8] at q2
      have HQ := Lib.hid q2
      have Hw8 := Lib.hid hw8
      have HV := Lib.hid (over_any gI xs4 b4 w8 q2.inn)
      have hfb : formedB O M K l n7 = formedB O M K (fun i => (slotX xs3 b3 i).length) H.length := by
        rw [← q2.hand.len]
        exact formedB_congr _ _ _ _ _ _ (fun i hi => (q2.slots i hi).len.symm)
      have hok := Hok.out
      rw [← hfb] at hok
      have HF := Lib.hid (formed_any O M K A l C a7 n7 c7 w8)
      obtain ⟨V, hV⟩ : ∃ V, (!b4 && decide (xs4.length = 0)) = V := ⟨_, rfl⟩
      obtain ⟨F, hF⟩ : ∃ F, formedB O M K l n7 = F := ⟨_, rfl⟩
      rw [hV] at HV hok
      rw [hF] at HF hok
      have HB8 := Lib.hid q2.blk
      have HR8 := Lib.hid q2.res
      have hz0 := fun w => build_ctl0 w
      have Hok2 := Lib.hid hok
      have hsay : ∀ (w9 : World), Ext w8 w9 → CtlAt w9 (if D = true then .agg (ctlV O M K (fun i => .slice (A i) (l i) (C i)) (.slice a7 n7 c7)) else .agg (ctlV 0 0 0 (fun _ => nilV) nilV)) (if D = true then ctlOf b else ⟨0, 0, 0, fun _ => [], []⟩) := by
        intro w9 h9
        cases D with
        | true =>
          simp only [if_true]
          rw [Hec.out]
          exact ⟨A, l, C, a7, n7, c7, rfl, fun i hi => (q2.slots i hi).ext h9, q2.hand.ext h9⟩
        | false => simp only [Bool.false_eq_true, if_false]; exact ctlZero_at w9
      have HSAY := Lib.hid hsay
      clear hb7 hI7 hG7 q2 hw8 hfb hok hV hF hsay HPk HT Hok
      go_upto_region 9 with (fail)
      refine wp_world (w' := w8) Hw8.out ?_
      clear q0 q1 Hw8
      have Hlo2 := Lib.hid (show w.heap.size ≤ g2 by exact HQ2.out)
      cases V with
      | false =>
        have hD : D = false := by rw [Hok2.out]; rfl
        subst hD
        go_wp2_with (first | (refine HV.out.mono ?_; rintro e w9 ⟨rfl, rfl⟩) | (refine wpList_store_row rfl 45 _ _ rfl _ _ rfl rfl _ _ HR8.out (by kernel_rfl) rfl (ctlV_one 0 0 0 (fun _ => nilV) nilV (fun _ => rfl) rfl) ?_))
        refine bodyPost_ret (results_row_tmp rfl _ _ g2 _ _ _ _ rfl (setRow_heap _ g2 _ _ _ _ HR8.out) Tryd.underlying45 rfl (by kernel_rfl)) rfl ?_
        refine ⟨⟨.agg (ctlV 0 0 0 (fun _ => nilV) nilV), ?_, ?_⟩, below_setRow HQ.out.ext Hlo2.out _⟩
        · rw [HD.out]; rfl
        · rw [HD.out]; exact ctlZero_at _
      | true =>
        have HR9 := fun (w9 : World) (h9 : Ext w8 w9) => h9.keep HR8.out
        have HB9 := fun (w9 : World) (h9 : Ext w8 w9) => h9.keep HB8.out
        have HR9 := Lib.hid HR9
        have HB9 := Lib.hid HB9
        go_wp2_with fail
        refine HV.out.mono ?_
        rintro e w8' ⟨rfl, rfl⟩
        go_wp2_with (refine wpList_load_rowW rfl 45 _ rfl gC rfl _ _ _ _ HB8.out Tryd.underlying45 rfl (by kernel_rfl) ?_)
        refine HF.out.mono ?_
        rintro e w9 ⟨rfl, hE9⟩
        have hb9 := HB9.out w9 hE9
        have hr9 := HR9.out w9 hE9
        have HE9 := Lib.hid hE9
        have Hb9 := Lib.hid hb9
        have Hr9 := Lib.hid hr9
        clear hE9 hb9 hr9
        cases F with
        | false =>
          have hD : D = false := by rw [Hok2.out]; rfl
          subst hD
          go_wp2_with (refine wpList_store_row rfl 45 _ _ rfl _ _ rfl rfl _ _ Hr9.out (by kernel_rfl) rfl (ctlV_one 0 0 0 (fun _ => nilV) nilV (fun _ => rfl) rfl) ?_)
          refine bodyPost_ret (results_row_tmp rfl _ _ g2 _ _ _ _ rfl (setRow_heap _ g2 _ _ _ _ Hr9.out) Tryd.underlying45 rfl (by kernel_rfl)) rfl ?_
          refine ⟨⟨.agg (ctlV 0 0 0 (fun _ => nilV) nilV), ?_, ?_⟩, below_setRow (HQ.out.ext.trans HE9.out) Hlo2.out _⟩
          · rw [HD.out]; rfl
          · rw [HD.out]; exact ctlZero_at _
        | true =>
          have hD : D = true := by rw [Hok2.out]; rfl
          subst hD
          go_wp2_with (first | (refine wpList_load_rowW rfl 45 _ rfl gC rfl _ _ _ _ Hb9.out Tryd.underlying45 rfl (by kernel_rfl) ?_) | (refine wpList_store_row rfl 45 _ _ rfl _ _ rfl rfl _ _ Hr9.out (by kernel_rfl) rfl (ctlV_one _ _ _ _ _ (fun _ => rfl) rfl) ?_))
          refine bodyPost_ret (results_row_tmp rfl _ _ g2 _ _ _ _ rfl (setRow_heap _ g2 _ _ _ _ Hr9.out) Tryd.underlying45 rfl (by kernel_rfl)) rfl ?_
          refine ⟨⟨.agg (ctlV O M K (fun i => .slice (A i) (l i) (C i)) (.slice a7 n7 c7)), ?_, ?_⟩, below_setRow (HQ.out.ext.trans HE9.out) Hlo2.out _⟩
          · rw [HD.out]; rfl
          · rw [HD.out]
            have h1 := HSAY.out w9 HE9.out
            simp only [if_true] at h1 ⊢
            obtain ⟨A', l', C', ha', hl', hc', hv, hs', hh'⟩ := h1
            have hnb := ctl_noBytes (Hr9.out) (fun i x => by simp [nilV]) (fun x => by simp [nilV])
            have hG : w9.grownBy (w9.setRow g2 (ctlV O M K (fun i => .slice (A i) (l i) (C i)) (.slice a7 n7 c7))) (some g2) := grown_setRow _ _ _
            exact ⟨A', l', C', ha', hl', hc', hv, fun i hi => (hs' i hi).beside hG hnb, hh'.beside hG hnb⟩

end Go.Proofs.YtppidlpblkihbaaDoor
