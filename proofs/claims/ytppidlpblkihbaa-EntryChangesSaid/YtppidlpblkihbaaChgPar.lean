/-
  The walk of entry.ParseChange. No conditions.
-/
import Derived.Test.YtppidlpblkihbaaChgQ
namespace Go.Proofs.Ytppidlpblkihbaa
open Go.ChangeShapes Go.WideShapes Go.ChangeAt Go.RowKit

def PchSays (b : List Int) (e : Ending) (w : World) : Prop :=
  ∃ v, e = .returned (.tuple #[v, .int .i64 (if chOk b = true then 0 else 2)]) ∧ (if chOk b = true then ChAt w v (copX b) (cnmX b) (ctgX b) (cvaX b) else v = .agg (chV 0 ⟨#[]⟩ nilT ⟨#[]⟩))

theorem strOf_size (xs : List Int) : (strOf xs).size = xs.length := by
  unfold strOf
  show (u8s xs).toArray.size = _
  rw [List.size_toArray, u8s_length]

set_option maxHeartbeats 4000000 in
set_option maxRecDepth 100000 in
theorem parseCh_any (a : Option Addr) (n c : Nat) (b : List Int) (w : World) (h : BsAt w a n c b) :
    Calls Try.prog 12 #[.slice a n c] w fun e w' => PchSays b e w' ∧ Ext w w' := by
  have hby := h.byte
  obtain ⟨O, xs1, b1, hO⟩ : ∃ O xs1 b1, copS b = (O, xs1, b1) := ⟨_, _, _, rfl⟩
  obtain ⟨M, xs2, b2, hM⟩ : ∃ M xs2 b2, textP xs1 b1 24 = (M, xs2, b2) := ⟨_, _, _, rfl⟩
  obtain ⟨K, xs3, b3, hK⟩ : ∃ K xs3 b3, numP xs2 b2 8 = (K, xs3, b3) := ⟨_, _, _, rfl⟩
  have y1 : ∀ c ∈ xs1, 0 ≤ c ∧ c < 256 := by have := numP_byte (bad := false) (most := 3) hby; rw [show numP b false 3 = _ from hO] at this; exact this
  have y2 : ∀ c ∈ xs2, 0 ≤ c ∧ c < 256 := by have := textP_byte (bad := b1) (most := 24) y1; rw [hM] at this; exact this
  have y3 : ∀ c ∈ xs3, 0 ≤ c ∧ c < 256 := by have := numP_byte (bad := b2) (most := 8) y2; rw [hK] at this; exact this
  have d1 : 0 ≤ O ∧ O ≤ 3 := by have := numP_bd (bad := false) (most := 3) hby (by omega); rw [show numP b false 3 = _ from hO] at this; exact this
  have d3 : 0 ≤ K ∧ K ≤ 8 := by have := numP_bd (bad := b2) (most := 8) y2 (by omega); rw [hK] at this; exact this
  obtain ⟨cnt, rfl⟩ : ∃ m : Nat, K = (m : Int) := ⟨K.toNat, by omega⟩
  obtain ⟨V, xs4, b4, hV⟩ : ∃ V xs4 b4, textP (tagS xs3 b3 cnt).1 (tagS xs3 b3 cnt).2 512 = (V, xs4, b4) := ⟨_, _, _, rfl⟩
  have e2 : cnmS b = (M, xs2, b2) := by unfold cnmS; rw [hO]; exact hM
  have e3 : cntS b = ((cnt : Int), xs3, b3) := by unfold cntS; rw [e2]; exact hK
  have e4 : cvaS b = (V, xs4, b4) := by unfold cvaS ctgS; rw [e3]; exact hV
  have ec : copX b = O ∧ cnmX b = strOf M ∧ ctgX b = tagsOf xs3 b3 cnt ∧ cvaX b = strOf V := by
    refine ⟨by unfold copX; rw [hO], by unfold cnmX; rw [e2], ?_, by unfold cvaX; rw [e4]⟩
    unfold ctgX
    rw [e3]
    simp
  have hok : chOk b = (!b4 && decide (xs4.length = 0) && changeB O (strOf M) (tagsOf xs3 b3 cnt) (strOf V)) := by unfold chOk; rw [e4, ec.1, ec.2.1, ec.2.2.1, ec.2.2.2]
  have hMl : M.length ≤ 4096 := by have := textP_le1 (bad := b1) (most := 24) y1 (by omega); rw [hM] at this; simp only at this; omega
  have hVl : V.length ≤ 4096 := by have := textP_le1 (xs := (tagS xs3 b3 cnt).1) (bad := (tagS xs3 b3 cnt).2) (most := 512) (tagS_byte y3 cnt) (by omega); rw [hV] at this; simp only at this; omega
  have hTs : ∀ s ∈ tagsOf xs3 b3 cnt, s.size ≤ 9223372036854775807 := by
    intro s hs
    unfold tagsOf at hs
    obtain ⟨i, _, rfl⟩ := List.mem_map.1 hs
    rw [strOf_size]
    have := textP_le1 (xs := (tagS xs3 b3 i).1) (bad := (tagS xs3 b3 i).2) (most := 24) (tagS_byte y3 i) (by omega)
    unfold tagX
    omega
  have wO : IntKind.i64.wrap O = O := by rw [IntKind.wrap_i64]; omega
  obtain ⟨D, hD⟩ : ∃ D, chOk b = D := ⟨_, rfl⟩
  have HD := Lib.hid hD
  rw [hD] at hok
  have Hok := Lib.hid hok
  have Hec := Lib.hid ec
  have NO := Lib.hid (show numP b false 3 = _ from hO)
  have NM := Lib.hid hM
  have NK := Lib.hid hK
  have NV := Lib.hid hV
  have WO := Lib.hid wO
  have HMl := Lib.hid hMl
  have HVl := Lib.hid hVl
  have HTs := Lib.hid hTs
  obtain ⟨d1a, d1b⟩ := d1
  have d3b : cnt ≤ 8 := by omega
  have Hb := Lib.hid h
  obtain ⟨w1, hw1⟩ : ∃ w1, w.alloc (.cells (chV 0 ⟨#[]⟩ nilT ⟨#[]⟩) 24) = w1 := ⟨_, rfl⟩
  have hE1 : Ext w w1 := by rw [← hw1]; exact (Ext.refl w).alloc _
  have hR1 : w1.heap[w.heap.size]? = some (.cells (chV 0 ⟨#[]⟩ nilT ⟨#[]⟩) 24 (0, 0)) := by rw [← hw1]; exact heap_new w _ _ rfl
  have Hw1 := Lib.hid hw1
  have HE1 := Lib.hid hE1
  have HR1 := Lib.hid hR1
  obtain ⟨g2, hg2⟩ : ∃ g, w.heap.size = g := ⟨_, rfl⟩
  rw [hg2] at HR1
  have Hg2 := Lib.hid hg2
  clear hby hO hM hK hV e2 e3 e4 ec y1 y2 y3 wO hok hD h hw1 hE1 hR1 hg2 d3 hMl hVl hTs
  go_enter Try.func12, Try.ntmps12
  go_upto_region 1 with (fail)
  refine wp_world (w' := w1) Hw1.out ?_
  rw [Hg2.out]
  go_wp2_with fail
  refine (readIn_any a n c b w1 (Hb.out.ext HE1.out)).mono ?_
  rintro e w2 ⟨gI, rfl, hgI, hI, hE2⟩
  have HI := Lib.hid hI
  have HE2 := Lib.hid (HE1.out.trans hE2)
  have HR2 := Lib.hid (hE2.keep HR1.out)
  have HgI := Lib.hid hgI
  clear hI hE2 hgI
  go_wp2_with fail
  have hn := num_any gI b false 3 w2 HI.out
  rw [NO.out] at hn
  refine hn.mono ?_
  rintro e w3 ⟨rfl, hI3, hG3, -⟩
  have hn := text_any gI xs1 b1 24 w3 hI3 (by omega) (by omega)
  rw [NM.out] at hn
  have HN3 := Lib.hid hn
  have HG3 := Lib.hid hG3
  clear hI3 hG3 hn
  have wO := WO.out
  go_wp2_with fail
  refine HN3.out.mono ?_
  rintro e w4 ⟨a4, n4, c4, rfl, hb4, hI4, hG4, -⟩
  have HB4 := Lib.hid hb4
  have HI4 := Lib.hid hI4
  have HG4 := Lib.hid hG4
  clear hb4 hI4 hG4
  obtain ⟨w5, hw5⟩ : ∃ w5, w4.alloc (.cells (chV O (strOf M) nilT ⟨#[]⟩) 24) = w5 := ⟨_, rfl⟩
  have hB5 : w5.heap[w4.heap.size]? = some (.cells (chV O (strOf M) nilT ⟨#[]⟩) 24 (0, 0)) := by rw [← hw5]; exact heap_new w4 _ _ rfl
  have hE5 : Ext w4 w5 := by rw [← hw5]; exact (Ext.refl w4).alloc _
  have hlt2 : g2 < w2.heap.size := (Array.getElem?_eq_some_iff.1 HR2.out).1
  have hne2 : g2 ≠ gI := by
    have h1 : g2 < w1.heap.size := (Array.getElem?_eq_some_iff.1 HR1.out).1
    have := HgI.out
    omega
  have hgI2 : w.heap.size ≤ gI := Nat.le_trans (Below.size HE1.out) HgI.out
  have hG24 : w2.grownBy w4 (some gI) := grown_trans HG3.out HG4.out
  have hR4 : w4.heap[g2]? = some (.cells (chV 0 ⟨#[]⟩ nilT ⟨#[]⟩) 24 (0, 0)) := by rw [hG24.block g2 hlt2 (fun e => hne2 (Option.some.inj e))]; exact HR2.out
  have hE4 : Ext w w4 := Below.grown HE2.out hG24 (Below.size HE2.out) (fun k e => by have := Option.some.inj e; omega)
  have hgI4 : gI < w4.heap.size := by
    obtain ⟨_, _, _, hq, _⟩ := HI4.out
    exact (Array.getElem?_eq_some_iff.1 hq).1
  have HR5 := Lib.hid (hE5.keep hR4)
  have HE5 := Lib.hid (hE4.trans hE5)
  have HI5 := Lib.hid (HI4.out.ext hE5)
  have HB5 := Lib.hid hB5
  have HF5 := Lib.hid (show gI < w4.heap.size ∧ g2 < w4.heap.size ∧ g2 ≠ gI ∧ w.heap.size ≤ gI ∧ w.heap.size ≤ w4.heap.size from ⟨hgI4, (Array.getElem?_eq_some_iff.1 hR4).1, hne2, hgI2, Below.size hE4⟩)
  have HS5 := Lib.hid hw5
  have hbc := fun w => build_ch w O (strOf M)
  clear hB5 hE5 hlt2 hne2 hgI2 hG24 hR4 hE4 hgI4 HG3 HG4 HN3 HR2 HI HI4 hw5 HE1 HR1 HgI HE2
  go_upto_region 3 with (refine conv_str rfl (.tmp 12) rfl a4 n4 c4 M rfl HB4.out ?_)
  refine wp_world (w' := w5) HS5.out ?_
  obtain ⟨gC, hgC⟩ : ∃ g, w4.heap.size = g := ⟨_, rfl⟩
  rw [hgC] at HB5 HF5 ⊢
  have hgC5 : gC < w5.heap.size := (Array.getElem?_eq_some_iff.1 HB5.out).1
  clear hgC HS5 hbc HB4 WO wO
  have hn := num_any gI xs2 b2 8 w5 HI5.out
  rw [NK.out] at hn
  have HN5 := Lib.hid hn
  clear hn
  go_wp2_with fail
  refine HN5.out.mono ?_
  rintro e w6 ⟨rfl, hI6, hG6, -⟩
  obtain ⟨r, hr1, hr2⟩ := hI6.blk
  obtain ⟨f1, f2, f3, f4, f5⟩ := HF5.out
  have hP : PcInv w w6.heap.size r xs3 b3 gI gC g2 O (strOf M) 0 none 0 w6 := by
    refine ⟨hI6, hr1, ?_, ?_, ?_, ?_, Nat.le_refl _⟩
    · rw [hG6.block gC hgC5 (fun e => by have := Option.some.inj e; omega)]
      exact HB5.out
    · exact World.ownsRow_nil _ _ _ _
    · rw [hG6.block g2 (Array.getElem?_eq_some_iff.1 HR5.out).1 (fun e => f3 (Option.some.inj e))]
      exact HR5.out
    · exact Below.grown HE5.out hG6 (Below.size HE5.out) (fun k e => by have := Option.some.inj e; omega)
  have hlo : w.heap.size ≤ gI ∧ w.heap.size ≤ gC ∧ w.heap.size ≤ w6.heap.size ∧ gI < w6.heap.size ∧ gC < w6.heap.size ∧ g2 < w6.heap.size ∧ r < w6.heap.size ∧ gC ≠ g2 ∧ gC ≠ gI ∧ g2 ≠ gI := by
    have := hG6.size
    exact ⟨by omega, by omega, by omega, by omega, by omega, by omega, hr2, by omega, by omega, f3⟩
  obtain ⟨B, hB⟩ : ∃ B, w6.heap.size = B := ⟨_, rfl⟩
  rw [hB] at hP hlo
  have HP := Lib.hid hP
  have Hlo := Lib.hid hlo
  have HQ2 := Lib.hid (show w.heap.size ≤ g2 from Nat.le_of_eq Hg2.out)
  clear hI6 hG6 hr1 hr2 hP hlo f1 f2 f3 f4 f5 hgC5 HN5 HB5 HR5 HE5 HI5 HF5 Hg2 hB
  go_wp2
  go_loopw [17] (fun i wr => ∃ (k : Nat) (ak : Option Addr) (ck : Nat), k ≤ cnt ∧ i = .int .u64 (k : Int) ∧ PcInv w B r xs3 b3 gI gC g2 O (strOf M) k ak ck wr) (fun i _ => cnt - (intOf i).toNat)
  case atStart => exact ⟨0, none, 0, by omega, rfl, HP.out⟩
  case round =>
    obtain ⟨k, ak, ck, hk, rfl, hP⟩ := hrel
    have HPk := Lib.hid hP
    clear hP
    by_cases hlt : k < cnt
    · have x1 : (k : Int) < (cnt : Int) := by omega
      have HST := Lib.hid (show ∀ (ph : Bool) (w w' : World), (wr.grownBy w (some gI) ∧ InSame wr w gI ∧ InAt w gI (tagS xs3 b3 (if ph = true then k + 1 else k)).1 (tagS xs3 b3 (if ph = true then k + 1 else k)).2) → Ext w w' → (wr.grownBy w' (some gI) ∧ InSame wr w' gI ∧ InAt w' gI (tagS xs3 b3 (if ph = true then k + 1 else k)).1 (tagS xs3 b3 (if ph = true then k + 1 else k)).2) ∧ w.grownBy w' (some gI) from
        fun ph w w' hC hE => ⟨⟨grown_trans hC.1 (grown_ext hE _), hC.2.1.trans (inSame_ext hE), hC.2.2.ext hE⟩, grown_ext hE _⟩)
      have HC0 := Lib.hid (show wr.grownBy wr.drew (some gI) ∧ InSame wr wr.drew gI ∧ InAt wr.drew gI (tagS xs3 b3 (if false = true then k + 1 else k)).1 (tagS xs3 b3 (if false = true then k + 1 else k)).2 from
        ⟨grown_ext ((Ext.refl wr).drew) _, inSame_ext ((Ext.refl wr).drew), HPk.out.inn.ext ((Ext.refl wr).drew)⟩)
      have HgC := Lib.hid (show ∀ w', wr.grownBy w' (some gI) → w'.cell? ⟨gC, 2, none⟩ = some (.slice ak k ck) from fun w' hG => by
        refine (ch_cell (fr := (0, 0)) (?_ : w'.heap[gC]? = some (.cells (chV O (strOf M) (.slice ak k ck) ⟨#[]⟩) 24 (0, 0)))).2.2.1
        rw [hG.block gC (Array.getElem?_eq_some_iff.1 HPk.out.chg).1 (fun e => by have := Hlo.out; have := Option.some.inj e; omega)]
        exact HPk.out.chg)
      go_upto_region 5 with (fail)
      refine lp_start (C := fun ph w => wr.grownBy w (some gI) ∧ InSame wr w gI ∧ InAt w gI (tagS xs3 b3 (if ph = true then k + 1 else k)).1 (tagS xs3 b3 (if ph = true then k + 1 else k)).2) (E := fun w w' => w.grownBy w' (some gI)) 6 3 (by omega) (by kernel_rfl) (by kernel_rfl) (fun w => World.grownBy.refl w _) HC0.out ?_
      refine lp_s (.ex (.pointer (some ⟨gC, 2, none⟩))) [] (by omega) (by kernel_rfl) rfl (by rfl) trivial HST.out (fun ph w1 hw1 => ?_) ?_
      · simp only [pk, lexVals]
        clear hw1
        go_simp
        exact ⟨Ext.refl _, rfl⟩
      refine lp_s (.ex (.slice ak k ck)) [(0, 19)] (by omega) (by kernel_rfl) rfl (by rfl) trivial HST.out (fun ph w1 hw1 => ?_) ?_
      · simp only [pk, nthSp, lexVals]
        have q := HgC.out w1 hw1.1
        clear hw1
        go_simp
        exact ⟨Ext.refl _, rfl⟩
      refine lp_s (.ex (.pointer (some ⟨gI, 0, none⟩))) [] (by omega) (by kernel_rfl) rfl (by rfl) trivial HST.out (fun ph w1 hw1 => ?_) ?_
      · simp only [pk, lexVals]
        clear hw1
        go_simp
        exact ⟨Ext.refl _, rfl⟩
      refine lp_m (.ab fun u w => ∃ a n c, u = .slice a n c ∧ BsAt w a n c (tagX xs3 b3 k) ∧ (0 < n → ∀ b off, a = some ⟨b, off, none⟩ → b ≠ gI)) [(0, 21)] rfl (by kernel_rfl) rfl (by rfl)
        (fun v w w' hE ⟨a, n, c, h1, h2, h3⟩ => ⟨a, n, c, h1, h2.grownO hE (fun h0 b off e e2 => h3 h0 b off e (Option.some.inj e2)), h3⟩) (fun w1 hw1 => ?_) ?_
      · simp only [pk, nthSp, lexVals]
        have ht := text_any gI _ _ 24 w1 hw1.2.2 (by omega) (by omega)
        have HT := Lib.hid ht
        have HW := Lib.hid hw1
        clear ht hw1
        go_simp
        refine HT.out.mono ?_
        rintro e w2 ⟨a7, n7, c7, rfl, hb7, hI7, hG7, hS7⟩
        refine ⟨_, rfl, ⟨grown_trans HW.out.1 hG7, HW.out.2.1.trans hS7, hI7⟩, hG7, a7, n7, c7, rfl, hb7, fun h0 b off e he => ?_⟩
        subst he
        obtain ⟨b', off', e', hcc⟩ := hb7.at_ h0
        rw [e] at e'
        simp only [Option.some.injEq, Addr.mk.injEq, and_true] at e'
        obtain ⟨rfl, rfl⟩ := e'
        obtain ⟨_, _, _, hgI7, _⟩ := hI7
        exact in_noBytes hgI7 _ _ (hcc 0 h0)
      refine lp_s (.ex (.string (strOf (tagX xs3 b3 k)))) [(0, 22)] (by omega) (by kernel_rfl) rfl (by rfl) trivial HST.out (fun ph w1 hw1 => ?_) ?_
      · simp only [pk, nthSp, lexVals]
        rintro u22 ⟨a22, n22, c22, rfl, h22, -⟩
        exact lu_str rfl rfl h22
      refine lp_s (.ab fun u w => ∃ q, u = .slice (some ⟨q, 0, none⟩) 1 1 ∧ w.cell? ⟨q, 0, none⟩ = some (.string (strOf (tagX xs3 b3 k))) ∧ q ≠ gI) [(0, 23)] (by omega) (by kernel_rfl) rfl (by rfl)
        (fun v w w' hE ⟨q, h1, h2, h3⟩ => ⟨q, h1, World.grownBy.cell hE h2 (fun e => h3 (Option.some.inj e)), h3⟩) HST.out (fun ph w1 hw1 => ?_) ?_
      · simp only [pk, nthSp, lexVals]
        have hlt1 : gI < w1.heap.size := by
          obtain ⟨_, _, _, hq, _⟩ := hw1.2.2
          exact (Array.getElem?_eq_some_iff.1 hq).1
        have Hlt1 := Lib.hid hlt1
        clear hw1 hlt1
        obtain ⟨S, hS⟩ : ∃ S, strOf (tagX xs3 b3 k) = S := ⟨_, rfl⟩
        rw [hS]
        clear hS
        go_simp
        exact ⟨(Ext.refl w1).alloc _, _, rfl, new_cell _ _ _, by have := Hlt1.out; omega⟩
      refine lp_stop (by rfl) (by decide) fun w5 hw5 => ?_
      have HW5 := Lib.hid hw5
      clear hw5
      simp only [rv, pf, lexVals]
      rintro v1 ⟨q1, q2, q3, rfl, -, -⟩ v2 ⟨q, rfl, hcell, hq⟩
      simp only [Act.put, List.setIfInBounds_toArray, List.set_cons_zero, List.set_cons_succ]
      have hown := HPk.out.own.kept HW5.out.1 (by
        cases hv : (Value.slice ak k ck).ownBlock with
        | none => exact .inl rfl
        | some q => exact .inr (fun e => by have h5 := (HPk.out.own.lt q hv).1; have h6 := Option.some.inj e; have := Hlo.out; omega))
      have HOwn := Lib.hid hown
      have hBs : B ≤ w5.heap.size := Nat.le_trans HPk.out.low HW5.out.1.size
      obtain ⟨S, hS⟩ : ∃ S, strOf (tagX xs3 b3 k) = S := ⟨_, rfl⟩
      have hts := tagsOf_succ xs3 b3 k
      rw [hS] at hts hcell ⊢
      have HTS := Lib.hid hts
      clear hown hts hS
      refine append_str rfl (.tmp 20) (.tmp 24) rfl B _ k (tagsOf xs3 b3 k) rfl HOwn.out q S rfl hcell (by omega) hBs ?_
      intro v6 w6 hown6 hG6
      rw [← HTS.out] at hown6
      obtain ⟨a6, c6, rfl, _, _⟩ := own_slice hown6
      obtain ⟨q0, q1, q2⟩ := HPk.out.step Hlo.out HW5.out.1 HW5.out.2.1 HW5.out.2.2 hown6 hG6
      have HQ := Lib.hid q2
      clear hown6 hG6 q2 hcell
      go_wp2
      go_roundw
      case rel => exact ⟨k + 1, a6, c6, by omega, by go_num, HQ.out⟩
      case measure => simp [intOf]; omega
    · obtain rfl : k = cnt := by omega
      have ht := text_any gI _ _ 512 wr HPk.out.inn (by omega) (by omega)
      rw [NV.out] at ht
      have HT := Lib.hid ht
      have x1 : ¬ (k : Int) < (k : Int) := by omega
      clear ht
      go_wp2_with fail
      refine HT.out.mono ?_
      rintro e w7 ⟨a7, n7, c7, rfl, hb7, hI7, hG7, -⟩
      have hl := Hlo.out
      have hchg7 : w7.heap[gC]? = some (.cells (chV O (strOf M) (.slice ak k ck) ⟨#[]⟩) 24 (0, 0)) := by
        rw [hG7.block gC (Array.getElem?_eq_some_iff.1 HPk.out.chg).1 (fun e => by have := Option.some.inj e; omega)]
        exact HPk.out.chg
      have hres7 : w7.heap[g2]? = some (.cells (chV 0 ⟨#[]⟩ nilT ⟨#[]⟩) 24 (0, 0)) := by
        rw [hG7.block g2 (Array.getElem?_eq_some_iff.1 HPk.out.res).1 (fun e => by have := Option.some.inj e; omega)]
        exact HPk.out.res
      have hown7 := HPk.out.own.kept hG7 (by
        cases hv : (Value.slice ak k ck).ownBlock with
        | none => exact .inl rfl
        | some q => exact .inr (fun e => by have h5 := (HPk.out.own.lt q hv).1; have h6 := Option.some.inj e; omega))
      have hE7 : Ext w w7 := Below.grown HPk.out.ext hG7 (Below.size HPk.out.ext) (fun q e => by have := Option.some.inj e; omega)
      have q0 := (ch_cell hchg7).2.2.2
      have q1 := ch_frozen hchg7 3
      have HB7 := Lib.hid hb7
      obtain ⟨w8, hw8⟩ : ∃ w8, w7.setCell ⟨gC, 3, none⟩ (.string (strOf V)) = w8 := ⟨_, rfl⟩
      have hG8 : w7.grownBy w8 (some gC) := by rw [← hw8]; exact grown_setCell (World.grownBy.refl w7 _) rfl _
      have hchg8 : w8.heap[gC]? = some (.cells (chV O (strOf M) (.slice ak k ck) (strOf V)) 24 (0, 0)) := by rw [← hw8]; exact ch_set3 hchg7 _
      have hres8 : w8.heap[g2]? = some (.cells (chV 0 ⟨#[]⟩ nilT ⟨#[]⟩) 24 (0, 0)) := by
        rw [hG8.block g2 (Array.getElem?_eq_some_iff.1 hres7).1 (fun e => by have := Option.some.inj e; omega)]
        exact hres7
      have hI8 : InAt w8 gI xs4 b4 := by
        obtain ⟨a1, n1, c1, hg1, hb1⟩ := hI7
        refine ⟨a1, n1, c1, ?_, hb1.beside hG8 (ch_noBytes hchg7)⟩
        rw [hG8.block gI (Array.getElem?_eq_some_iff.1 hg1).1 (fun e => by have := Option.some.inj e; omega)]
        exact hg1
      have hown8 := hown7.kept hG8 (by
        cases hv : (Value.slice ak k ck).ownBlock with
        | none => exact .inl rfl
        | some q => exact .inr (fun e => by have h5 := (hown7.lt q hv).1; have h6 := Option.some.inj e; omega))
      have hE8 : Ext w w8 := by rw [← hw8]; exact Below.setCell hE7 (by show w.heap.size ≤ gC; omega) _
      have hss8 := own_ss hown8 (by omega)
      have HF := Lib.hid (formedCh_any O (strOf M) ak k ck (tagsOf xs3 b3 k) (strOf V) w8 hss8 (by rw [strOf_size]; have := HMl.out; omega) (by rw [strOf_size]; have := HVl.out; omega) HTs.out)
      have HV := Lib.hid (over_any gI xs4 b4 w8 hI8)
      have hok := Hok.out
      obtain ⟨V', hV'⟩ : ∃ V', (!b4 && decide (xs4.length = 0)) = V' := ⟨_, rfl⟩
      obtain ⟨F, hF⟩ : ∃ F, changeB O (strOf M) (tagsOf xs3 b3 k) (strOf V) = F := ⟨_, rfl⟩
      rw [hV'] at HV hok
      rw [hF] at HF hok
      have Hw8 := Lib.hid hw8
      have HAk := Lib.hid (show ∀ q off, ak = some ⟨q, off, none⟩ → B ≤ q from fun q off e => by
        have h1 := hown8.lt q (by rw [e]; rfl)
        exact h1.1)
      have HE8 := Lib.hid hE8
      have HR8 := Lib.hid hres8
      have HC8 := Lib.hid hchg8
      have HS8 := Lib.hid hss8
      have hcap := (own_slice hown8)
      have hcap2 : k ≤ ck := by obtain ⟨_, _, he, h1, _⟩ := hcap; simp only [Value.slice.injEq, true_and] at he; omega
      have hz0 := fun w => build_ch0 w
      have Hok2 := Lib.hid hok
      have Hne := Lib.hid (show gC ≠ g2 by omega)
      have Hgc := Lib.hid (show w.heap.size ≤ gC by omega)
      have hall := chV_one O (strOf M) ak k k (strOf V)
      have Hall := Lib.hid hall
      have HgC2 := Lib.hid (show ∀ w9, Ext w8 w9 → w9.cell? ⟨gC, 2, none⟩ = some (.slice ak k ck) ∧ w9.frozen? ⟨gC, 2, none⟩ = false from fun w9 h9 => ⟨(ch_cell (h9.keep hchg8)).2.2.1, ch_frozen (h9.keep hchg8) 2⟩)
      clear hb7 hI7 hG7 hchg7 hres7 hown7 hE7 hG8 hchg8 hres8 hI8 hown8 hE8 hss8 hok hV' hF hw8 HPk HT Hok hcap hl hall
      go_upto_region 8 with (refine conv_str rfl (.tmp 29) rfl a7 n7 c7 V rfl HB7.out ?_)
      refine wp_world (w' := w8) Hw8.out ?_
      clear q0 q1 Hw8
      cases V' with
      | false =>
        have hD : D = false := by rw [Hok2.out]; rfl
        subst hD
        go_wp2_with (first | (refine HV.out.mono ?_; rintro e w9 ⟨rfl, rfl⟩) | (refine wpList_store_row rfl 24 _ _ rfl _ _ rfl rfl _ _ HR8.out (by kernel_rfl) rfl (chV_one 0 ⟨#[]⟩ none 0 0 ⟨#[]⟩) ?_))
        refine bodyPost_ret (results_row_tmp rfl _ _ g2 _ _ _ _ rfl (setRow_heap _ g2 _ _ _ _ HR8.out) Try.underlying24 rfl (by kernel_rfl)) rfl ?_
        refine ⟨⟨.agg (chV 0 ⟨#[]⟩ nilT ⟨#[]⟩), ?_, ?_⟩, below_setRow HE8.out HQ2.out _⟩
        · rw [HD.out]; rfl
        · rw [HD.out]; rfl
      | true =>
        go_wp2_with fail
        refine HV.out.mono ?_
        rintro e w8' ⟨rfl, rfl⟩
        go_wp2_with (refine wpList_load_rowW rfl 24 _ rfl gC rfl _ _ _ _ HC8.out Try.underlying24 rfl (by kernel_rfl) ?_)
        refine HF.out.mono ?_
        rintro e w9 ⟨rfl, hE9⟩
        have HE9 := Lib.hid hE9
        have HR9 := Lib.hid (hE9.keep HR8.out)
        have HC9 := Lib.hid (hE9.keep HC8.out)
        have HS9 := Lib.hid (HS8.out.ext hE9)
        clear hE9
        cases F with
        | false =>
          have hD : D = false := by rw [Hok2.out]; rfl
          subst hD
          go_wp2_with (refine wpList_store_row rfl 24 _ _ rfl _ _ rfl rfl _ _ HR9.out (by kernel_rfl) rfl (chV_one 0 ⟨#[]⟩ none 0 0 ⟨#[]⟩) ?_)
          refine bodyPost_ret (results_row_tmp rfl _ _ g2 _ _ _ _ rfl (setRow_heap _ g2 _ _ _ _ HR9.out) Try.underlying24 rfl (by kernel_rfl)) rfl ?_
          refine ⟨⟨.agg (chV 0 ⟨#[]⟩ nilT ⟨#[]⟩), ?_, ?_⟩, below_setRow (HE8.out.trans HE9.out) HQ2.out _⟩
          · rw [HD.out]; rfl
          · rw [HD.out]; rfl
        | true =>
          have hD : D = true := by rw [Hok2.out]; rfl
          subst hD
          obtain ⟨q0, q1⟩ := HgC2.out w9 HE9.out
          have HCl := Lib.hid (clip_any ak k ck w9 hcap2)
          obtain ⟨w10, hw10⟩ : ∃ w10, w9.setCell ⟨gC, 2, none⟩ (.slice ak k k) = w10 := ⟨_, rfl⟩
          have hC10 : w10.heap[gC]? = some (.cells (chV O (strOf M) (.slice ak k k) (strOf V)) 24 (0, 0)) := by rw [← hw10]; exact ch_set2 HC9.out _
          have hG10 : w9.grownBy w10 (some gC) := by rw [← hw10]; exact grown_setCell (World.grownBy.refl w9 _) rfl _
          have hR10 : w10.heap[g2]? = some (.cells (chV 0 ⟨#[]⟩ nilT ⟨#[]⟩) 24 (0, 0)) := by
            rw [hG10.block g2 (Array.getElem?_eq_some_iff.1 HR9.out).1 (fun e => Hne.out (Option.some.inj e).symm)]
            exact HR9.out
          have hE10 : Ext w w10 := by rw [← hw10]; exact Below.setCell (HE8.out.trans HE9.out) Hgc.out _
          have HC10 := Lib.hid hC10
          have HR10 := Lib.hid hR10
          have HE10 := Lib.hid hE10
          have HG10 := Lib.hid hG10
          have Hw10 := Lib.hid hw10
          clear hw10 hC10 hG10 hR10 hE10
          go_upto_region 11 with (first | (refine HCl.out.mono ?_; rintro e w9' ⟨rfl, rfl⟩))
          refine wp_world (w' := w10) Hw10.out ?_
          clear q0 q1
          go_wp2_with (first | (refine wpList_load_rowW rfl 24 _ rfl gC rfl _ _ _ _ HC10.out Try.underlying24 rfl (by kernel_rfl) ?_) | (refine wpList_store_row rfl 24 _ _ rfl _ _ rfl rfl _ _ HR10.out (by kernel_rfl) rfl Hall.out ?_))
          refine bodyPost_ret (results_row_tmp rfl _ _ g2 _ _ _ _ rfl (setRow_heap _ g2 _ _ _ _ HR10.out) Try.underlying24 rfl (by kernel_rfl)) rfl ?_
          refine ⟨⟨.agg (chV O (strOf M) (.slice ak k k) (strOf V)), ?_, ?_⟩, below_setRow HE10.out HQ2.out _⟩
          · rw [HD.out]; rfl
          · rw [HD.out, if_pos rfl, Hec.out.1, Hec.out.2.1, Hec.out.2.2.1, Hec.out.2.2.2]
            have hne : 0 < k → ∀ q off, ak = some ⟨q, off, none⟩ → q ≠ gC ∧ q ≠ g2 := fun h0 q off e => by
              have := HAk.out q off e
              have := Hlo.out
              omega
            have s10 := HS9.out.clip.grown HG10.out (fun h0 q off e => (hne h0 q off e).1)
            have s11 := s10.grown (grown_setRow w10 g2 (chV O (strOf M) (.slice ak k k) (strOf V))) (fun h0 q off e => (hne h0 q off e).2)
            exact ⟨ak, k, k, rfl, s11⟩

end Go.Proofs.Ytppidlpblkihbaa
