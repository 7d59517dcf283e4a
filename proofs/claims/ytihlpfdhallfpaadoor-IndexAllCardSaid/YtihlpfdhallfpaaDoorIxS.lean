/-
  The walks of jalousieref20.Same, where the pieces are the same, and of Few. Asked: nothing.
-/
import Derived.Test.YtihlpfdhallfpaaDoorPcO
import Derived.Test.YtihlpfdhallfpaaDoorRefAsk
namespace Go.Proofs.YtihlpfdhallfpaaDoor
open Go.ChangeShapes Go.WideShapes Go.ChangeAt Go.RowKit

theorem PisAt.get {w : World} {a : Option Addr} {n c : Nat} {l : List Pc} (h : PisAt w a n c l) (k : Nat) (hk : k < n) : PcAt w (l.getD k pcN) := by
  rw [List.getD_eq_getElem?_getD, List.getElem?_eq_getElem (by rw [h.len]; exact hk)]
  exact h.each _ (List.getElem_mem _)
/-- Two pieces that say the same. -/
structure PcEq (p q : Pc) : Prop where
  bd : p.bd = q.bd
  hd : HdEq p.hd.1 q.hd.1 p.hd.2 q.hd.2

theorem pis_rh1 {w : World} {b off n c : Nat} {l : List Pc} (h : PisAt w (some ⟨b, off, none⟩) n c l) (k : Nat) (hk : k < n) : w.rangeAt b (off + k * 126) (hdL (l.getD k pcN).hd.1) := by
  obtain ⟨b', off', ha, hc⟩ := h.at_ (by omega)
  simp only [Option.some.injEq, Addr.mk.injEq, and_true] at ha
  obtain ⟨rfl, rfl⟩ := ha
  exact range_hd fun j hj => by
    rw [hc k hk j (by omega)]
    unfold pcC
    rw [if_pos hj]
theorem pcC_125 (p : Pc) : pcC p 125 = .slice p.ba p.bd.length p.bc := rfl

set_option maxHeartbeats 8000000 in
set_option maxRecDepth 100000 in
theorem refSame_any (a : Option Addr) (n c : Nat) (la : List Pc) (b : Option Addr) (d : Nat) (lb : List Pc) (w : World) (h1 : PisAt w a n c la) (h2 : PisAt w b n d lb) (he : ∀ k, k < n → PcEq (la.getD k pcN) (lb.getD k pcN)) :
    Calls Tryd.prog 18 #[.slice a n c, .slice b n d] w fun e w' => e = .returned (.bool true) ∧ Ext w w' := by
  have hsm := h1.small
  have H1 := Lib.hid h1
  have H2 := Lib.hid h2
  have He := Lib.hid he
  clear h1 h2 he
  go_enter Tryd.func18, Tryd.ntmps18
  go_wp2
  go_loopw [5] (fun i y => ∃ k : Nat, k ≤ n ∧ i = .int .i64 (k : Int) ∧ Ext w y) (fun i _ => n - (intOf i).toNat)
  case atStart => exact ⟨0, Nat.zero_le _, rfl, Ext.refl w⟩
  case round =>
    obtain ⟨k, hk, rfl, hE⟩ := hrel
    have HE := Lib.hid hE
    rename World => y0
    clear hE
    by_cases hlt : k < n
    · have h1 := H1.out.ext HE.out
      have h2 := H2.out.ext HE.out
      have p1 := h1.get k hlt
      have p2 := h2.get k hlt
      have heq := He.out k hlt
      obtain ⟨b1, o1, rfl, hc1⟩ := h1.at_ (by omega)
      obtain ⟨b2, o2, rfl, hc2⟩ := h2.at_ (by omega)
      have hr1 := pis_rh1 h1 k hlt
      have hr2 := pis_rh1 h2 k hlt
      have hd1 := hc1 k hlt 125 (by omega)
      have hd2 := hc2 k hlt 125 (by omega)
      obtain ⟨x, hx⟩ : ∃ x, la.getD k pcN = x := ⟨_, rfl⟩
      obtain ⟨y, hy⟩ : ∃ x, lb.getD k pcN = x := ⟨_, rfl⟩
      rw [hx] at p1 heq hd1 hr1
      rw [hy] at p2 heq hd2 hr2
      rw [pcC_125] at hd1 hd2
      have hb1 := p1.body
      have hb2 := p2.body
      rw [← heq.bd] at hd2 hb2
      have hbl := bytesL_congr p1.hd.toks.len p2.hd.toks.len heq.hd
      obtain ⟨Y, hY⟩ : ∃ Y, bytesL x.hd.1 x.hd.2 = Y := ⟨_, rfl⟩
      rw [hY] at hbl
      obtain ⟨X, hX⟩ : ∃ X, x.bd = X := ⟨_, rfl⟩
      rw [hX] at hd1 hd2 hb1 hb2
      obtain ⟨pn, hpn⟩ : ∃ m, X.length = m := ⟨_, rfl⟩
      rw [hpn] at hd1 hd2 hb1 hb2
      obtain ⟨pa, hpa⟩ : ∃ m, x.ba = m := ⟨_, rfl⟩
      obtain ⟨pc, hpc⟩ : ∃ m, x.bc = m := ⟨_, rfl⟩
      obtain ⟨qa, hqa⟩ : ∃ m, y.ba = m := ⟨_, rfl⟩
      obtain ⟨qc, hqc⟩ : ∃ m, y.bc = m := ⟨_, rfl⟩
      rw [hpa, hpc] at hd1 hb1
      rw [hqa, hqc] at hd2 hb2
      have HC := Lib.hid (show ∀ z, Ext y0 z → z.cell? ⟨b1, o1 + k * 126 + 125, none⟩ = some (.slice pa pn pc) ∧ BsAt z pa pn pc X ∧ z.rangeAt b1 (o1 + k * 126) (hdL x.hd.1) ∧ Calls Tryd.prog 35 #[.agg (hdV x.hd.1)] z fun e w' => ∃ v, e = .returned v ∧ (∃ q n c, v = .slice q n c ∧ BsAt w' q n c Y) ∧ Ext z w' from fun z hz =>
        ⟨by rw [Ext.cell hz (World.block_lt_of_cell? _ _ hd1)]; exact hd1, hb1.ext hz, fun j v hv => by rw [Ext.cell hz (World.block_lt_of_cell? _ _ (hr1 j v hv))]; exact hr1 j v hv, by
          have h := refBy_any x.hd.1 x.hd.2 z p1.hd.ok (p1.hd.toks.ext hz)
          rw [hY] at h
          exact h⟩)
      have HD2 := Lib.hid (show ∀ z, Ext y0 z → z.cell? ⟨b2, o2 + k * 126 + 125, none⟩ = some (.slice qa pn qc) ∧ BsAt z qa pn qc X ∧ z.rangeAt b2 (o2 + k * 126) (hdL y.hd.1) ∧ Calls Tryd.prog 35 #[.agg (hdV y.hd.1)] z fun e w' => ∃ v, e = .returned v ∧ (∃ q n c, v = .slice q n c ∧ BsAt w' q n c Y) ∧ Ext z w' from fun z hz =>
        ⟨by rw [Ext.cell hz (World.block_lt_of_cell? _ _ hd2)]; exact hd2, hb2.ext hz, fun j v hv => by rw [Ext.cell hz (World.block_lt_of_cell? _ _ (hr2 j v hv))]; exact hr2 j v hv, by
          have h := refBy_any y.hd.1 y.hd.2 z p2.hd.ok (p2.hd.toks.ext hz)
          rw [← hbl] at h
          exact h⟩)
      have HkN := Lib.hid (show (k : Int) < (n : Int) by omega)
      have x1 : (k : Int) < (n : Int) := by omega
      have HX := Lib.hid (show ∀ x, Ext y0.drew x → Ext y0 x from fun x hx => Ext.trans (Ext.refl y0).drew hx)
      clear h1 h2 p1 p2 heq hc1 hc2 hr1 hr2 hd1 hd2 hb1 hb2 hbl hx hy hX hY hpn hpa hpc hqa hqc
      go_upto_region 6 with (fail)
      refine wp_region_lexA (by kernel_rfl) (by kernel_rfl) ?_
      refine lx_e (.slice (some ⟨b1, o1, none⟩) n c) [] (by kernel_rfl) rfl (by rfl) (fun w1 hw1 => ?_) ?_
      · simp only [pk, lexVals]
        clear hw1
        go_simp
        exact ⟨Ext.refl _, by first | rfl | simp⟩
      refine lx_e (.int .i64 (k : Int)) [] (by kernel_rfl) rfl (by rfl) (fun w1 hw1 => ?_) ?_
      · simp only [pk, lexVals]
        clear hw1
        go_simp
        exact ⟨Ext.refl _, by first | rfl | simp⟩
      refine lx_e (.pointer (some ⟨b1, o1 + k * 126, none⟩)) [(1, 17), (0, 18)] (by kernel_rfl) rfl (by rfl) (fun w1 hw1 => ?_) ?_
      · simp only [pk, nthSp, lexVals]
        have hi := HkN.out
        clear hw1
        go_simp
        exact ⟨Ext.refl _, by first | rfl | simp⟩
      refine lx_e (.pointer (some ⟨b1, o1 + k * 126 + 125, none⟩)) [(0, 19)] (by kernel_rfl) rfl (by rfl) (fun w1 hw1 => ?_) ?_
      · simp only [pk, nthSp, lexVals]
        clear hw1
        go_simp
        exact ⟨Ext.refl _, by first | rfl | simp⟩
      refine lx_e (.slice pa pn pc) [(0, 20)] (by kernel_rfl) rfl (by rfl) (fun w1 hw1 => ?_) ?_
      · simp only [pk, nthSp, lexVals]
        have hc := (HC.out w1 (HX.out w1 hw1)).1
        clear hw1
        go_simp
        exact ⟨Ext.refl _, by first | rfl | simp⟩
      refine lx_e (.string (strOf X)) [(0, 21)] (by kernel_rfl) rfl (by rfl) (fun w1 hw1 => ?_) ?_
      · simp only [pk, nthSp, lexVals]
        exact lu_str rfl rfl (HC.out w1 (HX.out w1 hw1)).2.1
      refine lx_e (.slice (some ⟨b2, o2, none⟩) n d) [] (by kernel_rfl) rfl (by rfl) (fun w1 hw1 => ?_) ?_
      · simp only [pk, lexVals]
        clear hw1
        go_simp
        exact ⟨Ext.refl _, by first | rfl | simp⟩
      refine lx_e (.int .i64 (k : Int)) [] (by kernel_rfl) rfl (by rfl) (fun w1 hw1 => ?_) ?_
      · simp only [pk, lexVals]
        clear hw1
        go_simp
        exact ⟨Ext.refl _, by first | rfl | simp⟩
      refine lx_e (.pointer (some ⟨b2, o2 + k * 126, none⟩)) [(1, 23), (0, 24)] (by kernel_rfl) rfl (by rfl) (fun w1 hw1 => ?_) ?_
      · simp only [pk, nthSp, lexVals]
        have hi := HkN.out
        clear hw1
        go_simp
        exact ⟨Ext.refl _, by first | rfl | simp⟩
      refine lx_e (.pointer (some ⟨b2, o2 + k * 126 + 125, none⟩)) [(0, 25)] (by kernel_rfl) rfl (by rfl) (fun w1 hw1 => ?_) ?_
      · simp only [pk, nthSp, lexVals]
        clear hw1
        go_simp
        exact ⟨Ext.refl _, by first | rfl | simp⟩
      refine lx_e (.slice qa pn qc) [(0, 26)] (by kernel_rfl) rfl (by rfl) (fun w1 hw1 => ?_) ?_
      · simp only [pk, nthSp, lexVals]
        have hc := (HD2.out w1 (HX.out w1 hw1)).1
        clear hw1
        go_simp
        exact ⟨Ext.refl _, by first | rfl | simp⟩
      refine lx_e (.string (strOf X)) [(0, 27)] (by kernel_rfl) rfl (by rfl) (fun w1 hw1 => ?_) ?_
      · simp only [pk, nthSp, lexVals]
        exact lu_str rfl rfl (HD2.out w1 (HX.out w1 hw1)).2.1
      refine lx_e (.bool false) [(6, 22), (0, 28)] (by kernel_rfl) rfl (by rfl) (fun w1 hw1 => ?_) ?_
      · simp only [pk, nthSp, lexVals]
        clear hw1
        go_simp
        exact ⟨Ext.refl _, by first | rfl | simp⟩
      refine lx_e (.bool false) [(0, 29)] (by kernel_rfl) rfl (by rfl) (fun w1 hw1 => ?_) ?_
      · simp only [pk, nthSp, lexVals]
        clear hw1
        go_simp
        exact ⟨Ext.refl _, by first | rfl | simp⟩
      refine lx_ge (.slice (some ⟨b1, o1, none⟩) n c) [(0, 30)] 30 (by kernel_rfl) rfl (by kernel_rfl) (by rfl) (fun w1 => ?_) (fun w1 hw1 => ?_) ?_
      · simp only [pk, nthSp, lexVals]
        rfl
      · simp only [pk, nthSp, lexVals]
        clear hw1
        go_simp
        exact ⟨Ext.refl _, by first | rfl | simp⟩
      refine lx_ge (.int .i64 (k : Int)) [(1, 30)] 30 (by kernel_rfl) rfl (by kernel_rfl) (by rfl) (fun w1 => ?_) (fun w1 hw1 => ?_) ?_
      · simp only [pk, nthSp, lexVals]
        rfl
      · simp only [pk, nthSp, lexVals]
        clear hw1
        go_simp
        exact ⟨Ext.refl _, by first | rfl | simp⟩
      refine lx_ge (.pointer (some ⟨b1, o1 + k * 126, none⟩)) [(1, 31), (0, 32), (2, 30)] 30 (by kernel_rfl) rfl (by kernel_rfl) (by rfl) (fun w1 => ?_) (fun w1 hw1 => ?_) ?_
      · simp only [pk, nthSp, lexVals]
        rfl
      · simp only [pk, nthSp, lexVals]
        have hi := HkN.out
        clear hw1
        go_simp
        exact ⟨Ext.refl _, by first | rfl | simp⟩
      refine lx_ge (.pointer (some ⟨b1, o1 + k * 126, none⟩)) [(0, 33), (3, 30)] 30 (by kernel_rfl) rfl (by kernel_rfl) (by rfl) (fun w1 => ?_) (fun w1 hw1 => ?_) ?_
      · simp only [pk, nthSp, lexVals]
        rfl
      · simp only [pk, nthSp, lexVals]
        clear hw1
        go_simp
        exact ⟨Ext.refl _, by first | rfl | simp⟩
      refine lx_ge (.agg (hdV x.hd.1)) [(0, 34), (4, 30)] 30 (by kernel_rfl) rfl (by kernel_rfl) (by rfl) (fun w1 => ?_) (fun w1 hw1 => ?_) ?_
      · simp only [pk, nthSp, lexVals]
        rfl
      · simp only [pk, nthSp, lexVals]
        exact lu_hmid rfl rfl (HC.out w1 (HX.out w1 hw1)).2.2.1
      refine lx_ga (fun u w => ∃ q m e, u = .slice q m e ∧ BsAt w q m e Y) [(0, 35), (5, 30)] 30 (by kernel_rfl) rfl (by kernel_rfl) (by rfl) (fun u w w' he ⟨q, m, e, h1, h2⟩ => ⟨q, m, e, h1, h2.ext he⟩) (fun w1 => ?_) (fun w1 hw1 => ?_) ?_
      · simp only [pk, nthSp, lexVals]
        rfl
      · simp only [pk, nthSp, lexVals]
        have HM := Lib.hid ((HC.out w1 (HX.out w1 hw1)).2.2.2)
        clear hw1
        go_simp
        refine HM.out.mono ?_
        rintro e w3 ⟨v, rfl, ⟨q, m, e, rfl, hs⟩, hE3⟩
        exact ⟨_, rfl, hE3, q, m, e, rfl, hs⟩
      refine lx_ge (.string (strOf Y)) [(0, 36), (6, 30)] 30 (by kernel_rfl) rfl (by kernel_rfl) (by rfl) (fun w1 => ?_) (fun w1 hw1 => ?_) ?_
      · simp only [pk, nthSp, lexVals]
        rintro u36 ⟨q36, m36, e36, rfl, -⟩
        rfl
      · simp only [pk, nthSp, lexVals]
        rintro u36 ⟨q36, m36, e36, rfl, h36⟩
        exact lu_str rfl rfl h36
      refine lx_ge (.slice (some ⟨b2, o2, none⟩) n d) [(7, 30)] 30 (by kernel_rfl) rfl (by kernel_rfl) (by rfl) (fun w1 => ?_) (fun w1 hw1 => ?_) ?_
      · simp only [pk, nthSp, lexVals]
        rfl
      · simp only [pk, nthSp, lexVals]
        clear hw1
        go_simp
        exact ⟨Ext.refl _, by first | rfl | simp⟩
      refine lx_ge (.int .i64 (k : Int)) [(8, 30)] 30 (by kernel_rfl) rfl (by kernel_rfl) (by rfl) (fun w1 => ?_) (fun w1 hw1 => ?_) ?_
      · simp only [pk, nthSp, lexVals]
        rfl
      · simp only [pk, nthSp, lexVals]
        clear hw1
        go_simp
        exact ⟨Ext.refl _, by first | rfl | simp⟩
      refine lx_ge (.pointer (some ⟨b2, o2 + k * 126, none⟩)) [(1, 38), (0, 39), (9, 30)] 30 (by kernel_rfl) rfl (by kernel_rfl) (by rfl) (fun w1 => ?_) (fun w1 hw1 => ?_) ?_
      · simp only [pk, nthSp, lexVals]
        rfl
      · simp only [pk, nthSp, lexVals]
        have hi := HkN.out
        clear hw1
        go_simp
        exact ⟨Ext.refl _, by first | rfl | simp⟩
      refine lx_ge (.pointer (some ⟨b2, o2 + k * 126, none⟩)) [(0, 40), (10, 30)] 30 (by kernel_rfl) rfl (by kernel_rfl) (by rfl) (fun w1 => ?_) (fun w1 hw1 => ?_) ?_
      · simp only [pk, nthSp, lexVals]
        rfl
      · simp only [pk, nthSp, lexVals]
        clear hw1
        go_simp
        exact ⟨Ext.refl _, by first | rfl | simp⟩
      refine lx_ge (.agg (hdV y.hd.1)) [(0, 41), (11, 30)] 30 (by kernel_rfl) rfl (by kernel_rfl) (by rfl) (fun w1 => ?_) (fun w1 hw1 => ?_) ?_
      · simp only [pk, nthSp, lexVals]
        rfl
      · simp only [pk, nthSp, lexVals]
        exact lu_hmid rfl rfl (HD2.out w1 (HX.out w1 hw1)).2.2.1
      refine lx_ga (fun u w => ∃ q m e, u = .slice q m e ∧ BsAt w q m e Y) [(0, 42), (12, 30)] 30 (by kernel_rfl) rfl (by kernel_rfl) (by rfl) (fun u w w' he ⟨q, m, e, h1, h2⟩ => ⟨q, m, e, h1, h2.ext he⟩) (fun w1 => ?_) (fun w1 hw1 => ?_) ?_
      · simp only [pk, nthSp, lexVals]
        rfl
      · simp only [pk, nthSp, lexVals]
        have HM := Lib.hid ((HD2.out w1 (HX.out w1 hw1)).2.2.2)
        clear hw1
        go_simp
        refine HM.out.mono ?_
        rintro e w3 ⟨v, rfl, ⟨q, m, e, rfl, hs⟩, hE3⟩
        exact ⟨_, rfl, hE3, q, m, e, rfl, hs⟩
      refine lx_ge (.string (strOf Y)) [(0, 43), (13, 30)] 30 (by kernel_rfl) rfl (by kernel_rfl) (by rfl) (fun w1 => ?_) (fun w1 hw1 => ?_) ?_
      · simp only [pk, nthSp, lexVals]
        rintro u43 ⟨q43, m43, e43, rfl, -⟩
        rfl
      · simp only [pk, nthSp, lexVals]
        rintro u43 ⟨q43, m43, e43, rfl, h43⟩
        exact lu_str rfl rfl h43
      refine lx_ge (.bool false) [(7, 37), (0, 44), (14, 30)] 30 (by kernel_rfl) rfl (by kernel_rfl) (by rfl) (fun w1 => ?_) (fun w1 hw1 => ?_) ?_
      · simp only [pk, nthSp, lexVals]
        rfl
      · simp only [pk, nthSp, lexVals]
        clear hw1
        go_simp
        exact ⟨Ext.refl _, by first | rfl | simp⟩
      refine lx_e (.bool false) [(15, 30), (0, 45)] (by kernel_rfl) rfl (by rfl) (fun w1 hw1 => ?_) ?_
      · simp only [pk, nthSp, lexVals]
        clear hw1
        go_simp
        exact ⟨Ext.refl _, by first | rfl | simp⟩
      refine lx_stopA (by rfl) fun z hz => ?_
      have HE6 := Lib.hid (HX.out z hz)
      clear hz HX HC HD2
      simp only [rv, pf, lexVals]
      rintro u36 ⟨q36, m36, e36, rfl, -⟩ u43 ⟨q43, m43, e43, rfl, -⟩
      simp only [Act.put, List.setIfInBounds_toArray, List.set_cons_zero, List.set_cons_succ]
      go_wp2
      go_roundw
      case rel => exact ⟨k + 1, by omega, by go_num, HE.out.trans HE6.out⟩
      case measure => simp [intOf]; omega
    · obtain rfl : k = n := by omega
      have x1 : ¬ (k : Int) < (k : Int) := by omega
      go_wp2
      go_ret
      exact ⟨rfl, HE.out⟩

/-- A slice of pieces, of whatever sizes. -/
structure PisR (w : World) (a : Option Addr) (n c : Nat) (l : List Pc) : Prop where
  len : l.length = n
  cap : n ≤ c
  lim : c ≤ 9223372036854775807
  small : n ≤ 140737488355328
  each : ∀ x ∈ l, HtAt w x.hd ∧ BsAt w x.ba x.bd.length x.bc x.bd
  at_ : 0 < n → ∃ b off, a = some ⟨b, off, none⟩ ∧ ∀ i, i < n → ∀ j, j < 126 → w.cell? ⟨b, off + i * 126 + j, none⟩ = some (pcC (l.getD i pcN) j)
  nil_ : a = none → c = 0
theorem PisR.ext {w w' : World} {a : Option Addr} {n c : Nat} {l : List Pc} (h : PisR w a n c l) (he : Ext w w') : PisR w' a n c l := by
  refine ⟨h.len, h.cap, h.lim, h.small, fun x hx => ⟨(h.each x hx).1.ext he, (h.each x hx).2.ext he⟩, fun hn => ?_, h.nil_⟩
  obtain ⟨b, off, ha, hc⟩ := h.at_ hn
  exact ⟨b, off, ha, fun i hi j hj => by rw [Ext.cell he (World.block_lt_of_cell? w _ (hc i hi j hj))]; exact hc i hi j hj⟩
theorem PisR.full {w : World} {a : Option Addr} {n c : Nat} {l : List Pc} (h : PisR w a n c l) (hb : ∀ j, j < n → (l.getD j pcN).bd.length ≤ 2100) : PisAt w a n c l :=
  ⟨h.len, h.cap, h.lim, h.small, fun x hx => ⟨(h.each x hx).1, (h.each x hx).2, by
    obtain ⟨j, hj, rfl⟩ := List.getElem_of_mem hx
    have := hb j (by rw [← h.len]; exact hj)
    rw [List.getD_eq_getElem?_getD, List.getElem?_eq_getElem hj] at this
    have h2 : (l[j]).bd.length ≤ 2100 := this
    omega⟩, h.at_, h.nil_⟩
/-- What Few tells. -/
def Few20 (n : Nat) (l : List Pc) (m : Int) (v : Value) : Prop := ∃ B, v = .bool B ∧ (B = true → (n : Int) ≤ m ∧ ∀ j, j < n → j < 100 → (l.getD j pcN).hd.1.tn ≤ 20 ∧ (l.getD j pcN).bd.length ≤ 2100)
theorem few20_no (n : Nat) (l : List Pc) (m : Int) : Few20 n l m (.bool false) := ⟨false, rfl, fun h => by cases h⟩
set_option maxHeartbeats 2000000 in
set_option maxRecDepth 100000 in
theorem few20_any (a : Option Addr) (n c : Nat) (l : List Pc) (m : Int) (w : World) (h : PisR w a n c l) :
    Calls Tryd.prog 14 #[.slice a n c, .int .i64 m] w fun e w' => ∃ v, e = .returned v ∧ Few20 n l m v ∧ Ext w w' := by
  have hsm := h.small
  have H := Lib.hid h
  clear h
  go_enter Tryd.func14, Tryd.ntmps14
  go_wp2
  go_loopw [5] (fun i wr => ∃ k : Nat, k ≤ n ∧ k ≤ 100 ∧ i = .int .i64 (k : Int) ∧ (∀ j, j < k → (l.getD j pcN).hd.1.tn ≤ 20 ∧ (l.getD j pcN).bd.length ≤ 2100) ∧ wr = w) (fun i _ => 100 - (intOf i).toNat)
  case atStart => exact ⟨0, Nat.zero_le _, Nat.zero_le _, rfl, fun j hj => by omega, rfl⟩
  case round =>
    obtain ⟨k, hk, hk100, rfl, hall, rfl⟩ := hrel
    have Hall := Lib.hid hall
    clear hall
    by_cases hlt : k < n
    · by_cases hlt2 : k < 100
      · obtain ⟨b, off, rfl, hcell⟩ := H.out.at_ (by omega)
        have hc := hcell k hlt 53 (by omega)
        have hd := hcell k hlt 125 (by omega)
        obtain ⟨x, hx⟩ : ∃ x, l.getD k pcN = x := ⟨_, rfl⟩
        have Hx := Lib.hid hx
        rw [hx] at hc hd
        have hc2 : wr.cell? ⟨b, off + k * 126 + 53, none⟩ = some (.slice x.hd.1.ta x.hd.1.tn x.hd.1.tc) := hc
        have hd2 : wr.cell? ⟨b, off + k * 126 + 125, none⟩ = some (.slice x.ba x.bd.length x.bc) := hd
        obtain ⟨tn, htn⟩ : ∃ t, x.hd.1.tn = t := ⟨_, rfl⟩
        have Htn := Lib.hid htn
        rw [htn] at hc2
        obtain ⟨bn, hbn⟩ : ∃ t, x.bd.length = t := ⟨_, rfl⟩
        have Hbn := Lib.hid hbn
        rw [hbn] at hd2
        have x1 : (k : Int) < (n : Int) := by omega
        have x2 : (k : Int) < 100 := by omega
        have x3 : (0 : Int) ≤ (k : Int) := by omega
        clear hcell hc hd hx htn hbn
        by_cases ht : 20 < tn
        · have x4 : (20 : Int) < (tn : Int) := by omega
          clear ht
          go_wp2
          go_ret
          exact ⟨_, rfl, few20_no _ _ _, Ext.refl _⟩
        · have x4 : ¬ (20 : Int) < (tn : Int) := by omega
          by_cases hb : 2100 < bn
          · have x5 : (2100 : Int) < (bn : Int) := by omega
            clear hb
            go_wp2
            go_ret
            exact ⟨_, rfl, few20_no _ _ _, Ext.refl _⟩
          · have x5 : ¬ (2100 : Int) < (bn : Int) := by omega
            go_wp2
            go_roundw
            case rel =>
              refine ⟨k + 1, by omega, by omega, by go_num, fun j hj => ?_, by first | rfl | trivial⟩
              by_cases hjk : j = k
              · subst hjk
                rw [Hx.out, Htn.out, Hbn.out]
                omega
              · exact Hall.out j (by omega)
            case measure => simp [intOf]; omega
      · have x1 : (k : Int) < (n : Int) := by omega
        have x2 : ¬ (k : Int) < 100 := by omega
        go_wp2
        go_ret
        exact ⟨_, rfl, ⟨decide ((n : Int) ≤ m), rfl, fun h => ⟨of_decide_eq_true h, fun j hj hj2 => Hall.out j (by omega)⟩⟩, Ext.refl _⟩
    · obtain rfl : k = n := by omega
      have x1 : ¬ (k : Int) < (k : Int) := by omega
      go_wp2
      go_ret
      exact ⟨_, rfl, ⟨decide ((k : Int) ≤ m), rfl, fun h => ⟨of_decide_eq_true h, fun j hj hj2 => Hall.out j (by omega)⟩⟩, Ext.refl _⟩

end Go.Proofs.YtihlpfdhallfpaaDoor
