/-
  The walk of proof.Check over an abstract box. Asked: the table of 64 words lies as the text lays it.
-/
import Derived.Test.YtpiebfhcfkncoaaDoorHdR
import Derived.Test.YtpiebfhcfkncoaaDoorPr
import Derived.Test.YtpiebfhcfkncoaaDoorMeet
namespace Go.Proofs.YtpiebfhcfkncoaaDoor
open Go.ChangeShapes Go.WideShapes Go.ChangeAt Go.RowKit

/-- Whether a proof is one. -/
def chkB (R : Rt) (r : Rg) (p : Pr) : Bool :=
  prB p && (if p.kind = 3 then true else if p.kind = 4 then rightO R (keyO r p.a.1) p.a.1 p.a.2 && (!p.a.1.ctl && (decide (p.wn = 0) || meetB p.a.2 p.ws))
    else if p.kind = 1 then decide (p.a.1.writer = p.b.1.writer) && (decide (p.a.1.seq = p.b.1.seq) && (!sameB p.a.1 p.b.1 p.a.2 p.b.2 && (rightO R (keyO r p.a.1) p.a.1 p.a.2 && rightO R (keyO r p.b.1) p.b.1 p.b.2)))
    else decide (p.a.1.writer = p.b.1.writer) && (decide (p.b.1.seq = p.a.1.seq + 1) && (!arrB 32 p.b.1.prev (shaF (bytesL p.a.1 p.a.2)) && (rightO R (keyO r p.a.1) p.a.1 p.a.2 && rightO R (keyO r p.b.1) p.b.1 p.b.2))))
theorem chk_no {R : Rt} {r : Rg} {p : Pr} (hf : prB p = false) : chkB R r p = false := by unfold chkB; rw [hf]; rfl
theorem chk_3 {R : Rt} {r : Rg} {p : Pr} (hf : prB p = true) (hk : p.kind = 3) : chkB R r p = true := by unfold chkB; rw [hf, if_pos hk]; rfl
theorem chk_4 {R : Rt} {r : Rg} {p : Pr} (hf : prB p = true) (hk : p.kind = 4) : chkB R r p = (rightO R (keyO r p.a.1) p.a.1 p.a.2 && (!p.a.1.ctl && (decide (p.wn = 0) || meetB p.a.2 p.ws))) := by
  unfold chkB; rw [hf, if_neg (by omega), if_pos hk]; rfl
theorem chk_1 {R : Rt} {r : Rg} {p : Pr} (hf : prB p = true) (hk : p.kind = 1) : chkB R r p = (decide (p.a.1.writer = p.b.1.writer) && (decide (p.a.1.seq = p.b.1.seq) && (!sameB p.a.1 p.b.1 p.a.2 p.b.2 && (rightO R (keyO r p.a.1) p.a.1 p.a.2 && rightO R (keyO r p.b.1) p.b.1 p.b.2)))) := by
  unfold chkB; rw [hf, if_neg (by omega), if_neg (by omega), if_pos hk]; rfl
theorem chk_2 {R : Rt} {r : Rg} {p : Pr} (hf : prB p = true) (hk : p.kind = 2) : chkB R r p = (decide (p.a.1.writer = p.b.1.writer) && (decide (p.b.1.seq = p.a.1.seq + 1) && (!arrB 32 p.b.1.prev (shaF (bytesL p.a.1 p.a.2)) && (rightO R (keyO r p.a.1) p.a.1 p.a.2 && rightO R (keyO r p.b.1) p.b.1 p.b.2)))) := by
  unfold chkB; rw [hf, if_neg (by omega), if_neg (by omega), if_neg (by omega)]; rfl
theorem prB_two {p : Pr} (hf : prB p = true) (hk : p.kind = 1 ∨ p.kind = 2) : hdB p.a.1 p.a.2 = true ∧ hdB p.b.1 p.b.2 = true := by
  unfold prB at hf
  rw [if_pos hk] at hf
  simp only [Bool.and_eq_true] at hf
  exact ⟨hf.1.1.1, hf.1.1.2⟩
theorem prB_seq {p : Pr} (hf : prB p = true) (hk : p.kind = 1 ∨ p.kind = 2) : 1 ≤ p.a.1.seq ∧ p.a.1.seq ≤ 1048576 := (hdB_bd (prB_two hf hk).1).2.1

theorem lu_hmid2 {w : World} {o : Oper} {ev : Operand → Value} {x : Operand} {b off : Nat} {h : Hd} (ho : o.op = .load 33 x) (hx : ev x = .pointer (some ⟨b, off, none⟩)) (hr : w.rangeAt b off (hdL h)) : lexUpon Tryd.prog w (.ex (.agg (hdV h))) ((execOp ev o).run Tryd.prog w) := by
  simp only [execOp, ho, hx, Instr.loadAt, Instr.sureAddr, Sem.run_bind, Sem.run_pure, Result.andThen_ok, run_loadVar_mid w b off 33 (hdL h) _ hr Tryd.underlying33 rfl (by rw [hdL_length]; exact info_hd125)]
  exact ⟨Ext.refl _, rfl⟩

set_option maxHeartbeats 16000000 in
set_option maxRecDepth 100000 in
theorem prCheck_any (gb : Nat) (R : Rt) (r : Rg) (p : Pr) (w : World) (hr : RgAt w r) (hp : PrAt w p) (hR : RightIs gb R w) (hk : KsAt 1 w) :
    Calls Tryd.prog 10 #[.pointer (some ⟨gb, 0, none⟩), .agg (rgV r), .agg (prV p)] w fun e w' => e = .returned (.bool (chkB R r p)) ∧ Ext w w' := by
  obtain ⟨w2, hw2, hE2, hR2, hB2⟩ := tok_box' w (rgV r) (prV p) 26 35
  obtain ⟨g, hg⟩ : ∃ g, w.heap.size = g := ⟨_, rfl⟩
  rw [hg] at hR2 hB2
  have hkd := fun hf : prB p = true => prB_kind hf
  have Hsr := Lib.hid (rgV_size r)
  have Hsp := Lib.hid (prV_size p)
  have HFo := Lib.hid (prFormed_any p w2 (hp.ext hE2))
  have hRa := fun w1 (h1 : Ext w2 w1) => prRight_any gb R r p.a.1 p.a.2 w1 (hr.ext (hE2.trans h1)) hp.a.ok (hp.a.toks.ext (hE2.trans h1)) (hR.ext (hE2.trans h1)) (hk.ext' (hE2.trans h1))
  have hRb := fun w1 (h1 : Ext w2 w1) => prRight_any gb R r p.b.1 p.b.2 w1 (hr.ext (hE2.trans h1)) hp.b.ok (hp.b.toks.ext (hE2.trans h1)) (hR.ext (hE2.trans h1)) (hk.ext' (hE2.trans h1))
  have hSm := fun w1 (h1 : Ext w2 w1) => sameHd_any p.a.1 p.b.1 p.a.2 p.b.2 w1 (hp.a.toks.ext (hE2.trans h1)) (hp.b.toks.ext (hE2.trans h1))
  have hHs := fun w1 (h1 : Ext w2 w1) => hdHash_any p.a.1 p.a.2 w1 hp.a.ok (hp.a.toks.ext (hE2.trans h1)) (hk.ext' (hE2.trans h1))
  have hMe := fun w1 (h1 : Ext w2 w1) => meet_any p.a.1.ta p.a.1.tn p.a.1.tc p.a.2 p.wa p.wn p.wc p.ws w1 (hp.a.toks.ext (hE2.trans h1)) (hp.toks.ext (hE2.trans h1))
  have HX2 : ∀ {o : Obj}, True := fun {_} => trivial
  have C0 := Lib.hid (fun x (h : Ext w2 x) => pr_kind (h.keep hB2))
  have C1 := Lib.hid (fun x (h : Ext w2 x) => pr_aw (h.keep hB2))
  have C126 := Lib.hid (fun x (h : Ext w2 x) => pr_bw (h.keep hB2))
  have C2 := Lib.hid (show ∀ x, Ext w2 x → x.cell? ⟨g + 1, 2, none⟩ = some (.int .u64 p.a.1.seq) from fun x h => pr_a (h.keep hB2) 1 (by omega))
  have C127 := Lib.hid (show ∀ x, Ext w2 x → x.cell? ⟨g + 1, 127, none⟩ = some (.int .u64 p.b.1.seq) from fun x h => pr_b (h.keep hB2) 1 (by omega))
  have C36 := Lib.hid (show ∀ x, Ext w2 x → x.cell? ⟨g + 1, 36, none⟩ = some (.bool p.a.1.ctl) from fun x h => pr_a (h.keep hB2) 35 (by omega))
  have C54 := Lib.hid (fun x (h : Ext w2 x) => pr_atoks (h.keep hB2))
  have C254 := Lib.hid (fun x (h : Ext w2 x) => pr_toks (h.keep hB2))
  have CP := Lib.hid (show ∀ x, Ext w2 x → ∀ i, i < 32 → x.cell? ⟨g + 1, 128 + i, none⟩ = some (.int .u8 (p.b.1.prev i)) from fun x h i hi => by
    have h1 := pr_b (h.keep hB2) (2 + i) (by omega)
    rw [show 126 + (2 + i) = 128 + i by omega] at h1
    rw [h1]
    unfold hdC
    rw [if_neg (by omega), if_neg (by omega), if_pos (by omega), show 2 + i - 2 = i by omega])
  have hsm := hp.toks.small
  have Hg := Lib.hid hg
  have Hw2 := Lib.hid hw2
  have HE0 := Lib.hid hE2
  have HR2 := Lib.hid hR2
  have HB2 := Lib.hid hB2
  clear HX2 hw2 hE2 hR2 hB2 hg hr hp hR hk
  obtain ⟨F, hF⟩ : ∃ F, prB p = F := ⟨_, rfl⟩
  rw [hF] at HFo
  cases F with
  | false =>
    rw [chk_no hF]
    clear hF hkd
    go_enter Tryd.func10, Tryd.ntmps10
    go_upto_region 1 with (fail)
    refine wp_world (w' := w2) Hw2.out ?_
    rw [Hg.out]
    clear Hw2
    go_wp2_with (refine wpList_load_rowW rfl 35 _ rfl (g + 1) rfl _ _ _ _ HB2.out Tryd.underlying35 rfl (by rw [Hsp.out]; kernel_rfl) ?_)
    refine HFo.out.mono ?_
    rintro e w3 ⟨rfl, hE⟩
    have HE := Lib.hid hE
    clear hE HFo
    go_wp2
    go_ret
    exact ⟨rfl, HE0.out.trans HE.out⟩
  | true =>
    have hk := hkd hF
    have hf := hF
    clear hkd hF
    obtain ⟨K, a, b, W, F, H, wa, wn, wc, ws⟩ := p
    dsimp only at C0 C1 C126 C2 C127 C36 C54 C254 CP hRa hRb hSm hHs hMe hk hsm
    obtain ⟨PV, hPV⟩ : ∃ x, prV ⟨K, a, b, W, F, H, wa, wn, wc, ws⟩ = x := ⟨_, rfl⟩
    have HBP := Lib.hid HB2.out
    rw [hPV] at HFo Hsp Hw2 HBP ⊢
    clear hPV
    have HMe := Lib.hid hMe
    have HHs := Lib.hid hHs
    obtain ⟨RV, hRV⟩ : ∃ x, rgV r = x := ⟨_, rfl⟩
    rw [hRV] at hRa hRb HR2 Hsr
    clear hMe hHs hRV
    rcases hk with rfl | rfl | rfl | rfl
    · rw [chk_1 hf rfl]
      clear hf
      dsimp only
      obtain ⟨SB, hSB⟩ : ∃ x, sameB a.1 b.1 a.2 b.2 = x := ⟨_, rfl⟩
      rw [hSB] at hSm ⊢
      have HSm := Lib.hid hSm
      clear hSm hSB
      obtain ⟨RA, hRA⟩ : ∃ x, rightO R (keyO r a.1) a.1 a.2 = x := ⟨_, rfl⟩
      obtain ⟨RB, hRB⟩ : ∃ x, rightO R (keyO r b.1) b.1 b.2 = x := ⟨_, rfl⟩
      rw [hRA] at hRa ⊢
      rw [hRB] at hRb
      rw [hRB]
      have HRa := Lib.hid hRa
      have HRb := Lib.hid hRb
      clear hRa hRb hRA hRB
      obtain ⟨AW, hAW⟩ : ∃ x, a.1.writer = x := ⟨_, rfl⟩
      obtain ⟨BW, hBW⟩ : ∃ x, b.1.writer = x := ⟨_, rfl⟩
      obtain ⟨AS, hAS⟩ : ∃ x, a.1.seq = x := ⟨_, rfl⟩
      obtain ⟨BS, hBS⟩ : ∃ x, b.1.seq = x := ⟨_, rfl⟩
      rw [hAW] at C1 ⊢
      rw [hBW] at C126 ⊢
      rw [hAS] at C2 ⊢
      rw [hBS] at C127 ⊢
      clear hAW hBW hAS hBS
      go_enter Tryd.func10, Tryd.ntmps10
      go_upto_region 1 with (fail)
      refine wp_world (w' := w2) Hw2.out ?_
      rw [Hg.out]
      clear Hw2
      go_wp2_with (refine wpList_load_rowW rfl 35 _ rfl (g + 1) rfl _ _ _ _ HBP.out Tryd.underlying35 rfl (by rw [Hsp.out]; kernel_rfl) ?_)
      refine HFo.out.mono ?_
      rintro e w3 ⟨rfl, hE⟩
      have HE := Lib.hid hE
      clear hE HFo
      have c1 := C1.out w3 HE.out
      have c126 := C126.out w3 HE.out
      have c2 := C2.out w3 HE.out
      have c127 := C127.out w3 HE.out
      have c0 := C0.out w3 HE.out
      by_cases h1 : AW = BW
      case neg =>
        have y1 : (AW == BW) = false := by simpa using h1
        go_wp2
        go_ret
        exact ⟨by first | rfl | (simp; done) | (simp [h1]; done), HE0.out.trans HE.out⟩
      subst h1
      by_cases h2 : AS = BS
      case neg =>
        have y1 : (AS == BS) = false := by simpa using h2
        go_wp2
        go_ret
        exact ⟨by first | rfl | (simp; done) | (simp [h2]; done), HE0.out.trans HE.out⟩
      subst h2
      go_wp2_with (first | (refine wpList_load_rowW rfl 26 _ rfl g rfl _ _ _ _ (HE.out.keep HR2.out) Tryd.underlying26 rfl (by rw [Hsr.out]; kernel_rfl) ?_) | (refine wp_hmid rfl _ rfl (g + 1) 1 a.1 rfl (pr_ra' (HE.out.keep HB2.out)) ?_) | (refine wp_hmid rfl _ rfl (g + 1) 126 b.1 rfl (pr_rb' (HE.out.keep HB2.out)) ?_))
      refine (HSm.out w3 HE.out).mono ?_
      rintro e w4 ⟨rfl, hE⟩
      clear c0 c1 c126 c2 c127
      have HE := Lib.hid (HE.out.trans hE)
      clear hE
      cases SB with
      | true =>
        go_wp2
        go_ret
        exact ⟨by first | rfl | (simp; done), HE0.out.trans HE.out⟩
      | false =>
        have c0 := C0.out w4 HE.out
        go_wp2_with (first | (refine wpList_load_rowW rfl 26 _ rfl g rfl _ _ _ _ (HE.out.keep HR2.out) Tryd.underlying26 rfl (by rw [Hsr.out]; kernel_rfl) ?_) | (refine wp_hmid rfl _ rfl (g + 1) 1 a.1 rfl (pr_ra' (HE.out.keep HB2.out)) ?_) | (refine wp_hmid rfl _ rfl (g + 1) 126 b.1 rfl (pr_rb' (HE.out.keep HB2.out)) ?_))
        refine (HRa.out w4 HE.out).mono ?_
        rintro e w5 ⟨rfl, hE⟩
        have HE := Lib.hid (HE.out.trans hE)
        clear hE
        cases RA with
        | false =>
          go_wp2
          go_ret
          exact ⟨by first | rfl | (simp; done), HE0.out.trans HE.out⟩
        | true =>
          go_wp2_with (first | (refine wpList_load_rowW rfl 26 _ rfl g rfl _ _ _ _ (HE.out.keep HR2.out) Tryd.underlying26 rfl (by rw [Hsr.out]; kernel_rfl) ?_) | (refine wp_hmid rfl _ rfl (g + 1) 1 a.1 rfl (pr_ra' (HE.out.keep HB2.out)) ?_) | (refine wp_hmid rfl _ rfl (g + 1) 126 b.1 rfl (pr_rb' (HE.out.keep HB2.out)) ?_))
          refine (HRb.out w5 HE.out).mono ?_
          rintro e w6 ⟨rfl, hE⟩
          have HE := Lib.hid (HE.out.trans hE)
          clear hE
          go_wp2
          go_ret
          exact ⟨by first | rfl | (simp; done), HE0.out.trans HE.out⟩
    · rw [chk_2 hf rfl]
      have HBd := Lib.hid (prB_seq hf (.inr rfl))
      clear hf
      dsimp only at HBd ⊢
      obtain ⟨RA, hRA⟩ : ∃ x, rightO R (keyO r a.1) a.1 a.2 = x := ⟨_, rfl⟩
      obtain ⟨RB, hRB⟩ : ∃ x, rightO R (keyO r b.1) b.1 b.2 = x := ⟨_, rfl⟩
      rw [hRA] at hRa ⊢
      rw [hRB] at hRb
      rw [hRB]
      have HRa := Lib.hid hRa
      have HRb := Lib.hid hRb
      clear hRa hRb hRA hRB
      obtain ⟨AW, hAW⟩ : ∃ x, a.1.writer = x := ⟨_, rfl⟩
      obtain ⟨BW, hBW⟩ : ∃ x, b.1.writer = x := ⟨_, rfl⟩
      obtain ⟨AS, hAS⟩ : ∃ x, a.1.seq = x := ⟨_, rfl⟩
      obtain ⟨BS, hBS⟩ : ∃ x, b.1.seq = x := ⟨_, rfl⟩
      obtain ⟨T, hT⟩ : ∃ x, shaF (bytesL a.1 a.2) = x := ⟨_, rfl⟩
      rw [hAW] at C1 ⊢
      rw [hBW] at C126 ⊢
      rw [hAS] at C2 HBd ⊢
      rw [hBS] at C127 ⊢
      rw [hT] at HHs ⊢
      clear hAW hBW hAS hBS hT
      go_enter Tryd.func10, Tryd.ntmps10
      go_upto_region 1 with (fail)
      refine wp_world (w' := w2) Hw2.out ?_
      rw [Hg.out]
      clear Hw2
      go_wp2_with (refine wpList_load_rowW rfl 35 _ rfl (g + 1) rfl _ _ _ _ HBP.out Tryd.underlying35 rfl (by rw [Hsp.out]; kernel_rfl) ?_)
      refine HFo.out.mono ?_
      rintro e w3 ⟨rfl, hE⟩
      have HE := Lib.hid hE
      clear hE HFo
      have HB3 := Lib.hid (HE.out.keep HB2.out)
      have HX := Lib.hid (show ∀ x, Ext w3.drew x → Ext w3 x from fun x hx => Ext.trans (Ext.refl w3).drew hx)
      have C127 := Lib.hid (fun x (hx : Ext w3 x) => C127.out x (HE.out.trans hx))
      have C2 := Lib.hid (fun x (hx : Ext w3 x) => C2.out x (HE.out.trans hx))
      have CP := Lib.hid (fun x (hx : Ext w3 x) => CP.out x (HE.out.trans hx))
      have HNe := Lib.hid neq_h
      have c0 := C0.out w3 HE.out
      have c1 := C1.out w3 HE.out
      have c126 := C126.out w3 HE.out
      by_cases h1 : AW = BW
      case neg =>
        have y1 : (AW == BW) = false := by simpa using h1
        go_upto_region 12 with (fail)
        clear c0 c1 c126
        refine wp_region_lexA (by kernel_rfl) (by kernel_rfl) ?_
        refine lx_e (.bool false) [] (by kernel_rfl) rfl (by rfl) (fun w1 hw1 => ?_) ?_
        · simp only [pk, lexVals]
          go_simp
          exact ⟨Ext.refl _, rfl⟩
        refine lx_e (.bool false) [(0, 71)] (by kernel_rfl) rfl (by rfl) (fun w1 hw1 => ?_) ?_
        · simp only [pk, nthSp, lexVals]
          go_simp
          exact ⟨Ext.refl _, rfl⟩
        refine lx_no [(0, 72)] 72 (by kernel_rfl) rfl (by kernel_rfl) (by rfl) (fun w1 => ?_) ?_
        · simp only [pk, nthSp, lexVals]
          first | (go_simp; done) | (go_simp; exact fun h => by cases h)
        refine lx_no [(0, 73), (1, 72)] 72 (by kernel_rfl) rfl (by kernel_rfl) (by rfl) (fun w1 => ?_) ?_
        · simp only [pk, nthSp, lexVals]
          first | (go_simp; done) | (go_simp; exact fun h => by cases h)
        refine lx_no [(0, 74), (2, 72)] 72 (by kernel_rfl) rfl (by kernel_rfl) (by rfl) (fun w1 => ?_) ?_
        · simp only [pk, nthSp, lexVals]
          first | (go_simp; done) | (go_simp; exact fun h => by cases h)
        refine lx_no [(3, 72)] 72 (by kernel_rfl) rfl (by kernel_rfl) (by rfl) (fun w1 => ?_) ?_
        · simp only [pk, nthSp, lexVals]
          first | (go_simp; done) | (go_simp; exact fun h => by cases h)
        refine lx_no [(0, 76), (4, 72)] 72 (by kernel_rfl) rfl (by kernel_rfl) (by rfl) (fun w1 => ?_) ?_
        · simp only [pk, nthSp, lexVals]
          first | (go_simp; done) | (go_simp; exact fun h => by cases h)
        refine lx_no [(0, 77), (5, 72)] 72 (by kernel_rfl) rfl (by kernel_rfl) (by rfl) (fun w1 => ?_) ?_
        · simp only [pk, nthSp, lexVals]
          first | (go_simp; done) | (go_simp; exact fun h => by cases h)
        refine lx_no [(0, 78), (6, 72)] 72 (by kernel_rfl) rfl (by kernel_rfl) (by rfl) (fun w1 => ?_) ?_
        · simp only [pk, nthSp, lexVals]
          first | (go_simp; done) | (go_simp; exact fun h => by cases h)
        refine lx_no [(4, 75), (0, 79), (7, 72)] 72 (by kernel_rfl) rfl (by kernel_rfl) (by rfl) (fun w1 => ?_) ?_
        · simp only [pk, nthSp, lexVals]
          first | (go_simp; done) | (go_simp; exact fun h => by cases h)
        refine lx_e (.bool false) [(8, 72), (0, 80)] (by kernel_rfl) rfl (by rfl) (fun w1 hw1 => ?_) ?_
        · simp only [pk, nthSp, lexVals]
          go_simp
          exact ⟨Ext.refl _, rfl⟩
        refine lx_e (.bool false) [(0, 81)] (by kernel_rfl) rfl (by rfl) (fun w1 hw1 => ?_) ?_
        · simp only [pk, nthSp, lexVals]
          go_simp
          exact ⟨Ext.refl _, rfl⟩
        refine lx_no [(0, 82)] 82 (by kernel_rfl) rfl (by kernel_rfl) (by rfl) (fun w1 => ?_) ?_
        · simp only [pk, nthSp, lexVals]
          first | (go_simp; done) | (go_simp; exact fun h => by cases h)
        refine lx_no [(0, 83), (1, 82)] 82 (by kernel_rfl) rfl (by kernel_rfl) (by rfl) (fun w1 => ?_) ?_
        · simp only [pk, nthSp, lexVals]
          first | (go_simp; done) | (go_simp; exact fun h => by cases h)
        refine lx_no [(0, 84), (2, 82)] 82 (by kernel_rfl) rfl (by kernel_rfl) (by rfl) (fun w1 => ?_) ?_
        · simp only [pk, nthSp, lexVals]
          first | (go_simp; done) | (go_simp; exact fun h => by cases h)
        refine lx_no [(3, 82)] 82 (by kernel_rfl) rfl (by kernel_rfl) (by rfl) (fun w1 => ?_) ?_
        · simp only [pk, nthSp, lexVals]
          first | (go_simp; done) | (go_simp; exact fun h => by cases h)
        refine lx_no [(0, 86), (4, 82)] 82 (by kernel_rfl) rfl (by kernel_rfl) (by rfl) (fun w1 => ?_) ?_
        · simp only [pk, nthSp, lexVals]
          first | (go_simp; done) | (go_simp; exact fun h => by cases h)
        refine lx_no [(0, 87), (5, 82)] 82 (by kernel_rfl) rfl (by kernel_rfl) (by rfl) (fun w1 => ?_) ?_
        · simp only [pk, nthSp, lexVals]
          first | (go_simp; done) | (go_simp; exact fun h => by cases h)
        refine lx_no [(3, 85), (0, 88), (6, 82)] 82 (by kernel_rfl) rfl (by kernel_rfl) (by rfl) (fun w1 => ?_) ?_
        · simp only [pk, nthSp, lexVals]
          first | (go_simp; done) | (go_simp; exact fun h => by cases h)
        refine lx_e (.bool false) [(7, 82), (0, 89)] (by kernel_rfl) rfl (by rfl) (fun w1 hw1 => ?_) ?_
        · simp only [pk, nthSp, lexVals]
          go_simp
          exact ⟨Ext.refl _, rfl⟩
        refine lx_e (.bool false) [(0, 90)] (by kernel_rfl) rfl (by rfl) (fun w1 hw1 => ?_) ?_
        · simp only [pk, nthSp, lexVals]
          go_simp
          exact ⟨Ext.refl _, rfl⟩
        refine lx_stopA (by rfl) fun w7 hw7 => ?_
        have HE := Lib.hid (HE.out.trans (HX.out w7 hw7))
        clear hw7
        simp only [rv, pf, lexVals]
        simp only [Act.put, List.setIfInBounds_toArray, List.set_cons_zero, List.set_cons_succ]
        go_wp2
        go_ret
        exact ⟨by first | rfl | (simp; done) | (simp [h1]; done), HE0.out.trans HE.out⟩
      subst h1
      by_cases h2 : BS = AS + 1
      case neg =>
        have HY := Lib.hid (show (BS == AS + 1) = false by simpa using h2)
        have h2' := h2
        clear h2
        go_upto_region 12 with (fail)
        clear c0 c1 c126
        refine wp_region_lexA (by kernel_rfl) (by kernel_rfl) ?_
        refine lx_e (.bool true) [] (by kernel_rfl) rfl (by rfl) (fun w1 hw1 => ?_) ?_
        · simp only [pk, lexVals]
          go_simp
          exact ⟨Ext.refl _, rfl⟩
        refine lx_e (.bool true) [(0, 71)] (by kernel_rfl) rfl (by rfl) (fun w1 hw1 => ?_) ?_
        · simp only [pk, nthSp, lexVals]
          go_simp
          exact ⟨Ext.refl _, rfl⟩
        refine lx_ge (.pointer (some ⟨g + 1, 126, none⟩)) [(0, 72)] 72 (by kernel_rfl) rfl (by kernel_rfl) (by rfl) (fun w1 => ?_) (fun w1 hw1 => ?_) ?_
        · simp only [pk, nthSp, lexVals]
          rfl
        · simp only [pk, nthSp, lexVals]
          go_simp
          exact ⟨Ext.refl _, rfl⟩
        refine lx_ge (.pointer (some ⟨g + 1, 127, none⟩)) [(0, 73), (1, 72)] 72 (by kernel_rfl) rfl (by kernel_rfl) (by rfl) (fun w1 => ?_) (fun w1 hw1 => ?_) ?_
        · simp only [pk, nthSp, lexVals]
          rfl
        · simp only [pk, nthSp, lexVals]
          go_simp
          exact ⟨Ext.refl _, rfl⟩
        refine lx_ge (.int .u64 BS) [(0, 74), (2, 72)] 72 (by kernel_rfl) rfl (by kernel_rfl) (by rfl) (fun w1 => ?_) (fun w1 hw1 => ?_) ?_
        · simp only [pk, nthSp, lexVals]
          rfl
        · simp only [pk, nthSp, lexVals]
          have hc := C127.out w1 (HX.out w1 hw1)
          clear hw1
          go_simp
          exact ⟨Ext.refl _, rfl⟩
        refine lx_ge (.pointer (some ⟨g + 1, 1, none⟩)) [(3, 72)] 72 (by kernel_rfl) rfl (by kernel_rfl) (by rfl) (fun w1 => ?_) (fun w1 hw1 => ?_) ?_
        · simp only [pk, nthSp, lexVals]
          rfl
        · simp only [pk, nthSp, lexVals]
          go_simp
          exact ⟨Ext.refl _, rfl⟩
        refine lx_ge (.pointer (some ⟨g + 1, 2, none⟩)) [(0, 76), (4, 72)] 72 (by kernel_rfl) rfl (by kernel_rfl) (by rfl) (fun w1 => ?_) (fun w1 hw1 => ?_) ?_
        · simp only [pk, nthSp, lexVals]
          rfl
        · simp only [pk, nthSp, lexVals]
          go_simp
          exact ⟨Ext.refl _, rfl⟩
        refine lx_ge (.int .u64 AS) [(0, 77), (5, 72)] 72 (by kernel_rfl) rfl (by kernel_rfl) (by rfl) (fun w1 => ?_) (fun w1 hw1 => ?_) ?_
        · simp only [pk, nthSp, lexVals]
          rfl
        · simp only [pk, nthSp, lexVals]
          have hc := C2.out w1 (HX.out w1 hw1)
          clear hw1
          go_simp
          exact ⟨Ext.refl _, rfl⟩
        refine lx_ge (.int .u64 (AS + 1)) [(0, 78), (6, 72)] 72 (by kernel_rfl) rfl (by kernel_rfl) (by rfl) (fun w1 => ?_) (fun w1 hw1 => ?_) ?_
        · simp only [pk, nthSp, lexVals]
          rfl
        · simp only [pk, nthSp, lexVals]
          have hb := HBd.out
          go_simp
          exact ⟨Ext.refl _, by first | rfl | (show Value.int .u64 _ = Value.int .u64 _; congr 1; first | omega | (rw [IntKind.wrap_u64]; omega))⟩
        refine lx_ge (.bool false) [(4, 75), (0, 79), (7, 72)] 72 (by kernel_rfl) rfl (by kernel_rfl) (by rfl) (fun w1 => ?_) (fun w1 hw1 => ?_) ?_
        · simp only [pk, nthSp, lexVals]
          rfl
        · simp only [pk, nthSp, lexVals]
          have hy := HY.out
          go_simp
          exact ⟨Ext.refl _, by first | rfl | (rw [hy]) | (simp [hy])⟩
        refine lx_e (.bool false) [(8, 72), (0, 80)] (by kernel_rfl) rfl (by rfl) (fun w1 hw1 => ?_) ?_
        · simp only [pk, nthSp, lexVals]
          go_simp
          exact ⟨Ext.refl _, rfl⟩
        refine lx_e (.bool false) [(0, 81)] (by kernel_rfl) rfl (by rfl) (fun w1 hw1 => ?_) ?_
        · simp only [pk, nthSp, lexVals]
          go_simp
          exact ⟨Ext.refl _, rfl⟩
        refine lx_no [(0, 82)] 82 (by kernel_rfl) rfl (by kernel_rfl) (by rfl) (fun w1 => ?_) ?_
        · simp only [pk, nthSp, lexVals]
          first | (go_simp; done) | (go_simp; exact fun h => by cases h)
        refine lx_no [(0, 83), (1, 82)] 82 (by kernel_rfl) rfl (by kernel_rfl) (by rfl) (fun w1 => ?_) ?_
        · simp only [pk, nthSp, lexVals]
          first | (go_simp; done) | (go_simp; exact fun h => by cases h)
        refine lx_no [(0, 84), (2, 82)] 82 (by kernel_rfl) rfl (by kernel_rfl) (by rfl) (fun w1 => ?_) ?_
        · simp only [pk, nthSp, lexVals]
          first | (go_simp; done) | (go_simp; exact fun h => by cases h)
        refine lx_no [(3, 82)] 82 (by kernel_rfl) rfl (by kernel_rfl) (by rfl) (fun w1 => ?_) ?_
        · simp only [pk, nthSp, lexVals]
          first | (go_simp; done) | (go_simp; exact fun h => by cases h)
        refine lx_no [(0, 86), (4, 82)] 82 (by kernel_rfl) rfl (by kernel_rfl) (by rfl) (fun w1 => ?_) ?_
        · simp only [pk, nthSp, lexVals]
          first | (go_simp; done) | (go_simp; exact fun h => by cases h)
        refine lx_no [(0, 87), (5, 82)] 82 (by kernel_rfl) rfl (by kernel_rfl) (by rfl) (fun w1 => ?_) ?_
        · simp only [pk, nthSp, lexVals]
          first | (go_simp; done) | (go_simp; exact fun h => by cases h)
        refine lx_no [(3, 85), (0, 88), (6, 82)] 82 (by kernel_rfl) rfl (by kernel_rfl) (by rfl) (fun w1 => ?_) ?_
        · simp only [pk, nthSp, lexVals]
          first | (go_simp; done) | (go_simp; exact fun h => by cases h)
        refine lx_e (.bool false) [(7, 82), (0, 89)] (by kernel_rfl) rfl (by rfl) (fun w1 hw1 => ?_) ?_
        · simp only [pk, nthSp, lexVals]
          go_simp
          exact ⟨Ext.refl _, rfl⟩
        refine lx_e (.bool false) [(0, 90)] (by kernel_rfl) rfl (by rfl) (fun w1 hw1 => ?_) ?_
        · simp only [pk, nthSp, lexVals]
          go_simp
          exact ⟨Ext.refl _, rfl⟩
        refine lx_stopA (by rfl) fun w7 hw7 => ?_
        have HE := Lib.hid (HE.out.trans (HX.out w7 hw7))
        clear hw7
        simp only [rv, pf, lexVals]
        simp only [Act.put, List.setIfInBounds_toArray, List.set_cons_zero, List.set_cons_succ]
        have h2 := h2'

        go_wp2
        go_ret
        exact ⟨by first | rfl | (simp; done) | (simp [h2]; done), HE0.out.trans HE.out⟩
      have HY := Lib.hid (show (BS == AS + 1) = true by simpa using h2)
      have h2 := Lib.hid h2
      go_upto_region 12 with (fail)
      clear c0 c1 c126
      refine wp_region_lexA (by kernel_rfl) (by kernel_rfl) ?_
      refine lx_e (.bool true) [] (by kernel_rfl) rfl (by rfl) (fun w1 hw1 => ?_) ?_
      · simp only [pk, lexVals]
        go_simp
        exact ⟨Ext.refl _, rfl⟩
      refine lx_e (.bool true) [(0, 71)] (by kernel_rfl) rfl (by rfl) (fun w1 hw1 => ?_) ?_
      · simp only [pk, nthSp, lexVals]
        go_simp
        exact ⟨Ext.refl _, rfl⟩
      refine lx_ge (.pointer (some ⟨g + 1, 126, none⟩)) [(0, 72)] 72 (by kernel_rfl) rfl (by kernel_rfl) (by rfl) (fun w1 => ?_) (fun w1 hw1 => ?_) ?_
      · simp only [pk, nthSp, lexVals]
        rfl
      · simp only [pk, nthSp, lexVals]
        go_simp
        exact ⟨Ext.refl _, rfl⟩
      refine lx_ge (.pointer (some ⟨g + 1, 127, none⟩)) [(0, 73), (1, 72)] 72 (by kernel_rfl) rfl (by kernel_rfl) (by rfl) (fun w1 => ?_) (fun w1 hw1 => ?_) ?_
      · simp only [pk, nthSp, lexVals]
        rfl
      · simp only [pk, nthSp, lexVals]
        go_simp
        exact ⟨Ext.refl _, rfl⟩
      refine lx_ge (.int .u64 BS) [(0, 74), (2, 72)] 72 (by kernel_rfl) rfl (by kernel_rfl) (by rfl) (fun w1 => ?_) (fun w1 hw1 => ?_) ?_
      · simp only [pk, nthSp, lexVals]
        rfl
      · simp only [pk, nthSp, lexVals]
        have hc := C127.out w1 (HX.out w1 hw1)
        clear hw1
        go_simp
        exact ⟨Ext.refl _, rfl⟩
      refine lx_ge (.pointer (some ⟨g + 1, 1, none⟩)) [(3, 72)] 72 (by kernel_rfl) rfl (by kernel_rfl) (by rfl) (fun w1 => ?_) (fun w1 hw1 => ?_) ?_
      · simp only [pk, nthSp, lexVals]
        rfl
      · simp only [pk, nthSp, lexVals]
        go_simp
        exact ⟨Ext.refl _, rfl⟩
      refine lx_ge (.pointer (some ⟨g + 1, 2, none⟩)) [(0, 76), (4, 72)] 72 (by kernel_rfl) rfl (by kernel_rfl) (by rfl) (fun w1 => ?_) (fun w1 hw1 => ?_) ?_
      · simp only [pk, nthSp, lexVals]
        rfl
      · simp only [pk, nthSp, lexVals]
        go_simp
        exact ⟨Ext.refl _, rfl⟩
      refine lx_ge (.int .u64 AS) [(0, 77), (5, 72)] 72 (by kernel_rfl) rfl (by kernel_rfl) (by rfl) (fun w1 => ?_) (fun w1 hw1 => ?_) ?_
      · simp only [pk, nthSp, lexVals]
        rfl
      · simp only [pk, nthSp, lexVals]
        have hc := C2.out w1 (HX.out w1 hw1)
        clear hw1
        go_simp
        exact ⟨Ext.refl _, rfl⟩
      refine lx_ge (.int .u64 (AS + 1)) [(0, 78), (6, 72)] 72 (by kernel_rfl) rfl (by kernel_rfl) (by rfl) (fun w1 => ?_) (fun w1 hw1 => ?_) ?_
      · simp only [pk, nthSp, lexVals]
        rfl
      · simp only [pk, nthSp, lexVals]
        have hb := HBd.out
        go_simp
        exact ⟨Ext.refl _, by first | rfl | (show Value.int .u64 _ = Value.int .u64 _; congr 1; first | omega | (rw [IntKind.wrap_u64]; omega))⟩
      refine lx_ge (.bool true) [(4, 75), (0, 79), (7, 72)] 72 (by kernel_rfl) rfl (by kernel_rfl) (by rfl) (fun w1 => ?_) (fun w1 hw1 => ?_) ?_
      · simp only [pk, nthSp, lexVals]
        rfl
      · simp only [pk, nthSp, lexVals]
        have hy := HY.out
        go_simp
        exact ⟨Ext.refl _, by first | rfl | (rw [hy]) | (simp [hy])⟩
      refine lx_e (.bool true) [(8, 72), (0, 80)] (by kernel_rfl) rfl (by rfl) (fun w1 hw1 => ?_) ?_
      · simp only [pk, nthSp, lexVals]
        go_simp
        exact ⟨Ext.refl _, rfl⟩
      refine lx_e (.bool true) [(0, 81)] (by kernel_rfl) rfl (by rfl) (fun w1 hw1 => ?_) ?_
      · simp only [pk, nthSp, lexVals]
        go_simp
        exact ⟨Ext.refl _, rfl⟩
      refine lx_ge (.pointer (some ⟨g + 1, 126, none⟩)) [(0, 82)] 82 (by kernel_rfl) rfl (by kernel_rfl) (by rfl) (fun w1 => ?_) (fun w1 hw1 => ?_) ?_
      · simp only [pk, nthSp, lexVals]
        rfl
      · simp only [pk, nthSp, lexVals]
        go_simp
        exact ⟨Ext.refl _, rfl⟩
      refine lx_ge (.pointer (some ⟨g + 1, 128, none⟩)) [(0, 83), (1, 82)] 82 (by kernel_rfl) rfl (by kernel_rfl) (by rfl) (fun w1 => ?_) (fun w1 hw1 => ?_) ?_
      · simp only [pk, nthSp, lexVals]
        rfl
      · simp only [pk, nthSp, lexVals]
        go_simp
        exact ⟨Ext.refl _, rfl⟩
      refine lx_ge (.agg (rowArr 32 fun j => .int .u8 (b.1.prev j))) [(0, 84), (2, 82)] 82 (by kernel_rfl) rfl (by kernel_rfl) (by rfl) (fun w1 => ?_) (fun w1 hw1 => ?_) ?_
      · simp only [pk, nthSp, lexVals]
        rfl
      · simp only [pk, nthSp, lexVals]
        exact lu_sub rfl rfl Tryd.underlying23 (size_h32 _) (CP.out w1 (HX.out w1 hw1))
      refine lx_ge (.pointer (some ⟨g + 1, 1, none⟩)) [(3, 82)] 82 (by kernel_rfl) rfl (by kernel_rfl) (by rfl) (fun w1 => ?_) (fun w1 hw1 => ?_) ?_
      · simp only [pk, nthSp, lexVals]
        rfl
      · simp only [pk, nthSp, lexVals]
        go_simp
        exact ⟨Ext.refl _, rfl⟩
      refine lx_ge (.agg (hdV a.1)) [(0, 86), (4, 82)] 82 (by kernel_rfl) rfl (by kernel_rfl) (by rfl) (fun w1 => ?_) (fun w1 hw1 => ?_) ?_
      · simp only [pk, nthSp, lexVals]
        rfl
      · simp only [pk, nthSp, lexVals]
        exact lu_hmid2 rfl rfl (pr_ra' ((HX.out w1 hw1).keep HB3.out))
      refine lx_ge (.agg (rowArr 32 fun j => .int .u8 (T j))) [(0, 87), (5, 82)] 82 (by kernel_rfl) rfl (by kernel_rfl) (by rfl) (fun w1 => ?_) (fun w1 hw1 => ?_) ?_
      · simp only [pk, nthSp, lexVals]
        rfl
      · simp only [pk, nthSp, lexVals]
        have hm := HHs.out w1 (HE.out.trans (HX.out w1 hw1))
        have HM := Lib.hid hm
        clear hm hw1
        go_simp
        refine HM.out.mono ?_
        rintro e w2 ⟨rfl, hE2⟩
        exact ⟨_, rfl, hE2, rfl⟩
      refine lx_ge (.bool (!arrB 32 b.1.prev T)) [(3, 85), (0, 88), (6, 82)] 82 (by kernel_rfl) rfl (by kernel_rfl) (by rfl) (fun w1 => ?_) (fun w1 hw1 => ?_) ?_
      · simp only [pk, nthSp, lexVals]
        rfl
      · simp only [pk, nthSp, lexVals]
        have hn := HNe.out
        clear hw1
        go_simp
        exact ⟨Ext.refl _, rfl⟩
      refine lx_e (.bool (!arrB 32 b.1.prev T)) [(7, 82), (0, 89)] (by kernel_rfl) rfl (by rfl) (fun w1 hw1 => ?_) ?_
      · simp only [pk, nthSp, lexVals]
        go_simp
        exact ⟨Ext.refl _, rfl⟩
      refine lx_e (.bool (!arrB 32 b.1.prev T)) [(0, 90)] (by kernel_rfl) rfl (by rfl) (fun w1 hw1 => ?_) ?_
      · simp only [pk, nthSp, lexVals]
        go_simp
        exact ⟨Ext.refl _, rfl⟩
      refine lx_stopA (by rfl) fun w7 hw7 => ?_
      have HE := Lib.hid (HE.out.trans (HX.out w7 hw7))
      clear hw7
      simp only [rv, pf, lexVals]
      simp only [Act.put, List.setIfInBounds_toArray, List.set_cons_zero, List.set_cons_succ]
      have HB7 := Lib.hid (HE.out.keep HB2.out)
      clear HB3 HNe
      obtain ⟨SB, hSB⟩ : ∃ x, arrB 32 b.1.prev T = x := ⟨_, rfl⟩
      rw [hSB]
      have HSBe := Lib.hid hSB
      clear hSB
      cases SB with
      | true =>
        go_wp2
        go_ret
        exact ⟨by first | rfl | (simp; done) | (simp [HSBe.out]; done), HE0.out.trans HE.out⟩
      | false =>
        go_wp2_with (first | (refine wpList_load_rowW rfl 26 _ rfl g rfl _ _ _ _ (HE.out.keep HR2.out) Tryd.underlying26 rfl (by rw [Hsr.out]; kernel_rfl) ?_) | (refine wp_hmid rfl _ rfl (g + 1) 1 a.1 rfl (pr_ra' (HE.out.keep HB2.out)) ?_) | (refine wp_hmid rfl _ rfl (g + 1) 126 b.1 rfl (pr_rb' (HE.out.keep HB2.out)) ?_))
        refine (HRa.out w7 HE.out).mono ?_
        rintro e w8 ⟨rfl, hE⟩
        have HE := Lib.hid (HE.out.trans hE)
        clear hE
        cases RA with
        | false =>
          go_wp2
          go_ret
          exact ⟨by first | rfl | (simp; done) | (simp [HSBe.out]; done), HE0.out.trans HE.out⟩
        | true =>
          go_wp2_with (first | (refine wpList_load_rowW rfl 26 _ rfl g rfl _ _ _ _ (HE.out.keep HR2.out) Tryd.underlying26 rfl (by rw [Hsr.out]; kernel_rfl) ?_) | (refine wp_hmid rfl _ rfl (g + 1) 1 a.1 rfl (pr_ra' (HE.out.keep HB2.out)) ?_) | (refine wp_hmid rfl _ rfl (g + 1) 126 b.1 rfl (pr_rb' (HE.out.keep HB2.out)) ?_))
          refine (HRb.out w8 HE.out).mono ?_
          rintro e w9 ⟨rfl, hE⟩
          have HE := Lib.hid (HE.out.trans hE)
          clear hE
          go_wp2
          go_ret
          exact ⟨by first | rfl | (simp; done) | (simp [HSBe.out]; done), HE0.out.trans HE.out⟩
    · rw [chk_3 hf rfl]
      clear hf
      go_enter Tryd.func10, Tryd.ntmps10
      go_upto_region 1 with (fail)
      refine wp_world (w' := w2) Hw2.out ?_
      rw [Hg.out]
      clear Hw2
      go_wp2_with (refine wpList_load_rowW rfl 35 _ rfl (g + 1) rfl _ _ _ _ HBP.out Tryd.underlying35 rfl (by rw [Hsp.out]; kernel_rfl) ?_)
      refine HFo.out.mono ?_
      rintro e w3 ⟨rfl, hE⟩
      have HE := Lib.hid hE
      clear hE HFo
      have c0 := C0.out w3 HE.out
      have c1 := C1.out w3 HE.out
      have c126 := C126.out w3 HE.out
      by_cases h1 : a.1.writer = b.1.writer
      all_goals
        go_wp2
        go_ret
        exact ⟨by first | rfl | (simp; done), HE0.out.trans HE.out⟩
    · rw [chk_4 hf rfl]
      clear hf
      dsimp only
      obtain ⟨RA, hRA⟩ : ∃ x, rightO R (keyO r a.1) a.1 a.2 = x := ⟨_, rfl⟩
      obtain ⟨RB, hRB⟩ : ∃ x, rightO R (keyO r b.1) b.1 b.2 = x := ⟨_, rfl⟩
      rw [hRA] at hRa ⊢
      rw [hRB] at hRb
      have HRa := Lib.hid hRa
      have HRb := Lib.hid hRb
      clear hRa hRb hRA hRB
      obtain ⟨CT, hCT⟩ : ∃ x, a.1.ctl = x := ⟨_, rfl⟩
      rw [hCT] at C36 ⊢
      clear hCT
      go_enter Tryd.func10, Tryd.ntmps10
      go_upto_region 1 with (fail)
      refine wp_world (w' := w2) Hw2.out ?_
      rw [Hg.out]
      clear Hw2
      go_wp2_with (refine wpList_load_rowW rfl 35 _ rfl (g + 1) rfl _ _ _ _ HBP.out Tryd.underlying35 rfl (by rw [Hsp.out]; kernel_rfl) ?_)
      refine HFo.out.mono ?_
      rintro e w3 ⟨rfl, hE⟩
      have HE := Lib.hid hE
      clear hE HFo
      have c0 := C0.out w3 HE.out
      have c1 := C1.out w3 HE.out
      have c126 := C126.out w3 HE.out
      go_wp2_with (first | (refine wpList_load_rowW rfl 26 _ rfl g rfl _ _ _ _ (HE.out.keep HR2.out) Tryd.underlying26 rfl (by rw [Hsr.out]; kernel_rfl) ?_) | (refine wp_hmid rfl _ rfl (g + 1) 1 a.1 rfl (pr_ra' (HE.out.keep HB2.out)) ?_) | (refine wp_hmid rfl _ rfl (g + 1) 126 b.1 rfl (pr_rb' (HE.out.keep HB2.out)) ?_))
      refine (HRa.out w3 HE.out).mono ?_
      rintro e w4 ⟨rfl, hE⟩
      clear c0 c1 c126
      have HE := Lib.hid (HE.out.trans hE)
      clear hE
      cases RA with
      | false =>
        go_wp2
        go_ret
        exact ⟨by first | rfl | (simp; done), HE0.out.trans HE.out⟩
      | true =>
        have c36 := C36.out w4 HE.out
        cases CT with
        | true =>
          go_wp2
          go_ret
          exact ⟨by first | rfl | (simp; done), HE0.out.trans HE.out⟩
        | false =>
          have c254 := C254.out w4 HE.out
          have c54 := C54.out w4 HE.out
          by_cases h0 : wn = 0
          · subst h0
            clear c54
            go_wp2
            go_ret
            exact ⟨by first | rfl | (simp; done), HE0.out.trans HE.out⟩
          · have h1 : ¬ (wn : Int) = 0 := by omega
            have y1 : ((wn : Int) == 0) = false := by simpa using h0
            go_wp2_with fail
            refine (HMe.out w4 HE.out).mono ?_
            rintro e w5 ⟨rfl, hE⟩
            clear c36 c254 c54
            have HE := Lib.hid (HE.out.trans hE)
            clear hE
            go_wp2
            go_ret
            exact ⟨by first | rfl | (simp; done) | (simp [h0]; done), HE0.out.trans HE.out⟩

end Go.Proofs.YtpiebfhcfkncoaaDoor
