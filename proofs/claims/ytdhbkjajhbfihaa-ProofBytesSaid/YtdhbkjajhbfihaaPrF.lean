/-
  The walks of proof.blank and proof.formed. No conditions.
-/
import Derived.Test.YtdhbkjajhbfihaaPr
import Derived.Test.YtdhbkjajhbfihaaHdF
import Derived.Deep.DeepCutAuto
namespace Go.Proofs.Ytdhbkjajhbfihaa
open Go.ChangeShapes Go.WideShapes Go.ChangeAt Go.RowKit

theorem wp_hmid {ops : Array Oper} {Q : Exit → Act → World → Prop} {rest : List Oper} {o : Oper} {a : Act} {w : World} (hw : Region.wanted o (yielded ops a.tmps) = true) (x : Operand) (ho : o.op = .load 30 x)
    (b off : Nat) (h : Hd) (hx : a.eval x = .pointer (some ⟨b, off, none⟩)) (hr : w.rangeAt b off (hdL h)) (k : wpList Try.prog ops Q rest (a.put o.dst (.agg (hdV h))) w) : wpList Try.prog ops Q (o :: rest) a w := by
  refine wpList_want hw fun K hK => ?_
  unfold Oper.wp execOp
  simp only [ho, hx, Instr.loadAt, Instr.sureAddr, Sem.run_bind, Sem.run_pure, Result.andThen_ok, run_loadVar_mid w b off 30 (hdL h) _ hr Try.underlying30 rfl (by rw [hdL_length]; exact info_hd125)]
  exact hK _ _ k

section
variable {w : World} {g : Nat} {T : TypeId} {fr : Nat × Nat} {K W F H : Int} {a b : HT} {wa : Option Addr} {wn wc : Nat} {ws : List (Nat → Int)} (hb : w.heap[g]? = some (.cells (prV ⟨K, a, b, W, F, H, wa, wn, wc, ws⟩) T fr))
include hb
theorem pr_kind' : w.cell? ⟨g, 0, none⟩ = some (.int .i64 K) := pr_kind hb
theorem pr_writer' : w.cell? ⟨g, 251, none⟩ = some (.int .i64 W) := pr_writer hb
theorem pr_floor' : w.cell? ⟨g, 252, none⟩ = some (.int .u64 F) := pr_floor hb
theorem pr_head' : w.cell? ⟨g, 253, none⟩ = some (.int .u64 H) := pr_head hb
theorem pr_toks' : w.cell? ⟨g, 254, none⟩ = some (.slice wa wn wc) := pr_toks hb
theorem pr_ra' : w.rangeAt g 1 (hdL a.1) := pr_ra hb
theorem pr_rb' : w.rangeAt g 126 (hdL b.1) := pr_rb hb
end

set_option maxRecDepth 100000 in
theorem zero_hdN (w : World) : (zeroValue 30).run Try.prog w = .ok (.agg (hdV hdN)) w := by kernel_rfl

set_option maxHeartbeats 1000000 in
set_option maxRecDepth 100000 in
theorem prBlank_any (h : Hd) (ts : List (Nat → Int)) (w : World) (ht : TsAt w h.ta h.tn h.tc ts) :
    Calls Try.prog 31 #[.agg (hdV h)] w fun e w' => e = .returned (.bool (blkB h)) ∧ Ext w w' := by
  obtain ⟨w2, hw2⟩ : ∃ w2, w.alloc (.cells (hdV h) 30) = w2 := ⟨_, rfl⟩
  have hE2 : Ext w w2 := by rw [← hw2]; exact (Ext.refl w).alloc _
  have hB2 : w2.heap[w.heap.size]? = some (.cells (hdV h) 30 (0, 0)) := by rw [← hw2]; exact heap_new w _ _ rfl
  have Hw2 := Lib.hid hw2
  have HE2 := Lib.hid hE2
  have HS := Lib.hid (show Calls Try.prog 29 #[.agg (hdV h), .agg (hdV hdN)] w2 fun e w' => e = .returned (.bool (blkB h)) ∧ Ext w2 w' from by
    have h1 := sameHd_any h hdN ts [] w2 (ht.ext hE2) (htN_at w2).toks
    rw [blkB_same ht.len] at h1
    exact h1)
  obtain ⟨g, hg⟩ : ∃ g, w.heap.size = g := ⟨_, rfl⟩
  rw [hg] at hB2
  have Hg := Lib.hid hg
  have HB2 := Lib.hid hB2
  have Hsz := Lib.hid (hdV_size h)
  have hbu := zero_hdN
  obtain ⟨A, hA⟩ : ∃ A, hdV h = A := ⟨_, rfl⟩
  obtain ⟨Z, hZ⟩ : ∃ Z, hdV hdN = Z := ⟨_, rfl⟩
  rw [hA] at HB2 Hsz Hw2 HS ⊢
  rw [hZ] at HS hbu
  clear hw2 hE2 hB2 hg ht hA hZ
  go_enter Try.func31, Try.ntmps31
  go_upto_region 1 with (fail)
  refine wp_world (w' := w2) Hw2.out ?_
  rw [Hg.out]
  clear Hw2
  go_wp2_with (refine wpList_load_rowW rfl 30 _ rfl g rfl _ _ _ _ HB2.out Try.underlying30 rfl (by rw [Hsz.out]; kernel_rfl) ?_)
  refine HS.out.mono ?_
  rintro e w3 ⟨rfl, hE⟩
  have HE3 := Lib.hid (HE2.out.trans hE)
  clear hE
  go_wp2
  go_ret
  exact ⟨rfl, HE3.out⟩

/-- What no proof may have beside its kind. -/
def prBad (K W F H : Int) (wn : Nat) : Bool := (!decide (K = 3) && !(decide (W = 0) && (decide (F = 0) && decide (H = 0)))) || (!decide (K = 4) && !decide (wn = 0))
theorem prB_bad {K W F H : Int} {a b : HT} {wa : Option Addr} {wn wc : Nat} {ws : List (Nat → Int)} (h : prBad K W F H wn = true) : prB ⟨K, a, b, W, F, H, wa, wn, wc, ws⟩ = false := by
  unfold prBad at h
  unfold prB noneB
  simp only [Bool.or_eq_true, Bool.and_eq_true, Bool.not_eq_true', decide_eq_false_iff_not, Bool.and_eq_false_iff] at h
  by_cases k3 : K = 3
  · subst k3
    rcases h with h | h
    · exact absurd rfl h.1
    · simp (config := { decide := true }) [h.2]
  · by_cases k4 : K = 4
    · subst k4
      rcases h with h | h
      · rcases h.2 with q | q | q <;> simp (config := { decide := true }) [q]
      · exact absurd rfl h.1
    · rw [if_neg k3]
      by_cases k12 : K = 1 ∨ K = 2
      · rw [if_pos k12]
        rcases h with h | h
        · rcases h.2 with q | q | q <;> simp (config := { decide := true }) [q]
        · simp (config := { decide := true }) [h.2]
      · rw [if_neg k12, decide_eq_false k4]
        simp

set_option maxHeartbeats 16000000 in
set_option maxRecDepth 100000 in
theorem prFormed_any (p : Pr) (w : World) (hp : PrAt w p) :
    Calls Try.prog 12 #[.agg (prV p)] w fun e w' => e = .returned (.bool (prB p)) ∧ Ext w w' := by
  obtain ⟨K, a, b, W, F, H, wa, wn, wc, ws⟩ := p
  obtain ⟨w2, hw2⟩ : ∃ w2, w.alloc (.cells (prV ⟨K, a, b, W, F, H, wa, wn, wc, ws⟩) 32) = w2 := ⟨_, rfl⟩
  have hE2 : Ext w w2 := by rw [← hw2]; exact (Ext.refl w).alloc _
  have hB2 : w2.heap[w.heap.size]? = some (.cells (prV ⟨K, a, b, W, F, H, wa, wn, wc, ws⟩) 32 (0, 0)) := by rw [← hw2]; exact heap_new w _ _ rfl
  obtain ⟨g, hg⟩ : ∃ g, w.heap.size = g := ⟨_, rfl⟩
  rw [hg] at hB2
  have Hg := Lib.hid hg
  have Hw2 := Lib.hid hw2
  have HE := Lib.hid hE2
  have HB := Lib.hid hB2
  have hsm : wn ≤ 140737488355328 := hp.toks.small
  have HFa := Lib.hid (fun w9 (h9 : Ext w w9) => formedHd_any a.1 a.2 w9 hp.a.ok (hp.a.toks.ext h9))
  have HFb := Lib.hid (fun w9 (h9 : Ext w w9) => formedHd_any b.1 b.2 w9 hp.b.ok (hp.b.toks.ext h9))
  have HBa := Lib.hid (fun w9 (h9 : Ext w w9) => prBlank_any a.1 a.2 w9 (hp.a.toks.ext h9))
  have HBb := Lib.hid (fun w9 (h9 : Ext w w9) => prBlank_any b.1 b.2 w9 (hp.b.toks.ext h9))
  have HSr := Lib.hid (fun w9 (h9 : Ext w w9) => sorted_any wa wn wc ws w9 (hp.toks.ext h9))
  clear hw2 hE2 hB2 hg hp
  obtain ⟨R, hR⟩ : ∃ R, prB ⟨K, a, b, W, F, H, wa, wn, wc, ws⟩ = R := ⟨_, rfl⟩
  rw [hR]
  obtain ⟨FA, FAe⟩ : ∃ x, hdB a.1 a.2 = x := ⟨_, rfl⟩
  obtain ⟨FB, FBe⟩ : ∃ x, hdB b.1 b.2 = x := ⟨_, rfl⟩
  obtain ⟨BA, BAe⟩ : ∃ x, blkB a.1 = x := ⟨_, rfl⟩
  obtain ⟨BB, BBe⟩ : ∃ x, blkB b.1 = x := ⟨_, rfl⟩
  obtain ⟨SR, SRe⟩ : ∃ x, risesB ws = x := ⟨_, rfl⟩
  rw [FAe] at HFa
  rw [FBe] at HFb
  rw [BAe] at HBa
  rw [BBe] at HBb
  rw [SRe] at HSr
  have FAh := Lib.hid FAe
  have FBh := Lib.hid FBe
  have BAh := Lib.hid BAe
  have BBh := Lib.hid BBe
  have SRh := Lib.hid SRe
  have HRr := Lib.hid hR
  clear FAe FBe BAe BBe SRe
  have hbad : prBad K W F H wn = true → R = false := fun h => by
    rw [← hR]
    exact prB_bad h
  have Hbad := Lib.hid hbad
  obtain ⟨BD, hBD⟩ : ∃ x, prBad K W F H wn = x := ⟨_, rfl⟩
  clear hbad
  go_enter Try.func12, Try.ntmps12
  go_upto_region 1 with (fail)
  refine wp_world (w' := w2) Hw2.out ?_
  rw [Hg.out]
  clear Hw2
  go_cut [31] (fun v wc => v = .bool BD ∧ wc = w2)
  case first =>
    clear Hbad hR
    unfold prBad at hBD
    by_cases k3 : K = 3
    · subst k3
      by_cases nw : wn = 0
      case neg =>
        have mw : (0 : Int) < (wn : Int) := by omega
        have mw2 : decide (0 < wn) = true := decide_eq_true (by omega)
        have HX := Lib.hid (show BD = true from by
          rw [← hBD]
          clear hBD
          simp (config := { decide := true }) [*])
        clear hBD
        have c0 := pr_kind' HB.out
        have c251 := pr_writer' HB.out
        have c252 := pr_floor' HB.out
        have c253 := pr_head' HB.out
        have c254 := pr_toks' HB.out
        go_wp2
        go_meet
        case rel => exact ⟨by first | (rw [HX.out]; done) | (rw [HX.out, mw2]), by first | rfl | trivial⟩
      subst nw
      have HX := Lib.hid (show BD = false from by
        rw [← hBD]
        clear hBD
        simp (config := { decide := true }) [*])
      clear hBD
      have c0 := pr_kind' HB.out
      have c251 := pr_writer' HB.out
      have c252 := pr_floor' HB.out
      have c253 := pr_head' HB.out
      have c254 := pr_toks' HB.out
      go_wp2
      go_meet
      case rel => exact ⟨by first | (rw [HX.out]; done) | (rw [HX.out, mw2]), by first | rfl | trivial⟩
    have r3 : (K != 3) = true := bne_iff_ne.2 k3
    have q3 : (K == 3) = false := beq_eq_false_iff_ne.2 k3
    by_cases nW : W = 0
    case neg =>
      have mW : (W == 0) = false := beq_eq_false_iff_ne.2 nW
      have lW : (W != 0) = true := bne_iff_ne.2 nW
      have HX := Lib.hid (show BD = true from by
        rw [← hBD]
        clear hBD
        simp (config := { decide := true }) [*])
      clear hBD
      have c0 := pr_kind' HB.out
      have c251 := pr_writer' HB.out
      have c252 := pr_floor' HB.out
      have c253 := pr_head' HB.out
      have c254 := pr_toks' HB.out
      go_wp2
      go_meet
      case rel => exact ⟨by first | (rw [HX.out]; done) | (rw [HX.out, mw2]), by first | rfl | trivial⟩
    subst nW
    by_cases nF : F = 0
    case neg =>
      have mF : (F == 0) = false := beq_eq_false_iff_ne.2 nF
      have lF : (F != 0) = true := bne_iff_ne.2 nF
      have HX := Lib.hid (show BD = true from by
        rw [← hBD]
        clear hBD
        simp (config := { decide := true }) [*])
      clear hBD
      have c0 := pr_kind' HB.out
      have c251 := pr_writer' HB.out
      have c252 := pr_floor' HB.out
      have c253 := pr_head' HB.out
      have c254 := pr_toks' HB.out
      go_wp2
      go_meet
      case rel => exact ⟨by first | (rw [HX.out]; done) | (rw [HX.out, mw2]), by first | rfl | trivial⟩
    subst nF
    by_cases nH : H = 0
    case neg =>
      have mH : (H == 0) = false := beq_eq_false_iff_ne.2 nH
      have lH : (H != 0) = true := bne_iff_ne.2 nH
      have HX := Lib.hid (show BD = true from by
        rw [← hBD]
        clear hBD
        simp (config := { decide := true }) [*])
      clear hBD
      have c0 := pr_kind' HB.out
      have c251 := pr_writer' HB.out
      have c252 := pr_floor' HB.out
      have c253 := pr_head' HB.out
      have c254 := pr_toks' HB.out
      go_wp2
      go_meet
      case rel => exact ⟨by first | (rw [HX.out]; done) | (rw [HX.out, mw2]), by first | rfl | trivial⟩
    subst nH
    by_cases k4 : K = 4
    · subst k4
      have HX := Lib.hid (show BD = false from by
        rw [← hBD]
        clear hBD
        simp (config := { decide := true }) [*])
      clear hBD
      have c0 := pr_kind' HB.out
      have c251 := pr_writer' HB.out
      have c252 := pr_floor' HB.out
      have c253 := pr_head' HB.out
      have c254 := pr_toks' HB.out
      go_wp2
      go_meet
      case rel => exact ⟨by first | (rw [HX.out]; done) | (rw [HX.out, mw2]), by first | rfl | trivial⟩
    have r4 : (K != 4) = true := bne_iff_ne.2 k4
    have q4 : (K == 4) = false := beq_eq_false_iff_ne.2 k4
    by_cases nw : wn = 0
    case neg =>
      have mw : (0 : Int) < (wn : Int) := by omega
      have mw2 : decide (0 < wn) = true := decide_eq_true (by omega)
      have HX := Lib.hid (show BD = true from by
        rw [← hBD]
        clear hBD
        simp (config := { decide := true }) [*])
      clear hBD
      have c0 := pr_kind' HB.out
      have c251 := pr_writer' HB.out
      have c252 := pr_floor' HB.out
      have c253 := pr_head' HB.out
      have c254 := pr_toks' HB.out
      go_wp2
      go_meet
      case rel => exact ⟨by first | (rw [HX.out]; done) | (rw [HX.out, mw2]), by first | rfl | trivial⟩
    subst nw
    have HX := Lib.hid (show BD = false from by
      rw [← hBD]
      clear hBD
      simp (config := { decide := true }) [*])
    clear hBD
    have c0 := pr_kind' HB.out
    have c251 := pr_writer' HB.out
    have c252 := pr_floor' HB.out
    have c253 := pr_head' HB.out
    have c254 := pr_toks' HB.out
    go_wp2
    go_meet
    case rel => exact ⟨by first | (rw [HX.out]; done) | (rw [HX.out, mw2]), by first | rfl | trivial⟩
  case rest =>
  obtain ⟨rfl, hwc⟩ := hcut
  rw [hwc]
  clear hwc
  cases BD with
  | true =>
    have HV := Lib.hid (Hbad.out hBD)
    clear hR hBD
    go_wp2
    go_ret
    exact ⟨by rw [HV.out]; rfl, HE.out⟩
  | false =>
  clear Hbad hR
  unfold prBad at hBD
  by_cases k3 : K = 3
  · subst k3
    obtain rfl : wn = 0 := by simpa using hBD
    clear hBD
    have c0 := pr_kind' HB.out
    have c251 := pr_writer' HB.out
    have c252 := pr_floor' HB.out
    have c253 := pr_head' HB.out
    have c254 := pr_toks' HB.out
    go_wp2_with (first | (refine wp_hmid rfl _ rfl g 1 a.1 rfl (pr_ra' HB.out) ?_) | (refine wp_hmid rfl _ rfl g 126 b.1 rfl (pr_rb' HB.out) ?_))
    refine (HBa.out w2 HE.out).mono ?_
    rintro e w3 ⟨rfl, hE⟩
    have HE := Lib.hid (HE.out.trans hE)
    have HB := Lib.hid (hE.keep HB.out)
    clear hE c0 c251 c252 c253 c254
    have c0 := pr_kind' HB.out
    have c251 := pr_writer' HB.out
    have c252 := pr_floor' HB.out
    have c253 := pr_head' HB.out
    have c254 := pr_toks' HB.out
    cases BA with
    | false =>
      have HV := Lib.hid (show R = false from by
        have q1 := FAh.out
        have q2 := FBh.out
        have q3 := BAh.out
        have q4 := BBh.out
        have q5 := SRh.out
        rw [← HRr.out]
        unfold prB noneB
        simp (config := { decide := true }) [*])
      go_wp2
      go_ret
      exact ⟨by rw [HV.out]; rfl, HE.out⟩
    | true =>
      go_wp2_with (first | (refine wp_hmid rfl _ rfl g 1 a.1 rfl (pr_ra' HB.out) ?_) | (refine wp_hmid rfl _ rfl g 126 b.1 rfl (pr_rb' HB.out) ?_))
      refine (HBb.out w3 HE.out).mono ?_
      rintro e w4 ⟨rfl, hE⟩
      have HE := Lib.hid (HE.out.trans hE)
      have HB := Lib.hid (hE.keep HB.out)
      clear hE c0 c251 c252 c253 c254
      have c0 := pr_kind' HB.out
      have c251 := pr_writer' HB.out
      have c252 := pr_floor' HB.out
      have c253 := pr_head' HB.out
      have c254 := pr_toks' HB.out
      cases BB with
      | false =>
        have HV := Lib.hid (show R = false from by
          have q1 := FAh.out
          have q2 := FBh.out
          have q3 := BAh.out
          have q4 := BBh.out
          have q5 := SRh.out
          rw [← HRr.out]
          unfold prB noneB
          simp (config := { decide := true }) [*])
        go_wp2
        go_ret
        exact ⟨by rw [HV.out]; rfl, HE.out⟩
      | true =>
        by_cases a1 : 1 ≤ W
        case neg =>
          have d1 : decide (1 ≤ W) = false := decide_eq_false a1
          have HV := Lib.hid (show R = false from by
            have q1 := FAh.out
            have q2 := FBh.out
            have q3 := BAh.out
            have q4 := BBh.out
            have q5 := SRh.out
            rw [← HRr.out]
            unfold prB noneB
            simp (config := { decide := true }) [*])
          go_wp2
          go_ret
          exact ⟨by rw [HV.out]; rfl, HE.out⟩
        by_cases a2 : W ≤ 6
        case neg =>
          have d1 : decide (W ≤ 6) = false := decide_eq_false a2
          have HV := Lib.hid (show R = false from by
            have q1 := FAh.out
            have q2 := FBh.out
            have q3 := BAh.out
            have q4 := BBh.out
            have q5 := SRh.out
            rw [← HRr.out]
            unfold prB noneB
            simp (config := { decide := true }) [*])
          go_wp2
          go_ret
          exact ⟨by rw [HV.out]; rfl, HE.out⟩
        by_cases a3 : H < F
        case neg =>
          have d1 : decide (H < F) = false := decide_eq_false a3
          have HV := Lib.hid (show R = false from by
            have q1 := FAh.out
            have q2 := FBh.out
            have q3 := BAh.out
            have q4 := BBh.out
            have q5 := SRh.out
            rw [← HRr.out]
            unfold prB noneB
            simp (config := { decide := true }) [*])
          go_wp2
          go_ret
          exact ⟨by rw [HV.out]; rfl, HE.out⟩
        by_cases a4 : F ≤ 1048576
        case neg =>
          have d1 : decide (F ≤ 1048576) = false := decide_eq_false a4
          have HV := Lib.hid (show R = false from by
            have q1 := FAh.out
            have q2 := FBh.out
            have q3 := BAh.out
            have q4 := BBh.out
            have q5 := SRh.out
            rw [← HRr.out]
            unfold prB noneB
            simp (config := { decide := true }) [*])
          go_wp2
          go_ret
          exact ⟨by rw [HV.out]; rfl, HE.out⟩
        have HV := Lib.hid (show R = true from by
          have q1 := FAh.out
          have q2 := FBh.out
          have q3 := BAh.out
          have q4 := BBh.out
          have q5 := SRh.out
          rw [← HRr.out]
          unfold prB noneB
          simp (config := { decide := true }) [*])
        go_wp2
        go_ret
        exact ⟨by rw [HV.out]; rfl, HE.out⟩
  by_cases k4 : K = 4
  · subst k4
    obtain ⟨rfl, rfl, rfl⟩ : W = 0 ∧ F = 0 ∧ H = 0 := by simp (config := { decide := true }) [*] at hBD; omega
    clear hBD
    have c0 := pr_kind' HB.out
    have c251 := pr_writer' HB.out
    have c252 := pr_floor' HB.out
    have c253 := pr_head' HB.out
    have c254 := pr_toks' HB.out
    go_wp2_with (first | (refine wp_hmid rfl _ rfl g 1 a.1 rfl (pr_ra' HB.out) ?_) | (refine wp_hmid rfl _ rfl g 126 b.1 rfl (pr_rb' HB.out) ?_))
    refine (HFa.out w2 HE.out).mono ?_
    rintro e w3 ⟨rfl, hE⟩
    have HE := Lib.hid (HE.out.trans hE)
    have HB := Lib.hid (hE.keep HB.out)
    clear hE c0 c251 c252 c253 c254
    have c0 := pr_kind' HB.out
    have c251 := pr_writer' HB.out
    have c252 := pr_floor' HB.out
    have c253 := pr_head' HB.out
    have c254 := pr_toks' HB.out
    cases FA with
    | false =>
      have HV := Lib.hid (show R = false from by
        have q1 := FAh.out
        have q2 := FBh.out
        have q3 := BAh.out
        have q4 := BBh.out
        have q5 := SRh.out
        rw [← HRr.out]
        unfold prB noneB
        simp (config := { decide := true }) [*])
      go_wp2
      go_ret
      exact ⟨by rw [HV.out]; rfl, HE.out⟩
    | true =>
      go_wp2_with (first | (refine wp_hmid rfl _ rfl g 1 a.1 rfl (pr_ra' HB.out) ?_) | (refine wp_hmid rfl _ rfl g 126 b.1 rfl (pr_rb' HB.out) ?_))
      refine (HBb.out w3 HE.out).mono ?_
      rintro e w4 ⟨rfl, hE⟩
      have HE := Lib.hid (HE.out.trans hE)
      have HB := Lib.hid (hE.keep HB.out)
      clear hE c0 c251 c252 c253 c254
      have c0 := pr_kind' HB.out
      have c251 := pr_writer' HB.out
      have c252 := pr_floor' HB.out
      have c253 := pr_head' HB.out
      have c254 := pr_toks' HB.out
      cases BB with
      | false =>
        have HV := Lib.hid (show R = false from by
          have q1 := FAh.out
          have q2 := FBh.out
          have q3 := BAh.out
          have q4 := BBh.out
          have q5 := SRh.out
          rw [← HRr.out]
          unfold prB noneB
          simp (config := { decide := true }) [*])
        go_wp2
        go_ret
        exact ⟨by rw [HV.out]; rfl, HE.out⟩
      | true =>
        by_cases a1 : wn ≤ 8
        case neg =>
          have b1 : ¬ (wn : Int) ≤ 8 := by omega
          have HV := Lib.hid (show R = false from by
            have q1 := FAh.out
            have q2 := FBh.out
            have q3 := BAh.out
            have q4 := BBh.out
            have q5 := SRh.out
            rw [← HRr.out]
            unfold prB noneB
            simp (config := { decide := true }) [*])
          go_wp2
          go_ret
          exact ⟨by rw [HV.out]; rfl, HE.out⟩
        have b1 : (wn : Int) ≤ 8 := by omega
        go_wp2_with (first | (refine wp_hmid rfl _ rfl g 1 a.1 rfl (pr_ra' HB.out) ?_) | (refine wp_hmid rfl _ rfl g 126 b.1 rfl (pr_rb' HB.out) ?_))
        refine (HSr.out w4 HE.out).mono ?_
        rintro e w5 ⟨rfl, hE⟩
        have HE := Lib.hid (HE.out.trans hE)
        have HB := Lib.hid (hE.keep HB.out)
        clear hE c0 c251 c252 c253 c254
        have c0 := pr_kind' HB.out
        have c251 := pr_writer' HB.out
        have c252 := pr_floor' HB.out
        have c253 := pr_head' HB.out
        have c254 := pr_toks' HB.out
        have HV := Lib.hid (show R = SR from by
          have q1 := FAh.out
          have q2 := FBh.out
          have q3 := BAh.out
          have q4 := BBh.out
          have q5 := SRh.out
          rw [← HRr.out]
          unfold prB noneB
          simp (config := { decide := true }) [*])
        go_wp2
        go_ret
        exact ⟨by rw [HV.out]; rfl, HE.out⟩
  by_cases k1 : K = 1
  · subst k1
    obtain ⟨rfl, rfl, rfl, rfl⟩ : W = 0 ∧ F = 0 ∧ H = 0 ∧ wn = 0 := by simp (config := { decide := true }) [*] at hBD; omega
    clear hBD
    have c0 := pr_kind' HB.out
    have c251 := pr_writer' HB.out
    have c252 := pr_floor' HB.out
    have c253 := pr_head' HB.out
    have c254 := pr_toks' HB.out
    go_wp2_with (first | (refine wp_hmid rfl _ rfl g 1 a.1 rfl (pr_ra' HB.out) ?_) | (refine wp_hmid rfl _ rfl g 126 b.1 rfl (pr_rb' HB.out) ?_))
    refine (HFa.out w2 HE.out).mono ?_
    rintro e w3 ⟨rfl, hE⟩
    have HE := Lib.hid (HE.out.trans hE)
    have HB := Lib.hid (hE.keep HB.out)
    clear hE c0 c251 c252 c253 c254
    have c0 := pr_kind' HB.out
    have c251 := pr_writer' HB.out
    have c252 := pr_floor' HB.out
    have c253 := pr_head' HB.out
    have c254 := pr_toks' HB.out
    cases FA with
    | false =>
      have HV := Lib.hid (show R = false from by
        have q1 := FAh.out
        have q2 := FBh.out
        have q3 := BAh.out
        have q4 := BBh.out
        have q5 := SRh.out
        rw [← HRr.out]
        unfold prB noneB
        simp (config := { decide := true }) [*])
      go_wp2
      go_ret
      exact ⟨by rw [HV.out]; rfl, HE.out⟩
    | true =>
      go_wp2_with (first | (refine wp_hmid rfl _ rfl g 1 a.1 rfl (pr_ra' HB.out) ?_) | (refine wp_hmid rfl _ rfl g 126 b.1 rfl (pr_rb' HB.out) ?_))
      refine (HFb.out w3 HE.out).mono ?_
      rintro e w4 ⟨rfl, hE⟩
      have HE := Lib.hid (HE.out.trans hE)
      have HB := Lib.hid (hE.keep HB.out)
      clear hE c0 c251 c252 c253 c254
      have c0 := pr_kind' HB.out
      have c251 := pr_writer' HB.out
      have c252 := pr_floor' HB.out
      have c253 := pr_head' HB.out
      have c254 := pr_toks' HB.out
      have HV := Lib.hid (show R = FB from by
        have q1 := FAh.out
        have q2 := FBh.out
        have q3 := BAh.out
        have q4 := BBh.out
        have q5 := SRh.out
        rw [← HRr.out]
        unfold prB noneB
        simp (config := { decide := true }) [*])
      go_wp2
      go_ret
      exact ⟨by rw [HV.out]; rfl, HE.out⟩
  by_cases k2 : K = 2
  · subst k2
    obtain ⟨rfl, rfl, rfl, rfl⟩ : W = 0 ∧ F = 0 ∧ H = 0 ∧ wn = 0 := by simp (config := { decide := true }) [*] at hBD; omega
    clear hBD
    have c0 := pr_kind' HB.out
    have c251 := pr_writer' HB.out
    have c252 := pr_floor' HB.out
    have c253 := pr_head' HB.out
    have c254 := pr_toks' HB.out
    go_wp2_with (first | (refine wp_hmid rfl _ rfl g 1 a.1 rfl (pr_ra' HB.out) ?_) | (refine wp_hmid rfl _ rfl g 126 b.1 rfl (pr_rb' HB.out) ?_))
    refine (HFa.out w2 HE.out).mono ?_
    rintro e w3 ⟨rfl, hE⟩
    have HE := Lib.hid (HE.out.trans hE)
    have HB := Lib.hid (hE.keep HB.out)
    clear hE c0 c251 c252 c253 c254
    have c0 := pr_kind' HB.out
    have c251 := pr_writer' HB.out
    have c252 := pr_floor' HB.out
    have c253 := pr_head' HB.out
    have c254 := pr_toks' HB.out
    cases FA with
    | false =>
      have HV := Lib.hid (show R = false from by
        have q1 := FAh.out
        have q2 := FBh.out
        have q3 := BAh.out
        have q4 := BBh.out
        have q5 := SRh.out
        rw [← HRr.out]
        unfold prB noneB
        simp (config := { decide := true }) [*])
      go_wp2
      go_ret
      exact ⟨by rw [HV.out]; rfl, HE.out⟩
    | true =>
      go_wp2_with (first | (refine wp_hmid rfl _ rfl g 1 a.1 rfl (pr_ra' HB.out) ?_) | (refine wp_hmid rfl _ rfl g 126 b.1 rfl (pr_rb' HB.out) ?_))
      refine (HFb.out w3 HE.out).mono ?_
      rintro e w4 ⟨rfl, hE⟩
      have HE := Lib.hid (HE.out.trans hE)
      have HB := Lib.hid (hE.keep HB.out)
      clear hE c0 c251 c252 c253 c254
      have c0 := pr_kind' HB.out
      have c251 := pr_writer' HB.out
      have c252 := pr_floor' HB.out
      have c253 := pr_head' HB.out
      have c254 := pr_toks' HB.out
      have HV := Lib.hid (show R = FB from by
        have q1 := FAh.out
        have q2 := FBh.out
        have q3 := BAh.out
        have q4 := BBh.out
        have q5 := SRh.out
        rw [← HRr.out]
        unfold prB noneB
        simp (config := { decide := true }) [*])
      go_wp2
      go_ret
      exact ⟨by rw [HV.out]; rfl, HE.out⟩
  clear hBD
  have q1 : (K == 1) = false := beq_eq_false_iff_ne.2 k1
  have q2 : (K == 2) = false := beq_eq_false_iff_ne.2 k2
  have q3 : (K == 3) = false := beq_eq_false_iff_ne.2 k3
  have q4 : (K == 4) = false := beq_eq_false_iff_ne.2 k4
  have r3 : (K != 3) = true := bne_iff_ne.2 k3
  have r4 : (K != 4) = true := bne_iff_ne.2 k4
  have c0 := pr_kind' HB.out
  have c251 := pr_writer' HB.out
  have c252 := pr_floor' HB.out
  have c253 := pr_head' HB.out
  have c254 := pr_toks' HB.out
  have HV := Lib.hid (show R = false from by
    have q1 := FAh.out
    have q2 := FBh.out
    have q3 := BAh.out
    have q4 := BBh.out
    have q5 := SRh.out
    rw [← HRr.out]
    unfold prB noneB
    simp (config := { decide := true }) [*])
  go_wp2
  go_ret
  exact ⟨by rw [HV.out]; rfl, HE.out⟩

end Go.Proofs.Ytdhbkjajhbfihaa
