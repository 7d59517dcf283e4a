/-
  A filter, or a wish, by value. No conditions.
  Whether a header meets a wish: the walks of filter.Meets and reference 19's Meets. No conditions.
-/
import Derived.Test.YtihlpfdhallfpaaDoorBys
import Derived.Test.YtihlpfdhallfpaaDoorHdA
import Derived.Test.YtihlpfdhallfpaaDoorMeet
namespace Go.Proofs.YtihlpfdhallfpaaDoor
open Go.ChangeAt Go.ChangeShapes Go.RowKit Go.WideShapes

/-- A filter's cells. -/
def fltV (al : Bool) (v : Value) : Array Value := #[.bool al, v]
theorem flt_cell {w : World} {g : Nat} {al : Bool} {v : Value} {T : TypeId} {fr : Nat × Nat} (h : w.heap[g]? = some (.cells (fltV al v) T fr)) : w.cell? ⟨g, 0, none⟩ = some (.bool al) ∧ w.cell? ⟨g, 1, none⟩ = some v := by
  unfold World.cell?
  simp only [h]
  exact ⟨rfl, rfl⟩
theorem two_box (w : World) (A B : Array Value) (T U : TypeId) : ∃ w2, (w.alloc (.cells A T)).alloc (.cells B U) = w2 ∧ Ext w w2 ∧ w2.heap[w.heap.size]? = some (.cells A T (0, 0)) ∧ w2.heap[w.heap.size + 1]? = some (.cells B U (0, 0)) := by
  refine ⟨_, rfl, ((Ext.refl w).alloc _).alloc _, ?_, ?_⟩
  · exact Ext.keep ((Ext.refl (w.alloc (.cells A T))).alloc _) (heap_new w _ _ rfl)
  · exact heap_new _ _ _ (by simp)

/-- Whether a header meets a wish. -/
def meetsB (al : Bool) (ts us : List (Nat → Int)) (ctl : Bool) : Bool := ctl || al || meetB ts us
set_option maxHeartbeats 2000000 in
set_option maxRecDepth 100000 in
theorem meets_any (al : Bool) (a : Option Addr) (n c : Nat) (ts : List (Nat → Int)) (h : Hd) (us : List (Nat → Int)) (w : World) (ht : TsAt w a n c ts) (hu : TsAt w h.ta h.tn h.tc us) :
    Calls Tryd.prog 20 #[.agg (fltV al (.slice a n c)), .agg (hdV h)] w fun e w' => e = .returned (.bool (meetsB al ts us h.ctl)) ∧ Ext w w' := by
  obtain ⟨w2, hw2, hE2, hB2, hD2⟩ := two_box w (fltV al (.slice a n c)) (hdV h) 58 34
  have HM := Lib.hid (meet_any a n c ts h.ta h.tn h.tc us w2 (ht.ext hE2) (hu.ext hE2))
  obtain ⟨g, hg⟩ : ∃ g, w.heap.size = g := ⟨_, rfl⟩
  rw [hg] at hB2 hD2
  obtain ⟨c0, c1⟩ := flt_cell hB2
  have d0 := hd_ctl hD2
  have d1 := hd_toks hD2
  have Hg := Lib.hid hg
  have Hw2 := Lib.hid hw2
  have HE2 := Lib.hid hE2
  have HF := Lib.hid (show meetsB al ts us h.ctl = (h.ctl || al || meetB ts us) from rfl)
  obtain ⟨R, hR⟩ : ∃ R, meetsB al ts us h.ctl = R := ⟨_, rfl⟩
  obtain ⟨M, hM⟩ : ∃ M, meetB ts us = M := ⟨_, rfl⟩
  obtain ⟨HV, hHV⟩ : ∃ V, hdV h = V := ⟨_, rfl⟩
  rw [hR, hM] at HF
  rw [hM] at HM
  rw [hR]
  rw [hHV] at Hw2 ⊢
  obtain ⟨ta, hta⟩ : ∃ x, h.ta = x := ⟨_, rfl⟩
  obtain ⟨tn, htn⟩ : ∃ x, h.tn = x := ⟨_, rfl⟩
  obtain ⟨tc, htc⟩ : ∃ x, h.tc = x := ⟨_, rfl⟩
  obtain ⟨ct, hct⟩ : ∃ x, h.ctl = x := ⟨_, rfl⟩
  rw [hta, htn, htc] at d1 HM
  rw [hct] at d0 HF
  clear hw2 hE2 hB2 hD2 hg ht hu hR hM hHV hta htn htc hct
  go_enter Tryd.func20, Tryd.ntmps20
  go_upto_region 1 with (fail)
  refine wp_world (w' := w2) Hw2.out ?_
  rw [Hg.out]
  clear Hw2 Hg
  cases ct with
  | true =>
    go_wp2
    go_ret
    exact ⟨by rw [HF.out]; rfl, HE2.out⟩
  | false =>
    cases al with
    | true =>
      go_wp2
      go_ret
      exact ⟨by rw [HF.out]; rfl, HE2.out⟩
    | false =>
      go_wp2_with fail
      refine HM.out.mono ?_
      rintro e w3 ⟨rfl, hE3⟩
      have HE3 := Lib.hid (HE2.out.trans hE3)
      clear hE3 HM
      go_wp2
      go_ret
      exact ⟨by rw [HF.out]; rfl, HE3.out⟩
set_option maxHeartbeats 2000000 in
set_option maxRecDepth 100000 in
theorem refMeets_any (al : Bool) (a : Option Addr) (n c : Nat) (ts : List (Nat → Int)) (h : Hd) (us : List (Nat → Int)) (w : World) (ht : TsAt w a n c ts) (hu : TsAt w h.ta h.tn h.tc us) :
    Calls Tryd.prog 38 #[.agg (fltV al (.slice a n c)), .agg (hdV h)] w fun e w' => e = .returned (.bool (meetsB al ts us h.ctl)) ∧ Ext w w' := by
  obtain ⟨w2, hw2, hE2, hB2, hD2⟩ := two_box w (fltV al (.slice a n c)) (hdV h) 58 34
  have HM := Lib.hid (refMeet_any a n c ts h.ta h.tn h.tc us w2 (ht.ext hE2) (hu.ext hE2))
  obtain ⟨g, hg⟩ : ∃ g, w.heap.size = g := ⟨_, rfl⟩
  rw [hg] at hB2 hD2
  obtain ⟨c0, c1⟩ := flt_cell hB2
  have d0 := hd_ctl hD2
  have d1 := hd_toks hD2
  have Hg := Lib.hid hg
  have Hw2 := Lib.hid hw2
  have HE2 := Lib.hid hE2
  have HF := Lib.hid (show meetsB al ts us h.ctl = (h.ctl || al || meetB ts us) from rfl)
  obtain ⟨R, hR⟩ : ∃ R, meetsB al ts us h.ctl = R := ⟨_, rfl⟩
  obtain ⟨M, hM⟩ : ∃ M, meetB ts us = M := ⟨_, rfl⟩
  obtain ⟨HV, hHV⟩ : ∃ V, hdV h = V := ⟨_, rfl⟩
  rw [hR, hM] at HF
  rw [hM] at HM
  rw [hR]
  rw [hHV] at Hw2 ⊢
  obtain ⟨ta, hta⟩ : ∃ x, h.ta = x := ⟨_, rfl⟩
  obtain ⟨tn, htn⟩ : ∃ x, h.tn = x := ⟨_, rfl⟩
  obtain ⟨tc, htc⟩ : ∃ x, h.tc = x := ⟨_, rfl⟩
  obtain ⟨ct, hct⟩ : ∃ x, h.ctl = x := ⟨_, rfl⟩
  rw [hta, htn, htc] at d1 HM
  rw [hct] at d0 HF
  clear hw2 hE2 hB2 hD2 hg ht hu hR hM hHV hta htn htc hct
  go_enter Tryd.func38, Tryd.ntmps38
  go_upto_region 1 with (fail)
  refine wp_world (w' := w2) Hw2.out ?_
  rw [Hg.out]
  clear Hw2 Hg
  cases ct with
  | true =>
    go_wp2
    go_ret
    exact ⟨by rw [HF.out]; rfl, HE2.out⟩
  | false =>
    cases al with
    | true =>
      go_wp2
      go_ret
      exact ⟨by rw [HF.out]; rfl, HE2.out⟩
    | false =>
      go_wp2_with fail
      refine HM.out.mono ?_
      rintro e w3 ⟨rfl, hE3⟩
      have HE3 := Lib.hid (HE2.out.trans hE3)
      clear hE3 HM
      go_wp2
      go_ret
      exact ⟨by rw [HF.out]; rfl, HE3.out⟩

end Go.Proofs.YtihlpfdhallfpaaDoor
