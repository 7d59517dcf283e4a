/-
  The walk of jalousielaw11.KeysMeet: it answers true. Asked: the table of 64 words lies as the text lays it.
-/
import Derived.Test.YtppidlpblkihbaaDoorLess
namespace Go.Proofs.YtppidlpblkihbaaDoor
open Go.ChangeShapes Go.WideShapes Go.ChangeAt Go.RowKit

set_option maxHeartbeats 1000000 in
set_option maxRecDepth 100000 in
theorem lawKeysMeet_any (a : Option Addr) (n c : Nat) (ts : List (Nat → Int)) (b : Option Addr) (m d : Nat) (us : List (Nat → Int)) (w : World) (h : TsAt w a n c ts) (hu : TsAt w b m d us) (hk : KsAt 1 w) :
    Calls Tryd.prog 5 #[.slice a n c, .slice b m d] w fun e w' => e = .returned (.bool true) ∧ Ext w w' := by
  have hsm := h.small
  have hsm2 := hu.small
  have H1 := Lib.hid h
  have H2 := Lib.hid hu
  have HA := Lib.hid (awake11_any w hk)
  obtain ⟨R, hR⟩ : ∃ R, risesB ts = R := ⟨_, rfl⟩
  obtain ⟨M, hM⟩ : ∃ M, meetB ts us = M := ⟨_, rfl⟩
  have hM1 : meetB us ts = M := by rw [meetB_comm]; exact hM
  have HR := Lib.hid hR
  have HM0 := Lib.hid hM
  have HM1 := Lib.hid hM1
  clear h hu hk hR hM hM1
  by_cases hn : 60 < n
  · have x1 : (60 : Int) < (n : Int) := by omega
    clear hn
    go_enter Tryd.func5, Tryd.ntmps5
    go_wp2_with fail
    refine HA.out.mono ?_
    rintro e w1 ⟨rfl, hE⟩
    have HE1 := Lib.hid hE
    clear hE HA
    go_wp2_with fail
    go_ret
    exact ⟨rfl, HE1.out⟩
  · have x1 : ¬ (60 : Int) < (n : Int) := by omega
    clear hn
    by_cases hm : 60 < m
    · have x2 : (60 : Int) < (m : Int) := by omega
      clear hm
      go_enter Tryd.func5, Tryd.ntmps5
      go_wp2_with fail
      refine HA.out.mono ?_
      rintro e w1 ⟨rfl, hE⟩
      have HE1 := Lib.hid hE
      clear hE HA
      go_wp2_with fail
      go_ret
      exact ⟨rfl, HE1.out⟩
    · have x2 : ¬ (60 : Int) < (m : Int) := by omega
      clear hm
      go_enter Tryd.func5, Tryd.ntmps5
      go_wp2_with fail
      refine HA.out.mono ?_
      rintro e w1 ⟨rfl, hE⟩
      have HE1 := Lib.hid hE
      clear hE HA
      have hm := sorted_any a n c ts w1 (H1.out.ext HE1.out)
      rw [HR.out] at hm
      have HM := Lib.hid hm
      clear hm
      go_wp2_with fail
      refine HM.out.mono ?_
      rintro e w2 ⟨rfl, hE⟩
      have HE2 := Lib.hid (HE1.out.trans hE)
      clear hE HM
      have hm := refSorted_any a n c ts w2 (H1.out.ext HE2.out)
      rw [HR.out] at hm
      have HM := Lib.hid hm
      clear hm
      go_wp2_with fail
      refine HM.out.mono ?_
      rintro e w3 ⟨rfl, hE⟩
      have HE3 := Lib.hid (HE2.out.trans hE)
      clear hE HM
      have hm := meet_any a n c ts b m d us w3 (H1.out.ext HE3.out) (H2.out.ext HE3.out)
      rw [HM0.out] at hm
      have HM := Lib.hid hm
      clear hm
      go_wp2_with fail
      refine HM.out.mono ?_
      rintro e w4 ⟨rfl, hE⟩
      have HE4 := Lib.hid (HE3.out.trans hE)
      clear hE HM
      have hm := refMeet_any a n c ts b m d us w4 (H1.out.ext HE4.out) (H2.out.ext HE4.out)
      rw [HM0.out] at hm
      have HM := Lib.hid hm
      clear hm
      go_wp2_with fail
      refine HM.out.mono ?_
      rintro e w5 ⟨rfl, hE⟩
      have HE5 := Lib.hid (HE4.out.trans hE)
      clear hE HM
      have hm := meet_any b m d us a n c ts w5 (H2.out.ext HE5.out) (H1.out.ext HE5.out)
      rw [HM1.out] at hm
      have HM := Lib.hid hm
      clear hm
      go_wp2_with fail
      refine HM.out.mono ?_
      rintro e w6 ⟨rfl, hE⟩
      have HE6 := Lib.hid (HE5.out.trans hE)
      clear hE HM
      have hm := meet_any a n c ts b m d us w6 (H1.out.ext HE6.out) (H2.out.ext HE6.out)
      rw [HM0.out] at hm
      have HM := Lib.hid hm
      clear hm
      go_wp2_with fail
      refine HM.out.mono ?_
      rintro e w7 ⟨rfl, hE⟩
      have HE7 := Lib.hid (HE6.out.trans hE)
      clear hE HM
      go_wp2_with fail
      go_ret
      exact ⟨rfl, HE7.out⟩

end Go.Proofs.YtppidlpblkihbaaDoor
