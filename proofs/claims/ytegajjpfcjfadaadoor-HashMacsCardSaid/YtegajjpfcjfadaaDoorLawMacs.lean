/-
  The walk of jalousielaw01.HashMacs: it answers true. Asked: the two tables lie as the text lays them.
-/
import Derived.Test.YtegajjpfcjfadaaDoorLawSums
import Derived.Test.YtegajjpfcjfadaaDoorRefMac
namespace Go.Proofs.YtegajjpfcjfadaaDoor
open Go.ChangeShapes Go.WideShapes Go.ChangeAt Go.RowKit

set_option maxHeartbeats 1000000 in
set_option maxRecDepth 100000 in
theorem lawMacs_any (ka : Option Addr) (kn kc : Nat) (key : List Int) (a : Option Addr) (n c : Nat) (ls : List (List Int)) (w : World) (hkey : BsAt w ka kn kc key) (h : PsAt w a n c ls) (hk : KsAt 1 w) (hk2 : KsAt 0 w) :
    Calls Tryd.prog 6 #[.slice ka kn kc, .slice a n c] w fun e w' => e = .returned (.bool true) ∧ Ext w w' := by
  have hkc := hkey.cap
  have hkl := hkey.lim
  have HKey := Lib.hid hkey
  have H := Lib.hid h
  have HK := Lib.hid hk
  have HK2 := Lib.hid hk2
  clear h hk hk2 hkey
  have keq := eql_hash
  go_enter Tryd.func6, Tryd.ntmps6
  go_wp2_with fail
  refine (awake_any w HK.out).mono ?_
  rintro e w1 ⟨rfl, hE1⟩
  have HE1 := Lib.hid hE1
  clear hE1
  go_wp2_with fail
  refine (few_any a n c ls w1 (H.out.ext HE1.out)).mono ?_
  rintro e _ ⟨v, rfl, rfl, b, rfl, hb⟩
  have Hb := Lib.hid hb
  clear hb
  cases b with
  | false =>
    go_wp2
    go_ret
    exact ⟨rfl, HE1.out⟩
  | true =>
    obtain ⟨hn, hfl⟩ := Hb.out rfl
    have Hn := Lib.hid (And.intro hn hfl)
    clear hn hfl
    by_cases h5 : 500 < kn
    · have x1 : (500 : Int) < (kn : Int) := by omega
      go_wp2
      go_ret
      exact ⟨rfl, HE1.out⟩
    · have x1 : ¬ (500 : Int) < (kn : Int) := by omega
      have hj := fun wx (hx : Ext w wx) => joined_any a n c ls wx (H.out.ext hx) (by have := Hn.out.2; omega)
      obtain ⟨F, hF⟩ : ∃ F : Nat → Int, macF key ls.flatten = F := ⟨_, rfl⟩
      have hm := mac_any ka kn kc key a n c ls w1 (HKey.out.ext HE1.out) (H.out.ext HE1.out) (by have := Hn.out.2; omega) (by have := Hn.out.1; omega) (by omega) (HK.out.ext HE1.out)
      obtain ⟨fl, hfl⟩ : ∃ fl, ls.flatten = fl := ⟨_, rfl⟩
      rw [hfl] at hj Hn hF hm
      rw [hF] at hm
      have HF := Lib.hid hF
      have HJ := Lib.hid hj
      have HM := Lib.hid hm
      clear hF hfl hj hm
      go_wp2_with fail
      refine HM.out.mono ?_
      rintro e w2 ⟨rfl, hE2⟩
      have HE2 := Lib.hid (HE1.out.trans hE2)
      clear hE2 HM HE1
      go_wp2_with fail
      refine (HJ.out w2 HE2.out).mono ?_
      rintro e w3 ⟨a3, c3, rfl, hB3, hE3⟩
      have HE3 := Lib.hid (HE2.out.trans hE3)
      have hm := refMac_any ka kn kc key _ _ _ fl w3 (HKey.out.ext HE3.out) hB3 (by have := Hn.out.2; omega) (by omega) (HK2.out.ext HE3.out)
      rw [HF.out] at hm
      have HM := Lib.hid hm
      clear hE3 hB3 hm HE2
      go_wp2_with fail
      refine HM.out.mono ?_
      rintro e w4 ⟨rfl, hE4⟩
      have HE4 := Lib.hid (HE3.out.trans hE4)
      clear hE4 HE3 HM
      go_wp2_with fail
      refine (HJ.out w4 HE4.out).mono ?_
      rintro e w5 ⟨a5, c5, rfl, hB5, hE5⟩
      have HE5 := Lib.hid (HE4.out.trans hE5)
      have hm := extract_any ka kn kc key _ _ _ fl w5 (HKey.out.ext HE5.out) hB5 (by have := Hn.out.2; omega) (by omega) (HK.out.ext HE5.out)
      rw [HF.out] at hm
      have HM := Lib.hid hm
      clear hE5 hB5 hm HE4
      go_wp2_with fail
      refine HM.out.mono ?_
      rintro e w6 ⟨rfl, hE6⟩
      have HE6 := Lib.hid (HE5.out.trans hE6)
      clear hE6 HE5 HM
      go_wp2_with fail
      refine (HJ.out w6 HE6.out).mono ?_
      rintro e w7 ⟨a7, c7, rfl, hB7, hE7⟩
      have HE7 := Lib.hid (HE6.out.trans hE7)
      have hm := refMac_any ka kn kc key _ _ _ fl w7 (HKey.out.ext HE7.out) hB7 (by have := Hn.out.2; omega) (by omega) (HK2.out.ext HE7.out)
      rw [HF.out] at hm
      have HM := Lib.hid hm
      clear hE7 hB7 hm HE6
      go_wp2_with fail
      refine HM.out.mono ?_
      rintro e w8 ⟨rfl, hE8⟩
      have HE8 := Lib.hid (HE7.out.trans hE8)
      clear hE8 HE7 HM
      go_wp2
      go_ret
      exact ⟨rfl, HE8.out⟩

end Go.Proofs.YtegajjpfcjfadaaDoor
