/-
  The walk of jalousielaw01.HashSums: it answers true. Asked: the two tables lie as the text lays them.
-/
import Derived.Test.YtegajjpfcjfadaaDoorRefSum
import Derived.Test.YtegajjpfcjfadaaDoorFew
import Derived.Test.YtegajjpfcjfadaaDoorAwake
import Derived.Test.YtegajjpfcjfadaaDoorEq
namespace Go.Proofs.YtegajjpfcjfadaaDoor
open Go.ChangeShapes Go.WideShapes Go.ChangeAt Go.RowKit

theorem KsAt.ext {g : Nat} {w w' : World} (h : KsAt g w) (he : Ext w w') : KsAt g w' := fun i hi => by
  have hb := World.block_lt_of_cell? w _ (h i hi)
  rw [Ext.cell (p := ⟨g, i, none⟩) he hb]
  exact h i hi

set_option maxRecDepth 100000 in
theorem lawSums_any (a : Option Addr) (n c : Nat) (ls : List (List Int)) (w : World) (h : PsAt w a n c ls) (hk : KsAt 1 w) (hk2 : KsAt 0 w) :
    Calls Tryd.prog 3 #[.slice a n c] w fun e w' => e = .returned (.bool true) ∧ Ext w w' := by
  have H := Lib.hid h
  have HK := Lib.hid hk
  have HK2 := Lib.hid hk2
  clear h hk hk2
  have keq := eql_hash
  go_enter Tryd.func3, Tryd.ntmps3
  go_wp2_with fail
  refine (awake_any w HK.out).mono ?_
  rintro e w1 ⟨rfl, hE1⟩
  have HE1 := Lib.hid hE1
  clear hE1
  go_wp2_with fail
  refine (few_any a n c ls w1 (H.out.ext HE1.out)).mono ?_
  rintro e _ ⟨v, rfl, rfl, b, rfl, hb⟩
  have Hb := Lib.hid hb
  clear hb
  cases b with
  | false =>
    go_wp2
    go_ret
    exact ⟨rfl, HE1.out⟩
  | true =>
    obtain ⟨hn, hfl⟩ := Hb.out rfl
    have Hn := Lib.hid (And.intro hn hfl)
    clear hn hfl
    go_wp2_with fail
    refine (sum_any a n c ls w1 (H.out.ext HE1.out) (by have := Hn.out.2; omega) (by have := Hn.out.1; omega) (HK.out.ext HE1.out)).mono ?_
    rintro e w2 ⟨rfl, hE2⟩
    have HE2 := Lib.hid (HE1.out.trans hE2)
    clear hE2
    go_wp2_with fail
    refine (joined_any a n c ls w2 (H.out.ext HE2.out) (by have := Hn.out.2; omega)).mono ?_
    rintro e w3 ⟨a3, c3, rfl, hB3, hE3⟩
    obtain ⟨fl, hfl⟩ : ∃ fl, ls.flatten = fl := ⟨_, rfl⟩
    rw [hfl] at hB3 Hn ⊢
    have HE3 := Lib.hid (HE2.out.trans hE3)
    have HB3 := Lib.hid hB3
    clear hE3 hB3 hfl
    go_wp2_with fail
    refine (refSum_any a3 fl.length c3 fl w3 HB3.out (by have := Hn.out.2; omega) (HK2.out.ext HE3.out)).mono ?_
    rintro e w4 ⟨rfl, hE4⟩
    have HE4 := Lib.hid (HE3.out.trans hE4)
    clear hE4
    go_wp2
    go_ret
    exact ⟨rfl, HE4.out⟩

end Go.Proofs.YtegajjpfcjfadaaDoor
