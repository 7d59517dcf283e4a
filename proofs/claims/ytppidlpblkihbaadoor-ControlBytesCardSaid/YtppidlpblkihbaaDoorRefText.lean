/-
  The walk of jalousieref16.text: a text's bytes. No conditions but lengths.
-/
import Derived.Test.YtppidlpblkihbaaDoorPack
import Derived.Test.YtppidlpblkihbaaDoorSlot
namespace Go.Proofs.YtppidlpblkihbaaDoor
open Go.ChangeShapes Go.WideShapes Go.ChangeAt Go.RowKit

set_option maxHeartbeats 1000000 in
set_option maxRecDepth 100000 in
theorem refText_any (a : Option Addr) (n c : Nat) (xs : List Int) (w : World) (h : BsAt w a n c xs) (hs : n ≤ 4294967296) :
    Calls Tryd.prog 54 #[.slice a n c] w fun e w' => ∃ v, e = .returned v ∧ w'.ownsRow w.heap.size 5 1 v (textL xs).length (bv (textL xs)) ∧ Ext w w' := by
  have hl := h.len
  have hN := refNum_any (n : Int) (by omega) (by omega) w
  have hle := numL_length_le (n : Int)
  have e1 : (textL xs).length = (numL (n : Int)).length + n := by unfold textL; rw [List.length_append, hl]
  have e2 : textL xs = numL (n : Int) ++ xs := by unfold textL; rw [hl]
  have HN := Lib.hid hN
  have H := Lib.hid h
  have E1 := Lib.hid e1
  have E2 := Lib.hid e2
  have hw : IntKind.u64.wrap (n : Int) = (n : Int) := by rw [IntKind.wrap_u64]; omega
  clear h hN e1 e2 hl
  obtain ⟨L, hL⟩ : ∃ L, numL (n : Int) = L := ⟨_, rfl⟩
  rw [hL] at HN E1 E2 hle
  clear hL
  go_enter Tryd.func54, Tryd.ntmps54
  go_wp2_with fail
  refine HN.out.mono ?_
  rintro e w1 ⟨v1, rfl, hown, hE⟩
  have hb1 := H.out.ext hE
  have HB1 := Lib.hid hb1
  have hsz := Below.size hE
  clear hb1
  go_wp2_with (at_builtin; refine append_bsG rfl _ _ rfl w.heap.size _ L.length L rfl hown a n c xs rfl HB1.out (by omega) hsz ?_)
  intro v3 w3 hown3 hB3 _
  have hE3 : Ext w w3 := Below.trans (B := w.heap.size) hE hB3
  rw [← E1.out, ← E2.out] at hown3
  have Hown := Lib.hid hown3
  have HE3 := Lib.hid hE3
  clear hown3 hE3 hown hB3
  go_wp2
  go_ret
  exact ⟨v3, rfl, Hown.out, HE3.out⟩

end Go.Proofs.YtppidlpblkihbaaDoor
