/-
  The walk of control.slot. No conditions.
-/
import Derived.Test.YtppidlpblkihbaaDoorPack
namespace Go.Proofs.YtppidlpblkihbaaDoor
open Go.ChangeShapes Go.WideShapes Go.ChangeAt Go.RowKit

def slotB (n : Nat) (must : Bool) : Bool := decide (n = 48) || (!must && decide (n = 0))

set_option maxHeartbeats 1000000 in
set_option maxRecDepth 100000 in
theorem slot_any (a : Option Addr) (n c : Nat) (must : Bool) (w : World) :
    Calls Tryd.prog 58 #[.slice a n c, .bool must] w fun e w' => e = .returned (.bool (slotB n must)) ∧ w' = w := by
  by_cases h : n = 48
  · subst h
    go_enter Tryd.func58, Tryd.ntmps58
    go_wp2_with fail
    go_ret
    exact ⟨rfl, rfl⟩
  · have x1 : ¬ (n : Int) = 48 := by omega
    have X1 := Lib.hid (show ((n : Int) == 48) = false by simpa using x1)
    cases must with
    | true =>
      have hs : slotB n true = false := by simp [slotB, h]
      rw [hs]
      go_enter Tryd.func58, Tryd.ntmps58
      go_wp2_with fail
      go_ret
      refine ⟨?_, rfl⟩
      show Ending.returned (Value.bool ((n : Int) == 48)) = _
      rw [X1.out]
    | false =>
      by_cases h0 : n = 0
      · subst h0
        go_enter Tryd.func58, Tryd.ntmps58
        go_wp2_with fail
        go_ret
        exact ⟨rfl, rfl⟩
      · have x2 : ¬ (n : Int) = 0 := by omega
        have hs : slotB n false = false := by simp [slotB, h, h0]
        rw [hs]
        have X3 := Lib.hid (show ((n : Int) == 0) = false by simpa using x2)
        go_enter Tryd.func58, Tryd.ntmps58
        go_wp2_with fail
        go_ret
        refine ⟨?_, rfl⟩
        show Ending.returned (Value.bool ((n : Int) == 48 || (n : Int) == 0)) = _
        rw [X1.out, X3.out]
        rfl

end Go.Proofs.YtppidlpblkihbaaDoor
