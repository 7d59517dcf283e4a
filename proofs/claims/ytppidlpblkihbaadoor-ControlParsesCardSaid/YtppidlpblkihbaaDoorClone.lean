/-
  The walk of pack.Read. No conditions.
-/
import Derived.Test.YtppidlpblkihbaaDoorPackIn
namespace Go.Proofs.YtppidlpblkihbaaDoor
open Go.ChangeShapes Go.WideShapes Go.ChangeAt Go.RowKit

theorem cloneB_any (a : Option Addr) (n c : Nat) (xs : List Int) (w : World) (h : BsAt w a n c xs) :
    Calls Tryd.prog 78 #[.slice a n c] w fun e w' => ∃ a' c', e = .returned (.slice a' n c') ∧ BsAt w' a' n c' xs ∧ Ext w w' := by
  refine (clone_any a n c xs w h).mono ?_
  rintro e w' ⟨v, rfl, hown, hE⟩
  obtain ⟨ao, cv, rfl, hc1, hc2⟩ := owns_slice hown
  exact ⟨ao, cv, rfl, owns_bs hown h.byte (by unfold maxLen at hc2; omega) h.small, hE⟩

set_option maxRecDepth 100000 in
theorem build_in (w : World) (a : Option Addr) (n c : Nat) : (Instr.build 113 #[(0, .slice a n c)]).run Tryd.prog w = .ok (.agg #[.slice a n c, .bool false]) w := by kernel_rfl

set_option maxRecDepth 100000 in
theorem readIn_any (a : Option Addr) (n c : Nat) (xs : List Int) (w : World) (h : BsAt w a n c xs) :
    Calls Tryd.prog 49 #[.slice a n c] w fun e w' => ∃ g, e = .returned (.pointer (some ⟨g, 0, none⟩)) ∧ w.heap.size ≤ g ∧ InAt w' g xs false ∧ Ext w w' := by
  have HC := Lib.hid (cloneB_any a n c xs w h)
  have hbi := build_in
  clear h
  go_enter Tryd.func49, Tryd.ntmps49
  go_wp2_with fail
  refine HC.out.mono ?_
  rintro e w1 ⟨a1, c1, rfl, hb, hE⟩
  have HB := Lib.hid hb
  have HE := Lib.hid hE
  clear hb hE HC
  go_wp2_with fail
  go_ret
  have hE2 : Ext w1 (w1.alloc (.cells #[.slice a1 n c1, .bool false] 113)) := (Ext.refl w1).alloc _
  exact ⟨w1.heap.size, rfl, Below.size HE.out, ⟨a1, n, c1, heap_new w1 _ _ rfl, HB.out.ext hE2⟩, HE.out.trans hE2⟩

end Go.Proofs.YtppidlpblkihbaaDoor
