/-
  The walk of jalousieref05.Num: a number's bytes. No conditions.
-/
import Derived.Test.YtppidlpblkihbaaDoorText
namespace Go.Proofs.YtppidlpblkihbaaDoor
open Go.ChangeShapes Go.WideShapes Go.ChangeAt Go.RowKit

set_option maxHeartbeats 1000000 in
set_option maxRecDepth 100000 in
theorem refNum_any (x : Int) (h0 : 0 ≤ x) (h1 : x < 18446744073709551616) (w : World) :
    Calls Tryd.prog 53 #[.int .u64 x] w fun e w' => ∃ v, e = .returned v ∧ w'.ownsRow w.heap.size 5 1 v (numL x).length (bv (numL x)) ∧ Ext w w' := by
  obtain ⟨R, hR⟩ : ∃ R, numL x = R := ⟨_, rfl⟩
  have HR := Lib.hid hR
  rw [hR]
  clear hR
  go_enter Tryd.func53, Tryd.ntmps53
  go_wp2
  go_loopw [0, 3] (fun y v wr => ∃ (X : Int) (k : Nat) (acc : List Int), y = .int .u64 X ∧ 0 ≤ X ∧ X < 18446744073709551616 ∧ acc.length + k = 9 ∧ X < 2 ^ (7 * k + 1) ∧ acc ++ numB (k + 1) X = R ∧ wr.ownsRow w.heap.size 5 1 v acc.length (bv acc) ∧ Ext w wr) (fun y _ _ => (intOf y).toNat)
  case atStart => exact ⟨x, 9, [], rfl, h0, h1, rfl, by simpa using h1, HR.out, World.ownsRow_nil _ _ _ _, Ext.refl _⟩
  case round =>
    obtain ⟨X, k, acc, rfl, hX0, hX1, hk, hX2, hacc, hown, hE⟩ := hrel
    have hsz := Below.size hE
    by_cases hlt : X < 128
    · have x1 : ¬ 0 < X / 128 := by omega
      have hR : acc ++ [X] = R := by rw [← hacc, numB, if_pos hlt]
      have e1 : (acc ++ [X]).length = acc.length + 1 := by simp
      go_wp2_with (at_builtin; refine append_byte rfl _ _ rfl w.heap.size _ acc.length acc rfl (hown.alloc _) wr.heap.size X rfl (new_cell _ _ _) (by omega) (by simp; omega) ?_)
      intro v3 w3 hown3 hB3
      have hE3 : Ext w w3 := Below.trans (Below.alloc hE hsz _) hB3
      rw [← e1, hR] at hown3
      have Hown := Lib.hid hown3
      have HE3 := Lib.hid hE3
      clear hown3 hE3 hown hB3
      go_wp2
      go_ret
      exact ⟨v3, rfl, Hown.out, HE3.out⟩
    · have x1 : 0 < X / 128 := by omega
      obtain ⟨k', rfl⟩ : ∃ k', k = k' + 1 := by
        cases k with
        | zero => simp at hX2; omega
        | succ k' => exact ⟨k', rfl⟩
      have hR : (acc ++ [X % 128 + 128]) ++ numB (k' + 1) (X / 128) = R := by
        have h5 : numB (k' + 1 + 1) X = (X % 128 + 128) :: numB (k' + 1) (X / 128) := by rw [numB, if_neg hlt]
        rw [← hacc, h5, List.append_assoc]
        rfl
      have e1 : (acc ++ [X % 128 + 128]).length = acc.length + 1 := by simp
      have hX3 : X / 128 < 2 ^ (7 * k' + 1) := by
        have : (2 : Int) ^ (7 * (k' + 1) + 1) = 128 * 2 ^ (7 * k' + 1) := by rw [show 7 * (k' + 1) + 1 = (7 * k' + 1) + 7 by omega, Int.pow_add]; omega
        omega
      have e2 : IntKind.u64.wrap (X % 128 + 128) = X % 128 + 128 := by rw [IntKind.wrap_u64]; omega
      have e3 : IntKind.u8.wrap (X % 128 + 128) = X % 128 + 128 := by rw [IntKind.wrap_u8]; omega
      have HR2 := Lib.hid hR
      have HX3 := Lib.hid hX3
      have hX4 : 0 ≤ X / 128 ∧ X / 128 < X := by omega
      have HX4 := Lib.hid hX4
      clear hX3 hX4 hR
      go_wp2_with (at_builtin; refine append_byte rfl _ _ rfl w.heap.size _ acc.length acc rfl (hown.alloc _) wr.heap.size (X % 128 + 128) rfl (new_cell _ _ _) (by omega) (by simp; omega) ?_)
      intro v3 w3 hown3 hB3
      have hE3 : Ext w w3 := Below.trans (Below.alloc hE hsz _) hB3
      rw [← e1] at hown3
      have Hown := Lib.hid hown3
      have HE3 := Lib.hid hE3
      clear hown3 hE3 hown hB3
      go_wp2
      go_roundw
      case rel => exact ⟨X / 128, k', acc ++ [X % 128 + 128], rfl, HX4.out.1, by have := HX4.out.2; omega, by rw [e1]; omega, HX3.out, HR2.out, Hown.out, HE3.out⟩
      case measure => have := HX4.out; simp [intOf]; omega

/-- A text's bytes, its length ahead. -/
def textL (xs : List Int) : List Int := numL (xs.length : Int) ++ xs

end Go.Proofs.YtppidlpblkihbaaDoor
