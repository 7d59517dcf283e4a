/-
  The walks of cmp.Compare at uint64 and int, and cmp.Or at int (three values). No conditions.
-/
import Derived.Test.YtldaligeckjhaaaRows
import Derived.ProofKit
import Derived.OpenShut
import Derived.WalkLawsBesides
import Derived.WalkSpells
import Derived.Lib.Hide
import Derived.Test.YtldaligeckjhaaaBase
namespace Go.Proofs.Ytldaligeckjhaaa
open Go.ChangeShapes Go.WideShapes Go.ChangeAt Go.RowKit

def cmpZ (x y : Int) : Int := if x < y then -1 else if y < x then 1 else 0

theorem isNaNu_any (x : Int) (w : World) : Calls Try.prog 84 #[.int .u64 x] w fun e w' => e = .returned (.bool false) ∧ w = w' := by
  go_enter Try.func84, Try.ntmps84
  go_wp2
  go_ret
  exact ⟨by simp, rfl⟩
theorem isNaNi_any (x : Int) (w : World) : Calls Try.prog 85 #[.int .i64 x] w fun e w' => e = .returned (.bool false) ∧ w = w' := by
  go_enter Try.func85, Try.ntmps85
  go_wp2
  go_ret
  exact ⟨by simp, rfl⟩

theorem cmpU_any (x y : Int) (w : World) : Calls Try.prog 65 #[.int .u64 x, .int .u64 y] w fun e w' => e = .returned (.int .i64 (cmpZ x y)) ∧ w = w' := by
  by_cases h1 : x < y
  · go_enter Try.func65, Try.ntmps65
    go_wp2_with (go_at_call 84; refine (isNaNu_any _ _).mono ?_; rintro e w' ⟨rfl, rfl⟩)
    go_ret
    exact ⟨ret_int (by unfold cmpZ; rw [if_pos h1]), rfl⟩
  · by_cases h2 : y < x
    · go_enter Try.func65, Try.ntmps65
      go_wp2_with (go_at_call 84; refine (isNaNu_any _ _).mono ?_; rintro e w' ⟨rfl, rfl⟩)
      go_ret
      exact ⟨ret_int (by unfold cmpZ; rw [if_neg (by omega), if_pos h2]), rfl⟩
    · go_enter Try.func65, Try.ntmps65
      go_wp2_with (go_at_call 84; refine (isNaNu_any _ _).mono ?_; rintro e w' ⟨rfl, rfl⟩)
      go_ret
      exact ⟨ret_int (by unfold cmpZ; rw [if_neg (by omega), if_neg (by omega)]), rfl⟩
theorem cmpN_any (x y : Int) (w : World) : Calls Try.prog 66 #[.int .i64 x, .int .i64 y] w fun e w' => e = .returned (.int .i64 (cmpZ x y)) ∧ w = w' := by
  by_cases h1 : x < y
  · go_enter Try.func66, Try.ntmps66
    go_wp2_with (go_at_call 85; refine (isNaNi_any _ _).mono ?_; rintro e w' ⟨rfl, rfl⟩)
    go_ret
    exact ⟨ret_int (by unfold cmpZ; rw [if_pos h1]), rfl⟩
  · by_cases h2 : y < x
    · go_enter Try.func66, Try.ntmps66
      go_wp2_with (go_at_call 85; refine (isNaNi_any _ _).mono ?_; rintro e w' ⟨rfl, rfl⟩)
      go_ret
      exact ⟨ret_int (by unfold cmpZ; rw [if_neg (by omega), if_pos h2]), rfl⟩
    · go_enter Try.func66, Try.ntmps66
      go_wp2_with (go_at_call 85; refine (isNaNi_any _ _).mono ?_; rintro e w' ⟨rfl, rfl⟩)
      go_ret
      exact ⟨ret_int (by unfold cmpZ; rw [if_neg (by omega), if_neg (by omega)]), rfl⟩

/-- The first of three that is not nought. -/
def orI (x y z : Int) : Int := if x ≠ 0 then x else if y ≠ 0 then y else z

theorem or3_any (g : Nat) (v : Nat → Int) (w : World) (hc : ∀ i, i < 3 → w.cell? ⟨g, i, none⟩ = some (.int .i64 (v i))) :
    Calls Try.prog 64 #[.slice (some ⟨g, 0, none⟩) 3 3] w fun e w' => e = .returned (.int .i64 (orI (v 0) (v 1) (v 2))) ∧ w = w' := by
  have H := Lib.hid hc
  clear hc
  go_enter Try.func64, Try.ntmps64
  go_wp2
  go_loop [8] (fun i => ∃ k : Nat, k ≤ 3 ∧ i = .int .i64 k ∧ ∀ j, j < k → v j = 0) (fun i => 3 - (intOf i).toNat)
  case atStart => exact ⟨0, by omega, rfl, fun j hj => by omega⟩
  case round =>
    obtain ⟨k, hk, rfl, hz⟩ := hrel
    have HZ := Lib.hid hz
    clear hz
    by_cases hlt : k < 3
    · have c1 := H.out k hlt
      have x2 : (0 : Int) ≤ (k : Int) := by omega
      have x3 : (k : Int) < 3 := by omega
      obtain ⟨x, hx⟩ : ∃ x, v k = x := ⟨_, rfl⟩
      rw [hx] at c1
      have Hx := Lib.hid hx
      clear hx
      by_cases hx0 : x = 0
      · subst hx0
        go_wp2
        go_round
        case rel =>
          refine ⟨k + 1, by omega, by go_num, fun j hj => ?_⟩
          by_cases hjk : j = k
          · subst hjk; exact Hx.out
          · exact HZ.out j (by omega)
        case measure => simp [intOf]; omega
      · have hb : (x != 0) = true := by simp [hx0]
        go_wp2
        go_ret
        refine ⟨ret_int ?_, rfl⟩
        have h3 := Hx.out
        have h4 := HZ.out
        unfold orI
        rcases (by omega : k = 0 ∨ k = 1 ∨ k = 2) with rfl | rfl | rfl
        · rw [if_pos (by rw [h3]; exact hx0), h3]
        · rw [if_neg (by simp [h4 0 (by omega)]), if_pos (by rw [h3]; exact hx0), h3]
        · rw [if_neg (by simp [h4 0 (by omega)]), if_neg (by simp [h4 1 (by omega)]), h3]
    · obtain rfl : k = 3 := by omega
      rw [show ((3 : Nat) : Int) = 3 from rfl]
      go_wp2
      go_ret
      refine ⟨ret_int ?_, rfl⟩
      have h4 := HZ.out
      unfold orI
      rw [if_neg (by simp [h4 0 (by omega)]), if_neg (by simp [h4 1 (by omega)]), h4 2 (by omega)]

end Go.Proofs.Ytldaligeckjhaaa
