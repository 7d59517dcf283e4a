/-
  The walks of cmp.Compare at uint64 and int, and cmp.Or at int (three values). No conditions.
-/
import Derived.Test.YtegajjpfcjfadaaRows
import Derived.ProofKit
import Derived.OpenShut
import Derived.WalkLawsBesides
import Derived.WalkSpells
import Derived.Lib.Hide
import Derived.Test.YtegajjpfcjfadaaBase
namespace Go.Proofs.Ytegajjpfcjfadaa
open Go.ChangeShapes Go.WideShapes Go.ChangeAt Go.RowKit

def cmpI (x y : Int) : Int := if x < y then -1 else if y < x then 1 else 0

theorem isNaNu_any (x : Int) (w : World) : Calls Try.prog 11 #[.int .u64 x] w fun e w' => e = .returned (.bool false) ∧ w = w' := by
  go_enter Try.func11, Try.ntmps11
  go_wp2
  go_ret
  exact ⟨by simp, rfl⟩
theorem isNaNi_any (x : Int) (w : World) : Calls Try.prog 12 #[.int .i64 x] w fun e w' => e = .returned (.bool false) ∧ w = w' := by
  go_enter Try.func12, Try.ntmps12
  go_wp2
  go_ret
  exact ⟨by simp, rfl⟩

theorem cmpU_any (x y : Int) (w : World) : Calls Try.prog 9 #[.int .u64 x, .int .u64 y] w fun e w' => e = .returned (.int .i64 (cmpI x y)) ∧ w = w' := by
  by_cases h1 : x < y
  · go_enter Try.func9, Try.ntmps9
    go_wp2_with (go_at_call 11; refine (isNaNu_any _ _).mono ?_; rintro e w' ⟨rfl, rfl⟩)
    go_ret
    exact ⟨ret_int (by unfold cmpI; rw [if_pos h1]), rfl⟩
  · by_cases h2 : y < x
    · go_enter Try.func9, Try.ntmps9
      go_wp2_with (go_at_call 11; refine (isNaNu_any _ _).mono ?_; rintro e w' ⟨rfl, rfl⟩)
      go_ret
      exact ⟨ret_int (by unfold cmpI; rw [if_neg (by omega), if_pos h2]), rfl⟩
    · go_enter Try.func9, Try.ntmps9
      go_wp2_with (go_at_call 11; refine (isNaNu_any _ _).mono ?_; rintro e w' ⟨rfl, rfl⟩)
      go_ret
      exact ⟨ret_int (by unfold cmpI; rw [if_neg (by omega), if_neg (by omega)]), rfl⟩
theorem cmpN_any (x y : Int) (w : World) : Calls Try.prog 10 #[.int .i64 x, .int .i64 y] w fun e w' => e = .returned (.int .i64 (cmpI x y)) ∧ w = w' := by
  by_cases h1 : x < y
  · go_enter Try.func10, Try.ntmps10
    go_wp2_with (go_at_call 12; refine (isNaNi_any _ _).mono ?_; rintro e w' ⟨rfl, rfl⟩)
    go_ret
    exact ⟨ret_int (by unfold cmpI; rw [if_pos h1]), rfl⟩
  · by_cases h2 : y < x
    · go_enter Try.func10, Try.ntmps10
      go_wp2_with (go_at_call 12; refine (isNaNi_any _ _).mono ?_; rintro e w' ⟨rfl, rfl⟩)
      go_ret
      exact ⟨ret_int (by unfold cmpI; rw [if_neg (by omega), if_pos h2]), rfl⟩
    · go_enter Try.func10, Try.ntmps10
      go_wp2_with (go_at_call 12; refine (isNaNi_any _ _).mono ?_; rintro e w' ⟨rfl, rfl⟩)
      go_ret
      exact ⟨ret_int (by unfold cmpI; rw [if_neg (by omega), if_neg (by omega)]), rfl⟩

/-- The first of three that is not nought. -/
def orI (x y z : Int) : Int := if x ≠ 0 then x else if y ≠ 0 then y else z

theorem or3_any (g : Nat) (v : Nat → Int) (w : World) (hc : ∀ i, i < 3 → w.cell? ⟨g, i, none⟩ = some (.int .i64 (v i))) :
    Calls Try.prog 8 #[.slice (some ⟨g, 0, none⟩) 3 3] w fun e w' => e = .returned (.int .i64 (orI (v 0) (v 1) (v 2))) ∧ w = w' := by
  have H := Lib.hid hc
  clear hc
  go_enter Try.func8, Try.ntmps8
  go_wp2
  go_loop [8] (fun i => ∃ k : Nat, k ≤ 3 ∧ i = .int .i64 k ∧ ∀ j, j < k → v j = 0) (fun i => 3 - (intOf i).toNat)
  case atStart => exact ⟨0, by omega, rfl, fun j hj => by omega⟩
  case round =>
    obtain ⟨k, hk, rfl, hz⟩ := hrel
    have HZ := Lib.hid hz
    clear hz
    by_cases hlt : k < 3
    · have c1 := H.out k hlt
      have x2 : (0 : Int) ≤ (k : Int) := by omega
      have x3 : (k : Int) < 3 := by omega
      obtain ⟨x, hx⟩ : ∃ x, v k = x := ⟨_, rfl⟩
      rw [hx] at c1
      have Hx := Lib.hid hx
      clear hx
      by_cases hx0 : x = 0
      · subst hx0
        go_wp2
        go_round
        case rel =>
          refine ⟨k + 1, by omega, by go_num, fun j hj => ?_⟩
          by_cases hjk : j = k
          · subst hjk; exact Hx.out
          · exact HZ.out j (by omega)
        case measure => simp [intOf]; omega
      · have hb : (x != 0) = true := by simp [hx0]
        go_wp2
        go_ret
        refine ⟨ret_int ?_, rfl⟩
        have h3 := Hx.out
        have h4 := HZ.out
        unfold orI
        rcases (by omega : k = 0 ∨ k = 1 ∨ k = 2) with rfl | rfl | rfl
        · rw [if_pos (by rw [h3]; exact hx0), h3]
        · rw [if_neg (by simp [h4 0 (by omega)]), if_pos (by rw [h3]; exact hx0), h3]
        · rw [if_neg (by simp [h4 0 (by omega)]), if_neg (by simp [h4 1 (by omega)]), h3]
    · obtain rfl : k = 3 := by omega
      rw [show ((3 : Nat) : Int) = 3 from rfl]
      go_wp2
      go_ret
      refine ⟨ret_int ?_, rfl⟩
      have h4 := HZ.out
      unfold orI
      rw [if_neg (by simp [h4 0 (by omega)]), if_neg (by simp [h4 1 (by omega)]), h4 2 (by omega)]

end Go.Proofs.Ytegajjpfcjfadaa
