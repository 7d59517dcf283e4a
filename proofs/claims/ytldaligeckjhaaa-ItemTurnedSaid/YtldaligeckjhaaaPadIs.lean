/-
  The walks of pad.Bucket and pad.Is. No conditions but ranges.
-/
import Derived.Test.YtldaligeckjhaaaBys
import Derived.Lib.Hide
namespace Go.Proofs.Ytldaligeckjhaaa
open Go.ChangeShapes Go.WideShapes Go.ChangeAt Go.RowKit

/-- The bucket of a length, and the error. -/
def bktF (m : Int) : Int × Int :=
  if m < 0 then (0, 1) else if m < 64 then (64, 0) else if m < 128 then (128, 0) else if m < 256 then (256, 0) else if m < 512 then (512, 0) else if m < 1024 then (1024, 0) else if m < 2048 then (2048, 0) else (0, 3)
/-- Whether a length is a bucket. -/
def isB (n : Int) : Bool := decide (n = 64 ∨ n = 128 ∨ n = 256 ∨ n = 512 ∨ n = 1024 ∨ n = 2048)

set_option maxHeartbeats 1000000 in
set_option maxRecDepth 100000 in
theorem bucket_any (m : Int) (w : World) : Calls Try.prog 88 #[.int .i64 m] w fun e w' => e = .returned (.tuple #[.int .i64 (bktF m).1, .int .i64 (bktF m).2]) ∧ w' = w := by
  obtain ⟨R, hR⟩ : ∃ R, bktF m = R := ⟨_, rfl⟩
  have HR := Lib.hid hR
  rw [hR]
  clear hR
  by_cases h0 : m < 0
  · have hr : R = (0, 1) := by rw [← HR.out, bktF, if_pos h0]
    subst hr
    go_enter Try.func88, Try.ntmps88
    go_wp2
    go_ret2
    exact ⟨rfl, rfl⟩
  · have x0 : 0 ≤ m := by omega
    have x0' : ¬ m < 0 := by omega
    clear h0
    go_enter Try.func88, Try.ntmps88
    go_wp2
    go_loopw [7] (fun i wr => ∃ k : Nat, k ≤ 6 ∧ i = .int .i64 (k : Int) ∧ (0 < k → 64 ≤ m) ∧ (1 < k → 128 ≤ m) ∧ (2 < k → 256 ≤ m) ∧ (3 < k → 512 ≤ m) ∧ (4 < k → 1024 ≤ m) ∧ (5 < k → 2048 ≤ m) ∧ wr = w) (fun i _ => 6 - (intOf i).toNat)
    case atStart => exact ⟨0, Nat.zero_le _, rfl, by omega, by omega, by omega, by omega, by omega, by omega, rfl⟩
    case round =>
      obtain ⟨k, hk, rfl, k0, k1, k2, k3, k4, k5, rfl⟩ := hrel
      rcases (by omega : k = 0 ∨ k = 1 ∨ k = 2 ∨ k = 3 ∨ k = 4 ∨ k = 5 ∨ k = 6) with rfl | rfl | rfl | rfl | rfl | rfl | rfl
      · by_cases h : m < 64
        · have hr : R = (64, 0) := by rw [← HR.out]; unfold bktF; repeat (first | rw [if_neg (by omega)] | rw [if_pos (by omega)])
          subst hr
          clear k0 k1 k2 k3 k4 k5
          go_wp2
          go_ret2
          exact ⟨rfl, rfl⟩
        · have h' : 64 ≤ m := by omega
          clear k0 k1 k2 k3 k4 k5
          go_wp2
          go_roundw
          case rel => exact ⟨1, by omega, rfl, by omega, by omega, by omega, by omega, by omega, by omega, by first | rfl | trivial⟩
          case measure => simp [intOf]
      · have q := k0 (by omega)
        by_cases h : m < 128
        · have hr : R = (128, 0) := by rw [← HR.out]; unfold bktF; repeat (first | rw [if_neg (by omega)] | rw [if_pos (by omega)])
          subst hr
          clear k0 k1 k2 k3 k4 k5
          go_wp2
          go_ret2
          exact ⟨rfl, rfl⟩
        · have h' : 128 ≤ m := by omega
          clear k0 k1 k2 k3 k4 k5
          go_wp2
          go_roundw
          case rel => exact ⟨2, by omega, rfl, by omega, by omega, by omega, by omega, by omega, by omega, by first | rfl | trivial⟩
          case measure => simp [intOf]
      · have q := k1 (by omega)
        by_cases h : m < 256
        · have hr : R = (256, 0) := by rw [← HR.out]; unfold bktF; repeat (first | rw [if_neg (by omega)] | rw [if_pos (by omega)])
          subst hr
          clear k0 k1 k2 k3 k4 k5
          go_wp2
          go_ret2
          exact ⟨rfl, rfl⟩
        · have h' : 256 ≤ m := by omega
          clear k0 k1 k2 k3 k4 k5
          go_wp2
          go_roundw
          case rel => exact ⟨3, by omega, rfl, by omega, by omega, by omega, by omega, by omega, by omega, by first | rfl | trivial⟩
          case measure => simp [intOf]
      · have q := k2 (by omega)
        by_cases h : m < 512
        · have hr : R = (512, 0) := by rw [← HR.out]; unfold bktF; repeat (first | rw [if_neg (by omega)] | rw [if_pos (by omega)])
          subst hr
          clear k0 k1 k2 k3 k4 k5
          go_wp2
          go_ret2
          exact ⟨rfl, rfl⟩
        · have h' : 512 ≤ m := by omega
          clear k0 k1 k2 k3 k4 k5
          go_wp2
          go_roundw
          case rel => exact ⟨4, by omega, rfl, by omega, by omega, by omega, by omega, by omega, by omega, by first | rfl | trivial⟩
          case measure => simp [intOf]
      · have q := k3 (by omega)
        by_cases h : m < 1024
        · have hr : R = (1024, 0) := by rw [← HR.out]; unfold bktF; repeat (first | rw [if_neg (by omega)] | rw [if_pos (by omega)])
          subst hr
          clear k0 k1 k2 k3 k4 k5
          go_wp2
          go_ret2
          exact ⟨rfl, rfl⟩
        · have h' : 1024 ≤ m := by omega
          clear k0 k1 k2 k3 k4 k5
          go_wp2
          go_roundw
          case rel => exact ⟨5, by omega, rfl, by omega, by omega, by omega, by omega, by omega, by omega, by first | rfl | trivial⟩
          case measure => simp [intOf]
      · have q := k4 (by omega)
        by_cases h : m < 2048
        · have hr : R = (2048, 0) := by rw [← HR.out]; unfold bktF; repeat (first | rw [if_neg (by omega)] | rw [if_pos (by omega)])
          subst hr
          clear k0 k1 k2 k3 k4 k5
          go_wp2
          go_ret2
          exact ⟨rfl, rfl⟩
        · have h' : 2048 ≤ m := by omega
          clear k0 k1 k2 k3 k4 k5
          go_wp2
          go_roundw
          case rel => exact ⟨6, by omega, rfl, by omega, by omega, by omega, by omega, by omega, by omega, by first | rfl | trivial⟩
          case measure => simp [intOf]
      · have q := k5 (by omega)
        have hr : R = (0, 3) := by rw [← HR.out]; unfold bktF; repeat (first | rw [if_neg (by omega)] | rw [if_pos (by omega)])
        subst hr
        clear k0 k1 k2 k3 k4 k5
        go_wp2
        go_ret2
        exact ⟨rfl, rfl⟩

theorem isB_bkt (n m : Int) (hlo : -9223372036854775808 ≤ n) (hhi : n ≤ 9223372036854775807) (hm : m = IntKind.i64.wrap (n - 1)) : isB n = (((bktF m).2 == 0) && ((bktF m).1 == n)) := by
  have h1 : m = n - 1 ∨ (n = -9223372036854775808 ∧ m = 9223372036854775807) := by
    rw [hm, IntKind.wrap_i64]
    by_cases h : n = -9223372036854775808
    · right
      subst h
      decide
    · left
      omega
  rw [Bool.eq_iff_iff]
  unfold isB
  simp only [decide_eq_true_eq, Bool.and_eq_true, beq_iff_eq]
  constructor
  · intro h
    rcases h with rfl | rfl | rfl | rfl | rfl | rfl
    · obtain rfl : m = 63 := by omega
      decide
    · obtain rfl : m = 127 := by omega
      decide
    · obtain rfl : m = 255 := by omega
      decide
    · obtain rfl : m = 511 := by omega
      decide
    · obtain rfl : m = 1023 := by omega
      decide
    · obtain rfl : m = 2047 := by omega
      decide
  · intro h
    unfold bktF at h
    split at h
    · simp at h
    · repeat (split at h; · simp only at h; omega)
      simp at h

set_option maxRecDepth 100000 in
theorem padIs_any (n : Int) (w : World) (hlo : -9223372036854775808 ≤ n) (hhi : n ≤ 9223372036854775807) : Calls Try.prog 70 #[.int .i64 n] w fun e w' => e = .returned (.bool (isB n)) ∧ w' = w := by
  obtain ⟨m, hm⟩ : ∃ m, IntKind.i64.wrap (n - 1) = m := ⟨_, rfl⟩
  have hb := isB_bkt n m hlo hhi hm.symm
  have HM := Lib.hid hm
  obtain ⟨B, hB⟩ : ∃ B, (bktF m).1 = B := ⟨_, rfl⟩
  obtain ⟨E, hE⟩ : ∃ E, (bktF m).2 = E := ⟨_, rfl⟩
  have hc := bucket_any m w
  rw [hB, hE] at hc hb
  have HC := Lib.hid hc
  have HB := Lib.hid hb
  clear hb hB hE hc
  by_cases h0 : E = 0
  · subst h0
    go_enter Try.func70, Try.ntmps70
    go_wp2_with fail
    refine HC.out.mono ?_
    rintro e w1 ⟨rfl, rfl⟩
    go_wp2
    go_ret
    exact ⟨by rw [HB.out]; rfl, rfl⟩
  · have x1 : (E == 0) = false := by simpa using h0
    have HX := Lib.hid x1
    go_enter Try.func70, Try.ntmps70
    go_wp2_with fail
    refine HC.out.mono ?_
    rintro e w1 ⟨rfl, rfl⟩
    go_wp2
    go_ret
    exact ⟨by rw [HB.out, HX.out]; rfl, rfl⟩

end Go.Proofs.Ytldaligeckjhaaa
