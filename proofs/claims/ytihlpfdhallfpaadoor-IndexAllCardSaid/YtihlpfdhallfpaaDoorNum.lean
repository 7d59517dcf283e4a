/-
  The walks of pad.Bucket and pad.Is. No conditions but ranges.
  Numbers as bytes of seven bits, and back: plain laws. No conditions.
-/
import Derived.Test.YtihlpfdhallfpaaDoorBys
import Derived.Lib.Hide
import Derived.WalkKit
namespace Go.Proofs.YtihlpfdhallfpaaDoor
open Go.ChangeAt Go.ChangeShapes Go.RowKit Go.WideShapes

/-- The bucket of a length, and the error. -/
def bktF (m : Int) : Int × Int :=
  if m < 0 then (0, 1) else if m < 64 then (64, 0) else if m < 128 then (128, 0) else if m < 256 then (256, 0) else if m < 512 then (512, 0) else if m < 1024 then (1024, 0) else if m < 2048 then (2048, 0) else (0, 3)
/-- Whether a length is a bucket. -/
def isB (n : Int) : Bool := decide (n = 64 ∨ n = 128 ∨ n = 256 ∨ n = 512 ∨ n = 1024 ∨ n = 2048)

set_option maxHeartbeats 1000000 in
set_option maxRecDepth 100000 in
theorem bucket_any (m : Int) (w : World) : Calls Tryd.prog 82 #[.int .i64 m] w fun e w' => e = .returned (.tuple #[.int .i64 (bktF m).1, .int .i64 (bktF m).2]) ∧ w' = w := by
  obtain ⟨R, hR⟩ : ∃ R, bktF m = R := ⟨_, rfl⟩
  have HR := Lib.hid hR
  rw [hR]
  clear hR
  by_cases h0 : m < 0
  · have hr : R = (0, 1) := by rw [← HR.out, bktF, if_pos h0]
    subst hr
    go_enter Tryd.func82, Tryd.ntmps82
    go_wp2
    go_ret2
    exact ⟨rfl, rfl⟩
  · have x0 : 0 ≤ m := by omega
    have x0' : ¬ m < 0 := by omega
    clear h0
    go_enter Tryd.func82, Tryd.ntmps82
    go_wp2
    go_loopw [7] (fun i wr => ∃ k : Nat, k ≤ 6 ∧ i = .int .i64 (k : Int) ∧ (0 < k → 64 ≤ m) ∧ (1 < k → 128 ≤ m) ∧ (2 < k → 256 ≤ m) ∧ (3 < k → 512 ≤ m) ∧ (4 < k → 1024 ≤ m) ∧ (5 < k → 2048 ≤ m) ∧ wr = w) (fun i _ => 6 - (intOf i).toNat)
    case atStart => exact ⟨0, Nat.zero_le _, rfl, by omega, by omega, by omega, by omega, by omega, by omega, rfl⟩
    case round =>
      obtain ⟨k, hk, rfl, k0, k1, k2, k3, k4, k5, rfl⟩ := hrel
      rcases (by omega : k = 0 ∨ k = 1 ∨ k = 2 ∨ k = 3 ∨ k = 4 ∨ k = 5 ∨ k = 6) with rfl | rfl | rfl | rfl | rfl | rfl | rfl
      · by_cases h : m < 64
        · have hr : R = (64, 0) := by rw [← HR.out]; unfold bktF; repeat (first | rw [if_neg (by omega)] | rw [if_pos (by omega)])
          subst hr
          clear k0 k1 k2 k3 k4 k5
          go_wp2
          go_ret2
          exact ⟨rfl, rfl⟩
        · have h' : 64 ≤ m := by omega
          clear k0 k1 k2 k3 k4 k5
          go_wp2
          go_roundw
          case rel => exact ⟨1, by omega, rfl, by omega, by omega, by omega, by omega, by omega, by omega, by first | rfl | trivial⟩
          case measure => simp [intOf]
      · have q := k0 (by omega)
        by_cases h : m < 128
        · have hr : R = (128, 0) := by rw [← HR.out]; unfold bktF; repeat (first | rw [if_neg (by omega)] | rw [if_pos (by omega)])
          subst hr
          clear k0 k1 k2 k3 k4 k5
          go_wp2
          go_ret2
          exact ⟨rfl, rfl⟩
        · have h' : 128 ≤ m := by omega
          clear k0 k1 k2 k3 k4 k5
          go_wp2
          go_roundw
          case rel => exact ⟨2, by omega, rfl, by omega, by omega, by omega, by omega, by omega, by omega, by first | rfl | trivial⟩
          case measure => simp [intOf]
      · have q := k1 (by omega)
        by_cases h : m < 256
        · have hr : R = (256, 0) := by rw [← HR.out]; unfold bktF; repeat (first | rw [if_neg (by omega)] | rw [if_pos (by omega)])
          subst hr
          clear k0 k1 k2 k3 k4 k5
          go_wp2
          go_ret2
          exact ⟨rfl, rfl⟩
        · have h' : 256 ≤ m := by omega
          clear k0 k1 k2 k3 k4 k5
          go_wp2
          go_roundw
          case rel => exact ⟨3, by omega, rfl, by omega, by omega, by omega, by omega, by omega, by omega, by first | rfl | trivial⟩
          case measure => simp [intOf]
      · have q := k2 (by omega)
        by_cases h : m < 512
        · have hr : R = (512, 0) := by rw [← HR.out]; unfold bktF; repeat (first | rw [if_neg (by omega)] | rw [if_pos (by omega)])
          subst hr
          clear k0 k1 k2 k3 k4 k5
          go_wp2
          go_ret2
          exact ⟨rfl, rfl⟩
        · have h' : 512 ≤ m := by omega
          clear k0 k1 k2 k3 k4 k5
          go_wp2
          go_roundw
          case rel => exact ⟨4, by omega, rfl, by omega, by omega, by omega, by omega, by omega, by omega, by first | rfl | trivial⟩
          case measure => simp [intOf]
      · have q := k3 (by omega)
        by_cases h : m < 1024
        · have hr : R = (1024, 0) := by rw [← HR.out]; unfold bktF; repeat (first | rw [if_neg (by omega)] | rw [if_pos (by omega)])
          subst hr
          clear k0 k1 k2 k3 k4 k5
          go_wp2
          go_ret2
          exact ⟨rfl, rfl⟩
        · have h' : 1024 ≤ m := by omega
          clear k0 k1 k2 k3 k4 k5
          go_wp2
          go_roundw
          case rel => exact ⟨5, by omega, rfl, by omega, by omega, by omega, by omega, by omega, by omega, by first | rfl | trivial⟩
          case measure => simp [intOf]
      · have q := k4 (by omega)
        by_cases h : m < 2048
        · have hr : R = (2048, 0) := by rw [← HR.out]; unfold bktF; repeat (first | rw [if_neg (by omega)] | rw [if_pos (by omega)])
          subst hr
          clear k0 k1 k2 k3 k4 k5
          go_wp2
          go_ret2
          exact ⟨rfl, rfl⟩
        · have h' : 2048 ≤ m := by omega
          clear k0 k1 k2 k3 k4 k5
          go_wp2
          go_roundw
          case rel => exact ⟨6, by omega, rfl, by omega, by omega, by omega, by omega, by omega, by omega, by first | rfl | trivial⟩
          case measure => simp [intOf]
      · have q := k5 (by omega)
        have hr : R = (0, 3) := by rw [← HR.out]; unfold bktF; repeat (first | rw [if_neg (by omega)] | rw [if_pos (by omega)])
        subst hr
        clear k0 k1 k2 k3 k4 k5
        go_wp2
        go_ret2
        exact ⟨rfl, rfl⟩

theorem isB_bkt (n m : Int) (hlo : -9223372036854775808 ≤ n) (hhi : n ≤ 9223372036854775807) (hm : m = IntKind.i64.wrap (n - 1)) : isB n = (((bktF m).2 == 0) && ((bktF m).1 == n)) := by
  have h1 : m = n - 1 ∨ (n = -9223372036854775808 ∧ m = 9223372036854775807) := by
    rw [hm, IntKind.wrap_i64]
    by_cases h : n = -9223372036854775808
    · right
      subst h
      decide
    · left
      omega
  rw [Bool.eq_iff_iff]
  unfold isB
  simp only [decide_eq_true_eq, Bool.and_eq_true, beq_iff_eq]
  constructor
  · intro h
    rcases h with rfl | rfl | rfl | rfl | rfl | rfl
    · obtain rfl : m = 63 := by omega
      decide
    · obtain rfl : m = 127 := by omega
      decide
    · obtain rfl : m = 255 := by omega
      decide
    · obtain rfl : m = 511 := by omega
      decide
    · obtain rfl : m = 1023 := by omega
      decide
    · obtain rfl : m = 2047 := by omega
      decide
  · intro h
    unfold bktF at h
    split at h
    · simp at h
    · repeat (split at h; · simp only at h; omega)
      simp at h

set_option maxRecDepth 100000 in
theorem padIs_any (n : Int) (w : World) (hlo : -9223372036854775808 ≤ n) (hhi : n ≤ 9223372036854775807) : Calls Tryd.prog 66 #[.int .i64 n] w fun e w' => e = .returned (.bool (isB n)) ∧ w' = w := by
  obtain ⟨m, hm⟩ : ∃ m, IntKind.i64.wrap (n - 1) = m := ⟨_, rfl⟩
  have hb := isB_bkt n m hlo hhi hm.symm
  have HM := Lib.hid hm
  obtain ⟨B, hB⟩ : ∃ B, (bktF m).1 = B := ⟨_, rfl⟩
  obtain ⟨E, hE⟩ : ∃ E, (bktF m).2 = E := ⟨_, rfl⟩
  have hc := bucket_any m w
  rw [hB, hE] at hc hb
  have HC := Lib.hid hc
  have HB := Lib.hid hb
  clear hb hB hE hc
  by_cases h0 : E = 0
  · subst h0
    go_enter Tryd.func66, Tryd.ntmps66
    go_wp2_with fail
    refine HC.out.mono ?_
    rintro e w1 ⟨rfl, rfl⟩
    go_wp2
    go_ret
    exact ⟨by rw [HB.out]; rfl, rfl⟩
  · have x1 : (E == 0) = false := by simpa using h0
    have HX := Lib.hid x1
    go_enter Tryd.func66, Tryd.ntmps66
    go_wp2_with fail
    refine HC.out.mono ?_
    rintro e w1 ⟨rfl, rfl⟩
    go_wp2
    go_ret
    exact ⟨by rw [HB.out, HX.out]; rfl, rfl⟩

/-- A number's bytes, at most k. -/
def numB : Nat → Int → List Int
  | 0, _ => []
  | k + 1, x => if x < 128 then [x] else (x % 128 + 128) :: numB k (x / 128)
/-- A number's bytes (of 64 bits). -/
def numL (x : Int) : List Int := numB 10 x

theorem numB_byte : ∀ (k : Nat) (x : Int), 0 ≤ x → ∀ y ∈ numB k x, 0 ≤ y ∧ y < 256
  | 0, _, _, y, hy => by simp [numB] at hy
  | k + 1, x, h0, y, hy => by
    rw [numB] at hy
    split at hy
    · simp at hy; omega
    · rcases List.mem_cons.1 hy with rfl | h
      · omega
      · exact numB_byte k (x / 128) (by omega) y h
theorem numL_byte (x : Int) (h : 0 ≤ x) : ∀ y ∈ numL x, 0 ≤ y ∧ y < 256 := numB_byte 10 x h

theorem numB_length_le : ∀ (k : Nat) (x : Int), (numB k x).length ≤ k
  | 0, _ => by simp [numB]
  | k + 1, x => by
    rw [numB]
    split
    · simp
    · have := numB_length_le k (x / 128)
      simp; omega
theorem numL_length_le (x : Int) : (numL x).length ≤ 10 := numB_length_le 10 x
theorem numB_length_pos (k : Nat) (x : Int) : 0 < (numB (k + 1) x).length := by
  rw [numB]
  split <;> simp
theorem numL_length_pos (x : Int) : 0 < (numL x).length := numB_length_pos 9 x

theorem numL_small (x : Int) (h : x < 128) : numL x = [x] := by
  unfold numL numB
  rw [if_pos h]

/-- The number that stands at the head of some bytes, and how many bytes it has (0: none). -/
def takeN (n : Nat) (x : Int) : List Int → Int × Nat
  | [] => (0, 0)
  | c :: r => if n = 9 ∧ 1 < c ∨ 9 < n then (0, 0) else if c < 128 then (if c = 0 ∧ 0 < n then (0, 0) else (x + c % 128 * 2 ^ (7 * n), n + 1)) else takeN (n + 1) (x + c % 128 * 2 ^ (7 * n)) r
def numT (xs : List Int) : Int × Nat := takeN 0 0 xs

theorem pow7 (n : Nat) : (2 : Int) ^ (7 * (n + 1)) = 128 * 2 ^ (7 * n) := by
  rw [show 7 * (n + 1) = 7 * n + 7 by omega, Int.pow_add]
  omega
theorem pow7_pos (n : Nat) : (0 : Int) < 2 ^ (7 * n) := Int.pow_pos (by omega)

/-- What was packed is taken. -/
theorem takeN_numB : ∀ (k n : Nat) (x y : Int) (r : List Int), n + k = 10 → 0 < k → 0 ≤ x → x < 2 ^ (64 - 7 * n) → (0 < n → 0 < x) → takeN n y (numB k x ++ r) = (y + x * 2 ^ (7 * n), n + (numB k x).length)
  | 0, n, x, y, r, _, h, _, _, _ => by omega
  | k + 1, n, x, y, r, hk, _, h0, h1, hp => by
    have h9 : n = 9 → x < 2 := by
      rintro rfl
      simpa using h1
    rw [numB]
    by_cases hx : x < 128
    · rw [if_pos hx]
      simp only [List.cons_append, List.nil_append, takeN]
      rw [if_neg (by omega), if_pos hx, if_neg (by omega), Int.emod_eq_of_lt h0 hx]
      rfl
    · rw [if_neg hx]
      have hn : n < 9 := by
        rcases Nat.lt_or_ge n 9 with h | h
        · exact h
        · have : n = 9 := by omega
          have := h9 this
          omega
      simp only [List.cons_append, takeN]
      rw [if_neg (by omega), if_neg (by omega)]
      have hpw : (2 : Int) ^ (64 - 7 * n) = 128 * 2 ^ (64 - 7 * (n + 1)) := by
        rw [show 64 - 7 * n = 64 - 7 * (n + 1) + 7 by omega, Int.pow_add]
        omega
      rw [hpw] at h1
      rw [takeN_numB k (n + 1) (x / 128) _ r (by omega) (by omega) (by omega) (by omega) (by omega)]
      have e : (x % 128 + 128) % 128 = x % 128 := by omega
      rw [e, pow7]
      refine Prod.ext ?_ ?_
      · show y + x % 128 * 2 ^ (7 * n) + x / 128 * (128 * 2 ^ (7 * n)) = y + x * 2 ^ (7 * n)
        have h2 : x = x / 128 * 128 + x % 128 := by omega
        conv => rhs; rw [h2]
        rw [Int.add_mul, Int.mul_assoc]
        omega
      · show n + 1 + (numB k (x / 128)).length = n + ((x % 128 + 128) :: numB k (x / 128)).length
        simp
        omega

theorem numT_numL (x : Int) (r : List Int) (h0 : 0 ≤ x) (h1 : x < 18446744073709551616) : numT (numL x ++ r) = (x, (numL x).length) := by
  unfold numT numL
  rw [takeN_numB 10 0 x 0 r (by omega) (by omega) h0 (by simpa using h1) (by omega)]
  simp

/-- What is taken was packed so. -/
theorem takeN_back : ∀ (k n : Nat) (y : Int) (xs : List Int) (x : Int) (m : Nat), n + k = 10 → (∀ c ∈ xs, 0 ≤ c ∧ c < 256) → takeN n y xs = (x, m) → 0 < m →
    ∃ z, x = y + z * 2 ^ (7 * n) ∧ 0 ≤ z ∧ z < 2 ^ (64 - 7 * n) ∧ (0 < n → 0 < z) ∧ n < m ∧ m ≤ 10 ∧ m - n ≤ xs.length ∧ xs.take (m - n) = numB k z
  | k, n, y, [], x, m, _, _, h, hm => by
    simp [takeN] at h
    omega
  | k, n, y, c :: r, x, m, hk, hb, h, hm => by
    have hc := hb c (by simp)
    rw [takeN] at h
    by_cases h9 : n = 9 ∧ 1 < c ∨ 9 < n
    · rw [if_pos h9] at h
      simp at h
      omega
    · rw [if_neg h9] at h
      by_cases hlt : c < 128
      · rw [if_pos hlt] at h
        by_cases hz : c = 0 ∧ 0 < n
        · rw [if_pos hz] at h
          simp at h
          omega
        · rw [if_neg hz, Int.emod_eq_of_lt hc.1 hlt] at h
          simp only [Prod.mk.injEq] at h
          obtain ⟨rfl, rfl⟩ := h
          refine ⟨c, rfl, hc.1, ?_, by omega, by omega, by omega, by simp only [List.length_cons]; omega, ?_⟩
          · by_cases h8 : n = 9
            · subst h8
              have : c ≤ 1 := by omega
              show c < 2 ^ 1
              omega
            · have h7 : (2 : Int) ^ 7 ≤ 2 ^ (64 - 7 * n) := by
                rw [show 64 - 7 * n = (57 - 7 * n) + 7 by omega, Int.pow_add]
                have : (0 : Int) < 2 ^ (57 - 7 * n) := Int.pow_pos (by omega)
                omega
              have : (2 : Int) ^ 7 = 128 := by decide
              omega
          · obtain ⟨k', rfl⟩ : ∃ k', k = k' + 1 := ⟨k - 1, by omega⟩
            rw [show n + 1 - n = 1 by omega, numB, if_pos hlt]
            simp
      · rw [if_neg hlt] at h
        have hn9 : n < 9 := by omega
        obtain ⟨z, hx, hz0, hz1, hz2, hnm, hm10, hl, ht⟩ := takeN_back (k - 1) (n + 1) _ r x m (by omega) (fun d hd => hb d (by simp [hd])) h hm
        have hpw : (2 : Int) ^ (64 - 7 * n) = 128 * 2 ^ (64 - 7 * (n + 1)) := by
          rw [show 64 - 7 * n = 64 - 7 * (n + 1) + 7 by omega, Int.pow_add]
          omega
        have hzp := hz2 (by omega)
        refine ⟨z * 128 + c % 128, ?_, by omega, by rw [hpw]; omega, by omega, by omega, hm10, by simp; omega, ?_⟩
        · rw [hx, pow7, Int.add_mul, Int.mul_assoc]
          omega
        · obtain ⟨k', rfl⟩ : ∃ k', k = k' + 1 := ⟨k - 1, by omega⟩
          rw [show m - n = (m - (n + 1)) + 1 by omega, List.take_succ_cons, ht, numB, if_neg (by omega)]
          have e1 : (z * 128 + c % 128) % 128 + 128 = c := by omega
          have e2 : (z * 128 + c % 128) / 128 = z := by omega
          rw [e1, e2]
          rfl

theorem numT_back {xs : List Int} {x : Int} {m : Nat} (hb : ∀ c ∈ xs, 0 ≤ c ∧ c < 256) (h : numT xs = (x, m)) (hm : 0 < m) : 0 ≤ x ∧ x < 18446744073709551616 ∧ m ≤ xs.length ∧ xs.take m = numL x := by
  obtain ⟨z, hx, h0, h1, _, _, _, hl, ht⟩ := takeN_back 10 0 0 xs x m (by omega) hb h hm
  simp only [Nat.mul_zero, Int.pow_zero, Int.mul_one, Int.zero_add] at hx
  subst hx
  exact ⟨h0, by simpa using h1, by omega, ht⟩

end Go.Proofs.YtihlpfdhallfpaaDoor
