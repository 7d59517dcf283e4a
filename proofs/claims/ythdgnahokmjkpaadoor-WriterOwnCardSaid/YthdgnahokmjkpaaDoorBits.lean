/-
  Words of 32 bits as numbers of the model: what its operations give of them. No conditions.
-/
import Derived.WalkKit
namespace Go.Proofs.YthdgnahokmjkpaaDoor
open Go.RowKit

/-- The number of a word. -/
def U (x : BitVec 32) : Int := (x.toNat : Int)

theorem U_lo (x : BitVec 32) : 0 ≤ U x := by unfold U; omega
theorem U_hi (x : BitVec 32) : U x < 4294967296 := by unfold U; have := x.isLt; omega
theorem U_nat (x : BitVec 32) : (U x).toNat = x.toNat := by unfold U; omega
theorem U_ofNat (n : Nat) (h : n < 4294967296) : U (BitVec.ofNat 32 n) = (n : Int) := by unfold U; rw [BitVec.toNat_ofNat, Nat.mod_eq_of_lt (by omega)]
theorem U_inj {x y : BitVec 32} (h : U x = U y) : x = y := by unfold U at h; exact BitVec.eq_of_toNat_eq (by omega)
theorem U_beq (x y : BitVec 32) : (U x == U y) = (x == y) := by
  by_cases h : x = y
  · subst h; simp
  · rw [beq_eq_false_iff_ne.2 h, beq_eq_false_iff_ne.2 fun e => h (U_inj e)]

theorem U_xor (x y : BitVec 32) : bits .xor .u32 (U x) (U y) = U (x ^^^ y) := by
  unfold U
  rw [u32_xor_nat _ _ x.isLt y.isLt, BitVec.toNat_xor]
theorem U_and (x y : BitVec 32) : bits .and .u32 (U x) (U y) = U (x &&& y) := by
  unfold U
  rw [u32_and_nat _ _ x.isLt y.isLt, BitVec.toNat_and]
theorem U_or (x y : BitVec 32) : bits .or .u32 (U x) (U y) = U (x ||| y) := by
  unfold U
  rw [u32_or_nat _ _ x.isLt y.isLt, BitVec.toNat_or]
theorem U_add (x y : BitVec 32) : IntKind.u32.wrap (U x + U y) = U (x + y) := by
  rw [IntKind.wrap_u32']
  unfold U
  rw [BitVec.toNat_add]
  omega
theorem U_sub (x y : BitVec 32) : IntKind.u32.wrap (U x - U y) = U (x - y) := by
  rw [IntKind.wrap_u32']
  unfold U
  rw [BitVec.toNat_sub]
  have := x.isLt; have := y.isLt
  omega
theorem U_not (x : BitVec 32) : 4294967295 - U x = U (~~~x) := by
  unfold U
  rw [BitVec.toNat_not]
  have := x.isLt
  omega
theorem U_div (x : BitVec 32) (n : Nat) (m : Int) (hm : m = ((2 ^ n : Nat) : Int)) : U x / m = U (x >>> n) := by
  subst hm
  unfold U
  rw [BitVec.toNat_ushiftRight, Nat.shiftRight_eq_div_pow]
  omega
theorem U_div8 (x : BitVec 32) : U x / (8 : Int) = U (x >>> (3 : Nat)) := U_div x 3 8 rfl
theorem U_div1024 (x : BitVec 32) : U x / (1024 : Int) = U (x >>> (10 : Nat)) := U_div x 10 1024 rfl
theorem U_shl (x : BitVec 32) (n : Nat) (m : Int) (hm : m = ((2 ^ n : Nat) : Int)) : IntKind.u32.wrap (U x * m) = U (x <<< n) := by
  subst hm
  rw [IntKind.wrap_u32']
  unfold U
  rw [BitVec.toNat_shiftLeft, Nat.shiftLeft_eq]
  have : ((x.toNat : Int) * ((2 ^ n : Nat) : Int)) = ((x.toNat * 2 ^ n : Nat) : Int) := by simp
  rw [this]
  omega
theorem U_addm (x y : BitVec 32) : (U x + U y) % 4294967296 = U (x + y) := by rw [← IntKind.wrap_u32', U_add]
theorem U_subm (x y : BitVec 32) : (U x - U y) % 4294967296 = U (x - y) := by rw [← IntKind.wrap_u32', U_sub]
theorem U_notx (x : BitVec 32) : bits .xor .u32 IntKind.u32.max (U x) = U (~~~x) := by
  have h : IntKind.u32.max = U (BitVec.allOnes 32) := by decide
  rw [h, U_xor, BitVec.xor_comm]
  congr 1
  exact BitVec.xor_allOnes
theorem U_sum3 (a b c : BitVec 32) : (U a + U b + U c) % 4294967296 = U (a + b + c) := by
  rw [← U_addm (a + b) c, ← U_addm a b]
  omega
theorem U_sum4 (a b c d : BitVec 32) : (U a + U b + U c + U d) % 4294967296 = U (a + b + c + d) := by
  rw [← U_addm (a + b + c) d, ← U_addm (a + b) c, ← U_addm a b]
  omega
theorem U_rotm (x : BitVec 32) (r : Nat) (hr : r < 32) : bits .or .u32 (U x * 2 ^ r % 4294967296) (U x / 2 ^ (32 - r)) = U (x.rotateLeft r) := by
  rw [← IntKind.wrap_u32', U_shl x r _ (by simp), U_div x (32 - r) _ (by simp), U_or, BitVec.rotateLeft_def, Nat.mod_eq_of_lt hr]
theorem U_rot (x : BitVec 32) (n : Nat) (hn : n < 32) : x <<< n ||| x >>> (32 - n) = x.rotateLeft n := by
  rw [BitVec.rotateLeft_def, Nat.mod_eq_of_lt hn]

/-- One place to the right, round. -/
theorem turn_one (x : BitVec 32) : U x / 2 + U x % 2 * 2147483648 = U (x.rotateRight 1) := by
  unfold U
  have hx := x.isLt
  have h1 : (x.rotateRight 1).toNat = x.toNat / 2 + x.toNat % 2 * 2147483648 := by
    rw [BitVec.rotateRight_def, Nat.mod_eq_of_lt (by decide : 1 < 32), BitVec.toNat_or, BitVec.toNat_ushiftRight, BitVec.toNat_shiftLeft, Nat.shiftRight_eq_div_pow, Nat.shiftLeft_eq]
    have h2 : x.toNat * 2147483648 % 4294967296 = x.toNat % 2 * 2147483648 := by omega
    have h3 : x.toNat / 2 < 2147483648 := by omega
    generalize x.toNat = n at h2 h3
    show n / 2 ^ 1 ||| n * 2147483648 % 4294967296 = _
    rw [h2, Nat.or_comm, Nat.pow_one]
    have h4 := nat_join 31 (n % 2 * 2 ^ 31) (n / 2) (Nat.mul_mod_left _ _) h3
    have h5 : (2 : Nat) ^ 31 = 2147483648 := by decide
    rw [h5] at h4
    rw [h4]
    omega
  rw [h1]
  omega

/-- n places to the right, round. -/
def rr (x : BitVec 32) : Nat → BitVec 32
  | 0 => x
  | n + 1 => (rr x n).rotateRight 1

theorem rr_eq (x : BitVec 32) (n : Nat) (hn : n < 32) : rr x n = x.rotateRight n := by
  induction n with
  | zero =>
    apply BitVec.eq_of_getLsbD_eq
    intro i hi
    simp only [rr, BitVec.getLsbD_rotateRight]
    simp [hi]
  | succ n ih =>
    rw [rr, ih (by omega)]
    apply BitVec.eq_of_getLsbD_eq
    intro i hi
    simp only [BitVec.getLsbD_rotateRight, Nat.mod_eq_of_lt (by omega : n < 32), Nat.mod_eq_of_lt (by omega : 1 < 32), Nat.mod_eq_of_lt hn]
    by_cases h1 : i < 32 - 1
    · by_cases h2 : 1 + i < 32 - n
      · have h3 : i < 32 - (n + 1) := by omega
        simp only [h1, h2, h3, decide_true, cond_true]
        congr 1
        omega
      · have h3 : ¬ i < 32 - (n + 1) := by omega
        have h4 : 1 + i < 32 := by omega
        have e : 1 + i - (32 - n) = i - (32 - (n + 1)) := by omega
        simp only [h1, h2, h3, h4, hi, decide_true, decide_false, cond_true, cond_false, e]
    · have h2 : i - (32 - 1) < 32 - n := by omega
      have h3 : ¬ i < 32 - (n + 1) := by omega
      have e : n + (i - (32 - 1)) = i - (32 - (n + 1)) := by omega
      simp only [h1, h2, h3, hi, decide_true, decide_false, cond_true, cond_false, e]

theorem rotL_rr (x : BitVec 32) (n m : Nat) (hn : 0 < n) (hm : 0 < m) (h : n + m = 32) : x.rotateLeft m = rr x n := by
  rw [rr_eq x n (by omega), BitVec.rotateLeft_def, BitVec.rotateRight_def, Nat.mod_eq_of_lt (by omega : m < 32), Nat.mod_eq_of_lt (by omega : n < 32), show 32 - m = n by omega, show 32 - n = m by omega, BitVec.or_comm]

end Go.Proofs.YthdgnahokmjkpaaDoor
