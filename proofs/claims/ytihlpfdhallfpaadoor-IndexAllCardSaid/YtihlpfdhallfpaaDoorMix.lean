/-
  Words of 32 bits as numbers of the model: what its operations give of them. No conditions.
  Contracts of the smallest functions that the hash uses: turning words, numbers of bytes. No conditions.
  What SHA-256 computes, in plain Lean: the words of a block, the rounds. No conditions.
  The walk of hash.spread: it returns the 64 words of a block of 64 bytes. No conditions.
  The walk of (*state).mix: a block is taken into the eight words. Asked: the table of 64 words lies as the text lays it.
-/
import Derived.WalkKit
import Derived.Test.YtihlpfdhallfpaaDoorRows
import Derived.ProofKit
import Derived.OpenShut
import Derived.Below
import Derived.WalkLawsBesides
import Derived.WalkSpells
import Derived.Lib.Hide
import Derived.Test.YtihlpfdhallfpaaDoorBase
import Derived.Deep.OwnRows
import Derived.Deep.MidRow
import Derived.BigQuiet
import Derived.StillTailTactics
import Derived.Deep.QuietTactic
namespace Go.Proofs.YtihlpfdhallfpaaDoor
open Go.ChangeAt Go.ChangeShapes Go.RowKit Go.WideShapes

/-- The number of a word. -/
def U (x : BitVec 32) : Int := (x.toNat : Int)

theorem U_lo (x : BitVec 32) : 0 ≤ U x := by unfold U; omega
theorem U_hi (x : BitVec 32) : U x < 4294967296 := by unfold U; have := x.isLt; omega
theorem U_nat (x : BitVec 32) : (U x).toNat = x.toNat := by unfold U; omega
theorem U_ofNat (n : Nat) (h : n < 4294967296) : U (BitVec.ofNat 32 n) = (n : Int) := by unfold U; rw [BitVec.toNat_ofNat, Nat.mod_eq_of_lt (by omega)]
theorem U_inj {x y : BitVec 32} (h : U x = U y) : x = y := by unfold U at h; exact BitVec.eq_of_toNat_eq (by omega)
theorem U_beq (x y : BitVec 32) : (U x == U y) = (x == y) := by
  by_cases h : x = y
  · subst h; simp
  · rw [beq_eq_false_iff_ne.2 h, beq_eq_false_iff_ne.2 fun e => h (U_inj e)]

theorem U_xor (x y : BitVec 32) : bits .xor .u32 (U x) (U y) = U (x ^^^ y) := by
  unfold U
  rw [u32_xor_nat _ _ x.isLt y.isLt, BitVec.toNat_xor]
theorem U_and (x y : BitVec 32) : bits .and .u32 (U x) (U y) = U (x &&& y) := by
  unfold U
  rw [u32_and_nat _ _ x.isLt y.isLt, BitVec.toNat_and]
theorem U_or (x y : BitVec 32) : bits .or .u32 (U x) (U y) = U (x ||| y) := by
  unfold U
  rw [u32_or_nat _ _ x.isLt y.isLt, BitVec.toNat_or]
theorem U_add (x y : BitVec 32) : IntKind.u32.wrap (U x + U y) = U (x + y) := by
  rw [IntKind.wrap_u32']
  unfold U
  rw [BitVec.toNat_add]
  omega
theorem U_sub (x y : BitVec 32) : IntKind.u32.wrap (U x - U y) = U (x - y) := by
  rw [IntKind.wrap_u32']
  unfold U
  rw [BitVec.toNat_sub]
  have := x.isLt; have := y.isLt
  omega
theorem U_not (x : BitVec 32) : 4294967295 - U x = U (~~~x) := by
  unfold U
  rw [BitVec.toNat_not]
  have := x.isLt
  omega
theorem U_div (x : BitVec 32) (n : Nat) (m : Int) (hm : m = ((2 ^ n : Nat) : Int)) : U x / m = U (x >>> n) := by
  subst hm
  unfold U
  rw [BitVec.toNat_ushiftRight, Nat.shiftRight_eq_div_pow]
  omega
theorem U_div8 (x : BitVec 32) : U x / (8 : Int) = U (x >>> (3 : Nat)) := U_div x 3 8 rfl
theorem U_div1024 (x : BitVec 32) : U x / (1024 : Int) = U (x >>> (10 : Nat)) := U_div x 10 1024 rfl
theorem U_shl (x : BitVec 32) (n : Nat) (m : Int) (hm : m = ((2 ^ n : Nat) : Int)) : IntKind.u32.wrap (U x * m) = U (x <<< n) := by
  subst hm
  rw [IntKind.wrap_u32']
  unfold U
  rw [BitVec.toNat_shiftLeft, Nat.shiftLeft_eq]
  have : ((x.toNat : Int) * ((2 ^ n : Nat) : Int)) = ((x.toNat * 2 ^ n : Nat) : Int) := by simp
  rw [this]
  omega
theorem U_addm (x y : BitVec 32) : (U x + U y) % 4294967296 = U (x + y) := by rw [← IntKind.wrap_u32', U_add]
theorem U_subm (x y : BitVec 32) : (U x - U y) % 4294967296 = U (x - y) := by rw [← IntKind.wrap_u32', U_sub]
theorem U_notx (x : BitVec 32) : bits .xor .u32 IntKind.u32.max (U x) = U (~~~x) := by
  have h : IntKind.u32.max = U (BitVec.allOnes 32) := by decide
  rw [h, U_xor, BitVec.xor_comm]
  congr 1
  exact BitVec.xor_allOnes
theorem U_sum3 (a b c : BitVec 32) : (U a + U b + U c) % 4294967296 = U (a + b + c) := by
  rw [← U_addm (a + b) c, ← U_addm a b]
  omega
theorem U_sum4 (a b c d : BitVec 32) : (U a + U b + U c + U d) % 4294967296 = U (a + b + c + d) := by
  rw [← U_addm (a + b + c) d, ← U_addm (a + b) c, ← U_addm a b]
  omega
theorem U_rotm (x : BitVec 32) (r : Nat) (hr : r < 32) : bits .or .u32 (U x * 2 ^ r % 4294967296) (U x / 2 ^ (32 - r)) = U (x.rotateLeft r) := by
  rw [← IntKind.wrap_u32', U_shl x r _ (by simp), U_div x (32 - r) _ (by simp), U_or, BitVec.rotateLeft_def, Nat.mod_eq_of_lt hr]
theorem U_rot (x : BitVec 32) (n : Nat) (hn : n < 32) : x <<< n ||| x >>> (32 - n) = x.rotateLeft n := by
  rw [BitVec.rotateLeft_def, Nat.mod_eq_of_lt hn]

/-- One place to the right, round. -/
theorem turn_one (x : BitVec 32) : U x / 2 + U x % 2 * 2147483648 = U (x.rotateRight 1) := by
  unfold U
  have hx := x.isLt
  have h1 : (x.rotateRight 1).toNat = x.toNat / 2 + x.toNat % 2 * 2147483648 := by
    rw [BitVec.rotateRight_def, Nat.mod_eq_of_lt (by decide : 1 < 32), BitVec.toNat_or, BitVec.toNat_ushiftRight, BitVec.toNat_shiftLeft, Nat.shiftRight_eq_div_pow, Nat.shiftLeft_eq]
    have h2 : x.toNat * 2147483648 % 4294967296 = x.toNat % 2 * 2147483648 := by omega
    have h3 : x.toNat / 2 < 2147483648 := by omega
    generalize x.toNat = n at h2 h3
    show n / 2 ^ 1 ||| n * 2147483648 % 4294967296 = _
    rw [h2, Nat.or_comm, Nat.pow_one]
    have h4 := nat_join 31 (n % 2 * 2 ^ 31) (n / 2) (Nat.mul_mod_left _ _) h3
    have h5 : (2 : Nat) ^ 31 = 2147483648 := by decide
    rw [h5] at h4
    rw [h4]
    omega
  rw [h1]
  omega

/-- n places to the right, round. -/
def rr (x : BitVec 32) : Nat → BitVec 32
  | 0 => x
  | n + 1 => (rr x n).rotateRight 1

theorem rr_eq (x : BitVec 32) (n : Nat) (hn : n < 32) : rr x n = x.rotateRight n := by
  induction n with
  | zero =>
    apply BitVec.eq_of_getLsbD_eq
    intro i hi
    simp only [rr, BitVec.getLsbD_rotateRight]
    simp [hi]
  | succ n ih =>
    rw [rr, ih (by omega)]
    apply BitVec.eq_of_getLsbD_eq
    intro i hi
    simp only [BitVec.getLsbD_rotateRight, Nat.mod_eq_of_lt (by omega : n < 32), Nat.mod_eq_of_lt (by omega : 1 < 32), Nat.mod_eq_of_lt hn]
    by_cases h1 : i < 32 - 1
    · by_cases h2 : 1 + i < 32 - n
      · have h3 : i < 32 - (n + 1) := by omega
        simp only [h1, h2, h3, decide_true, cond_true]
        congr 1
        omega
      · have h3 : ¬ i < 32 - (n + 1) := by omega
        have h4 : 1 + i < 32 := by omega
        have e : 1 + i - (32 - n) = i - (32 - (n + 1)) := by omega
        simp only [h1, h2, h3, h4, hi, decide_true, decide_false, cond_true, cond_false, e]
    · have h2 : i - (32 - 1) < 32 - n := by omega
      have h3 : ¬ i < 32 - (n + 1) := by omega
      have e : n + (i - (32 - 1)) = i - (32 - (n + 1)) := by omega
      simp only [h1, h2, h3, hi, decide_true, decide_false, cond_true, cond_false, e]

theorem rotL_rr (x : BitVec 32) (n m : Nat) (hn : 0 < n) (hm : 0 < m) (h : n + m = 32) : x.rotateLeft m = rr x n := by
  rw [rr_eq x n (by omega), BitVec.rotateLeft_def, BitVec.rotateRight_def, Nat.mod_eq_of_lt (by omega : m < 32), Nat.mod_eq_of_lt (by omega : n < 32), show 32 - m = n by omega, show 32 - n = m by omega, BitVec.or_comm]

attribute [local go_sem] U_xor U_and U_or U_addm U_subm U_not U_lo

theorem rotate_any (x : BitVec 32) (s : Int) (r : Nat) (w : World) (hs : bits .and .u64 (IntKind.u64.wrap s) 31 = (r : Int)) (h0 : 0 < r) (hr : r < 32) :
    Calls Tryd.prog 63 #[.int .u32 (U x), .int .i64 s] w fun e w' => e = .returned (.int .u32 (U (x.rotateLeft r))) ∧ w = w' := by
  have hm : IntKind.u64.wrap (32 - (r : Int)) = ((32 - r : Nat) : Int) := by simp [IntKind.wrap, IntKind.bits, IntKind.signed]; omega
  have h3 : (0 : Int) ≤ ((32 - r : Nat) : Int) := by omega
  go_enter Tryd.func63, Tryd.ntmps63
  go_wp2
  go_ret
  exact ⟨ret_int (U_rotm x r hr), rfl⟩

theorem rotate_back (x : BitVec 32) (n : Nat) (w : World) (h0 : 0 < n) (hn : n < 32) :
    Calls Tryd.prog 63 #[.int .u32 (U x), .int .i64 (-(n : Int))] w fun e w' => e = .returned (.int .u32 (U (rr x n))) ∧ w = w' := by
  rw [← rotL_rr x n (32 - n) h0 (by omega) (by omega)]
  refine rotate_any x (-(n : Int)) (32 - n) w ?_ (by omega) (by omega)
  have h : IntKind.u64.wrap (-(n : Int)) = ((18446744073709551616 - n : Nat) : Int) := by
    simp [IntKind.wrap, IntKind.bits, IntKind.signed]; omega
  rw [h]
  have h2 := u64_and_nat (18446744073709551616 - n) 31 (by omega) (by omega)
  have h3 : (18446744073709551616 - n) &&& 31 = 32 - n := by
    rw [show (31 : Nat) = 2 ^ 5 - 1 from rfl, Nat.and_two_pow_sub_one_eq_mod]
    omega
  rw [h3] at h2
  exact h2

theorem turn_any (x : BitVec 32) (n : Nat) (w : World) (hn : n < 32) :
    Calls Tryd.prog 27 #[.int .u32 (U x), .int .i64 (n : Int)] w fun e w' => e = .returned (.int .u32 (U (rr x n))) ∧ w = w' := by
  go_enter Tryd.func27, Tryd.ntmps27
  go_wp2
  go_loop [0, 5] (fun t i => ∃ k : Nat, k ≤ n ∧ i = .int .i64 k ∧ t = .int .u32 (U (rr x k))) (fun _ i => n - (intOf i).toNat)
  case atStart => exact ⟨0, Nat.zero_le _, rfl, rfl⟩
  case round =>
    obtain ⟨k, hk, rfl, rfl⟩ := hrel
    by_cases hlt : k < n
    · have h1 := U_lo (rr x k)
      have h2 := turn_one (rr x k)
      have h3 : ((U (rr x k)).tdiv 2 % 4294967296 + U (rr x k) % 2 * 2147483648) % 4294967296 = U (rr x (k + 1)) := by
        have h4 := U_hi (rr x k)
        have h5 := U_lo ((rr x k).rotateRight 1)
        have h6 := U_hi ((rr x k).rotateRight 1)
        rw [Int.tdiv_eq_ediv_of_nonneg h1, rr]
        omega
      clear h2
      have H3 := Lib.hid h3
      clear h3
      go_wp2
      go_round
      case rel => exact ⟨k + 1, by omega, by go_num, val_int H3.out⟩
      case measure => simp [intOf]; omega
    · go_wp2
      go_ret
      obtain rfl : k = n := by omega
      exact ⟨rfl, rfl⟩

theorem rotate_neg (x : BitVec 32) (s : Int) (w : World) (h0 : 0 < -s) (hs : -s < 32) :
    Calls Tryd.prog 63 #[.int .u32 (U x), .int .i64 s] w fun e w' => e = .returned (.int .u32 (U (rr x (-s).toNat))) ∧ w = w' := by
  have h := rotate_back x (-s).toNat w (by omega) (by omega)
  have e : -((-s).toNat : Int) = s := by omega
  rw [e] at h
  exact h

theorem turn_pos (x : BitVec 32) (s : Int) (w : World) (h0 : 0 ≤ s) (hs : s < 32) :
    Calls Tryd.prog 27 #[.int .u32 (U x), .int .i64 s] w fun e w' => e = .returned (.int .u32 (U (rr x s.toNat))) ∧ w = w' := by
  have h := turn_any x s.toNat w (by omega)
  have e : (s.toNat : Int) = s := by omega
  rw [e] at h
  exact h

/-- The number of some bytes, the greatest first. -/
def beI : List Int → Int
  | l => l.foldl (fun n c => n * 256 + c) 0

theorem beI_snoc (l : List Int) (c : Int) : beI (l ++ [c]) = beI l * 256 + c := by simp [beI]

theorem beI_bd (l : List Int) (h : ∀ x ∈ l, 0 ≤ x ∧ x < 256) : 0 ≤ beI l ∧ beI l < 256 ^ l.length := by
  revert h
  refine snoc_ind (p := fun l => (∀ x ∈ l, 0 ≤ x ∧ x < 256) → 0 ≤ beI l ∧ beI l < 256 ^ l.length) ?_ ?_ l
  · intro _
    simp [beI]
  · intro l c ih h
    have h1 := ih fun x hx => h x (by simp [hx])
    have h2 := h c (by simp)
    rw [beI_snoc, List.length_append, List.length_singleton, Int.pow_succ]
    omega

theorem beI_small (l : List Int) (h : ∀ x ∈ l, 0 ≤ x ∧ x < 256) (hl : l.length ≤ 6) : beI l < 281474976710656 := by
  have h1 := (beI_bd l h).2
  have h2 : (256 : Int) ^ l.length ≤ 281474976710656 := by
    generalize l.length = k at hl
    rcases (by omega : k = 0 ∨ k = 1 ∨ k = 2 ∨ k = 3 ∨ k = 4 ∨ k = 5 ∨ k = 6) with rfl | rfl | rfl | rfl | rfl | rfl | rfl <;> decide
  omega

theorem or_low (n c : Int) (h0 : 0 ≤ n) (h1 : n < 281474976710656) (h2 : 0 ≤ c) (h3 : c < 256) : bits .or .u64 (n * 256) c = n * 256 + c := by
  rw [u64_or (n * 256) c (by omega) (by omega) h2 (by omega), nat_join 8 _ _ (by simp only [Nat.reducePow]; omega) (by simp only [Nat.reducePow]; omega)]
  omega

theorem big_any (a : Option Addr) (n c : Nat) (xs : List Int) (w : World) (h : BsAt w a n c xs) (hn : n ≤ 7) :
    Calls Tryd.prog 80 #[.slice a n c] w fun e w' => e = .returned (.int .u64 (beI xs)) ∧ w = w' := by
  have hlen := h.len
  have H := Lib.hid h
  clear h
  go_enter Tryd.func80, Tryd.ntmps80
  go_wp2
  go_loop [3, 8] (fun t i => ∃ k : Nat, k ≤ n ∧ i = .int .i64 k ∧ t = .int .u64 (beI (xs.take k))) (fun _ i => n - (intOf i).toNat)
  case atStart => exact ⟨0, Nat.zero_le _, rfl, rfl⟩
  case round =>
    obtain ⟨k, hk, rfl, rfl⟩ := hrel
    by_cases hlt : k < n
    · obtain ⟨b, off, rfl, hc⟩ := H.out.at_ (by omega)
      have h1 := hc k hlt
      have h2 := getD_byte H.out.byte k
      obtain ⟨x, hx⟩ : ∃ x, xs.getD k 0 = x := ⟨_, rfl⟩
      rw [hx] at h1 h2
      have hby : ∀ x ∈ xs.take k, 0 ≤ x ∧ x < 256 := fun x hx => H.out.byte x (List.mem_of_mem_take hx)
      have hb := (beI_bd (xs.take k) hby).1
      have hb2 := beI_small (xs.take k) hby (by simp; omega)
      have hsn : bits .or .u64 (beI (xs.take k) * 256) x = beI (xs.take (k + 1)) := by
        rw [take_snoc (by omega : k < xs.length), beI_snoc, hx, or_low _ _ hb hb2 h2.1 h2.2]
      have Hs := Lib.hid hsn
      clear hsn hc hby hx
      go_wp2
      go_round
      case rel =>
        exact ⟨k + 1, by omega, by go_num, val_int Hs.out⟩
      case measure => simp [intOf]; omega
    · go_wp2
      go_ret
      obtain rfl : k = n := by omega
      exact ⟨ret_int (by rw [List.take_of_length_le (by omega)]), rfl⟩

/-- The word at place i of a block of bytes. -/
def wordAt (xs : List Int) (i : Nat) : BitVec 32 := BitVec.ofInt 32 (beI ((xs.drop (4 * i)).take 4))
def s0 (x : BitVec 32) : BitVec 32 := rr x 7 ^^^ rr x 18 ^^^ x >>> 3
def s1 (x : BitVec 32) : BitVec 32 := rr x 17 ^^^ rr x 19 ^^^ x >>> 10
def wnext (xs : List Int) (l : List (BitVec 32)) : BitVec 32 :=
  if l.length < 16 then wordAt xs l.length
  else l.getD (l.length - 16) 0 + s0 (l.getD (l.length - 15) 0) + l.getD (l.length - 7) 0 + s1 (l.getD (l.length - 2) 0)
def wl (xs : List Int) : Nat → List (BitVec 32)
  | 0 => []
  | n + 1 => wl xs n ++ [wnext xs (wl xs n)]

theorem wl_length (xs : List Int) : ∀ n, (wl xs n).length = n
  | 0 => rfl
  | n + 1 => by rw [wl, List.length_append, wl_length xs n]; rfl

theorem wl_get (xs : List Int) (i : Nat) : ∀ n, i < n → (wl xs n).getD i 0 = wnext xs (wl xs i)
  | 0, h => by omega
  | n + 1, h => by
    rw [wl]
    by_cases hi : i < n
    · rw [← wl_get xs i n hi, List.getD_eq_getElem?_getD, List.getD_eq_getElem?_getD, List.getElem?_append_left (by rw [wl_length]; exact hi)]
    · obtain rfl : i = n := by omega
      rw [List.getD_eq_getElem?_getD, List.getElem?_append_right (by rw [wl_length]; omega), wl_length]
      simp

/-- The 64 words of a block. -/
def W (xs : List Int) (i : Nat) : BitVec 32 := wnext xs (wl xs i)

theorem W_low (xs : List Int) (i : Nat) (h : i < 16) : W xs i = wordAt xs i := by
  unfold W wnext
  rw [wl_length, if_pos h]
theorem W_high (xs : List Int) (i : Nat) (h : 16 ≤ i) : W xs i = W xs (i - 16) + s0 (W xs (i - 15)) + W xs (i - 7) + s1 (W xs (i - 2)) := by
  conv => lhs; unfold W wnext
  rw [wl_length, if_neg (by omega), wl_get xs (i - 16) i (by omega), wl_get xs (i - 15) i (by omega), wl_get xs (i - 7) i (by omega), wl_get xs (i - 2) i (by omega)]
  rfl

theorem U_wordAt (xs : List Int) (i : Nat) (h : ∀ x ∈ xs, 0 ≤ x ∧ x < 256) : U (wordAt xs i) = beI ((xs.drop (4 * i)).take 4) := by
  have h1 : ∀ x ∈ (xs.drop (4 * i)).take 4, 0 ≤ x ∧ x < 256 := fun x hx => h x (List.mem_of_mem_drop (List.mem_of_mem_take hx))
  obtain ⟨h2, h3⟩ := beI_bd _ h1
  have h4 : (256 : Int) ^ ((xs.drop (4 * i)).take 4).length ≤ 4294967296 := by
    have hl : ((xs.drop (4 * i)).take 4).length ≤ 4 := List.length_take_le _ _
    generalize ((xs.drop (4 * i)).take 4).length = k at hl
    rcases (by omega : k = 0 ∨ k = 1 ∨ k = 2 ∨ k = 3 ∨ k = 4) with rfl | rfl | rfl | rfl | rfl <;> decide
  unfold wordAt U
  rw [BitVec.toNat_ofInt]
  omega

/-- The eight words. -/
structure S8 where
  a : BitVec 32
  b : BitVec 32
  c : BitVec 32
  d : BitVec 32
  e : BitVec 32
  f : BitVec 32
  g : BitVec 32
  h : BitVec 32

def S8.get (s : S8) : Nat → BitVec 32
  | 0 => s.a
  | 1 => s.b
  | 2 => s.c
  | 3 => s.d
  | 4 => s.e
  | 5 => s.f
  | 6 => s.g
  | _ => s.h

def rT (k x : BitVec 32) (s : S8) : BitVec 32 := s.h + (rr s.e 6 ^^^ rr s.e 11 ^^^ rr s.e 25) + (s.e &&& s.f ^^^ ~~~s.e &&& s.g) + k + x
def rU (s : S8) : BitVec 32 := (rr s.a 2 ^^^ rr s.a 13 ^^^ rr s.a 22) + (s.a &&& s.b ^^^ s.a &&& s.c ^^^ s.b &&& s.c)
/-- One round. -/
def rnd (k x : BitVec 32) (s : S8) : S8 := ⟨rT k x s + rU s, s.a, s.b, s.c, s.d + rT k x s, s.e, s.f, s.g⟩

/-- The table of 64 words. -/
def ks : List Nat := [1116352408, 1899447441, 3049323471, 3921009573, 961987163, 1508970993, 2453635748, 2870763221, 3624381080, 310598401, 607225278, 1426881987, 1925078388, 2162078206, 2614888103, 3248222580, 3835390401, 4022224774, 264347078, 604807628, 770255983, 1249150122, 1555081692, 1996064986, 2554220882, 2821834349, 2952996808, 3210313671, 3336571891, 3584528711, 113926993, 338241895, 666307205, 773529912, 1294757372, 1396182291, 1695183700, 1986661051, 2177026350, 2456956037, 2730485921, 2820302411, 3259730800, 3345764771, 3516065817, 3600352804, 4094571909, 275423344, 430227734, 506948616, 659060556, 883997877, 958139571, 1322822218, 1537002063, 1747873779, 1955562222, 2024104815, 2227730452, 2361852424, 2428436474, 2756734187, 3204031479, 3329325298]
def K (i : Nat) : BitVec 32 := BitVec.ofNat 32 (ks.getD i 0)

def rnds (xs : List Int) (s : S8) : Nat → S8
  | 0 => s
  | n + 1 => rnd (K n) (W xs n) (rnds xs s n)

/-- A block taken in. -/
def mixS (xs : List Int) (s : S8) : S8 :=
  let r := rnds xs s 64
  ⟨s.a + r.a, s.b + r.b, s.c + r.c, s.d + r.d, s.e + r.e, s.f + r.f, s.g + r.g, s.h + r.h⟩

theorem mixS_get (xs : List Int) (s : S8) (i : Nat) (h : i < 8) : (mixS xs s).get i = s.get i + (rnds xs s 64).get i := by
  rcases (by omega : i = 0 ∨ i = 1 ∨ i = 2 ∨ i = 3 ∨ i = 4 ∨ i = 5 ∨ i = 6 ∨ i = 7) with rfl | rfl | rfl | rfl | rfl | rfl | rfl | rfl <;> rfl

attribute [local go_sem] U_xor U_and U_or U_addm U_subm U_not U_lo U_div8 U_div1024

theorem U_zero : U 0 = 0 := rfl

set_option maxHeartbeats 1000000 in
set_option maxRecDepth 100000 in
theorem spread_any (b off c : Nat) (xs : List Int) (w : World) (h : BsAt w (some ⟨b, off, none⟩) 64 c xs) :
    Calls Tryd.prog 62 #[.slice (some ⟨b, off, none⟩) 64 c] w fun e w' => e = .returned (.agg (rowArr 64 fun i => .int .u32 (U (W xs i)))) ∧ Ext w w' := by
  have hcap := h.cap
  have hlim := h.lim
  have hlen := h.len
  have H := Lib.hid h
  clear h
  go_enter Tryd.func62, Tryd.ntmps62
  go_wp2
  go_loopw [10] (fun i wr => ∃ k : Nat, k ≤ 16 ∧ i = .int .i64 k ∧ wr.rowIs (w.heap.size + 1) 79 64 (fun j => .int .u32 (if j < k then U (W xs j) else 0)) ∧ wr.rowIs w.heap.size 79 64 (fun _ => .int .u32 0) ∧ Below w.heap.size w wr)
    (fun i _ => 16 - (intOf i).toNat)
  case atStart =>
    refine ⟨0, Nat.zero_le _, rfl, ?_, ?_, ((Below.refl _ _).alloc (Nat.le_refl _) _).alloc (by simp) _⟩
    · have h1 := World.rowIs_alloc (w.alloc (.cells (Array.replicate 64 (.int .u32 0)) 79)) (Array.replicate 64 (.int .u32 0)) 79 (fun j => .int .u32 (if j < 0 then U (W xs j) else 0)) (fun i hi => by
        simp at hi
        simp [hi])
      have h2 : (w.alloc (.cells (Array.replicate 64 (.int .u32 0)) 79)).heap.size = w.heap.size + 1 := by simp
      rw [h2] at h1
      exact h1
    · exact (World.rowIs_alloc w (Array.replicate 64 (.int .u32 0)) 79 (fun _ => .int .u32 0) (fun i hi => by
        simp at hi
        simp [hi])).alloc _
  case round =>
    obtain ⟨k, hk, rfl, hR, hZ, hB⟩ := hrel
    by_cases hlt : k < 16
    · have hc := hR.cell (show k < 64 by omega)
      have hf := hR.frozen k
      simp only [Nat.lt_irrefl, if_false] at hc
      have hsub := (BsAt.below H.out hB (fun _ b' off' e => by
        simp only [Option.some.injEq, Addr.mk.injEq, and_true] at e
        obtain ⟨rfl, rfl⟩ := e
        obtain ⟨b1, o1, e1, h1⟩ := H.out.at_ (by omega)
        simp only [Option.some.injEq, Addr.mk.injEq, and_true] at e1
        obtain ⟨rfl, rfl⟩ := e1
        exact World.block_lt_of_cell? w _ (h1 0 (by omega)))).sub (4 * k) 4 (by omega)
      have HS := Lib.hid hsub
      clear hsub
      go_wp2_with fail
      refine (big_any (some ⟨b, off + 4 * k, none⟩) 4 (c - 4 * k) _ _ HS.out (by omega)).mono ?_
      rintro e w' ⟨rfl, rfl⟩
      go_wp2
      go_roundw
      case rel =>
        have hw : beI (List.take 4 (List.drop (4 * k) xs)) % 4294967296 = U (W xs k) := by
          have h1 := U_wordAt xs k H.out.byte
          have h2 := U_lo (wordAt xs k)
          have h3 := U_hi (wordAt xs k)
          rw [W_low xs k hlt]
          omega
        rw [hw]
        refine ⟨k + 1, by omega, by go_num, ?_, hZ.setOther (by simp) _, hB.setCell (by simp) _⟩
        refine (hR.set k _).congr fun j hj => ?_
        by_cases hjk : j = k
        · subst hjk
          simp
        · simp only [hjk, if_false]
          by_cases hlt : j < k
          · rw [if_pos hlt, if_pos (by omega)]
          · rw [if_neg hlt, if_neg (by omega)]
      case measure => simp [intOf]; omega
    · obtain rfl : k = 16 := by omega
      rw [show ((16 : Nat) : Int) = 16 from rfl]
      go_wp2
      go_loopw [5] (fun i wq => ∃ m : Nat, 16 ≤ m ∧ m ≤ 64 ∧ i = .int .i64 m ∧ wq.rowIs (w.heap.size + 1) 79 64 (fun j => .int .u32 (if j < m then U (W xs j) else 0)) ∧ wq.rowIs w.heap.size 79 64 (fun _ => .int .u32 0) ∧ Below w.heap.size w wq)
        (fun i _ => 64 - (intOf i).toNat)
      case atStart => exact ⟨16, by omega, by omega, rfl, hR, hZ, hB⟩
      case round =>
        obtain ⟨m, hm1, hm2, rfl, hR, hZ, hB⟩ := hrel
        by_cases hlt : m < 64
        · have hcm := hR.cell hlt
          have hfm := hR.frozen m
          have hc16 := hR.cell (show m - 16 < 64 by omega)
          have hc15 := hR.cell (show m - 15 < 64 by omega)
          have hc7 := hR.cell (show m - 7 < 64 by omega)
          have hc2 := hR.cell (show m - 2 < 64 by omega)
          rw [if_pos (by omega)] at hc16 hc15 hc7 hc2
          rw [if_neg (by omega)] at hcm
          have e15 : IntKind.i64.wrap ((m : Int) - 15) = (m : Int) - 15 := IntWalk.i64_in _ (by omega)
          have e2 : IntKind.i64.wrap ((m : Int) - 2) = (m : Int) - 2 := IntWalk.i64_in _ (by omega)
          have l15 : (0 : Int) ≤ (m : Int) - 15 := by omega
          have l2 : (0 : Int) ≤ (m : Int) - 2 := by omega
          have t15 : ((m : Int) - 15).toNat = m - 15 := by omega
          have t2 : ((m : Int) - 2).toNat = m - 2 := by omega
          have u15 : (m : Int) - 15 < 64 := by omega
          have u2 : (m : Int) - 2 < 64 := by omega
          go_wp2_with fail
          go_quiet (fail)
          clear e15 e2 t15 t2
          go_wp2_with (go_at_call 63; refine (rotate_neg _ _ _ (by omega) (by omega)).mono ?_; rintro e w' ⟨rfl, rfl⟩)
          have e16 : IntKind.i64.wrap ((m : Int) - 16) = (m : Int) - 16 := IntWalk.i64_in _ (by omega)
          have e7 : IntKind.i64.wrap ((m : Int) - 7) = (m : Int) - 7 := IntWalk.i64_in _ (by omega)
          have l16 : (0 : Int) ≤ (m : Int) - 16 := by omega
          have l7 : (0 : Int) ≤ (m : Int) - 7 := by omega
          have t16 : ((m : Int) - 16).toNat = m - 16 := by omega
          have t7 : ((m : Int) - 7).toNat = m - 7 := by omega
          have x16 : (m : Int) - 16 < 64 := by omega
          have x7 : (m : Int) - 7 < 64 := by omega
          have y16 : (16 : Int) ≤ (m : Int) := by omega
          have y7 : (7 : Int) ≤ (m : Int) := by omega
          refine wp_region_quietT 15 (by kernel_rfl) (by kernel_rfl) ?_
          simp only [List.take_succ_cons, List.take_zero, List.drop_succ_cons, List.drop_zero]
          repeat (go_big_quiet_step (fail))
          refine wpQuiet_nil ?_
          intro _ hw'
          obtain ⟨nq2, hw''⟩ := hw'
          subst hw''
          clear e16 e7 t16 t7
          go_wp2
          go_roundw
          case rel =>
            refine ⟨m + 1, by omega, by omega, by go_num, ?_, ?_, ?_⟩
            · have h0 := W_high xs m hm1
              unfold s0 s1 at h0
              rw [← h0]
              have hR' : (wr.drewN (nq + nq2)).rowIs (w.heap.size + 1) 79 64 (fun j => .int .u32 (if j < m then U (W xs j) else 0)) := hR
              refine (hR'.set m _).congr fun j hj => ?_
              by_cases hjk : j = m
              · subst hjk
                simp
              · simp only [hjk, if_false]
                by_cases hlt : j < m
                · rw [if_pos hlt, if_pos (by omega)]
                · rw [if_neg hlt, if_neg (by omega)]
            · exact World.rowIs.setOther (w := wr.drewN (nq + nq2)) hZ (by show w.heap.size ≠ w.heap.size + 1; omega) _
            · exact (below_drewN' hB _).setCell (by show w.heap.size ≤ w.heap.size + 1; omega) _
          case measure => simp [intOf]; omega
        · obtain rfl : m = 64 := by omega
          have hR' : wr.rowIs (w.heap.size + 1) 79 64 (fun j => .int .u32 (U (W xs j))) := hR.congr fun j hj => by rw [if_pos hj]
          have hg := rowIs_cells hR'
          have hz := rowIs_cells hZ
          have Hg := Lib.hid hg
          have Hz := Lib.hid hz
          clear hg hz
          go_wp2_with (first
            | (refine wpList_load_row rfl 79 _ rfl _ rfl _ _ _ _ Hg.out Tryd.underlying79 rfl (by kernel_rfl) ?_)
            | (refine wpList_store_row rfl 79 _ _ rfl _ _ rfl rfl _ _ Hz.out (by kernel_rfl) (by rw [rowArr_size, rowArr_size]) (rowArr_one fun _ _ => rfl) ?_))
          refine bodyPost_ret (results_cell_row rfl _ _ w.heap.size _ _ _ _ rfl (setRow_heap wr w.heap.size _ _ _ _ Hz.out) Tryd.underlying79 rfl (by kernel_rfl)) rfl ⟨rfl, ?_⟩
          exact below_setRow hB (Nat.le_refl _) _

attribute [local go_sem] U_xor U_and U_or U_addm U_subm U_not U_lo U_notx U_sum3 U_sum4

/-- The program's table. -/
def KsAt (g : Nat) (w : World) : Prop := ∀ i, i < 64 → w.cell? ⟨g, i, none⟩ = some (.int .u32 (U (K i)))

set_option maxHeartbeats 2000000 in
set_option maxRecDepth 100000 in
theorem mix_any (bs b off c : Nat) (xs : List Int) (s : S8) (w : World) (h : BsAt w (some ⟨b, off, none⟩) 64 c xs) (hs : w.rowIs bs 95 8 (fun i => .int .u32 (U (s.get i))))
    (hk : KsAt 1 w) :
    Calls Tryd.prog 44 #[.pointer (some ⟨bs, 0, none⟩), .slice (some ⟨b, off, none⟩) 64 c] w fun e w' =>
      e = .returned (.tuple #[]) ∧ w.grownBy w' (some bs) ∧ w'.rowIs bs 95 8 (fun i => .int .u32 (U ((mixS xs s).get i))) := by
  have H := Lib.hid h
  have HK := Lib.hid hk
  have HS := Lib.hid hs
  have hlt := hs.lt
  clear h hk hs
  go_enter Tryd.func44, Tryd.ntmps44
  go_wp2_with fail
  refine (spread_any b off c xs w H.out).mono ?_
  rintro e w1 ⟨rfl, hE⟩
  have hsz := hE.size
  have HS1 := Lib.hid (HS.out.of_block (hE.block hlt))
  have hg1 : ∀ (o : Obj), (w1.alloc o).heap[bs]? = some (.cells (rowArr 8 fun i => .int .u32 (U (s.get i))) 95 (0, 0)) := fun o => by
    rw [Below.heap_alloc _ _ _ (by omega)]
    exact rowIs_cells HS1.out
  have Hg1 := Lib.hid hg1
  clear hg1
  go_wp2_with (first
    | (refine wpList_store_row rfl 79 _ _ rfl w1.heap.size _ rfl rfl _ _ (heap_new w1 _ _ rfl) (by kernel_rfl) (by rw [rowArr_size]; rfl) (rowArr_one fun _ _ => rfl) ?_; rw [setRow_new w1 _ _ _ _ rfl])
    | (refine wpList_load_row rfl 95 _ rfl bs rfl _ _ _ _ (Hg1.out _) Tryd.underlying95 rfl (by kernel_rfl) ?_)
    | (refine wpList_store_row rfl 95 _ _ rfl (w1.heap.size + 1) _ rfl rfl _ _ (heap_new _ _ _ (by simp)) (by kernel_rfl) (by rw [rowArr_size]; rfl) (rowArr_one fun _ _ => rfl) ?_; rw [setRow_new _ _ _ _ _ (by simp)]))
  have hW0 : ((w1.alloc (.cells (rowArr 64 fun i => .int .u32 (U (W xs i))) 79)).alloc (.cells (rowArr 8 fun i => .int .u32 (U (s.get i))) 95)).rowIs w1.heap.size 79 64 (fun i => .int .u32 (U (W xs i))) :=
    (rowIs_of (heap_new w1 _ _ rfl)).alloc _
  have hV0 : ((w1.alloc (.cells (rowArr 64 fun i => .int .u32 (U (W xs i))) 79)).alloc (.cells (rowArr 8 fun i => .int .u32 (U (s.get i))) 95)).rowIs (w1.heap.size + 1) 95 8 (fun i => .int .u32 (U (s.get i))) :=
    rowIs_of (heap_new _ _ _ (by simp))
  have hB0 : Below w1.heap.size w1 ((w1.alloc (.cells (rowArr 64 fun i => .int .u32 (U (W xs i))) 79)).alloc (.cells (rowArr 8 fun i => .int .u32 (U (s.get i))) 95)) :=
    ((Below.refl _ _).alloc (Nat.le_refl _) _).alloc (by simp) _
  go_loopw [17] (fun i wr => ∃ k : Nat, k ≤ 64 ∧ i = .int .i64 k ∧ wr.rowIs w1.heap.size 79 64 (fun i => .int .u32 (U (W xs i))) ∧ wr.rowIs (w1.heap.size + 1) 95 8 (fun i => .int .u32 (U ((rnds xs s k).get i))) ∧ Below w1.heap.size w1 wr)
    (fun i _ => 64 - (intOf i).toNat)
  case atStart => exact ⟨0, Nat.zero_le _, rfl, hW0, hV0, hB0⟩
  case round =>
    obtain ⟨k, hk, rfl, hW, hV, hB⟩ := hrel
    clear hW0 hV0 hB0
    by_cases hlt : k < 64
    · have hK : wr.cell? ⟨1, k, none⟩ = some (.int .u32 (U (K k))) := by
        have h0 := HK.out k hlt
        have hb := World.block_lt_of_cell? w _ h0
        rw [Below.cell hB (Nat.lt_of_lt_of_le hb hsz), Ext.cell hE hb]
        exact h0
      have hw := hW.cell hlt
      obtain ⟨r, hr⟩ : ∃ r, rnds xs s k = r := ⟨_, rfl⟩
      have hstep : rnds xs s (k + 1) = rnd (K k) (W xs k) r := by rw [rnds, hr]
      rw [hr] at hV
      have Hr := Lib.hid hr
      have Hstep := Lib.hid hstep
      clear hr hstep
      have c0 : wr.cell? ⟨w1.heap.size + 1, 0, none⟩ = some (.int .u32 (U r.a)) := hV.cell (by omega)
      have c1 : wr.cell? ⟨w1.heap.size + 1, 1, none⟩ = some (.int .u32 (U r.b)) := hV.cell (by omega)
      have c2 : wr.cell? ⟨w1.heap.size + 1, 2, none⟩ = some (.int .u32 (U r.c)) := hV.cell (by omega)
      have c3 : wr.cell? ⟨w1.heap.size + 1, 3, none⟩ = some (.int .u32 (U r.d)) := hV.cell (by omega)
      have c4 : wr.cell? ⟨w1.heap.size + 1, 4, none⟩ = some (.int .u32 (U r.e)) := hV.cell (by omega)
      have c5 : wr.cell? ⟨w1.heap.size + 1, 5, none⟩ = some (.int .u32 (U r.f)) := hV.cell (by omega)
      have c6 : wr.cell? ⟨w1.heap.size + 1, 6, none⟩ = some (.int .u32 (U r.g)) := hV.cell (by omega)
      have c7 : wr.cell? ⟨w1.heap.size + 1, 7, none⟩ = some (.int .u32 (U r.h)) := hV.cell (by omega)
      have x1 : (0 : Int) ≤ (k : Int) := by omega
      have x2 : (k : Int) < 64 := by omega
      go_wp2_with fail
      go_quiet (first
        | (go_at_call 63; exact quiet_left (rotate_neg _ _ _ (by omega) (by omega)))
        | (go_at_call 63; exact quiet_add_left (rotate_neg _ _ _ (by omega) (by omega))))
      go_wp2_with fail
      go_quiet (fail)
      go_wp2_with fail
      go_quiet (first
        | (go_at_call 63; exact quiet_left (rotate_neg _ _ _ (by omega) (by omega)))
        | (go_at_call 63; exact quiet_add_left (rotate_neg _ _ _ (by omega) (by omega))))
      have f0 := hV.frozen 0
      have f1 := hV.frozen 1
      have f2 := hV.frozen 2
      have f3 := hV.frozen 3
      have f4 := hV.frozen 4
      have f5 := hV.frozen 5
      have f6 := hV.frozen 6
      have f7 := hV.frozen 7
      go_wp2
      go_roundw
      case rel =>
        refine ⟨k + 1, by omega, by go_num, ?_, ?_, ?_⟩
        · exact rowIs_set8_other (w := wr.drewN _) hW (by omega) _ _ _ _ _ _ _ _
        · rw [Hstep.out]
          exact rowIs_set8 (w := wr.drewN _) (g := fun i => .int .u32 (U ((rnd (K k) (W xs k) r).get i))) hV
        · exact below_set8 (below_drewN' hB _) (by omega) _ _ _ _ _ _ _ _
      case measure => simp [intOf]; omega
    · obtain rfl : k = 64 := by omega
      have hS2 : wr.rowIs bs 95 8 (fun i => .int .u32 (U (s.get i))) := HS1.out.of_block (hB.block bs (by omega))
      rw [show ((64 : Nat) : Int) = 64 from rfl]
      go_wp2
      have hG : w.grownBy wr (some bs) := grown_below (grown_ext hE _) hB (Nat.le_refl _)
      clear hW hB
      go_loopw [107] (fun i wq => ∃ k : Nat, k ≤ 8 ∧ i = .int .i64 k ∧ wq.rowIs bs 95 8 (fun i => .int .u32 (U (if i < k then (mixS xs s).get i else s.get i))) ∧ wq.rowIs (w1.heap.size + 1) 95 8 (fun i => .int .u32 (U ((rnds xs s 64).get i))) ∧ w.grownBy wq (some bs))
        (fun i _ => 8 - (intOf i).toNat)
      case atStart => exact ⟨0, Nat.zero_le _, rfl, hS2.congr fun i _ => by simp, hV, hG⟩
      case round =>
        obtain ⟨k, hk, rfl, hS, hV, hG⟩ := hrel
        by_cases hlt : k < 8
        · have c1 := hS.cell hlt
          have f1 := hS.frozen k
          have c2 := hV.cell hlt
          rw [if_neg (by omega)] at c1
          have x1 : (0 : Int) ≤ (k : Int) := by omega
          have x2 : (k : Int) < 8 := by omega
          go_wp2_with fail
          refine wp_region_quietT 11 (by kernel_rfl) (by kernel_rfl) ?_
          simp only [List.take_succ_cons, List.take_zero, List.drop_succ_cons, List.drop_zero]
          repeat (go_big_quiet_step (fail))
          refine wpQuiet_nil ?_
          intro _ hw'
          obtain ⟨nq2, hw''⟩ := hw'
          subst hw''
          go_wp2
          go_roundw
          case rel =>
            refine ⟨k + 1, by omega, by go_num, ?_, ?_, ?_⟩
            · refine (World.rowIs.set (w := wr.drewN nq2) hS k _).congr fun j hj => ?_
              by_cases hjk : j = k
              · subst hjk
                rw [if_pos rfl, if_pos (by omega), mixS_get xs s j hj]
              · rw [if_neg hjk]
                by_cases hlt : j < k
                · rw [if_pos hlt, if_pos (by omega)]
                · rw [if_neg hlt, if_neg (by omega)]
            · exact World.rowIs.setOther (w := wr.drewN nq2) hV (by show w1.heap.size + 1 ≠ bs; omega) _
            · exact grown_setCell (grown_drewN hG _) rfl _
          case measure => simp [intOf]; omega
        · obtain rfl : k = 8 := by omega
          go_wp2
          go_end0
          exact ⟨rfl, hG, hS.congr fun i hi => by rw [if_pos hi]⟩

end Go.Proofs.YtihlpfdhallfpaaDoor
