/-
  Contracts of the smallest functions that the hash uses: turning words, numbers of bytes. No conditions.
-/
import Derived.Test.YthdgnahokmjkpaaDoorRows
import Derived.WalkKit
import Derived.ProofKit
import Derived.OpenShut
import Derived.Below
import Derived.WalkLawsBesides
import Derived.WalkSpells
import Derived.Lib.Hide
import Derived.Test.YthdgnahokmjkpaaDoorBits
import Derived.Test.YthdgnahokmjkpaaDoorBase
namespace Go.Proofs.YthdgnahokmjkpaaDoor
open Go.ChangeShapes Go.WideShapes Go.ChangeAt Go.RowKit

attribute [local go_sem] U_xor U_and U_or U_addm U_subm U_not U_lo

theorem rotate_any (x : BitVec 32) (s : Int) (r : Nat) (w : World) (hs : bits .and .u64 (IntKind.u64.wrap s) 31 = (r : Int)) (h0 : 0 < r) (hr : r < 32) :
    Calls Tryd.prog 58 #[.int .u32 (U x), .int .i64 s] w fun e w' => e = .returned (.int .u32 (U (x.rotateLeft r))) ∧ w = w' := by
  have hm : IntKind.u64.wrap (32 - (r : Int)) = ((32 - r : Nat) : Int) := by simp [IntKind.wrap, IntKind.bits, IntKind.signed]; omega
  have h3 : (0 : Int) ≤ ((32 - r : Nat) : Int) := by omega
  go_enter Tryd.func58, Tryd.ntmps58
  go_wp2
  go_ret
  exact ⟨ret_int (U_rotm x r hr), rfl⟩

theorem rotate_back (x : BitVec 32) (n : Nat) (w : World) (h0 : 0 < n) (hn : n < 32) :
    Calls Tryd.prog 58 #[.int .u32 (U x), .int .i64 (-(n : Int))] w fun e w' => e = .returned (.int .u32 (U (rr x n))) ∧ w = w' := by
  rw [← rotL_rr x n (32 - n) h0 (by omega) (by omega)]
  refine rotate_any x (-(n : Int)) (32 - n) w ?_ (by omega) (by omega)
  have h : IntKind.u64.wrap (-(n : Int)) = ((18446744073709551616 - n : Nat) : Int) := by
    simp [IntKind.wrap, IntKind.bits, IntKind.signed]; omega
  rw [h]
  have h2 := u64_and_nat (18446744073709551616 - n) 31 (by omega) (by omega)
  have h3 : (18446744073709551616 - n) &&& 31 = 32 - n := by
    rw [show (31 : Nat) = 2 ^ 5 - 1 from rfl, Nat.and_two_pow_sub_one_eq_mod]
    omega
  rw [h3] at h2
  exact h2

theorem turn_any (x : BitVec 32) (n : Nat) (w : World) (hn : n < 32) :
    Calls Tryd.prog 42 #[.int .u32 (U x), .int .i64 (n : Int)] w fun e w' => e = .returned (.int .u32 (U (rr x n))) ∧ w = w' := by
  go_enter Tryd.func42, Tryd.ntmps42
  go_wp2
  go_loop [0, 5] (fun t i => ∃ k : Nat, k ≤ n ∧ i = .int .i64 k ∧ t = .int .u32 (U (rr x k))) (fun _ i => n - (intOf i).toNat)
  case atStart => exact ⟨0, Nat.zero_le _, rfl, rfl⟩
  case round =>
    obtain ⟨k, hk, rfl, rfl⟩ := hrel
    by_cases hlt : k < n
    · have h1 := U_lo (rr x k)
      have h2 := turn_one (rr x k)
      have h3 : ((U (rr x k)).tdiv 2 % 4294967296 + U (rr x k) % 2 * 2147483648) % 4294967296 = U (rr x (k + 1)) := by
        have h4 := U_hi (rr x k)
        have h5 := U_lo ((rr x k).rotateRight 1)
        have h6 := U_hi ((rr x k).rotateRight 1)
        rw [Int.tdiv_eq_ediv_of_nonneg h1, rr]
        omega
      clear h2
      have H3 := Lib.hid h3
      clear h3
      go_wp2
      go_round
      case rel => exact ⟨k + 1, by omega, by go_num, val_int H3.out⟩
      case measure => simp [intOf]; omega
    · go_wp2
      go_ret
      obtain rfl : k = n := by omega
      exact ⟨rfl, rfl⟩

theorem rotate_neg (x : BitVec 32) (s : Int) (w : World) (h0 : 0 < -s) (hs : -s < 32) :
    Calls Tryd.prog 58 #[.int .u32 (U x), .int .i64 s] w fun e w' => e = .returned (.int .u32 (U (rr x (-s).toNat))) ∧ w = w' := by
  have h := rotate_back x (-s).toNat w (by omega) (by omega)
  have e : -((-s).toNat : Int) = s := by omega
  rw [e] at h
  exact h

theorem turn_pos (x : BitVec 32) (s : Int) (w : World) (h0 : 0 ≤ s) (hs : s < 32) :
    Calls Tryd.prog 42 #[.int .u32 (U x), .int .i64 s] w fun e w' => e = .returned (.int .u32 (U (rr x s.toNat))) ∧ w = w' := by
  have h := turn_any x s.toNat w (by omega)
  have e : (s.toNat : Int) = s := by omega
  rw [e] at h
  exact h

/-- The number of some bytes, the greatest first. -/
def beI : List Int → Int
  | l => l.foldl (fun n c => n * 256 + c) 0

theorem beI_snoc (l : List Int) (c : Int) : beI (l ++ [c]) = beI l * 256 + c := by simp [beI]

theorem beI_bd (l : List Int) (h : ∀ x ∈ l, 0 ≤ x ∧ x < 256) : 0 ≤ beI l ∧ beI l < 256 ^ l.length := by
  revert h
  refine snoc_ind (p := fun l => (∀ x ∈ l, 0 ≤ x ∧ x < 256) → 0 ≤ beI l ∧ beI l < 256 ^ l.length) ?_ ?_ l
  · intro _
    simp [beI]
  · intro l c ih h
    have h1 := ih fun x hx => h x (by simp [hx])
    have h2 := h c (by simp)
    rw [beI_snoc, List.length_append, List.length_singleton, Int.pow_succ]
    omega

theorem beI_small (l : List Int) (h : ∀ x ∈ l, 0 ≤ x ∧ x < 256) (hl : l.length ≤ 6) : beI l < 281474976710656 := by
  have h1 := (beI_bd l h).2
  have h2 : (256 : Int) ^ l.length ≤ 281474976710656 := by
    generalize l.length = k at hl
    rcases (by omega : k = 0 ∨ k = 1 ∨ k = 2 ∨ k = 3 ∨ k = 4 ∨ k = 5 ∨ k = 6) with rfl | rfl | rfl | rfl | rfl | rfl | rfl <;> decide
  omega

theorem or_low (n c : Int) (h0 : 0 ≤ n) (h1 : n < 281474976710656) (h2 : 0 ≤ c) (h3 : c < 256) : bits .or .u64 (n * 256) c = n * 256 + c := by
  rw [u64_or (n * 256) c (by omega) (by omega) h2 (by omega), nat_join 8 _ _ (by simp only [Nat.reducePow]; omega) (by simp only [Nat.reducePow]; omega)]
  omega

theorem big_any (a : Option Addr) (n c : Nat) (xs : List Int) (w : World) (h : BsAt w a n c xs) (hn : n ≤ 7) :
    Calls Tryd.prog 64 #[.slice a n c] w fun e w' => e = .returned (.int .u64 (beI xs)) ∧ w = w' := by
  have hlen := h.len
  have H := Lib.hid h
  clear h
  go_enter Tryd.func64, Tryd.ntmps64
  go_wp2
  go_loop [3, 8] (fun t i => ∃ k : Nat, k ≤ n ∧ i = .int .i64 k ∧ t = .int .u64 (beI (xs.take k))) (fun _ i => n - (intOf i).toNat)
  case atStart => exact ⟨0, Nat.zero_le _, rfl, rfl⟩
  case round =>
    obtain ⟨k, hk, rfl, rfl⟩ := hrel
    by_cases hlt : k < n
    · obtain ⟨b, off, rfl, hc⟩ := H.out.at_ (by omega)
      have h1 := hc k hlt
      have h2 := getD_byte H.out.byte k
      obtain ⟨x, hx⟩ : ∃ x, xs.getD k 0 = x := ⟨_, rfl⟩
      rw [hx] at h1 h2
      have hby : ∀ x ∈ xs.take k, 0 ≤ x ∧ x < 256 := fun x hx => H.out.byte x (List.mem_of_mem_take hx)
      have hb := (beI_bd (xs.take k) hby).1
      have hb2 := beI_small (xs.take k) hby (by simp; omega)
      have hsn : bits .or .u64 (beI (xs.take k) * 256) x = beI (xs.take (k + 1)) := by
        rw [take_snoc (by omega : k < xs.length), beI_snoc, hx, or_low _ _ hb hb2 h2.1 h2.2]
      have Hs := Lib.hid hsn
      clear hsn hc hby hx
      go_wp2
      go_round
      case rel =>
        exact ⟨k + 1, by omega, by go_num, val_int Hs.out⟩
      case measure => simp [intOf]; omega
    · go_wp2
      go_ret
      obtain rfl : k = n := by omega
      exact ⟨ret_int (by rw [List.take_of_length_le (by omega)]), rfl⟩

end Go.Proofs.YthdgnahokmjkpaaDoor
