/-
  The walk of pack.In's number: it hands back numT. No conditions.
-/
import Derived.Test.YtppidlpblkihbaaDoorClone
import Derived.Lib.VarintBits
namespace Go.Proofs.YtppidlpblkihbaaDoor
open Go.ChangeShapes Go.WideShapes Go.ChangeAt Go.RowKit

theorem takeN_cons (k : Nat) (X : Int) (xs : List Int) (h : k < xs.length) : takeN k X (xs.drop k) = (if k = 9 ∧ 1 < xs.getD k 0 ∨ 9 < k then (0, 0) else if xs.getD k 0 < 128 then (if xs.getD k 0 = 0 ∧ 0 < k then (0, 0) else (X + xs.getD k 0 % 128 * 2 ^ (7 * k), k + 1)) else takeN (k + 1) (X + xs.getD k 0 % 128 * 2 ^ (7 * k)) (xs.drop (k + 1))) := by
  have e : xs.getD k 0 = xs[k] := by simp [List.getD_eq_getElem?_getD, List.getElem?_eq_getElem h]
  rw [e, List.drop_eq_getElem_cons h]
  simp only [takeN]

theorem and_127 : ∀ c : Nat, c < 256 → bits .and .u8 (c : Int) 127 = (c : Int) % 128 := by decide +kernel

theorem or_part (p : Int) (hp : 0 < p) (orv : ∀ y x : Int, 0 ≤ y → y < p → 0 ≤ x → x % p = 0 → x < 18446744073709551616 → bits .or .u64 y x = y + x) (X C : Int) (h0 : 0 ≤ X) (h1 : X < p) (hC : 0 ≤ C ∧ C < 256) (hb : C % 128 * p < 18446744073709551616) :
    bits .or .u64 X (IntKind.u64.wrap (IntKind.u64.wrap (bits .and .u8 C 127) * p)) = X + C % 128 * p := by
  obtain ⟨c, rfl⟩ : ∃ c : Nat, C = (c : Int) := ⟨C.toNat, by omega⟩
  rw [and_127 c (by omega)]
  have hz : 0 ≤ (c : Int) % 128 * p := Int.mul_nonneg (by omega) (by omega)
  have e1 : IntKind.u64.wrap ((c : Int) % 128) = (c : Int) % 128 := by rw [IntKind.wrap_u64]; omega
  have e2 : IntKind.u64.wrap ((c : Int) % 128 * p) = (c : Int) % 128 * p := by rw [IntKind.wrap_u64]; exact Int.emod_eq_of_lt hz hb
  rw [e1, e2]
  exact orv X _ h0 h1 hz (Int.mul_emod_left _ _) hb

theorem num_or (k : Nat) (hk : k ≤ 9) (X C : Int) (h0 : 0 ≤ X) (h1 : X < 2 ^ (7 * k)) (hC : 0 ≤ C ∧ C < 256) (h9 : k = 9 → C ≤ 1) :
    bits .or .u64 X (IntKind.u64.wrap (IntKind.u64.wrap (bits .and .u8 C 127) * 2 ^ (7 * k))) = X + C % 128 * 2 ^ (7 * k) := by
  rcases (by omega : k = 0 ∨ k = 1 ∨ k = 2 ∨ k = 3 ∨ k = 4 ∨ k = 5 ∨ k = 6 ∨ k = 7 ∨ k = 8 ∨ k = 9) with rfl | rfl | rfl | rfl | rfl | rfl | rfl | rfl | rfl | rfl
  · exact or_part (2 ^ (7 * 0)) (by decide) (fun y x a b c d e => u64_orv0 y x a (by simpa using b) c (Int.emod_one x) e) X C h0 h1 hC (by simp only [show (2 : Int) ^ (7 * 0) = 1 by decide]; omega)
  · exact or_part (2 ^ (7 * 1)) (by decide) (fun y x a b c d e => u64_orv7 y x a (by simpa using b) c (by simpa using d) e) X C h0 h1 hC (by simp only [show (2 : Int) ^ (7 * 1) = 128 by decide]; omega)
  · exact or_part (2 ^ (7 * 2)) (by decide) (fun y x a b c d e => u64_orv14 y x a (by simpa using b) c (by simpa using d) e) X C h0 h1 hC (by simp only [show (2 : Int) ^ (7 * 2) = 16384 by decide]; omega)
  · exact or_part (2 ^ (7 * 3)) (by decide) (fun y x a b c d e => u64_orv21 y x a (by simpa using b) c (by simpa using d) e) X C h0 h1 hC (by simp only [show (2 : Int) ^ (7 * 3) = 2097152 by decide]; omega)
  · exact or_part (2 ^ (7 * 4)) (by decide) (fun y x a b c d e => u64_orv28 y x a (by simpa using b) c (by simpa using d) e) X C h0 h1 hC (by simp only [show (2 : Int) ^ (7 * 4) = 268435456 by decide]; omega)
  · exact or_part (2 ^ (7 * 5)) (by decide) (fun y x a b c d e => u64_orv35 y x a (by simpa using b) c (by simpa using d) e) X C h0 h1 hC (by simp only [show (2 : Int) ^ (7 * 5) = 34359738368 by decide]; omega)
  · exact or_part (2 ^ (7 * 6)) (by decide) (fun y x a b c d e => u64_orv42 y x a (by simpa using b) c (by simpa using d) e) X C h0 h1 hC (by simp only [show (2 : Int) ^ (7 * 6) = 4398046511104 by decide]; omega)
  · exact or_part (2 ^ (7 * 7)) (by decide) (fun y x a b c d e => u64_orv49 y x a (by simpa using b) c (by simpa using d) e) X C h0 h1 hC (by simp only [show (2 : Int) ^ (7 * 7) = 562949953421312 by decide]; omega)
  · exact or_part (2 ^ (7 * 8)) (by decide) (fun y x a b c d e => u64_orv56 y x a (by simpa using b) c (by simpa using d) e) X C h0 h1 hC (by simp only [show (2 : Int) ^ (7 * 8) = 72057594037927936 by decide]; omega)
  · exact or_part (2 ^ (7 * 9)) (by decide) (fun y x a b c d e => u64_orv63 y x a (by simpa using b) c (by simpa using d) e) X C h0 h1 hC (by have := h9 rfl; simp only [show (2 : Int) ^ (7 * 9) = 9223372036854775808 by decide]; omega)

theorem num_lt (k : Nat) (X C : Int) (h1 : X < 2 ^ (7 * k)) : X + C % 128 * 2 ^ (7 * k) < 2 ^ (7 * (k + 1)) := by
  rw [pow7]
  have hp := pow7_pos k
  have h2 : C % 128 ≤ 127 := by omega
  have h3 : C % 128 * 2 ^ (7 * k) ≤ 127 * 2 ^ (7 * k) := Int.mul_le_mul_of_nonneg_right h2 (by omega)
  omega

set_option maxHeartbeats 1000000 in
set_option maxRecDepth 100000 in
theorem number_any (g : Nat) (xs : List Int) (bad : Bool) (w : World) (h : InAt w g xs bad) :
    Calls Tryd.prog 79 #[.pointer (some ⟨g, 0, none⟩)] w fun e w' => e = .returned (.tuple #[.int .u64 (numT xs).1, .int .i64 ((numT xs).2 : Int)]) ∧ w' = w := by
  obtain ⟨a, n, c, hg, hb⟩ := h
  obtain ⟨c0, c1, _, _⟩ := in_cells hg
  have hlen := hb.len
  have hsm := hb.small
  have H := Lib.hid hb
  have Hlen := Lib.hid hlen
  have Hst := Lib.hid (show ∀ k X, k < n → _ from fun k X hk => takeN_cons k X xs (by omega))
  have H0 := Lib.hid (show takeN 0 0 (xs.drop 0) = numT xs from rfl)
  have Hen := Lib.hid (show ∀ k X, takeN k X (xs.drop n) = (0, 0) by intro k X; rw [← hlen, List.drop_length]; rfl)
  obtain ⟨R, hR⟩ : ∃ R, numT xs = R := ⟨_, rfl⟩
  rw [hR] at H0 ⊢
  clear hb hlen hR hg c1
  go_enter Tryd.func79, Tryd.ntmps79
  go_wp2
  go_loopw [12, 4] (fun i x wr => ∃ (k : Nat) (X : Int), k ≤ n ∧ i = .int .i64 (k : Int) ∧ x = .int .u64 X ∧ 0 ≤ X ∧ X < 2 ^ (7 * k) ∧ takeN k X (xs.drop k) = R ∧ wr = w) (fun i _ _ => n - (intOf i).toNat)
  case atStart => exact ⟨0, 0, Nat.zero_le _, rfl, rfl, Int.le_refl _, by decide, H0.out, rfl⟩
  case round =>
    obtain ⟨k, X, hk, rfl, rfl, hx0, hx1, hr, rfl⟩ := hrel
    by_cases hlt : k < n
    · obtain ⟨b, off, rfl, hc⟩ := H.out.at_ (by omega)
      have hs := Hst.out k X hlt
      rw [hr] at hs
      have hck := hc k hlt
      obtain ⟨C, hC⟩ : ∃ C, xs.getD k 0 = C := ⟨_, rfl⟩
      have hCb := getD_byte H.out.byte k
      rw [hC] at hs hck hCb
      obtain ⟨hCb0, hCb1⟩ := hCb
      have Hs := Lib.hid hs
      have x1 : (k : Int) < (n : Int) := by omega
      have x2 : (0 : Int) ≤ (k : Int) := by omega
      clear hs hr hC hc
      by_cases h9 : k ≤ 9
      · have x3 : ¬ (9 : Int) < (k : Int) := by omega
        by_cases hB : k = 9 ∧ 1 < C
        · obtain ⟨h91, h92⟩ := hB
          have x4 : (k : Int) = 9 := by omega
          have hR : R = (0, 0) := by have h2 := Hs.out; rw [if_pos (Or.inl ⟨h91, h92⟩)] at h2; exact h2
          subst hR
          subst h91
          go_wp2_with fail
          go_ret2
          exact ⟨rfl, rfl⟩
        · have hv := num_or k h9 X C hx0 hx1 ⟨hCb0, hCb1⟩ (fun h => by omega)
          have HV := Lib.hid hv
          have hl := num_lt k X C hx1
          have hz : 0 ≤ X + C % 128 * 2 ^ (7 * k) := by have := pow7_pos k; have := Int.mul_nonneg (show 0 ≤ C % 128 by omega) (show (0 : Int) ≤ 2 ^ (7 * k) by omega); omega
          have HL := Lib.hid (And.intro hz hl)
          clear hv hl hz
          have hs2 := Hs.out
          rw [if_neg (by omega)] at hs2
          have Hs2 := Lib.hid hs2
          clear hs2 Hs
          have x5 : ¬ ((k : Int) = 9 ∧ 1 < C) := by omega
          by_cases hlow : C < 128
          · by_cases hz : C = 0 ∧ 0 < k
            · obtain ⟨rfl, hk0⟩ := hz
              have x6 : (0 : Int) < (k : Int) := by omega
              have hR : R = (0, 0) := by have h2 := Hs2.out; rw [if_pos hlow, if_pos ⟨rfl, hk0⟩] at h2; exact h2
              subst hR
              clear hB
              by_cases h99 : k = 9
              · subst h99
                go_wp2_with fail
                go_ret2
                exact ⟨rfl, rfl⟩
              · have x4 : ¬ (k : Int) = 9 := by omega
                go_wp2_with fail
                go_ret2
                exact ⟨rfl, rfl⟩
            · have hR : R = (X + C % 128 * 2 ^ (7 * k), k + 1) := by have h2 := Hs2.out; rw [if_pos hlow, if_neg hz] at h2; exact h2
              subst hR
              by_cases hc0 : C = 0
              · have x8 : ¬ (0 : Int) < (k : Int) := by omega
                have x9 : ¬ (k : Int) = 9 := by omega
                clear hz hB
                go_wp2_with fail
                go_ret2
                have HV0 : bits .or .u64 X (IntKind.u64.wrap (IntKind.u64.wrap (bits .and .u8 0 127) * 2 ^ (7 * k))) = X := by
                  have h2 := HV.out
                  rw [hc0] at h2
                  rw [h2, Int.zero_emod, Int.zero_mul, Int.add_zero]
                refine ⟨?_, rfl⟩
                show Ending.returned (.tuple #[.int .u64 (bits .or .u64 X (IntKind.u64.wrap (IntKind.u64.wrap (bits .and .u8 0 127) * 2 ^ (7 * k)))), .int .i64 ((k : Int) + 1)]) = _
                rw [HV0]
              · clear hz hB
                by_cases h99 : k = 9
                · subst h99
                  have x7 : ¬ 1 < C := by omega
                  go_wp2_with fail
                  go_ret2
                  have HV9 := HV.out
                  simp only [show (2 : Int) ^ (7 * 9) = 9223372036854775808 by decide] at HV9
                  exact ⟨by rw [← HV9]; rfl, rfl⟩
                · have x4 : ¬ (k : Int) = 9 := by omega
                  go_wp2_with fail
                  go_ret2
                  exact ⟨by rw [← HV.out]; rfl, rfl⟩
          · have hR := Hs2.out
            rw [if_neg hlow] at hR
            have HR := Lib.hid hR
            clear hR
            by_cases h99 : k = 9
            · omega
            · have x4 : ¬ (k : Int) = 9 := by omega
              go_wp2_with fail
              go_roundw
              case rel => exact ⟨k + 1, X + C % 128 * 2 ^ (7 * k), by omega, by go_num, by rw [HV.out], HL.out.1, HL.out.2, HR.out.symm, by first | rfl | trivial⟩
              case measure => simp [intOf]; omega
      · have x3 : (9 : Int) < (k : Int) := by omega
        have x4 : ¬ (k : Int) = 9 := by omega
        have hR : R = (0, 0) := by have h2 := Hs.out; rw [if_pos (by omega)] at h2; exact h2
        subst hR
        go_wp2_with fail
        go_ret2
        exact ⟨rfl, rfl⟩
    · obtain rfl : k = n := by omega
      have hR : R = (0, 0) := by rw [← hr]; exact Hen.out k X
      subst hR
      have x1 : ¬ (k : Int) < (k : Int) := by omega
      go_wp2_with fail
      go_ret2
      exact ⟨rfl, rfl⟩

end Go.Proofs.YtppidlpblkihbaaDoor
