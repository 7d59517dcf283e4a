/-
  The walks of hash.start, hash.putBig, hash.appendBig, bytes.Clone, hash.padded. No conditions but lengths.
-/
import Derived.Test.YthdgnahokmjkpaaDoorMix
import Derived.Test.YthdgnahokmjkpaaDoorBys
namespace Go.Proofs.YthdgnahokmjkpaaDoor
open Go.ChangeShapes Go.WideShapes Go.ChangeAt Go.RowKit

attribute [local go_sem] U_xor U_and U_or U_addm U_subm U_not U_lo

/-- A number's n lowest bytes, the greatest first. -/
def beB (x : Int) : Nat → List Int
  | 0 => []
  | n + 1 => (x / 2 ^ (8 * n) % 256) :: beB x n

theorem beB_length (x : Int) : ∀ n, (beB x n).length = n
  | 0 => rfl
  | n + 1 => by rw [beB, List.length_cons, beB_length x n]

theorem beB_get (x : Int) : ∀ n j, j < n → (beB x n).getD j 0 = x / 2 ^ (8 * (n - 1 - j)) % 256
  | 0, _, h => by omega
  | n + 1, 0, _ => by rw [beB]; simp
  | n + 1, j + 1, h => by
    rw [beB, List.getD_cons_succ, beB_get x n j (by omega), show n + 1 - 1 - (j + 1) = n - 1 - j by omega]

theorem beB_byte (x : Int) (n : Nat) : ∀ y ∈ beB x n, 0 ≤ y ∧ y < 256 := by
  induction n with
  | zero => intro y hy; cases hy
  | succ n ih =>
    intro y hy
    rw [beB] at hy
    rcases List.mem_cons.1 hy with rfl | hy
    · omega
    · exact ih y hy

set_option maxRecDepth 100000 in
theorem appendBig_any (B : Nat) (v : Value) (n : Nat) (xs : List Int) (x : Int) (w : World) (hown : w.ownsRow B 5 1 v n (bv xs)) (hB : B ≤ w.heap.size) (hn : n ≤ 140737488355000) :
    Calls Tryd.prog 55 #[v, .int .u64 x] w fun e w' => ∃ v', e = .returned v' ∧ w'.ownsRow B 5 1 v' (n + 8) (bv (xs ++ beB x 8)) ∧ Below B w w' := by
  obtain ⟨i0, hi, hz0, hz1, hz2⟩ := info_parts info_u8
  go_enter Tryd.func55, Tryd.ntmps55
  go_wp2
  go_loopw [0, 5] (fun u i wr => ∃ j : Nat, j ≤ 8 ∧ i = .int .i64 (56 - 8 * (j : Int)) ∧ wr.ownsRow B 5 1 u (n + j) (bv (xs ++ (beB x 8).take j)) ∧ Below B w wr) (fun _ i _ => (intOf i + 8).toNat)
  case atStart => exact ⟨0, by omega, by simp, by simpa using hown, Below.refl _ _⟩
  case round =>
    obtain ⟨j, hj, rfl, hown, hb⟩ := hrel
    have hs := hb.size
    by_cases hlt : j < 8
    · have hl : (bv (xs ++ (beB x 8).take j)).length = n + j := by have := hown.1; omega
      go_wp2_with (at_builtin; refine wpList_append_own _ rfl _ _ 58 rfl B 5 i0 (.int .u8 0) 1 1 Tryd.underlying58 hi hz0 hz1 hz2 rfl (by decide) _ (n + j) _ rfl (hown.alloc _) ⟨wr.heap.size, 0, none⟩ 1 1 [_] rfl rfl (cell_one_new _ _ _) ?c3 ?c4 ?c5 ?c6 ?_)
      case c3 => simp [Value.oneCell']
      case c4 => unfold maxLen; omega
      case c5 => omega
      case c6 => simp; omega
      intro v' w3 hown' hgrow _
      go_wp2
      go_roundw
      case rel =>
        refine ⟨j + 1, by omega, val_int (by omega), ?_, (hb.alloc (by omega) _).grown hgrow (by simp; omega) (fun k hk => (hown.lt k hk).1)⟩
        have e : (beB x 8).take (j + 1) = (beB x 8).take j ++ [x / 2 ^ (8 * (7 - j)) % 256] := by
          rw [take_snoc (by rw [beB_length]; omega), beB_get x 8 j hlt]
        rw [e, ← List.append_assoc, bv_append]
        have e2 : 56 - 8 * j = 8 * (7 - j) := by omega
        rw [e2] at hown'
        exact hown'
      case measure => simp [intOf]; omega
    · obtain rfl : j = 8 := by omega
      go_wp2
      go_ret
      refine ⟨_, rfl, ?_, hb⟩
      rw [List.take_of_length_le (by rw [beB_length]; omega)] at hown
      exact hown

/-- How many noughts stand behind a text and its bit. -/
def zpad (n : Nat) : Nat := (119 - n % 64) % 64
/-- A text with what stands behind it. -/
def padL (xs : List Int) : List Int := xs ++ [128] ++ List.replicate (zpad xs.length) 0 ++ beB (8 * (xs.length : Int)) 8

theorem padL_length (xs : List Int) : (padL xs).length = xs.length + 1 + zpad xs.length + 8 := by
  unfold padL
  simp only [List.length_append, List.length_replicate, beB_length, List.length_singleton]

theorem padL_byte (xs : List Int) (h : ∀ x ∈ xs, 0 ≤ x ∧ x < 256) : ∀ x ∈ padL xs, 0 ≤ x ∧ x < 256 := by
  intro x hx
  unfold padL at hx
  simp only [List.mem_append, List.mem_singleton, List.mem_replicate] at hx
  rcases hx with ((hx | hx) | hx) | hx
  · exact h x hx
  · omega
  · omega
  · exact beB_byte _ _ x hx

set_option maxRecDepth 100000 in
theorem padded_any (a : Option Addr) (n c : Nat) (xs : List Int) (w : World) (h : BsAt w a n c xs) (hn : n ≤ 1099511627776) :
    Calls Tryd.prog 46 #[.slice a n c] w fun e w' => ∃ v, e = .returned v ∧ w'.ownsRow w.heap.size 5 1 v (padL xs).length (bv (padL xs)) ∧ Ext w w' := by
  obtain ⟨i0, hi, hz0, hz1, hz2⟩ := info_parts info_u8
  have hlen := h.len
  have H := Lib.hid h
  have hz : zpad n < 64 := by unfold zpad; omega
  clear h
  go_enter Tryd.func46, Tryd.ntmps46
  go_wp2_with fail
  refine (clone_any a n c xs w H.out).mono ?_
  rintro e w1 ⟨v, rfl, hown, hE⟩
  have hs1 := hE.size
  go_wp2_with (at_builtin; refine wpList_append_own _ rfl _ _ 58 rfl w.heap.size 5 i0 (.int .u8 0) 1 1 Tryd.underlying58 hi hz0 hz1 hz2 rfl (by decide) _ n _ rfl (hown.alloc _) ⟨w1.heap.size, 0, none⟩ 1 1 [_] rfl rfl (cell_one_new _ _ _) ?c3 ?c4 ?c5 ?c6 ?_)
  case c3 => simp [Value.oneCell']
  case c4 => unfold maxLen; omega
  case c5 => omega
  case c6 => simp; omega
  intro v2 w2 hown2 hgrow2 _
  have hB2 : Below w.heap.size w w2 := (Below.alloc hE hs1 _).grown hgrow2 (by simp; omega) (fun k hk => (hown.lt k hk).1)
  rw [bv_snoc] at hown2
  go_wp2
  go_loopw [3] (fun u wr => ∃ (k : Nat) (ao : Option Addr) (cv : Nat), k ≤ zpad n ∧ u = .slice ao (n + 1 + k) cv ∧ wr.ownsRow w.heap.size 5 1 u (n + 1 + k) (bv (xs ++ [128] ++ List.replicate k 0)) ∧ Below w.heap.size w wr)
    (fun u _ => match u with | .slice _ m _ => n + 1 + zpad n - m | _ => 0)
  case atStart =>
    obtain ⟨ao, cv, hv, _, _⟩ := owns_slice hown2
    exact ⟨0, ao, cv, Nat.zero_le _, hv, by simpa using hown2, hB2⟩
  case round =>
    obtain ⟨k, ao, cv, hk, rfl, hown, hB⟩ := hrel
    have hs := hB.size
    by_cases hlt : k < zpad n
    · have ht : ((((n + 1 + k : Nat) : Int) % 64) != 56) = true := by
        rw [bne_iff_ne]; unfold zpad at hlt; omega
      have ht2 : ((((n : Int) + 1 + (k : Int)) % 64) != 56) = true := by
        rw [bne_iff_ne]; unfold zpad at hlt; omega
      go_wp2_with (at_builtin; refine wpList_append_own _ rfl _ _ 58 rfl w.heap.size 5 i0 (.int .u8 0) 1 1 Tryd.underlying58 hi hz0 hz1 hz2 rfl (by decide) _ (n + 1 + k) _ rfl (hown.alloc _) ⟨wr.heap.size, 0, none⟩ 1 1 [_] rfl rfl (cell_one_new _ _ _) ?c3 ?c4 ?c5 ?c6 ?_)
      case c3 => simp [Value.oneCell']
      case c4 => unfold maxLen; omega
      case c5 => omega
      case c6 => simp; omega
      intro v' w3 hown' hgrow _
      have hB3 : Below w.heap.size w w3 := (hB.alloc (by omega) _).grown hgrow (by simp; omega) (fun q hq => (hown.lt q hq).1)
      obtain ⟨ao2, cv2, rfl, _, _⟩ := owns_slice hown'
      have hr : bv (xs ++ [128] ++ List.replicate (k + 1) 0) = bv (xs ++ [128] ++ List.replicate k 0) ++ [Value.int .u8 0] := by
        rw [bv_snoc, List.replicate_succ', ← List.append_assoc]
      have hown4 : w3.ownsRow w.heap.size 5 1 (.slice ao2 (n + 1 + (k + 1)) cv2) (n + 1 + (k + 1)) (bv (xs ++ [128] ++ List.replicate (k + 1) 0)) := by
        rw [hr, bv_append, bv_append]
        simp only [List.map_cons, bv] at hown' ⊢
        simpa [Nat.add_assoc] using hown'
      have Hown := Lib.hid hown4
      clear hr ht ht2 hown4 hown'
      go_wp2
      go_roundw
      case rel => exact ⟨k + 1, ao2, cv2, by omega, rfl, Hown.out, hB3⟩
      case measure => simp; omega
    · obtain rfl : k = zpad n := by omega
      have ht : ((((n : Int) + 1 + (zpad n : Int)) % 64) != 56) = false := by
        rw [bne_eq_false_iff_eq]; unfold zpad; omega
      have hw : IntKind.u64.wrap (n : Int) = (n : Int) := by simp [IntKind.wrap, IntKind.bits, IntKind.signed]; omega
      have hw8 : IntKind.u64.wrap (8 * (n : Int)) = 8 * (n : Int) := by simp [IntKind.wrap, IntKind.bits, IntKind.signed]; omega
      go_wp2_with fail
      refine (appendBig_any w.heap.size _ (n + 1 + zpad n) (xs ++ [128] ++ List.replicate (zpad n) 0) (8 * (n : Int)) wr hown (by omega) (by omega)).mono ?_
      rintro e w' ⟨v', rfl, hown', hB'⟩
      go_wp2
      go_ret
      refine ⟨v', rfl, ?_, hB.trans hB'⟩
      have e1 : (padL xs).length = n + 1 + zpad n + 8 := by rw [padL_length, hlen]
      rw [e1]
      unfold padL
      rw [hlen]
      exact hown'

end Go.Proofs.YthdgnahokmjkpaaDoor
