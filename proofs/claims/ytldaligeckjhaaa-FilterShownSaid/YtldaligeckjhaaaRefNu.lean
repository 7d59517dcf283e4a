/-
  Numbers as bytes of seven bits, and back: plain laws. No conditions.
  The walk of the reference's Num; appends: where the row lies. No conditions.
-/
import Derived.WalkKit
import Derived.Test.YtldaligeckjhaaaBys
import Derived.Deep.Heap
import Derived.Lib.VarintBits
import Derived.Test.YtldaligeckjhaaaLu
namespace Go.Proofs.Ytldaligeckjhaaa
open Go.ChangeAt Go.ChangeShapes Go.RowKit Go.WideShapes

/-- A number's bytes, at most k. -/
def numB : Nat → Int → List Int
  | 0, _ => []
  | k + 1, x => if x < 128 then [x] else (x % 128 + 128) :: numB k (x / 128)
/-- A number's bytes (of 64 bits). -/
def numL (x : Int) : List Int := numB 10 x

theorem numB_byte : ∀ (k : Nat) (x : Int), 0 ≤ x → ∀ y ∈ numB k x, 0 ≤ y ∧ y < 256
  | 0, _, _, y, hy => by simp [numB] at hy
  | k + 1, x, h0, y, hy => by
    rw [numB] at hy
    split at hy
    · simp at hy; omega
    · rcases List.mem_cons.1 hy with rfl | h
      · omega
      · exact numB_byte k (x / 128) (by omega) y h
theorem numL_byte (x : Int) (h : 0 ≤ x) : ∀ y ∈ numL x, 0 ≤ y ∧ y < 256 := numB_byte 10 x h

theorem numB_length_le : ∀ (k : Nat) (x : Int), (numB k x).length ≤ k
  | 0, _ => by simp [numB]
  | k + 1, x => by
    rw [numB]
    split
    · simp
    · have := numB_length_le k (x / 128)
      simp; omega
theorem numL_length_le (x : Int) : (numL x).length ≤ 10 := numB_length_le 10 x
theorem numB_length_pos (k : Nat) (x : Int) : 0 < (numB (k + 1) x).length := by
  rw [numB]
  split <;> simp
theorem numL_length_pos (x : Int) : 0 < (numL x).length := numB_length_pos 9 x

theorem numL_small (x : Int) (h : x < 128) : numL x = [x] := by
  unfold numL numB
  rw [if_pos h]

/-- The number that stands at the head of some bytes, and how many bytes it has (0: none). -/
def takeN (n : Nat) (x : Int) : List Int → Int × Nat
  | [] => (0, 0)
  | c :: r => if n = 9 ∧ 1 < c ∨ 9 < n then (0, 0) else if c < 128 then (if c = 0 ∧ 0 < n then (0, 0) else (x + c % 128 * 2 ^ (7 * n), n + 1)) else takeN (n + 1) (x + c % 128 * 2 ^ (7 * n)) r
def numT (xs : List Int) : Int × Nat := takeN 0 0 xs

theorem pow7 (n : Nat) : (2 : Int) ^ (7 * (n + 1)) = 128 * 2 ^ (7 * n) := by
  rw [show 7 * (n + 1) = 7 * n + 7 by omega, Int.pow_add]
  omega
theorem pow7_pos (n : Nat) : (0 : Int) < 2 ^ (7 * n) := Int.pow_pos (by omega)

/-- What was packed is taken. -/
theorem takeN_numB : ∀ (k n : Nat) (x y : Int) (r : List Int), n + k = 10 → 0 < k → 0 ≤ x → x < 2 ^ (64 - 7 * n) → (0 < n → 0 < x) → takeN n y (numB k x ++ r) = (y + x * 2 ^ (7 * n), n + (numB k x).length)
  | 0, n, x, y, r, _, h, _, _, _ => by omega
  | k + 1, n, x, y, r, hk, _, h0, h1, hp => by
    have h9 : n = 9 → x < 2 := by
      rintro rfl
      simpa using h1
    rw [numB]
    by_cases hx : x < 128
    · rw [if_pos hx]
      simp only [List.cons_append, List.nil_append, takeN]
      rw [if_neg (by omega), if_pos hx, if_neg (by omega), Int.emod_eq_of_lt h0 hx]
      rfl
    · rw [if_neg hx]
      have hn : n < 9 := by
        rcases Nat.lt_or_ge n 9 with h | h
        · exact h
        · have : n = 9 := by omega
          have := h9 this
          omega
      simp only [List.cons_append, takeN]
      rw [if_neg (by omega), if_neg (by omega)]
      have hpw : (2 : Int) ^ (64 - 7 * n) = 128 * 2 ^ (64 - 7 * (n + 1)) := by
        rw [show 64 - 7 * n = 64 - 7 * (n + 1) + 7 by omega, Int.pow_add]
        omega
      rw [hpw] at h1
      rw [takeN_numB k (n + 1) (x / 128) _ r (by omega) (by omega) (by omega) (by omega) (by omega)]
      have e : (x % 128 + 128) % 128 = x % 128 := by omega
      rw [e, pow7]
      refine Prod.ext ?_ ?_
      · show y + x % 128 * 2 ^ (7 * n) + x / 128 * (128 * 2 ^ (7 * n)) = y + x * 2 ^ (7 * n)
        have h2 : x = x / 128 * 128 + x % 128 := by omega
        conv => rhs; rw [h2]
        rw [Int.add_mul, Int.mul_assoc]
        omega
      · show n + 1 + (numB k (x / 128)).length = n + ((x % 128 + 128) :: numB k (x / 128)).length
        simp
        omega

theorem numT_numL (x : Int) (r : List Int) (h0 : 0 ≤ x) (h1 : x < 18446744073709551616) : numT (numL x ++ r) = (x, (numL x).length) := by
  unfold numT numL
  rw [takeN_numB 10 0 x 0 r (by omega) (by omega) h0 (by simpa using h1) (by omega)]
  simp

/-- What is taken was packed so. -/
theorem takeN_back : ∀ (k n : Nat) (y : Int) (xs : List Int) (x : Int) (m : Nat), n + k = 10 → (∀ c ∈ xs, 0 ≤ c ∧ c < 256) → takeN n y xs = (x, m) → 0 < m →
    ∃ z, x = y + z * 2 ^ (7 * n) ∧ 0 ≤ z ∧ z < 2 ^ (64 - 7 * n) ∧ (0 < n → 0 < z) ∧ n < m ∧ m ≤ 10 ∧ m - n ≤ xs.length ∧ xs.take (m - n) = numB k z
  | k, n, y, [], x, m, _, _, h, hm => by
    simp [takeN] at h
    omega
  | k, n, y, c :: r, x, m, hk, hb, h, hm => by
    have hc := hb c (by simp)
    rw [takeN] at h
    by_cases h9 : n = 9 ∧ 1 < c ∨ 9 < n
    · rw [if_pos h9] at h
      simp at h
      omega
    · rw [if_neg h9] at h
      by_cases hlt : c < 128
      · rw [if_pos hlt] at h
        by_cases hz : c = 0 ∧ 0 < n
        · rw [if_pos hz] at h
          simp at h
          omega
        · rw [if_neg hz, Int.emod_eq_of_lt hc.1 hlt] at h
          simp only [Prod.mk.injEq] at h
          obtain ⟨rfl, rfl⟩ := h
          refine ⟨c, rfl, hc.1, ?_, by omega, by omega, by omega, by simp only [List.length_cons]; omega, ?_⟩
          · by_cases h8 : n = 9
            · subst h8
              have : c ≤ 1 := by omega
              show c < 2 ^ 1
              omega
            · have h7 : (2 : Int) ^ 7 ≤ 2 ^ (64 - 7 * n) := by
                rw [show 64 - 7 * n = (57 - 7 * n) + 7 by omega, Int.pow_add]
                have : (0 : Int) < 2 ^ (57 - 7 * n) := Int.pow_pos (by omega)
                omega
              have : (2 : Int) ^ 7 = 128 := by decide
              omega
          · obtain ⟨k', rfl⟩ : ∃ k', k = k' + 1 := ⟨k - 1, by omega⟩
            rw [show n + 1 - n = 1 by omega, numB, if_pos hlt]
            simp
      · rw [if_neg hlt] at h
        have hn9 : n < 9 := by omega
        obtain ⟨z, hx, hz0, hz1, hz2, hnm, hm10, hl, ht⟩ := takeN_back (k - 1) (n + 1) _ r x m (by omega) (fun d hd => hb d (by simp [hd])) h hm
        have hpw : (2 : Int) ^ (64 - 7 * n) = 128 * 2 ^ (64 - 7 * (n + 1)) := by
          rw [show 64 - 7 * n = 64 - 7 * (n + 1) + 7 by omega, Int.pow_add]
          omega
        have hzp := hz2 (by omega)
        refine ⟨z * 128 + c % 128, ?_, by omega, by rw [hpw]; omega, by omega, by omega, hm10, by simp; omega, ?_⟩
        · rw [hx, pow7, Int.add_mul, Int.mul_assoc]
          omega
        · obtain ⟨k', rfl⟩ : ∃ k', k = k' + 1 := ⟨k - 1, by omega⟩
          rw [show m - n = (m - (n + 1)) + 1 by omega, List.take_succ_cons, ht, numB, if_neg (by omega)]
          have e1 : (z * 128 + c % 128) % 128 + 128 = c := by omega
          have e2 : (z * 128 + c % 128) / 128 = z := by omega
          rw [e1, e2]
          rfl

theorem numT_back {xs : List Int} {x : Int} {m : Nat} (hb : ∀ c ∈ xs, 0 ≤ c ∧ c < 256) (h : numT xs = (x, m)) (hm : 0 < m) : 0 ≤ x ∧ x < 18446744073709551616 ∧ m ≤ xs.length ∧ xs.take m = numL x := by
  obtain ⟨z, hx, h0, h1, _, _, _, hl, ht⟩ := takeN_back 10 0 0 xs x m (by omega) hb h hm
  simp only [Nat.mul_zero, Int.pow_zero, Int.mul_one, Int.zero_add] at hx
  subst hx
  exact ⟨h0, by simpa using h1, by omega, ht⟩

set_option maxHeartbeats 1000000 in
set_option maxRecDepth 100000 in
theorem refNum_any (x : Int) (h0 : 0 ≤ x) (h1 : x < 18446744073709551616) (w : World) :
    Calls Try.prog 86 #[.int .u64 x] w fun e w' => ∃ v, e = .returned v ∧ w'.ownsRow w.heap.size 5 1 v (numL x).length (bv (numL x)) ∧ Ext w w' := by
  obtain ⟨R, hR⟩ : ∃ R, numL x = R := ⟨_, rfl⟩
  have HR := Lib.hid hR
  rw [hR]
  clear hR
  go_enter Try.func86, Try.ntmps86
  go_wp2
  go_loopw [0, 3] (fun y v wr => ∃ (X : Int) (k : Nat) (acc : List Int), y = .int .u64 X ∧ 0 ≤ X ∧ X < 18446744073709551616 ∧ acc.length + k = 9 ∧ X < 2 ^ (7 * k + 1) ∧ acc ++ numB (k + 1) X = R ∧ wr.ownsRow w.heap.size 5 1 v acc.length (bv acc) ∧ Ext w wr) (fun y _ _ => (intOf y).toNat)
  case atStart => exact ⟨x, 9, [], rfl, h0, h1, rfl, by simpa using h1, HR.out, World.ownsRow_nil _ _ _ _, Ext.refl _⟩
  case round =>
    obtain ⟨X, k, acc, rfl, hX0, hX1, hk, hX2, hacc, hown, hE⟩ := hrel
    have hsz := Below.size hE
    by_cases hlt : X < 128
    · have x1 : ¬ 0 < X / 128 := by omega
      have hR : acc ++ [X] = R := by rw [← hacc, numB, if_pos hlt]
      have e1 : (acc ++ [X]).length = acc.length + 1 := by simp
      go_wp2_with (at_builtin; refine append_byte rfl _ _ rfl w.heap.size _ acc.length acc rfl (hown.alloc _) wr.heap.size X rfl (new_cell _ _ _) (by omega) (by simp; omega) ?_)
      intro v3 w3 hown3 hB3
      have hE3 : Ext w w3 := Below.trans (Below.alloc hE hsz _) hB3
      rw [← e1, hR] at hown3
      have Hown := Lib.hid hown3
      have HE3 := Lib.hid hE3
      clear hown3 hE3 hown hB3
      go_wp2
      go_ret
      exact ⟨v3, rfl, Hown.out, HE3.out⟩
    · have x1 : 0 < X / 128 := by omega
      obtain ⟨k', rfl⟩ : ∃ k', k = k' + 1 := by
        cases k with
        | zero => simp at hX2; omega
        | succ k' => exact ⟨k', rfl⟩
      have hR : (acc ++ [X % 128 + 128]) ++ numB (k' + 1) (X / 128) = R := by
        have h5 : numB (k' + 1 + 1) X = (X % 128 + 128) :: numB (k' + 1) (X / 128) := by rw [numB, if_neg hlt]
        rw [← hacc, h5, List.append_assoc]
        rfl
      have e1 : (acc ++ [X % 128 + 128]).length = acc.length + 1 := by simp
      have hX3 : X / 128 < 2 ^ (7 * k' + 1) := by
        have : (2 : Int) ^ (7 * (k' + 1) + 1) = 128 * 2 ^ (7 * k' + 1) := by rw [show 7 * (k' + 1) + 1 = (7 * k' + 1) + 7 by omega, Int.pow_add]; omega
        omega
      have e2 : IntKind.u64.wrap (X % 128 + 128) = X % 128 + 128 := by rw [IntKind.wrap_u64]; omega
      have e3 : IntKind.u8.wrap (X % 128 + 128) = X % 128 + 128 := by rw [IntKind.wrap_u8]; omega
      have HR2 := Lib.hid hR
      have HX3 := Lib.hid hX3
      have hX4 : 0 ≤ X / 128 ∧ X / 128 < X := by omega
      have HX4 := Lib.hid hX4
      clear hX3 hX4 hR
      go_wp2_with (at_builtin; refine append_byte rfl _ _ rfl w.heap.size _ acc.length acc rfl (hown.alloc _) wr.heap.size (X % 128 + 128) rfl (new_cell _ _ _) (by omega) (by simp; omega) ?_)
      intro v3 w3 hown3 hB3
      have hE3 : Ext w w3 := Below.trans (Below.alloc hE hsz _) hB3
      rw [← e1] at hown3
      have Hown := Lib.hid hown3
      have HE3 := Lib.hid hE3
      clear hown3 hE3 hown hB3
      go_wp2
      go_roundw
      case rel => exact ⟨X / 128, k', acc ++ [X % 128 + 128], rfl, HX4.out.1, by have := HX4.out.2; omega, by rw [e1]; omega, HX3.out, HR2.out, Hown.out, HE3.out⟩
      case measure => have := HX4.out; simp [intOf]; omega

/-- A text's bytes, its length ahead. -/
def textL (xs : List Int) : List Int := numL (xs.length : Int) ++ xs

/-- Where the row behind an append lies: where it lay, or in a new block. -/
theorem append_where {P : Program} {w : World} {t ty e : TypeId} {i : TypeInfo} {z : Value} (ht : P.underlying t = some (.slice e)) (hi : P.info? e = some i) (hz : i.zero = some z)
    {B size bytes : Nat} (hsize : i.size = size) (hby : i.bytes = bytes) {v : Value} {n : Nat} {xs : List Value} (hown : w.ownsRow B e size v n xs)
    {a : Addr} {m c : Nat} {news : List Value} (hl : news.length = m * size) (hnews : ∀ j u, news[j]? = some u → w.cell? (a.add j) = some u) (h1 : ∀ u ∈ news, u.oneCell' = true)
    (h63 : n + m ≤ maxLen) (hbytes : (n + m) * bytes ≤ 140737488355328) {v' : Value} {w' : World} (hr : (Builtin.append_ #[t, t] ty #[v, .slice (some a) m c]).run P w = .ok v' w') :
    v'.ownBlock = v.ownBlock ∨ v'.ownBlock = some w.heap.size := by
  subst hsize
  subst hby
  have hsmall : n + m ≤ 9223372036854775807 := by simp only [maxLen] at h63; omega
  rcases hown.2 with ⟨rfl, rfl⟩ | ⟨g, cap, cur, rfl, hbg, hg, hnc, hcm, hcs, htake⟩
  · by_cases hm : m = 0
    · subst hm
      have hn : news = [] := List.eq_nil_of_length_eq_zero (by simpa using hl)
      subst hn
      have : (Builtin.append_ #[t, t] ty #[.slice none 0 0, .slice (some a) 0 c]).run P w = .ok (.slice none 0 0) w := by
        simp [Builtin.append_, run_underlying ht, sizeOf, typeInfo, hi, Builtin.lenOf, Builtin.firstCells, loadCells, loadCellsFrom]
      rw [this] at hr
      simp only [Result.ok.injEq] at hr
      rw [← hr.1]
      exact .inl rfl
    · have h2 := run_append_nil (P := P) w t ty e i z ht hi hz a m c news hl hnews (by omega) (by omega) (by have hb := hbytes; simp only [Nat.zero_add] at hb; omega)
      rw [h2] at hr
      simp only [Result.ok.injEq] at hr
      rw [← hr.1]
      exact .inr rfl
  · by_cases hroom : n + m ≤ cap
    · have hfit : n * i.size + news.length ≤ cur.size := by rw [hl, hcs, ← Nat.add_mul]; exact Nat.mul_le_mul_right _ hroom
      have h2 := run_append_room (P := P) w t ty e i ht hi g n cap cur hg a m c news hl hnews h1 hroom hfit
      rw [h2] at hr
      simp only [Result.ok.injEq] at hr
      rw [← hr.1]
      exact .inl rfl
    · have holds : ∀ j u, xs[j]? = some u → w.cell? ((⟨g, 0, none⟩ : Addr).add j) = some u := hown.cells (g := g) rfl
      have h2 := run_append_grow (P := P) w t ty e i z ht hi hz ⟨g, 0, none⟩ n cap xs hown.1 holds a m c news hl hnews (by omega) (by omega) (growslice_fits (by omega) hbytes)
      rw [h2] at hr
      simp only [Result.ok.injEq] at hr
      rw [← hr.1]
      exact .inr rfl

/-- append_bs, and where the row lies behind it. -/
theorem append_bsH {w : World} {ops : Array Oper} {rest : List Oper} {o : Oper} {a : Act} {Q : Exit → Act → World → Prop} (hgd : o.guard = none) (s x : Operand) (ho : o.op = .call { callee := .builtin .append, args := #[s, x], argTypes := #[70, 70] })
    (B : Nat) (v : Value) (n : Nat) (xs : List Int) (hs : a.eval s = v) (hown : w.ownsRow B 5 1 v n (bv xs))
    (src : Option Addr) (m c : Nat) (ys : List Int) (hx : a.eval x = .slice src m c) (hb : BsAt w src m c ys) (hsz : n + m ≤ 140737488355328) (hB : B ≤ w.heap.size)
    (h : ∀ v' w', w'.ownsRow B 5 1 v' (n + m) (bv (xs ++ ys)) → w.grownBy w' v.ownBlock → (v'.ownBlock = v.ownBlock ∨ v'.ownBlock = some w.heap.size) → wpList Try.prog ops Q rest (a.put o.dst v') w') : wpList Try.prog ops Q (o :: rest) a w := by
  obtain ⟨i0, hi, hz0, hz1, hz2⟩ := info_parts info_u8
  have hl := hb.len
  cases src with
  | none =>
    obtain rfl : c = 0 := hb.nil_ rfl
    have hc := hb.cap
    obtain rfl : m = 0 := by omega
    obtain rfl : ys = [] := List.eq_nil_of_length_eq_zero hl
    refine wpList_append_own_none hgd s x 70 ho B 5 i0 1 Try.underlying70 hi v n (bv xs) hs hown hx ?_
    exact h v w (by simpa using hown) (World.grownBy.refl w _) (.inl rfl)
  | some ad =>
    refine wpList_plain hgd fun K hK => ?_
    have h63 : n + m ≤ maxLen := by unfold maxLen; omega
    obtain ⟨v', w', hr, h2, h3, _⟩ := run_append_own (P := Try.prog) w B 70 o.type 5 i0 (.int .u8 0) 1 1 Try.underlying70 hi hz0 hz1 hz2 rfl (by decide) v n (bv xs) hown ad m c (bv ys) (by rw [bv_length, hl, Nat.mul_one]) hb.news (bv_one ys) h63 (by omega) hB
    have h4 := append_where (P := Try.prog) Try.underlying70 hi hz0 hz1 hz2 hown (by rw [bv_length, hl, Nat.mul_one]) hb.news (bv_one ys) h63 (by omega) hr
    unfold Oper.wp execOp
    simp only [ho, resolve, invoke, builtin, Sem.run_bind, Sem.run_pure, Result.andThen_ok, List.map_toArray, List.map_cons, List.map_nil, hs, hx, hr]
    exact hK _ _ (h v' w' (by rw [bv_append]; exact h2) h3 h4)

end Go.Proofs.Ytldaligeckjhaaa
