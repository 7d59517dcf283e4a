/-
  What takes parts from bytes (package pack's In): its state; the walks of fail, Over. No conditions.
  The walk of pack.Read. No conditions.
  The walk of pack.In's number: it hands back numT. No conditions.
  The walk of pack.In's Num. No conditions.
  The walk of pack.In's Raw. No conditions.
  The walk of pack.In's Text. No conditions.
  The walk of jalousieref05.Num: a number's bytes. No conditions.
  What puts parts together (package pack's Out): its state, and how it grows. No conditions.
  The walks of pack.Out: put, Raw, Num, Text, Flag, End. No conditions but lengths.
-/
import Derived.Test.YtdhbkjajhbfihaaBys
import Derived.Test.YtdhbkjajhbfihaaNum
import Derived.Deep.Heap
import Derived.Lib.VarintBits
import Derived.Test.YtdhbkjajhbfihaaLu
import Derived.Test.YtdhbkjajhbfihaaPackO
import Derived.Test.YtdhbkjajhbfihaaPkP
namespace Go.Proofs.Ytdhbkjajhbfihaa
open Go.ChangeAt Go.ChangeShapes Go.RowKit Go.WideShapes

/-- Block g is an In: the bytes that are left, whether it has failed. -/
def InAt (w : World) (g : Nat) (xs : List Int) (bad : Bool) : Prop :=
  ∃ a n c, w.heap[g]? = some (.cells #[.slice a n c, .bool bad] 72 (0, 0)) ∧ BsAt w a n c xs

theorem in_noBytes {w : World} {g : Nat} {a : Option Addr} {n c : Nat} {bad : Bool} {T : TypeId} (h : w.heap[g]? = some (.cells #[.slice a n c, .bool bad] T (0, 0))) : ∀ k x, w.cell? ⟨g, k, none⟩ ≠ some (.int .u8 x) := by
  intro k x
  unfold World.cell?
  simp only [h]
  rcases k with _ | _ | k <;> simp

/-- The bytes that are left lie in block r. -/
def InBlk (w : World) (g r : Nat) : Prop := ∃ a n c v T fr, w.heap[g]? = some (.cells #[.slice a n c, v] T fr) ∧ ∀ b off, a = some ⟨b, off, none⟩ → 0 < n → b = r
/-- What is left lies where it lay. -/
def InSame (w w' : World) (g : Nat) : Prop := ∀ r, InBlk w g r → InBlk w' g r
theorem InSame.trans {a b c : World} {g : Nat} (h : InSame a b g) (k : InSame b c g) : InSame a c g := fun r hr => k r (h r hr)
theorem inStep_trans {a b c : World} {g : Nat} (h : a.grownBy b (some g) ∧ InSame a b g) (k : b.grownBy c (some g) ∧ InSame b c g) : a.grownBy c (some g) ∧ InSame a c g := ⟨grown_trans h.1 k.1, h.2.trans k.2⟩
theorem InAt.blk {w : World} {g : Nat} {xs : List Int} {bad : Bool} (h : InAt w g xs bad) : ∃ r, InBlk w g r ∧ r < w.heap.size := by
  obtain ⟨a, n, c, hg, hb⟩ := h
  have hlt := (Array.getElem?_eq_some_iff.1 hg).1
  by_cases h0 : 0 < n
  · obtain ⟨b, off, rfl, hc⟩ := hb.at_ h0
    refine ⟨b, ⟨_, _, _, _, _, _, hg, fun b' off' e _ => ?_⟩, World.block_lt_of_cell? w _ (hc 0 h0)⟩
    simp only [Option.some.injEq, Addr.mk.injEq, and_true] at e
    exact e.1.symm
  · exact ⟨0, ⟨_, _, _, _, _, _, hg, fun _ _ _ h => absurd h h0⟩, by omega⟩
theorem InAt.same {w w' : World} {g : Nat} {a a' : Option Addr} {n n' c c' : Nat} {v v' : Value} {T T' : TypeId} {fr fr' : Nat × Nat} (h : w.heap[g]? = some (.cells #[.slice a n c, v] T fr)) (h' : w'.heap[g]? = some (.cells #[.slice a' n' c', v'] T' fr'))
    (hb : ∀ b off, a' = some ⟨b, off, none⟩ → 0 < n' → ∃ off', a = some ⟨b, off', none⟩ ∧ 0 < n) : InSame w w' g := by
  rintro r ⟨a1, n1, c1, v1, T1, fr1, h1, hr⟩
  rw [h] at h1
  simp only [Option.some.injEq, Obj.cells.injEq, Array.mk.injEq, List.cons.injEq, Value.slice.injEq, and_true] at h1
  obtain ⟨⟨⟨rfl, rfl, rfl⟩, rfl⟩, rfl, rfl⟩ := h1
  refine ⟨a', n', c', v', T', fr', h', fun b off e hn => ?_⟩
  obtain ⟨off', e', hn'⟩ := hb b off e hn
  exact hr b off' e' hn'

theorem inSame_ext {w w' : World} {g : Nat} (hE : Ext w w') : InSame w w' g := by
  rintro r ⟨a1, n1, c1, v1, T1, fr1, h1, hr⟩
  exact ⟨a1, n1, c1, v1, T1, fr1, hE.keep h1, hr⟩

theorem InAt.bad {w : World} {g : Nat} {xs : List Int} {bad : Bool} (h : InAt w g xs bad) : InAt (w.setCell ⟨g, 1, none⟩ (.bool true)) g xs true ∧ w.grownBy (w.setCell ⟨g, 1, none⟩ (.bool true)) (some g) ∧ InSame w (w.setCell ⟨g, 1, none⟩ (.bool true)) g := by
  obtain ⟨a, n, c, hg, hb⟩ := h
  have hG : w.grownBy (w.setCell ⟨g, 1, none⟩ (.bool true)) (some g) := grown_setCell (grown_ext (Ext.refl w) _) rfl _
  exact ⟨⟨a, n, c, in_set1 hg _, hb.beside hG (in_noBytes hg)⟩, hG, InAt.same hg (in_set1 hg _) (fun b off e h => ⟨off, e, h⟩)⟩

theorem InAt.cut {w : World} {g : Nat} {a : Option Addr} {n c : Nat} {bad : Bool} (hg : w.heap[g]? = some (.cells #[.slice a n c, .bool bad] 72 (0, 0))) {a' : Option Addr} {n' c' : Nat} {ys : List Int} (hb : BsAt w a' n' c' ys) (hab : ∀ b off, a' = some ⟨b, off, none⟩ → 0 < n' → ∃ off', a = some ⟨b, off', none⟩ ∧ 0 < n) :
    InAt (w.setCell ⟨g, 0, none⟩ (.slice a' n' c')) g ys bad ∧ w.grownBy (w.setCell ⟨g, 0, none⟩ (.slice a' n' c')) (some g) ∧ InSame w (w.setCell ⟨g, 0, none⟩ (.slice a' n' c')) g := by
  have hG : w.grownBy (w.setCell ⟨g, 0, none⟩ (.slice a' n' c')) (some g) := grown_setCell (grown_ext (Ext.refl w) _) rfl _
  exact ⟨⟨a', n', c', in_set0 hg _, hb.beside hG (in_noBytes hg)⟩, hG, InAt.same hg (in_set0 hg _) hab⟩

theorem fail_any (g : Nat) (xs : List Int) (bad : Bool) (w : World) (h : InAt w g xs bad) :
    Calls Try.prog 40 #[.pointer (some ⟨g, 0, none⟩)] w fun e w' => e = .returned (.tuple #[]) ∧ InAt w' g xs true ∧ w.grownBy w' (some g) ∧ InSame w w' g := by
  have HB := Lib.hid h.bad
  obtain ⟨a, n, c, hg, hb⟩ := h
  obtain ⟨c0, c1, z0, z1⟩ := in_cells hg
  clear hg hb
  go_enter Try.func40, Try.ntmps40
  go_wp2_with fail
  first | go_end0 | refine bodyPost_ret (results_none rfl _ _ _) rfl ?_
  exact ⟨rfl, HB.out⟩

theorem over_any (g : Nat) (xs : List Int) (bad : Bool) (w : World) (h : InAt w g xs bad) :
    Calls Try.prog 25 #[.pointer (some ⟨g, 0, none⟩)] w fun e w' => e = .returned (.bool (!bad && decide (xs.length = 0))) ∧ w' = w := by
  obtain ⟨a, n, c, hg, hb⟩ := h
  obtain ⟨c0, c1, z0, z1⟩ := in_cells hg
  have hl := hb.len
  clear hg hb z0 z1
  subst hl
  cases bad with
  | true =>
    go_enter Try.func25, Try.ntmps25
    go_wp2_with fail
    go_ret
    exact ⟨rfl, rfl⟩
  | false =>
    have e1 : ((xs.length : Int) == 0) = decide (xs.length = 0) := by by_cases h : xs.length = 0 <;> simp [h]
    have E1 := Lib.hid e1
    clear e1
    go_enter Try.func25, Try.ntmps25
    go_wp2_with fail
    go_ret
    exact ⟨by rw [← E1.out]; rfl, rfl⟩

set_option maxRecDepth 100000 in
theorem build_in (w : World) (a : Option Addr) (n c : Nat) : (Instr.build 72 #[(0, .slice a n c)]).run Try.prog w = .ok (.agg #[.slice a n c, .bool false]) w := by kernel_rfl

set_option maxRecDepth 100000 in
theorem readIn_any (a : Option Addr) (n c : Nat) (xs : List Int) (w : World) (h : BsAt w a n c xs) :
    Calls Try.prog 21 #[.slice a n c] w fun e w' => ∃ g, e = .returned (.pointer (some ⟨g, 0, none⟩)) ∧ w.heap.size ≤ g ∧ InAt w' g xs false ∧ Ext w w' := by
  have HC := Lib.hid (cloneB_any a n c xs w h)
  have hbi := build_in
  clear h
  go_enter Try.func21, Try.ntmps21
  go_wp2_with fail
  refine HC.out.mono ?_
  rintro e w1 ⟨a1, c1, rfl, hb, hE⟩
  have HB := Lib.hid hb
  have HE := Lib.hid hE
  clear hb hE HC
  go_wp2_with fail
  go_ret
  have hE2 : Ext w1 (w1.alloc (.cells #[.slice a1 n c1, .bool false] 72)) := (Ext.refl w1).alloc _
  exact ⟨w1.heap.size, rfl, Below.size HE.out, ⟨a1, n, c1, heap_new w1 _ _ rfl, HB.out.ext hE2⟩, HE.out.trans hE2⟩

theorem takeN_cons (k : Nat) (X : Int) (xs : List Int) (h : k < xs.length) : takeN k X (xs.drop k) = (if k = 9 ∧ 1 < xs.getD k 0 ∨ 9 < k then (0, 0) else if xs.getD k 0 < 128 then (if xs.getD k 0 = 0 ∧ 0 < k then (0, 0) else (X + xs.getD k 0 % 128 * 2 ^ (7 * k), k + 1)) else takeN (k + 1) (X + xs.getD k 0 % 128 * 2 ^ (7 * k)) (xs.drop (k + 1))) := by
  have e : xs.getD k 0 = xs[k] := by simp [List.getD_eq_getElem?_getD, List.getElem?_eq_getElem h]
  rw [e, List.drop_eq_getElem_cons h]
  simp only [takeN]

theorem and_127 : ∀ c : Nat, c < 256 → bits .and .u8 (c : Int) 127 = (c : Int) % 128 := by decide +kernel

theorem or_part (p : Int) (hp : 0 < p) (orv : ∀ y x : Int, 0 ≤ y → y < p → 0 ≤ x → x % p = 0 → x < 18446744073709551616 → bits .or .u64 y x = y + x) (X C : Int) (h0 : 0 ≤ X) (h1 : X < p) (hC : 0 ≤ C ∧ C < 256) (hb : C % 128 * p < 18446744073709551616) :
    bits .or .u64 X (IntKind.u64.wrap (IntKind.u64.wrap (bits .and .u8 C 127) * p)) = X + C % 128 * p := by
  obtain ⟨c, rfl⟩ : ∃ c : Nat, C = (c : Int) := ⟨C.toNat, by omega⟩
  rw [and_127 c (by omega)]
  have hz : 0 ≤ (c : Int) % 128 * p := Int.mul_nonneg (by omega) (by omega)
  have e1 : IntKind.u64.wrap ((c : Int) % 128) = (c : Int) % 128 := by rw [IntKind.wrap_u64]; omega
  have e2 : IntKind.u64.wrap ((c : Int) % 128 * p) = (c : Int) % 128 * p := by rw [IntKind.wrap_u64]; exact Int.emod_eq_of_lt hz hb
  rw [e1, e2]
  exact orv X _ h0 h1 hz (Int.mul_emod_left _ _) hb

theorem num_or (k : Nat) (hk : k ≤ 9) (X C : Int) (h0 : 0 ≤ X) (h1 : X < 2 ^ (7 * k)) (hC : 0 ≤ C ∧ C < 256) (h9 : k = 9 → C ≤ 1) :
    bits .or .u64 X (IntKind.u64.wrap (IntKind.u64.wrap (bits .and .u8 C 127) * 2 ^ (7 * k))) = X + C % 128 * 2 ^ (7 * k) := by
  rcases (by omega : k = 0 ∨ k = 1 ∨ k = 2 ∨ k = 3 ∨ k = 4 ∨ k = 5 ∨ k = 6 ∨ k = 7 ∨ k = 8 ∨ k = 9) with rfl | rfl | rfl | rfl | rfl | rfl | rfl | rfl | rfl | rfl
  · exact or_part (2 ^ (7 * 0)) (by decide) (fun y x a b c d e => u64_orv0 y x a (by simpa using b) c (Int.emod_one x) e) X C h0 h1 hC (by simp only [show (2 : Int) ^ (7 * 0) = 1 by decide]; omega)
  · exact or_part (2 ^ (7 * 1)) (by decide) (fun y x a b c d e => u64_orv7 y x a (by simpa using b) c (by simpa using d) e) X C h0 h1 hC (by simp only [show (2 : Int) ^ (7 * 1) = 128 by decide]; omega)
  · exact or_part (2 ^ (7 * 2)) (by decide) (fun y x a b c d e => u64_orv14 y x a (by simpa using b) c (by simpa using d) e) X C h0 h1 hC (by simp only [show (2 : Int) ^ (7 * 2) = 16384 by decide]; omega)
  · exact or_part (2 ^ (7 * 3)) (by decide) (fun y x a b c d e => u64_orv21 y x a (by simpa using b) c (by simpa using d) e) X C h0 h1 hC (by simp only [show (2 : Int) ^ (7 * 3) = 2097152 by decide]; omega)
  · exact or_part (2 ^ (7 * 4)) (by decide) (fun y x a b c d e => u64_orv28 y x a (by simpa using b) c (by simpa using d) e) X C h0 h1 hC (by simp only [show (2 : Int) ^ (7 * 4) = 268435456 by decide]; omega)
  · exact or_part (2 ^ (7 * 5)) (by decide) (fun y x a b c d e => u64_orv35 y x a (by simpa using b) c (by simpa using d) e) X C h0 h1 hC (by simp only [show (2 : Int) ^ (7 * 5) = 34359738368 by decide]; omega)
  · exact or_part (2 ^ (7 * 6)) (by decide) (fun y x a b c d e => u64_orv42 y x a (by simpa using b) c (by simpa using d) e) X C h0 h1 hC (by simp only [show (2 : Int) ^ (7 * 6) = 4398046511104 by decide]; omega)
  · exact or_part (2 ^ (7 * 7)) (by decide) (fun y x a b c d e => u64_orv49 y x a (by simpa using b) c (by simpa using d) e) X C h0 h1 hC (by simp only [show (2 : Int) ^ (7 * 7) = 562949953421312 by decide]; omega)
  · exact or_part (2 ^ (7 * 8)) (by decide) (fun y x a b c d e => u64_orv56 y x a (by simpa using b) c (by simpa using d) e) X C h0 h1 hC (by simp only [show (2 : Int) ^ (7 * 8) = 72057594037927936 by decide]; omega)
  · exact or_part (2 ^ (7 * 9)) (by decide) (fun y x a b c d e => u64_orv63 y x a (by simpa using b) c (by simpa using d) e) X C h0 h1 hC (by have := h9 rfl; simp only [show (2 : Int) ^ (7 * 9) = 9223372036854775808 by decide]; omega)

theorem num_lt (k : Nat) (X C : Int) (h1 : X < 2 ^ (7 * k)) : X + C % 128 * 2 ^ (7 * k) < 2 ^ (7 * (k + 1)) := by
  rw [pow7]
  have hp := pow7_pos k
  have h2 : C % 128 ≤ 127 := by omega
  have h3 : C % 128 * 2 ^ (7 * k) ≤ 127 * 2 ^ (7 * k) := Int.mul_le_mul_of_nonneg_right h2 (by omega)
  omega

set_option maxHeartbeats 1000000 in
set_option maxRecDepth 100000 in
theorem number_any (g : Nat) (xs : List Int) (bad : Bool) (w : World) (h : InAt w g xs bad) :
    Calls Try.prog 39 #[.pointer (some ⟨g, 0, none⟩)] w fun e w' => e = .returned (.tuple #[.int .u64 (numT xs).1, .int .i64 ((numT xs).2 : Int)]) ∧ w' = w := by
  obtain ⟨a, n, c, hg, hb⟩ := h
  obtain ⟨c0, c1, _, _⟩ := in_cells hg
  have hlen := hb.len
  have hsm := hb.small
  have H := Lib.hid hb
  have Hlen := Lib.hid hlen
  have Hst := Lib.hid (show ∀ k X, k < n → _ from fun k X hk => takeN_cons k X xs (by omega))
  have H0 := Lib.hid (show takeN 0 0 (xs.drop 0) = numT xs from rfl)
  have Hen := Lib.hid (show ∀ k X, takeN k X (xs.drop n) = (0, 0) by intro k X; rw [← hlen, List.drop_length]; rfl)
  obtain ⟨R, hR⟩ : ∃ R, numT xs = R := ⟨_, rfl⟩
  rw [hR] at H0 ⊢
  clear hb hlen hR hg c1
  go_enter Try.func39, Try.ntmps39
  go_wp2
  go_loopw [12, 4] (fun i x wr => ∃ (k : Nat) (X : Int), k ≤ n ∧ i = .int .i64 (k : Int) ∧ x = .int .u64 X ∧ 0 ≤ X ∧ X < 2 ^ (7 * k) ∧ takeN k X (xs.drop k) = R ∧ wr = w) (fun i _ _ => n - (intOf i).toNat)
  case atStart => exact ⟨0, 0, Nat.zero_le _, rfl, rfl, Int.le_refl _, by decide, H0.out, rfl⟩
  case round =>
    obtain ⟨k, X, hk, rfl, rfl, hx0, hx1, hr, rfl⟩ := hrel
    by_cases hlt : k < n
    · obtain ⟨b, off, rfl, hc⟩ := H.out.at_ (by omega)
      have hs := Hst.out k X hlt
      rw [hr] at hs
      have hck := hc k hlt
      obtain ⟨C, hC⟩ : ∃ C, xs.getD k 0 = C := ⟨_, rfl⟩
      have hCb := getD_byte H.out.byte k
      rw [hC] at hs hck hCb
      obtain ⟨hCb0, hCb1⟩ := hCb
      have Hs := Lib.hid hs
      have x1 : (k : Int) < (n : Int) := by omega
      have x2 : (0 : Int) ≤ (k : Int) := by omega
      clear hs hr hC hc
      by_cases h9 : k ≤ 9
      · have x3 : ¬ (9 : Int) < (k : Int) := by omega
        by_cases hB : k = 9 ∧ 1 < C
        · obtain ⟨h91, h92⟩ := hB
          have x4 : (k : Int) = 9 := by omega
          have hR : R = (0, 0) := by have h2 := Hs.out; rw [if_pos (Or.inl ⟨h91, h92⟩)] at h2; exact h2
          subst hR
          subst h91
          go_wp2_with fail
          go_ret2
          exact ⟨rfl, rfl⟩
        · have hv := num_or k h9 X C hx0 hx1 ⟨hCb0, hCb1⟩ (fun h => by omega)
          have HV := Lib.hid hv
          have hl := num_lt k X C hx1
          have hz : 0 ≤ X + C % 128 * 2 ^ (7 * k) := by have := pow7_pos k; have := Int.mul_nonneg (show 0 ≤ C % 128 by omega) (show (0 : Int) ≤ 2 ^ (7 * k) by omega); omega
          have HL := Lib.hid (And.intro hz hl)
          clear hv hl hz
          have hs2 := Hs.out
          rw [if_neg (by omega)] at hs2
          have Hs2 := Lib.hid hs2
          clear hs2 Hs
          have x5 : ¬ ((k : Int) = 9 ∧ 1 < C) := by omega
          by_cases hlow : C < 128
          · by_cases hz : C = 0 ∧ 0 < k
            · obtain ⟨rfl, hk0⟩ := hz
              have x6 : (0 : Int) < (k : Int) := by omega
              have hR : R = (0, 0) := by have h2 := Hs2.out; rw [if_pos hlow, if_pos ⟨rfl, hk0⟩] at h2; exact h2
              subst hR
              clear hB
              by_cases h99 : k = 9
              · subst h99
                go_wp2_with fail
                go_ret2
                exact ⟨rfl, rfl⟩
              · have x4 : ¬ (k : Int) = 9 := by omega
                go_wp2_with fail
                go_ret2
                exact ⟨rfl, rfl⟩
            · have hR : R = (X + C % 128 * 2 ^ (7 * k), k + 1) := by have h2 := Hs2.out; rw [if_pos hlow, if_neg hz] at h2; exact h2
              subst hR
              by_cases hc0 : C = 0
              · have x8 : ¬ (0 : Int) < (k : Int) := by omega
                have x9 : ¬ (k : Int) = 9 := by omega
                clear hz hB
                go_wp2_with fail
                go_ret2
                have HV0 : bits .or .u64 X (IntKind.u64.wrap (IntKind.u64.wrap (bits .and .u8 0 127) * 2 ^ (7 * k))) = X := by
                  have h2 := HV.out
                  rw [hc0] at h2
                  rw [h2, Int.zero_emod, Int.zero_mul, Int.add_zero]
                refine ⟨?_, rfl⟩
                show Ending.returned (.tuple #[.int .u64 (bits .or .u64 X (IntKind.u64.wrap (IntKind.u64.wrap (bits .and .u8 0 127) * 2 ^ (7 * k)))), .int .i64 ((k : Int) + 1)]) = _
                rw [HV0]
              · clear hz hB
                by_cases h99 : k = 9
                · subst h99
                  have x7 : ¬ 1 < C := by omega
                  go_wp2_with fail
                  go_ret2
                  have HV9 := HV.out
                  simp only [show (2 : Int) ^ (7 * 9) = 9223372036854775808 by decide] at HV9
                  exact ⟨by rw [← HV9]; rfl, rfl⟩
                · have x4 : ¬ (k : Int) = 9 := by omega
                  go_wp2_with fail
                  go_ret2
                  exact ⟨by rw [← HV.out]; rfl, rfl⟩
          · have hR := Hs2.out
            rw [if_neg hlow] at hR
            have HR := Lib.hid hR
            clear hR
            by_cases h99 : k = 9
            · omega
            · have x4 : ¬ (k : Int) = 9 := by omega
              go_wp2_with fail
              go_roundw
              case rel => exact ⟨k + 1, X + C % 128 * 2 ^ (7 * k), by omega, by go_num, by rw [HV.out], HL.out.1, HL.out.2, HR.out.symm, by first | rfl | trivial⟩
              case measure => simp [intOf]; omega
      · have x3 : (9 : Int) < (k : Int) := by omega
        have x4 : ¬ (k : Int) = 9 := by omega
        have hR : R = (0, 0) := by have h2 := Hs.out; rw [if_pos (by omega)] at h2; exact h2
        subst hR
        go_wp2_with fail
        go_ret2
        exact ⟨rfl, rfl⟩
    · obtain rfl : k = n := by omega
      have hR : R = (0, 0) := by rw [← hr]; exact Hen.out k X
      subst hR
      have x1 : ¬ (k : Int) < (k : Int) := by omega
      go_wp2_with fail
      go_ret2
      exact ⟨rfl, rfl⟩

theorem cutA_blk {w : World} {a : Option Addr} {n c : Nat} {xs : List Int} (h : BsAt w a n c xs) (k : Nat) : ∀ b off, cutA a c k = some ⟨b, off, none⟩ → 0 < n - k → ∃ off', a = some ⟨b, off', none⟩ ∧ 0 < n := by
  intro b off e hn
  obtain ⟨b', off', rfl, _⟩ := h.at_ (by omega)
  unfold cutA at e
  split at e
  · exact ⟨off, e, by omega⟩
  · simp only [Option.map_some, Option.some.injEq] at e
    rw [addr_add] at e
    simp only [Addr.mk.injEq, and_true] at e
    obtain ⟨rfl, _⟩ := e
    exact ⟨off', rfl, by omega⟩

set_option maxRecDepth 100000 in
theorem run_from (w : World) (a : Option Addr) (n c k : Nat) (hk : k ≤ n) : (Instr.sliceAt 38 (.slice a n c) (some (.int .i64 (k : Int))) none none).run Try.prog w = .ok (.slice (cutA a c k) (n - k) (c - k)) w := by
  have h0 : (0 : Int) ≤ (k : Int) := by omega
  have h1 : (k : Int) ≤ (n : Int) := by omega
  have hs := run_slice_l (P := Try.prog) (w := w) 38 a n c Try.underlying38 .i64 (k : Int) h0 h1
  have hz : ∀ w, (sizeOf (Try.prog.elem 38)).run Try.prog w = .ok 1 w := fun _ => by kernel_rfl
  rw [run_sliceAt_slice w _ _ _ _ _ Try.underlying38, hs, hz]
  unfold sliced cutA
  simp [Result.andThen]

theorem wp_from {ops : Array Oper} {Q : Exit → Act → World → Prop} {rest : List Oper} {o : Oper} {act : Act} {w : World} (hgd : o.guard = none) (x y : Operand) (ho : o.op = .slice 38 x (some y) none none)
    (a : Option Addr) (n c k : Nat) (hx : act.eval x = .slice a n c) (hy : act.eval y = .int .i64 (k : Int)) (hk : k ≤ n)
    (h : wpList Try.prog ops Q rest (act.put o.dst (.slice (cutA a c k) (n - k) (c - k))) w) : wpList Try.prog ops Q (o :: rest) act w := by
  refine wpList_plain hgd fun K hK => ?_
  unfold Oper.wp execOp
  simp only [ho, hx, hy, Option.map_some, Option.map_none, Sem.run_bind, run_from w a n c k hk, Result.andThen_ok, Sem.run_pure]
  exact hK _ _ h

set_option maxHeartbeats 1000000 in
set_option maxRecDepth 100000 in
theorem num_any (g : Nat) (xs : List Int) (bad : Bool) (most : Int) (w : World) (h : InAt w g xs bad) :
    Calls Try.prog 22 #[.pointer (some ⟨g, 0, none⟩), .int .u64 most] w fun e w' => e = .returned (.int .u64 (numP xs bad most).1) ∧ InAt w' g (numP xs bad most).2.1 (numP xs bad most).2.2 ∧ w.grownBy w' (some g) ∧ InSame w w' g := by
  have hn := number_any g xs bad w h
  have HF := Lib.hid (fail_any g xs bad w h)
  obtain ⟨R, hR⟩ : ∃ R, numP xs bad most = R := ⟨_, rfl⟩
  have hR2 := hR
  unfold numP at hR2
  obtain ⟨a, n, c, hg, hb⟩ := h
  have hm : 0 < (numT xs).2 → (numT xs).2 ≤ n := fun h0 => by rw [← hb.len]; exact (numT_back hb.byte rfl h0).2.2.1
  obtain ⟨X, hX⟩ : ∃ X, (numT xs).1 = X := ⟨_, rfl⟩
  obtain ⟨m, hm0⟩ : ∃ m, (numT xs).2 = m := ⟨_, rfl⟩
  rw [hX, hm0] at hR2 hn
  rw [hm0] at hm
  rw [hR]
  have HN := Lib.hid hn
  obtain ⟨c0, c1, z0, z1⟩ := in_cells hg
  have HB := Lib.hid hb
  have HG := Lib.hid hg
  clear hn hX hm0 hR hb hg
  by_cases hbad : bad = true
  · subst hbad
    rw [if_pos (Or.inl rfl)] at hR2
    subst hR2
    clear hm
    go_enter Try.func22, Try.ntmps22
    go_wp2_with fail
    refine HN.out.mono ?_
    rintro e w1 ⟨rfl, rfl⟩
    go_wp2_with fail
    refine HF.out.mono ?_
    rintro e w2 ⟨rfl, hI, hG⟩
    have HI := Lib.hid (And.intro hI hG)
    clear hI hG
    first | (go_end0; go_wp2) | go_wp2
    go_ret
    exact ⟨rfl, HI.out.1, HI.out.2⟩
  · obtain rfl : bad = false := by simpa using hbad
    clear hbad
    by_cases hz : m = 0
    · subst hz
      rw [if_pos (Or.inr (Or.inl rfl))] at hR2
      subst hR2
      clear hm
      go_enter Try.func22, Try.ntmps22
      go_wp2_with fail
      refine HN.out.mono ?_
      rintro e w1 ⟨rfl, rfl⟩
      go_wp2_with fail
      refine HF.out.mono ?_
      rintro e w2 ⟨rfl, hI, hG⟩
      have HI := Lib.hid (And.intro hI hG)
      clear hI hG
      first | (go_end0; go_wp2) | go_wp2
      go_ret
      exact ⟨rfl, HI.out.1, HI.out.2⟩
    · have x1 : ¬ (m : Int) = 0 := by omega
      by_cases hx : most < X
      · rw [if_pos (Or.inr (Or.inr hx))] at hR2
        subst hR2
        clear hm hz
        go_enter Try.func22, Try.ntmps22
        go_wp2_with fail
        refine HN.out.mono ?_
        rintro e w1 ⟨rfl, rfl⟩
        go_wp2_with fail
        refine HF.out.mono ?_
        rintro e w2 ⟨rfl, hI, hG⟩
        have HI := Lib.hid (And.intro hI hG)
        clear hI hG
        first | (go_end0; go_wp2) | go_wp2
        go_ret
        exact ⟨rfl, HI.out.1, HI.out.2⟩
      · rw [if_neg (by simp only [Bool.false_eq_true, false_or, not_or]; exact ⟨hz, hx⟩)] at hR2
        subst hR2
        have hm1 := hm (by omega)
        have HC := Lib.hid (InAt.cut HG.out (HB.out.drop m hm1) (cutA_blk HB.out _))
        clear hm hz
        go_enter Try.func22, Try.ntmps22
        go_wp2_with fail
        refine HN.out.mono ?_
        rintro e w1 ⟨rfl, rfl⟩
        go_wp2_with (refine wp_from rfl _ _ rfl a n c m rfl rfl hm1 ?_)
        · exfalso
          first | omega | (simp_all; done) | (simp_all; omega)
        go_ret
        exact ⟨rfl, HC.out.1, HC.out.2⟩

theorem bs_none (w : World) : BsAt w none 0 0 [] := ⟨rfl, Nat.le_refl _, by omega, by omega, by simp, fun h => by omega, fun _ => rfl⟩

set_option maxRecDepth 100000 in
theorem run_upto (w : World) (a : Option Addr) (n c k : Nat) (hk : k ≤ c) : (Instr.sliceAt 38 (.slice a n c) none (some (.int .i64 (k : Int))) none).run Try.prog w = .ok (.slice a k c) w := by
  have h0 : (0 : Int) ≤ (k : Int) := by omega
  have h1 : (k : Int) ≤ (c : Int) := by omega
  have hs := run_slice_h (P := Try.prog) (w := w) 38 a n c Try.underlying38 .i64 (k : Int) h0 h1
  have hz : ∀ w, (sizeOf (Try.prog.elem 38)).run Try.prog w = .ok 1 w := fun _ => by kernel_rfl
  rw [run_sliceAt_slice w _ _ _ _ _ Try.underlying38, hs, hz]
  unfold sliced
  cases a <;> simp [Result.andThen, Addr.add]

theorem wp_upto {ops : Array Oper} {Q : Exit → Act → World → Prop} {rest : List Oper} {o : Oper} {act : Act} {w : World} (hgd : o.guard = none) (x y : Operand) (ho : o.op = .slice 38 x none (some y) none)
    (a : Option Addr) (n c k : Nat) (hx : act.eval x = .slice a n c) (hy : act.eval y = .int .i64 (k : Int)) (hk : k ≤ c)
    (h : wpList Try.prog ops Q rest (act.put o.dst (.slice a k c)) w) : wpList Try.prog ops Q (o :: rest) act w := by
  refine wpList_plain hgd fun K hK => ?_
  unfold Oper.wp execOp
  simp only [ho, hx, hy, Option.map_some, Option.map_none, Sem.run_bind, run_upto w a n c k hk, Result.andThen_ok, Sem.run_pure]
  exact hK _ _ h

set_option maxHeartbeats 1000000 in
set_option maxRecDepth 100000 in
theorem raw_any (g : Nat) (xs : List Int) (bad : Bool) (k : Int) (w : World) (h : InAt w g xs bad) :
    Calls Try.prog 24 #[.pointer (some ⟨g, 0, none⟩), .int .i64 k] w fun e w' => ∃ a' n' c', e = .returned (.slice a' n' c') ∧ BsAt w' a' n' c' (rawP xs bad k).1 ∧ InAt w' g (rawP xs bad k).2.1 (rawP xs bad k).2.2 ∧ w.grownBy w' (some g) ∧ InSame w w' g := by
  have HF := Lib.hid (fail_any g xs bad w h)
  obtain ⟨R, hR⟩ : ∃ R, rawP xs bad k = R := ⟨_, rfl⟩
  have hR2 := hR
  unfold rawP at hR2
  obtain ⟨a, n, c, hg, hb⟩ := h
  rw [hb.len] at hR2
  rw [hR]
  obtain ⟨c0, c1, z0, z1⟩ := in_cells hg
  have HB := Lib.hid hb
  have HG := Lib.hid hg
  clear hR hb hg
  by_cases hbad : bad = true
  · subst hbad
    rw [if_pos (Or.inl rfl)] at hR2
    subst hR2
    go_enter Try.func24, Try.ntmps24
    go_wp2_with fail
    refine HF.out.mono ?_
    rintro e w2 ⟨rfl, hI, hG⟩
    have HI := Lib.hid (And.intro hI hG)
    clear hI hG
    first | (go_end0; go_wp2) | go_wp2
    go_ret
    exact ⟨none, 0, 0, rfl, bs_none _, HI.out.1, HI.out.2⟩
  · obtain rfl : bad = false := by simpa using hbad
    clear hbad
    by_cases hk0 : k < 0
    · rw [if_pos (Or.inr (Or.inl hk0))] at hR2
      subst hR2
      go_enter Try.func24, Try.ntmps24
      go_wp2_with fail
      refine HF.out.mono ?_
      rintro e w2 ⟨rfl, hI, hG⟩
      have HI := Lib.hid (And.intro hI hG)
      clear hI hG
      first | (go_end0; go_wp2) | go_wp2
      go_ret
      exact ⟨none, 0, 0, rfl, bs_none _, HI.out.1, HI.out.2⟩
    · by_cases hkn : (n : Int) < k
      · rw [if_pos (Or.inr (Or.inr hkn))] at hR2
        subst hR2
        go_enter Try.func24, Try.ntmps24
        go_wp2_with fail
        refine HF.out.mono ?_
        rintro e w2 ⟨rfl, hI, hG⟩
        have HI := Lib.hid (And.intro hI hG)
        clear hI hG
        first | (go_end0; go_wp2) | go_wp2
        go_ret
        exact ⟨none, 0, 0, rfl, bs_none _, HI.out.1, HI.out.2⟩
      · rw [if_neg (by simp only [Bool.false_eq_true, false_or, not_or]; exact ⟨hk0, hkn⟩)] at hR2
        subst hR2
        obtain ⟨m, rfl⟩ : ∃ m : Nat, k = (m : Int) := ⟨k.toNat, by omega⟩
        have hmn : m ≤ n := by omega
        have hcap := HB.out.cap
        have hmc : m ≤ c := by omega
        have HC := Lib.hid (cloneB_any a m c (xs.take m) w (HB.out.cut hmn hmc (Nat.le_refl _)))
        clear hk0 HF
        go_enter Try.func24, Try.ntmps24
        go_wp2_with (refine wp_upto rfl _ _ rfl a n c m rfl rfl hmc ?_)
        refine HC.out.mono ?_
        rintro e w2 ⟨a2, c2, rfl, hb2, hE2⟩
        have hg2 := hE2.keep HG.out
        obtain ⟨d0, d1, y0, y1⟩ := in_cells hg2
        have hcut := InAt.cut hg2 ((HB.out.ext hE2).drop m hmn) (cutA_blk HB.out m)
        have HB2 := Lib.hid (hb2.beside hcut.2.1 (in_noBytes hg2))
        have HI := Lib.hid (And.intro hcut.1 (inStep_trans ⟨grown_ext hE2 _, inSame_ext hE2⟩ hcut.2))
        clear hb2 hE2 hg2 hcut c0 c1 z0 z1 HC
        go_wp2_with (refine wp_from rfl _ _ rfl a n c m rfl rfl hmn ?_)
        go_ret
        exact ⟨a2, m, c2, rfl, HB2.out, HI.out.1, HI.out.2⟩

set_option maxHeartbeats 1000000 in
set_option maxRecDepth 100000 in
theorem text_any (g : Nat) (xs : List Int) (bad : Bool) (most : Int) (w : World) (h : InAt w g xs bad) (hlo : -9223372036854775808 ≤ most) (hhi : most ≤ 9223372036854775807) :
    Calls Try.prog 42 #[.pointer (some ⟨g, 0, none⟩), .int .i64 most] w fun e w' => ∃ a' n' c', e = .returned (.slice a' n' c') ∧ BsAt w' a' n' c' (textP xs bad most).1 ∧ InAt w' g (textP xs bad most).2.1 (textP xs bad most).2.2 ∧ w.grownBy w' (some g) ∧ InSame w w' g := by
  have hn := number_any g xs bad w h
  have HF := Lib.hid (fail_any g xs bad w h)
  obtain ⟨R, hR⟩ : ∃ R, textP xs bad most = R := ⟨_, rfl⟩
  have hR2 := hR
  unfold textP at hR2
  obtain ⟨a, n, c, hg, hb⟩ := h
  have hm : 0 < (numT xs).2 → (numT xs).2 ≤ n ∧ 0 ≤ (numT xs).1 := fun h0 => by rw [← hb.len]; have := numT_back hb.byte rfl h0; exact ⟨this.2.2.1, this.1⟩
  obtain ⟨X, hX⟩ : ∃ X, (numT xs).1 = X := ⟨_, rfl⟩
  obtain ⟨m, hm0⟩ : ∃ m, (numT xs).2 = m := ⟨_, rfl⟩
  rw [hX, hm0, hb.len] at hR2
  rw [hX, hm0] at hn hm
  rw [hR]
  have HN := Lib.hid hn
  obtain ⟨c0, c1, z0, z1⟩ := in_cells hg
  have hsm := hb.small
  have HB := Lib.hid hb
  have HG := Lib.hid hg
  clear hn hX hm0 hR hb hg
  by_cases hbad : bad = true
  · subst hbad
    rw [if_pos (Or.inl rfl)] at hR2
    subst hR2
    clear hm
    go_enter Try.func42, Try.ntmps42
    go_wp2_with fail
    refine HN.out.mono ?_
    rintro e w1 ⟨rfl, rfl⟩
    go_wp2_with fail
    refine HF.out.mono ?_
    rintro e w2 ⟨rfl, hI, hG⟩
    have HI := Lib.hid (And.intro hI hG)
    clear hI hG
    first | (go_end0; go_wp2) | go_wp2
    go_ret
    exact ⟨none, 0, 0, rfl, bs_none _, HI.out.1, HI.out.2⟩
  · obtain rfl : bad = false := by simpa using hbad
    clear hbad
    by_cases hz : m = 0
    · subst hz
      rw [if_pos (Or.inr (Or.inl rfl))] at hR2
      subst hR2
      clear hm
      go_enter Try.func42, Try.ntmps42
      go_wp2_with fail
      refine HN.out.mono ?_
      rintro e w1 ⟨rfl, rfl⟩
      go_wp2_with fail
      refine HF.out.mono ?_
      rintro e w2 ⟨rfl, hI, hG⟩
      have HI := Lib.hid (And.intro hI hG)
      clear hI hG
      first | (go_end0; go_wp2) | go_wp2
      go_ret
      exact ⟨none, 0, 0, rfl, bs_none _, HI.out.1, HI.out.2⟩
    · have x1 : ¬ (m : Int) = 0 := by omega
      have x1b : ((m : Int) == 0) = false := by simpa using x1
      obtain ⟨hm1, hX0⟩ := hm (by omega)
      have x2 : (m : Int) ≤ (n : Int) := by omega
      by_cases hneg : most < 0
      · rw [if_pos (Or.inr (Or.inr (Or.inl hneg)))] at hR2
        subst hR2
        go_enter Try.func42, Try.ntmps42
        go_wp2_with fail
        refine HN.out.mono ?_
        rintro e w1 ⟨rfl, rfl⟩
        go_wp2_with fail
        refine HF.out.mono ?_
        rintro e w2 ⟨rfl, hI, hG⟩
        have HI := Lib.hid (And.intro hI hG)
        clear hI hG
        first | (go_end0; go_wp2) | go_wp2
        go_ret
        exact ⟨none, 0, 0, rfl, bs_none _, HI.out.1, HI.out.2⟩
      · obtain ⟨L, hL⟩ : ∃ L, min (min most 4096) ((n : Int) - (m : Int)) = L := ⟨_, rfl⟩
        rw [hL] at hR2
        have hL0 : 0 ≤ L ∧ L ≤ 4096 ∧ L ≤ (n : Int) - (m : Int) := by omega
        have hsub : IntKind.i64.wrap ((n : Int) - (m : Int)) = (n : Int) - (m : Int) := by rw [IntKind.wrap_i64]; omega
        have hLw : IntKind.u64.wrap L = L := by rw [IntKind.wrap_u64]; omega
        have hkey : (if (n : Int) - (m : Int) < (if 4096 < most then 4096 else most) then (n : Int) - (m : Int) else (if 4096 < most then 4096 else most)) = L := by
          rw [← hL]
          by_cases q1 : 4096 < most
          · rw [if_pos q1]; split <;> omega
          · rw [if_neg q1]; split <;> omega
        have HK := Lib.hid hkey
        clear hkey hL hm
        by_cases hlx : L < X
        · rw [if_pos (Or.inr (Or.inr (Or.inr hlx)))] at hR2
          subst hR2
          go_enter Try.func42, Try.ntmps42
          go_wp2_with fail
          refine HN.out.mono ?_
          rintro e w1 ⟨rfl, rfl⟩
          go_wp2_with (refine wp_from rfl _ _ rfl a n c m rfl rfl hm1 ?_)
          all_goals first
            | (exfalso; have h9 := HK.out; simp only [h9] at *; omega)
            | (refine HF.out.mono ?_
               rintro e w2 ⟨rfl, hI, hG⟩
               have HI := Lib.hid (And.intro hI hG)
               clear hI hG
               first | (go_end0; go_wp2) | go_wp2
               go_ret
               exact ⟨none, 0, 0, rfl, bs_none _, HI.out.1, HI.out.2⟩)
        · rw [if_neg (by simp only [Bool.false_eq_true, false_or, not_or]; exact ⟨hz, hneg, hlx⟩)] at hR2
          subst hR2
          have hcut := InAt.cut HG.out (HB.out.drop m hm1) (cutA_blk HB.out _)
          have hraw := raw_any g (xs.drop m) false X _ hcut.1
          have HCG := Lib.hid hcut.2
          have hrp : rawP (xs.drop m) false X = ((xs.drop m).take X.toNat, (xs.drop m).drop X.toNat, false) := by
            unfold rawP
            rw [if_neg (by simp only [Bool.false_eq_true, false_or, not_or, List.length_drop, HB.out.len]; omega)]
          rw [hrp] at hraw
          have HRw := Lib.hid hraw
          clear hcut hraw hrp
          go_enter Try.func42, Try.ntmps42
          go_wp2_with fail
          refine HN.out.mono ?_
          rintro e w1 ⟨rfl, rfl⟩
          go_wp2_with (refine wp_from rfl _ _ rfl a n c m rfl rfl hm1 ?_)
          all_goals first
            | (exfalso; have h9 := HK.out; simp only [h9] at *; omega)
            | (refine HRw.out.mono ?_
               rintro e w2 ⟨a2, n2, c2, rfl, hb2, hI, hG⟩
               have HI := Lib.hid (And.intro hb2 (And.intro hI (inStep_trans HCG.out hG)))
               clear hb2 hI hG
               go_wp2_with fail
               go_ret
               exact ⟨a2, n2, c2, rfl, HI.out.1, HI.out.2.1, HI.out.2.2⟩)


set_option maxRecDepth 100000 in
theorem oText_any (g : Nat) (v : Value) (xs ys : List Int) (long : Bool) (a : Option Addr) (n c : Nat) (w : World) (h : OutAt w g v xs long) (hb : BsAt w a n c ys) (hp : Apart a n g v) (hn : n ≤ 4096) (hs : xs.length ≤ 70368744177664) :
    Calls Try.prog 14 #[.pointer (some ⟨g, 0, none⟩), .slice a n c] w fun e w' => e = .returned (.tuple #[]) ∧ OutTo w w' g v (xs ++ textL ys) long := by
  have hl := hb.len
  have x1 : ¬ 4096 < (n : Int) := by omega
  have x2 : IntKind.u64.wrap (n : Int) = (n : Int) := by rw [IntKind.wrap_u64]; omega
  have HN := Lib.hid (oNum_any g v xs long (n : Int) w h (by omega) (by omega) hs)
  have hle := numL_length_le (n : Int)
  have e1 : (xs ++ numL (n : Int)) ++ ys = xs ++ textL ys := by unfold textL; rw [hl, List.append_assoc]
  have E1 := Lib.hid e1
  have HB := Lib.hid hb
  have HP := Lib.hid hp
  obtain ⟨c0, c1, z0, z1⟩ := in_cells h.blk
  clear h hb hl e1 hp
  go_enter Try.func14, Try.ntmps14
  go_wp2_with fail
  refine HN.out.mono ?_
  rintro e w1 ⟨rfl, v1, hO, hS⟩
  have HR := Lib.hid (oRaw_any g v1 (xs ++ numL (n : Int)) ys long a n c w1 hO (HB.out.step hS HP.out) (by rw [List.length_append]; omega))
  have HS := Lib.hid hS
  clear hO hS
  go_wp2_with fail
  refine HR.out.mono ?_
  rintro e w2 ⟨rfl, hT⟩
  have HT := Lib.hid (OutTo.trans HS.out hT)
  clear hT
  first | go_end0 | (go_wp2; go_end0) | (go_wp2; refine bodyPost_ret (results_none rfl _ _ _) rfl ?_) | refine bodyPost_ret (results_none rfl _ _ _) rfl ?_
  refine ⟨rfl, ?_⟩
  have hT := HT.out
  rw [E1.out] at hT
  exact hT

end Go.Proofs.Ytdhbkjajhbfihaa
