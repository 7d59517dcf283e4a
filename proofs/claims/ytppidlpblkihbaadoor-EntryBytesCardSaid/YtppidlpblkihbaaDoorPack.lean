/-
  What takes parts from bytes (package pack's In): its state; the walks of fail, Over. No conditions.
  The walk of pack.Read. No conditions.
  The walk of pack.In's number: it hands back numT. No conditions.
  The walk of pack.In's Num. No conditions.
  The walk of pack.In's Raw. No conditions.
  The walk of pack.In's Text. No conditions.
  The walk of jalousieref05.Num: a number's bytes. No conditions.
  What puts parts together (package pack's Out): its state, and how it grows. No conditions.
  The walks of pack.Out: put, Raw, Num, Text, Flag, End. No conditions but lengths.
-/
import Derived.Test.YtppidlpblkihbaaDoorBys
import Derived.Test.YtppidlpblkihbaaDoorNum
import Derived.Deep.Heap
import Derived.Lib.VarintBits
import Derived.Test.YtppidlpblkihbaaDoorLu
namespace Go.Proofs.YtppidlpblkihbaaDoor
open Go.ChangeAt Go.ChangeShapes Go.RowKit Go.WideShapes

/-- Block g is an In: the bytes that are left, whether it has failed. -/
def InAt (w : World) (g : Nat) (xs : List Int) (bad : Bool) : Prop :=
  ∃ a n c, w.heap[g]? = some (.cells #[.slice a n c, .bool bad] 113 (0, 0)) ∧ BsAt w a n c xs

theorem in_cells {w : World} {g : Nat} {v0 v1 : Value} {T : TypeId} (h : w.heap[g]? = some (.cells #[v0, v1] T (0, 0))) : w.cell? ⟨g, 0, none⟩ = some v0 ∧ w.cell? ⟨g, 1, none⟩ = some v1 ∧ w.frozen? ⟨g, 0, none⟩ = false ∧ w.frozen? ⟨g, 1, none⟩ = false := by
  unfold World.cell? World.frozen?
  simp [h]

theorem in_set0 {w : World} {g : Nat} {v0 v1 : Value} {T : TypeId} (h : w.heap[g]? = some (.cells #[v0, v1] T (0, 0))) (v : Value) : (w.setCell ⟨g, 0, none⟩ v).heap[g]? = some (.cells #[v, v1] T (0, 0)) := by
  simp [World.setCell, Array.getElem?_modify, h]

theorem in_set1 {w : World} {g : Nat} {v0 v1 : Value} {T : TypeId} (h : w.heap[g]? = some (.cells #[v0, v1] T (0, 0))) (v : Value) : (w.setCell ⟨g, 1, none⟩ v).heap[g]? = some (.cells #[v0, v] T (0, 0)) := by
  simp [World.setCell, Array.getElem?_modify, h]

theorem BsAt.beside {w w' : World} {a : Option Addr} {n c : Nat} {xs : List Int} {g : Nat} (h : BsAt w a n c xs) (hg : w.grownBy w' (some g)) (hn : ∀ k x, w.cell? ⟨g, k, none⟩ ≠ some (.int .u8 x)) : BsAt w' a n c xs := by
  refine ⟨h.len, h.cap, h.lim, h.small, h.byte, fun hp => ?_, h.nil_⟩
  obtain ⟨b, off, ha, hc⟩ := h.at_ hp
  refine ⟨b, off, ha, fun i hi => ?_⟩
  have h1 := hc i hi
  exact World.grownBy.cell hg h1 (fun e => hn (off + i) _ (by injection e with e; rw [← e]; exact h1))

theorem in_noBytes {w : World} {g : Nat} {a : Option Addr} {n c : Nat} {bad : Bool} {T : TypeId} (h : w.heap[g]? = some (.cells #[.slice a n c, .bool bad] T (0, 0))) : ∀ k x, w.cell? ⟨g, k, none⟩ ≠ some (.int .u8 x) := by
  intro k x
  unfold World.cell?
  simp only [h]
  rcases k with _ | _ | k <;> simp

/-- The bytes that are left lie in block r. -/
def InBlk (w : World) (g r : Nat) : Prop := ∃ a n c v T fr, w.heap[g]? = some (.cells #[.slice a n c, v] T fr) ∧ ∀ b off, a = some ⟨b, off, none⟩ → 0 < n → b = r
/-- What is left lies where it lay. -/
def InSame (w w' : World) (g : Nat) : Prop := ∀ r, InBlk w g r → InBlk w' g r
theorem InSame.trans {a b c : World} {g : Nat} (h : InSame a b g) (k : InSame b c g) : InSame a c g := fun r hr => k r (h r hr)
theorem inStep_trans {a b c : World} {g : Nat} (h : a.grownBy b (some g) ∧ InSame a b g) (k : b.grownBy c (some g) ∧ InSame b c g) : a.grownBy c (some g) ∧ InSame a c g := ⟨grown_trans h.1 k.1, h.2.trans k.2⟩
theorem InAt.blk {w : World} {g : Nat} {xs : List Int} {bad : Bool} (h : InAt w g xs bad) : ∃ r, InBlk w g r ∧ r < w.heap.size := by
  obtain ⟨a, n, c, hg, hb⟩ := h
  have hlt := (Array.getElem?_eq_some_iff.1 hg).1
  by_cases h0 : 0 < n
  · obtain ⟨b, off, rfl, hc⟩ := hb.at_ h0
    refine ⟨b, ⟨_, _, _, _, _, _, hg, fun b' off' e _ => ?_⟩, World.block_lt_of_cell? w _ (hc 0 h0)⟩
    simp only [Option.some.injEq, Addr.mk.injEq, and_true] at e
    exact e.1.symm
  · exact ⟨0, ⟨_, _, _, _, _, _, hg, fun _ _ _ h => absurd h h0⟩, by omega⟩
theorem InAt.same {w w' : World} {g : Nat} {a a' : Option Addr} {n n' c c' : Nat} {v v' : Value} {T T' : TypeId} {fr fr' : Nat × Nat} (h : w.heap[g]? = some (.cells #[.slice a n c, v] T fr)) (h' : w'.heap[g]? = some (.cells #[.slice a' n' c', v'] T' fr'))
    (hb : ∀ b off, a' = some ⟨b, off, none⟩ → 0 < n' → ∃ off', a = some ⟨b, off', none⟩ ∧ 0 < n) : InSame w w' g := by
  rintro r ⟨a1, n1, c1, v1, T1, fr1, h1, hr⟩
  rw [h] at h1
  simp only [Option.some.injEq, Obj.cells.injEq, Array.mk.injEq, List.cons.injEq, Value.slice.injEq, and_true] at h1
  obtain ⟨⟨⟨rfl, rfl, rfl⟩, rfl⟩, rfl, rfl⟩ := h1
  refine ⟨a', n', c', v', T', fr', h', fun b off e hn => ?_⟩
  obtain ⟨off', e', hn'⟩ := hb b off e hn
  exact hr b off' e' hn'

theorem inSame_ext {w w' : World} {g : Nat} (hE : Ext w w') : InSame w w' g := by
  rintro r ⟨a1, n1, c1, v1, T1, fr1, h1, hr⟩
  exact ⟨a1, n1, c1, v1, T1, fr1, hE.keep h1, hr⟩

theorem InAt.bad {w : World} {g : Nat} {xs : List Int} {bad : Bool} (h : InAt w g xs bad) : InAt (w.setCell ⟨g, 1, none⟩ (.bool true)) g xs true ∧ w.grownBy (w.setCell ⟨g, 1, none⟩ (.bool true)) (some g) ∧ InSame w (w.setCell ⟨g, 1, none⟩ (.bool true)) g := by
  obtain ⟨a, n, c, hg, hb⟩ := h
  have hG : w.grownBy (w.setCell ⟨g, 1, none⟩ (.bool true)) (some g) := grown_setCell (grown_ext (Ext.refl w) _) rfl _
  exact ⟨⟨a, n, c, in_set1 hg _, hb.beside hG (in_noBytes hg)⟩, hG, InAt.same hg (in_set1 hg _) (fun b off e h => ⟨off, e, h⟩)⟩

theorem InAt.cut {w : World} {g : Nat} {a : Option Addr} {n c : Nat} {bad : Bool} (hg : w.heap[g]? = some (.cells #[.slice a n c, .bool bad] 113 (0, 0))) {a' : Option Addr} {n' c' : Nat} {ys : List Int} (hb : BsAt w a' n' c' ys) (hab : ∀ b off, a' = some ⟨b, off, none⟩ → 0 < n' → ∃ off', a = some ⟨b, off', none⟩ ∧ 0 < n) :
    InAt (w.setCell ⟨g, 0, none⟩ (.slice a' n' c')) g ys bad ∧ w.grownBy (w.setCell ⟨g, 0, none⟩ (.slice a' n' c')) (some g) ∧ InSame w (w.setCell ⟨g, 0, none⟩ (.slice a' n' c')) g := by
  have hG : w.grownBy (w.setCell ⟨g, 0, none⟩ (.slice a' n' c')) (some g) := grown_setCell (grown_ext (Ext.refl w) _) rfl _
  exact ⟨⟨a', n', c', in_set0 hg _, hb.beside hG (in_noBytes hg)⟩, hG, InAt.same hg (in_set0 hg _) hab⟩

theorem fail_any (g : Nat) (xs : List Int) (bad : Bool) (w : World) (h : InAt w g xs bad) :
    Calls Tryd.prog 80 #[.pointer (some ⟨g, 0, none⟩)] w fun e w' => e = .returned (.tuple #[]) ∧ InAt w' g xs true ∧ w.grownBy w' (some g) ∧ InSame w w' g := by
  have HB := Lib.hid h.bad
  obtain ⟨a, n, c, hg, hb⟩ := h
  obtain ⟨c0, c1, z0, z1⟩ := in_cells hg
  clear hg hb
  go_enter Tryd.func80, Tryd.ntmps80
  go_wp2_with fail
  first | go_end0 | refine bodyPost_ret (results_none rfl _ _ _) rfl ?_
  exact ⟨rfl, HB.out⟩

theorem over_any (g : Nat) (xs : List Int) (bad : Bool) (w : World) (h : InAt w g xs bad) :
    Calls Tryd.prog 52 #[.pointer (some ⟨g, 0, none⟩)] w fun e w' => e = .returned (.bool (!bad && decide (xs.length = 0))) ∧ w' = w := by
  obtain ⟨a, n, c, hg, hb⟩ := h
  obtain ⟨c0, c1, z0, z1⟩ := in_cells hg
  have hl := hb.len
  clear hg hb z0 z1
  subst hl
  cases bad with
  | true =>
    go_enter Tryd.func52, Tryd.ntmps52
    go_wp2_with fail
    go_ret
    exact ⟨rfl, rfl⟩
  | false =>
    have e1 : ((xs.length : Int) == 0) = decide (xs.length = 0) := by by_cases h : xs.length = 0 <;> simp [h]
    have E1 := Lib.hid e1
    clear e1
    go_enter Tryd.func52, Tryd.ntmps52
    go_wp2_with fail
    go_ret
    exact ⟨by rw [← E1.out]; rfl, rfl⟩

theorem cloneB_any (a : Option Addr) (n c : Nat) (xs : List Int) (w : World) (h : BsAt w a n c xs) :
    Calls Tryd.prog 78 #[.slice a n c] w fun e w' => ∃ a' c', e = .returned (.slice a' n c') ∧ BsAt w' a' n c' xs ∧ Ext w w' := by
  refine (clone_any a n c xs w h).mono ?_
  rintro e w' ⟨v, rfl, hown, hE⟩
  obtain ⟨ao, cv, rfl, hc1, hc2⟩ := owns_slice hown
  exact ⟨ao, cv, rfl, owns_bs hown h.byte (by unfold maxLen at hc2; omega) h.small, hE⟩

set_option maxRecDepth 100000 in
theorem build_in (w : World) (a : Option Addr) (n c : Nat) : (Instr.build 113 #[(0, .slice a n c)]).run Tryd.prog w = .ok (.agg #[.slice a n c, .bool false]) w := by kernel_rfl

set_option maxRecDepth 100000 in
theorem readIn_any (a : Option Addr) (n c : Nat) (xs : List Int) (w : World) (h : BsAt w a n c xs) :
    Calls Tryd.prog 49 #[.slice a n c] w fun e w' => ∃ g, e = .returned (.pointer (some ⟨g, 0, none⟩)) ∧ w.heap.size ≤ g ∧ InAt w' g xs false ∧ Ext w w' := by
  have HC := Lib.hid (cloneB_any a n c xs w h)
  have hbi := build_in
  clear h
  go_enter Tryd.func49, Tryd.ntmps49
  go_wp2_with fail
  refine HC.out.mono ?_
  rintro e w1 ⟨a1, c1, rfl, hb, hE⟩
  have HB := Lib.hid hb
  have HE := Lib.hid hE
  clear hb hE HC
  go_wp2_with fail
  go_ret
  have hE2 : Ext w1 (w1.alloc (.cells #[.slice a1 n c1, .bool false] 113)) := (Ext.refl w1).alloc _
  exact ⟨w1.heap.size, rfl, Below.size HE.out, ⟨a1, n, c1, heap_new w1 _ _ rfl, HB.out.ext hE2⟩, HE.out.trans hE2⟩

theorem takeN_cons (k : Nat) (X : Int) (xs : List Int) (h : k < xs.length) : takeN k X (xs.drop k) = (if k = 9 ∧ 1 < xs.getD k 0 ∨ 9 < k then (0, 0) else if xs.getD k 0 < 128 then (if xs.getD k 0 = 0 ∧ 0 < k then (0, 0) else (X + xs.getD k 0 % 128 * 2 ^ (7 * k), k + 1)) else takeN (k + 1) (X + xs.getD k 0 % 128 * 2 ^ (7 * k)) (xs.drop (k + 1))) := by
  have e : xs.getD k 0 = xs[k] := by simp [List.getD_eq_getElem?_getD, List.getElem?_eq_getElem h]
  rw [e, List.drop_eq_getElem_cons h]
  simp only [takeN]

theorem and_127 : ∀ c : Nat, c < 256 → bits .and .u8 (c : Int) 127 = (c : Int) % 128 := by decide +kernel

theorem or_part (p : Int) (hp : 0 < p) (orv : ∀ y x : Int, 0 ≤ y → y < p → 0 ≤ x → x % p = 0 → x < 18446744073709551616 → bits .or .u64 y x = y + x) (X C : Int) (h0 : 0 ≤ X) (h1 : X < p) (hC : 0 ≤ C ∧ C < 256) (hb : C % 128 * p < 18446744073709551616) :
    bits .or .u64 X (IntKind.u64.wrap (IntKind.u64.wrap (bits .and .u8 C 127) * p)) = X + C % 128 * p := by
  obtain ⟨c, rfl⟩ : ∃ c : Nat, C = (c : Int) := ⟨C.toNat, by omega⟩
  rw [and_127 c (by omega)]
  have hz : 0 ≤ (c : Int) % 128 * p := Int.mul_nonneg (by omega) (by omega)
  have e1 : IntKind.u64.wrap ((c : Int) % 128) = (c : Int) % 128 := by rw [IntKind.wrap_u64]; omega
  have e2 : IntKind.u64.wrap ((c : Int) % 128 * p) = (c : Int) % 128 * p := by rw [IntKind.wrap_u64]; exact Int.emod_eq_of_lt hz hb
  rw [e1, e2]
  exact orv X _ h0 h1 hz (Int.mul_emod_left _ _) hb

theorem num_or (k : Nat) (hk : k ≤ 9) (X C : Int) (h0 : 0 ≤ X) (h1 : X < 2 ^ (7 * k)) (hC : 0 ≤ C ∧ C < 256) (h9 : k = 9 → C ≤ 1) :
    bits .or .u64 X (IntKind.u64.wrap (IntKind.u64.wrap (bits .and .u8 C 127) * 2 ^ (7 * k))) = X + C % 128 * 2 ^ (7 * k) := by
  rcases (by omega : k = 0 ∨ k = 1 ∨ k = 2 ∨ k = 3 ∨ k = 4 ∨ k = 5 ∨ k = 6 ∨ k = 7 ∨ k = 8 ∨ k = 9) with rfl | rfl | rfl | rfl | rfl | rfl | rfl | rfl | rfl | rfl
  · exact or_part (2 ^ (7 * 0)) (by decide) (fun y x a b c d e => u64_orv0 y x a (by simpa using b) c (Int.emod_one x) e) X C h0 h1 hC (by simp only [show (2 : Int) ^ (7 * 0) = 1 by decide]; omega)
  · exact or_part (2 ^ (7 * 1)) (by decide) (fun y x a b c d e => u64_orv7 y x a (by simpa using b) c (by simpa using d) e) X C h0 h1 hC (by simp only [show (2 : Int) ^ (7 * 1) = 128 by decide]; omega)
  · exact or_part (2 ^ (7 * 2)) (by decide) (fun y x a b c d e => u64_orv14 y x a (by simpa using b) c (by simpa using d) e) X C h0 h1 hC (by simp only [show (2 : Int) ^ (7 * 2) = 16384 by decide]; omega)
  · exact or_part (2 ^ (7 * 3)) (by decide) (fun y x a b c d e => u64_orv21 y x a (by simpa using b) c (by simpa using d) e) X C h0 h1 hC (by simp only [show (2 : Int) ^ (7 * 3) = 2097152 by decide]; omega)
  · exact or_part (2 ^ (7 * 4)) (by decide) (fun y x a b c d e => u64_orv28 y x a (by simpa using b) c (by simpa using d) e) X C h0 h1 hC (by simp only [show (2 : Int) ^ (7 * 4) = 268435456 by decide]; omega)
  · exact or_part (2 ^ (7 * 5)) (by decide) (fun y x a b c d e => u64_orv35 y x a (by simpa using b) c (by simpa using d) e) X C h0 h1 hC (by simp only [show (2 : Int) ^ (7 * 5) = 34359738368 by decide]; omega)
  · exact or_part (2 ^ (7 * 6)) (by decide) (fun y x a b c d e => u64_orv42 y x a (by simpa using b) c (by simpa using d) e) X C h0 h1 hC (by simp only [show (2 : Int) ^ (7 * 6) = 4398046511104 by decide]; omega)
  · exact or_part (2 ^ (7 * 7)) (by decide) (fun y x a b c d e => u64_orv49 y x a (by simpa using b) c (by simpa using d) e) X C h0 h1 hC (by simp only [show (2 : Int) ^ (7 * 7) = 562949953421312 by decide]; omega)
  · exact or_part (2 ^ (7 * 8)) (by decide) (fun y x a b c d e => u64_orv56 y x a (by simpa using b) c (by simpa using d) e) X C h0 h1 hC (by simp only [show (2 : Int) ^ (7 * 8) = 72057594037927936 by decide]; omega)
  · exact or_part (2 ^ (7 * 9)) (by decide) (fun y x a b c d e => u64_orv63 y x a (by simpa using b) c (by simpa using d) e) X C h0 h1 hC (by have := h9 rfl; simp only [show (2 : Int) ^ (7 * 9) = 9223372036854775808 by decide]; omega)

theorem num_lt (k : Nat) (X C : Int) (h1 : X < 2 ^ (7 * k)) : X + C % 128 * 2 ^ (7 * k) < 2 ^ (7 * (k + 1)) := by
  rw [pow7]
  have hp := pow7_pos k
  have h2 : C % 128 ≤ 127 := by omega
  have h3 : C % 128 * 2 ^ (7 * k) ≤ 127 * 2 ^ (7 * k) := Int.mul_le_mul_of_nonneg_right h2 (by omega)
  omega

set_option maxHeartbeats 1000000 in
set_option maxRecDepth 100000 in
theorem number_any (g : Nat) (xs : List Int) (bad : Bool) (w : World) (h : InAt w g xs bad) :
    Calls Tryd.prog 79 #[.pointer (some ⟨g, 0, none⟩)] w fun e w' => e = .returned (.tuple #[.int .u64 (numT xs).1, .int .i64 ((numT xs).2 : Int)]) ∧ w' = w := by
  obtain ⟨a, n, c, hg, hb⟩ := h
  obtain ⟨c0, c1, _, _⟩ := in_cells hg
  have hlen := hb.len
  have hsm := hb.small
  have H := Lib.hid hb
  have Hlen := Lib.hid hlen
  have Hst := Lib.hid (show ∀ k X, k < n → _ from fun k X hk => takeN_cons k X xs (by omega))
  have H0 := Lib.hid (show takeN 0 0 (xs.drop 0) = numT xs from rfl)
  have Hen := Lib.hid (show ∀ k X, takeN k X (xs.drop n) = (0, 0) by intro k X; rw [← hlen, List.drop_length]; rfl)
  obtain ⟨R, hR⟩ : ∃ R, numT xs = R := ⟨_, rfl⟩
  rw [hR] at H0 ⊢
  clear hb hlen hR hg c1
  go_enter Tryd.func79, Tryd.ntmps79
  go_wp2
  go_loopw [12, 4] (fun i x wr => ∃ (k : Nat) (X : Int), k ≤ n ∧ i = .int .i64 (k : Int) ∧ x = .int .u64 X ∧ 0 ≤ X ∧ X < 2 ^ (7 * k) ∧ takeN k X (xs.drop k) = R ∧ wr = w) (fun i _ _ => n - (intOf i).toNat)
  case atStart => exact ⟨0, 0, Nat.zero_le _, rfl, rfl, Int.le_refl _, by decide, H0.out, rfl⟩
  case round =>
    obtain ⟨k, X, hk, rfl, rfl, hx0, hx1, hr, rfl⟩ := hrel
    by_cases hlt : k < n
    · obtain ⟨b, off, rfl, hc⟩ := H.out.at_ (by omega)
      have hs := Hst.out k X hlt
      rw [hr] at hs
      have hck := hc k hlt
      obtain ⟨C, hC⟩ : ∃ C, xs.getD k 0 = C := ⟨_, rfl⟩
      have hCb := getD_byte H.out.byte k
      rw [hC] at hs hck hCb
      obtain ⟨hCb0, hCb1⟩ := hCb
      have Hs := Lib.hid hs
      have x1 : (k : Int) < (n : Int) := by omega
      have x2 : (0 : Int) ≤ (k : Int) := by omega
      clear hs hr hC hc
      by_cases h9 : k ≤ 9
      · have x3 : ¬ (9 : Int) < (k : Int) := by omega
        by_cases hB : k = 9 ∧ 1 < C
        · obtain ⟨h91, h92⟩ := hB
          have x4 : (k : Int) = 9 := by omega
          have hR : R = (0, 0) := by have h2 := Hs.out; rw [if_pos (Or.inl ⟨h91, h92⟩)] at h2; exact h2
          subst hR
          subst h91
          go_wp2_with fail
          go_ret2
          exact ⟨rfl, rfl⟩
        · have hv := num_or k h9 X C hx0 hx1 ⟨hCb0, hCb1⟩ (fun h => by omega)
          have HV := Lib.hid hv
          have hl := num_lt k X C hx1
          have hz : 0 ≤ X + C % 128 * 2 ^ (7 * k) := by have := pow7_pos k; have := Int.mul_nonneg (show 0 ≤ C % 128 by omega) (show (0 : Int) ≤ 2 ^ (7 * k) by omega); omega
          have HL := Lib.hid (And.intro hz hl)
          clear hv hl hz
          have hs2 := Hs.out
          rw [if_neg (by omega)] at hs2
          have Hs2 := Lib.hid hs2
          clear hs2 Hs
          have x5 : ¬ ((k : Int) = 9 ∧ 1 < C) := by omega
          by_cases hlow : C < 128
          · by_cases hz : C = 0 ∧ 0 < k
            · obtain ⟨rfl, hk0⟩ := hz
              have x6 : (0 : Int) < (k : Int) := by omega
              have hR : R = (0, 0) := by have h2 := Hs2.out; rw [if_pos hlow, if_pos ⟨rfl, hk0⟩] at h2; exact h2
              subst hR
              clear hB
              by_cases h99 : k = 9
              · subst h99
                go_wp2_with fail
                go_ret2
                exact ⟨rfl, rfl⟩
              · have x4 : ¬ (k : Int) = 9 := by omega
                go_wp2_with fail
                go_ret2
                exact ⟨rfl, rfl⟩
            · have hR : R = (X + C % 128 * 2 ^ (7 * k), k + 1) := by have h2 := Hs2.out; rw [if_pos hlow, if_neg hz] at h2; exact h2
              subst hR
              by_cases hc0 : C = 0
              · have x8 : ¬ (0 : Int) < (k : Int) := by omega
                have x9 : ¬ (k : Int) = 9 := by omega
                clear hz hB
                go_wp2_with fail
                go_ret2
                have HV0 : bits .or .u64 X (IntKind.u64.wrap (IntKind.u64.wrap (bits .and .u8 0 127) * 2 ^ (7 * k))) = X := by
                  have h2 := HV.out
                  rw [hc0] at h2
                  rw [h2, Int.zero_emod, Int.zero_mul, Int.add_zero]
                refine ⟨?_, rfl⟩
                show Ending.returned (.tuple #[.int .u64 (bits .or .u64 X (IntKind.u64.wrap (IntKind.u64.wrap (bits .and .u8 0 127) * 2 ^ (7 * k)))), .int .i64 ((k : Int) + 1)]) = _
                rw [HV0]
              · clear hz hB
                by_cases h99 : k = 9
                · subst h99
                  have x7 : ¬ 1 < C := by omega
                  go_wp2_with fail
                  go_ret2
                  have HV9 := HV.out
                  simp only [show (2 : Int) ^ (7 * 9) = 9223372036854775808 by decide] at HV9
                  exact ⟨by rw [← HV9]; rfl, rfl⟩
                · have x4 : ¬ (k : Int) = 9 := by omega
                  go_wp2_with fail
                  go_ret2
                  exact ⟨by rw [← HV.out]; rfl, rfl⟩
          · have hR := Hs2.out
            rw [if_neg hlow] at hR
            have HR := Lib.hid hR
            clear hR
            by_cases h99 : k = 9
            · omega
            · have x4 : ¬ (k : Int) = 9 := by omega
              go_wp2_with fail
              go_roundw
              case rel => exact ⟨k + 1, X + C % 128 * 2 ^ (7 * k), by omega, by go_num, by rw [HV.out], HL.out.1, HL.out.2, HR.out.symm, by first | rfl | trivial⟩
              case measure => simp [intOf]; omega
      · have x3 : (9 : Int) < (k : Int) := by omega
        have x4 : ¬ (k : Int) = 9 := by omega
        have hR : R = (0, 0) := by have h2 := Hs.out; rw [if_pos (by omega)] at h2; exact h2
        subst hR
        go_wp2_with fail
        go_ret2
        exact ⟨rfl, rfl⟩
    · obtain rfl : k = n := by omega
      have hR : R = (0, 0) := by rw [← hr]; exact Hen.out k X
      subst hR
      have x1 : ¬ (k : Int) < (k : Int) := by omega
      go_wp2_with fail
      go_ret2
      exact ⟨rfl, rfl⟩

theorem cutA_blk {w : World} {a : Option Addr} {n c : Nat} {xs : List Int} (h : BsAt w a n c xs) (k : Nat) : ∀ b off, cutA a c k = some ⟨b, off, none⟩ → 0 < n - k → ∃ off', a = some ⟨b, off', none⟩ ∧ 0 < n := by
  intro b off e hn
  obtain ⟨b', off', rfl, _⟩ := h.at_ (by omega)
  unfold cutA at e
  split at e
  · exact ⟨off, e, by omega⟩
  · simp only [Option.map_some, Option.some.injEq] at e
    rw [addr_add] at e
    simp only [Addr.mk.injEq, and_true] at e
    obtain ⟨rfl, _⟩ := e
    exact ⟨off', rfl, by omega⟩

/-- What Num takes: the number, what is left, whether it has failed. -/
def numP (xs : List Int) (bad : Bool) (most : Int) : Int × List Int × Bool :=
  if bad = true ∨ (numT xs).2 = 0 ∨ most < (numT xs).1 then (0, xs, true) else ((numT xs).1, xs.drop (numT xs).2, false)

set_option maxRecDepth 100000 in
theorem run_from (w : World) (a : Option Addr) (n c k : Nat) (hk : k ≤ n) : (Instr.sliceAt 41 (.slice a n c) (some (.int .i64 (k : Int))) none none).run Tryd.prog w = .ok (.slice (cutA a c k) (n - k) (c - k)) w := by
  have h0 : (0 : Int) ≤ (k : Int) := by omega
  have h1 : (k : Int) ≤ (n : Int) := by omega
  have hs := run_slice_l (P := Tryd.prog) (w := w) 41 a n c Tryd.underlying41 .i64 (k : Int) h0 h1
  have hz : ∀ w, (sizeOf (Tryd.prog.elem 41)).run Tryd.prog w = .ok 1 w := fun _ => by kernel_rfl
  rw [run_sliceAt_slice w _ _ _ _ _ Tryd.underlying41, hs, hz]
  unfold sliced cutA
  simp [Result.andThen]

theorem wp_from {ops : Array Oper} {Q : Exit → Act → World → Prop} {rest : List Oper} {o : Oper} {act : Act} {w : World} (hgd : o.guard = none) (x y : Operand) (ho : o.op = .slice 41 x (some y) none none)
    (a : Option Addr) (n c k : Nat) (hx : act.eval x = .slice a n c) (hy : act.eval y = .int .i64 (k : Int)) (hk : k ≤ n)
    (h : wpList Tryd.prog ops Q rest (act.put o.dst (.slice (cutA a c k) (n - k) (c - k))) w) : wpList Tryd.prog ops Q (o :: rest) act w := by
  refine wpList_plain hgd fun K hK => ?_
  unfold Oper.wp execOp
  simp only [ho, hx, hy, Option.map_some, Option.map_none, Sem.run_bind, run_from w a n c k hk, Result.andThen_ok, Sem.run_pure]
  exact hK _ _ h

set_option maxHeartbeats 1000000 in
set_option maxRecDepth 100000 in
theorem num_any (g : Nat) (xs : List Int) (bad : Bool) (most : Int) (w : World) (h : InAt w g xs bad) :
    Calls Tryd.prog 50 #[.pointer (some ⟨g, 0, none⟩), .int .u64 most] w fun e w' => e = .returned (.int .u64 (numP xs bad most).1) ∧ InAt w' g (numP xs bad most).2.1 (numP xs bad most).2.2 ∧ w.grownBy w' (some g) ∧ InSame w w' g := by
  have hn := number_any g xs bad w h
  have HF := Lib.hid (fail_any g xs bad w h)
  obtain ⟨R, hR⟩ : ∃ R, numP xs bad most = R := ⟨_, rfl⟩
  have hR2 := hR
  unfold numP at hR2
  obtain ⟨a, n, c, hg, hb⟩ := h
  have hm : 0 < (numT xs).2 → (numT xs).2 ≤ n := fun h0 => by rw [← hb.len]; exact (numT_back hb.byte rfl h0).2.2.1
  obtain ⟨X, hX⟩ : ∃ X, (numT xs).1 = X := ⟨_, rfl⟩
  obtain ⟨m, hm0⟩ : ∃ m, (numT xs).2 = m := ⟨_, rfl⟩
  rw [hX, hm0] at hR2 hn
  rw [hm0] at hm
  rw [hR]
  have HN := Lib.hid hn
  obtain ⟨c0, c1, z0, z1⟩ := in_cells hg
  have HB := Lib.hid hb
  have HG := Lib.hid hg
  clear hn hX hm0 hR hb hg
  by_cases hbad : bad = true
  · subst hbad
    rw [if_pos (Or.inl rfl)] at hR2
    subst hR2
    clear hm
    go_enter Tryd.func50, Tryd.ntmps50
    go_wp2_with fail
    refine HN.out.mono ?_
    rintro e w1 ⟨rfl, rfl⟩
    go_wp2_with fail
    refine HF.out.mono ?_
    rintro e w2 ⟨rfl, hI, hG⟩
    have HI := Lib.hid (And.intro hI hG)
    clear hI hG
    first | (go_end0; go_wp2) | go_wp2
    go_ret
    exact ⟨rfl, HI.out.1, HI.out.2⟩
  · obtain rfl : bad = false := by simpa using hbad
    clear hbad
    by_cases hz : m = 0
    · subst hz
      rw [if_pos (Or.inr (Or.inl rfl))] at hR2
      subst hR2
      clear hm
      go_enter Tryd.func50, Tryd.ntmps50
      go_wp2_with fail
      refine HN.out.mono ?_
      rintro e w1 ⟨rfl, rfl⟩
      go_wp2_with fail
      refine HF.out.mono ?_
      rintro e w2 ⟨rfl, hI, hG⟩
      have HI := Lib.hid (And.intro hI hG)
      clear hI hG
      first | (go_end0; go_wp2) | go_wp2
      go_ret
      exact ⟨rfl, HI.out.1, HI.out.2⟩
    · have x1 : ¬ (m : Int) = 0 := by omega
      by_cases hx : most < X
      · rw [if_pos (Or.inr (Or.inr hx))] at hR2
        subst hR2
        clear hm hz
        go_enter Tryd.func50, Tryd.ntmps50
        go_wp2_with fail
        refine HN.out.mono ?_
        rintro e w1 ⟨rfl, rfl⟩
        go_wp2_with fail
        refine HF.out.mono ?_
        rintro e w2 ⟨rfl, hI, hG⟩
        have HI := Lib.hid (And.intro hI hG)
        clear hI hG
        first | (go_end0; go_wp2) | go_wp2
        go_ret
        exact ⟨rfl, HI.out.1, HI.out.2⟩
      · rw [if_neg (by simp only [Bool.false_eq_true, false_or, not_or]; exact ⟨hz, hx⟩)] at hR2
        subst hR2
        have hm1 := hm (by omega)
        have HC := Lib.hid (InAt.cut HG.out (HB.out.drop m hm1) (cutA_blk HB.out _))
        clear hm hz
        go_enter Tryd.func50, Tryd.ntmps50
        go_wp2_with fail
        refine HN.out.mono ?_
        rintro e w1 ⟨rfl, rfl⟩
        go_wp2_with (refine wp_from rfl _ _ rfl a n c m rfl rfl hm1 ?_)
        · exfalso
          first | omega | (simp_all; done) | (simp_all; omega)
        go_ret
        exact ⟨rfl, HC.out.1, HC.out.2⟩

theorem bs_none (w : World) : BsAt w none 0 0 [] := ⟨rfl, Nat.le_refl _, by omega, by omega, by simp, fun h => by omega, fun _ => rfl⟩

/-- What Raw takes: the bytes, what is left, whether it has failed. -/
def rawP (xs : List Int) (bad : Bool) (k : Int) : List Int × List Int × Bool :=
  if bad = true ∨ k < 0 ∨ (xs.length : Int) < k then ([], xs, true) else (xs.take k.toNat, xs.drop k.toNat, false)

set_option maxRecDepth 100000 in
theorem run_upto (w : World) (a : Option Addr) (n c k : Nat) (hk : k ≤ c) : (Instr.sliceAt 41 (.slice a n c) none (some (.int .i64 (k : Int))) none).run Tryd.prog w = .ok (.slice a k c) w := by
  have h0 : (0 : Int) ≤ (k : Int) := by omega
  have h1 : (k : Int) ≤ (c : Int) := by omega
  have hs := run_slice_h (P := Tryd.prog) (w := w) 41 a n c Tryd.underlying41 .i64 (k : Int) h0 h1
  have hz : ∀ w, (sizeOf (Tryd.prog.elem 41)).run Tryd.prog w = .ok 1 w := fun _ => by kernel_rfl
  rw [run_sliceAt_slice w _ _ _ _ _ Tryd.underlying41, hs, hz]
  unfold sliced
  cases a <;> simp [Result.andThen, Addr.add]

theorem wp_upto {ops : Array Oper} {Q : Exit → Act → World → Prop} {rest : List Oper} {o : Oper} {act : Act} {w : World} (hgd : o.guard = none) (x y : Operand) (ho : o.op = .slice 41 x none (some y) none)
    (a : Option Addr) (n c k : Nat) (hx : act.eval x = .slice a n c) (hy : act.eval y = .int .i64 (k : Int)) (hk : k ≤ c)
    (h : wpList Tryd.prog ops Q rest (act.put o.dst (.slice a k c)) w) : wpList Tryd.prog ops Q (o :: rest) act w := by
  refine wpList_plain hgd fun K hK => ?_
  unfold Oper.wp execOp
  simp only [ho, hx, hy, Option.map_some, Option.map_none, Sem.run_bind, run_upto w a n c k hk, Result.andThen_ok, Sem.run_pure]
  exact hK _ _ h

set_option maxHeartbeats 1000000 in
set_option maxRecDepth 100000 in
theorem raw_any (g : Nat) (xs : List Int) (bad : Bool) (k : Int) (w : World) (h : InAt w g xs bad) :
    Calls Tryd.prog 81 #[.pointer (some ⟨g, 0, none⟩), .int .i64 k] w fun e w' => ∃ a' n' c', e = .returned (.slice a' n' c') ∧ BsAt w' a' n' c' (rawP xs bad k).1 ∧ InAt w' g (rawP xs bad k).2.1 (rawP xs bad k).2.2 ∧ w.grownBy w' (some g) ∧ InSame w w' g := by
  have HF := Lib.hid (fail_any g xs bad w h)
  obtain ⟨R, hR⟩ : ∃ R, rawP xs bad k = R := ⟨_, rfl⟩
  have hR2 := hR
  unfold rawP at hR2
  obtain ⟨a, n, c, hg, hb⟩ := h
  rw [hb.len] at hR2
  rw [hR]
  obtain ⟨c0, c1, z0, z1⟩ := in_cells hg
  have HB := Lib.hid hb
  have HG := Lib.hid hg
  clear hR hb hg
  by_cases hbad : bad = true
  · subst hbad
    rw [if_pos (Or.inl rfl)] at hR2
    subst hR2
    go_enter Tryd.func81, Tryd.ntmps81
    go_wp2_with fail
    refine HF.out.mono ?_
    rintro e w2 ⟨rfl, hI, hG⟩
    have HI := Lib.hid (And.intro hI hG)
    clear hI hG
    first | (go_end0; go_wp2) | go_wp2
    go_ret
    exact ⟨none, 0, 0, rfl, bs_none _, HI.out.1, HI.out.2⟩
  · obtain rfl : bad = false := by simpa using hbad
    clear hbad
    by_cases hk0 : k < 0
    · rw [if_pos (Or.inr (Or.inl hk0))] at hR2
      subst hR2
      go_enter Tryd.func81, Tryd.ntmps81
      go_wp2_with fail
      refine HF.out.mono ?_
      rintro e w2 ⟨rfl, hI, hG⟩
      have HI := Lib.hid (And.intro hI hG)
      clear hI hG
      first | (go_end0; go_wp2) | go_wp2
      go_ret
      exact ⟨none, 0, 0, rfl, bs_none _, HI.out.1, HI.out.2⟩
    · by_cases hkn : (n : Int) < k
      · rw [if_pos (Or.inr (Or.inr hkn))] at hR2
        subst hR2
        go_enter Tryd.func81, Tryd.ntmps81
        go_wp2_with fail
        refine HF.out.mono ?_
        rintro e w2 ⟨rfl, hI, hG⟩
        have HI := Lib.hid (And.intro hI hG)
        clear hI hG
        first | (go_end0; go_wp2) | go_wp2
        go_ret
        exact ⟨none, 0, 0, rfl, bs_none _, HI.out.1, HI.out.2⟩
      · rw [if_neg (by simp only [Bool.false_eq_true, false_or, not_or]; exact ⟨hk0, hkn⟩)] at hR2
        subst hR2
        obtain ⟨m, rfl⟩ : ∃ m : Nat, k = (m : Int) := ⟨k.toNat, by omega⟩
        have hmn : m ≤ n := by omega
        have hcap := HB.out.cap
        have hmc : m ≤ c := by omega
        have HC := Lib.hid (cloneB_any a m c (xs.take m) w (HB.out.cut hmn hmc (Nat.le_refl _)))
        clear hk0 HF
        go_enter Tryd.func81, Tryd.ntmps81
        go_wp2_with (refine wp_upto rfl _ _ rfl a n c m rfl rfl hmc ?_)
        refine HC.out.mono ?_
        rintro e w2 ⟨a2, c2, rfl, hb2, hE2⟩
        have hg2 := hE2.keep HG.out
        obtain ⟨d0, d1, y0, y1⟩ := in_cells hg2
        have hcut := InAt.cut hg2 ((HB.out.ext hE2).drop m hmn) (cutA_blk HB.out m)
        have HB2 := Lib.hid (hb2.beside hcut.2.1 (in_noBytes hg2))
        have HI := Lib.hid (And.intro hcut.1 (inStep_trans ⟨grown_ext hE2 _, inSame_ext hE2⟩ hcut.2))
        clear hb2 hE2 hg2 hcut c0 c1 z0 z1 HC
        go_wp2_with (refine wp_from rfl _ _ rfl a n c m rfl rfl hmn ?_)
        go_ret
        exact ⟨a2, m, c2, rfl, HB2.out, HI.out.1, HI.out.2⟩

/-- What Text takes: the bytes, what is left, whether it has failed. -/
def textP (xs : List Int) (bad : Bool) (most : Int) : List Int × List Int × Bool :=
  if bad = true ∨ (numT xs).2 = 0 ∨ most < 0 ∨ min (min most 4096) ((xs.length : Int) - (numT xs).2) < (numT xs).1 then ([], xs, true)
  else ((xs.drop (numT xs).2).take (numT xs).1.toNat, (xs.drop (numT xs).2).drop (numT xs).1.toNat, false)

set_option maxHeartbeats 1000000 in
set_option maxRecDepth 100000 in
theorem text_any (g : Nat) (xs : List Int) (bad : Bool) (most : Int) (w : World) (h : InAt w g xs bad) (hlo : -9223372036854775808 ≤ most) (hhi : most ≤ 9223372036854775807) :
    Calls Tryd.prog 51 #[.pointer (some ⟨g, 0, none⟩), .int .i64 most] w fun e w' => ∃ a' n' c', e = .returned (.slice a' n' c') ∧ BsAt w' a' n' c' (textP xs bad most).1 ∧ InAt w' g (textP xs bad most).2.1 (textP xs bad most).2.2 ∧ w.grownBy w' (some g) ∧ InSame w w' g := by
  have hn := number_any g xs bad w h
  have HF := Lib.hid (fail_any g xs bad w h)
  obtain ⟨R, hR⟩ : ∃ R, textP xs bad most = R := ⟨_, rfl⟩
  have hR2 := hR
  unfold textP at hR2
  obtain ⟨a, n, c, hg, hb⟩ := h
  have hm : 0 < (numT xs).2 → (numT xs).2 ≤ n ∧ 0 ≤ (numT xs).1 := fun h0 => by rw [← hb.len]; have := numT_back hb.byte rfl h0; exact ⟨this.2.2.1, this.1⟩
  obtain ⟨X, hX⟩ : ∃ X, (numT xs).1 = X := ⟨_, rfl⟩
  obtain ⟨m, hm0⟩ : ∃ m, (numT xs).2 = m := ⟨_, rfl⟩
  rw [hX, hm0, hb.len] at hR2
  rw [hX, hm0] at hn hm
  rw [hR]
  have HN := Lib.hid hn
  obtain ⟨c0, c1, z0, z1⟩ := in_cells hg
  have hsm := hb.small
  have HB := Lib.hid hb
  have HG := Lib.hid hg
  clear hn hX hm0 hR hb hg
  by_cases hbad : bad = true
  · subst hbad
    rw [if_pos (Or.inl rfl)] at hR2
    subst hR2
    clear hm
    go_enter Tryd.func51, Tryd.ntmps51
    go_wp2_with fail
    refine HN.out.mono ?_
    rintro e w1 ⟨rfl, rfl⟩
    go_wp2_with fail
    refine HF.out.mono ?_
    rintro e w2 ⟨rfl, hI, hG⟩
    have HI := Lib.hid (And.intro hI hG)
    clear hI hG
    first | (go_end0; go_wp2) | go_wp2
    go_ret
    exact ⟨none, 0, 0, rfl, bs_none _, HI.out.1, HI.out.2⟩
  · obtain rfl : bad = false := by simpa using hbad
    clear hbad
    by_cases hz : m = 0
    · subst hz
      rw [if_pos (Or.inr (Or.inl rfl))] at hR2
      subst hR2
      clear hm
      go_enter Tryd.func51, Tryd.ntmps51
      go_wp2_with fail
      refine HN.out.mono ?_
      rintro e w1 ⟨rfl, rfl⟩
      go_wp2_with fail
      refine HF.out.mono ?_
      rintro e w2 ⟨rfl, hI, hG⟩
      have HI := Lib.hid (And.intro hI hG)
      clear hI hG
      first | (go_end0; go_wp2) | go_wp2
      go_ret
      exact ⟨none, 0, 0, rfl, bs_none _, HI.out.1, HI.out.2⟩
    · have x1 : ¬ (m : Int) = 0 := by omega
      have x1b : ((m : Int) == 0) = false := by simpa using x1
      obtain ⟨hm1, hX0⟩ := hm (by omega)
      have x2 : (m : Int) ≤ (n : Int) := by omega
      by_cases hneg : most < 0
      · rw [if_pos (Or.inr (Or.inr (Or.inl hneg)))] at hR2
        subst hR2
        go_enter Tryd.func51, Tryd.ntmps51
        go_wp2_with fail
        refine HN.out.mono ?_
        rintro e w1 ⟨rfl, rfl⟩
        go_wp2_with fail
        refine HF.out.mono ?_
        rintro e w2 ⟨rfl, hI, hG⟩
        have HI := Lib.hid (And.intro hI hG)
        clear hI hG
        first | (go_end0; go_wp2) | go_wp2
        go_ret
        exact ⟨none, 0, 0, rfl, bs_none _, HI.out.1, HI.out.2⟩
      · obtain ⟨L, hL⟩ : ∃ L, min (min most 4096) ((n : Int) - (m : Int)) = L := ⟨_, rfl⟩
        rw [hL] at hR2
        have hL0 : 0 ≤ L ∧ L ≤ 4096 ∧ L ≤ (n : Int) - (m : Int) := by omega
        have hsub : IntKind.i64.wrap ((n : Int) - (m : Int)) = (n : Int) - (m : Int) := by rw [IntKind.wrap_i64]; omega
        have hLw : IntKind.u64.wrap L = L := by rw [IntKind.wrap_u64]; omega
        have hkey : (if (n : Int) - (m : Int) < (if 4096 < most then 4096 else most) then (n : Int) - (m : Int) else (if 4096 < most then 4096 else most)) = L := by
          rw [← hL]
          by_cases q1 : 4096 < most
          · rw [if_pos q1]; split <;> omega
          · rw [if_neg q1]; split <;> omega
        have HK := Lib.hid hkey
        clear hkey hL hm
        by_cases hlx : L < X
        · rw [if_pos (Or.inr (Or.inr (Or.inr hlx)))] at hR2
          subst hR2
          go_enter Tryd.func51, Tryd.ntmps51
          go_wp2_with fail
          refine HN.out.mono ?_
          rintro e w1 ⟨rfl, rfl⟩
          go_wp2_with (refine wp_from rfl _ _ rfl a n c m rfl rfl hm1 ?_)
          all_goals first
            | (exfalso; have h9 := HK.out; simp only [h9] at *; omega)
            | (refine HF.out.mono ?_
               rintro e w2 ⟨rfl, hI, hG⟩
               have HI := Lib.hid (And.intro hI hG)
               clear hI hG
               first | (go_end0; go_wp2) | go_wp2
               go_ret
               exact ⟨none, 0, 0, rfl, bs_none _, HI.out.1, HI.out.2⟩)
        · rw [if_neg (by simp only [Bool.false_eq_true, false_or, not_or]; exact ⟨hz, hneg, hlx⟩)] at hR2
          subst hR2
          have hcut := InAt.cut HG.out (HB.out.drop m hm1) (cutA_blk HB.out _)
          have hraw := raw_any g (xs.drop m) false X _ hcut.1
          have HCG := Lib.hid hcut.2
          have hrp : rawP (xs.drop m) false X = ((xs.drop m).take X.toNat, (xs.drop m).drop X.toNat, false) := by
            unfold rawP
            rw [if_neg (by simp only [Bool.false_eq_true, false_or, not_or, List.length_drop, HB.out.len]; omega)]
          rw [hrp] at hraw
          have HRw := Lib.hid hraw
          clear hcut hraw hrp
          go_enter Tryd.func51, Tryd.ntmps51
          go_wp2_with fail
          refine HN.out.mono ?_
          rintro e w1 ⟨rfl, rfl⟩
          go_wp2_with (refine wp_from rfl _ _ rfl a n c m rfl rfl hm1 ?_)
          all_goals first
            | (exfalso; have h9 := HK.out; simp only [h9] at *; omega)
            | (refine HRw.out.mono ?_
               rintro e w2 ⟨a2, n2, c2, rfl, hb2, hI, hG⟩
               have HI := Lib.hid (And.intro hb2 (And.intro hI (inStep_trans HCG.out hG)))
               clear hb2 hI hG
               go_wp2_with fail
               go_ret
               exact ⟨a2, n2, c2, rfl, HI.out.1, HI.out.2.1, HI.out.2.2⟩)

set_option maxHeartbeats 1000000 in
set_option maxRecDepth 100000 in
theorem refNum_any (x : Int) (h0 : 0 ≤ x) (h1 : x < 18446744073709551616) (w : World) :
    Calls Tryd.prog 53 #[.int .u64 x] w fun e w' => ∃ v, e = .returned v ∧ w'.ownsRow w.heap.size 5 1 v (numL x).length (bv (numL x)) ∧ Ext w w' := by
  obtain ⟨R, hR⟩ : ∃ R, numL x = R := ⟨_, rfl⟩
  have HR := Lib.hid hR
  rw [hR]
  clear hR
  go_enter Tryd.func53, Tryd.ntmps53
  go_wp2
  go_loopw [0, 3] (fun y v wr => ∃ (X : Int) (k : Nat) (acc : List Int), y = .int .u64 X ∧ 0 ≤ X ∧ X < 18446744073709551616 ∧ acc.length + k = 9 ∧ X < 2 ^ (7 * k + 1) ∧ acc ++ numB (k + 1) X = R ∧ wr.ownsRow w.heap.size 5 1 v acc.length (bv acc) ∧ Ext w wr) (fun y _ _ => (intOf y).toNat)
  case atStart => exact ⟨x, 9, [], rfl, h0, h1, rfl, by simpa using h1, HR.out, World.ownsRow_nil _ _ _ _, Ext.refl _⟩
  case round =>
    obtain ⟨X, k, acc, rfl, hX0, hX1, hk, hX2, hacc, hown, hE⟩ := hrel
    have hsz := Below.size hE
    by_cases hlt : X < 128
    · have x1 : ¬ 0 < X / 128 := by omega
      have hR : acc ++ [X] = R := by rw [← hacc, numB, if_pos hlt]
      have e1 : (acc ++ [X]).length = acc.length + 1 := by simp
      go_wp2_with (at_builtin; refine append_byte rfl _ _ rfl w.heap.size _ acc.length acc rfl (hown.alloc _) wr.heap.size X rfl (new_cell _ _ _) (by omega) (by simp; omega) ?_)
      intro v3 w3 hown3 hB3
      have hE3 : Ext w w3 := Below.trans (Below.alloc hE hsz _) hB3
      rw [← e1, hR] at hown3
      have Hown := Lib.hid hown3
      have HE3 := Lib.hid hE3
      clear hown3 hE3 hown hB3
      go_wp2
      go_ret
      exact ⟨v3, rfl, Hown.out, HE3.out⟩
    · have x1 : 0 < X / 128 := by omega
      obtain ⟨k', rfl⟩ : ∃ k', k = k' + 1 := by
        cases k with
        | zero => simp at hX2; omega
        | succ k' => exact ⟨k', rfl⟩
      have hR : (acc ++ [X % 128 + 128]) ++ numB (k' + 1) (X / 128) = R := by
        have h5 : numB (k' + 1 + 1) X = (X % 128 + 128) :: numB (k' + 1) (X / 128) := by rw [numB, if_neg hlt]
        rw [← hacc, h5, List.append_assoc]
        rfl
      have e1 : (acc ++ [X % 128 + 128]).length = acc.length + 1 := by simp
      have hX3 : X / 128 < 2 ^ (7 * k' + 1) := by
        have : (2 : Int) ^ (7 * (k' + 1) + 1) = 128 * 2 ^ (7 * k' + 1) := by rw [show 7 * (k' + 1) + 1 = (7 * k' + 1) + 7 by omega, Int.pow_add]; omega
        omega
      have e2 : IntKind.u64.wrap (X % 128 + 128) = X % 128 + 128 := by rw [IntKind.wrap_u64]; omega
      have e3 : IntKind.u8.wrap (X % 128 + 128) = X % 128 + 128 := by rw [IntKind.wrap_u8]; omega
      have HR2 := Lib.hid hR
      have HX3 := Lib.hid hX3
      have hX4 : 0 ≤ X / 128 ∧ X / 128 < X := by omega
      have HX4 := Lib.hid hX4
      clear hX3 hX4 hR
      go_wp2_with (at_builtin; refine append_byte rfl _ _ rfl w.heap.size _ acc.length acc rfl (hown.alloc _) wr.heap.size (X % 128 + 128) rfl (new_cell _ _ _) (by omega) (by simp; omega) ?_)
      intro v3 w3 hown3 hB3
      have hE3 : Ext w w3 := Below.trans (Below.alloc hE hsz _) hB3
      rw [← e1] at hown3
      have Hown := Lib.hid hown3
      have HE3 := Lib.hid hE3
      clear hown3 hE3 hown hB3
      go_wp2
      go_roundw
      case rel => exact ⟨X / 128, k', acc ++ [X % 128 + 128], rfl, HX4.out.1, by have := HX4.out.2; omega, by rw [e1]; omega, HX3.out, HR2.out, Hown.out, HE3.out⟩
      case measure => have := HX4.out; simp [intOf]; omega

/-- A text's bytes, its length ahead. -/
def textL (xs : List Int) : List Int := numL (xs.length : Int) ++ xs

/-- Where the row behind an append lies: where it lay, or in a new block. -/
theorem append_where {P : Program} {w : World} {t ty e : TypeId} {i : TypeInfo} {z : Value} (ht : P.underlying t = some (.slice e)) (hi : P.info? e = some i) (hz : i.zero = some z)
    {B size bytes : Nat} (hsize : i.size = size) (hby : i.bytes = bytes) {v : Value} {n : Nat} {xs : List Value} (hown : w.ownsRow B e size v n xs)
    {a : Addr} {m c : Nat} {news : List Value} (hl : news.length = m * size) (hnews : ∀ j u, news[j]? = some u → w.cell? (a.add j) = some u) (h1 : ∀ u ∈ news, u.oneCell' = true)
    (h63 : n + m ≤ maxLen) (hbytes : (n + m) * bytes ≤ 140737488355328) {v' : Value} {w' : World} (hr : (Builtin.append_ #[t, t] ty #[v, .slice (some a) m c]).run P w = .ok v' w') :
    v'.ownBlock = v.ownBlock ∨ v'.ownBlock = some w.heap.size := by
  subst hsize
  subst hby
  have hsmall : n + m ≤ 9223372036854775807 := by simp only [maxLen] at h63; omega
  rcases hown.2 with ⟨rfl, rfl⟩ | ⟨g, cap, cur, rfl, hbg, hg, hnc, hcm, hcs, htake⟩
  · by_cases hm : m = 0
    · subst hm
      have hn : news = [] := List.eq_nil_of_length_eq_zero (by simpa using hl)
      subst hn
      have : (Builtin.append_ #[t, t] ty #[.slice none 0 0, .slice (some a) 0 c]).run P w = .ok (.slice none 0 0) w := by
        simp [Builtin.append_, run_underlying ht, sizeOf, typeInfo, hi, Builtin.lenOf, Builtin.firstCells, loadCells, loadCellsFrom]
      rw [this] at hr
      simp only [Result.ok.injEq] at hr
      rw [← hr.1]
      exact .inl rfl
    · have h2 := run_append_nil (P := P) w t ty e i z ht hi hz a m c news hl hnews (by omega) (by omega) (by have hb := hbytes; simp only [Nat.zero_add] at hb; omega)
      rw [h2] at hr
      simp only [Result.ok.injEq] at hr
      rw [← hr.1]
      exact .inr rfl
  · by_cases hroom : n + m ≤ cap
    · have hfit : n * i.size + news.length ≤ cur.size := by rw [hl, hcs, ← Nat.add_mul]; exact Nat.mul_le_mul_right _ hroom
      have h2 := run_append_room (P := P) w t ty e i ht hi g n cap cur hg a m c news hl hnews h1 hroom hfit
      rw [h2] at hr
      simp only [Result.ok.injEq] at hr
      rw [← hr.1]
      exact .inl rfl
    · have holds : ∀ j u, xs[j]? = some u → w.cell? ((⟨g, 0, none⟩ : Addr).add j) = some u := hown.cells (g := g) rfl
      have h2 := run_append_grow (P := P) w t ty e i z ht hi hz ⟨g, 0, none⟩ n cap xs hown.1 holds a m c news hl hnews (by omega) (by omega) (growslice_fits (by omega) hbytes)
      rw [h2] at hr
      simp only [Result.ok.injEq] at hr
      rw [← hr.1]
      exact .inr rfl

/-- append_bs, and where the row lies behind it. -/
theorem append_bsH {w : World} {ops : Array Oper} {rest : List Oper} {o : Oper} {a : Act} {Q : Exit → Act → World → Prop} (hgd : o.guard = none) (s x : Operand) (ho : o.op = .call { callee := .builtin .append, args := #[s, x], argTypes := #[41, 41] })
    (B : Nat) (v : Value) (n : Nat) (xs : List Int) (hs : a.eval s = v) (hown : w.ownsRow B 5 1 v n (bv xs))
    (src : Option Addr) (m c : Nat) (ys : List Int) (hx : a.eval x = .slice src m c) (hb : BsAt w src m c ys) (hsz : n + m ≤ 140737488355328) (hB : B ≤ w.heap.size)
    (h : ∀ v' w', w'.ownsRow B 5 1 v' (n + m) (bv (xs ++ ys)) → w.grownBy w' v.ownBlock → (v'.ownBlock = v.ownBlock ∨ v'.ownBlock = some w.heap.size) → wpList Tryd.prog ops Q rest (a.put o.dst v') w') : wpList Tryd.prog ops Q (o :: rest) a w := by
  obtain ⟨i0, hi, hz0, hz1, hz2⟩ := info_parts info_u8
  have hl := hb.len
  cases src with
  | none =>
    obtain rfl : c = 0 := hb.nil_ rfl
    have hc := hb.cap
    obtain rfl : m = 0 := by omega
    obtain rfl : ys = [] := List.eq_nil_of_length_eq_zero hl
    refine wpList_append_own_none hgd s x 41 ho B 5 i0 1 Tryd.underlying41 hi v n (bv xs) hs hown hx ?_
    exact h v w (by simpa using hown) (World.grownBy.refl w _) (.inl rfl)
  | some ad =>
    refine wpList_plain hgd fun K hK => ?_
    have h63 : n + m ≤ maxLen := by unfold maxLen; omega
    obtain ⟨v', w', hr, h2, h3, _⟩ := run_append_own (P := Tryd.prog) w B 41 o.type 5 i0 (.int .u8 0) 1 1 Tryd.underlying41 hi hz0 hz1 hz2 rfl (by decide) v n (bv xs) hown ad m c (bv ys) (by rw [bv_length, hl, Nat.mul_one]) hb.news (bv_one ys) h63 (by omega) hB
    have h4 := append_where (P := Tryd.prog) Tryd.underlying41 hi hz0 hz1 hz2 hown (by rw [bv_length, hl, Nat.mul_one]) hb.news (bv_one ys) h63 (by omega) hr
    unfold Oper.wp execOp
    simp only [ho, resolve, invoke, builtin, Sem.run_bind, Sem.run_pure, Result.andThen_ok, List.map_toArray, List.map_cons, List.map_nil, hs, hx, hr]
    exact hK _ _ (h v' w' (by rw [bv_append]; exact h2) h3 h4)

/-- Block g is an Out: its bytes lie at v; whether one was too long. -/
structure OutAt (w : World) (g : Nat) (v : Value) (xs : List Int) (long : Bool) : Prop where
  blk : w.heap[g]? = some (.cells #[v, .bool long] 83 (0, 0))
  own : w.ownsRow 0 5 1 v xs.length (bv xs)

/-- How the world turns while an Out grows: its block and its row turn; a new row lies in a new block. -/
structure OutStep (w w' : World) (g : Nat) (v v' : Value) : Prop where
  os : w'.os = w.os
  tape : w'.tape = w.tape
  output : w'.output = w.output
  size : w.heap.size ≤ w'.heap.size
  block : ∀ k, k < w.heap.size → k ≠ g → some k ≠ v.ownBlock → w'.heap[k]? = w.heap[k]?
  row : ∀ k, v'.ownBlock = some k → v.ownBlock = some k ∨ w.heap.size ≤ k

def OutTo (w w' : World) (g : Nat) (v : Value) (xs : List Int) (long : Bool) : Prop := ∃ v', OutAt w' g v' xs long ∧ OutStep w w' g v v'

theorem OutStep.refl (w : World) (g : Nat) (v : Value) : OutStep w w g v v := ⟨rfl, rfl, rfl, Nat.le_refl _, fun _ _ _ _ => rfl, fun _ h => .inl h⟩

theorem OutStep.trans {w w1 w2 : World} {g : Nat} {v v1 v2 : Value} (h : OutStep w w1 g v v1) (k : OutStep w1 w2 g v1 v2) : OutStep w w2 g v v2 :=
  ⟨k.os.trans h.os, k.tape.trans h.tape, k.output.trans h.output, Nat.le_trans h.size k.size,
    fun i hi hg hr => (k.block i (Nat.lt_of_lt_of_le hi h.size) hg (fun e => by
      rcases h.row i e.symm with h1 | h1
      · exact hr h1.symm
      · omega)).trans (h.block i hi hg hr),
    fun i e => by
      rcases k.row i e with h1 | h1
      · exact h.row i h1
      · exact .inr (Nat.le_trans h.size h1)⟩

theorem OutTo.trans {w w1 w2 : World} {g : Nat} {v v1 : Value} {xs : List Int} {long : Bool} (h : OutStep w w1 g v v1) (k : OutTo w1 w2 g v1 xs long) : OutTo w w2 g v xs long :=
  let ⟨v2, h2, k2⟩ := k
  ⟨v2, h2, h.trans k2⟩

/-- Memory that has grown, ahead of a step. -/
theorem OutStep.ext {w w1 w2 : World} {g : Nat} {v v2 : Value} (h : Ext w w1) (k : OutStep w1 w2 g v v2) (hg : w.heap.size ≤ g) (hv : ∀ r, v.ownBlock = some r → w.heap.size ≤ r) : Ext w w2 :=
  Below.trans h ⟨k.os, k.tape, k.output, k.size, fun i hi => k.block i (Nat.lt_of_lt_of_le hi (Below.size h)) (by omega) (fun e => by have := hv i e.symm; omega)⟩

theorem OutStep.after {w w1 w2 : World} {g : Nat} {v v2 : Value} (h : Ext w w1) (k : OutStep w1 w2 g v v2) : OutStep w w2 g v v2 :=
  ⟨k.os.trans (Below.os h), k.tape.trans (Below.tape h), k.output.trans (Below.output h), Nat.le_trans (Below.size h) k.size,
    fun i hi hg hr => (k.block i (Nat.lt_of_lt_of_le hi (Below.size h)) hg hr).trans (h.block hi),
    fun i e => (k.row i e).imp id (fun h1 => Nat.le_trans (Below.size h) h1)⟩

theorem OutStep.then {w w1 w2 : World} {g : Nat} {v v1 : Value} (h : OutStep w w1 g v v1) (k : Ext w1 w2) : OutStep w w2 g v v1 :=
  ⟨(Below.os k).trans h.os, (Below.tape k).trans h.tape, (Below.output k).trans h.output, Nat.le_trans h.size (Below.size k),
    fun i hi hg hr => (k.block (Nat.lt_of_lt_of_le hi h.size)).trans (h.block i hi hg hr), h.row⟩

/-- Bytes that lie elsewhere. -/
def Apart (a : Option Addr) (n g : Nat) (v : Value) : Prop := 0 < n → ∀ b off, a = some ⟨b, off, none⟩ → b ≠ g ∧ some b ≠ v.ownBlock

theorem BsAt.step {w w' : World} {a : Option Addr} {n c : Nat} {xs : List Int} {g : Nat} {v v' : Value} (h : BsAt w a n c xs) (k : OutStep w w' g v v') (hp : Apart a n g v) : BsAt w' a n c xs := by
  refine ⟨h.len, h.cap, h.lim, h.small, h.byte, fun h0 => ?_, h.nil_⟩
  obtain ⟨b, off, rfl, hc⟩ := h.at_ h0
  refine ⟨b, off, rfl, fun i hi => ?_⟩
  have h1 := hc i hi
  have h2 := hp h0 b off rfl
  exact (World.cell?_of_block (k.block b (World.block_lt_of_cell? w _ h1) h2.1 h2.2)).trans h1

/-- Bytes that lay there ahead of an Out lie apart from it. -/
theorem BsAt.apart {w w4 wk : World} {a : Option Addr} {n c g : Nat} {xs : List Int} {v : Value} (h : BsAt w a n c xs) (h4 : Ext w w4) (hg : w.heap.size ≤ g) (hS : OutStep w4 wk g (.slice none 0 0) v) : Apart a n g v := by
  intro h0 b off e
  obtain ⟨b', off', ha, hc⟩ := h.at_ h0
  rw [e] at ha
  simp only [Option.some.injEq, Addr.mk.injEq, and_true] at ha
  obtain ⟨rfl, rfl⟩ := ha
  have hlt := World.block_lt_of_cell? w _ (hc 0 h0)
  simp only at hlt
  refine ⟨by omega, fun e2 => ?_⟩
  have h5 := Below.size h4
  rcases hS.row b e2.symm with h1 | h1
  · simp [Value.ownBlock] at h1
  · omega

theorem BsAt.outStep {w w4 wk : World} {a : Option Addr} {n c g : Nat} {xs : List Int} {v : Value} (h : BsAt w a n c xs) (h4 : Ext w w4) (hg : w.heap.size ≤ g) (hS : OutStep w4 wk g (.slice none 0 0) v) : BsAt wk a n c xs :=
  (h.ext h4).step hS (fun h0 b off e => ⟨((h.apart h4 hg (OutStep.refl w4 g (.slice none 0 0))) h0 b off e).1, by simp [Value.ownBlock]⟩)

/-- An Out at its beginning. -/
theorem out_new (w : World) : OutAt (w.alloc (.cells #[.slice none 0 0, .bool false] 83)) w.heap.size (.slice none 0 0) [] false :=
  ⟨heap_new w _ _ rfl, World.ownsRow_nil _ _ _ _⟩

theorem OutStep.keep {w w' : World} {g k : Nat} {v : Value} {o : Obj} (hS : OutStep w w' g (.slice none 0 0) v) (h : w.heap[k]? = some o) (hne : k ≠ g) : w'.heap[k]? = some o := by
  rw [hS.block k (Array.getElem?_eq_some_iff.1 h).1 hne (by simp [Value.ownBlock])]
  exact h

theorem OutAt.ext {w w' : World} {g : Nat} {v : Value} {xs : List Int} {long : Bool} (h : OutAt w g v xs long) (k : Ext w w') : OutAt w' g v xs long :=
  ⟨k.keep h.blk, h.own.kept (grown_ext k none) (by cases hv : v.ownBlock <;> simp)⟩

theorem OutAt.ne {w : World} {g : Nat} {v : Value} {xs : List Int} {long : Bool} (h : OutAt w g v xs long) : v.ownBlock ≠ some g := by
  intro e
  rcases h.own.2 with ⟨rfl, _⟩ | ⟨r, cap, cur, rfl, _, hr, _⟩
  · simp [Value.ownBlock] at e
  · simp only [Value.ownBlock, Option.some.injEq] at e
    subst e
    rw [h.blk] at hr
    simp at hr

/-- The row and then the block are written anew. -/
theorem OutAt.put {w w1 : World} {g : Nat} {v v1 : Value} {xs ys : List Int} {long : Bool} (h : OutAt w g v xs long) (hown : w1.ownsRow 0 5 1 v1 ys.length (bv ys)) (hg : w.grownBy w1 v.ownBlock) (hr : v1.ownBlock = v.ownBlock ∨ v1.ownBlock = some w.heap.size) :
    OutTo w (w1.setCell ⟨g, 0, none⟩ v1) g v ys long := by
  have hlt : g < w.heap.size := (Array.getElem?_eq_some_iff.1 h.blk).1
  have hb1 : w1.heap[g]? = some (.cells #[v, .bool long] 83 (0, 0)) := by rw [hg.block g hlt (fun e => h.ne e.symm)]; exact h.blk
  have hne : ∀ k, v1.ownBlock = some k → k ≠ g := by
    intro k e
    rcases hr with h1 | h1
    · rw [h1] at e
      intro e2
      subst e2
      exact h.ne e
    · rw [h1] at e
      simp only [Option.some.injEq] at e
      omega
  have hG : w1.grownBy (w1.setCell ⟨g, 0, none⟩ v1) (some g) := grown_setCell (World.grownBy.refl w1 _) rfl _
  refine ⟨v1, ⟨in_set0 hb1 _, hown.kept hG ?_⟩, ?_⟩
  · cases hv : v1.ownBlock with
    | none => exact .inl rfl
    | some k => exact .inr (fun e => hne k hv (Option.some.inj e))
  · exact ⟨hg.os, hg.tape, hg.output, by simpa [World.setCell] using hg.size,
      fun i hi h1 h2 => (Below.heap_setCell w1 _ _ i h1).trans (hg.block i hi h2),
      fun k e => by
        rcases hr with h1 | h1
        · exact .inl (h1 ▸ e)
        · rw [h1] at e
          simp only [Option.some.injEq] at e
          exact .inr (by omega)⟩

theorem or_128 : ∀ c : Nat, c < 256 → bits .or .u8 (c : Int) 128 = (c : Int) % 128 + 128 := by decide +kernel

set_option maxRecDepth 100000 in
theorem put_any (g : Nat) (v : Value) (xs ys : List Int) (long : Bool) (a : Option Addr) (n c : Nat) (w : World) (h : OutAt w g v xs long) (hb : BsAt w a n c ys) (hs : xs.length + n ≤ 140737488355328) :
    Calls Tryd.prog 82 #[.pointer (some ⟨g, 0, none⟩), .slice a n c] w fun e w' => e = .returned (.tuple #[]) ∧ OutTo w w' g v (xs ++ ys) long := by
  obtain ⟨c0, c1, z0, z1⟩ := in_cells h.blk
  have H := Lib.hid h
  have HB := Lib.hid hb
  clear h hb
  go_enter Tryd.func82, Tryd.ntmps82
  go_wp2_with (at_builtin; refine append_bsH rfl _ _ rfl 0 v xs.length xs rfl H.out.own a n c ys rfl HB.out (by omega) (Nat.zero_le _) ?_)
  intro v1 w1 hown hg hr
  have hl : xs.length + n = (xs ++ ys).length := by rw [List.length_append, HB.out.len]
  rw [hl] at hown
  obtain ⟨a1, cc1, rfl, _, _⟩ := owns_slice hown
  have HP := Lib.hid (H.out.put hown hg hr)
  obtain ⟨N, hN⟩ : ∃ N, (xs ++ ys).length = N := ⟨_, rfl⟩
  rw [hN] at HP
  have hlt : g < w.heap.size := (Array.getElem?_eq_some_iff.1 H.out.blk).1
  have hb1 : w1.heap[g]? = some (.cells #[v, .bool long] 83 (0, 0)) := by rw [hg.block g hlt (fun e => H.out.ne e.symm)]; exact H.out.blk
  obtain ⟨d0, d1, y0, y1⟩ := in_cells hb1
  clear hl hown hg hr hb1 c0 c1 z0 z1
  go_wp2
  first | go_end0 | refine bodyPost_ret (results_none rfl _ _ _) rfl ?_
  exact ⟨rfl, HP.out⟩

set_option maxRecDepth 100000 in
theorem oRaw_any (g : Nat) (v : Value) (xs ys : List Int) (long : Bool) (a : Option Addr) (n c : Nat) (w : World) (h : OutAt w g v xs long) (hb : BsAt w a n c ys) (hs : xs.length + n ≤ 140737488355328) :
    Calls Tryd.prog 83 #[.pointer (some ⟨g, 0, none⟩), .slice a n c] w fun e w' => e = .returned (.tuple #[]) ∧ OutTo w w' g v (xs ++ ys) long := by
  have HP := Lib.hid (put_any g v xs ys long a n c w h hb hs)
  obtain ⟨c0, c1, z0, z1⟩ := in_cells h.blk
  clear h hb
  go_enter Tryd.func83, Tryd.ntmps83
  go_wp2_with fail
  refine HP.out.mono ?_
  rintro e w1 ⟨rfl, hO⟩
  have HO := Lib.hid hO
  clear hO
  first | go_end0 | (go_wp2; go_end0) | (go_wp2; refine bodyPost_ret (results_none rfl _ _ _) rfl ?_) | refine bodyPost_ret (results_none rfl _ _ _) rfl ?_
  exact ⟨rfl, HO.out⟩

/-- One byte more, out of a new cell. -/
theorem put_one (g : Nat) (v : Value) (xs : List Int) (long : Bool) (x : Int) (hx : 0 ≤ x ∧ x < 256) (w : World) (h : OutAt w g v xs long) (hs : xs.length < 140737488355328) (T : TypeId) :
    Calls Tryd.prog 82 #[.pointer (some ⟨g, 0, none⟩), .slice (some ⟨w.heap.size, 0, none⟩) 1 1] (w.alloc (.cells #[.int .u8 x] T)) fun e w' => e = .returned (.tuple #[]) ∧ OutTo w w' g v (xs ++ [x]) long := by
  have hE : Ext w (w.alloc (.cells #[.int .u8 x] T)) := (Ext.refl w).alloc _
  have hb : BsAt (w.alloc (.cells #[.int .u8 x] T)) (some ⟨w.heap.size, 0, none⟩) 1 1 [x] := by
    refine ⟨rfl, Nat.le_refl _, by omega, by omega, by simpa using hx, fun _ => ⟨_, _, rfl, fun i hi => ?_⟩, by simp⟩
    obtain rfl : i = 0 := by omega
    exact new_cell w _ T
  refine (put_any g v xs [x] long _ 1 1 _ (h.ext hE) hb (by omega)).mono ?_
  rintro e w1 ⟨rfl, v1, hO, hS⟩
  exact ⟨rfl, v1, hO, hS.after hE⟩

theorem numB_snoc (k : Nat) (X : Int) (h : ¬ X < 128) : numB (k + 1) X = (X % 128 + 128) :: numB k (X / 128) := by rw [numB, if_neg h]

set_option maxHeartbeats 1000000 in
set_option maxRecDepth 100000 in
theorem oNum_any (g : Nat) (v : Value) (xs : List Int) (long : Bool) (x : Int) (w : World) (h : OutAt w g v xs long) (h0 : 0 ≤ x) (h1 : x < 18446744073709551616) (hs : xs.length ≤ 70368744177664) :
    Calls Tryd.prog 55 #[.pointer (some ⟨g, 0, none⟩), .int .u64 x] w fun e w' => e = .returned (.tuple #[]) ∧ OutTo w w' g v (xs ++ numL x) long := by
  obtain ⟨R, hR⟩ : ∃ R, numL x = R := ⟨_, rfl⟩
  have HR := Lib.hid hR
  rw [hR]
  have H := Lib.hid h
  clear hR h
  go_enter Tryd.func55, Tryd.ntmps55
  go_wp2
  go_loopw [1] (fun y wr => ∃ (X : Int) (k : Nat) (acc : List Int) (v1 : Value), y = .int .u64 X ∧ 0 ≤ X ∧ X < 18446744073709551616 ∧ acc.length + k = 9 ∧ X < 2 ^ (7 * k + 1) ∧ acc ++ numB (k + 1) X = R ∧ OutAt wr g v1 (xs ++ acc) long ∧ OutStep w wr g v v1) (fun y _ => (intOf y).toNat)
  case atStart => exact ⟨x, 9, [], v, rfl, h0, h1, rfl, by simpa using h1, HR.out, by rw [List.append_nil]; exact H.out, OutStep.refl _ _ _⟩
  case round =>
    obtain ⟨X, k, acc, v1, rfl, hX0, hX1, hk, hX2, hacc, hO, hS⟩ := hrel
    obtain ⟨c0, c1, z0, z1⟩ := in_cells hO.blk
    have hlen : (xs ++ acc).length < 140737488355328 := by rw [List.length_append]; omega
    have HO := Lib.hid hO
    have HS := Lib.hid hS
    clear hO hS
    by_cases hlt : X < 128
    · have x1 : ¬ 128 ≤ X := by omega
      have hR : acc ++ [X] = R := by rw [← hacc, numB, if_pos hlt]
      have e3 : IntKind.u8.wrap X = X := by rw [IntKind.wrap_u8]; omega
      have HP := Lib.hid (put_one g v1 (xs ++ acc) long X ⟨hX0, by omega⟩ wr HO.out hlen 5)
      have HR2 := Lib.hid hR
      clear hR hacc hX2
      go_wp2_with fail
      refine HP.out.mono ?_
      rintro e w1 ⟨rfl, hT⟩
      have HT := Lib.hid (OutTo.trans HS.out hT)
      clear hT
      first | go_end0 | (go_wp2; go_end0) | (go_wp2; refine bodyPost_ret (results_none rfl _ _ _) rfl ?_) | refine bodyPost_ret (results_none rfl _ _ _) rfl ?_
      refine ⟨rfl, ?_⟩
      have hT := HT.out
      rw [List.append_assoc, HR2.out] at hT
      exact hT
    · have x1 : 128 ≤ X := by omega
      obtain ⟨k', rfl⟩ : ∃ k', k = k' + 1 := by
        cases k with
        | zero => simp at hX2; omega
        | succ k' => exact ⟨k', rfl⟩
      have hR : (acc ++ [X % 128 + 128]) ++ numB (k' + 1) (X / 128) = R := by
        rw [← hacc, numB_snoc _ X hlt, List.append_assoc]
        rfl
      have e1 : (acc ++ [X % 128 + 128]).length = acc.length + 1 := by simp
      have hX3 : X / 128 < 2 ^ (7 * k' + 1) := by
        have : (2 : Int) ^ (7 * (k' + 1) + 1) = 128 * 2 ^ (7 * k' + 1) := by rw [show 7 * (k' + 1) + 1 = (7 * k' + 1) + 7 by omega, Int.pow_add]; omega
        omega
      have e3 : bits .or .u8 (X % 256) 128 = X % 128 + 128 := by
        have := or_128 (X % 256).toNat (by omega)
        rw [show (((X % 256).toNat : Nat) : Int) = X % 256 by omega] at this
        rw [this]
        omega
      have e4 : IntKind.u8.wrap X = X % 256 := IntKind.wrap_u8 X
      have HP := Lib.hid (put_one g v1 (xs ++ acc) long (X % 128 + 128) (by omega) wr HO.out hlen 5)
      have HR2 := Lib.hid hR
      have HX3 := Lib.hid hX3
      have HX4 := Lib.hid (show 0 ≤ X / 128 ∧ X / 128 < X by omega)
      have E1 := Lib.hid e1
      clear hX3 hR hacc hX2 e1
      go_wp2_with fail
      refine HP.out.mono ?_
      rintro e w1 ⟨rfl, v2, hO2, hS2⟩
      have HO2 := Lib.hid hO2
      have HS2 := Lib.hid (OutStep.trans HS.out hS2)
      clear hO2 hS2
      go_wp2
      go_roundw
      case rel => exact ⟨X / 128, k', acc ++ [X % 128 + 128], v2, rfl, HX4.out.1, by have := HX4.out.2; omega, by rw [E1.out]; omega, HX3.out, HR2.out, by rw [← List.append_assoc]; exact HO2.out, HS2.out⟩
      case measure => have := HX4.out; simp [intOf]; omega

theorem OutAt.tooLong {w : World} {g : Nat} {v : Value} {xs : List Int} {long : Bool} (h : OutAt w g v xs long) : OutTo w (w.setCell ⟨g, 1, none⟩ (.bool true)) g v xs true := by
  have hG : w.grownBy (w.setCell ⟨g, 1, none⟩ (.bool true)) (some g) := grown_setCell (World.grownBy.refl w _) rfl _
  refine ⟨v, ⟨in_set1 h.blk _, h.own.kept hG ?_⟩, rfl, rfl, rfl, by simp [World.setCell], fun i _ h1 _ => Below.heap_setCell w _ _ i h1, fun _ e => .inl e⟩
  cases hv : v.ownBlock with
  | none => exact .inl rfl
  | some k => exact .inr (fun e => h.ne (hv.trans e))

set_option maxRecDepth 100000 in
theorem oText_any (g : Nat) (v : Value) (xs ys : List Int) (long : Bool) (a : Option Addr) (n c : Nat) (w : World) (h : OutAt w g v xs long) (hb : BsAt w a n c ys) (hp : Apart a n g v) (hn : n ≤ 4096) (hs : xs.length ≤ 70368744177664) :
    Calls Tryd.prog 56 #[.pointer (some ⟨g, 0, none⟩), .slice a n c] w fun e w' => e = .returned (.tuple #[]) ∧ OutTo w w' g v (xs ++ textL ys) long := by
  have hl := hb.len
  have x1 : ¬ 4096 < (n : Int) := by omega
  have x2 : IntKind.u64.wrap (n : Int) = (n : Int) := by rw [IntKind.wrap_u64]; omega
  have HN := Lib.hid (oNum_any g v xs long (n : Int) w h (by omega) (by omega) hs)
  have hle := numL_length_le (n : Int)
  have e1 : (xs ++ numL (n : Int)) ++ ys = xs ++ textL ys := by unfold textL; rw [hl, List.append_assoc]
  have E1 := Lib.hid e1
  have HB := Lib.hid hb
  have HP := Lib.hid hp
  obtain ⟨c0, c1, z0, z1⟩ := in_cells h.blk
  clear h hb hl e1 hp
  go_enter Tryd.func56, Tryd.ntmps56
  go_wp2_with fail
  refine HN.out.mono ?_
  rintro e w1 ⟨rfl, v1, hO, hS⟩
  have HR := Lib.hid (oRaw_any g v1 (xs ++ numL (n : Int)) ys long a n c w1 hO (HB.out.step hS HP.out) (by rw [List.length_append]; omega))
  have HS := Lib.hid hS
  clear hO hS
  go_wp2_with fail
  refine HR.out.mono ?_
  rintro e w2 ⟨rfl, hT⟩
  have HT := Lib.hid (OutTo.trans HS.out hT)
  clear hT
  first | go_end0 | (go_wp2; go_end0) | (go_wp2; refine bodyPost_ret (results_none rfl _ _ _) rfl ?_) | refine bodyPost_ret (results_none rfl _ _ _) rfl ?_
  refine ⟨rfl, ?_⟩
  have hT := HT.out
  rw [E1.out] at hT
  exact hT

set_option maxRecDepth 100000 in
theorem oFlag_any (g : Nat) (v : Value) (xs : List Int) (long f : Bool) (w : World) (h : OutAt w g v xs long) (hs : xs.length ≤ 70368744177664) :
    Calls Tryd.prog 85 #[.pointer (some ⟨g, 0, none⟩), .bool f] w fun e w' => e = .returned (.tuple #[]) ∧ OutTo w w' g v (xs ++ [if f then 1 else 0]) long := by
  obtain ⟨c0, c1, z0, z1⟩ := in_cells h.blk
  cases f with
  | true =>
    have HP := Lib.hid (put_one g v xs long 1 (by omega) w h (by omega) 5)
    clear h
    go_enter Tryd.func85, Tryd.ntmps85
    go_wp2_with fail
    refine HP.out.mono ?_
    rintro e w1 ⟨rfl, hO⟩
    have HO := Lib.hid hO
    clear hO
    first | go_end0 | (go_wp2; go_end0) | (go_wp2; refine bodyPost_ret (results_none rfl _ _ _) rfl ?_) | refine bodyPost_ret (results_none rfl _ _ _) rfl ?_
    exact ⟨rfl, HO.out⟩
  | false =>
    have HP := Lib.hid (put_one g v xs long 0 (by omega) w h (by omega) 5)
    clear h
    go_enter Tryd.func85, Tryd.ntmps85
    go_wp2_with fail
    refine HP.out.mono ?_
    rintro e w1 ⟨rfl, hO⟩
    have HO := Lib.hid hO
    clear hO
    first | go_end0 | (go_wp2; go_end0) | (go_wp2; refine bodyPost_ret (results_none rfl _ _ _) rfl ?_) | refine bodyPost_ret (results_none rfl _ _ _) rfl ?_
    exact ⟨rfl, HO.out⟩

theorem OutAt.bs {w : World} {g : Nat} {v : Value} {xs : List Int} {long : Bool} (h : OutAt w g v xs long) (hb : ∀ x ∈ xs, 0 ≤ x ∧ x < 256) (hs : xs.length ≤ 140737488355328) : ∃ a c, v = .slice a xs.length c ∧ BsAt w a xs.length c xs := by
  obtain ⟨a, c, rfl, hc1, hc2⟩ := owns_slice h.own
  exact ⟨a, c, rfl, owns_bs h.own hb (by unfold maxLen at hc2; omega) hs⟩

set_option maxRecDepth 100000 in
theorem oEnd_any (g : Nat) (v : Value) (xs : List Int) (w : World) (h : OutAt w g v xs false) (hb : ∀ x ∈ xs, 0 ≤ x ∧ x < 256) (hs : xs.length ≤ 16384) :
    Calls Tryd.prog 57 #[.pointer (some ⟨g, 0, none⟩)] w fun e w' => ∃ a c, e = .returned (.tuple #[.slice a xs.length c, .int .i64 0]) ∧ BsAt w' a xs.length c xs ∧ Ext w w' := by
  obtain ⟨a, c, rfl, hbs⟩ := h.bs hb (by omega)
  have HC := Lib.hid (cloneB_any a xs.length c xs w hbs)
  obtain ⟨c0, c1, z0, z1⟩ := in_cells h.blk
  obtain ⟨n, hn⟩ : ∃ n, xs.length = n := ⟨_, rfl⟩
  rw [hn] at hs HC c0 ⊢
  have x1 : ¬ 16384 < (n : Int) := by omega
  clear h hbs hn
  go_enter Tryd.func57, Tryd.ntmps57
  go_wp2_with fail
  refine HC.out.mono ?_
  rintro e w1 ⟨a1, c1', rfl, hb1, hE1⟩
  have HB1 := Lib.hid hb1
  have HE1 := Lib.hid hE1
  clear hb1 hE1
  go_wp2
  go_ret2
  exact ⟨a1, c1', rfl, HB1.out, HE1.out⟩

end Go.Proofs.YtppidlpblkihbaaDoor
