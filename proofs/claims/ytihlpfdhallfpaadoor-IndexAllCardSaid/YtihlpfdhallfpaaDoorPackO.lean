/-
  The walk of bytes.Clone. No conditions.
  The walk of the reference's Num; appends: where the row lies. No conditions.
  The Out of package pack: what it holds, its steps; the reference's numbers. No conditions.
-/
import Derived.Test.YtihlpfdhallfpaaDoorBys
import Derived.Test.YtihlpfdhallfpaaDoorNum
import Derived.Deep.Heap
import Derived.Lib.VarintBits
import Derived.Test.YtihlpfdhallfpaaDoorLu
namespace Go.Proofs.YtihlpfdhallfpaaDoor
open Go.ChangeAt Go.ChangeShapes Go.RowKit Go.WideShapes

set_option maxRecDepth 100000 in
theorem clone_any (a : Option Addr) (n c : Nat) (xs : List Int) (w : World) (h : BsAt w a n c xs) :
    Calls Tryd.prog 30 #[.slice a n c] w fun e w' => ∃ v, e = .returned v ∧ w'.ownsRow w.heap.size 5 1 v n (bv xs) ∧ Ext w w' := by
  have hl := h.len
  have hcap := h.cap
  have hlim := h.small
  obtain ⟨i0, hi, hz0, hz1, hz2⟩ := info_parts info_u8
  have H := Lib.hid h
  clear h
  have q22 : ∀ (w : World) (a : Option Addr) (n c n' c' : Nat), (binOp .eql 35 (.slice a n c) (.slice none n' c')).run Tryd.prog w = .ok (.bool a.isNone) w := fun w a n c n' c' => Lib.run_eql_slice_nil w _ _ a n c n' c' Tryd.underlying35
  cases a with
  | none =>
    obtain rfl : c = 0 := H.out.nil_ rfl
    obtain rfl : n = 0 := by omega
    obtain rfl : xs = [] := List.eq_nil_of_length_eq_zero hl
    go_enter Tryd.func30, Tryd.ntmps30
    go_wp2
    go_ret
    exact ⟨_, rfl, World.ownsRow_nil _ _ _ _, Ext.refl _⟩
  | some ad =>
    go_enter Tryd.func30, Tryd.ntmps30
    go_wp2_with (at_builtin; refine wpList_append_own _ rfl _ _ 35 rfl w.heap.size 5 i0 (.int .u8 0) 1 1 Tryd.underlying35 hi hz0 hz1 hz2 rfl (by decide) _ 0 [] rfl (World.ownsRow_made w #[] 0 (Nat.le_refl _) (by unfold maxLen; omega) rfl) ad n c (bv xs) rfl ?c1 ?c2 (bv_one xs) ?c4 ?c5 ?c6 ?_)
    case c1 => rw [bv_length, hl, Nat.mul_one]
    case c2 => exact (H.out.ext ((Ext.refl w).alloc _)).news
    case c4 => unfold maxLen; omega
    case c5 => omega
    case c6 => simp
    intro v' w1 hown hgrow _
    go_wp2
    go_ret
    refine ⟨v', rfl, ?_, ?_⟩
    · exact hown
    · exact ((Below.refl _ _).alloc (Nat.le_refl _) _).grown hgrow (by simp) (fun k hk => by simp [Value.ownBlock] at hk; omega)

set_option maxHeartbeats 1000000 in
set_option maxRecDepth 100000 in
theorem refNum_any (x : Int) (h0 : 0 ≤ x) (h1 : x < 18446744073709551616) (w : World) :
    Calls Tryd.prog 75 #[.int .u64 x] w fun e w' => ∃ v, e = .returned v ∧ w'.ownsRow w.heap.size 5 1 v (numL x).length (bv (numL x)) ∧ Ext w w' := by
  obtain ⟨R, hR⟩ : ∃ R, numL x = R := ⟨_, rfl⟩
  have HR := Lib.hid hR
  rw [hR]
  clear hR
  go_enter Tryd.func75, Tryd.ntmps75
  go_wp2
  go_loopw [0, 3] (fun y v wr => ∃ (X : Int) (k : Nat) (acc : List Int), y = .int .u64 X ∧ 0 ≤ X ∧ X < 18446744073709551616 ∧ acc.length + k = 9 ∧ X < 2 ^ (7 * k + 1) ∧ acc ++ numB (k + 1) X = R ∧ wr.ownsRow w.heap.size 5 1 v acc.length (bv acc) ∧ Ext w wr) (fun y _ _ => (intOf y).toNat)
  case atStart => exact ⟨x, 9, [], rfl, h0, h1, rfl, by simpa using h1, HR.out, World.ownsRow_nil _ _ _ _, Ext.refl _⟩
  case round =>
    obtain ⟨X, k, acc, rfl, hX0, hX1, hk, hX2, hacc, hown, hE⟩ := hrel
    have hsz := Below.size hE
    by_cases hlt : X < 128
    · have x1 : ¬ 0 < X / 128 := by omega
      have hR : acc ++ [X] = R := by rw [← hacc, numB, if_pos hlt]
      have e1 : (acc ++ [X]).length = acc.length + 1 := by simp
      go_wp2_with (at_builtin; refine append_byte rfl _ _ rfl w.heap.size _ acc.length acc rfl (hown.alloc _) wr.heap.size X rfl (new_cell _ _ _) (by omega) (by simp; omega) ?_)
      intro v3 w3 hown3 hB3
      have hE3 : Ext w w3 := Below.trans (Below.alloc hE hsz _) hB3
      rw [← e1, hR] at hown3
      have Hown := Lib.hid hown3
      have HE3 := Lib.hid hE3
      clear hown3 hE3 hown hB3
      go_wp2
      go_ret
      exact ⟨v3, rfl, Hown.out, HE3.out⟩
    · have x1 : 0 < X / 128 := by omega
      obtain ⟨k', rfl⟩ : ∃ k', k = k' + 1 := by
        cases k with
        | zero => simp at hX2; omega
        | succ k' => exact ⟨k', rfl⟩
      have hR : (acc ++ [X % 128 + 128]) ++ numB (k' + 1) (X / 128) = R := by
        have h5 : numB (k' + 1 + 1) X = (X % 128 + 128) :: numB (k' + 1) (X / 128) := by rw [numB, if_neg hlt]
        rw [← hacc, h5, List.append_assoc]
        rfl
      have e1 : (acc ++ [X % 128 + 128]).length = acc.length + 1 := by simp
      have hX3 : X / 128 < 2 ^ (7 * k' + 1) := by
        have : (2 : Int) ^ (7 * (k' + 1) + 1) = 128 * 2 ^ (7 * k' + 1) := by rw [show 7 * (k' + 1) + 1 = (7 * k' + 1) + 7 by omega, Int.pow_add]; omega
        omega
      have e2 : IntKind.u64.wrap (X % 128 + 128) = X % 128 + 128 := by rw [IntKind.wrap_u64]; omega
      have e3 : IntKind.u8.wrap (X % 128 + 128) = X % 128 + 128 := by rw [IntKind.wrap_u8]; omega
      have HR2 := Lib.hid hR
      have HX3 := Lib.hid hX3
      have hX4 : 0 ≤ X / 128 ∧ X / 128 < X := by omega
      have HX4 := Lib.hid hX4
      clear hX3 hX4 hR
      go_wp2_with (at_builtin; refine append_byte rfl _ _ rfl w.heap.size _ acc.length acc rfl (hown.alloc _) wr.heap.size (X % 128 + 128) rfl (new_cell _ _ _) (by omega) (by simp; omega) ?_)
      intro v3 w3 hown3 hB3
      have hE3 : Ext w w3 := Below.trans (Below.alloc hE hsz _) hB3
      rw [← e1] at hown3
      have Hown := Lib.hid hown3
      have HE3 := Lib.hid hE3
      clear hown3 hE3 hown hB3
      go_wp2
      go_roundw
      case rel => exact ⟨X / 128, k', acc ++ [X % 128 + 128], rfl, HX4.out.1, by have := HX4.out.2; omega, by rw [e1]; omega, HX3.out, HR2.out, Hown.out, HE3.out⟩
      case measure => have := HX4.out; simp [intOf]; omega

/-- A text's bytes, its length ahead. -/
def textL (xs : List Int) : List Int := numL (xs.length : Int) ++ xs

/-- Where the row behind an append lies: where it lay, or in a new block. -/
theorem append_where {P : Program} {w : World} {t ty e : TypeId} {i : TypeInfo} {z : Value} (ht : P.underlying t = some (.slice e)) (hi : P.info? e = some i) (hz : i.zero = some z)
    {B size bytes : Nat} (hsize : i.size = size) (hby : i.bytes = bytes) {v : Value} {n : Nat} {xs : List Value} (hown : w.ownsRow B e size v n xs)
    {a : Addr} {m c : Nat} {news : List Value} (hl : news.length = m * size) (hnews : ∀ j u, news[j]? = some u → w.cell? (a.add j) = some u) (h1 : ∀ u ∈ news, u.oneCell' = true)
    (h63 : n + m ≤ maxLen) (hbytes : (n + m) * bytes ≤ 140737488355328) {v' : Value} {w' : World} (hr : (Builtin.append_ #[t, t] ty #[v, .slice (some a) m c]).run P w = .ok v' w') :
    v'.ownBlock = v.ownBlock ∨ v'.ownBlock = some w.heap.size := by
  subst hsize
  subst hby
  have hsmall : n + m ≤ 9223372036854775807 := by simp only [maxLen] at h63; omega
  rcases hown.2 with ⟨rfl, rfl⟩ | ⟨g, cap, cur, rfl, hbg, hg, hnc, hcm, hcs, htake⟩
  · by_cases hm : m = 0
    · subst hm
      have hn : news = [] := List.eq_nil_of_length_eq_zero (by simpa using hl)
      subst hn
      have : (Builtin.append_ #[t, t] ty #[.slice none 0 0, .slice (some a) 0 c]).run P w = .ok (.slice none 0 0) w := by
        simp [Builtin.append_, run_underlying ht, sizeOf, typeInfo, hi, Builtin.lenOf, Builtin.firstCells, loadCells, loadCellsFrom]
      rw [this] at hr
      simp only [Result.ok.injEq] at hr
      rw [← hr.1]
      exact .inl rfl
    · have h2 := run_append_nil (P := P) w t ty e i z ht hi hz a m c news hl hnews (by omega) (by omega) (by have hb := hbytes; simp only [Nat.zero_add] at hb; omega)
      rw [h2] at hr
      simp only [Result.ok.injEq] at hr
      rw [← hr.1]
      exact .inr rfl
  · by_cases hroom : n + m ≤ cap
    · have hfit : n * i.size + news.length ≤ cur.size := by rw [hl, hcs, ← Nat.add_mul]; exact Nat.mul_le_mul_right _ hroom
      have h2 := run_append_room (P := P) w t ty e i ht hi g n cap cur hg a m c news hl hnews h1 hroom hfit
      rw [h2] at hr
      simp only [Result.ok.injEq] at hr
      rw [← hr.1]
      exact .inl rfl
    · have holds : ∀ j u, xs[j]? = some u → w.cell? ((⟨g, 0, none⟩ : Addr).add j) = some u := hown.cells (g := g) rfl
      have h2 := run_append_grow (P := P) w t ty e i z ht hi hz ⟨g, 0, none⟩ n cap xs hown.1 holds a m c news hl hnews (by omega) (by omega) (growslice_fits (by omega) hbytes)
      rw [h2] at hr
      simp only [Result.ok.injEq] at hr
      rw [← hr.1]
      exact .inr rfl

/-- append_bs, and where the row lies behind it. -/
theorem append_bsH {w : World} {ops : Array Oper} {rest : List Oper} {o : Oper} {a : Act} {Q : Exit → Act → World → Prop} (hgd : o.guard = none) (s x : Operand) (ho : o.op = .call { callee := .builtin .append, args := #[s, x], argTypes := #[35, 35] })
    (B : Nat) (v : Value) (n : Nat) (xs : List Int) (hs : a.eval s = v) (hown : w.ownsRow B 5 1 v n (bv xs))
    (src : Option Addr) (m c : Nat) (ys : List Int) (hx : a.eval x = .slice src m c) (hb : BsAt w src m c ys) (hsz : n + m ≤ 140737488355328) (hB : B ≤ w.heap.size)
    (h : ∀ v' w', w'.ownsRow B 5 1 v' (n + m) (bv (xs ++ ys)) → w.grownBy w' v.ownBlock → (v'.ownBlock = v.ownBlock ∨ v'.ownBlock = some w.heap.size) → wpList Tryd.prog ops Q rest (a.put o.dst v') w') : wpList Tryd.prog ops Q (o :: rest) a w := by
  obtain ⟨i0, hi, hz0, hz1, hz2⟩ := info_parts info_u8
  have hl := hb.len
  cases src with
  | none =>
    obtain rfl : c = 0 := hb.nil_ rfl
    have hc := hb.cap
    obtain rfl : m = 0 := by omega
    obtain rfl : ys = [] := List.eq_nil_of_length_eq_zero hl
    refine wpList_append_own_none hgd s x 35 ho B 5 i0 1 Tryd.underlying35 hi v n (bv xs) hs hown hx ?_
    exact h v w (by simpa using hown) (World.grownBy.refl w _) (.inl rfl)
  | some ad =>
    refine wpList_plain hgd fun K hK => ?_
    have h63 : n + m ≤ maxLen := by unfold maxLen; omega
    obtain ⟨v', w', hr, h2, h3, _⟩ := run_append_own (P := Tryd.prog) w B 35 o.type 5 i0 (.int .u8 0) 1 1 Tryd.underlying35 hi hz0 hz1 hz2 rfl (by decide) v n (bv xs) hown ad m c (bv ys) (by rw [bv_length, hl, Nat.mul_one]) hb.news (bv_one ys) h63 (by omega) hB
    have h4 := append_where (P := Tryd.prog) Tryd.underlying35 hi hz0 hz1 hz2 hown (by rw [bv_length, hl, Nat.mul_one]) hb.news (bv_one ys) h63 (by omega) hr
    unfold Oper.wp execOp
    simp only [ho, resolve, invoke, builtin, Sem.run_bind, Sem.run_pure, Result.andThen_ok, List.map_toArray, List.map_cons, List.map_nil, hs, hx, hr]
    exact hK _ _ (h v' w' (by rw [bv_append]; exact h2) h3 h4)

theorem in_cells {w : World} {g : Nat} {v0 v1 : Value} {T : TypeId} (h : w.heap[g]? = some (.cells #[v0, v1] T (0, 0))) : w.cell? ⟨g, 0, none⟩ = some v0 ∧ w.cell? ⟨g, 1, none⟩ = some v1 ∧ w.frozen? ⟨g, 0, none⟩ = false ∧ w.frozen? ⟨g, 1, none⟩ = false := by
  unfold World.cell? World.frozen?
  simp [h]

theorem in_set0 {w : World} {g : Nat} {v0 v1 : Value} {T : TypeId} (h : w.heap[g]? = some (.cells #[v0, v1] T (0, 0))) (v : Value) : (w.setCell ⟨g, 0, none⟩ v).heap[g]? = some (.cells #[v, v1] T (0, 0)) := by
  simp [World.setCell, Array.getElem?_modify, h]

theorem in_set1 {w : World} {g : Nat} {v0 v1 : Value} {T : TypeId} (h : w.heap[g]? = some (.cells #[v0, v1] T (0, 0))) (v : Value) : (w.setCell ⟨g, 1, none⟩ v).heap[g]? = some (.cells #[v0, v] T (0, 0)) := by
  simp [World.setCell, Array.getElem?_modify, h]

theorem BsAt.beside {w w' : World} {a : Option Addr} {n c : Nat} {xs : List Int} {g : Nat} (h : BsAt w a n c xs) (hg : w.grownBy w' (some g)) (hn : ∀ k x, w.cell? ⟨g, k, none⟩ ≠ some (.int .u8 x)) : BsAt w' a n c xs := by
  refine ⟨h.len, h.cap, h.lim, h.small, h.byte, fun hp => ?_, h.nil_⟩
  obtain ⟨b, off, ha, hc⟩ := h.at_ hp
  refine ⟨b, off, ha, fun i hi => ?_⟩
  have h1 := hc i hi
  exact World.grownBy.cell hg h1 (fun e => hn (off + i) _ (by injection e with e; rw [← e]; exact h1))


theorem cloneB_any (a : Option Addr) (n c : Nat) (xs : List Int) (w : World) (h : BsAt w a n c xs) :
    Calls Tryd.prog 30 #[.slice a n c] w fun e w' => ∃ a' c', e = .returned (.slice a' n c') ∧ BsAt w' a' n c' xs ∧ Ext w w' := by
  refine (clone_any a n c xs w h).mono ?_
  rintro e w' ⟨v, rfl, hown, hE⟩
  obtain ⟨ao, cv, rfl, hc1, hc2⟩ := owns_slice hown
  exact ⟨ao, cv, rfl, owns_bs hown h.byte (by unfold maxLen at hc2; omega) h.small, hE⟩


/-- Block g is an Out: its bytes lie at v; whether one was too long. -/
structure OutAt (w : World) (g : Nat) (v : Value) (xs : List Int) (long : Bool) : Prop where
  blk : w.heap[g]? = some (.cells #[v, .bool long] 116 (0, 0))
  own : w.ownsRow 0 5 1 v xs.length (bv xs)

/-- How the world turns while an Out grows: its block and its row turn; a new row lies in a new block. -/
structure OutStep (w w' : World) (g : Nat) (v v' : Value) : Prop where
  os : w'.os = w.os
  tape : w'.tape = w.tape
  output : w'.output = w.output
  size : w.heap.size ≤ w'.heap.size
  block : ∀ k, k < w.heap.size → k ≠ g → some k ≠ v.ownBlock → w'.heap[k]? = w.heap[k]?
  row : ∀ k, v'.ownBlock = some k → v.ownBlock = some k ∨ w.heap.size ≤ k

def OutTo (w w' : World) (g : Nat) (v : Value) (xs : List Int) (long : Bool) : Prop := ∃ v', OutAt w' g v' xs long ∧ OutStep w w' g v v'

theorem OutStep.refl (w : World) (g : Nat) (v : Value) : OutStep w w g v v := ⟨rfl, rfl, rfl, Nat.le_refl _, fun _ _ _ _ => rfl, fun _ h => .inl h⟩

theorem OutStep.trans {w w1 w2 : World} {g : Nat} {v v1 v2 : Value} (h : OutStep w w1 g v v1) (k : OutStep w1 w2 g v1 v2) : OutStep w w2 g v v2 :=
  ⟨k.os.trans h.os, k.tape.trans h.tape, k.output.trans h.output, Nat.le_trans h.size k.size,
    fun i hi hg hr => (k.block i (Nat.lt_of_lt_of_le hi h.size) hg (fun e => by
      rcases h.row i e.symm with h1 | h1
      · exact hr h1.symm
      · omega)).trans (h.block i hi hg hr),
    fun i e => by
      rcases k.row i e with h1 | h1
      · exact h.row i h1
      · exact .inr (Nat.le_trans h.size h1)⟩

theorem OutTo.trans {w w1 w2 : World} {g : Nat} {v v1 : Value} {xs : List Int} {long : Bool} (h : OutStep w w1 g v v1) (k : OutTo w1 w2 g v1 xs long) : OutTo w w2 g v xs long :=
  let ⟨v2, h2, k2⟩ := k
  ⟨v2, h2, h.trans k2⟩

/-- Memory that has grown, ahead of a step. -/
theorem OutStep.ext {w w1 w2 : World} {g : Nat} {v v2 : Value} (h : Ext w w1) (k : OutStep w1 w2 g v v2) (hg : w.heap.size ≤ g) (hv : ∀ r, v.ownBlock = some r → w.heap.size ≤ r) : Ext w w2 :=
  Below.trans h ⟨k.os, k.tape, k.output, k.size, fun i hi => k.block i (Nat.lt_of_lt_of_le hi (Below.size h)) (by omega) (fun e => by have := hv i e.symm; omega)⟩

theorem OutStep.after {w w1 w2 : World} {g : Nat} {v v2 : Value} (h : Ext w w1) (k : OutStep w1 w2 g v v2) : OutStep w w2 g v v2 :=
  ⟨k.os.trans (Below.os h), k.tape.trans (Below.tape h), k.output.trans (Below.output h), Nat.le_trans (Below.size h) k.size,
    fun i hi hg hr => (k.block i (Nat.lt_of_lt_of_le hi (Below.size h)) hg hr).trans (h.block hi),
    fun i e => (k.row i e).imp id (fun h1 => Nat.le_trans (Below.size h) h1)⟩

theorem OutStep.then {w w1 w2 : World} {g : Nat} {v v1 : Value} (h : OutStep w w1 g v v1) (k : Ext w1 w2) : OutStep w w2 g v v1 :=
  ⟨(Below.os k).trans h.os, (Below.tape k).trans h.tape, (Below.output k).trans h.output, Nat.le_trans h.size (Below.size k),
    fun i hi hg hr => (k.block (Nat.lt_of_lt_of_le hi h.size)).trans (h.block i hi hg hr), h.row⟩

/-- Bytes that lie elsewhere. -/
def Apart (a : Option Addr) (n g : Nat) (v : Value) : Prop := 0 < n → ∀ b off, a = some ⟨b, off, none⟩ → b ≠ g ∧ some b ≠ v.ownBlock

theorem BsAt.step {w w' : World} {a : Option Addr} {n c : Nat} {xs : List Int} {g : Nat} {v v' : Value} (h : BsAt w a n c xs) (k : OutStep w w' g v v') (hp : Apart a n g v) : BsAt w' a n c xs := by
  refine ⟨h.len, h.cap, h.lim, h.small, h.byte, fun h0 => ?_, h.nil_⟩
  obtain ⟨b, off, rfl, hc⟩ := h.at_ h0
  refine ⟨b, off, rfl, fun i hi => ?_⟩
  have h1 := hc i hi
  have h2 := hp h0 b off rfl
  exact (World.cell?_of_block (k.block b (World.block_lt_of_cell? w _ h1) h2.1 h2.2)).trans h1

/-- Bytes that lay there ahead of an Out lie apart from it. -/
theorem BsAt.apart {w w4 wk : World} {a : Option Addr} {n c g : Nat} {xs : List Int} {v : Value} (h : BsAt w a n c xs) (h4 : Ext w w4) (hg : w.heap.size ≤ g) (hS : OutStep w4 wk g (.slice none 0 0) v) : Apart a n g v := by
  intro h0 b off e
  obtain ⟨b', off', ha, hc⟩ := h.at_ h0
  rw [e] at ha
  simp only [Option.some.injEq, Addr.mk.injEq, and_true] at ha
  obtain ⟨rfl, rfl⟩ := ha
  have hlt := World.block_lt_of_cell? w _ (hc 0 h0)
  simp only at hlt
  refine ⟨by omega, fun e2 => ?_⟩
  have h5 := Below.size h4
  rcases hS.row b e2.symm with h1 | h1
  · simp [Value.ownBlock] at h1
  · omega

theorem BsAt.outStep {w w4 wk : World} {a : Option Addr} {n c g : Nat} {xs : List Int} {v : Value} (h : BsAt w a n c xs) (h4 : Ext w w4) (hg : w.heap.size ≤ g) (hS : OutStep w4 wk g (.slice none 0 0) v) : BsAt wk a n c xs :=
  (h.ext h4).step hS (fun h0 b off e => ⟨((h.apart h4 hg (OutStep.refl w4 g (.slice none 0 0))) h0 b off e).1, by simp [Value.ownBlock]⟩)

/-- An Out at its beginning. -/
theorem out_new (w : World) : OutAt (w.alloc (.cells #[.slice none 0 0, .bool false] 116)) w.heap.size (.slice none 0 0) [] false :=
  ⟨heap_new w _ _ rfl, World.ownsRow_nil _ _ _ _⟩

theorem OutStep.keep {w w' : World} {g k : Nat} {v : Value} {o : Obj} (hS : OutStep w w' g (.slice none 0 0) v) (h : w.heap[k]? = some o) (hne : k ≠ g) : w'.heap[k]? = some o := by
  rw [hS.block k (Array.getElem?_eq_some_iff.1 h).1 hne (by simp [Value.ownBlock])]
  exact h

theorem OutAt.ext {w w' : World} {g : Nat} {v : Value} {xs : List Int} {long : Bool} (h : OutAt w g v xs long) (k : Ext w w') : OutAt w' g v xs long :=
  ⟨k.keep h.blk, h.own.kept (grown_ext k none) (by cases hv : v.ownBlock <;> simp)⟩

theorem OutAt.ne {w : World} {g : Nat} {v : Value} {xs : List Int} {long : Bool} (h : OutAt w g v xs long) : v.ownBlock ≠ some g := by
  intro e
  rcases h.own.2 with ⟨rfl, _⟩ | ⟨r, cap, cur, rfl, _, hr, _⟩
  · simp [Value.ownBlock] at e
  · simp only [Value.ownBlock, Option.some.injEq] at e
    subst e
    rw [h.blk] at hr
    simp at hr

/-- The row and then the block are written anew. -/
theorem OutAt.put {w w1 : World} {g : Nat} {v v1 : Value} {xs ys : List Int} {long : Bool} (h : OutAt w g v xs long) (hown : w1.ownsRow 0 5 1 v1 ys.length (bv ys)) (hg : w.grownBy w1 v.ownBlock) (hr : v1.ownBlock = v.ownBlock ∨ v1.ownBlock = some w.heap.size) :
    OutTo w (w1.setCell ⟨g, 0, none⟩ v1) g v ys long := by
  have hlt : g < w.heap.size := (Array.getElem?_eq_some_iff.1 h.blk).1
  have hb1 : w1.heap[g]? = some (.cells #[v, .bool long] 116 (0, 0)) := by rw [hg.block g hlt (fun e => h.ne e.symm)]; exact h.blk
  have hne : ∀ k, v1.ownBlock = some k → k ≠ g := by
    intro k e
    rcases hr with h1 | h1
    · rw [h1] at e
      intro e2
      subst e2
      exact h.ne e
    · rw [h1] at e
      simp only [Option.some.injEq] at e
      omega
  have hG : w1.grownBy (w1.setCell ⟨g, 0, none⟩ v1) (some g) := grown_setCell (World.grownBy.refl w1 _) rfl _
  refine ⟨v1, ⟨in_set0 hb1 _, hown.kept hG ?_⟩, ?_⟩
  · cases hv : v1.ownBlock with
    | none => exact .inl rfl
    | some k => exact .inr (fun e => hne k hv (Option.some.inj e))
  · exact ⟨hg.os, hg.tape, hg.output, by simpa [World.setCell] using hg.size,
      fun i hi h1 h2 => (Below.heap_setCell w1 _ _ i h1).trans (hg.block i hi h2),
      fun k e => by
        rcases hr with h1 | h1
        · exact .inl (h1 ▸ e)
        · rw [h1] at e
          simp only [Option.some.injEq] at e
          exact .inr (by omega)⟩

theorem or_128 : ∀ c : Nat, c < 256 → bits .or .u8 (c : Int) 128 = (c : Int) % 128 + 128 := by decide +kernel

set_option maxRecDepth 100000 in
theorem put_any (g : Nat) (v : Value) (xs ys : List Int) (long : Bool) (a : Option Addr) (n c : Nat) (w : World) (h : OutAt w g v xs long) (hb : BsAt w a n c ys) (hs : xs.length + n ≤ 140737488355328) :
    Calls Tryd.prog 83 #[.pointer (some ⟨g, 0, none⟩), .slice a n c] w fun e w' => e = .returned (.tuple #[]) ∧ OutTo w w' g v (xs ++ ys) long := by
  obtain ⟨c0, c1, z0, z1⟩ := in_cells h.blk
  have H := Lib.hid h
  have HB := Lib.hid hb
  clear h hb
  go_enter Tryd.func83, Tryd.ntmps83
  go_wp2_with (at_builtin; refine append_bsH rfl _ _ rfl 0 v xs.length xs rfl H.out.own a n c ys rfl HB.out (by omega) (Nat.zero_le _) ?_)
  intro v1 w1 hown hg hr
  have hl : xs.length + n = (xs ++ ys).length := by rw [List.length_append, HB.out.len]
  rw [hl] at hown
  obtain ⟨a1, cc1, rfl, _, _⟩ := owns_slice hown
  have HP := Lib.hid (H.out.put hown hg hr)
  obtain ⟨N, hN⟩ : ∃ N, (xs ++ ys).length = N := ⟨_, rfl⟩
  rw [hN] at HP
  have hlt : g < w.heap.size := (Array.getElem?_eq_some_iff.1 H.out.blk).1
  have hb1 : w1.heap[g]? = some (.cells #[v, .bool long] 116 (0, 0)) := by rw [hg.block g hlt (fun e => H.out.ne e.symm)]; exact H.out.blk
  obtain ⟨d0, d1, y0, y1⟩ := in_cells hb1
  clear hl hown hg hr hb1 c0 c1 z0 z1
  go_wp2
  first | go_end0 | refine bodyPost_ret (results_none rfl _ _ _) rfl ?_
  exact ⟨rfl, HP.out⟩

set_option maxRecDepth 100000 in
theorem oRaw_any (g : Nat) (v : Value) (xs ys : List Int) (long : Bool) (a : Option Addr) (n c : Nat) (w : World) (h : OutAt w g v xs long) (hb : BsAt w a n c ys) (hs : xs.length + n ≤ 140737488355328) :
    Calls Tryd.prog 68 #[.pointer (some ⟨g, 0, none⟩), .slice a n c] w fun e w' => e = .returned (.tuple #[]) ∧ OutTo w w' g v (xs ++ ys) long := by
  have HP := Lib.hid (put_any g v xs ys long a n c w h hb hs)
  obtain ⟨c0, c1, z0, z1⟩ := in_cells h.blk
  clear h hb
  go_enter Tryd.func68, Tryd.ntmps68
  go_wp2_with fail
  refine HP.out.mono ?_
  rintro e w1 ⟨rfl, hO⟩
  have HO := Lib.hid hO
  clear hO
  first | go_end0 | (go_wp2; go_end0) | (go_wp2; refine bodyPost_ret (results_none rfl _ _ _) rfl ?_) | refine bodyPost_ret (results_none rfl _ _ _) rfl ?_
  exact ⟨rfl, HO.out⟩

/-- One byte more, out of a new cell. -/
theorem put_one (g : Nat) (v : Value) (xs : List Int) (long : Bool) (x : Int) (hx : 0 ≤ x ∧ x < 256) (w : World) (h : OutAt w g v xs long) (hs : xs.length < 140737488355328) (T : TypeId) :
    Calls Tryd.prog 83 #[.pointer (some ⟨g, 0, none⟩), .slice (some ⟨w.heap.size, 0, none⟩) 1 1] (w.alloc (.cells #[.int .u8 x] T)) fun e w' => e = .returned (.tuple #[]) ∧ OutTo w w' g v (xs ++ [x]) long := by
  have hE : Ext w (w.alloc (.cells #[.int .u8 x] T)) := (Ext.refl w).alloc _
  have hb : BsAt (w.alloc (.cells #[.int .u8 x] T)) (some ⟨w.heap.size, 0, none⟩) 1 1 [x] := by
    refine ⟨rfl, Nat.le_refl _, by omega, by omega, by simpa using hx, fun _ => ⟨_, _, rfl, fun i hi => ?_⟩, by simp⟩
    obtain rfl : i = 0 := by omega
    exact new_cell w _ T
  refine (put_any g v xs [x] long _ 1 1 _ (h.ext hE) hb (by omega)).mono ?_
  rintro e w1 ⟨rfl, v1, hO, hS⟩
  exact ⟨rfl, v1, hO, hS.after hE⟩

theorem numB_snoc (k : Nat) (X : Int) (h : ¬ X < 128) : numB (k + 1) X = (X % 128 + 128) :: numB k (X / 128) := by rw [numB, if_neg h]

set_option maxHeartbeats 1000000 in
set_option maxRecDepth 100000 in
theorem oNum_any (g : Nat) (v : Value) (xs : List Int) (long : Bool) (x : Int) (w : World) (h : OutAt w g v xs long) (h0 : 0 ≤ x) (h1 : x < 18446744073709551616) (hs : xs.length ≤ 70368744177664) :
    Calls Tryd.prog 67 #[.pointer (some ⟨g, 0, none⟩), .int .u64 x] w fun e w' => e = .returned (.tuple #[]) ∧ OutTo w w' g v (xs ++ numL x) long := by
  obtain ⟨R, hR⟩ : ∃ R, numL x = R := ⟨_, rfl⟩
  have HR := Lib.hid hR
  rw [hR]
  have H := Lib.hid h
  clear hR h
  go_enter Tryd.func67, Tryd.ntmps67
  go_wp2
  go_loopw [1] (fun y wr => ∃ (X : Int) (k : Nat) (acc : List Int) (v1 : Value), y = .int .u64 X ∧ 0 ≤ X ∧ X < 18446744073709551616 ∧ acc.length + k = 9 ∧ X < 2 ^ (7 * k + 1) ∧ acc ++ numB (k + 1) X = R ∧ OutAt wr g v1 (xs ++ acc) long ∧ OutStep w wr g v v1) (fun y _ => (intOf y).toNat)
  case atStart => exact ⟨x, 9, [], v, rfl, h0, h1, rfl, by simpa using h1, HR.out, by rw [List.append_nil]; exact H.out, OutStep.refl _ _ _⟩
  case round =>
    obtain ⟨X, k, acc, v1, rfl, hX0, hX1, hk, hX2, hacc, hO, hS⟩ := hrel
    obtain ⟨c0, c1, z0, z1⟩ := in_cells hO.blk
    have hlen : (xs ++ acc).length < 140737488355328 := by rw [List.length_append]; omega
    have HO := Lib.hid hO
    have HS := Lib.hid hS
    clear hO hS
    by_cases hlt : X < 128
    · have x1 : ¬ 128 ≤ X := by omega
      have hR : acc ++ [X] = R := by rw [← hacc, numB, if_pos hlt]
      have e3 : IntKind.u8.wrap X = X := by rw [IntKind.wrap_u8]; omega
      have HP := Lib.hid (put_one g v1 (xs ++ acc) long X ⟨hX0, by omega⟩ wr HO.out hlen 5)
      have HR2 := Lib.hid hR
      clear hR hacc hX2
      go_wp2_with fail
      refine HP.out.mono ?_
      rintro e w1 ⟨rfl, hT⟩
      have HT := Lib.hid (OutTo.trans HS.out hT)
      clear hT
      first | go_end0 | (go_wp2; go_end0) | (go_wp2; refine bodyPost_ret (results_none rfl _ _ _) rfl ?_) | refine bodyPost_ret (results_none rfl _ _ _) rfl ?_
      refine ⟨rfl, ?_⟩
      have hT := HT.out
      rw [List.append_assoc, HR2.out] at hT
      exact hT
    · have x1 : 128 ≤ X := by omega
      obtain ⟨k', rfl⟩ : ∃ k', k = k' + 1 := by
        cases k with
        | zero => simp at hX2; omega
        | succ k' => exact ⟨k', rfl⟩
      have hR : (acc ++ [X % 128 + 128]) ++ numB (k' + 1) (X / 128) = R := by
        rw [← hacc, numB_snoc _ X hlt, List.append_assoc]
        rfl
      have e1 : (acc ++ [X % 128 + 128]).length = acc.length + 1 := by simp
      have hX3 : X / 128 < 2 ^ (7 * k' + 1) := by
        have : (2 : Int) ^ (7 * (k' + 1) + 1) = 128 * 2 ^ (7 * k' + 1) := by rw [show 7 * (k' + 1) + 1 = (7 * k' + 1) + 7 by omega, Int.pow_add]; omega
        omega
      have e3 : bits .or .u8 (X % 256) 128 = X % 128 + 128 := by
        have := or_128 (X % 256).toNat (by omega)
        rw [show (((X % 256).toNat : Nat) : Int) = X % 256 by omega] at this
        rw [this]
        omega
      have e4 : IntKind.u8.wrap X = X % 256 := IntKind.wrap_u8 X
      have HP := Lib.hid (put_one g v1 (xs ++ acc) long (X % 128 + 128) (by omega) wr HO.out hlen 5)
      have HR2 := Lib.hid hR
      have HX3 := Lib.hid hX3
      have HX4 := Lib.hid (show 0 ≤ X / 128 ∧ X / 128 < X by omega)
      have E1 := Lib.hid e1
      clear hX3 hR hacc hX2 e1
      go_wp2_with fail
      refine HP.out.mono ?_
      rintro e w1 ⟨rfl, v2, hO2, hS2⟩
      have HO2 := Lib.hid hO2
      have HS2 := Lib.hid (OutStep.trans HS.out hS2)
      clear hO2 hS2
      go_wp2
      go_roundw
      case rel => exact ⟨X / 128, k', acc ++ [X % 128 + 128], v2, rfl, HX4.out.1, by have := HX4.out.2; omega, by rw [E1.out]; omega, HX3.out, HR2.out, by rw [← List.append_assoc]; exact HO2.out, HS2.out⟩
      case measure => have := HX4.out; simp [intOf]; omega

theorem OutAt.tooLong {w : World} {g : Nat} {v : Value} {xs : List Int} {long : Bool} (h : OutAt w g v xs long) : OutTo w (w.setCell ⟨g, 1, none⟩ (.bool true)) g v xs true := by
  have hG : w.grownBy (w.setCell ⟨g, 1, none⟩ (.bool true)) (some g) := grown_setCell (World.grownBy.refl w _) rfl _
  refine ⟨v, ⟨in_set1 h.blk _, h.own.kept hG ?_⟩, rfl, rfl, rfl, by simp [World.setCell], fun i _ h1 _ => Below.heap_setCell w _ _ i h1, fun _ e => .inl e⟩
  cases hv : v.ownBlock with
  | none => exact .inl rfl
  | some k => exact .inr (fun e => h.ne (hv.trans e))

set_option maxRecDepth 100000 in
theorem oFlag_any (g : Nat) (v : Value) (xs : List Int) (long f : Bool) (w : World) (h : OutAt w g v xs long) (hs : xs.length ≤ 70368744177664) :
    Calls Tryd.prog 69 #[.pointer (some ⟨g, 0, none⟩), .bool f] w fun e w' => e = .returned (.tuple #[]) ∧ OutTo w w' g v (xs ++ [if f then 1 else 0]) long := by
  obtain ⟨c0, c1, z0, z1⟩ := in_cells h.blk
  cases f with
  | true =>
    have HP := Lib.hid (put_one g v xs long 1 (by omega) w h (by omega) 5)
    clear h
    go_enter Tryd.func69, Tryd.ntmps69
    go_wp2_with fail
    refine HP.out.mono ?_
    rintro e w1 ⟨rfl, hO⟩
    have HO := Lib.hid hO
    clear hO
    first | go_end0 | (go_wp2; go_end0) | (go_wp2; refine bodyPost_ret (results_none rfl _ _ _) rfl ?_) | refine bodyPost_ret (results_none rfl _ _ _) rfl ?_
    exact ⟨rfl, HO.out⟩
  | false =>
    have HP := Lib.hid (put_one g v xs long 0 (by omega) w h (by omega) 5)
    clear h
    go_enter Tryd.func69, Tryd.ntmps69
    go_wp2_with fail
    refine HP.out.mono ?_
    rintro e w1 ⟨rfl, hO⟩
    have HO := Lib.hid hO
    clear hO
    first | go_end0 | (go_wp2; go_end0) | (go_wp2; refine bodyPost_ret (results_none rfl _ _ _) rfl ?_) | refine bodyPost_ret (results_none rfl _ _ _) rfl ?_
    exact ⟨rfl, HO.out⟩

theorem OutAt.bs {w : World} {g : Nat} {v : Value} {xs : List Int} {long : Bool} (h : OutAt w g v xs long) (hb : ∀ x ∈ xs, 0 ≤ x ∧ x < 256) (hs : xs.length ≤ 140737488355328) : ∃ a c, v = .slice a xs.length c ∧ BsAt w a xs.length c xs := by
  obtain ⟨a, c, rfl, hc1, hc2⟩ := owns_slice h.own
  exact ⟨a, c, rfl, owns_bs h.own hb (by unfold maxLen at hc2; omega) hs⟩

set_option maxRecDepth 100000 in
theorem oEnd_any (g : Nat) (v : Value) (xs : List Int) (w : World) (h : OutAt w g v xs false) (hb : ∀ x ∈ xs, 0 ≤ x ∧ x < 256) (hs : xs.length ≤ 16384) :
    Calls Tryd.prog 70 #[.pointer (some ⟨g, 0, none⟩)] w fun e w' => ∃ a c, e = .returned (.tuple #[.slice a xs.length c, .int .i64 0]) ∧ BsAt w' a xs.length c xs ∧ Ext w w' := by
  obtain ⟨a, c, rfl, hbs⟩ := h.bs hb (by omega)
  have HC := Lib.hid (cloneB_any a xs.length c xs w hbs)
  obtain ⟨c0, c1, z0, z1⟩ := in_cells h.blk
  obtain ⟨n, hn⟩ : ∃ n, xs.length = n := ⟨_, rfl⟩
  rw [hn] at hs HC c0 ⊢
  have x1 : ¬ 16384 < (n : Int) := by omega
  clear h hbs hn
  go_enter Tryd.func70, Tryd.ntmps70
  go_wp2_with fail
  refine HC.out.mono ?_
  rintro e w1 ⟨a1, c1', rfl, hb1, hE1⟩
  have HB1 := Lib.hid hb1
  have HE1 := Lib.hid hE1
  clear hb1 hE1
  go_wp2
  go_ret2
  exact ⟨a1, c1', rfl, HB1.out, HE1.out⟩

end Go.Proofs.YtihlpfdhallfpaaDoor
