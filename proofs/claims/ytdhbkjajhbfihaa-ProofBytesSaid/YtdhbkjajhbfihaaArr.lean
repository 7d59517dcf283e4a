/-
  The walks of pack.In's Flag; of entry.array, hashTo, tokenTo. No conditions.
-/
import Derived.Test.YtdhbkjajhbfihaaHdBy
import Derived.Test.YtdhbkjajhbfihaaPack
import Derived.Test.YtdhbkjajhbfihaaPkP
namespace Go.Proofs.Ytdhbkjajhbfihaa
open Go.ChangeShapes Go.WideShapes Go.ChangeAt Go.RowKit

set_option maxHeartbeats 1000000 in
set_option maxRecDepth 100000 in
theorem flag_any (g : Nat) (xs : List Int) (bad : Bool) (w : World) (h : InAt w g xs bad) :
    Calls Try.prog 51 #[.pointer (some ⟨g, 0, none⟩)] w fun e w' => e = .returned (.bool (flagP xs bad).1) ∧ InAt w' g (flagP xs bad).2.1 (flagP xs bad).2.2 ∧ w.grownBy w' (some g) ∧ InSame w w' g := by
  have HF := Lib.hid (fail_any g xs bad w h)
  obtain ⟨R, hR⟩ : ∃ R, flagP xs bad = R := ⟨_, rfl⟩
  have hR2 := hR
  unfold flagP at hR2
  obtain ⟨a, n, c, hg, hb⟩ := h
  have hlen := hb.len
  rw [hlen] at hR2
  rw [hR]
  obtain ⟨c0, c1, z0, z1⟩ := in_cells hg
  have hsm := hb.small
  have HB := Lib.hid hb
  have HG := Lib.hid hg
  clear hR hb hg hlen
  by_cases hbad : bad = true
  · subst hbad
    rw [if_pos (Or.inl rfl)] at hR2
    subst hR2
    go_enter Try.func51, Try.ntmps51
    go_wp2_with fail
    refine HF.out.mono ?_
    rintro e w2 ⟨rfl, hI, hG⟩
    have HI := Lib.hid (And.intro hI hG)
    clear hI hG
    first | (go_end0; go_wp2) | go_wp2
    go_ret
    exact ⟨rfl, HI.out.1, HI.out.2⟩
  · obtain rfl : bad = false := by simpa using hbad
    clear hbad
    by_cases hn : n = 0
    · subst hn
      rw [if_pos (Or.inr (Or.inl rfl))] at hR2
      subst hR2
      go_enter Try.func51, Try.ntmps51
      go_wp2_with fail
      refine HF.out.mono ?_
      rintro e w2 ⟨rfl, hI, hG⟩
      have HI := Lib.hid (And.intro hI hG)
      clear hI hG
      first | (go_end0; go_wp2) | go_wp2
      go_ret
      exact ⟨rfl, HI.out.1, HI.out.2⟩
    · obtain ⟨b, off, rfl, hc⟩ := HB.out.at_ (by omega)
      have hc0 := hc 0 (by omega)
      rw [Nat.add_zero] at hc0
      obtain ⟨C, hC⟩ : ∃ C, xs.getD 0 0 = C := ⟨_, rfl⟩
      have hCb := getD_byte HB.out.byte 0
      rw [hC] at hc0 hCb hR2
      have x1 : (0 : Int) < (n : Int) := by omega
      have x2 : ¬ (n : Int) = 0 := by omega
      have x2b : ((n : Int) == 0) = false := by simpa using x2
      clear hc hC
      by_cases h1 : 1 < C
      · rw [if_pos (Or.inr (Or.inr h1))] at hR2
        subst hR2
        go_enter Try.func51, Try.ntmps51
        go_wp2_with fail
        refine HF.out.mono ?_
        rintro e w2 ⟨rfl, hI, hG⟩
        have HI := Lib.hid (And.intro hI hG)
        clear hI hG
        first | (go_end0; go_wp2) | go_wp2
        go_ret
        exact ⟨rfl, HI.out.1, HI.out.2⟩
      · rw [if_neg (by simp only [Bool.false_eq_true, false_or, not_or]; exact ⟨hn, h1⟩)] at hR2
        subst hR2
        have hn1 : 1 ≤ n := by omega
        have HC := Lib.hid (InAt.cut HG.out (HB.out.drop 1 hn1) (cutA_blk HB.out _))
        rw [List.drop_one] at HC
        go_enter Try.func51, Try.ntmps51
        go_wp2_with (refine wp_from rfl _ _ rfl (some ⟨b, off, none⟩) n c 1 rfl rfl hn1 ?_)
        go_ret
        exact ⟨rfl, HC.out.1, HC.out.2⟩

/-- An array's numbers, where some bytes were copied over them. -/
def cpF (f : Nat → Int) (xs : List Int) : Nat → Int := fun j => if j < xs.length then xs.getD j 0 else f j
theorem rawP_len {xs : List Int} {bad : Bool} {k : Int} (h0 : 0 ≤ k) : ((rawP xs bad k).1.length : Int) ≤ k := by
  unfold rawP
  split
  · simpa using h0
  · simp only [List.length_take]
    omega

/-- Two blocks may turn. -/
structure Grown2 (w w' : World) (p q : Nat) : Prop where
  os : w'.os = w.os
  tape : w'.tape = w.tape
  output : w'.output = w.output
  size : w.heap.size ≤ w'.heap.size
  block : ∀ k, k < w.heap.size → k ≠ p → k ≠ q → w'.heap[k]? = w.heap[k]?
theorem Grown2.of1 {w w' : World} {p q : Nat} (h : w.grownBy w' (some p)) : Grown2 w w' p q := ⟨h.os, h.tape, h.output, h.size, fun k hk h1 _ => h.block k hk (fun e => h1 (Option.some.inj e))⟩
theorem Grown2.of2 {w w' : World} {p q : Nat} (h : w.grownBy w' (some q)) : Grown2 w w' p q := ⟨h.os, h.tape, h.output, h.size, fun k hk _ h1 => h.block k hk (fun e => h1 (Option.some.inj e))⟩
theorem Grown2.trans {a b c : World} {p q : Nat} (h : Grown2 a b p q) (k : Grown2 b c p q) : Grown2 a c p q :=
  ⟨k.os.trans h.os, k.tape.trans h.tape, k.output.trans h.output, Nat.le_trans h.size k.size, fun i hi h1 h2 => (k.block i (Nat.lt_of_lt_of_le hi h.size) h1 h2).trans (h.block i hi h1 h2)⟩
theorem Grown2.ext {w a b : World} {p q : Nat} (h : Ext w a) (k : Grown2 a b p q) (hp : w.heap.size ≤ p) (hq : w.heap.size ≤ q) : Ext w b :=
  Below.trans h ⟨k.os, k.tape, k.output, k.size, fun i hi => k.block i (Nat.lt_of_lt_of_le hi (Below.size h)) (by omega) (by omega)⟩
theorem Grown2.keep {a b : World} {p q g : Nat} {o : Obj} (h : Grown2 a b p q) (hg : a.heap[g]? = some o) (h1 : g ≠ p) (h2 : g ≠ q) : b.heap[g]? = some o := by
  rw [h.block g (Array.getElem?_eq_some_iff.1 hg).1 h1 h2]
  exact hg

theorem InAt.grown {w w' : World} {g r : Nat} {row : Nat} {xs : List Int} {bad : Bool} (hI : InAt w g xs bad) (hB : InBlk w g r) (hG : w.grownBy w' (some row)) (h1 : g ≠ row) (h2 : r ≠ row) : InAt w' g xs bad ∧ InBlk w' g r := by
  obtain ⟨a, n, c, hg1, hb⟩ := hI
  obtain ⟨a', n', c', v', T', fr', hg2, hr2⟩ := hB
  have hkeep : w'.heap[g]? = w.heap[g]? := hG.block g (Array.getElem?_eq_some_iff.1 hg1).1 (fun e => h1 (Option.some.inj e))
  rw [hg1] at hg2
  simp only [Option.some.injEq, Obj.cells.injEq, Array.mk.injEq, List.cons.injEq, Value.slice.injEq, and_true] at hg2
  obtain ⟨⟨⟨rfl, rfl, rfl⟩, rfl⟩, rfl, rfl⟩ := hg2
  rw [hg1] at hkeep
  refine ⟨⟨a, n, c, hkeep, hb.grownO hG (fun h0 b off e e2 => ?_)⟩, a, n, c, _, _, _, hkeep, hr2⟩
  have h3 := hr2 b off e h0
  have h4 := Option.some.inj e2
  omega

set_option maxRecDepth 100000 in
theorem hashTo_any (g off : Nat) (w : World) : Calls Try.prog 50 #[.pointer (some ⟨g, off, none⟩)] w fun e w' => e = .returned (.slice (some ⟨g, off, none⟩) 32 32) ∧ w' = w := by
  go_enter Try.func50, Try.ntmps50
  go_wp2_with fail
  go_ret
  exact ⟨rfl, rfl⟩

set_option maxHeartbeats 1000000 in
set_option maxRecDepth 100000 in
theorem arrH_any (gI r g off N : Nat) (T : TypeId) (f : Nat → Value) (xs : List Int) (bad : Bool) (w : World) (hI : InAt w gI xs bad) (hB : InBlk w gI r) (hr : w.rowIs g T N f) (hN : off + 32 ≤ N) (h1 : gI ≠ g) (h2 : r ≠ g) :
    Calls Try.prog 49 #[.pointer (some ⟨gI, 0, none⟩), .pointer (some ⟨g, off, none⟩), .func (.func 50) #[] #[]] w fun e w' => e = .returned (.tuple #[]) ∧ InAt w' gI (rawP xs bad 32).2.1 (rawP xs bad 32).2.2 ∧ InBlk w' gI r ∧
      w'.rowIs g T N (fun j => if off ≤ j ∧ j < off + (rawP xs bad 32).1.length then .int .u8 ((rawP xs bad 32).1.getD (j - off) 0) else f j) ∧ Grown2 w w' gI g := by
  have HT := Lib.hid (hashTo_any g off w)
  have hle := rawP_len (xs := xs) (bad := bad) (k := 32) (by omega)
  have HR := Lib.hid (raw_any gI xs bad 32 w hI)
  have Hr := Lib.hid hr
  have HB := Lib.hid hB
  obtain ⟨R1, hR1⟩ : ∃ R, (rawP xs bad 32).1 = R := ⟨_, rfl⟩
  obtain ⟨R2, hR2⟩ : ∃ R, (rawP xs bad 32).2 = R := ⟨_, rfl⟩
  rw [hR1, hR2] at HR
  rw [hR1] at hle
  rw [hR1, hR2]
  clear hI hr hB hR1 hR2
  go_enter Try.func49, Try.ntmps49
  go_wp2_with fail
  refine HT.out.mono ?_
  rintro e w1 ⟨rfl, rfl⟩
  go_wp2_with fail
  refine HR.out.mono ?_
  rintro e w2 ⟨a2, n2, c2, rfl, hb2, hI2, hG2, hS2⟩
  have hl2 := hb2.len
  have hB2 := hS2 r HB.out
  have hr2 : w2.rowIs g T N f := Hr.out.of_block (hG2.block g Hr.out.lt (fun e => h1 (Option.some.inj e).symm))
  have HB2 := Lib.hid hb2
  have HI2 := Lib.hid hI2
  have HG2 := Lib.hid hG2
  have HBk2 := Lib.hid hB2
  have Hr2 := Lib.hid hr2
  clear hb2 hI2 hG2 hS2 hB2 hr2
  subst hl2
  have hmin : R1.length = Nat.min R1.length 32 := (Nat.min_eq_left (by omega)).symm
  have Hmin := Lib.hid hmin
  clear hmin
  go_wp2_with (refine copy_bs rfl (.tmp 10) (.tmp 14) rfl g off 32 32 N T f rfl Hr2.out hN a2 R1.length c2 R1 rfl HB2.out R1.length Hmin.out ?_; intro w3 hr3 hG3)
  obtain ⟨i3, b3⟩ := HI2.out.grown HBk2.out hG3 h1 h2
  have HF := Lib.hid (And.intro i3 (And.intro b3 (And.intro hr3 ((Grown2.of1 (q := g) HG2.out).trans (Grown2.of2 (p := gI) hG3)))))
  clear i3 b3 hr3 hG3
  first | go_end0 | (go_wp2; go_end0) | (go_wp2; refine bodyPost_ret (results_none rfl _ _ _) rfl ?_) | refine bodyPost_ret (results_none rfl _ _ _) rfl ?_
  exact ⟨rfl, HF.out.1, HF.out.2.1, HF.out.2.2.1, HF.out.2.2.2⟩

set_option maxRecDepth 100000 in
theorem tokenTo_any (g off : Nat) (w : World) : Calls Try.prog 53 #[.pointer (some ⟨g, off, none⟩)] w fun e w' => e = .returned (.slice (some ⟨g, off, none⟩) 16 16) ∧ w' = w := by
  go_enter Try.func53, Try.ntmps53
  go_wp2_with fail
  go_ret
  exact ⟨rfl, rfl⟩

set_option maxHeartbeats 1000000 in
set_option maxRecDepth 100000 in
theorem arrT_any (gI r g off N : Nat) (T : TypeId) (f : Nat → Value) (xs : List Int) (bad : Bool) (w : World) (hI : InAt w gI xs bad) (hB : InBlk w gI r) (hr : w.rowIs g T N f) (hN : off + 16 ≤ N) (h1 : gI ≠ g) (h2 : r ≠ g) :
    Calls Try.prog 52 #[.pointer (some ⟨gI, 0, none⟩), .pointer (some ⟨g, off, none⟩), .func (.func 53) #[] #[]] w fun e w' => e = .returned (.tuple #[]) ∧ InAt w' gI (rawP xs bad 16).2.1 (rawP xs bad 16).2.2 ∧ InBlk w' gI r ∧
      w'.rowIs g T N (fun j => if off ≤ j ∧ j < off + (rawP xs bad 16).1.length then .int .u8 ((rawP xs bad 16).1.getD (j - off) 0) else f j) ∧ Grown2 w w' gI g := by
  have HT := Lib.hid (tokenTo_any g off w)
  have hle := rawP_len (xs := xs) (bad := bad) (k := 16) (by omega)
  have HR := Lib.hid (raw_any gI xs bad 16 w hI)
  have Hr := Lib.hid hr
  have HB := Lib.hid hB
  obtain ⟨R1, hR1⟩ : ∃ R, (rawP xs bad 16).1 = R := ⟨_, rfl⟩
  obtain ⟨R2, hR2⟩ : ∃ R, (rawP xs bad 16).2 = R := ⟨_, rfl⟩
  rw [hR1, hR2] at HR
  rw [hR1] at hle
  rw [hR1, hR2]
  clear hI hr hB hR1 hR2
  go_enter Try.func52, Try.ntmps52
  go_wp2_with fail
  refine HT.out.mono ?_
  rintro e w1 ⟨rfl, rfl⟩
  go_wp2_with fail
  refine HR.out.mono ?_
  rintro e w2 ⟨a2, n2, c2, rfl, hb2, hI2, hG2, hS2⟩
  have hl2 := hb2.len
  have hB2 := hS2 r HB.out
  have hr2 : w2.rowIs g T N f := Hr.out.of_block (hG2.block g Hr.out.lt (fun e => h1 (Option.some.inj e).symm))
  have HB2 := Lib.hid hb2
  have HI2 := Lib.hid hI2
  have HG2 := Lib.hid hG2
  have HBk2 := Lib.hid hB2
  have Hr2 := Lib.hid hr2
  clear hb2 hI2 hG2 hS2 hB2 hr2
  subst hl2
  have hmin : R1.length = Nat.min R1.length 16 := (Nat.min_eq_left (by omega)).symm
  have Hmin := Lib.hid hmin
  clear hmin
  go_wp2_with (refine copy_bs rfl (.tmp 10) (.tmp 14) rfl g off 16 16 N T f rfl Hr2.out hN a2 R1.length c2 R1 rfl HB2.out R1.length Hmin.out ?_; intro w3 hr3 hG3)
  obtain ⟨i3, b3⟩ := HI2.out.grown HBk2.out hG3 h1 h2
  have HF := Lib.hid (And.intro i3 (And.intro b3 (And.intro hr3 ((Grown2.of1 (q := g) HG2.out).trans (Grown2.of2 (p := gI) hG3)))))
  clear i3 b3 hr3 hG3
  first | go_end0 | (go_wp2; go_end0) | (go_wp2; refine bodyPost_ret (results_none rfl _ _ _) rfl ?_) | refine bodyPost_ret (results_none rfl _ _ _) rfl ?_
  exact ⟨rfl, HF.out.1, HF.out.2.1, HF.out.2.2.1, HF.out.2.2.2⟩

end Go.Proofs.Ytdhbkjajhbfihaa
