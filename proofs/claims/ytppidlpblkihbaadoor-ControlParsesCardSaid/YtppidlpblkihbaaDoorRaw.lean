/-
  The walk of pack.In's Raw. No conditions.
-/
import Derived.Test.YtppidlpblkihbaaDoorTake
namespace Go.Proofs.YtppidlpblkihbaaDoor
open Go.ChangeShapes Go.WideShapes Go.ChangeAt Go.RowKit

theorem bs_none (w : World) : BsAt w none 0 0 [] := ⟨rfl, Nat.le_refl _, by omega, by omega, by simp, fun h => by omega, fun _ => rfl⟩

/-- What Raw takes: the bytes, what is left, whether it has failed. -/
def rawP (xs : List Int) (bad : Bool) (k : Int) : List Int × List Int × Bool :=
  if bad = true ∨ k < 0 ∨ (xs.length : Int) < k then ([], xs, true) else (xs.take k.toNat, xs.drop k.toNat, false)

set_option maxRecDepth 100000 in
theorem run_upto (w : World) (a : Option Addr) (n c k : Nat) (hk : k ≤ c) : (Instr.sliceAt 41 (.slice a n c) none (some (.int .i64 (k : Int))) none).run Tryd.prog w = .ok (.slice a k c) w := by
  have h0 : (0 : Int) ≤ (k : Int) := by omega
  have h1 : (k : Int) ≤ (c : Int) := by omega
  have hs := run_slice_h (P := Tryd.prog) (w := w) 41 a n c Tryd.underlying41 .i64 (k : Int) h0 h1
  have hz : ∀ w, (sizeOf (Tryd.prog.elem 41)).run Tryd.prog w = .ok 1 w := fun _ => by kernel_rfl
  rw [run_sliceAt_slice w _ _ _ _ _ Tryd.underlying41, hs, hz]
  unfold sliced
  cases a <;> simp [Result.andThen, Addr.add]

theorem wp_upto {ops : Array Oper} {Q : Exit → Act → World → Prop} {rest : List Oper} {o : Oper} {act : Act} {w : World} (hgd : o.guard = none) (x y : Operand) (ho : o.op = .slice 41 x none (some y) none)
    (a : Option Addr) (n c k : Nat) (hx : act.eval x = .slice a n c) (hy : act.eval y = .int .i64 (k : Int)) (hk : k ≤ c)
    (h : wpList Tryd.prog ops Q rest (act.put o.dst (.slice a k c)) w) : wpList Tryd.prog ops Q (o :: rest) act w := by
  refine wpList_plain hgd fun K hK => ?_
  unfold Oper.wp execOp
  simp only [ho, hx, hy, Option.map_some, Option.map_none, Sem.run_bind, run_upto w a n c k hk, Result.andThen_ok, Sem.run_pure]
  exact hK _ _ h

set_option maxHeartbeats 1000000 in
set_option maxRecDepth 100000 in
theorem raw_any (g : Nat) (xs : List Int) (bad : Bool) (k : Int) (w : World) (h : InAt w g xs bad) :
    Calls Tryd.prog 81 #[.pointer (some ⟨g, 0, none⟩), .int .i64 k] w fun e w' => ∃ a' n' c', e = .returned (.slice a' n' c') ∧ BsAt w' a' n' c' (rawP xs bad k).1 ∧ InAt w' g (rawP xs bad k).2.1 (rawP xs bad k).2.2 ∧ w.grownBy w' (some g) := by
  have HF := Lib.hid (fail_any g xs bad w h)
  obtain ⟨R, hR⟩ : ∃ R, rawP xs bad k = R := ⟨_, rfl⟩
  have hR2 := hR
  unfold rawP at hR2
  obtain ⟨a, n, c, hg, hb⟩ := h
  rw [hb.len] at hR2
  rw [hR]
  obtain ⟨c0, c1, z0, z1⟩ := in_cells hg
  have HB := Lib.hid hb
  have HG := Lib.hid hg
  clear hR hb hg
  by_cases hbad : bad = true
  · subst hbad
    rw [if_pos (Or.inl rfl)] at hR2
    subst hR2
    go_enter Tryd.func81, Tryd.ntmps81
    go_wp2_with fail
    refine HF.out.mono ?_
    rintro e w2 ⟨rfl, hI, hG⟩
    have HI := Lib.hid (And.intro hI hG)
    clear hI hG
    first | (go_end0; go_wp2) | go_wp2
    go_ret
    exact ⟨none, 0, 0, rfl, bs_none _, HI.out.1, HI.out.2⟩
  · obtain rfl : bad = false := by simpa using hbad
    clear hbad
    by_cases hk0 : k < 0
    · rw [if_pos (Or.inr (Or.inl hk0))] at hR2
      subst hR2
      go_enter Tryd.func81, Tryd.ntmps81
      go_wp2_with fail
      refine HF.out.mono ?_
      rintro e w2 ⟨rfl, hI, hG⟩
      have HI := Lib.hid (And.intro hI hG)
      clear hI hG
      first | (go_end0; go_wp2) | go_wp2
      go_ret
      exact ⟨none, 0, 0, rfl, bs_none _, HI.out.1, HI.out.2⟩
    · by_cases hkn : (n : Int) < k
      · rw [if_pos (Or.inr (Or.inr hkn))] at hR2
        subst hR2
        go_enter Tryd.func81, Tryd.ntmps81
        go_wp2_with fail
        refine HF.out.mono ?_
        rintro e w2 ⟨rfl, hI, hG⟩
        have HI := Lib.hid (And.intro hI hG)
        clear hI hG
        first | (go_end0; go_wp2) | go_wp2
        go_ret
        exact ⟨none, 0, 0, rfl, bs_none _, HI.out.1, HI.out.2⟩
      · rw [if_neg (by simp only [Bool.false_eq_true, false_or, not_or]; exact ⟨hk0, hkn⟩)] at hR2
        subst hR2
        obtain ⟨m, rfl⟩ : ∃ m : Nat, k = (m : Int) := ⟨k.toNat, by omega⟩
        have hmn : m ≤ n := by omega
        have hcap := HB.out.cap
        have hmc : m ≤ c := by omega
        have HC := Lib.hid (cloneB_any a m c (xs.take m) w (HB.out.cut hmn hmc (Nat.le_refl _)))
        clear hk0 HF
        go_enter Tryd.func81, Tryd.ntmps81
        go_wp2_with (refine wp_upto rfl _ _ rfl a n c m rfl rfl hmc ?_)
        refine HC.out.mono ?_
        rintro e w2 ⟨a2, c2, rfl, hb2, hE2⟩
        have hg2 := hE2.keep HG.out
        obtain ⟨d0, d1, y0, y1⟩ := in_cells hg2
        have hcut := InAt.cut hg2 ((HB.out.ext hE2).drop m hmn)
        have HB2 := Lib.hid (hb2.beside hcut.2 (in_noBytes hg2))
        have HI := Lib.hid (And.intro hcut.1 (grown_trans (grown_ext hE2 _) hcut.2))
        clear hb2 hE2 hg2 hcut c0 c1 z0 z1 HC
        go_wp2_with (refine wp_from rfl _ _ rfl a n c m rfl rfl hmn ?_)
        go_ret
        exact ⟨a2, m, c2, rfl, HB2.out, HI.out.1, HI.out.2⟩

end Go.Proofs.YtppidlpblkihbaaDoor
