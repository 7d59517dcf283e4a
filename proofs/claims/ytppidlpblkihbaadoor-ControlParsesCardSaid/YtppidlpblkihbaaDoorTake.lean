/-
  The walk of pack.In's Num. No conditions.
-/
import Derived.Test.YtppidlpblkihbaaDoorNumber
import Derived.Test.YtppidlpblkihbaaDoorLu
namespace Go.Proofs.YtppidlpblkihbaaDoor
open Go.ChangeShapes Go.WideShapes Go.ChangeAt Go.RowKit

/-- What Num takes: the number, what is left, whether it has failed. -/
def numP (xs : List Int) (bad : Bool) (most : Int) : Int × List Int × Bool :=
  if bad = true ∨ (numT xs).2 = 0 ∨ most < (numT xs).1 then (0, xs, true) else ((numT xs).1, xs.drop (numT xs).2, false)

set_option maxRecDepth 100000 in
theorem run_from (w : World) (a : Option Addr) (n c k : Nat) (hk : k ≤ n) : (Instr.sliceAt 41 (.slice a n c) (some (.int .i64 (k : Int))) none none).run Tryd.prog w = .ok (.slice (cutA a c k) (n - k) (c - k)) w := by
  have h0 : (0 : Int) ≤ (k : Int) := by omega
  have h1 : (k : Int) ≤ (n : Int) := by omega
  have hs := run_slice_l (P := Tryd.prog) (w := w) 41 a n c Tryd.underlying41 .i64 (k : Int) h0 h1
  have hz : ∀ w, (sizeOf (Tryd.prog.elem 41)).run Tryd.prog w = .ok 1 w := fun _ => by kernel_rfl
  rw [run_sliceAt_slice w _ _ _ _ _ Tryd.underlying41, hs, hz]
  unfold sliced cutA
  simp [Result.andThen]

theorem wp_from {ops : Array Oper} {Q : Exit → Act → World → Prop} {rest : List Oper} {o : Oper} {act : Act} {w : World} (hgd : o.guard = none) (x y : Operand) (ho : o.op = .slice 41 x (some y) none none)
    (a : Option Addr) (n c k : Nat) (hx : act.eval x = .slice a n c) (hy : act.eval y = .int .i64 (k : Int)) (hk : k ≤ n)
    (h : wpList Tryd.prog ops Q rest (act.put o.dst (.slice (cutA a c k) (n - k) (c - k))) w) : wpList Tryd.prog ops Q (o :: rest) act w := by
  refine wpList_plain hgd fun K hK => ?_
  unfold Oper.wp execOp
  simp only [ho, hx, hy, Option.map_some, Option.map_none, Sem.run_bind, run_from w a n c k hk, Result.andThen_ok, Sem.run_pure]
  exact hK _ _ h

set_option maxHeartbeats 1000000 in
set_option maxRecDepth 100000 in
theorem num_any (g : Nat) (xs : List Int) (bad : Bool) (most : Int) (w : World) (h : InAt w g xs bad) :
    Calls Tryd.prog 50 #[.pointer (some ⟨g, 0, none⟩), .int .u64 most] w fun e w' => e = .returned (.int .u64 (numP xs bad most).1) ∧ InAt w' g (numP xs bad most).2.1 (numP xs bad most).2.2 ∧ w.grownBy w' (some g) := by
  have hn := number_any g xs bad w h
  have HF := Lib.hid (fail_any g xs bad w h)
  obtain ⟨R, hR⟩ : ∃ R, numP xs bad most = R := ⟨_, rfl⟩
  have hR2 := hR
  unfold numP at hR2
  obtain ⟨a, n, c, hg, hb⟩ := h
  have hm : 0 < (numT xs).2 → (numT xs).2 ≤ n := fun h0 => by rw [← hb.len]; exact (numT_back hb.byte rfl h0).2.2.1
  obtain ⟨X, hX⟩ : ∃ X, (numT xs).1 = X := ⟨_, rfl⟩
  obtain ⟨m, hm0⟩ : ∃ m, (numT xs).2 = m := ⟨_, rfl⟩
  rw [hX, hm0] at hR2 hn
  rw [hm0] at hm
  rw [hR]
  have HN := Lib.hid hn
  obtain ⟨c0, c1, z0, z1⟩ := in_cells hg
  have HB := Lib.hid hb
  have HG := Lib.hid hg
  clear hn hX hm0 hR hb hg
  by_cases hbad : bad = true
  · subst hbad
    rw [if_pos (Or.inl rfl)] at hR2
    subst hR2
    clear hm
    go_enter Tryd.func50, Tryd.ntmps50
    go_wp2_with fail
    refine HN.out.mono ?_
    rintro e w1 ⟨rfl, rfl⟩
    go_wp2_with fail
    refine HF.out.mono ?_
    rintro e w2 ⟨rfl, hI, hG⟩
    have HI := Lib.hid (And.intro hI hG)
    clear hI hG
    first | (go_end0; go_wp2) | go_wp2
    go_ret
    exact ⟨rfl, HI.out.1, HI.out.2⟩
  · obtain rfl : bad = false := by simpa using hbad
    clear hbad
    by_cases hz : m = 0
    · subst hz
      rw [if_pos (Or.inr (Or.inl rfl))] at hR2
      subst hR2
      clear hm
      go_enter Tryd.func50, Tryd.ntmps50
      go_wp2_with fail
      refine HN.out.mono ?_
      rintro e w1 ⟨rfl, rfl⟩
      go_wp2_with fail
      refine HF.out.mono ?_
      rintro e w2 ⟨rfl, hI, hG⟩
      have HI := Lib.hid (And.intro hI hG)
      clear hI hG
      first | (go_end0; go_wp2) | go_wp2
      go_ret
      exact ⟨rfl, HI.out.1, HI.out.2⟩
    · have x1 : ¬ (m : Int) = 0 := by omega
      by_cases hx : most < X
      · rw [if_pos (Or.inr (Or.inr hx))] at hR2
        subst hR2
        clear hm hz
        go_enter Tryd.func50, Tryd.ntmps50
        go_wp2_with fail
        refine HN.out.mono ?_
        rintro e w1 ⟨rfl, rfl⟩
        go_wp2_with fail
        refine HF.out.mono ?_
        rintro e w2 ⟨rfl, hI, hG⟩
        have HI := Lib.hid (And.intro hI hG)
        clear hI hG
        first | (go_end0; go_wp2) | go_wp2
        go_ret
        exact ⟨rfl, HI.out.1, HI.out.2⟩
      · rw [if_neg (by simp only [Bool.false_eq_true, false_or, not_or]; exact ⟨hz, hx⟩)] at hR2
        subst hR2
        have hm1 := hm (by omega)
        have HC := Lib.hid (InAt.cut HG.out (HB.out.drop m hm1))
        clear hm hz
        go_enter Tryd.func50, Tryd.ntmps50
        go_wp2_with fail
        refine HN.out.mono ?_
        rintro e w1 ⟨rfl, rfl⟩
        go_wp2_with (refine wp_from rfl _ _ rfl a n c m rfl rfl hm1 ?_)
        · exfalso
          first | omega | (simp_all; done) | (simp_all; omega)
        go_ret
        exact ⟨rfl, HC.out.1, HC.out.2⟩

end Go.Proofs.YtppidlpblkihbaaDoor
