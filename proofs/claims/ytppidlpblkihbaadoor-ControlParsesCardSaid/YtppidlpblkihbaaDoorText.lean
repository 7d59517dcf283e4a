/-
  The walk of pack.In's Text. No conditions.
-/
import Derived.Test.YtppidlpblkihbaaDoorRaw
namespace Go.Proofs.YtppidlpblkihbaaDoor
open Go.ChangeShapes Go.WideShapes Go.ChangeAt Go.RowKit

/-- What Text takes: the bytes, what is left, whether it has failed. -/
def textP (xs : List Int) (bad : Bool) (most : Int) : List Int × List Int × Bool :=
  if bad = true ∨ (numT xs).2 = 0 ∨ most < 0 ∨ min (min most 4096) ((xs.length : Int) - (numT xs).2) < (numT xs).1 then ([], xs, true)
  else ((xs.drop (numT xs).2).take (numT xs).1.toNat, (xs.drop (numT xs).2).drop (numT xs).1.toNat, false)

set_option maxHeartbeats 1000000 in
set_option maxRecDepth 100000 in
theorem text_any (g : Nat) (xs : List Int) (bad : Bool) (most : Int) (w : World) (h : InAt w g xs bad) (hlo : -9223372036854775808 ≤ most) (hhi : most ≤ 9223372036854775807) :
    Calls Tryd.prog 51 #[.pointer (some ⟨g, 0, none⟩), .int .i64 most] w fun e w' => ∃ a' n' c', e = .returned (.slice a' n' c') ∧ BsAt w' a' n' c' (textP xs bad most).1 ∧ InAt w' g (textP xs bad most).2.1 (textP xs bad most).2.2 ∧ w.grownBy w' (some g) := by
  have hn := number_any g xs bad w h
  have HF := Lib.hid (fail_any g xs bad w h)
  obtain ⟨R, hR⟩ : ∃ R, textP xs bad most = R := ⟨_, rfl⟩
  have hR2 := hR
  unfold textP at hR2
  obtain ⟨a, n, c, hg, hb⟩ := h
  have hm : 0 < (numT xs).2 → (numT xs).2 ≤ n ∧ 0 ≤ (numT xs).1 := fun h0 => by rw [← hb.len]; have := numT_back hb.byte rfl h0; exact ⟨this.2.2.1, this.1⟩
  obtain ⟨X, hX⟩ : ∃ X, (numT xs).1 = X := ⟨_, rfl⟩
  obtain ⟨m, hm0⟩ : ∃ m, (numT xs).2 = m := ⟨_, rfl⟩
  rw [hX, hm0, hb.len] at hR2
  rw [hX, hm0] at hn hm
  rw [hR]
  have HN := Lib.hid hn
  obtain ⟨c0, c1, z0, z1⟩ := in_cells hg
  have hsm := hb.small
  have HB := Lib.hid hb
  have HG := Lib.hid hg
  clear hn hX hm0 hR hb hg
  by_cases hbad : bad = true
  · subst hbad
    rw [if_pos (Or.inl rfl)] at hR2
    subst hR2
    clear hm
    go_enter Tryd.func51, Tryd.ntmps51
    go_wp2_with fail
    refine HN.out.mono ?_
    rintro e w1 ⟨rfl, rfl⟩
    go_wp2_with fail
    refine HF.out.mono ?_
    rintro e w2 ⟨rfl, hI, hG⟩
    have HI := Lib.hid (And.intro hI hG)
    clear hI hG
    first | (go_end0; go_wp2) | go_wp2
    go_ret
    exact ⟨none, 0, 0, rfl, bs_none _, HI.out.1, HI.out.2⟩
  · obtain rfl : bad = false := by simpa using hbad
    clear hbad
    by_cases hz : m = 0
    · subst hz
      rw [if_pos (Or.inr (Or.inl rfl))] at hR2
      subst hR2
      clear hm
      go_enter Tryd.func51, Tryd.ntmps51
      go_wp2_with fail
      refine HN.out.mono ?_
      rintro e w1 ⟨rfl, rfl⟩
      go_wp2_with fail
      refine HF.out.mono ?_
      rintro e w2 ⟨rfl, hI, hG⟩
      have HI := Lib.hid (And.intro hI hG)
      clear hI hG
      first | (go_end0; go_wp2) | go_wp2
      go_ret
      exact ⟨none, 0, 0, rfl, bs_none _, HI.out.1, HI.out.2⟩
    · have x1 : ¬ (m : Int) = 0 := by omega
      have x1b : ((m : Int) == 0) = false := by simpa using x1
      obtain ⟨hm1, hX0⟩ := hm (by omega)
      have x2 : (m : Int) ≤ (n : Int) := by omega
      by_cases hneg : most < 0
      · rw [if_pos (Or.inr (Or.inr (Or.inl hneg)))] at hR2
        subst hR2
        go_enter Tryd.func51, Tryd.ntmps51
        go_wp2_with fail
        refine HN.out.mono ?_
        rintro e w1 ⟨rfl, rfl⟩
        go_wp2_with fail
        refine HF.out.mono ?_
        rintro e w2 ⟨rfl, hI, hG⟩
        have HI := Lib.hid (And.intro hI hG)
        clear hI hG
        first | (go_end0; go_wp2) | go_wp2
        go_ret
        exact ⟨none, 0, 0, rfl, bs_none _, HI.out.1, HI.out.2⟩
      · obtain ⟨L, hL⟩ : ∃ L, min (min most 4096) ((n : Int) - (m : Int)) = L := ⟨_, rfl⟩
        rw [hL] at hR2
        have hL0 : 0 ≤ L ∧ L ≤ 4096 ∧ L ≤ (n : Int) - (m : Int) := by omega
        have hsub : IntKind.i64.wrap ((n : Int) - (m : Int)) = (n : Int) - (m : Int) := by rw [IntKind.wrap_i64]; omega
        have hLw : IntKind.u64.wrap L = L := by rw [IntKind.wrap_u64]; omega
        have hkey : (if (n : Int) - (m : Int) < (if 4096 < most then 4096 else most) then (n : Int) - (m : Int) else (if 4096 < most then 4096 else most)) = L := by
          rw [← hL]
          by_cases q1 : 4096 < most
          · rw [if_pos q1]; split <;> omega
          · rw [if_neg q1]; split <;> omega
        have HK := Lib.hid hkey
        clear hkey hL hm
        by_cases hlx : L < X
        · rw [if_pos (Or.inr (Or.inr (Or.inr hlx)))] at hR2
          subst hR2
          go_enter Tryd.func51, Tryd.ntmps51
          go_wp2_with fail
          refine HN.out.mono ?_
          rintro e w1 ⟨rfl, rfl⟩
          go_wp2_with (refine wp_from rfl _ _ rfl a n c m rfl rfl hm1 ?_)
          all_goals first
            | (exfalso; have h9 := HK.out; simp only [h9] at *; omega)
            | (refine HF.out.mono ?_
               rintro e w2 ⟨rfl, hI, hG⟩
               have HI := Lib.hid (And.intro hI hG)
               clear hI hG
               first | (go_end0; go_wp2) | go_wp2
               go_ret
               exact ⟨none, 0, 0, rfl, bs_none _, HI.out.1, HI.out.2⟩)
        · rw [if_neg (by simp only [Bool.false_eq_true, false_or, not_or]; exact ⟨hz, hneg, hlx⟩)] at hR2
          subst hR2
          have hcut := InAt.cut HG.out (HB.out.drop m hm1)
          have hraw := raw_any g (xs.drop m) false X _ hcut.1
          have HCG := Lib.hid hcut.2
          have hrp : rawP (xs.drop m) false X = ((xs.drop m).take X.toNat, (xs.drop m).drop X.toNat, false) := by
            unfold rawP
            rw [if_neg (by simp only [Bool.false_eq_true, false_or, not_or, List.length_drop, HB.out.len]; omega)]
          rw [hrp] at hraw
          have HRw := Lib.hid hraw
          clear hcut hraw hrp
          go_enter Tryd.func51, Tryd.ntmps51
          go_wp2_with fail
          refine HN.out.mono ?_
          rintro e w1 ⟨rfl, rfl⟩
          go_wp2_with (refine wp_from rfl _ _ rfl a n c m rfl rfl hm1 ?_)
          all_goals first
            | (exfalso; have h9 := HK.out; simp only [h9] at *; omega)
            | (refine HRw.out.mono ?_
               rintro e w2 ⟨a2, n2, c2, rfl, hb2, hI, hG⟩
               have HI := Lib.hid (And.intro hb2 (And.intro hI (grown_trans HCG.out hG)))
               clear hb2 hI hG
               go_wp2_with fail
               go_ret
               exact ⟨a2, n2, c2, rfl, HI.out.1, HI.out.2.1, HI.out.2.2⟩)

end Go.Proofs.YtppidlpblkihbaaDoor
