/-
  A change of an item: what is formed; the walks of entry.name, tags, FormedChange. No conditions.
-/
import Derived.Test.YtldaligeckjhaaaBys
import Derived.Test.YtldaligeckjhaaaTagP
import Derived.WalkLawsBesides
namespace Go.Proofs.Ytldaligeckjhaaa
open Go.ChangeShapes Go.WideShapes Go.ChangeAt Go.RowKit

/-- A slice of strings. -/
structure SsAt (w : World) (a : Option Addr) (n c : Nat) (ss : List ByteArray) : Prop where
  len : ss.length = n
  cap : n ≤ c
  lim : c ≤ 9223372036854775807
  small : n ≤ 140737488355328
  at_ : 0 < n → ∃ b off, a = some ⟨b, off, none⟩ ∧ ∀ i, i < n → w.cell? ⟨b, off + i, none⟩ = some (.string (ss.getD i ByteArray.empty))

theorem SsAt.ext {w w' : World} {a : Option Addr} {n c : Nat} {ss : List ByteArray} (h : SsAt w a n c ss) (he : Ext w w') : SsAt w' a n c ss := by
  refine ⟨h.len, h.cap, h.lim, h.small, fun hn => ?_⟩
  obtain ⟨b, off, ha, hc⟩ := h.at_ hn
  refine ⟨b, off, ha, fun i hi => ?_⟩
  have h1 := hc i hi
  rw [Ext.cell he (World.block_lt_of_cell? w _ h1)]
  exact h1

theorem ss_none (w : World) : SsAt w none 0 0 [] := ⟨rfl, Nat.le_refl _, by omega, by omega, fun h => by omega⟩

set_option maxRecDepth 100000 in
theorem name_any (s : ByteArray) (w : World) (hs : s.size ≤ 9223372036854775807) : Calls Try.prog 71 #[.string s] w fun e w' => e = .returned (.bool (nameB s)) ∧ w' = w := by
  by_cases h1 : 1 ≤ s.size
  · have x1 : (1 : Int) ≤ (s.size : Int) := by omega
    have hb : nameB s = decide ((s.size : Int) ≤ 24) := by unfold nameB; by_cases h : s.size ≤ 24 <;> simp [h, h1] <;> omega
    have HB := Lib.hid hb
    clear hb
    go_enter Try.func71, Try.ntmps71
    go_wp2_with fail
    go_ret
    exact ⟨by rw [HB.out]; rfl, rfl⟩
  · have x1 : ¬ (1 : Int) ≤ (s.size : Int) := by omega
    have hb : nameB s = false := by unfold nameB; simp; omega
    have HB := Lib.hid hb
    clear hb
    go_enter Try.func71, Try.ntmps71
    go_wp2_with fail
    go_ret
    exact ⟨by rw [HB.out]; rfl, rfl⟩

set_option maxHeartbeats 1000000 in
set_option maxRecDepth 100000 in
theorem tags_any (a : Option Addr) (n c : Nat) (ss : List ByteArray) (w : World) (h : SsAt w a n c ss) (hs : ∀ s ∈ ss, s.size ≤ 9223372036854775807) :
    Calls Try.prog 72 #[.slice a n c] w fun e w' => e = .returned (.bool (tagsB ss)) ∧ w' = w := by
  have hlen := h.len
  have hsm := h.small
  have H := Lib.hid h
  have Hlen := Lib.hid hlen
  have Hs := Lib.hid (show ∀ i, (ss.getD i ByteArray.empty).size ≤ 9223372036854775807 by
    intro i
    by_cases hi : i < ss.length
    · rw [List.getD_eq_getElem?_getD, List.getElem?_eq_getElem hi]
      exact hs _ (List.getElem_mem hi)
    · rw [List.getD_eq_getElem?_getD, List.getElem?_eq_none (by omega)]
      decide)
  clear h hlen hs
  go_enter Try.func72, Try.ntmps72
  go_wp2
  go_loopw [7] (fun i wr => ∃ k : Nat, k ≤ n ∧ i = .int .i64 (k : Int) ∧ tagsN ss k = true ∧ wr = w) (fun i _ => n - (intOf i).toNat)
  case atStart => exact ⟨0, Nat.zero_le _, rfl, rfl, rfl⟩
  case round =>
    obtain ⟨k, hk, rfl, hok, rfl⟩ := hrel
    by_cases hlt : k < n
    · obtain ⟨b, off, rfl, hc⟩ := H.out.at_ (by omega)
      have hck := hc k hlt
      have ht := tagsN_succ ss k
      rw [hok, Bool.true_and] at ht
      have HT := Lib.hid ht
      have HC := Lib.hid hc
      have HBad := Lib.hid (show tagOk ss k = false → tagsB ss = false from fun hb => by unfold tagsB; rw [tagsN_bad ss k ss.length (by have := Hlen.out; omega) hb]; rfl)
      have hok' : tagOk ss k = (nameB (ss.getD k ByteArray.empty) && (decide (k = 0) || lessS (ss.getD (k - 1) ByteArray.empty) (ss.getD k ByteArray.empty))) := rfl
      have HOk := Lib.hid hok'
      obtain ⟨S, hS⟩ : ∃ S, ss.getD k ByteArray.empty = S := ⟨_, rfl⟩
      rw [hS] at hck HOk
      have HN := Lib.hid (name_any S wr (by rw [← hS]; exact Hs.out k))
      clear hc ht hok hok' hS
      cases hnm : nameB S with
      | false =>
        have hb := HBad.out (by rw [HOk.out, hnm]; rfl)
        rw [hnm] at HN
        have HB := Lib.hid hb
        have x1 : (k : Int) < (n : Int) := by omega
        clear hb hnm
        go_wp2_with fail
        refine HN.out.mono ?_
        rintro e w2 ⟨rfl, rfl⟩
        go_wp2
        go_ret
        exact ⟨by rw [HB.out]; rfl, rfl⟩
      | true =>
        rw [hnm] at HN
        have HOk2 := HOk.out
        rw [hnm, Bool.true_and] at HOk2
        have HOk2 := Lib.hid HOk2
        clear hnm
        by_cases hk0 : k = 0
        · subst hk0
          rw [Nat.add_zero] at hck
          have x1 : (0 : Int) < (n : Int) := by omega
          go_wp2_with fail
          refine HN.out.mono ?_
          rintro e w2 ⟨rfl, rfl⟩
          go_wp2
          go_roundw
          case rel => exact ⟨1, by omega, rfl, by rw [HT.out, HOk2.out]; rfl, by first | rfl | trivial⟩
          case measure => simp [intOf]; omega
        · obtain ⟨j, rfl⟩ : ∃ j, k = j + 1 := ⟨k - 1, by omega⟩
          have x1 : (j : Int) + 1 < (n : Int) := by omega
          have x2 : (0 : Int) < (j : Int) + 1 := by omega
          have x3 : (j : Int) < (n : Int) := by omega
          have hcj := HC.out j (by omega)
          have hok3 := HOk2.out
          simp only [Nat.add_sub_cancel, Nat.add_eq_zero_iff, Nat.succ_ne_self, and_false, decide_false, Bool.false_or] at hok3
          obtain ⟨S', hS'⟩ : ∃ S', ss.getD j ByteArray.empty = S' := ⟨_, rfl⟩
          rw [hS'] at hcj hok3
          have HOk3 := Lib.hid hok3
          clear hok3 hS' hk0
          cases hl : lessS S' S with
          | false =>
            have hb := HBad.out (by rw [HOk3.out]; exact hl)
            have HB := Lib.hid hb
            have hl2 : Op.bytesLess S'.toList S.toList = false := hl
            clear hb hl
            go_wp2_with fail
            refine HN.out.mono ?_
            rintro e w2 ⟨rfl, rfl⟩
            go_wp2
            go_ret
            exact ⟨by rw [HB.out]; rfl, rfl⟩
          | true =>
            have hl2 : Op.bytesLess S'.toList S.toList = true := hl
            have ht2 : tagsN ss (j + 1 + 1) = true := by rw [HT.out, HOk3.out]; exact hl
            have HT2 := Lib.hid ht2
            clear hl ht2
            go_wp2_with fail
            refine HN.out.mono ?_
            rintro e w2 ⟨rfl, rfl⟩
            go_wp2
            go_roundw
            case rel => exact ⟨j + 1 + 1, by omega, by go_num, HT2.out, by first | rfl | trivial⟩
            case measure => simp [intOf]; omega
    · obtain rfl : k = n := by omega
      have hb : tagsB ss = decide ((k : Int) ≤ 8) := by
        unfold tagsB
        rw [Hlen.out, hok, Bool.true_and]
        by_cases h : k ≤ 8 <;> simp [h] <;> omega
      have HB := Lib.hid hb
      have x1 : ¬ (k : Int) < (k : Int) := by omega
      clear hb hok
      go_wp2
      go_ret
      exact ⟨by rw [HB.out]; rfl, rfl⟩

end Go.Proofs.Ytldaligeckjhaaa
