/-
  A change of an item: what is formed; the walks of entry.name, tags, FormedChange. No conditions.
  The walk of entry.FormedChange. No conditions.
-/
import Derived.Test.YtldaligeckjhaaaBys
import Derived.Test.YtldaligeckjhaaaTagP
import Derived.WalkLawsBesides
namespace Go.Proofs.Ytldaligeckjhaaa
open Go.ChangeAt Go.ChangeShapes Go.RowKit Go.WideShapes

/-- A slice of strings. -/
structure SsAt (w : World) (a : Option Addr) (n c : Nat) (ss : List ByteArray) : Prop where
  len : ss.length = n
  cap : n ≤ c
  lim : c ≤ 9223372036854775807
  small : n ≤ 140737488355328
  at_ : 0 < n → ∃ b off, a = some ⟨b, off, none⟩ ∧ ∀ i, i < n → w.cell? ⟨b, off + i, none⟩ = some (.string (ss.getD i ByteArray.empty))

theorem SsAt.ext {w w' : World} {a : Option Addr} {n c : Nat} {ss : List ByteArray} (h : SsAt w a n c ss) (he : Ext w w') : SsAt w' a n c ss := by
  refine ⟨h.len, h.cap, h.lim, h.small, fun hn => ?_⟩
  obtain ⟨b, off, ha, hc⟩ := h.at_ hn
  refine ⟨b, off, ha, fun i hi => ?_⟩
  have h1 := hc i hi
  rw [Ext.cell he (World.block_lt_of_cell? w _ h1)]
  exact h1

theorem ss_none (w : World) : SsAt w none 0 0 [] := ⟨rfl, Nat.le_refl _, by omega, by omega, fun h => by omega⟩

set_option maxRecDepth 100000 in
theorem name_any (s : ByteArray) (w : World) (hs : s.size ≤ 9223372036854775807) : Calls Try.prog 71 #[.string s] w fun e w' => e = .returned (.bool (nameB s)) ∧ w' = w := by
  by_cases h1 : 1 ≤ s.size
  · have x1 : (1 : Int) ≤ (s.size : Int) := by omega
    have hb : nameB s = decide ((s.size : Int) ≤ 24) := by unfold nameB; by_cases h : s.size ≤ 24 <;> simp [h, h1] <;> omega
    have HB := Lib.hid hb
    clear hb
    go_enter Try.func71, Try.ntmps71
    go_wp2_with fail
    go_ret
    exact ⟨by rw [HB.out]; rfl, rfl⟩
  · have x1 : ¬ (1 : Int) ≤ (s.size : Int) := by omega
    have hb : nameB s = false := by unfold nameB; simp; omega
    have HB := Lib.hid hb
    clear hb
    go_enter Try.func71, Try.ntmps71
    go_wp2_with fail
    go_ret
    exact ⟨by rw [HB.out]; rfl, rfl⟩

set_option maxHeartbeats 1000000 in
set_option maxRecDepth 100000 in
theorem tags_any (a : Option Addr) (n c : Nat) (ss : List ByteArray) (w : World) (h : SsAt w a n c ss) (hs : ∀ s ∈ ss, s.size ≤ 9223372036854775807) :
    Calls Try.prog 72 #[.slice a n c] w fun e w' => e = .returned (.bool (tagsB ss)) ∧ w' = w := by
  have hlen := h.len
  have hsm := h.small
  have H := Lib.hid h
  have Hlen := Lib.hid hlen
  have Hs := Lib.hid (show ∀ i, (ss.getD i ByteArray.empty).size ≤ 9223372036854775807 by
    intro i
    by_cases hi : i < ss.length
    · rw [List.getD_eq_getElem?_getD, List.getElem?_eq_getElem hi]
      exact hs _ (List.getElem_mem hi)
    · rw [List.getD_eq_getElem?_getD, List.getElem?_eq_none (by omega)]
      decide)
  clear h hlen hs
  go_enter Try.func72, Try.ntmps72
  go_wp2
  go_loopw [7] (fun i wr => ∃ k : Nat, k ≤ n ∧ i = .int .i64 (k : Int) ∧ tagsN ss k = true ∧ wr = w) (fun i _ => n - (intOf i).toNat)
  case atStart => exact ⟨0, Nat.zero_le _, rfl, rfl, rfl⟩
  case round =>
    obtain ⟨k, hk, rfl, hok, rfl⟩ := hrel
    by_cases hlt : k < n
    · obtain ⟨b, off, rfl, hc⟩ := H.out.at_ (by omega)
      have hck := hc k hlt
      have ht := tagsN_succ ss k
      rw [hok, Bool.true_and] at ht
      have HT := Lib.hid ht
      have HC := Lib.hid hc
      have HBad := Lib.hid (show tagOk ss k = false → tagsB ss = false from fun hb => by unfold tagsB; rw [tagsN_bad ss k ss.length (by have := Hlen.out; omega) hb]; rfl)
      have hok' : tagOk ss k = (nameB (ss.getD k ByteArray.empty) && (decide (k = 0) || lessS (ss.getD (k - 1) ByteArray.empty) (ss.getD k ByteArray.empty))) := rfl
      have HOk := Lib.hid hok'
      obtain ⟨S, hS⟩ : ∃ S, ss.getD k ByteArray.empty = S := ⟨_, rfl⟩
      rw [hS] at hck HOk
      have HN := Lib.hid (name_any S wr (by rw [← hS]; exact Hs.out k))
      clear hc ht hok hok' hS
      cases hnm : nameB S with
      | false =>
        have hb := HBad.out (by rw [HOk.out, hnm]; rfl)
        rw [hnm] at HN
        have HB := Lib.hid hb
        have x1 : (k : Int) < (n : Int) := by omega
        clear hb hnm
        go_wp2_with fail
        refine HN.out.mono ?_
        rintro e w2 ⟨rfl, rfl⟩
        go_wp2
        go_ret
        exact ⟨by rw [HB.out]; rfl, rfl⟩
      | true =>
        rw [hnm] at HN
        have HOk2 := HOk.out
        rw [hnm, Bool.true_and] at HOk2
        have HOk2 := Lib.hid HOk2
        clear hnm
        by_cases hk0 : k = 0
        · subst hk0
          rw [Nat.add_zero] at hck
          have x1 : (0 : Int) < (n : Int) := by omega
          go_wp2_with fail
          refine HN.out.mono ?_
          rintro e w2 ⟨rfl, rfl⟩
          go_wp2
          go_roundw
          case rel => exact ⟨1, by omega, rfl, by rw [HT.out, HOk2.out]; rfl, by first | rfl | trivial⟩
          case measure => simp [intOf]; omega
        · obtain ⟨j, rfl⟩ : ∃ j, k = j + 1 := ⟨k - 1, by omega⟩
          have x1 : (j : Int) + 1 < (n : Int) := by omega
          have x2 : (0 : Int) < (j : Int) + 1 := by omega
          have x3 : (j : Int) < (n : Int) := by omega
          have hcj := HC.out j (by omega)
          have hok3 := HOk2.out
          simp only [Nat.add_sub_cancel, Nat.add_eq_zero_iff, Nat.succ_ne_self, and_false, decide_false, Bool.false_or] at hok3
          obtain ⟨S', hS'⟩ : ∃ S', ss.getD j ByteArray.empty = S' := ⟨_, rfl⟩
          rw [hS'] at hcj hok3
          have HOk3 := Lib.hid hok3
          clear hok3 hS' hk0
          cases hl : lessS S' S with
          | false =>
            have hb := HBad.out (by rw [HOk3.out]; exact hl)
            have HB := Lib.hid hb
            have hl2 : Op.bytesLess S'.toList S.toList = false := hl
            clear hb hl
            go_wp2_with fail
            refine HN.out.mono ?_
            rintro e w2 ⟨rfl, rfl⟩
            go_wp2
            go_ret
            exact ⟨by rw [HB.out]; rfl, rfl⟩
          | true =>
            have hl2 : Op.bytesLess S'.toList S.toList = true := hl
            have ht2 : tagsN ss (j + 1 + 1) = true := by rw [HT.out, HOk3.out]; exact hl
            have HT2 := Lib.hid ht2
            clear hl ht2
            go_wp2_with fail
            refine HN.out.mono ?_
            rintro e w2 ⟨rfl, rfl⟩
            go_wp2
            go_roundw
            case rel => exact ⟨j + 1 + 1, by omega, by go_num, HT2.out, by first | rfl | trivial⟩
            case measure => simp [intOf]; omega
    · obtain rfl : k = n := by omega
      have hb : tagsB ss = decide ((k : Int) ≤ 8) := by
        unfold tagsB
        rw [Hlen.out, hok, Bool.true_and]
        by_cases h : k ≤ 8 <;> simp [h] <;> omega
      have HB := Lib.hid hb
      have x1 : ¬ (k : Int) < (k : Int) := by omega
      clear hb hok
      go_wp2
      go_ret
      exact ⟨by rw [HB.out]; rfl, rfl⟩

/-- A change's cells. -/
def chV (op : Int) (name : ByteArray) (tags : Value) (value : ByteArray) : Array Value := #[.int .i64 op, .string name, tags, .string value]
/-- Whether a change is formed. -/
def changeB (op : Int) (name : ByteArray) (ss : List ByteArray) (value : ByteArray) : Bool :=
  nameB name && tagsB ss && decide (value.size ≤ 512) && (if op = 2 then decide (ss.length = 0 ∧ value.size = 0) else if op = 3 then decide (value.size = 0) else decide (op = 1))

theorem ch_cell {w : World} {g : Nat} {op : Int} {name : ByteArray} {tags : Value} {value : ByteArray} {fr : Nat × Nat} (h : w.heap[g]? = some (.cells (chV op name tags value) 34 fr)) :
    w.cell? ⟨g, 0, none⟩ = some (.int .i64 op) ∧ w.cell? ⟨g, 1, none⟩ = some (.string name) ∧ w.cell? ⟨g, 2, none⟩ = some tags ∧ w.cell? ⟨g, 3, none⟩ = some (.string value) := by
  unfold World.cell?
  simp only [h]
  exact ⟨rfl, rfl, rfl, rfl⟩

set_option maxHeartbeats 2000000 in
set_option maxRecDepth 100000 in
theorem formedCh_any (op : Int) (name : ByteArray) (ta : Option Addr) (tn tc : Nat) (ss : List ByteArray) (value : ByteArray) (w : World) (h : SsAt w ta tn tc ss) (hn : name.size ≤ 9223372036854775807) (hv : value.size ≤ 9223372036854775807) (hs : ∀ s ∈ ss, s.size ≤ 9223372036854775807) :
    Calls Try.prog 40 #[.agg (chV op name (.slice ta tn tc) value)] w fun e w' => e = .returned (.bool (changeB op name ss value)) ∧ Ext w w' := by
  obtain ⟨w2, hw2⟩ : ∃ w2, w.alloc (.cells (chV op name (.slice ta tn tc) value) 34) = w2 := ⟨_, rfl⟩
  have hE2 : Ext w w2 := by rw [← hw2]; exact (Ext.refl w).alloc _
  have hB2 : w2.heap[w.heap.size]? = some (.cells (chV op name (.slice ta tn tc) value) 34 (0, 0)) := by rw [← hw2]; exact heap_new w _ _ rfl
  have HN := Lib.hid (name_any name w2 hn)
  have HT := Lib.hid (tags_any ta tn tc ss w2 (h.ext hE2) hs)
  have Hw2 := Lib.hid hw2
  have HE2 := Lib.hid hE2
  have Hl := Lib.hid h.len
  have hsm := h.small
  obtain ⟨g, hg⟩ : ∃ g, w.heap.size = g := ⟨_, rfl⟩
  rw [hg] at hB2
  obtain ⟨c0, c1, c2, c3⟩ := ch_cell hB2
  have Hg := Lib.hid hg
  have HB := Lib.hid (show changeB op name ss value = (nameB name && tagsB ss && decide (value.size ≤ 512) && (if op = 2 then decide (tn = 0 ∧ value.size = 0) else if op = 3 then decide (value.size = 0) else decide (op = 1))) by unfold changeB; rw [h.len])
  clear hw2 hE2 hB2 hg h hs
  obtain ⟨R, hR⟩ : ∃ R, changeB op name ss value = R := ⟨_, rfl⟩
  rw [hR] at HB ⊢
  clear hR
  cases hnm : nameB name with
  | false =>
    rw [hnm] at HN HB
    clear hnm
    have hR : R = false := by rw [HB.out]; first | rfl | (simp; done) | (simp; omega) | (simp [*]; done) | (simp [*]; omega)
    have HR := Lib.hid hR
    clear hR HB
    go_enter Try.func40, Try.ntmps40
    go_upto_region 1 with (fail)
    refine wp_world (w' := w2) Hw2.out ?_
    rw [Hg.out]
    clear Hw2
    go_wp2_with fail
    refine HN.out.mono ?_
    rintro e w3 ⟨rfl, rfl⟩
    go_wp2
    go_ret
    exact ⟨by rw [HR.out]; first | rfl | (show Ending.returned (Value.bool (op == 1)) = _; rw [XO.out]), HE2.out⟩
  | true =>
    rw [hnm] at HN HB
    clear hnm
    cases htg : tagsB ss with
    | false =>
      rw [htg] at HT HB
      clear htg
      have hR : R = false := by rw [HB.out]; first | rfl | (simp; done) | (simp; omega) | (simp [*]; done) | (simp [*]; omega)
      have HR := Lib.hid hR
      clear hR HB
      go_enter Try.func40, Try.ntmps40
      go_upto_region 1 with (fail)
      refine wp_world (w' := w2) Hw2.out ?_
      rw [Hg.out]
      clear Hw2
      go_wp2_with fail
      refine HN.out.mono ?_
      rintro e w3 ⟨rfl, rfl⟩
      go_wp2_with fail
      refine HT.out.mono ?_
      rintro e w3 ⟨rfl, rfl⟩
      go_wp2
      go_ret
      exact ⟨by rw [HR.out]; first | rfl | (show Ending.returned (Value.bool (op == 1)) = _; rw [XO.out]), HE2.out⟩
    | true =>
      rw [htg] at HT HB
      clear htg
      by_cases hv5 : value.size ≤ 512
      · have xv : ¬ 512 < (value.size : Int) := by omega
        rw [decide_eq_true hv5] at HB
        by_cases h2 : op = 2
        · subst h2
          rw [if_pos rfl] at HB
          by_cases ht0 : tn = 0
          · subst ht0
            by_cases hv0 : value.size = 0
            · have hve := ba_empty hv0
              subst hve
              have hR : R = true := by rw [HB.out]; first | rfl | (simp; done) | (simp; omega) | (simp [*]; done) | (simp [*]; omega)
              have HR := Lib.hid hR
              clear hR HB
              go_enter Try.func40, Try.ntmps40
              go_upto_region 1 with (fail)
              refine wp_world (w' := w2) Hw2.out ?_
              rw [Hg.out]
              clear Hw2
              go_wp2_with fail
              refine HN.out.mono ?_
              rintro e w3 ⟨rfl, rfl⟩
              go_wp2_with fail
              refine HT.out.mono ?_
              rintro e w3 ⟨rfl, rfl⟩
              go_wp2
              go_ret
              exact ⟨by rw [HR.out]; first | rfl | (show Ending.returned (Value.bool (op == 1)) = _; rw [XO.out]), HE2.out⟩
            · obtain ⟨xe1, xe2⟩ := ba_not hv0
              have hR : R = false := by rw [HB.out]; first | rfl | (simp; done) | (simp; omega) | (simp [*]; done) | (simp [*]; omega)
              have HR := Lib.hid hR
              clear hR HB
              go_enter Try.func40, Try.ntmps40
              go_upto_region 1 with (fail)
              refine wp_world (w' := w2) Hw2.out ?_
              rw [Hg.out]
              clear Hw2
              go_wp2_with fail
              refine HN.out.mono ?_
              rintro e w3 ⟨rfl, rfl⟩
              go_wp2_with fail
              refine HT.out.mono ?_
              rintro e w3 ⟨rfl, rfl⟩
              go_wp2
              go_ret
              exact ⟨by rw [HR.out]; first | rfl | (show Ending.returned (Value.bool (op == 1)) = _; rw [XO.out]), HE2.out⟩
          · have xt : 0 < (tn : Int) := by omega
            have hR : R = false := by rw [HB.out]; first | rfl | (simp; done) | (simp; omega) | (simp [*]; done) | (simp [*]; omega)
            have HR := Lib.hid hR
            clear hR HB
            go_enter Try.func40, Try.ntmps40
            go_upto_region 1 with (fail)
            refine wp_world (w' := w2) Hw2.out ?_
            rw [Hg.out]
            clear Hw2
            go_wp2_with fail
            refine HN.out.mono ?_
            rintro e w3 ⟨rfl, rfl⟩
            go_wp2_with fail
            refine HT.out.mono ?_
            rintro e w3 ⟨rfl, rfl⟩
            go_wp2
            go_ret
            exact ⟨by rw [HR.out]; first | rfl | (show Ending.returned (Value.bool (op == 1)) = _; rw [XO.out]), HE2.out⟩
        · rw [if_neg h2] at HB
          by_cases h3 : op = 3
          · subst h3
            rw [if_pos rfl] at HB
            by_cases hv0 : value.size = 0
            · have hve := ba_empty hv0
              subst hve
              have hR : R = true := by rw [HB.out]; first | rfl | (simp; done) | (simp; omega) | (simp [*]; done) | (simp [*]; omega)
              have HR := Lib.hid hR
              clear hR HB
              go_enter Try.func40, Try.ntmps40
              go_upto_region 1 with (fail)
              refine wp_world (w' := w2) Hw2.out ?_
              rw [Hg.out]
              clear Hw2
              go_wp2_with fail
              refine HN.out.mono ?_
              rintro e w3 ⟨rfl, rfl⟩
              go_wp2_with fail
              refine HT.out.mono ?_
              rintro e w3 ⟨rfl, rfl⟩
              go_wp2
              go_ret
              exact ⟨by rw [HR.out]; first | rfl | (show Ending.returned (Value.bool (op == 1)) = _; rw [XO.out]), HE2.out⟩
            · obtain ⟨xe1, xe2⟩ := ba_not hv0
              have hR : R = false := by rw [HB.out]; first | rfl | (simp; done) | (simp; omega) | (simp [*]; done) | (simp [*]; omega)
              have HR := Lib.hid hR
              clear hR HB
              go_enter Try.func40, Try.ntmps40
              go_upto_region 1 with (fail)
              refine wp_world (w' := w2) Hw2.out ?_
              rw [Hg.out]
              clear Hw2
              go_wp2_with fail
              refine HN.out.mono ?_
              rintro e w3 ⟨rfl, rfl⟩
              go_wp2_with fail
              refine HT.out.mono ?_
              rintro e w3 ⟨rfl, rfl⟩
              go_wp2
              go_ret
              exact ⟨by rw [HR.out]; first | rfl | (show Ending.returned (Value.bool (op == 1)) = _; rw [XO.out]), HE2.out⟩
          · rw [if_neg h3] at HB
            by_cases h1 : op = 1
            · subst h1
              have hR : R = true := by rw [HB.out]; first | rfl | (simp; done) | (simp; omega) | (simp [*]; done) | (simp [*]; omega)
              have HR := Lib.hid hR
              clear hR HB
              go_enter Try.func40, Try.ntmps40
              go_upto_region 1 with (fail)
              refine wp_world (w' := w2) Hw2.out ?_
              rw [Hg.out]
              clear Hw2
              go_wp2_with fail
              refine HN.out.mono ?_
              rintro e w3 ⟨rfl, rfl⟩
              go_wp2_with fail
              refine HT.out.mono ?_
              rintro e w3 ⟨rfl, rfl⟩
              go_wp2
              go_ret
              exact ⟨by rw [HR.out]; first | rfl | (show Ending.returned (Value.bool (op == 1)) = _; rw [XO.out]), HE2.out⟩
            · have XO := Lib.hid (show (op == 1) = false by simpa using h1)
              have hR : R = false := by rw [HB.out]; first | rfl | (simp; done) | (simp; omega) | (simp [*]; done) | (simp [*]; omega)
              have HR := Lib.hid hR
              clear hR HB
              go_enter Try.func40, Try.ntmps40
              go_upto_region 1 with (fail)
              refine wp_world (w' := w2) Hw2.out ?_
              rw [Hg.out]
              clear Hw2
              go_wp2_with fail
              refine HN.out.mono ?_
              rintro e w3 ⟨rfl, rfl⟩
              go_wp2_with fail
              refine HT.out.mono ?_
              rintro e w3 ⟨rfl, rfl⟩
              go_wp2
              go_ret
              exact ⟨by rw [HR.out]; first | rfl | (show Ending.returned (Value.bool (op == 1)) = _; rw [XO.out]), HE2.out⟩
      · have xv : 512 < (value.size : Int) := by omega
        rw [decide_eq_false hv5] at HB
        have hR : R = false := by rw [HB.out]; first | rfl | (simp; done) | (simp; omega) | (simp [*]; done) | (simp [*]; omega)
        have HR := Lib.hid hR
        clear hR HB
        go_enter Try.func40, Try.ntmps40
        go_upto_region 1 with (fail)
        refine wp_world (w' := w2) Hw2.out ?_
        rw [Hg.out]
        clear Hw2
        go_wp2_with fail
        refine HN.out.mono ?_
        rintro e w3 ⟨rfl, rfl⟩
        go_wp2_with fail
        refine HT.out.mono ?_
        rintro e w3 ⟨rfl, rfl⟩
        go_wp2
        go_ret
        exact ⟨by rw [HR.out]; first | rfl | (show Ending.returned (Value.bool (op == 1)) = _; rw [XO.out]), HE2.out⟩

end Go.Proofs.Ytldaligeckjhaaa
