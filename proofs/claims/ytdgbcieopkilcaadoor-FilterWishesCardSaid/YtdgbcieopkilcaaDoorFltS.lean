/-
  Names and rising tags, in plain words. No conditions.
  A filter by value; the walks of filter.Formed and of reference 19's Formed. No conditions.
  The walks of filter.FormedWish, filter.Meets, reference 19's Meets, and few of law 19. No conditions.
  The walks of slices.Index, Contains, IndexFunc, ContainsFunc of strings, and of filter.Shows. No conditions.
-/
import Derived.Test.YtdgbcieopkilcaaDoorBase
import Derived.Test.YtdgbcieopkilcaaDoorTks
import Derived.WalkLawsBesides
import Derived.BigQuiet
import Derived.Test.YtdgbcieopkilcaaDoorHdA
import Derived.Test.YtdgbcieopkilcaaDoorMeet
namespace Go.Proofs.YtdgbcieopkilcaaDoor
open Go.ChangeAt Go.ChangeShapes Go.RowKit Go.WideShapes

def lessS (a b : ByteArray) : Bool := Op.bytesLess a.toList b.toList
def nameB (s : ByteArray) : Bool := decide (1 ≤ s.size ∧ s.size ≤ 24)
def tagOk (ss : List ByteArray) (i : Nat) : Bool := nameB (ss.getD i ByteArray.empty) && (decide (i = 0) || lessS (ss.getD (i - 1) ByteArray.empty) (ss.getD i ByteArray.empty))
def tagsN (ss : List ByteArray) (k : Nat) : Bool := (List.range k).all (tagOk ss)
theorem tagsN_succ (ss : List ByteArray) (k : Nat) : tagsN ss (k + 1) = (tagsN ss k && tagOk ss k) := by
  unfold tagsN
  rw [List.range_succ, List.all_append]
  simp
theorem tagsN_bad (ss : List ByteArray) (k n : Nat) (hk : k < n) (h : tagOk ss k = false) : tagsN ss n = false := by
  unfold tagsN
  rw [List.all_eq_false]
  exact ⟨k, List.mem_range.2 hk, by simp [h]⟩
def tagsB (ss : List ByteArray) : Bool := tagsN ss ss.length && decide (ss.length ≤ 8)

theorem ba_empty {s : ByteArray} (h : s.size = 0) : s = ⟨#[]⟩ := by
  obtain ⟨d⟩ := s
  congr 1
  exact Array.eq_empty_of_size_eq_zero h
theorem ba_not {s : ByteArray} (h : ¬ s.size = 0) : s.toList.isEmpty = false ∧ ¬ s.toList = [] := by
  have h1 : s.toList.length = s.size := by rw [ByteArray.toList_eq, Array.length_toList]; rfl
  have h2 : ¬ s.toList = [] := fun e => by rw [e] at h1; simp at h1; omega
  exact ⟨by simpa using h2, h2⟩
theorem less_total : ∀ a b : List UInt8, (Op.bytesLess a b || a == b) = !(Op.bytesLess b a)
  | [], [] => rfl
  | [], _ :: _ => rfl
  | _ :: _, [] => rfl
  | x :: a, y :: b => by
    have ih := less_total a b
    simp only [Op.bytesLess]
    by_cases h : x < y
    · have h1 : ¬ y < x := by simp only [UInt8.lt_iff_toNat_lt] at *; omega
      have h2 : ¬ y = x := fun e => by subst e; exact h1 h
      simp [h, h1, h2]
    · by_cases h1 : y < x
      · have h2 : ¬ x = y := fun e => by subst e; exact h h1
        simp [h, h1, h2]
      · have h2 : x = y := by
          apply UInt8.toNat_inj.1
          simp only [UInt8.lt_iff_toNat_lt] at *
          omega
        subst h2
        simp only [h, decide_false, beq_self_eq_true, Bool.true_and, Bool.false_or]
        rw [← ih]
        simp

/-- A filter's cells. -/
def fltV (al : Bool) (v : Value) : Array Value := #[.bool al, v]
theorem flt_cell {w : World} {g : Nat} {al : Bool} {v : Value} {T : TypeId} {fr : Nat × Nat} (h : w.heap[g]? = some (.cells (fltV al v) T fr)) : w.cell? ⟨g, 0, none⟩ = some (.bool al) ∧ w.cell? ⟨g, 1, none⟩ = some v := by
  unfold World.cell?
  simp only [h]
  exact ⟨rfl, rfl⟩
/-- Whether a filter is formed. -/
def flB (al : Bool) (ss : List ByteArray) : Bool := tagsN ss ss.length && decide (ss.length ≤ 8) && !(al && decide (0 < ss.length))
theorem flB_bad {al : Bool} {ss : List ByteArray} {k : Nat} (hk : k < ss.length) (h : tagOk ss k = false) : flB al ss = false := by
  unfold flB
  rw [tagsN_bad ss k ss.length hk h]
  rfl
theorem flB_end {al : Bool} {ss : List ByteArray} {n : Nat} (hl : ss.length = n) (h : tagsN ss n = true) : flB al ss = (decide (n ≤ 8) && !(al && decide (0 < n))) := by
  unfold flB
  rw [hl, h, Bool.true_and]

set_option maxHeartbeats 2000000 in
set_option maxRecDepth 100000 in
theorem fltFormed_any (al : Bool) (a : Option Addr) (n c : Nat) (ss : List ByteArray) (w : World) (h : SrAt w a n c ss) :
    Calls Tryd.prog 20 #[.agg (fltV al (.slice a n c))] w fun e w' => e = .returned (.bool (flB al ss)) ∧ Ext w w' := by
  obtain ⟨w2, hw2⟩ : ∃ w2, w.alloc (.cells (fltV al (.slice a n c)) 44) = w2 := ⟨_, rfl⟩
  have hE2 : Ext w w2 := by rw [← hw2]; exact (Ext.refl w).alloc _
  have hB2 : w2.heap[w.heap.size]? = some (.cells (fltV al (.slice a n c)) 44 (0, 0)) := by rw [← hw2]; exact heap_new w _ _ rfl
  have hlen := h.len
  have hcap := h.cap
  have hlim := h.lim
  have H := Lib.hid (h.ext hE2)
  have Hs := Lib.hid (show ∀ i, i < n → (ss.getD i ⟨#[]⟩).size ≤ 140737488351232 from fun i hi => h.size _ (h.get hi))
  have Hlen := Lib.hid hlen
  have Hw2 := Lib.hid hw2
  have HE2 := Lib.hid hE2
  obtain ⟨g, hg⟩ : ∃ g, w.heap.size = g := ⟨_, rfl⟩
  rw [hg] at hB2
  have HCl := Lib.hid (show ∀ x, Ext w2 x → x.cell? ⟨g, 0, none⟩ = some (.bool al) ∧ x.cell? ⟨g, 1, none⟩ = some (.slice a n c) from fun x hx => flt_cell (hx.keep hB2))
  obtain ⟨c0, c1⟩ := flt_cell hB2
  have Hg := Lib.hid hg
  clear hw2 hE2 hB2 hg h hlen
  go_enter Tryd.func20, Tryd.ntmps20
  go_upto_region 1 with (fail)
  refine wp_world (w' := w2) Hw2.out ?_
  rw [Hg.out]
  clear Hw2 Hg
  go_wp2
  go_loopw [8] (fun i wr => ∃ k : Nat, k ≤ n ∧ i = .int .i64 (k : Int) ∧ tagsN ss k = true ∧ Ext w2 wr) (fun i _ => n - (intOf i).toNat)
  case atStart => exact ⟨0, Nat.zero_le _, rfl, rfl, Ext.refl _⟩
  case round =>
    obtain ⟨k, hk, rfl, hok, hEr⟩ := hrel
    rename World => wr
    have HEr := Lib.hid hEr
    obtain ⟨c0, c1⟩ := HCl.out wr hEr
    clear hEr
    by_cases hlt : k < n
    · obtain ⟨b, off, rfl, hc⟩ := (H.out.ext HEr.out).at_ (by omega)
      have hck := hc k hlt
      have ht := tagsN_succ ss k
      rw [hok, Bool.true_and] at ht
      have HT := Lib.hid ht
      have HC := Lib.hid hc
      have HBad := Lib.hid (show tagOk ss k = false → flB al ss = false from fun hb => flB_bad (by have := Hlen.out; omega) hb)
      have HOk := Lib.hid (show tagOk ss k = (nameB (ss.getD k ⟨#[]⟩) && (decide (k = 0) || lessS (ss.getD (k - 1) ⟨#[]⟩) (ss.getD k ⟨#[]⟩))) from rfl)
      have hsz := Hs.out k hlt
      obtain ⟨S, hS⟩ : ∃ S, ss.getD k ⟨#[]⟩ = S := ⟨_, rfl⟩
      rw [hS] at hck HOk hsz
      have x1 : (k : Int) < (n : Int) := by omega
      clear hc ht hok hS
      by_cases h0 : S.size = 0
      · have HB := Lib.hid (HBad.out (by rw [HOk.out]; unfold nameB; rw [decide_eq_false (by omega)]; rfl))
        have hve := ba_empty h0
        subst hve
        clear HOk HBad HT
        have z1 : (0 : Int) < 1 := by omega
        go_wp2
        go_ret
        exact ⟨by rw [HB.out]; rfl, HE2.out.trans (by first | exact HEr.out | exact HEr.out.drewN' _)⟩
      · obtain ⟨xe1, xe2⟩ := ba_not h0
        have y1 : ¬ (S.size : Int) < 1 := by omega
        by_cases h24 : S.size ≤ 24
        · have y2 : ¬ 24 < (S.size : Int) := by omega
          have HOk2 := Lib.hid (show tagOk ss k = (decide (k = 0) || lessS (ss.getD (k - 1) ⟨#[]⟩) S) from by rw [HOk.out]; unfold nameB; rw [decide_eq_true (by omega), Bool.true_and])
          clear HOk
          by_cases hk0 : k = 0
          · subst hk0
            rw [Nat.add_zero] at hck
            have x1 : (0 : Int) < (n : Int) := by omega
            have x5 : ¬ (0 : Int) < 0 := by omega
            go_wp2
            go_roundw
            case rel => exact ⟨1, by omega, rfl, by rw [HT.out, HOk2.out]; rfl, by first | exact HEr.out | exact HEr.out.drewN' _⟩
            case measure => simp [intOf]; omega
          · obtain ⟨j, rfl⟩ : ∃ j, k = j + 1 := ⟨k - 1, by omega⟩
            have x1 : (j : Int) + 1 < (n : Int) := by omega
            have x2 : (0 : Int) < (j : Int) + 1 := by omega
            have x3 : (j : Int) < (n : Int) := by omega
            have hcj := HC.out j (by omega)
            have hok3 := HOk2.out
            simp only [Nat.add_sub_cancel, Nat.add_eq_zero_iff, Nat.succ_ne_self, and_false, decide_false, Bool.false_or] at hok3
            obtain ⟨S', hS'⟩ : ∃ S', ss.getD j ⟨#[]⟩ = S' := ⟨_, rfl⟩
            rw [hS'] at hcj hok3
            have HOk3 := Lib.hid hok3
            clear hok3 hS' hk0
            cases hl : lessS S' S with
            | false =>
              have HB := Lib.hid (HBad.out (by rw [HOk3.out]; exact hl))
              have hl2 : Op.bytesLess S'.toList S.toList = false := hl
              have hle := less_total S.toList S'.toList
              rw [hl2] at hle
              clear hl
              cases q1 : Op.bytesLess S.toList S'.toList with
              | true =>
                clear hle
                go_wp2
                go_ret
                exact ⟨by rw [HB.out]; rfl, HE2.out.trans (by first | exact HEr.out | exact HEr.out.drewN' _)⟩
              | false =>
                rw [q1, Bool.false_or] at hle
                go_wp2
                go_ret
                exact ⟨by rw [HB.out]; rfl, HE2.out.trans (by first | exact HEr.out | exact HEr.out.drewN' _)⟩
            | true =>
              have hl2 : Op.bytesLess S'.toList S.toList = true := hl
              have HT2 := Lib.hid (show tagsN ss (j + 1 + 1) = true by rw [HT.out, HOk3.out]; exact hl)
              have hle := less_total S.toList S'.toList
              rw [hl2] at hle
              obtain ⟨q1, q2⟩ := Bool.or_eq_false_iff.1 hle
              clear hl hle
              go_wp2
              go_roundw
              case rel => exact ⟨j + 1 + 1, by omega, by go_num, HT2.out, by first | exact HEr.out | exact HEr.out.drewN' _⟩
              case measure => simp [intOf]; omega
        · have y2 : 24 < (S.size : Int) := by omega
          have HB := Lib.hid (HBad.out (by rw [HOk.out]; unfold nameB; rw [decide_eq_false (by omega)]; rfl))
          clear HOk HBad HT
          go_wp2
          go_ret
          exact ⟨by rw [HB.out]; rfl, HE2.out.trans (by first | exact HEr.out | exact HEr.out.drewN' _)⟩
    · obtain rfl : k = n := by omega
      have x1 : ¬ (k : Int) < (k : Int) := by omega
      have HB := Lib.hid (flB_end (al := al) Hlen.out hok)
      clear hok
      by_cases h8 : k ≤ 8
      · have x8 : (k : Int) ≤ 8 := by omega
        cases al with
        | false =>
          go_wp2
          go_ret
          exact ⟨by rw [HB.out]; first | rfl | simp [h8], HE2.out.trans (by first | exact HEr.out | exact HEr.out.drewN' _)⟩
        | true =>
          by_cases hk0 : k = 0
          · subst hk0
            go_wp2
            go_ret
            exact ⟨by rw [HB.out]; first | rfl | simp, HE2.out.trans (by first | exact HEr.out | exact HEr.out.drewN' _)⟩
          · have y0 : (0 : Int) < (k : Int) := by omega
            have y3 : ¬ (k : Int) = 0 := by omega
            go_wp2
            go_ret
            exact ⟨by rw [HB.out]; first | rfl | (have h0k : 0 < k := (by omega); simp [h8, h0k]; done) | (have h0k : 0 < k := (by omega); simp [h8, h0k]; omega), HE2.out.trans (by first | exact HEr.out | exact HEr.out.drewN' _)⟩
      · have x8 : ¬ (k : Int) ≤ 8 := by omega
        go_wp2
        go_ret
        exact ⟨by rw [HB.out]; first | rfl | simp [h8], HE2.out.trans (by first | exact HEr.out | exact HEr.out.drewN' _)⟩

set_option maxHeartbeats 2000000 in
set_option maxRecDepth 100000 in
theorem refFlt_any (al : Bool) (a : Option Addr) (n c : Nat) (ss : List ByteArray) (w : World) (h : SrAt w a n c ss) :
    Calls Tryd.prog 19 #[.agg (fltV al (.slice a n c))] w fun e w' => e = .returned (.bool (flB al ss)) ∧ Ext w w' := by
  obtain ⟨w2, hw2⟩ : ∃ w2, w.alloc (.cells (fltV al (.slice a n c)) 44) = w2 := ⟨_, rfl⟩
  have hE2 : Ext w w2 := by rw [← hw2]; exact (Ext.refl w).alloc _
  have hB2 : w2.heap[w.heap.size]? = some (.cells (fltV al (.slice a n c)) 44 (0, 0)) := by rw [← hw2]; exact heap_new w _ _ rfl
  have hlen := h.len
  have hcap := h.cap
  have hlim := h.lim
  have H := Lib.hid (h.ext hE2)
  have Hs := Lib.hid (show ∀ i, i < n → (ss.getD i ⟨#[]⟩).size ≤ 140737488351232 from fun i hi => h.size _ (h.get hi))
  have Hlen := Lib.hid hlen
  have Hw2 := Lib.hid hw2
  have HE2 := Lib.hid hE2
  obtain ⟨g, hg⟩ : ∃ g, w.heap.size = g := ⟨_, rfl⟩
  rw [hg] at hB2
  have HCl := Lib.hid (show ∀ x, Ext w2 x → x.cell? ⟨g, 0, none⟩ = some (.bool al) ∧ x.cell? ⟨g, 1, none⟩ = some (.slice a n c) from fun x hx => flt_cell (hx.keep hB2))
  obtain ⟨c0, c1⟩ := flt_cell hB2
  have Hg := Lib.hid hg
  clear hw2 hE2 hB2 hg h hlen
  go_enter Tryd.func19, Tryd.ntmps19
  go_upto_region 1 with (fail)
  refine wp_world (w' := w2) Hw2.out ?_
  rw [Hg.out]
  clear Hw2 Hg
  go_wp2
  go_loopw [3] (fun i wr => ∃ k : Nat, k ≤ n ∧ i = .int .i64 (k : Int) ∧ tagsN ss k = true ∧ Ext w2 wr) (fun i _ => n - (intOf i).toNat)
  case atStart => exact ⟨0, Nat.zero_le _, rfl, rfl, Ext.refl _⟩
  case round =>
    obtain ⟨k, hk, rfl, hok, hEr⟩ := hrel
    rename World => wr
    have HEr := Lib.hid hEr
    obtain ⟨c0, c1⟩ := HCl.out wr hEr
    clear hEr
    by_cases hlt : k < n
    · obtain ⟨b, off, rfl, hc⟩ := (H.out.ext HEr.out).at_ (by omega)
      have hck := hc k hlt
      have ht := tagsN_succ ss k
      rw [hok, Bool.true_and] at ht
      have HT := Lib.hid ht
      have HC := Lib.hid hc
      have HBad := Lib.hid (show tagOk ss k = false → flB al ss = false from fun hb => flB_bad (by have := Hlen.out; omega) hb)
      have HOk := Lib.hid (show tagOk ss k = (nameB (ss.getD k ⟨#[]⟩) && (decide (k = 0) || lessS (ss.getD (k - 1) ⟨#[]⟩) (ss.getD k ⟨#[]⟩))) from rfl)
      have hsz := Hs.out k hlt
      obtain ⟨S, hS⟩ : ∃ S, ss.getD k ⟨#[]⟩ = S := ⟨_, rfl⟩
      rw [hS] at hck HOk hsz
      have x1 : (k : Int) < (n : Int) := by omega
      clear hc ht hok hS
      by_cases h0 : S.size = 0
      · have HB := Lib.hid (HBad.out (by rw [HOk.out]; unfold nameB; rw [decide_eq_false (by omega)]; rfl))
        have hve := ba_empty h0
        subst hve
        clear HOk HBad HT
        have z1 : (0 : Int) < 1 := by omega
        go_upto_region 5 with (fail)
        go_quiet (fail)
        go_wp2
        go_ret
        exact ⟨by rw [HB.out]; rfl, HE2.out.trans (by first | exact HEr.out | exact HEr.out.drewN' _)⟩
      · obtain ⟨xe1, xe2⟩ := ba_not h0
        have y1 : ¬ (S.size : Int) < 1 := by omega
        by_cases h24 : S.size ≤ 24
        · have y2 : ¬ 24 < (S.size : Int) := by omega
          have HOk2 := Lib.hid (show tagOk ss k = (decide (k = 0) || lessS (ss.getD (k - 1) ⟨#[]⟩) S) from by rw [HOk.out]; unfold nameB; rw [decide_eq_true (by omega), Bool.true_and])
          clear HOk
          by_cases hk0 : k = 0
          · subst hk0
            rw [Nat.add_zero] at hck
            have x1 : (0 : Int) < (n : Int) := by omega
            have x5 : ¬ (0 : Int) < 0 := by omega
            go_upto_region 5 with (fail)
            go_quiet (fail)
            go_wp2
            go_roundw
            case rel => exact ⟨1, by omega, rfl, by rw [HT.out, HOk2.out]; rfl, by first | exact HEr.out | exact HEr.out.drewN' _⟩
            case measure => simp [intOf]; omega
          · obtain ⟨j, rfl⟩ : ∃ j, k = j + 1 := ⟨k - 1, by omega⟩
            have x1 : (j : Int) + 1 < (n : Int) := by omega
            have x2 : (0 : Int) < (j : Int) + 1 := by omega
            have x3 : (j : Int) < (n : Int) := by omega
            have hcj := HC.out j (by omega)
            have hok3 := HOk2.out
            simp only [Nat.add_sub_cancel, Nat.add_eq_zero_iff, Nat.succ_ne_self, and_false, decide_false, Bool.false_or] at hok3
            obtain ⟨S', hS'⟩ : ∃ S', ss.getD j ⟨#[]⟩ = S' := ⟨_, rfl⟩
            rw [hS'] at hcj hok3
            have HOk3 := Lib.hid hok3
            clear hok3 hS' hk0
            cases hl : lessS S' S with
            | false =>
              have HB := Lib.hid (HBad.out (by rw [HOk3.out]; exact hl))
              have hl2 : Op.bytesLess S'.toList S.toList = false := hl
              have hle := less_total S.toList S'.toList
              rw [hl2] at hle
              clear hl
              cases q1 : Op.bytesLess S.toList S'.toList with
              | true =>
                clear hle
                go_upto_region 5 with (fail)
                go_quiet (fail)
                go_wp2
                go_ret
                exact ⟨by rw [HB.out]; rfl, HE2.out.trans (by first | exact HEr.out | exact HEr.out.drewN' _)⟩
              | false =>
                rw [q1, Bool.false_or] at hle
                go_upto_region 5 with (fail)
                go_quiet (fail)
                go_wp2
                go_ret
                exact ⟨by rw [HB.out]; rfl, HE2.out.trans (by first | exact HEr.out | exact HEr.out.drewN' _)⟩
            | true =>
              have hl2 : Op.bytesLess S'.toList S.toList = true := hl
              have HT2 := Lib.hid (show tagsN ss (j + 1 + 1) = true by rw [HT.out, HOk3.out]; exact hl)
              have hle := less_total S.toList S'.toList
              rw [hl2] at hle
              obtain ⟨q1, q2⟩ := Bool.or_eq_false_iff.1 hle
              clear hl hle
              go_upto_region 5 with (fail)
              go_quiet (fail)
              go_wp2
              go_roundw
              case rel => exact ⟨j + 1 + 1, by omega, by go_num, HT2.out, by first | exact HEr.out | exact HEr.out.drewN' _⟩
              case measure => simp [intOf]; omega
        · have y2 : 24 < (S.size : Int) := by omega
          have HB := Lib.hid (HBad.out (by rw [HOk.out]; unfold nameB; rw [decide_eq_false (by omega)]; rfl))
          clear HOk HBad HT
          go_upto_region 5 with (fail)
          go_quiet (fail)
          go_wp2
          go_ret
          exact ⟨by rw [HB.out]; rfl, HE2.out.trans (by first | exact HEr.out | exact HEr.out.drewN' _)⟩
    · obtain rfl : k = n := by omega
      have x1 : ¬ (k : Int) < (k : Int) := by omega
      have HB := Lib.hid (flB_end (al := al) Hlen.out hok)
      clear hok
      by_cases h8 : k ≤ 8
      · have x8 : (k : Int) ≤ 8 := by omega
        cases al with
        | false =>
          go_wp2
          go_ret
          exact ⟨by rw [HB.out]; first | rfl | simp [h8], HE2.out.trans (by first | exact HEr.out | exact HEr.out.drewN' _)⟩
        | true =>
          by_cases hk0 : k = 0
          · subst hk0
            go_wp2
            go_ret
            exact ⟨by rw [HB.out]; first | rfl | simp, HE2.out.trans (by first | exact HEr.out | exact HEr.out.drewN' _)⟩
          · have y0 : (0 : Int) < (k : Int) := by omega
            have y3 : ¬ (k : Int) = 0 := by omega
            go_wp2
            go_ret
            exact ⟨by rw [HB.out]; first | rfl | (have h0k : 0 < k := (by omega); simp [h8, h0k]; done) | (have h0k : 0 < k := (by omega); simp [h8, h0k]; omega), HE2.out.trans (by first | exact HEr.out | exact HEr.out.drewN' _)⟩
      · have x8 : ¬ (k : Int) ≤ 8 := by omega
        go_wp2
        go_ret
        exact ⟨by rw [HB.out]; first | rfl | simp [h8], HE2.out.trans (by first | exact HEr.out | exact HEr.out.drewN' _)⟩

/-- Whether a wish is formed. -/
def fwB (al : Bool) (ts : List (Nat → Int)) : Bool := decide (ts.length ≤ 8) && risesB ts && !(al && decide (0 < ts.length))
set_option maxHeartbeats 2000000 in
set_option maxRecDepth 100000 in
theorem fwish_any (al : Bool) (a : Option Addr) (n c : Nat) (ts : List (Nat → Int)) (w : World) (h : TsAt w a n c ts) :
    Calls Tryd.prog 21 #[.agg (fltV al (.slice a n c))] w fun e w' => e = .returned (.bool (fwB al ts)) ∧ Ext w w' := by
  obtain ⟨w2, hw2⟩ : ∃ w2, w.alloc (.cells (fltV al (.slice a n c)) 51) = w2 := ⟨_, rfl⟩
  have hE2 : Ext w w2 := by rw [← hw2]; exact (Ext.refl w).alloc _
  have hB2 : w2.heap[w.heap.size]? = some (.cells (fltV al (.slice a n c)) 51 (0, 0)) := by rw [← hw2]; exact heap_new w _ _ rfl
  have hlen := h.len
  have HS := Lib.hid (sorted_any a n c ts w2 (h.ext hE2))
  have HC := Lib.hid (show ∀ x, Ext w2 x → x.cell? ⟨w.heap.size, 0, none⟩ = some (.bool al) ∧ x.cell? ⟨w.heap.size, 1, none⟩ = some (.slice a n c) from fun x hx => flt_cell (hx.keep hB2))
  have hcap := h.cap
  have hlim := h.lim
  have Hw2 := Lib.hid hw2
  have HE2 := Lib.hid hE2
  obtain ⟨g, hg⟩ : ∃ g, w.heap.size = g := ⟨_, rfl⟩
  rw [hg] at HC
  have Hg := Lib.hid hg
  have HF := Lib.hid (show fwB al ts = (decide (n ≤ 8) && risesB ts && !(al && decide (0 < n))) by unfold fwB; rw [hlen])
  obtain ⟨R, hR⟩ : ∃ R, fwB al ts = R := ⟨_, rfl⟩
  rw [hR] at HF ⊢
  obtain ⟨c0, c1⟩ := HC.out w2 (Ext.refl _)
  clear hw2 hE2 hB2 hg h hlen hR
  obtain ⟨Z, hZ⟩ : ∃ Z, risesB ts = Z := ⟨_, rfl⟩
  rw [hZ] at HS HF
  clear hZ
  go_enter Tryd.func21, Tryd.ntmps21
  go_upto_region 1 with (fail)
  refine wp_world (w' := w2) Hw2.out ?_
  rw [Hg.out]
  clear Hw2 Hg
  by_cases h8 : n ≤ 8
  · have x8 : (n : Int) ≤ 8 := by omega
    have HF2 := Lib.hid (show R = (Z && !(al && decide (0 < n))) by rw [HF.out, decide_eq_true h8, Bool.true_and])
    clear HF
    go_wp2_with fail
    refine HS.out.mono ?_
    rintro e w3 ⟨rfl, hE3⟩
    obtain ⟨c0, c1⟩ := HC.out w3 hE3
    have HE3 := Lib.hid (HE2.out.trans hE3)
    clear hE3 HS
    cases Z with
    | false =>
      go_wp2
      go_ret
      exact ⟨by rw [HF2.out]; rfl, HE3.out⟩
    | true =>
      cases al with
      | false =>
        go_wp2
        go_ret
        exact ⟨by rw [HF2.out]; rfl, HE3.out⟩
      | true =>
        by_cases h0 : n = 0
        · subst h0
          go_wp2
          go_ret
          exact ⟨by rw [HF2.out]; rfl, HE3.out⟩
        · have y0 : (0 : Int) < (n : Int) := by omega
          have HF3 := Lib.hid (show R = false by rw [HF2.out, decide_eq_true (by omega)]; rfl)
          clear HF2
          go_wp2
          go_ret
          exact ⟨by rw [HF3.out]; first | rfl | (simp; done) | (simp; omega), HE3.out⟩
  · have x8 : ¬ (n : Int) ≤ 8 := by omega
    have HF2 := Lib.hid (show R = false by rw [HF.out, decide_eq_false h8]; rfl)
    clear HF
    go_wp2
    go_ret
    exact ⟨by rw [HF2.out]; rfl, HE2.out⟩

/-- Whether a header meets a wish. -/
def meetsB (al : Bool) (ts us : List (Nat → Int)) (ctl : Bool) : Bool := ctl || al || meetB ts us
theorem two_box (w : World) (A B : Array Value) (T U : TypeId) : ∃ w2, (w.alloc (.cells A T)).alloc (.cells B U) = w2 ∧ Ext w w2 ∧ w2.heap[w.heap.size]? = some (.cells A T (0, 0)) ∧ w2.heap[w.heap.size + 1]? = some (.cells B U (0, 0)) := by
  refine ⟨_, rfl, ((Ext.refl w).alloc _).alloc _, ?_, ?_⟩
  · exact Ext.keep ((Ext.refl (w.alloc (.cells A T))).alloc _) (heap_new w _ _ rfl)
  · exact heap_new _ _ _ (by simp)
set_option maxHeartbeats 2000000 in
set_option maxRecDepth 100000 in
theorem meets_any (al : Bool) (a : Option Addr) (n c : Nat) (ts : List (Nat → Int)) (h : Hd) (us : List (Nat → Int)) (w : World) (ht : TsAt w a n c ts) (hu : TsAt w h.ta h.tn h.tc us) :
    Calls Tryd.prog 22 #[.agg (fltV al (.slice a n c)), .agg (hdV h)] w fun e w' => e = .returned (.bool (meetsB al ts us h.ctl)) ∧ Ext w w' := by
  obtain ⟨w2, hw2, hE2, hB2, hD2⟩ := two_box w (fltV al (.slice a n c)) (hdV h) 51 48
  have HM := Lib.hid (meet_any a n c ts h.ta h.tn h.tc us w2 (ht.ext hE2) (hu.ext hE2))
  obtain ⟨g, hg⟩ : ∃ g, w.heap.size = g := ⟨_, rfl⟩
  rw [hg] at hB2 hD2
  obtain ⟨c0, c1⟩ := flt_cell hB2
  have d0 := hd_ctl hD2
  have d1 := hd_toks hD2
  have Hg := Lib.hid hg
  have Hw2 := Lib.hid hw2
  have HE2 := Lib.hid hE2
  have HF := Lib.hid (show meetsB al ts us h.ctl = (h.ctl || al || meetB ts us) from rfl)
  obtain ⟨R, hR⟩ : ∃ R, meetsB al ts us h.ctl = R := ⟨_, rfl⟩
  obtain ⟨M, hM⟩ : ∃ M, meetB ts us = M := ⟨_, rfl⟩
  obtain ⟨HV, hHV⟩ : ∃ V, hdV h = V := ⟨_, rfl⟩
  rw [hR, hM] at HF
  rw [hM] at HM
  rw [hR]
  rw [hHV] at Hw2 ⊢
  obtain ⟨ta, hta⟩ : ∃ x, h.ta = x := ⟨_, rfl⟩
  obtain ⟨tn, htn⟩ : ∃ x, h.tn = x := ⟨_, rfl⟩
  obtain ⟨tc, htc⟩ : ∃ x, h.tc = x := ⟨_, rfl⟩
  obtain ⟨ct, hct⟩ : ∃ x, h.ctl = x := ⟨_, rfl⟩
  rw [hta, htn, htc] at d1 HM
  rw [hct] at d0 HF
  clear hw2 hE2 hB2 hD2 hg ht hu hR hM hHV hta htn htc hct
  go_enter Tryd.func22, Tryd.ntmps22
  go_upto_region 1 with (fail)
  refine wp_world (w' := w2) Hw2.out ?_
  rw [Hg.out]
  clear Hw2 Hg
  cases ct with
  | true =>
    go_wp2
    go_ret
    exact ⟨by rw [HF.out]; rfl, HE2.out⟩
  | false =>
    cases al with
    | true =>
      go_wp2
      go_ret
      exact ⟨by rw [HF.out]; rfl, HE2.out⟩
    | false =>
      go_wp2_with fail
      refine HM.out.mono ?_
      rintro e w3 ⟨rfl, hE3⟩
      have HE3 := Lib.hid (HE2.out.trans hE3)
      clear hE3 HM
      go_wp2
      go_ret
      exact ⟨by rw [HF.out]; rfl, HE3.out⟩
set_option maxHeartbeats 2000000 in
set_option maxRecDepth 100000 in
theorem refMeets_any (al : Bool) (a : Option Addr) (n c : Nat) (ts : List (Nat → Int)) (h : Hd) (us : List (Nat → Int)) (w : World) (ht : TsAt w a n c ts) (hu : TsAt w h.ta h.tn h.tc us) :
    Calls Tryd.prog 23 #[.agg (fltV al (.slice a n c)), .agg (hdV h)] w fun e w' => e = .returned (.bool (meetsB al ts us h.ctl)) ∧ Ext w w' := by
  obtain ⟨w2, hw2, hE2, hB2, hD2⟩ := two_box w (fltV al (.slice a n c)) (hdV h) 51 48
  have HM := Lib.hid (refMeet_any a n c ts h.ta h.tn h.tc us w2 (ht.ext hE2) (hu.ext hE2))
  obtain ⟨g, hg⟩ : ∃ g, w.heap.size = g := ⟨_, rfl⟩
  rw [hg] at hB2 hD2
  obtain ⟨c0, c1⟩ := flt_cell hB2
  have d0 := hd_ctl hD2
  have d1 := hd_toks hD2
  have Hg := Lib.hid hg
  have Hw2 := Lib.hid hw2
  have HE2 := Lib.hid hE2
  have HF := Lib.hid (show meetsB al ts us h.ctl = (h.ctl || al || meetB ts us) from rfl)
  obtain ⟨R, hR⟩ : ∃ R, meetsB al ts us h.ctl = R := ⟨_, rfl⟩
  obtain ⟨M, hM⟩ : ∃ M, meetB ts us = M := ⟨_, rfl⟩
  obtain ⟨HV, hHV⟩ : ∃ V, hdV h = V := ⟨_, rfl⟩
  rw [hR, hM] at HF
  rw [hM] at HM
  rw [hR]
  rw [hHV] at Hw2 ⊢
  obtain ⟨ta, hta⟩ : ∃ x, h.ta = x := ⟨_, rfl⟩
  obtain ⟨tn, htn⟩ : ∃ x, h.tn = x := ⟨_, rfl⟩
  obtain ⟨tc, htc⟩ : ∃ x, h.tc = x := ⟨_, rfl⟩
  obtain ⟨ct, hct⟩ : ∃ x, h.ctl = x := ⟨_, rfl⟩
  rw [hta, htn, htc] at d1 HM
  rw [hct] at d0 HF
  clear hw2 hE2 hB2 hD2 hg ht hu hR hM hHV hta htn htc hct
  go_enter Tryd.func23, Tryd.ntmps23
  go_upto_region 1 with (fail)
  refine wp_world (w' := w2) Hw2.out ?_
  rw [Hg.out]
  clear Hw2 Hg
  cases ct with
  | true =>
    go_wp2
    go_ret
    exact ⟨by rw [HF.out]; rfl, HE2.out⟩
  | false =>
    cases al with
    | true =>
      go_wp2
      go_ret
      exact ⟨by rw [HF.out]; rfl, HE2.out⟩
    | false =>
      go_wp2_with fail
      refine HM.out.mono ?_
      rintro e w3 ⟨rfl, hE3⟩
      have HE3 := Lib.hid (HE2.out.trans hE3)
      clear hE3 HM
      go_wp2
      go_ret
      exact ⟨by rw [HF.out]; rfl, HE3.out⟩
/-- What few answers. -/
def Few19Says (n : Nat) (w : World) (e : Ending) (w' : World) : Prop := ∃ R : Bool, e = .returned (.bool R) ∧ (R = true → n ≤ 20) ∧ Ext w w'
set_option maxHeartbeats 1000000 in
set_option maxRecDepth 100000 in
theorem few19_any (al : Bool) (a : Option Addr) (n c : Nat) (ss : List ByteArray) (w : World) (h : SrAt w a n c ss) :
    Calls Tryd.prog 17 #[.agg (fltV al (.slice a n c))] w (Few19Says n w) := by
  have hcap := h.cap
  have hlim := h.lim
  obtain ⟨w2, hw2⟩ : ∃ w2, w.alloc (.cells (fltV al (.slice a n c)) 44) = w2 := ⟨_, rfl⟩
  have hE2 : Ext w w2 := by rw [← hw2]; exact (Ext.refl w).alloc _
  have hB2 : w2.heap[w.heap.size]? = some (.cells (fltV al (.slice a n c)) 44 (0, 0)) := by rw [← hw2]; exact heap_new w _ _ rfl
  have HC := Lib.hid (show ∀ x, Ext w2 x → x.cell? ⟨w.heap.size, 1, none⟩ = some (.slice a n c) from fun x hx => (flt_cell (hx.keep hB2)).2)
  have H := Lib.hid (h.ext hE2)
  have Hw2 := Lib.hid hw2
  have HE2 := Lib.hid hE2
  obtain ⟨g, hg⟩ : ∃ g, w.heap.size = g := ⟨_, rfl⟩
  rw [hg] at HC
  have Hg := Lib.hid hg
  clear h hw2 hE2 hB2 hg
  go_enter Tryd.func17, Tryd.ntmps17
  go_upto_region 1 with (fail)
  refine wp_world (w' := w2) Hw2.out ?_
  rw [Hg.out]
  clear Hw2 Hg
  have c1 := HC.out w2 (Ext.refl _)
  go_wp2
  go_loopw [3, 4] (fun v i y => ∃ (k m : Nat), k ≤ 100 ∧ k ≤ n ∧ m ≤ 1000 * k ∧ i = .int .i64 (k : Int) ∧ v = .int .i64 (m : Int) ∧ Ext w2 y) (fun _ i _ => n - (intOf i).toNat)
  case atStart => exact ⟨0, 0, by omega, by omega, by omega, rfl, rfl, Ext.refl w2⟩
  case round =>
    obtain ⟨k, m, hk1, hk, hm, rfl, rfl, hE⟩ := hrel
    have HE := Lib.hid hE
    have c1 := HC.out _ hE
    rename World => y
    clear hE
    by_cases hlt : k < n ∧ k < 100
    · obtain ⟨h1, h2⟩ := hlt
      have x1 : (k : Int) < (n : Int) := by omega
      have x2 : (k : Int) < 100 := by omega
      obtain ⟨g0, off, rfl, hcell⟩ := (H.out.ext HE.out).at_ (by omega)
      obtain ⟨x, hx⟩ : ∃ x, ss.getD k ⟨#[]⟩ = x := ⟨_, rfl⟩
      have hck := hcell k h1
      rw [hx] at hck
      clear hcell
      have hsz : x.size ≤ 140737488351232 := by rw [← hx]; exact H.out.size _ (H.out.get h1)
      clear hx
      go_wp2
      go_roundw
      case rel => exact ⟨k + 1, m + min x.size 1000, by omega, by omega, by omega, by go_num, by congr 1; omega, HE.out⟩
      case measure => simp [intOf]; omega
    · by_cases h30 : n ≤ 20
      · obtain rfl : k = n := by omega
        have x1 : ¬ (k : Int) < (k : Int) := by omega
        have x3 : (k : Int) ≤ 20 := by omega
        by_cases hm2 : m ≤ 1000
        · have x4 : (m : Int) ≤ 1000 := by omega
          go_wp2
          go_ret
          exact ⟨true, rfl, fun _ => h30, HE2.out.trans HE.out⟩
        · have x4 : ¬ (m : Int) ≤ 1000 := by omega
          go_wp2
          go_ret
          exact ⟨false, rfl, fun h => (by cases h), HE2.out.trans HE.out⟩
      · have x3 : ¬ (n : Int) ≤ 20 := by omega
        by_cases h1 : k < n
        · have x1 : (k : Int) < (n : Int) := by omega
          have x2 : ¬ (k : Int) < 100 := by omega
          go_wp2
          go_ret
          exact ⟨false, rfl, fun h => (by cases h), HE2.out.trans HE.out⟩
        · have x1 : ¬ (k : Int) < (n : Int) := by omega
          go_wp2
          go_ret
          exact ⟨false, rfl, fun h => (by cases h), HE2.out.trans HE.out⟩

def inS (ss : List ByteArray) (x : ByteArray) : Bool := ss.any fun s => x.toList == s.toList
theorem inS_step (ss : List ByteArray) (x : ByteArray) (k : Nat) (h : k < ss.length) : inS (ss.drop k) x = ((x.toList == (ss.getD k ⟨#[]⟩).toList) || inS (ss.drop (k + 1)) x) := by
  rw [List.drop_eq_getElem_cons h]
  unfold inS
  rw [List.any_cons, List.getD_eq_getElem?_getD, List.getElem?_eq_getElem h]
  rfl
def meetS (ts ss : List ByteArray) : Bool := ts.any fun t => inS ss t
theorem meetS_step (ts ss : List ByteArray) (k : Nat) (h : k < ts.length) : meetS (ts.drop k) ss = (inS ss (ts.getD k ⟨#[]⟩) || meetS (ts.drop (k + 1)) ss) := by
  rw [List.drop_eq_getElem_cons h]
  unfold meetS
  rw [List.any_cons, List.getD_eq_getElem?_getD, List.getElem?_eq_getElem h]
  rfl

set_option maxHeartbeats 1000000 in
set_option maxRecDepth 100000 in
theorem indexS_any (a : Option Addr) (n c : Nat) (ss : List ByteArray) (x : ByteArray) (w : World) (h : SrAt w a n c ss) :
    Calls Tryd.prog 62 #[.slice a n c, .string x] w fun e w' => ∃ r : Int, e = .returned (.int .i64 r) ∧ decide (0 ≤ r) = inS ss x ∧ Ext w w' := by
  have hlen := h.len
  have hcap := h.cap
  have hlim := h.lim
  have H := Lib.hid h
  have Hst := Lib.hid (show ∀ k, k < n → _ from fun k hk => inS_step ss x k (by omega))
  have H0 := Lib.hid (show inS (ss.drop 0) x = inS ss x from rfl)
  have Hen := Lib.hid (show inS (ss.drop n) x = false by rw [← hlen, List.drop_length]; rfl)
  obtain ⟨R, hR⟩ : ∃ R, inS ss x = R := ⟨_, rfl⟩
  rw [hR] at H0 ⊢
  clear h hlen hR
  go_enter Tryd.func62, Tryd.ntmps62
  go_wp2
  go_loopw [8] (fun i wr => ∃ k : Nat, k ≤ n ∧ i = .int .i64 (k : Int) ∧ inS (ss.drop k) x = R ∧ wr = w) (fun i _ => n - (intOf i).toNat)
  case atStart => exact ⟨0, Nat.zero_le _, rfl, H0.out, rfl⟩
  case round =>
    obtain ⟨k, hm, rfl, hr, rfl⟩ := hrel
    by_cases hlt : k < n
    · obtain ⟨p, off, rfl, hc⟩ := H.out.at_ (by omega)
      have hck := hc k hlt
      have hs := Hst.out k hlt
      obtain ⟨F, hF⟩ : ∃ F, ss.getD k ⟨#[]⟩ = F := ⟨_, rfl⟩
      rw [hF] at hck
      rw [hF, hr] at hs
      have Hs := Lib.hid hs
      have x1 : (k : Int) < (n : Int) := by omega
      clear hc hF hs hr
      cases q : (x.toList == F.toList) with
      | true =>
        have hR : R = true := by have h2 := Hs.out; rw [q] at h2; exact h2
        have HR := Lib.hid hR
        clear hR
        go_wp2
        go_ret
        exact ⟨(k : Int), rfl, by rw [HR.out]; first | rfl | exact decide_eq_true (by omega), Ext.refl _⟩
      | false =>
        have HR := Lib.hid (show R = inS (ss.drop (k + 1)) x by have h2 := Hs.out; rw [q] at h2; exact h2)
        go_wp2
        go_roundw
        case rel => exact ⟨k + 1, by omega, by go_num, HR.out.symm, by first | rfl | trivial⟩
        case measure => simp [intOf]; omega
    · obtain rfl : k = n := by omega
      have x1 : ¬ (k : Int) < (k : Int) := by omega
      have HR := Lib.hid (show R = false by rw [← hr]; exact Hen.out)
      clear hr
      go_wp2
      go_ret
      exact ⟨-1, rfl, by rw [HR.out]; first | rfl | decide, Ext.refl _⟩

set_option maxRecDepth 100000 in
theorem containsS_any (a : Option Addr) (n c : Nat) (ss : List ByteArray) (x : ByteArray) (w : World) (h : SrAt w a n c ss) :
    Calls Tryd.prog 44 #[.slice a n c, .string x] w fun e w' => e = .returned (.bool (inS ss x)) ∧ Ext w w' := by
  have HI := Lib.hid (indexS_any a n c ss x w h)
  clear h
  go_enter Tryd.func44, Tryd.ntmps44
  go_wp2_with fail
  refine HI.out.mono ?_
  rintro e w3 ⟨r, rfl, hr, hE⟩
  have HE3 := Lib.hid hE
  have Hr := Lib.hid hr
  clear hE hr HI
  go_wp2_with fail
  go_ret
  exact ⟨by rw [← Hr.out]; rfl, HE3.out⟩

set_option maxHeartbeats 1000000 in
set_option maxRecDepth 100000 in
theorem shows1_any (al : Bool) (b : Option Addr) (m d : Nat) (ss : List ByteArray) (x : ByteArray) (gb : Nat) (w : World) (hu : SrAt w b m d ss) (hb : w.heap[gb]? = some (.cells (fltV al (.slice b m d)) 44 (0, 0))) :
    Calls Tryd.prog 43 #[.string x, .pointer (some ⟨gb, 0, none⟩)] w fun e w' => e = .returned (.bool (inS ss x)) ∧ Ext w w' := by
  obtain ⟨c0, c1⟩ := flt_cell hb
  have HI := Lib.hid (containsS_any b m d ss x w hu)
  clear hu hb
  go_enter Tryd.func43, Tryd.ntmps43
  go_wp2_with fail
  refine HI.out.mono ?_
  rintro e w3 ⟨rfl, hE⟩
  have HE3 := Lib.hid hE
  clear hE HI
  go_wp2_with fail
  go_ret
  exact ⟨rfl, HE3.out⟩

set_option maxHeartbeats 1000000 in
set_option maxRecDepth 100000 in
theorem indexFuncS_any (al : Bool) (a : Option Addr) (n c : Nat) (ts : List ByteArray) (b : Option Addr) (m d : Nat) (ss : List ByteArray) (gb : Nat) (w : World) (h : SrAt w a n c ts) (hu : SrAt w b m d ss) (hb : w.heap[gb]? = some (.cells (fltV al (.slice b m d)) 44 (0, 0))) :
    Calls Tryd.prog 61 #[.slice a n c, .func (.func 43) #[] #[.pointer (some ⟨gb, 0, none⟩)]] w fun e w' => ∃ r : Int, e = .returned (.int .i64 r) ∧ decide (0 ≤ r) = meetS ts ss ∧ Ext w w' := by
  have hlen := h.len
  have hcap := h.cap
  have hlim := h.lim
  have H := Lib.hid h
  have HUu := Lib.hid hu
  have HB := Lib.hid hb
  have Hst := Lib.hid (show ∀ k, k < n → _ from fun k hk => meetS_step ts ss k (by omega))
  have H0 := Lib.hid (show meetS (ts.drop 0) ss = meetS ts ss from rfl)
  have Hen := Lib.hid (show meetS (ts.drop n) ss = false by rw [← hlen, List.drop_length]; rfl)
  obtain ⟨R, hR⟩ : ∃ R, meetS ts ss = R := ⟨_, rfl⟩
  rw [hR] at H0 ⊢
  clear h hlen hR hu hb
  go_enter Tryd.func61, Tryd.ntmps61
  go_wp2
  go_loopw [8] (fun i wr => ∃ k : Nat, k ≤ n ∧ i = .int .i64 (k : Int) ∧ meetS (ts.drop k) ss = R ∧ Ext w wr) (fun i _ => n - (intOf i).toNat)
  case atStart => exact ⟨0, Nat.zero_le _, rfl, H0.out, Ext.refl _⟩
  case round =>
    obtain ⟨k, hm, rfl, hr, hE⟩ := hrel
    have HE := Lib.hid hE
    by_cases hlt : k < n
    · obtain ⟨p, off, rfl, hc⟩ := (H.out.ext hE).at_ (by omega)
      obtain ⟨F, hF⟩ : ∃ F, ts.getD k ⟨#[]⟩ = F := ⟨_, rfl⟩
      have hck := hc k hlt
      have hs := Hst.out k hlt
      rw [hF] at hck
      rw [hF, hr] at hs
      have Hs := Lib.hid hs
      have HM := Lib.hid (shows1_any al b m d ss F gb wr (HUu.out.ext hE) (hE.keep HB.out))
      have x1 : (k : Int) < (n : Int) := by omega
      clear hc hF hs hr hE
      go_wp2_with (go_at_call 43; refine HM.out.mono ?_; rintro e w3 ⟨rfl, hE3⟩; have HE3 := Lib.hid (HE.out.trans hE3); clear hE3)
      · rename_i h1
        have hR : R = true := by have h2 := Hs.out; rw [h1] at h2; exact h2
        go_ret
        exact ⟨(k : Int), rfl, by rw [hR]; first | rfl | exact decide_eq_true (by omega), HE3.out⟩
      · rename_i h1
        have HR := Lib.hid (show R = meetS (ts.drop (k + 1)) ss by have h2 := Hs.out; rw [h1] at h2; exact h2)
        go_roundw
        case rel => exact ⟨k + 1, by omega, by go_num, HR.out.symm, HE3.out⟩
        case measure => simp [intOf]; omega
    · obtain rfl : k = n := by omega
      have x1 : ¬ (k : Int) < (k : Int) := by omega
      have hR : R = false := by rw [← hr]; exact Hen.out
      go_wp2_with fail
      go_ret
      exact ⟨-1, rfl, by first | rfl | decide, HE.out⟩

set_option maxRecDepth 100000 in
theorem containsFuncS_any (al : Bool) (a : Option Addr) (n c : Nat) (ts : List ByteArray) (b : Option Addr) (m d : Nat) (ss : List ByteArray) (gb : Nat) (w : World) (h : SrAt w a n c ts) (hu : SrAt w b m d ss) (hb : w.heap[gb]? = some (.cells (fltV al (.slice b m d)) 44 (0, 0))) :
    Calls Tryd.prog 42 #[.slice a n c, .func (.func 43) #[] #[.pointer (some ⟨gb, 0, none⟩)]] w fun e w' => e = .returned (.bool (meetS ts ss)) ∧ Ext w w' := by
  have HI := Lib.hid (indexFuncS_any al a n c ts b m d ss gb w h hu hb)
  clear h hu hb
  go_enter Tryd.func42, Tryd.ntmps42
  go_wp2_with fail
  refine HI.out.mono ?_
  rintro e w3 ⟨r, rfl, hr, hE⟩
  have HE3 := Lib.hid hE
  have Hr := Lib.hid hr
  clear hE hr HI
  go_wp2_with fail
  go_ret
  exact ⟨by rw [← Hr.out]; rfl, HE3.out⟩

/-- Whether an item is shown. -/
def showsB (al kn av : Bool) (ts ss : List ByteArray) : Bool := av && kn && (al || meetS ts ss)
set_option maxHeartbeats 2000000 in
set_option maxRecDepth 100000 in
theorem shows_any (al : Bool) (b : Option Addr) (m d : Nat) (ss : List ByteArray) (I : Nat → Value) (kn av : Bool) (a : Option Addr) (n c : Nat) (ts : List ByteArray) (w : World) (i1 : I 141 = .bool kn) (i2 : I 142 = .bool av) (i4 : I 144 = .slice a n c) (h : SrAt w a n c ts) (hu : SrAt w b m d ss) :
    Calls Tryd.prog 32 #[.agg (fltV al (.slice b m d)), .agg (rowArr 146 I)] w fun e w' => e = .returned (.bool (showsB al kn av ts ss)) ∧ Ext w w' := by
  obtain ⟨w2, hw2, hE2, hB2, hD2⟩ := two_box w (fltV al (.slice b m d)) (rowArr 146 I) 44 72
  obtain ⟨g, hg⟩ : ∃ g, w.heap.size = g := ⟨_, rfl⟩
  rw [hg] at hB2 hD2
  have HI := Lib.hid (containsFuncS_any al a n c ts b m d ss g w2 (h.ext hE2) (hu.ext hE2) hB2)
  obtain ⟨c0, c1⟩ := flt_cell hB2
  have d1 := row_cell hD2 141 (by omega)
  have d2 := row_cell hD2 142 (by omega)
  have d4 := row_cell hD2 144 (by omega)
  rw [i1] at d1
  rw [i2] at d2
  rw [i4] at d4
  have Hg := Lib.hid hg
  have Hw2 := Lib.hid hw2
  have HE2 := Lib.hid hE2
  have HF := Lib.hid (show showsB al kn av ts ss = (av && kn && (al || meetS ts ss)) from rfl)
  obtain ⟨R, hR⟩ : ∃ R, showsB al kn av ts ss = R := ⟨_, rfl⟩
  obtain ⟨M, hM⟩ : ∃ M, meetS ts ss = M := ⟨_, rfl⟩
  obtain ⟨IV, hIV⟩ : ∃ V, rowArr 146 I = V := ⟨_, rfl⟩
  rw [hR, hM] at HF
  rw [hM] at HI
  rw [hR]
  rw [hIV] at Hw2 ⊢
  have hmf : ∀ (fn : Fn) (first cap : Array Value) (w : World), (Instr.makeFunc fn first cap).run Tryd.prog w = .ok (.func fn first cap) w := fun _ _ _ _ => rfl
  clear hw2 hE2 hB2 hD2 hg h hu hR hM hIV i1 i2 i4
  go_enter Tryd.func32, Tryd.ntmps32
  go_upto_region 1 with (fail)
  refine wp_world (w' := w2) Hw2.out ?_
  rw [Hg.out]
  clear Hw2 Hg
  cases av with
  | false =>
    go_wp2
    go_ret
    exact ⟨by rw [HF.out]; rfl, HE2.out⟩
  | true =>
    cases kn with
    | false =>
      go_wp2
      go_ret
      exact ⟨by rw [HF.out]; rfl, HE2.out⟩
    | true =>
      cases al with
      | true =>
        go_wp2
        go_ret
        exact ⟨by rw [HF.out]; rfl, HE2.out⟩
      | false =>
        go_wp2_with fail
        refine HI.out.mono ?_
        rintro e w3 ⟨rfl, hE3⟩
        have HE3 := Lib.hid (HE2.out.trans hE3)
        clear hE3 HI
        go_wp2
        go_ret
        exact ⟨by rw [HF.out]; rfl, HE3.out⟩

end Go.Proofs.YtdgbcieopkilcaaDoor
