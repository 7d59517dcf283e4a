/-
  The walk of entry.FormedChange. No conditions.
-/
import Derived.Test.YtldaligeckjhaaaChg
namespace Go.Proofs.Ytldaligeckjhaaa
open Go.ChangeShapes Go.WideShapes Go.ChangeAt Go.RowKit

/-- A change's cells. -/
def chV (op : Int) (name : ByteArray) (tags : Value) (value : ByteArray) : Array Value := #[.int .i64 op, .string name, tags, .string value]
/-- Whether a change is formed. -/
def changeB (op : Int) (name : ByteArray) (ss : List ByteArray) (value : ByteArray) : Bool :=
  nameB name && tagsB ss && decide (value.size ≤ 512) && (if op = 2 then decide (ss.length = 0 ∧ value.size = 0) else if op = 3 then decide (value.size = 0) else decide (op = 1))

theorem ch_cell {w : World} {g : Nat} {op : Int} {name : ByteArray} {tags : Value} {value : ByteArray} {fr : Nat × Nat} (h : w.heap[g]? = some (.cells (chV op name tags value) 34 fr)) :
    w.cell? ⟨g, 0, none⟩ = some (.int .i64 op) ∧ w.cell? ⟨g, 1, none⟩ = some (.string name) ∧ w.cell? ⟨g, 2, none⟩ = some tags ∧ w.cell? ⟨g, 3, none⟩ = some (.string value) := by
  unfold World.cell?
  simp only [h]
  exact ⟨rfl, rfl, rfl, rfl⟩

set_option maxHeartbeats 2000000 in
set_option maxRecDepth 100000 in
theorem formedCh_any (op : Int) (name : ByteArray) (ta : Option Addr) (tn tc : Nat) (ss : List ByteArray) (value : ByteArray) (w : World) (h : SsAt w ta tn tc ss) (hn : name.size ≤ 9223372036854775807) (hv : value.size ≤ 9223372036854775807) (hs : ∀ s ∈ ss, s.size ≤ 9223372036854775807) :
    Calls Try.prog 40 #[.agg (chV op name (.slice ta tn tc) value)] w fun e w' => e = .returned (.bool (changeB op name ss value)) ∧ Ext w w' := by
  obtain ⟨w2, hw2⟩ : ∃ w2, w.alloc (.cells (chV op name (.slice ta tn tc) value) 34) = w2 := ⟨_, rfl⟩
  have hE2 : Ext w w2 := by rw [← hw2]; exact (Ext.refl w).alloc _
  have hB2 : w2.heap[w.heap.size]? = some (.cells (chV op name (.slice ta tn tc) value) 34 (0, 0)) := by rw [← hw2]; exact heap_new w _ _ rfl
  have HN := Lib.hid (name_any name w2 hn)
  have HT := Lib.hid (tags_any ta tn tc ss w2 (h.ext hE2) hs)
  have Hw2 := Lib.hid hw2
  have HE2 := Lib.hid hE2
  have Hl := Lib.hid h.len
  have hsm := h.small
  obtain ⟨g, hg⟩ : ∃ g, w.heap.size = g := ⟨_, rfl⟩
  rw [hg] at hB2
  obtain ⟨c0, c1, c2, c3⟩ := ch_cell hB2
  have Hg := Lib.hid hg
  have HB := Lib.hid (show changeB op name ss value = (nameB name && tagsB ss && decide (value.size ≤ 512) && (if op = 2 then decide (tn = 0 ∧ value.size = 0) else if op = 3 then decide (value.size = 0) else decide (op = 1))) by unfold changeB; rw [h.len])
  clear hw2 hE2 hB2 hg h hs
  obtain ⟨R, hR⟩ : ∃ R, changeB op name ss value = R := ⟨_, rfl⟩
  rw [hR] at HB ⊢
  clear hR
  cases hnm : nameB name with
  | false =>
    rw [hnm] at HN HB
    clear hnm
    have hR : R = false := by rw [HB.out]; first | rfl | (simp; done) | (simp; omega) | (simp [*]; done) | (simp [*]; omega)
    have HR := Lib.hid hR
    clear hR HB
    go_enter Try.func40, Try.ntmps40
    go_upto_region 1 with (fail)
    refine wp_world (w' := w2) Hw2.out ?_
    rw [Hg.out]
    clear Hw2
    go_wp2_with fail
    refine HN.out.mono ?_
    rintro e w3 ⟨rfl, rfl⟩
    go_wp2
    go_ret
    exact ⟨by rw [HR.out]; first | rfl | (show Ending.returned (Value.bool (op == 1)) = _; rw [XO.out]), HE2.out⟩
  | true =>
    rw [hnm] at HN HB
    clear hnm
    cases htg : tagsB ss with
    | false =>
      rw [htg] at HT HB
      clear htg
      have hR : R = false := by rw [HB.out]; first | rfl | (simp; done) | (simp; omega) | (simp [*]; done) | (simp [*]; omega)
      have HR := Lib.hid hR
      clear hR HB
      go_enter Try.func40, Try.ntmps40
      go_upto_region 1 with (fail)
      refine wp_world (w' := w2) Hw2.out ?_
      rw [Hg.out]
      clear Hw2
      go_wp2_with fail
      refine HN.out.mono ?_
      rintro e w3 ⟨rfl, rfl⟩
      go_wp2_with fail
      refine HT.out.mono ?_
      rintro e w3 ⟨rfl, rfl⟩
      go_wp2
      go_ret
      exact ⟨by rw [HR.out]; first | rfl | (show Ending.returned (Value.bool (op == 1)) = _; rw [XO.out]), HE2.out⟩
    | true =>
      rw [htg] at HT HB
      clear htg
      by_cases hv5 : value.size ≤ 512
      · have xv : ¬ 512 < (value.size : Int) := by omega
        rw [decide_eq_true hv5] at HB
        by_cases h2 : op = 2
        · subst h2
          rw [if_pos rfl] at HB
          by_cases ht0 : tn = 0
          · subst ht0
            by_cases hv0 : value.size = 0
            · have hve := ba_empty hv0
              subst hve
              have hR : R = true := by rw [HB.out]; first | rfl | (simp; done) | (simp; omega) | (simp [*]; done) | (simp [*]; omega)
              have HR := Lib.hid hR
              clear hR HB
              go_enter Try.func40, Try.ntmps40
              go_upto_region 1 with (fail)
              refine wp_world (w' := w2) Hw2.out ?_
              rw [Hg.out]
              clear Hw2
              go_wp2_with fail
              refine HN.out.mono ?_
              rintro e w3 ⟨rfl, rfl⟩
              go_wp2_with fail
              refine HT.out.mono ?_
              rintro e w3 ⟨rfl, rfl⟩
              go_wp2
              go_ret
              exact ⟨by rw [HR.out]; first | rfl | (show Ending.returned (Value.bool (op == 1)) = _; rw [XO.out]), HE2.out⟩
            · obtain ⟨xe1, xe2⟩ := ba_not hv0
              have hR : R = false := by rw [HB.out]; first | rfl | (simp; done) | (simp; omega) | (simp [*]; done) | (simp [*]; omega)
              have HR := Lib.hid hR
              clear hR HB
              go_enter Try.func40, Try.ntmps40
              go_upto_region 1 with (fail)
              refine wp_world (w' := w2) Hw2.out ?_
              rw [Hg.out]
              clear Hw2
              go_wp2_with fail
              refine HN.out.mono ?_
              rintro e w3 ⟨rfl, rfl⟩
              go_wp2_with fail
              refine HT.out.mono ?_
              rintro e w3 ⟨rfl, rfl⟩
              go_wp2
              go_ret
              exact ⟨by rw [HR.out]; first | rfl | (show Ending.returned (Value.bool (op == 1)) = _; rw [XO.out]), HE2.out⟩
          · have xt : 0 < (tn : Int) := by omega
            have hR : R = false := by rw [HB.out]; first | rfl | (simp; done) | (simp; omega) | (simp [*]; done) | (simp [*]; omega)
            have HR := Lib.hid hR
            clear hR HB
            go_enter Try.func40, Try.ntmps40
            go_upto_region 1 with (fail)
            refine wp_world (w' := w2) Hw2.out ?_
            rw [Hg.out]
            clear Hw2
            go_wp2_with fail
            refine HN.out.mono ?_
            rintro e w3 ⟨rfl, rfl⟩
            go_wp2_with fail
            refine HT.out.mono ?_
            rintro e w3 ⟨rfl, rfl⟩
            go_wp2
            go_ret
            exact ⟨by rw [HR.out]; first | rfl | (show Ending.returned (Value.bool (op == 1)) = _; rw [XO.out]), HE2.out⟩
        · rw [if_neg h2] at HB
          by_cases h3 : op = 3
          · subst h3
            rw [if_pos rfl] at HB
            by_cases hv0 : value.size = 0
            · have hve := ba_empty hv0
              subst hve
              have hR : R = true := by rw [HB.out]; first | rfl | (simp; done) | (simp; omega) | (simp [*]; done) | (simp [*]; omega)
              have HR := Lib.hid hR
              clear hR HB
              go_enter Try.func40, Try.ntmps40
              go_upto_region 1 with (fail)
              refine wp_world (w' := w2) Hw2.out ?_
              rw [Hg.out]
              clear Hw2
              go_wp2_with fail
              refine HN.out.mono ?_
              rintro e w3 ⟨rfl, rfl⟩
              go_wp2_with fail
              refine HT.out.mono ?_
              rintro e w3 ⟨rfl, rfl⟩
              go_wp2
              go_ret
              exact ⟨by rw [HR.out]; first | rfl | (show Ending.returned (Value.bool (op == 1)) = _; rw [XO.out]), HE2.out⟩
            · obtain ⟨xe1, xe2⟩ := ba_not hv0
              have hR : R = false := by rw [HB.out]; first | rfl | (simp; done) | (simp; omega) | (simp [*]; done) | (simp [*]; omega)
              have HR := Lib.hid hR
              clear hR HB
              go_enter Try.func40, Try.ntmps40
              go_upto_region 1 with (fail)
              refine wp_world (w' := w2) Hw2.out ?_
              rw [Hg.out]
              clear Hw2
              go_wp2_with fail
              refine HN.out.mono ?_
              rintro e w3 ⟨rfl, rfl⟩
              go_wp2_with fail
              refine HT.out.mono ?_
              rintro e w3 ⟨rfl, rfl⟩
              go_wp2
              go_ret
              exact ⟨by rw [HR.out]; first | rfl | (show Ending.returned (Value.bool (op == 1)) = _; rw [XO.out]), HE2.out⟩
          · rw [if_neg h3] at HB
            by_cases h1 : op = 1
            · subst h1
              have hR : R = true := by rw [HB.out]; first | rfl | (simp; done) | (simp; omega) | (simp [*]; done) | (simp [*]; omega)
              have HR := Lib.hid hR
              clear hR HB
              go_enter Try.func40, Try.ntmps40
              go_upto_region 1 with (fail)
              refine wp_world (w' := w2) Hw2.out ?_
              rw [Hg.out]
              clear Hw2
              go_wp2_with fail
              refine HN.out.mono ?_
              rintro e w3 ⟨rfl, rfl⟩
              go_wp2_with fail
              refine HT.out.mono ?_
              rintro e w3 ⟨rfl, rfl⟩
              go_wp2
              go_ret
              exact ⟨by rw [HR.out]; first | rfl | (show Ending.returned (Value.bool (op == 1)) = _; rw [XO.out]), HE2.out⟩
            · have XO := Lib.hid (show (op == 1) = false by simpa using h1)
              have hR : R = false := by rw [HB.out]; first | rfl | (simp; done) | (simp; omega) | (simp [*]; done) | (simp [*]; omega)
              have HR := Lib.hid hR
              clear hR HB
              go_enter Try.func40, Try.ntmps40
              go_upto_region 1 with (fail)
              refine wp_world (w' := w2) Hw2.out ?_
              rw [Hg.out]
              clear Hw2
              go_wp2_with fail
              refine HN.out.mono ?_
              rintro e w3 ⟨rfl, rfl⟩
              go_wp2_with fail
              refine HT.out.mono ?_
              rintro e w3 ⟨rfl, rfl⟩
              go_wp2
              go_ret
              exact ⟨by rw [HR.out]; first | rfl | (show Ending.returned (Value.bool (op == 1)) = _; rw [XO.out]), HE2.out⟩
      · have xv : 512 < (value.size : Int) := by omega
        rw [decide_eq_false hv5] at HB
        have hR : R = false := by rw [HB.out]; first | rfl | (simp; done) | (simp; omega) | (simp [*]; done) | (simp [*]; omega)
        have HR := Lib.hid hR
        clear hR HB
        go_enter Try.func40, Try.ntmps40
        go_upto_region 1 with (fail)
        refine wp_world (w' := w2) Hw2.out ?_
        rw [Hg.out]
        clear Hw2
        go_wp2_with fail
        refine HN.out.mono ?_
        rintro e w3 ⟨rfl, rfl⟩
        go_wp2_with fail
        refine HT.out.mono ?_
        rintro e w3 ⟨rfl, rfl⟩
        go_wp2
        go_ret
        exact ⟨by rw [HR.out]; first | rfl | (show Ending.returned (Value.bool (op == 1)) = _; rw [XO.out]), HE2.out⟩

end Go.Proofs.Ytldaligeckjhaaa
