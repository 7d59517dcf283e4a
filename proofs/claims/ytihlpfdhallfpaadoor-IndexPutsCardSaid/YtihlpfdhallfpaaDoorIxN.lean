/-
  The walk of index.New. Asked: nothing.
-/
import Derived.Test.YtihlpfdhallfpaaDoorIx
namespace Go.Proofs.YtihlpfdhallfpaaDoor
open Go.ChangeShapes Go.WideShapes Go.ChangeAt Go.RowKit

/-- The cells of an index of which i chains are laid. -/
def nwC (G : Nat → Nat) (i k : Nat) : Value :=
  if k < 6 then (if k < i then .pointer (some ⟨G k, 0, none⟩) else .pointer none) else if k < 12 then .slice none 0 0 else .int .i64 0
theorem nw_zero (G : Nat → Nat) : (#[.pointer none, .pointer none, .pointer none, .pointer none, .pointer none, .pointer none, .slice none 0 0, .slice none 0 0, .slice none 0 0, .slice none 0 0, .slice none 0 0, .slice none 0 0, .int .i64 0] : Array Value) = rowArr 13 (nwC G 0) := rfl
theorem nwC_set (G : Nat → Nat) (i g : Nat) (hi : i < 6) (k : Nat) : (if k = i then Value.pointer (some ⟨g, 0, none⟩) else nwC G i k) = nwC (fun j => if j = i then g else G j) (i + 1) k := by
  unfold nwC
  by_cases h : k = i
  · subst h
    rw [if_pos rfl, if_pos hi, if_pos (by omega)]
    simp
  · rw [if_neg h]
    by_cases h6 : k < 6
    · dsimp only
      rw [if_pos h6, if_pos h6, if_neg h]
      by_cases hk : k < i
      · rw [if_pos hk, if_pos (by omega)]
      · rw [if_neg hk, if_neg (by omega)]
    · rw [if_neg h6, if_neg h6]
structure NwI (w wr : World) (B gx i : Nat) (G : Nat → Nat) : Prop where
  row : wr.rowIs gx 72 13 (nwC G i)
  ch : ∀ j, j < i → ChAt wr B (G j) ((j : Int) + 1) none 0 [] (fun _ => 0)
  up : ∀ j, j < i → gx < G j
  ne : ∀ j k, j < i → k < i → j ≠ k → G j ≠ G k
  ext : Ext w wr
theorem NwI.full {w wr : World} {B gx : Nat} {G : Nat → Nat} (h : NwI w wr B gx 6 G) (hB : B ≤ gx) : IxAt wr B gx G (fun _ => cst0) 0 := by
  refine ⟨h.row.congr fun k hk => ?_, fun i hi => h.ch i hi, fun i _ => World.ownsRow_nil _ _ _ _, fun i _ x hx => (by cases hx), hB, fun s t hs ht hst k e1 e2 => ?_, fun i _ x hx => (by cases hx), fun i _ x hx => (by cases hx)⟩
  · unfold nwC ixC
    by_cases h6 : k < 6
    · rw [if_pos h6, if_pos h6, if_pos h6]
    · rw [if_neg h6, if_neg h6]
      rfl
  · have key : ∀ s, s < 19 → ∀ k, ixP gx G (fun _ => cst0) s = some k → (s < 6 ∧ G s = k) ∨ (s = 18 ∧ gx = k) := fun s hs k e => by
      unfold ixP at e
      by_cases h1 : s < 6
      · rw [if_pos h1] at e
        exact .inl ⟨h1, Option.some.inj e⟩
      rw [if_neg h1] at e
      by_cases h2 : s < 12
      · rw [if_pos h2] at e
        cases e
      rw [if_neg h2] at e
      by_cases h3 : s < 18
      · rw [if_pos h3] at e
        cases e
      rw [if_neg h3] at e
      exact .inr ⟨by omega, Option.some.inj e⟩
    rcases key s hs k e1 with ⟨a1, a2⟩ | ⟨a1, a2⟩ <;> rcases key t ht k e2 with ⟨b1, b2⟩ | ⟨b1, b2⟩
    · exact h.ne s t a1 b1 hst (by rw [a2, b2])
    · have := h.up s a1
      omega
    · have := h.up t b1
      omega
    · omega

set_option maxHeartbeats 4000000 in
set_option maxRecDepth 100000 in
theorem ixNew_any (B : Nat) (w : World) (hB : B ≤ w.heap.size) :
    Calls Tryd.prog 8 #[] w fun e w' => ∃ gx G, e = .returned (.pointer (some ⟨gx, 0, none⟩)) ∧ IxAt w' B gx G (fun _ => cst0) 0 ∧ Ext w w' := by
  obtain ⟨w2, hw2⟩ : ∃ x, w.alloc (.cells #[.pointer none, .pointer none, .pointer none, .pointer none, .pointer none, .pointer none, .slice none 0 0, .slice none 0 0, .slice none 0 0, .slice none 0 0, .slice none 0 0, .slice none 0 0, .int .i64 0] 72) = x := ⟨_, rfl⟩
  obtain ⟨gx, hg⟩ : ∃ g, w.heap.size = g := ⟨_, rfl⟩
  have h0 : NwI w w2 B gx 0 (fun _ => 0) := by
    rw [← hw2, ← hg, nw_zero (fun _ => 0)]
    exact ⟨rowIs_of (heap_new w _ _ rfl), fun j hj => by omega, fun j hj => by omega, fun j k hj => by omega, (Ext.refl w).alloc _⟩
  have H0 := Lib.hid h0
  have Hw2 := Lib.hid hw2
  have Hg := Lib.hid hg
  have HB := Lib.hid hB
  clear h0 hw2 hg hB
  go_enter Tryd.func8, Tryd.ntmps8
  go_upto_region 2 with (fail)
  refine wp_world (w' := w2) Hw2.out ?_
  rw [Hg.out]
  go_wp2
  go_loopw [5] (fun i wr => ∃ (k : Nat) (G : Nat → Nat), k ≤ 6 ∧ i = .int .i64 (k : Int) ∧ NwI w wr B gx k G) (fun i _ => 6 - (intOf i).toNat)
  case atStart => exact ⟨0, _, by omega, rfl, H0.out⟩
  case round =>
    obtain ⟨i, G, hi, rfl, hI⟩ := hrel
    have HI := Lib.hid hI
    clear hI
    by_cases hlt : i < 6
    · have x1 : (i : Int) < 6 := by omega
      have Hi := Lib.hid hlt
      go_upto_region 5 with (fail)
      have HST := Lib.hid (show ∀ (ph : Bool) (w1 w' : World), Ext wr w1 → Ext w1 w' → Ext wr w' ∧ Ext w1 w' from fun _ w1 w' h1 h2 => ⟨h1.trans h2, h2⟩)
      refine lq_start (C := fun _ x => Ext wr x) (E := fun _ x y => Ext x y) 8 0 (by omega) (by kernel_rfl) (by kernel_rfl) (fun _ w => Ext.refl w) (fun _ _ h => h) (Ext.refl wr).drew ?_
      simp only [List.take_succ_cons, List.take_zero]
      refine lq_m (.ex (.pointer (some ⟨gx, 0, none⟩))) [] rfl (by kernel_rfl) rfl (by rfl) trivial (fun w1 hw1 => ?_) ?_
      · simp only [pk, lexVals]
        go_simp
        exact ⟨hw1, Ext.refl _, rfl⟩
      refine lq_s (.ex (.int .i64 (i : Int))) [] (by omega) (by kernel_rfl) rfl (by rfl) trivial HST.out (fun ph w1 hw1 => ?_) ?_
      · simp only [pk, lexVals]
        clear hw1
        go_simp
        exact ⟨Ext.refl _, rfl⟩
      refine lq_s (.ex (.int .i64 (i : Int))) [] (by omega) (by kernel_rfl) rfl (by rfl) trivial HST.out (fun ph w1 hw1 => ?_) ?_
      · simp only [pk, lexVals]
        clear hw1
        go_simp
        exact ⟨Ext.refl _, rfl⟩
      refine lq_s (.ex (.int .i64 ((i : Int) + 1))) [(0, 10)] (by omega) (by kernel_rfl) rfl (by rfl) trivial HST.out (fun ph w1 hw1 => ?_) ?_
      · simp only [pk, nthSp, lexVals]
        clear hw1
        go_simp
        exact ⟨Ext.refl _, by first | rfl | (show Value.int .i64 _ = Value.int .i64 _; congr 1; first | done | (rw [IntKind.wrap_i64]; omega) | omega)⟩
      refine lq_s (.ab (fun u w9 => ∃ g, u = .pointer (some ⟨g, 0, none⟩) ∧ wr.heap.size ≤ g ∧ ChAt w9 B g ((i : Int) + 1) none 0 [] (fun _ => 0))) [(0, 11)] (by omega) (by kernel_rfl) rfl (by rfl) (fun u w w' he ⟨g, h1, h2, h3⟩ => ⟨g, h1, h2, h3.ext he⟩) HST.out (fun ph w1 hw1 => ?_) ?_
      · simp only [pk, nthSp, lexVals]
        have hm := new_any ((i : Int) + 1) w1
        have hz : wr.heap.size ≤ w1.heap.size := Below.size hw1
        have hz2 : B ≤ w1.heap.size := by have h1 := HB.out; have h2 := Below.size HI.out.ext; omega
        have HM := Lib.hid hm
        clear hw1 hm
        go_simp
        refine HM.out.mono ?_
        rintro e w5 ⟨g, rfl, hc, hE⟩
        exact ⟨_, rfl, hE, g, rfl, Nat.le_trans hz hc.low, hc.row, World.ownsRow_nil _ _ _ _, fun x hx => (by cases hx), Nat.le_trans hz2 hc.low, hc.ne, fun x hx => (by cases hx)⟩
      refine lq_s (.ex (.pointer (some ⟨gx, 0, none⟩))) [(4, 8)] (by omega) (by kernel_rfl) rfl (by rfl) trivial HST.out (fun ph w1 hw1 => ?_) ?_
      · simp only [pk, nthSp, lexVals]
        clear hw1
        go_simp
        exact ⟨Ext.refl _, rfl⟩
      refine lq_s (.ex (.pointer (some ⟨gx, 0, none⟩))) [(0, 13)] (by omega) (by kernel_rfl) rfl (by rfl) trivial HST.out (fun ph w1 hw1 => ?_) ?_
      · simp only [pk, nthSp, lexVals]
        clear hw1
        go_simp
        exact ⟨Ext.refl _, rfl⟩
      refine lq_s (.ex (.pointer (some ⟨gx, i, none⟩))) [(0, 14), (5, 9)] (by omega) (by kernel_rfl) rfl (by rfl) trivial HST.out (fun ph w1 hw1 => ?_) ?_
      · simp only [pk, nthSp, lexVals]
        clear hw1
        go_simp
        exact ⟨Ext.refl _, by first | rfl | simp⟩
      refine lq_stop (by rfl) (by decide) fun w6 hw6 => ?_
      simp only [rv, pf, lexVals]
      rintro v12 ⟨g, rfl, hgz, hch⟩
      have hr6 := HI.out.row.of_block (hw6.block HI.out.row.lt)
      have c1 := hr6.cell (i := i) (by omega)
      have f1 := hr6.frozen i
      have HN := Lib.hid (show NwI w (w6.setCell ⟨gx, i, none⟩ (.pointer (some ⟨g, 0, none⟩))) B gx (i + 1) (fun j => if j = i then g else G j) from by
        have hgx := HI.out.row.lt
        have hcs : ∀ {g' : Nat} {wi : Int}, ChAt w6 B g' wi none 0 [] (fun _ => 0) → g' ≠ gx → ChAt (w6.setCell ⟨gx, i, none⟩ (.pointer (some ⟨g, 0, none⟩))) B g' wi none 0 [] (fun _ => 0) := fun h hne =>
          ⟨h.row.setOther hne _, World.ownsRow_nil _ _ _ _, fun x hx => (by cases hx), h.low, h.ne, fun x hx => (by cases hx)⟩
        refine ⟨(hr6.set i _).congr fun k _ => nwC_set G i g Hi.out k, fun j hj => ?_, fun j hj => ?_, fun j k hj hk hjk => ?_, (HI.out.ext.trans hw6).setCell (by have := Hg.out; show w.heap.size ≤ gx; omega) _⟩
        · by_cases hji : j = i
          · subst hji
            rw [if_pos rfl]
            exact hcs hch (by omega)
          · rw [if_neg hji]
            have := HI.out.up j (by omega)
            exact hcs ((HI.out.ch j (by omega)).ext hw6) (by omega)
        · by_cases hji : j = i
          · rw [if_pos hji]
            omega
          · rw [if_neg hji]
            exact HI.out.up j (by omega)
        · have hlt : ∀ j, j < i → G j < wr.heap.size := fun j hj => (HI.out.ch j hj).row.lt
          by_cases hji : j = i
          · by_cases hki : k = i
            · omega
            · rw [if_pos hji, if_neg hki]
              have := hlt k (by omega)
              omega
          · by_cases hki : k = i
            · rw [if_neg hji, if_pos hki]
              have := hlt j (by omega)
              omega
            · rw [if_neg hji, if_neg hki]
              exact HI.out.ne j k (by omega) (by omega) hjk)
      clear hw6 HST hr6 hgz hch
      simp only [Act.put, List.setIfInBounds_toArray, List.set_cons_zero, List.set_cons_succ]
      go_wp2
      go_roundw
      case rel => exact ⟨i + 1, _, by omega, by go_num, HN.out⟩
      case measure => simp [intOf]; omega
    · have x1 : ¬ (i : Int) < 6 := by omega
      obtain rfl : i = 6 := by omega
      go_wp2
      go_ret
      exact ⟨gx, rfl, ⟨G, HI.out.full (by have h1 := HB.out; have h2 := Hg.out; omega)⟩, HI.out.ext⟩

end Go.Proofs.YtihlpfdhallfpaaDoor
