/-
  The walk of Box.Blind in real mode: the first 16 bytes of the code. Asked: the table of 64 words lies as the text lays it.
-/
import Derived.Test.YtdgbcieopkilcaaDoorBox
import Derived.Test.YtdgbcieopkilcaaDoorTkO
import Derived.Deep.MidRow
namespace Go.Proofs.YtdgbcieopkilcaaDoor
open Go.ChangeShapes Go.WideShapes Go.ChangeAt Go.RowKit

theorem key_box16 (w : World) (f : Nat → Int) : ∃ w2, (w.alloc (.cells (rowArr 32 fun j => .int .u8 (f j)) 23)).alloc (.cells (Array.replicate 16 (.int .u8 0)) 35) = w2 ∧ Ext w w2 ∧ w2.heap[w.heap.size]? = some (.cells (rowArr 32 fun j => .int .u8 (f j)) 23 (0, 0)) ∧ w2.heap[w.heap.size + 1]? = some (.cells (Array.replicate 16 (.int .u8 0)) 35 (0, 0)) ∧ w.heap.size + 1 < w2.heap.size := by
  have e : (w.alloc (.cells (rowArr 32 fun j => .int .u8 (f j)) 23)).heap.size = w.heap.size + 1 := by simp
  refine ⟨_, rfl, ((Ext.refl w).alloc _).alloc _, ?_, heap_new _ _ _ e.symm, by simp⟩
  rw [Below.heap_alloc _ _ _ (by rw [e]; omega)]
  exact heap_new w _ _ rfl

theorem tk1_arr (M : Nat → Int) : (tk1 M).toArray = rowArr 16 fun j => .int .u8 (M j) := by
  apply Array.ext_getElem?
  intro j
  by_cases hj : j < 16
  · rw [rowArr_get _ _ _ hj, List.getElem?_toArray, tk1_get M j hj]
  · rw [List.getElem?_toArray, List.getElem?_eq_none (by rw [tk1_length]; omega), Array.getElem?_eq_none (by rw [rowArr_size]; omega)]
/-- The first 16 of a row of 32. -/
theorem tk1_front {w : World} {q : Nat} {t : TypeId} {fr : Nat × Nat} {M : Nat → Int} (h : w.heap[q]? = some (.cells (rowArr 32 fun j => .int .u8 (M j)) t fr)) : w.rangeAt q 0 (tk1 M) := by
  intro j v hv
  have hj : j < 16 := by
    have := (List.getElem?_eq_some_iff.1 hv).1
    rwa [tk1_length] at this
  rw [tk1_get M j hj] at hv
  obtain rfl := Option.some.inj hv
  unfold World.cell?
  simp only [h, Nat.zero_add]
  exact rowArr_get _ _ _ (by omega)
theorem arr_at (w : World) (a : Option Addr) (len cap : Nat) (h : 16 ≤ len) : (Instr.arrayAt 35 (.slice a len cap)).run Tryd.prog w = .ok (.pointer a) w := by
  simp [Instr.arrayAt, run_underlying Tryd.underlying35, Nat.not_lt.2 h]
set_option maxHeartbeats 2000000 in
set_option maxRecDepth 100000 in
theorem boxBlind_any (gb : Nat) (f : Nat → Int) (hf : ∀ j, j < 32 → 0 ≤ f j ∧ f j < 256) (a : Option Addr) (n c : Nat) (xs : List Int) (w : World) (hc : w.cell? ⟨gb, 0, none⟩ = some (.bool false)) (hb : BsAt w a n c xs) (hn : n ≤ 140737488351232) (hk : KsAt 2 w) :
    Calls Tryd.prog 29 #[.pointer (some ⟨gb, 0, none⟩), .agg (rowArr 32 fun j => .int .u8 (f j)), .slice a n c] w fun e w' => e = .returned (.agg (rowArr 16 fun j => .int .u8 (macF (l32 f) xs j))) ∧ Ext w w' := by
  obtain ⟨w2, hw2, hE2, hR2, hZ2, hs2⟩ := key_box16 w f
  have hb2 : BsAt w2 (some ⟨w.heap.size, 0, none⟩) 32 32 (l32 f) := bs_row (rowIs_of hR2) hf (by omega)
  have hc2 : w2.cell? ⟨gb, 0, none⟩ = some (.bool false) := (hE2.cell (World.block_lt_of_cell? w _ hc)).trans hc
  have hlen := hb.len
  have hP := ps_new (PsV.one (hb.ext hE2)) 40 (by omega)
  have hEP : Ext w2 (w2.alloc (.cells #[.slice a n c] 40)) := (Ext.refl w2).alloc _
  have hm := mac_any _ _ _ _ _ _ _ _ _ (hb2.ext hEP) hP (by simp; omega) (by omega) (by omega) (hk.ext' (hE2.trans hEP))
  rw [flat_one] at hm
  have HM := Lib.hid hm
  have HEP := Lib.hid hEP
  have Hw2 := Lib.hid hw2
  have HE2 := Lib.hid hE2
  have HZ2 := Lib.hid hZ2
  clear hk hf hw2 hE2 hR2 hZ2 hb2 hc hb hP hEP hm
  go_enter Tryd.func29, Tryd.ntmps29
  go_upto_region 1 with (fail)
  refine wp_world (w' := w2) Hw2.out ?_
  obtain ⟨g, hg⟩ : ∃ g, w.heap.size = g := ⟨_, rfl⟩
  rw [hg] at HZ2 HM hs2 ⊢
  have Hg := Lib.hid (Nat.le_of_eq hg)
  clear hg Hw2
  go_wp2_with fail
  refine HM.out.mono ?_
  rintro e w3 ⟨rfl, hE3⟩
  have HZ3 := Lib.hid ((HEP.out.trans hE3).keep HZ2.out)
  have HE3 := Lib.hid (HE2.out.trans (HEP.out.trans hE3))
  clear hE3 HM HEP HZ2
  obtain ⟨w4, hw4⟩ : ∃ w4, w3.alloc (.cells (rowArr 32 fun j => .int .u8 (macF (l32 f) xs j)) 23) = w4 := ⟨_, rfl⟩
  have Hw4 := Lib.hid hw4
  clear hw4
  go_upto_region 3 with (refine wpList_store_row rfl 23 _ _ rfl w3.heap.size _ rfl rfl _ _ (heap_new w3 _ _ rfl) (by kernel_rfl) (by rw [rowArr_size]; rfl) (rowArr_one fun _ _ => rfl) ?_; rw [setRow_new w3 _ _ _ _ rfl, Hw4.out])
  have hlt4 : g + 1 < w3.heap.size := (Array.getElem?_eq_some_iff.1 HZ3.out).1
  obtain ⟨M, hM⟩ : ∃ M : Nat → Int, macF (l32 f) xs = M := ⟨_, rfl⟩
  rw [hM] at Hw4 ⊢
  have HZ4 := Lib.hid (show w4.heap[g + 1]? = some (.cells (Array.replicate 16 (.int .u8 0)) 35 (0, 0)) from by
    rw [← Hw4.out, Below.heap_alloc _ _ _ hlt4]
    exact HZ3.out)
  have HE4 := Lib.hid (show Ext w w4 from by
    rw [← Hw4.out]
    exact HE3.out.alloc _)
  have HR4 := Lib.hid (show w4.rangeAt w3.heap.size 0 (tk1 M) from by
    rw [← Hw4.out]
    exact tk1_front (heap_new w3 _ _ rfl))
  have hgg := Hg.out
  obtain ⟨q, hq⟩ : ∃ q, w3.heap.size = q := ⟨_, rfl⟩
  rw [hq] at HR4 ⊢
  have HMm := Lib.hid hM
  have har := fun q => arr_at w4 (some ⟨q, 0, none⟩) 16 32 (Nat.le_refl _)
  clear hM Hw4 HZ3 HE3 hq hlt4
  go_wp2_with (first | (refine wpList_load_mid rfl 35 (.tmp 21) rfl q 0 rfl (tk1 M) _ HR4.out Tryd.underlying35 rfl (by rw [tk1_length]; kernel_rfl) ?_; rw [tk1_arr]) | (refine wpList_store_row rfl 35 (.tmp 6) (.tmp 22) rfl (g + 1) _ rfl rfl _ _ HZ4.out (by kernel_rfl) (by simp [rowArr_size]) (rowArr_one fun _ _ => rfl) ?_))
  exact bodyPost_ret (results_cell_row rfl _ _ (g + 1) _ _ _ _ rfl (setRow_heap w4 (g + 1) _ _ _ _ HZ4.out) Tryd.underlying35 rfl (by kernel_rfl)) rfl ⟨by rw [HMm.out], below_setRow HE4.out (by omega) _⟩

end Go.Proofs.YtdgbcieopkilcaaDoor
