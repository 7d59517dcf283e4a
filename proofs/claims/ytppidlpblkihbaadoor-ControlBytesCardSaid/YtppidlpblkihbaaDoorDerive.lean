/-
  The walk of jalousieref11.Derive: the same as hash.Derive; how two results are read. Asked: the reference's table of 64 words lies as the text lays it.
-/
import Derived.Test.YtppidlpblkihbaaDoorRefExp
namespace Go.Proofs.YtppidlpblkihbaaDoor
open Go.ChangeShapes Go.WideShapes Go.ChangeAt Go.RowKit

/-- A key of a key. -/
def dvF (f : Nat → Int) (lab : List Int) : Nat → Int := fun j => (expandL (l32 f) lab 32).getD j 0
theorem dvF_byte (f : Nat → Int) (lab : List Int) (j : Nat) : 0 ≤ dvF f lab j ∧ dvF f lab j < 256 := getD_byte (expandL_byte _ _ _) j

set_option maxHeartbeats 1000000 in
set_option maxRecDepth 100000 in
theorem refDerive_any (f : Nat → Int) (hf : ∀ j, j < 32 → 0 ≤ f j ∧ f j < 256) (s : ByteArray) (w : World) (hs : s.size ≤ 17179869184) (hk : KsAt 0 w) :
    Calls Tryd.prog 15 #[.agg (rowArr 32 fun j => .int .u8 (f j)), .string s] w fun e w' => e = .returned (.agg (rowArr 32 fun j => .int .u8 (dvF f (strB s) j))) ∧ Ext w w' := by
  have HK := Lib.hid hk
  have Hf := Lib.hid hf
  clear hk hf
  go_enter Tryd.func15, Tryd.ntmps15
  go_upto_region 2 with (fail)
  obtain ⟨w1, hw1⟩ : ∃ w1, w.alloc (.cells (rowArr 32 fun j => .int .u8 (f j)) 23) = w1 := ⟨_, rfl⟩
  have hE1 : Ext w w1 := by rw [← hw1]; exact (Ext.refl w).alloc _
  have hR1 : w1.rowIs w.heap.size 23 32 (fun j => .int .u8 (f j)) := by rw [← hw1]; exact rowIs_of (heap_new w _ _ rfl)
  have hs1 : w1.heap.size = w.heap.size + 1 := by rw [← hw1]; simp
  obtain ⟨w2, hw2⟩ : ∃ w2, w1.alloc (.cells (Array.replicate 32 (.int .u8 0)) 23) = w2 := ⟨_, rfl⟩
  have hE2 : Ext w w2 := by rw [← hw2]; exact hE1.alloc _
  have hR2 : w2.rowIs w.heap.size 23 32 (fun j => .int .u8 (f j)) := by rw [← hw2]; exact hR1.alloc _
  have hZ2 : w2.rowIs (w.heap.size + 1) 23 32 (fun _ => .int .u8 0) := by
    have := start_zero32 23 w1
    rwa [hs1, hw2] at this
  have hs2 : w2.heap.size = w.heap.size + 2 := by rw [← hw2]; simp; omega
  obtain ⟨w3, hw3⟩ : ∃ w3, w2.alloc (.cells (Array.replicate 32 (.int .u8 0)) 23) = w3 := ⟨_, rfl⟩
  have hE3 : Ext w w3 := by rw [← hw3]; exact hE2.alloc _
  have hR3 : w3.rowIs w.heap.size 23 32 (fun j => .int .u8 (f j)) := by rw [← hw3]; exact hR2.alloc _
  have hZ3 : w3.rowIs (w.heap.size + 1) 23 32 (fun _ => .int .u8 0) := by rw [← hw3]; exact hZ2.alloc _
  have hY3 : w3.rowIs (w.heap.size + 1 + 1) 23 32 (fun _ => .int .u8 0) := by
    have := start_zero32 23 w2
    rwa [hs2, hw3] at this
  refine wp_world (w' := w3) (by rw [← hw3, ← hw2, ← hw1]; rfl) ?_
  have hs3 := hY3.lt
  obtain ⟨g, hg⟩ : ∃ g, w.heap.size = g := ⟨_, rfl⟩
  rw [hg] at hR3 hZ3 hY3 hs3 ⊢
  have Hg := Lib.hid (Nat.le_of_eq hg)
  have HR3 := Lib.hid (rowIs_cells hR3)
  have HZ3 := Lib.hid hZ3
  have HY3 := Lib.hid hY3
  have HE3 := Lib.hid hE3
  clear hw1 hE1 hR1 hs1 hw2 hE2 hR2 hZ2 hs2 hw3 hE3 hR3 hZ3 hY3 hg
  go_wp2_with (first | (refine wpList_load_row rfl 23 _ rfl g rfl _ _ _ _ HR3.out Tryd.underlying23 rfl (by kernel_rfl) ?_) | (refine conv_bs rfl (.tmp 9) rfl s rfl (by omega) ?_))
  intro c w4 hB4 hE4
  have hex := refExpand_any f Hf.out _ _ _ (strB s) 32 w4 hB4 (by omega) (by omega) (HK.out.ext' (HE3.out.trans hE4))
  rw [show ((32 : Nat) : Int) = 32 from rfl] at hex
  have HX := Lib.hid hex
  have HE4 := Lib.hid hE4
  clear hex hB4 hE4 HR3
  go_wp2_with fail
  refine HX.out.mono ?_
  rintro e w5 ⟨a5, c5, rfl, hB5, hE5, hN5⟩
  obtain ⟨D, hD⟩ : ∃ D, expandL (l32 f) (strB s) 32 = D := ⟨_, rfl⟩
  have HD := Lib.hid (show ∀ j, dvF f (strB s) j = D.getD j 0 by intro j; rw [← hD]; rfl)
  rw [hD] at hB5
  have hE35 := HE4.out.trans hE5
  have hbc := hB5.cap
  have hbl := hB5.lim
  obtain ⟨b5, cur5, rfl, hge5, -⟩ := hN5 (by omega)
  obtain ⟨b5', o5, e5, hc5⟩ := hB5.at_ (by omega)
  simp only [Option.some.injEq, Addr.mk.injEq, and_true] at e5
  obtain ⟨rfl, rfl⟩ := e5
  have hs4 := Below.size HE4.out
  have hbw : b5 ≠ g + 1 + 1 := by omega
  have HB5 := Lib.hid hB5
  have HC5 := Lib.hid hc5
  have HZ5 := Lib.hid (HZ3.out.of_block (hE35.block (by omega)))
  have HY5 := Lib.hid (HY3.out.of_block (hE35.block hs3))
  have HE5 := Lib.hid (HE3.out.trans hE35)
  have hs5 : g + 1 + 1 < w5.heap.size := HY5.out.lt
  clear hB5 hc5 hE5 hE35 hD HX HE4 HE3 HZ3 HY3
  go_wp2
  go_loopw [7] (fun i wr => ∃ k : Nat, k ≤ 32 ∧ i = .int .i64 (k : Int) ∧ wr.rowIs (g + 1 + 1) 23 32 (fun j => .int .u8 (if j < k then D.getD j 0 else 0)) ∧ w5.grownBy wr (some (g + 1 + 1))) (fun i _ => 32 - (intOf i).toNat)
  case atStart => exact ⟨0, Nat.zero_le _, rfl, HY5.out.congr fun j _ => by simp, grown_ext (Ext.refl w5) _⟩
  case round =>
    obtain ⟨k, hk, rfl, hR, hG⟩ := hrel
    by_cases hlt : k < 32
    · have c1 := hR.cell hlt
      have f1 := hR.frozen k
      have c0 := HC5.out k hlt
      have x1 : (k : Int) < 32 := by omega
      have x2 : (0 : Int) ≤ (k : Int) := by omega
      have c2 : wr.cell? ⟨b5, k, none⟩ = some (.int .u8 (D.getD k 0)) := by
        have h1 := World.grownBy.cell hG c0 (fun e => hbw (Option.some.inj e))
        rwa [Nat.zero_add] at h1
      obtain ⟨x, hx⟩ : ∃ x, D.getD k 0 = x := ⟨_, rfl⟩
      rw [hx] at c2
      rw [if_neg (by omega)] at c1
      have Hx := Lib.hid hx
      have HR := Lib.hid hR
      have HG := Lib.hid hG
      clear hR hG c0 hx
      go_wp2
      go_roundw
      case rel =>
        refine ⟨k + 1, by omega, by go_num, (HR.out.set k _).congr fun j hj => ?_, grown_setCell HG.out rfl _⟩
        by_cases hjk : j = k
        · subst hjk
          rw [if_pos rfl, if_pos (by omega), Hx.out]
        · rw [if_neg hjk]
          by_cases h2 : j < k
          · rw [if_pos h2, if_pos (show j < k + 1 by omega)]
          · rw [if_neg h2, if_neg (show ¬ j < k + 1 by omega)]
      case measure => simp [intOf]; omega
    · obtain rfl : k = 32 := by omega
      have hD2 : wr.rowIs (g + 1 + 1) 23 32 (fun j => .int .u8 (D.getD j 0)) := hR.congr fun j hj => by rw [if_pos hj]
      have hz := HZ5.out.of_block (hG.block (g + 1) (by omega) (fun e => by injection e with e; omega))
      have HD2 := Lib.hid (rowIs_cells hD2)
      have Hz := Lib.hid (rowIs_cells hz)
      have hgg := Hg.out
      have HEr := Lib.hid (ext_grown HE5.out hG (by omega))
      clear hR hG hD2 hz
      rw [show ((32 : Nat) : Int) = 32 from rfl]
      go_wp2_with (first | (refine wpList_load_row rfl 23 _ rfl (g + 1 + 1) rfl _ _ _ _ HD2.out Tryd.underlying23 rfl (by kernel_rfl) ?_) | (refine wpList_store_row rfl 23 _ _ rfl _ _ rfl rfl _ _ Hz.out (by kernel_rfl) (by rw [rowArr_size, rowArr_size]) (rowArr_one fun _ _ => rfl) ?_))
      refine bodyPost_ret (results_cell_row rfl _ _ (g + 1) _ _ _ _ rfl (setRow_heap wr (g + 1) _ _ _ _ Hz.out) Tryd.underlying23 rfl (by kernel_rfl)) rfl ⟨?_, below_setRow HEr.out (by omega) _⟩
      simp only [HD.out]

end Go.Proofs.YtppidlpblkihbaaDoor
