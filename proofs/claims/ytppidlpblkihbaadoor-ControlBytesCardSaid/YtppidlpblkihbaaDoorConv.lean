/-
  Steps of the walk: a string's bytes, bytes as a string, bytes as an array of 32. No conditions but lengths.
-/
import Derived.Test.YtppidlpblkihbaaDoorExp
import Derived.Lib.ConvBytes
import Derived.Laws.IdiomStrings
namespace Go.Proofs.YtppidlpblkihbaaDoor
open Go.ChangeShapes Go.WideShapes Go.ChangeAt Go.RowKit

theorem run_arrayAt_hash (w : World) (a : Option Addr) (n c : Nat) (h : 32 ≤ n) : (Instr.arrayAt 23 (.slice a n c)).run Tryd.prog w = .ok (.pointer a) w := by
  have h' : ¬ n < 32 := by omega
  simp [Instr.arrayAt, run_underlying Tryd.underlying23, h']

set_option maxRecDepth 100000 in
theorem derive_any (f : Nat → Int) (hf : ∀ j, j < 32 → 0 ≤ f j ∧ f j < 256) (s : ByteArray) (w : World) (hs : s.size ≤ 17179869184) (hk : KsAt 1 w) :
    Calls Tryd.prog 39 #[.agg (rowArr 32 fun j => .int .u8 (f j)), .string s] w fun e w' => e = .returned (.agg (rowArr 32 fun j => .int .u8 ((expandL (l32 f) (strB s) 32).getD j 0))) ∧ Ext w w' := by
  have HK := Lib.hid hk
  have Hf := Lib.hid hf
  clear hk hf
  have karr := fun (w : World) (a : Option Addr) (c : Nat) => run_arrayAt_hash w a 32 c (Nat.le_refl _)
  go_enter Tryd.func39, Tryd.ntmps39
  go_upto_region 1 with (fail)
  obtain ⟨w1, hw1⟩ : ∃ w1, w.alloc (.cells (rowArr 32 fun j => .int .u8 (f j)) 23) = w1 := ⟨_, rfl⟩
  have hE1 : Ext w w1 := by rw [← hw1]; exact (Ext.refl w).alloc _
  have hR1 : w1.rowIs w.heap.size 23 32 (fun j => .int .u8 (f j)) := by rw [← hw1]; exact rowIs_of (heap_new w _ _ rfl)
  have hs1 : w1.heap.size = w.heap.size + 1 := by rw [← hw1]; simp
  obtain ⟨w2, hw2⟩ : ∃ w2, w1.alloc (.cells (Array.replicate 32 (.int .u8 0)) 23) = w2 := ⟨_, rfl⟩
  have hE2 : Ext w w2 := by rw [← hw2]; exact hE1.alloc _
  have hR2 : w2.rowIs w.heap.size 23 32 (fun j => .int .u8 (f j)) := by rw [← hw2]; exact hR1.alloc _
  have hZ2 : w2.rowIs (w.heap.size + 1) 23 32 (fun _ => .int .u8 0) := by
    have := start_zero32 23 w1
    rwa [hs1, hw2] at this
  have hs2 : w.heap.size + 1 < w2.heap.size := hZ2.lt
  refine wp_world (w' := w2) (by rw [← hw2, ← hw1]; rfl) ?_
  have HK2 := Lib.hid (HK.out.ext' hE2)
  have HE2 := Lib.hid hE2
  have HR2 := Lib.hid (rowIs_cells hR2)
  have HZ2 := Lib.hid hZ2
  clear hw1 hE1 hR1 hs1 hw2 hE2 hR2 hZ2
  go_wp2_with (first | (refine wpList_load_row rfl 23 _ rfl w.heap.size rfl _ _ _ _ HR2.out Tryd.underlying23 rfl (by kernel_rfl) ?_) | (refine conv_bs rfl (.tmp 9) rfl s rfl (by omega) ?_))
  intro c w3 hB3 hE3
  have hex := expand_any f Hf.out _ _ _ (strB s) 32 w3 hB3 (by omega) (by omega) (HK2.out.ext' hE3)
  rw [show ((32 : Nat) : Int) = 32 from rfl] at hex
  have HX := Lib.hid hex
  have HE3 := Lib.hid (HE2.out.trans hE3)
  have HZ3 := Lib.hid (HZ2.out.of_block (hE3.block hs2))
  have hs3 : w.heap.size + 1 < w3.heap.size := HZ3.out.lt
  clear hB3 hE3 hex HR2 HZ2 HE2 HK2
  go_wp2_with fail
  refine HX.out.mono ?_
  rintro e w4 ⟨v, rfl, hv, hE4⟩
  obtain ⟨a4, rfl, hB4, -⟩ := hv
  obtain ⟨g, off, rfl, -⟩ := hB4.at_ (by omega)
  obtain ⟨xs, hxs⟩ : ∃ xs, expandL (l32 f) (strB s) 32 = xs := ⟨_, rfl⟩
  rw [hxs] at hB4
  have Hxs := Lib.hid hxs
  have HB4 := Lib.hid hB4
  have HE4 := Lib.hid (HE3.out.trans hE4)
  have Hz := Lib.hid (rowIs_cells (HZ3.out.of_block (hE4.block hs3)))
  clear hB4 hE4 hxs HX HE3 HZ3
  go_wp2_with (first | (refine load_bs rfl 23 32 _ rfl Tryd.underlying23 (by kernel_rfl) ⟨g, off, none⟩ 32 32 xs rfl HB4.out (Nat.le_refl _) ?_) | (refine wpList_store_row rfl 23 _ _ rfl _ _ rfl rfl _ _ Hz.out (by kernel_rfl) (by rw [rowArr_size, rowArr_size]) (rowArr_one fun _ _ => rfl) ?_))
  refine bodyPost_ret (results_cell_row rfl _ _ (w.heap.size + 1) _ _ _ _ rfl (setRow_heap w4 (w.heap.size + 1) _ _ _ _ Hz.out) Tryd.underlying23 rfl (by kernel_rfl)) rfl ⟨by rw [Hxs.out], ?_⟩
  exact below_setRow HE4.out (by omega) _

end Go.Proofs.YtppidlpblkihbaaDoor
