/-
  The walk of jalousielaw16.awake: it answers true. Asked: the table lies as the text lays it.
-/
import Derived.Test.YtppidlpblkihbaaDoorCtl
namespace Go.Proofs.YtppidlpblkihbaaDoor
open Go.ChangeShapes Go.WideShapes Go.ChangeAt Go.RowKit

def sevenF : Nat → Int := fun j => if j = 0 then 7 else 0
theorem seven_set : (rowArr 32 fun _ => Value.int .u8 0).setIfInBounds 0 (.int .u8 7) = rowArr 32 (fun j => .int .u8 (sevenF j)) := by kernel_rfl
theorem seven_size : (rowArr 32 fun _ => Value.int .u8 0).size = 32 := rfl
theorem seven_byte : ∀ j, j < 32 → 0 ≤ sevenF j ∧ sevenF j < 256 := fun j _ => by unfold sevenF; split <;> omega
set_option maxRecDepth 100000 in
theorem size_hash : ∀ w, (sizeOf 5).run Tryd.prog w = .ok 1 w := fun _ => by kernel_rfl
theorem eql_same (w : World) (f : Nat → Int) : (binOp .eql 23 (.agg (rowArr 32 fun j => .int .u8 (f j))) (.agg (rowArr 32 fun j => .int .u8 (f j)))).run Tryd.prog w = .ok (.bool true) w := by
  rw [run_eql_arr w 23 5 32 .u8 Tryd.underlying23 Tryd.underlying5 size_hash f f]
  simp
theorem neq_same (w : World) (f : Nat → Int) : (binOp .neq 23 (.agg (rowArr 32 fun j => .int .u8 (f j))) (.agg (rowArr 32 fun j => .int .u8 (f j)))).run Tryd.prog w = .ok (.bool false) w := by
  rw [run_neq_arr w 23 5 32 .u8 Tryd.underlying23 Tryd.underlying5 size_hash f f]
  simp

theorem eql_zero (w : World) : (binOp .eql 23 (.agg (rowArr 32 fun j => .int .u8 (zeroF j))) (.agg (rowArr 32 fun _ => .int .u8 0))).run Tryd.prog w = .ok (.bool true) w := eql_same w zeroF

theorem keyR_255 (f : Nat → Int) : keyR f 255 = f := by unfold keyR; rw [if_pos (by omega)]; rfl
theorem keyE_255 : keyE 255 = 0 := by unfold keyE; rw [if_pos (by omega)]

set_option maxRecDepth 100000 in
theorem awake16_any (w : World) (hk : KsAt 1 w) : Calls Tryd.prog 10 #[] w fun e w' => e = .returned (.bool true) ∧ Ext w w' := by
  have hz := zero_hash
  have hs := seven_size
  have hs7 := seven_set
  have keq := eql_same
  have HY := Lib.hid (key_any sevenF seven_byte 255 w hk)
  clear hk
  go_enter Tryd.func10, Tryd.ntmps10
  go_wp2_with fail
  refine HY.out.mono ?_
  rintro e w1 ⟨rfl, hE⟩
  rw [keyR_255, keyE_255]
  have HE1 := Lib.hid hE
  clear hE HY
  go_upto_region 2 with (refine wpList_store_row rfl 23 _ _ rfl w1.heap.size _ rfl rfl _ _ (heap_new w1 _ _ rfl) (by kernel_rfl) (by simp [rowArr_size]) (rowArr_one fun _ _ => rfl) ?_; rw [setRow_new w1 _ _ _ _ rfl])
  obtain ⟨w2, hw2⟩ : ∃ w2, w1.alloc (.cells (rowArr 32 fun j => .int .u8 (sevenF j)) 23) = w2 := ⟨_, rfl⟩
  have hE : Ext w1 w2 := by rw [← hw2]; exact (Ext.refl w1).alloc _
  obtain ⟨g, hg⟩ : ∃ g, w1.heap.size = g := ⟨_, rfl⟩
  have HS2 := Lib.hid (show w2.heap[g]? = some (.cells (rowArr 32 fun j => .int .u8 (sevenF j)) 23 (0, 0)) by rw [← hw2]; exact heap_new w1 _ _ hg.symm)
  refine wp_world (w' := w2) hw2 ?_
  rw [hg]
  clear hw2 hg
  have HE2 := Lib.hid (HE1.out.trans hE)
  clear hE
  go_wp2_with (refine wpList_load_rowW rfl 23 (.tmp 1) rfl g rfl _ _ _ _ HS2.out Tryd.underlying23 rfl (by kernel_rfl) ?_)
  go_ret
  exact ⟨rfl, HE2.out⟩

end Go.Proofs.YtppidlpblkihbaaDoor
