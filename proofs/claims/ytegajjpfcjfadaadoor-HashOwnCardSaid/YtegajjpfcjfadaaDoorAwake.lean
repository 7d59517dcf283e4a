/-
  The walk of jalousielaw01.awake: it answers true. Asked: the table of 64 words lies as the text lays it.
-/
import Derived.Test.YtegajjpfcjfadaaDoorSumB
import Derived.Lib.SlBytesConst
namespace Go.Proofs.YtegajjpfcjfadaaDoor
open Go.ChangeShapes Go.WideShapes Go.ChangeAt Go.RowKit

theorem sha_abc0 : shaF [97, 98, 99] 0 = 186 := by kernel_rfl
theorem sha_abc31 : shaF [97, 98, 99] 31 = 173 := by kernel_rfl

/-- Bytes that lie at the head of a block. -/
theorem bs_new (w : World) (xs : List Int) (cs : Array Value) (T : TypeId) (fr : Nat × Nat) (hcs : cs = ⟨bv xs⟩) (hb : ∀ x ∈ xs, 0 ≤ x ∧ x < 256) (hs : xs.length ≤ 140737488355328) : BsAt (w.alloc (.cells cs T fr)) (some ⟨w.heap.size, 0, none⟩) xs.length xs.length xs := by
  subst hcs
  refine ⟨rfl, Nat.le_refl _, by omega, hs, hb, fun _ => ⟨w.heap.size, 0, rfl, fun i hi => ?_⟩, fun h => by cases h⟩
  rw [Nat.zero_add, cell_of_row _ w.heap.size i _ _ _ (heap_new w _ _ rfl)]
  unfold bv
  simp [List.getD, List.getElem?_eq_getElem hi]

/-- Parts that lie at the head of a block. -/
theorem ps_one {w : World} {pa : Option Addr} {m pc : Nat} {xs : List Int} (h : BsAt w pa m pc xs) (T : TypeId) : PsAt (w.alloc (.cells #[.slice pa m pc] T)) (some ⟨w.heap.size, 0, none⟩) 1 1 [xs] := by
  refine ⟨rfl, Nat.le_refl _, by omega, fun _ => ⟨w.heap.size, 0, rfl, fun i hi => ⟨pa, m, pc, ?_, ?_⟩⟩⟩
  · obtain rfl : i = 0 := by omega
    rw [cell_of_row _ w.heap.size _ _ _ _ (heap_new w _ _ rfl)]
    rfl
  · obtain rfl : i = 0 := by omega
    exact h.ext ((Ext.refl w).alloc _)

set_option maxRecDepth 100000 in
theorem awake_any (w : World) (hk : KsAt 1 w) :
    Calls Tryd.prog 10 #[] w fun e w' => e = .returned (.bool true) ∧ Ext w w' := by
  have HK := Lib.hid hk
  have hg0 : 1 < w.heap.size := World.block_lt_of_cell? w _ (hk 0 (by omega))
  have hB := bs_new w [97, 98, 99] #[.int .u8 97, .int .u8 98, .int .u8 99] 5 (3, 4) rfl (by decide) (by decide)
  have hP := ps_one hB 29
  have e1 : (w.alloc (.cells #[.int .u8 97, .int .u8 98, .int .u8 99] 5 (3, 4))).heap.size = w.heap.size + 1 := by simp
  rw [e1] at hP
  have HP := Lib.hid hP
  have hE1 : Ext w (w.alloc (.cells #[.int .u8 97, .int .u8 98, .int .u8 99] 5 (3, 4))) := (Ext.refl w).alloc _
  have hE2 : Ext w ((w.alloc (.cells #[.int .u8 97, .int .u8 98, .int .u8 99] 5 (3, 4))).alloc (.cells #[.slice (some ⟨w.heap.size, 0, none⟩) 3 3] 29)) := hE1.alloc _
  have HE2 := Lib.hid hE2
  have hK2 : KsAt 1 ((w.alloc (.cells #[.int .u8 97, .int .u8 98, .int .u8 99] 5 (3, 4))).alloc (.cells #[.slice (some ⟨w.heap.size, 0, none⟩) 3 3] 29)) := fun i hi => by
    rw [Ext.cell (p := ⟨1, i, none⟩) HE2.out hg0]; exact HK.out i hi
  have HK2 := Lib.hid hK2
  clear hk hB hP hE1 hE2 hK2 e1
  have kc := fun (w : World) (C : Array Value) (n c : Nat) => Lib.run_convert_bytes_const (P := Tryd.prog) w 29 5 C n c Tryd.underlying29 Tryd.underlying5
  go_enter Tryd.func10, Tryd.ntmps10
  go_wp2_with fail
  refine (sum_any _ 1 1 [[97, 98, 99]] _ HP.out (by decide) (by decide) HK2.out).mono ?_
  rintro e w1 ⟨rfl, hE3⟩
  have HE3 := Lib.hid (HE2.out.trans hE3)
  have hz0 : shaF [[97, 98, 99]].flatten 0 = 186 := sha_abc0
  have hz31 : shaF [[97, 98, 99]].flatten 31 = 173 := sha_abc31
  obtain ⟨f, hf⟩ : ∃ f : Nat → Int, (fun j => shaF [[97, 98, 99]].flatten j) = f := ⟨_, rfl⟩
  have hf0 : f 0 = 186 := by rw [← hf]; exact hz0
  have hf31 : f 31 = 173 := by rw [← hf]; exact hz31
  have hfj : ∀ j, shaF [[97, 98, 99]].flatten j = f j := fun j => by rw [← hf]
  simp only [hfj]
  clear hfj hf hz0 hz31 hE3
  obtain ⟨w2, hw2⟩ : ∃ w2, w1.alloc (.cells (rowArr 32 fun j => .int .u8 (f j)) 26) = w2 := ⟨_, rfl⟩
  have hR : w2.rowIs w1.heap.size 26 32 (fun j => .int .u8 (f j)) := by rw [← hw2]; exact rowIs_of (heap_new w1 _ _ rfl)
  have c0 := hR.cell (show 0 < 32 by omega)
  have c31 := hR.cell (show 31 < 32 by omega)
  rw [hf0] at c0
  rw [hf31] at c31
  have HE4 := Lib.hid (HE3.out.alloc (.cells (rowArr 32 fun j => .int .u8 (f j)) 26))
  have Hw2 := Lib.hid hw2
  rw [hw2] at HE4
  clear hR hf0 hf31 hw2
  go_wp2_with (refine wpList_store_row rfl 26 _ _ rfl w1.heap.size _ rfl rfl _ _ (heap_new w1 _ _ rfl) (by kernel_rfl) (by rw [rowArr_size]; rfl) (rowArr_one fun _ _ => rfl) ?_; rw [setRow_new w1 _ _ _ _ rfl, Hw2.out])
  go_ret
  exact ⟨rfl, HE4.out⟩

end Go.Proofs.YtegajjpfcjfadaaDoor
