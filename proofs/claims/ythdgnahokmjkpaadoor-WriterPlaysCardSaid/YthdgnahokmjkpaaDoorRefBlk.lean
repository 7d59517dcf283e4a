/-
  The walk of jalousieref12.Blank at the zero header. No conditions.
-/
import Derived.Test.YthdgnahokmjkpaaDoorHdQ
import Derived.Test.YthdgnahokmjkpaaDoorRefHdF
namespace Go.Proofs.YthdgnahokmjkpaaDoor
open Go.ChangeShapes Go.WideShapes Go.ChangeAt Go.RowKit

set_option maxHeartbeats 2000000 in
set_option maxRecDepth 100000 in
theorem refBlank_any (w : World) : Calls Tryd.prog 21 #[.agg (hdV hdZ)] w fun e w' => e = .returned (.bool true) ∧ Ext w w' := by
  obtain ⟨w2, hw2⟩ : ∃ w2, w.alloc (.cells (hdV hdZ) 35) = w2 := ⟨_, rfl⟩
  have hE2 : Ext w w2 := by rw [← hw2]; exact (Ext.refl w).alloc _
  have hB2 : w2.heap[w.heap.size]? = some (.cells (hdV hdZ) 35 (0, 0)) := by rw [← hw2]; exact heap_new w _ _ rfl
  have Hw2 := Lib.hid hw2
  have HE2 := Lib.hid hE2
  obtain ⟨g, hg⟩ : ∃ g, w.heap.size = g := ⟨_, rfl⟩
  rw [hg] at hB2
  have Hg := Lib.hid hg
  have c0 : w2.cell? ⟨g, 0, none⟩ = some (.int .i64 0) := hd_writer hB2
  have c1 : w2.cell? ⟨g, 1, none⟩ = some (.int .u64 0) := hd_seq hB2
  have c34 : w2.cell? ⟨g, 34, none⟩ = some (.int .i64 0) := hd_epoch hB2
  have c36 : w2.cell? ⟨g, 36, none⟩ = some (.int .u64 0) := hd_time hB2
  have c92 : w2.cell? ⟨g, 92, none⟩ = some (.int .i64 0) := hd_size hB2
  have c53 : w2.cell? ⟨g, 53, none⟩ = some (.slice none 0 0) := hd_toks hB2
  have Hc := Lib.hid (show ∀ i, i < 32 → w2.cell? ⟨g, 93 + i, none⟩ = some (.int .u8 ((fun _ => (0 : Int)) i)) from hd_code hB2)
  have hz := zero_h32
  have he := fun w => eql_h32 w (fun _ => 0)
  have hzb : zeroB 32 (fun _ => 0) = true := decide_eq_true (fun _ _ => rfl)
  rw [hzb] at he
  clear hw2 hE2 hB2 hg hzb
  go_enter Tryd.func21, Tryd.ntmps21
  go_upto_region 1 with (fail)
  refine wp_world (w' := w2) Hw2.out ?_
  rw [Hg.out]
  clear Hw2 Hg
  go_wp2_with (refine wp_sub rfl 29 _ rfl g 93 32 (fun j => .int .u8 ((fun _ => (0 : Int)) j)) rfl Tryd.underlying29 (size_h32 _) Hc.out ?_)
  go_ret
  exact ⟨rfl, HE2.out⟩

end Go.Proofs.YthdgnahokmjkpaaDoor
