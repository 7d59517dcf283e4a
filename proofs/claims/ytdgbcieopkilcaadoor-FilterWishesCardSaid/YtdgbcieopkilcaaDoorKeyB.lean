/-
  A key of a key in plain words. No conditions.
  A key in a new box; Derive by one name; noughts of a hash.
-/
import Derived.Test.YtdgbcieopkilcaaDoorConv
import Derived.Test.YtdgbcieopkilcaaDoorEqArr
import Derived.Test.YtdgbcieopkilcaaDoorLu
namespace Go.Proofs.YtdgbcieopkilcaaDoor
open Go.ChangeAt Go.ChangeShapes Go.RowKit Go.WideShapes

/-- A key of a key. -/
def dvF (f : Nat → Int) (lab : List Int) : Nat → Int := fun j => (expandL (l32 f) lab 32).getD j 0
theorem dvF_byte (f : Nat → Int) (lab : List Int) (j : Nat) : 0 ≤ dvF f lab j ∧ dvF f lab j < 256 := getD_byte (expandL_byte _ _ _) j

theorem derive_dv (f : Nat → Int) (hf : ∀ j, j < 32 → 0 ≤ f j ∧ f j < 256) (s : ByteArray) (w : World) (hs : s.size ≤ 17179869184) (hk : KsAt 2 w) :
    Calls Tryd.prog 24 #[.agg (rowArr 32 fun j => .int .u8 (f j)), .string s] w fun e w' => e = .returned (.agg (rowArr 32 fun j => .int .u8 (dvF f (strB s) j))) ∧ Ext w w' :=
  derive_any f hf s w hs hk
/-- Two new arrays of 32 bytes: one with a key, one of noughts. -/
theorem key_box (w : World) (f : Nat → Int) (T : TypeId) : ∃ w2, (w.alloc (.cells (rowArr 32 fun j => .int .u8 (f j)) T)).alloc (.cells (Array.replicate 32 (.int .u8 0)) T) = w2 ∧ Ext w w2 ∧ w2.rowIs w.heap.size T 32 (fun j => .int .u8 (f j)) ∧ w2.rowIs (w.heap.size + 1) T 32 (fun _ => .int .u8 0) ∧ w.heap.size + 1 < w2.heap.size := by
  have e : (w.alloc (.cells (rowArr 32 fun j => .int .u8 (f j)) T)).heap.size = w.heap.size + 1 := by simp
  have h2 := start_zero32 T (w.alloc (.cells (rowArr 32 fun j => .int .u8 (f j)) T))
  rw [e] at h2
  exact ⟨_, rfl, ((Ext.refl w).alloc _).alloc _, (rowIs_of (heap_new w _ _ rfl)).alloc _, h2, h2.lt⟩
/-- The noughts of a built array. -/
theorem zero_hash (w : World) : (zeroValue 23).run Tryd.prog w = .ok (.agg (rowArr 32 fun _ => .int .u8 0)) w := by kernel_rfl
def zeroF : Nat → Int := fun _ => 0

end Go.Proofs.YtdgbcieopkilcaaDoor
