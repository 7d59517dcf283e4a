/-
  The walk of jalousieref06.Bucket. No conditions.
-/
import Derived.Test.YtldaligeckjhaaaPadIs
namespace Go.Proofs.Ytldaligeckjhaaa
open Go.ChangeShapes Go.WideShapes Go.ChangeAt Go.RowKit

def rbF (m : Int) : Int := if m < 64 then 64 else if m < 128 then 128 else if m < 256 then 256 else if m < 512 then 512 else if m < 1024 then 1024 else if m < 2048 then 2048 else 0
def sizesV : Array Value := #[.int .i64 64, .int .i64 128, .int .i64 256, .int .i64 512, .int .i64 1024, .int .i64 2048]
set_option maxRecDepth 100000 in
theorem zero_sizes (w : World) : (zeroValue 103).run Try.prog w = .ok (.agg (Array.replicate 6 (.int .i64 0))) w := by kernel_rfl
set_option maxRecDepth 100000 in
theorem build_sizes (w : World) : (Instr.build 103 #[(0, .int .i64 64), (1, .int .i64 128), (2, .int .i64 256), (3, .int .i64 512), (4, .int .i64 1024), (5, .int .i64 2048)]).run Try.prog w = .ok (.agg sizesV) w := by kernel_rfl

set_option maxHeartbeats 1000000 in
set_option maxRecDepth 100000 in
theorem refBkt_any (m : Int) (w : World) : Calls Try.prog 56 #[.int .i64 m] w fun e w' => e = .returned (.int .i64 (rbF m)) ∧ Ext w w' := by
  obtain ⟨R, hR⟩ : ∃ R, rbF m = R := ⟨_, rfl⟩
  have HR := Lib.hid hR
  rw [hR]
  clear hR
  have hz := zero_sizes
  have hb := build_sizes
  obtain ⟨w2, hw2⟩ : ∃ x, w.alloc (.cells sizesV 103) = x := ⟨_, rfl⟩
  obtain ⟨g, hg⟩ : ∃ g, w.heap.size = g := ⟨_, rfl⟩
  have h2 : w2.heap[g]? = some (.cells sizesV 103 (0, 0)) := by rw [← hw2, ← hg]; exact heap_new w _ _ rfl
  have hE2 : Ext w w2 := by rw [← hw2]; exact (Ext.refl w).alloc _
  have hc : ∀ i, w2.cell? ⟨g, i, none⟩ = sizesV[i]? := fun i => by unfold World.cell?; simp only [h2]; rfl
  have c0 : w2.cell? ⟨g, 0, none⟩ = some (.int .i64 64) := hc 0
  have c1 : w2.cell? ⟨g, 1, none⟩ = some (.int .i64 128) := hc 1
  have c2 : w2.cell? ⟨g, 2, none⟩ = some (.int .i64 256) := hc 2
  have c3 : w2.cell? ⟨g, 3, none⟩ = some (.int .i64 512) := hc 3
  have c4 : w2.cell? ⟨g, 4, none⟩ = some (.int .i64 1024) := hc 4
  have c5 : w2.cell? ⟨g, 5, none⟩ = some (.int .i64 2048) := hc 5
  have Hw2 := Lib.hid hw2
  have HE2 := Lib.hid hE2
  have Hg := Lib.hid hg
  clear hw2 h2 hE2 hg hc
  go_enter Try.func56, Try.ntmps56
  go_upto_region 2 with (fail)
  refine wp_world (w' := w2) (by rw [← Hw2.out]; rfl) ?_
  rw [Hg.out]
  clear Hw2
  go_wp2
  go_loopw [4] (fun i wr => ∃ k : Nat, k ≤ 6 ∧ i = .int .i64 (k : Int) ∧ (0 < k → 64 ≤ m) ∧ (1 < k → 128 ≤ m) ∧ (2 < k → 256 ≤ m) ∧ (3 < k → 512 ≤ m) ∧ (4 < k → 1024 ≤ m) ∧ (5 < k → 2048 ≤ m) ∧ wr = w2) (fun i _ => 6 - (intOf i).toNat)
  case atStart => exact ⟨0, Nat.zero_le _, rfl, by omega, by omega, by omega, by omega, by omega, by omega, rfl⟩
  case round =>
    obtain ⟨k, hk, rfl, k0, k1, k2, k3, k4, k5, rfl⟩ := hrel
    rcases (by omega : k = 0 ∨ k = 1 ∨ k = 2 ∨ k = 3 ∨ k = 4 ∨ k = 5 ∨ k = 6) with rfl | rfl | rfl | rfl | rfl | rfl | rfl
    · by_cases h : m < 64
      · have hr : R = 64 := by rw [← HR.out]; unfold rbF; repeat (first | rw [if_neg (by omega)] | rw [if_pos (by omega)])
        subst hr
        clear k0 k1 k2 k3 k4 k5
        go_wp2
        go_ret
        exact ⟨rfl, HE2.out⟩
      · have h' : 64 ≤ m := by omega
        clear k0 k1 k2 k3 k4 k5
        go_wp2
        go_roundw
        case rel => exact ⟨1, by omega, rfl, by omega, by omega, by omega, by omega, by omega, by omega, by first | rfl | trivial⟩
        case measure => simp [intOf]
    · have q := k0 (by omega)
      by_cases h : m < 128
      · have hr : R = 128 := by rw [← HR.out]; unfold rbF; repeat (first | rw [if_neg (by omega)] | rw [if_pos (by omega)])
        subst hr
        clear k0 k1 k2 k3 k4 k5
        go_wp2
        go_ret
        exact ⟨rfl, HE2.out⟩
      · have h' : 128 ≤ m := by omega
        clear k0 k1 k2 k3 k4 k5
        go_wp2
        go_roundw
        case rel => exact ⟨2, by omega, rfl, by omega, by omega, by omega, by omega, by omega, by omega, by first | rfl | trivial⟩
        case measure => simp [intOf]
    · have q := k1 (by omega)
      by_cases h : m < 256
      · have hr : R = 256 := by rw [← HR.out]; unfold rbF; repeat (first | rw [if_neg (by omega)] | rw [if_pos (by omega)])
        subst hr
        clear k0 k1 k2 k3 k4 k5
        go_wp2
        go_ret
        exact ⟨rfl, HE2.out⟩
      · have h' : 256 ≤ m := by omega
        clear k0 k1 k2 k3 k4 k5
        go_wp2
        go_roundw
        case rel => exact ⟨3, by omega, rfl, by omega, by omega, by omega, by omega, by omega, by omega, by first | rfl | trivial⟩
        case measure => simp [intOf]
    · have q := k2 (by omega)
      by_cases h : m < 512
      · have hr : R = 512 := by rw [← HR.out]; unfold rbF; repeat (first | rw [if_neg (by omega)] | rw [if_pos (by omega)])
        subst hr
        clear k0 k1 k2 k3 k4 k5
        go_wp2
        go_ret
        exact ⟨rfl, HE2.out⟩
      · have h' : 512 ≤ m := by omega
        clear k0 k1 k2 k3 k4 k5
        go_wp2
        go_roundw
        case rel => exact ⟨4, by omega, rfl, by omega, by omega, by omega, by omega, by omega, by omega, by first | rfl | trivial⟩
        case measure => simp [intOf]
    · have q := k3 (by omega)
      by_cases h : m < 1024
      · have hr : R = 1024 := by rw [← HR.out]; unfold rbF; repeat (first | rw [if_neg (by omega)] | rw [if_pos (by omega)])
        subst hr
        clear k0 k1 k2 k3 k4 k5
        go_wp2
        go_ret
        exact ⟨rfl, HE2.out⟩
      · have h' : 1024 ≤ m := by omega
        clear k0 k1 k2 k3 k4 k5
        go_wp2
        go_roundw
        case rel => exact ⟨5, by omega, rfl, by omega, by omega, by omega, by omega, by omega, by omega, by first | rfl | trivial⟩
        case measure => simp [intOf]
    · have q := k4 (by omega)
      by_cases h : m < 2048
      · have hr : R = 2048 := by rw [← HR.out]; unfold rbF; repeat (first | rw [if_neg (by omega)] | rw [if_pos (by omega)])
        subst hr
        clear k0 k1 k2 k3 k4 k5
        go_wp2
        go_ret
        exact ⟨rfl, HE2.out⟩
      · have h' : 2048 ≤ m := by omega
        clear k0 k1 k2 k3 k4 k5
        go_wp2
        go_roundw
        case rel => exact ⟨6, by omega, rfl, by omega, by omega, by omega, by omega, by omega, by omega, by first | rfl | trivial⟩
        case measure => simp [intOf]
    · have q := k5 (by omega)
      have hr : R = 0 := by rw [← HR.out]; unfold rbF; repeat (first | rw [if_neg (by omega)] | rw [if_pos (by omega)])
      subst hr
      clear k0 k1 k2 k3 k4 k5
      go_wp2
      go_ret
      exact ⟨rfl, HE2.out⟩

end Go.Proofs.Ytldaligeckjhaaa
