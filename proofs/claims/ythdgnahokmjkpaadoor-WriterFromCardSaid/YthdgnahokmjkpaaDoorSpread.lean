/-
  The walk of hash.spread: it returns the 64 words of a block of 64 bytes. No conditions.
-/
import Derived.Test.YthdgnahokmjkpaaDoorSha
import Derived.Deep.OwnRows
import Derived.Deep.MidRow
import Derived.BigQuiet
import Derived.StillTailTactics
import Derived.Deep.QuietTactic
namespace Go.Proofs.YthdgnahokmjkpaaDoor
open Go.ChangeShapes Go.WideShapes Go.ChangeAt Go.RowKit

attribute [local go_sem] U_xor U_and U_or U_addm U_subm U_not U_lo U_div8 U_div1024

theorem U_zero : U 0 = 0 := rfl

set_option maxHeartbeats 1000000 in
set_option maxRecDepth 100000 in
theorem spread_any (b off c : Nat) (xs : List Int) (w : World) (h : BsAt w (some ⟨b, off, none⟩) 64 c xs) :
    Calls Tryd.prog 57 #[.slice (some ⟨b, off, none⟩) 64 c] w fun e w' => e = .returned (.agg (rowArr 64 fun i => .int .u32 (U (W xs i)))) ∧ Ext w w' := by
  have hcap := h.cap
  have hlim := h.lim
  have hlen := h.len
  have H := Lib.hid h
  clear h
  go_enter Tryd.func57, Tryd.ntmps57
  go_wp2
  go_loopw [10] (fun i wr => ∃ k : Nat, k ≤ 16 ∧ i = .int .i64 k ∧ wr.rowIs (w.heap.size + 1) 69 64 (fun j => .int .u32 (if j < k then U (W xs j) else 0)) ∧ wr.rowIs w.heap.size 69 64 (fun _ => .int .u32 0) ∧ Below w.heap.size w wr)
    (fun i _ => 16 - (intOf i).toNat)
  case atStart =>
    refine ⟨0, Nat.zero_le _, rfl, ?_, ?_, ((Below.refl _ _).alloc (Nat.le_refl _) _).alloc (by simp) _⟩
    · have h1 := World.rowIs_alloc (w.alloc (.cells (Array.replicate 64 (.int .u32 0)) 69)) (Array.replicate 64 (.int .u32 0)) 69 (fun j => .int .u32 (if j < 0 then U (W xs j) else 0)) (fun i hi => by
        simp at hi
        simp [hi])
      have h2 : (w.alloc (.cells (Array.replicate 64 (.int .u32 0)) 69)).heap.size = w.heap.size + 1 := by simp
      rw [h2] at h1
      exact h1
    · exact (World.rowIs_alloc w (Array.replicate 64 (.int .u32 0)) 69 (fun _ => .int .u32 0) (fun i hi => by
        simp at hi
        simp [hi])).alloc _
  case round =>
    obtain ⟨k, hk, rfl, hR, hZ, hB⟩ := hrel
    by_cases hlt : k < 16
    · have hc := hR.cell (show k < 64 by omega)
      have hf := hR.frozen k
      simp only [Nat.lt_irrefl, if_false] at hc
      have hsub := (BsAt.below H.out hB (fun _ b' off' e => by
        simp only [Option.some.injEq, Addr.mk.injEq, and_true] at e
        obtain ⟨rfl, rfl⟩ := e
        obtain ⟨b1, o1, e1, h1⟩ := H.out.at_ (by omega)
        simp only [Option.some.injEq, Addr.mk.injEq, and_true] at e1
        obtain ⟨rfl, rfl⟩ := e1
        exact World.block_lt_of_cell? w _ (h1 0 (by omega)))).sub (4 * k) 4 (by omega)
      have HS := Lib.hid hsub
      clear hsub
      go_wp2_with fail
      refine (big_any (some ⟨b, off + 4 * k, none⟩) 4 (c - 4 * k) _ _ HS.out (by omega)).mono ?_
      rintro e w' ⟨rfl, rfl⟩
      go_wp2
      go_roundw
      case rel =>
        have hw : beI (List.take 4 (List.drop (4 * k) xs)) % 4294967296 = U (W xs k) := by
          have h1 := U_wordAt xs k H.out.byte
          have h2 := U_lo (wordAt xs k)
          have h3 := U_hi (wordAt xs k)
          rw [W_low xs k hlt]
          omega
        rw [hw]
        refine ⟨k + 1, by omega, by go_num, ?_, hZ.setOther (by simp) _, hB.setCell (by simp) _⟩
        refine (hR.set k _).congr fun j hj => ?_
        by_cases hjk : j = k
        · subst hjk
          simp
        · simp only [hjk, if_false]
          by_cases hlt : j < k
          · rw [if_pos hlt, if_pos (by omega)]
          · rw [if_neg hlt, if_neg (by omega)]
      case measure => simp [intOf]; omega
    · obtain rfl : k = 16 := by omega
      rw [show ((16 : Nat) : Int) = 16 from rfl]
      go_wp2
      go_loopw [5] (fun i wq => ∃ m : Nat, 16 ≤ m ∧ m ≤ 64 ∧ i = .int .i64 m ∧ wq.rowIs (w.heap.size + 1) 69 64 (fun j => .int .u32 (if j < m then U (W xs j) else 0)) ∧ wq.rowIs w.heap.size 69 64 (fun _ => .int .u32 0) ∧ Below w.heap.size w wq)
        (fun i _ => 64 - (intOf i).toNat)
      case atStart => exact ⟨16, by omega, by omega, rfl, hR, hZ, hB⟩
      case round =>
        obtain ⟨m, hm1, hm2, rfl, hR, hZ, hB⟩ := hrel
        by_cases hlt : m < 64
        · have hcm := hR.cell hlt
          have hfm := hR.frozen m
          have hc16 := hR.cell (show m - 16 < 64 by omega)
          have hc15 := hR.cell (show m - 15 < 64 by omega)
          have hc7 := hR.cell (show m - 7 < 64 by omega)
          have hc2 := hR.cell (show m - 2 < 64 by omega)
          rw [if_pos (by omega)] at hc16 hc15 hc7 hc2
          rw [if_neg (by omega)] at hcm
          have e15 : IntKind.i64.wrap ((m : Int) - 15) = (m : Int) - 15 := IntWalk.i64_in _ (by omega)
          have e2 : IntKind.i64.wrap ((m : Int) - 2) = (m : Int) - 2 := IntWalk.i64_in _ (by omega)
          have l15 : (0 : Int) ≤ (m : Int) - 15 := by omega
          have l2 : (0 : Int) ≤ (m : Int) - 2 := by omega
          have t15 : ((m : Int) - 15).toNat = m - 15 := by omega
          have t2 : ((m : Int) - 2).toNat = m - 2 := by omega
          have u15 : (m : Int) - 15 < 64 := by omega
          have u2 : (m : Int) - 2 < 64 := by omega
          go_wp2_with fail
          go_quiet (fail)
          clear e15 e2 t15 t2
          go_wp2_with (go_at_call 58; refine (rotate_neg _ _ _ (by omega) (by omega)).mono ?_; rintro e w' ⟨rfl, rfl⟩)
          have e16 : IntKind.i64.wrap ((m : Int) - 16) = (m : Int) - 16 := IntWalk.i64_in _ (by omega)
          have e7 : IntKind.i64.wrap ((m : Int) - 7) = (m : Int) - 7 := IntWalk.i64_in _ (by omega)
          have l16 : (0 : Int) ≤ (m : Int) - 16 := by omega
          have l7 : (0 : Int) ≤ (m : Int) - 7 := by omega
          have t16 : ((m : Int) - 16).toNat = m - 16 := by omega
          have t7 : ((m : Int) - 7).toNat = m - 7 := by omega
          have x16 : (m : Int) - 16 < 64 := by omega
          have x7 : (m : Int) - 7 < 64 := by omega
          have y16 : (16 : Int) ≤ (m : Int) := by omega
          have y7 : (7 : Int) ≤ (m : Int) := by omega
          refine wp_region_quietT 15 (by kernel_rfl) (by kernel_rfl) ?_
          simp only [List.take_succ_cons, List.take_zero, List.drop_succ_cons, List.drop_zero]
          repeat (go_big_quiet_step (fail))
          refine wpQuiet_nil ?_
          intro _ hw'
          obtain ⟨nq2, hw''⟩ := hw'
          subst hw''
          clear e16 e7 t16 t7
          go_wp2
          go_roundw
          case rel =>
            refine ⟨m + 1, by omega, by omega, by go_num, ?_, ?_, ?_⟩
            · have h0 := W_high xs m hm1
              unfold s0 s1 at h0
              rw [← h0]
              have hR' : (wr.drewN (nq + nq2)).rowIs (w.heap.size + 1) 69 64 (fun j => .int .u32 (if j < m then U (W xs j) else 0)) := hR
              refine (hR'.set m _).congr fun j hj => ?_
              by_cases hjk : j = m
              · subst hjk
                simp
              · simp only [hjk, if_false]
                by_cases hlt : j < m
                · rw [if_pos hlt, if_pos (by omega)]
                · rw [if_neg hlt, if_neg (by omega)]
            · exact World.rowIs.setOther (w := wr.drewN (nq + nq2)) hZ (by show w.heap.size ≠ w.heap.size + 1; omega) _
            · exact (below_drewN' hB _).setCell (by show w.heap.size ≤ w.heap.size + 1; omega) _
          case measure => simp [intOf]; omega
        · obtain rfl : m = 64 := by omega
          have hR' : wr.rowIs (w.heap.size + 1) 69 64 (fun j => .int .u32 (U (W xs j))) := hR.congr fun j hj => by rw [if_pos hj]
          have hg := rowIs_cells hR'
          have hz := rowIs_cells hZ
          have Hg := Lib.hid hg
          have Hz := Lib.hid hz
          clear hg hz
          go_wp2_with (first
            | (refine wpList_load_row rfl 69 _ rfl _ rfl _ _ _ _ Hg.out Tryd.underlying69 rfl (by kernel_rfl) ?_)
            | (refine wpList_store_row rfl 69 _ _ rfl _ _ rfl rfl _ _ Hz.out (by kernel_rfl) (by rw [rowArr_size, rowArr_size]) (rowArr_one fun _ _ => rfl) ?_))
          refine bodyPost_ret (results_cell_row rfl _ _ w.heap.size _ _ _ _ rfl (setRow_heap wr w.heap.size _ _ _ _ Hz.out) Tryd.underlying69 rfl (by kernel_rfl)) rfl ⟨rfl, ?_⟩
          exact below_setRow hB (Nat.le_refl _) _

end Go.Proofs.YthdgnahokmjkpaaDoor
