/-
  The walk of (*state).mix: a block is taken into the eight words. Asked: the table of 64 words lies as the text lays it.
-/
import Derived.Test.YthdgnahokmjkpaaDoorSpread
namespace Go.Proofs.YthdgnahokmjkpaaDoor
open Go.ChangeShapes Go.WideShapes Go.ChangeAt Go.RowKit

attribute [local go_sem] U_xor U_and U_or U_addm U_subm U_not U_lo U_notx U_sum3 U_sum4

/-- The program's table. -/
def KsAt (g : Nat) (w : World) : Prop := ∀ i, i < 64 → w.cell? ⟨g, i, none⟩ = some (.int .u32 (U (K i)))

set_option maxHeartbeats 2000000 in
set_option maxRecDepth 100000 in
theorem mix_any (bs b off c : Nat) (xs : List Int) (s : S8) (w : World) (h : BsAt w (some ⟨b, off, none⟩) 64 c xs) (hs : w.rowIs bs 75 8 (fun i => .int .u32 (U (s.get i))))
    (hk : KsAt 1 w) :
    Calls Tryd.prog 48 #[.pointer (some ⟨bs, 0, none⟩), .slice (some ⟨b, off, none⟩) 64 c] w fun e w' =>
      e = .returned (.tuple #[]) ∧ w.grownBy w' (some bs) ∧ w'.rowIs bs 75 8 (fun i => .int .u32 (U ((mixS xs s).get i))) := by
  have H := Lib.hid h
  have HK := Lib.hid hk
  have HS := Lib.hid hs
  have hlt := hs.lt
  clear h hk hs
  go_enter Tryd.func48, Tryd.ntmps48
  go_wp2_with fail
  refine (spread_any b off c xs w H.out).mono ?_
  rintro e w1 ⟨rfl, hE⟩
  have hsz := hE.size
  have HS1 := Lib.hid (HS.out.of_block (hE.block hlt))
  have hg1 : ∀ (o : Obj), (w1.alloc o).heap[bs]? = some (.cells (rowArr 8 fun i => .int .u32 (U (s.get i))) 75 (0, 0)) := fun o => by
    rw [Below.heap_alloc _ _ _ (by omega)]
    exact rowIs_cells HS1.out
  have Hg1 := Lib.hid hg1
  clear hg1
  go_wp2_with (first
    | (refine wpList_store_row rfl 69 _ _ rfl w1.heap.size _ rfl rfl _ _ (heap_new w1 _ _ rfl) (by kernel_rfl) (by rw [rowArr_size]; rfl) (rowArr_one fun _ _ => rfl) ?_; rw [setRow_new w1 _ _ _ _ rfl])
    | (refine wpList_load_row rfl 75 _ rfl bs rfl _ _ _ _ (Hg1.out _) Tryd.underlying75 rfl (by kernel_rfl) ?_)
    | (refine wpList_store_row rfl 75 _ _ rfl (w1.heap.size + 1) _ rfl rfl _ _ (heap_new _ _ _ (by simp)) (by kernel_rfl) (by rw [rowArr_size]; rfl) (rowArr_one fun _ _ => rfl) ?_; rw [setRow_new _ _ _ _ _ (by simp)]))
  have hW0 : ((w1.alloc (.cells (rowArr 64 fun i => .int .u32 (U (W xs i))) 69)).alloc (.cells (rowArr 8 fun i => .int .u32 (U (s.get i))) 75)).rowIs w1.heap.size 69 64 (fun i => .int .u32 (U (W xs i))) :=
    (rowIs_of (heap_new w1 _ _ rfl)).alloc _
  have hV0 : ((w1.alloc (.cells (rowArr 64 fun i => .int .u32 (U (W xs i))) 69)).alloc (.cells (rowArr 8 fun i => .int .u32 (U (s.get i))) 75)).rowIs (w1.heap.size + 1) 75 8 (fun i => .int .u32 (U (s.get i))) :=
    rowIs_of (heap_new _ _ _ (by simp))
  have hB0 : Below w1.heap.size w1 ((w1.alloc (.cells (rowArr 64 fun i => .int .u32 (U (W xs i))) 69)).alloc (.cells (rowArr 8 fun i => .int .u32 (U (s.get i))) 75)) :=
    ((Below.refl _ _).alloc (Nat.le_refl _) _).alloc (by simp) _
  go_loopw [17] (fun i wr => ∃ k : Nat, k ≤ 64 ∧ i = .int .i64 k ∧ wr.rowIs w1.heap.size 69 64 (fun i => .int .u32 (U (W xs i))) ∧ wr.rowIs (w1.heap.size + 1) 75 8 (fun i => .int .u32 (U ((rnds xs s k).get i))) ∧ Below w1.heap.size w1 wr)
    (fun i _ => 64 - (intOf i).toNat)
  case atStart => exact ⟨0, Nat.zero_le _, rfl, hW0, hV0, hB0⟩
  case round =>
    obtain ⟨k, hk, rfl, hW, hV, hB⟩ := hrel
    clear hW0 hV0 hB0
    by_cases hlt : k < 64
    · have hK : wr.cell? ⟨1, k, none⟩ = some (.int .u32 (U (K k))) := by
        have h0 := HK.out k hlt
        have hb := World.block_lt_of_cell? w _ h0
        rw [Below.cell hB (Nat.lt_of_lt_of_le hb hsz), Ext.cell hE hb]
        exact h0
      have hw := hW.cell hlt
      obtain ⟨r, hr⟩ : ∃ r, rnds xs s k = r := ⟨_, rfl⟩
      have hstep : rnds xs s (k + 1) = rnd (K k) (W xs k) r := by rw [rnds, hr]
      rw [hr] at hV
      have Hr := Lib.hid hr
      have Hstep := Lib.hid hstep
      clear hr hstep
      have c0 : wr.cell? ⟨w1.heap.size + 1, 0, none⟩ = some (.int .u32 (U r.a)) := hV.cell (by omega)
      have c1 : wr.cell? ⟨w1.heap.size + 1, 1, none⟩ = some (.int .u32 (U r.b)) := hV.cell (by omega)
      have c2 : wr.cell? ⟨w1.heap.size + 1, 2, none⟩ = some (.int .u32 (U r.c)) := hV.cell (by omega)
      have c3 : wr.cell? ⟨w1.heap.size + 1, 3, none⟩ = some (.int .u32 (U r.d)) := hV.cell (by omega)
      have c4 : wr.cell? ⟨w1.heap.size + 1, 4, none⟩ = some (.int .u32 (U r.e)) := hV.cell (by omega)
      have c5 : wr.cell? ⟨w1.heap.size + 1, 5, none⟩ = some (.int .u32 (U r.f)) := hV.cell (by omega)
      have c6 : wr.cell? ⟨w1.heap.size + 1, 6, none⟩ = some (.int .u32 (U r.g)) := hV.cell (by omega)
      have c7 : wr.cell? ⟨w1.heap.size + 1, 7, none⟩ = some (.int .u32 (U r.h)) := hV.cell (by omega)
      have x1 : (0 : Int) ≤ (k : Int) := by omega
      have x2 : (k : Int) < 64 := by omega
      go_wp2_with fail
      go_quiet (first
        | (go_at_call 58; exact quiet_left (rotate_neg _ _ _ (by omega) (by omega)))
        | (go_at_call 58; exact quiet_add_left (rotate_neg _ _ _ (by omega) (by omega))))
      go_wp2_with fail
      go_quiet (fail)
      go_wp2_with fail
      go_quiet (first
        | (go_at_call 58; exact quiet_left (rotate_neg _ _ _ (by omega) (by omega)))
        | (go_at_call 58; exact quiet_add_left (rotate_neg _ _ _ (by omega) (by omega))))
      have f0 := hV.frozen 0
      have f1 := hV.frozen 1
      have f2 := hV.frozen 2
      have f3 := hV.frozen 3
      have f4 := hV.frozen 4
      have f5 := hV.frozen 5
      have f6 := hV.frozen 6
      have f7 := hV.frozen 7
      go_wp2
      go_roundw
      case rel =>
        refine ⟨k + 1, by omega, by go_num, ?_, ?_, ?_⟩
        · exact rowIs_set8_other (w := wr.drewN _) hW (by omega) _ _ _ _ _ _ _ _
        · rw [Hstep.out]
          exact rowIs_set8 (w := wr.drewN _) (g := fun i => .int .u32 (U ((rnd (K k) (W xs k) r).get i))) hV
        · exact below_set8 (below_drewN' hB _) (by omega) _ _ _ _ _ _ _ _
      case measure => simp [intOf]; omega
    · obtain rfl : k = 64 := by omega
      have hS2 : wr.rowIs bs 75 8 (fun i => .int .u32 (U (s.get i))) := HS1.out.of_block (hB.block bs (by omega))
      rw [show ((64 : Nat) : Int) = 64 from rfl]
      go_wp2
      have hG : w.grownBy wr (some bs) := grown_below (grown_ext hE _) hB (Nat.le_refl _)
      clear hW hB
      go_loopw [107] (fun i wq => ∃ k : Nat, k ≤ 8 ∧ i = .int .i64 k ∧ wq.rowIs bs 75 8 (fun i => .int .u32 (U (if i < k then (mixS xs s).get i else s.get i))) ∧ wq.rowIs (w1.heap.size + 1) 75 8 (fun i => .int .u32 (U ((rnds xs s 64).get i))) ∧ w.grownBy wq (some bs))
        (fun i _ => 8 - (intOf i).toNat)
      case atStart => exact ⟨0, Nat.zero_le _, rfl, hS2.congr fun i _ => by simp, hV, hG⟩
      case round =>
        obtain ⟨k, hk, rfl, hS, hV, hG⟩ := hrel
        by_cases hlt : k < 8
        · have c1 := hS.cell hlt
          have f1 := hS.frozen k
          have c2 := hV.cell hlt
          rw [if_neg (by omega)] at c1
          have x1 : (0 : Int) ≤ (k : Int) := by omega
          have x2 : (k : Int) < 8 := by omega
          go_wp2_with fail
          refine wp_region_quietT 11 (by kernel_rfl) (by kernel_rfl) ?_
          simp only [List.take_succ_cons, List.take_zero, List.drop_succ_cons, List.drop_zero]
          repeat (go_big_quiet_step (fail))
          refine wpQuiet_nil ?_
          intro _ hw'
          obtain ⟨nq2, hw''⟩ := hw'
          subst hw''
          go_wp2
          go_roundw
          case rel =>
            refine ⟨k + 1, by omega, by go_num, ?_, ?_, ?_⟩
            · refine (World.rowIs.set (w := wr.drewN nq2) hS k _).congr fun j hj => ?_
              by_cases hjk : j = k
              · subst hjk
                rw [if_pos rfl, if_pos (by omega), mixS_get xs s j hj]
              · rw [if_neg hjk]
                by_cases hlt : j < k
                · rw [if_pos hlt, if_pos (by omega)]
                · rw [if_neg hlt, if_neg (by omega)]
            · exact World.rowIs.setOther (w := wr.drewN nq2) hV (by show w1.heap.size + 1 ≠ bs; omega) _
            · exact grown_setCell (grown_drewN hG _) rfl _
          case measure => simp [intOf]; omega
        · obtain rfl : k = 8 := by omega
          go_wp2
          go_end0
          exact ⟨rfl, hG, hS.congr fun i hi => by rw [if_pos hi]⟩

end Go.Proofs.YthdgnahokmjkpaaDoor
