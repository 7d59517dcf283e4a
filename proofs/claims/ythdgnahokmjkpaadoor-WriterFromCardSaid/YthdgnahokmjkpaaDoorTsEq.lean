/-
  The walk of slices.Equal at tokens. No conditions.
-/
import Derived.Test.YthdgnahokmjkpaaDoorHd
namespace Go.Proofs.YthdgnahokmjkpaaDoor
open Go.ChangeShapes Go.WideShapes Go.ChangeAt Go.RowKit

/-- The first n of two functions are the same. -/
def arrB (n : Nat) (f g : Nat → Int) : Bool := decide (∀ j, j < n → f j = g j)
theorem eql_h (w : World) (f g : Nat → Int) : (binOp .eql 29 (.agg (rowArr 32 fun j => .int .u8 (f j))) (.agg (rowArr 32 fun j => .int .u8 (g j)))).run Tryd.prog w = .ok (.bool (arrB 32 f g)) w :=
  run_eql_arr w 29 5 32 .u8 Tryd.underlying29 Tryd.underlying5 size_u8 f g
theorem neq_h (w : World) (f g : Nat → Int) : (binOp .neq 29 (.agg (rowArr 32 fun j => .int .u8 (f j))) (.agg (rowArr 32 fun j => .int .u8 (g j)))).run Tryd.prog w = .ok (.bool (!arrB 32 f g)) w :=
  run_neq_arr w 29 5 32 .u8 Tryd.underlying29 Tryd.underlying5 size_u8 f g
theorem eql_t (w : World) (f g : Nat → Int) : (binOp .eql 31 (.agg (rowArr 16 fun j => .int .u8 (f j))) (.agg (rowArr 16 fun j => .int .u8 (g j)))).run Tryd.prog w = .ok (.bool (arrB 16 f g)) w :=
  run_eql_arr w 31 5 16 .u8 Tryd.underlying31 Tryd.underlying5 size_u8 f g
theorem neq_t (w : World) (f g : Nat → Int) : (binOp .neq 31 (.agg (rowArr 16 fun j => .int .u8 (f j))) (.agg (rowArr 16 fun j => .int .u8 (g j)))).run Tryd.prog w = .ok (.bool (!arrB 16 f g)) w :=
  run_neq_arr w 31 5 16 .u8 Tryd.underlying31 Tryd.underlying5 size_u8 f g
set_option maxRecDepth 100000 in
theorem size_u64 (w : World) : (sizeOf 27).run Tryd.prog w = .ok 1 w := by kernel_rfl
theorem eql_k (w : World) (f g : Nat → Int) : (binOp .eql 33 (.agg (rowArr 6 fun j => .int .u64 (f j))) (.agg (rowArr 6 fun j => .int .u64 (g j)))).run Tryd.prog w = .ok (.bool (arrB 6 f g)) w :=
  run_eql_arr w 33 27 6 .u64 Tryd.underlying33 Tryd.underlying27 size_u64 f g

/-- From the k-th on the tokens are the same. -/
def tsFrom (ts us : List (Nat → Int)) (n k : Nat) : Bool := (List.range n).all fun i => decide (i < k) || arrB 16 (ts.getD i fun _ => 0) (us.getD i fun _ => 0)
theorem tsFrom_iff (ts us : List (Nat → Int)) (n k : Nat) : tsFrom ts us n k = true ↔ ∀ i, i < n → k ≤ i → arrB 16 (ts.getD i fun _ => 0) (us.getD i fun _ => 0) = true := by
  unfold tsFrom
  rw [List.all_eq_true]
  constructor
  · intro q i h1 h2
    have := q i (List.mem_range.2 h1)
    rw [decide_eq_false (by omega)] at this
    exact this
  · intro q i hi
    by_cases h : i < k
    · rw [decide_eq_true h]; rfl
    · rw [q i (List.mem_range.1 hi) (by omega)]; simp
theorem tsFrom_step (ts us : List (Nat → Int)) (n k : Nat) (h : k < n) : tsFrom ts us n k = (arrB 16 (ts.getD k fun _ => 0) (us.getD k fun _ => 0) && tsFrom ts us n (k + 1)) := by
  rw [Bool.eq_iff_iff, Bool.and_eq_true, tsFrom_iff, tsFrom_iff]
  constructor
  · exact fun q => ⟨q k h (Nat.le_refl _), fun i h1 h2 => q i h1 (by omega)⟩
  · rintro ⟨q1, q2⟩ i h1 h2
    by_cases hi : i = k
    · subst hi; exact q1
    · exact q2 i h1 (by omega)
theorem tsFrom_end (ts us : List (Nat → Int)) (n : Nat) : tsFrom ts us n n = true := (tsFrom_iff ts us n n).2 (fun i h1 h2 => by omega)
def tsB (ts us : List (Nat → Int)) : Bool := decide (ts.length = us.length) && tsFrom ts us ts.length 0

set_option maxHeartbeats 1000000 in
set_option maxRecDepth 100000 in
theorem tsEq_any (a : Option Addr) (n c : Nat) (ts : List (Nat → Int)) (a' : Option Addr) (n' c' : Nat) (us : List (Nat → Int)) (w : World) (h : TsAt w a n c ts) (h' : TsAt w a' n' c' us) :
    Calls Tryd.prog 31 #[.slice a n c, .slice a' n' c'] w fun e w' => e = .returned (.bool (tsB ts us)) ∧ Ext w w' := by
  have hlen := h.len
  have hlen' := h'.len
  have hsm := h.small
  have hsm' := h'.small
  have kne := neq_t
  have H := Lib.hid h
  have H' := Lib.hid h'
  by_cases hn : n = n'
  · subst hn
    have hT : tsB ts us = tsFrom ts us n 0 := by unfold tsB; rw [decide_eq_true (by omega), hlen]; rfl
    rw [hT]
    have Hst := Lib.hid (fun k hk => tsFrom_step ts us n k hk)
    have Hen := Lib.hid (tsFrom_end ts us n)
    obtain ⟨F, hF⟩ : ∃ F, tsFrom ts us n = F := ⟨_, rfl⟩
    rw [hF] at Hst Hen ⊢
    obtain ⟨R, hR⟩ : ∃ R, F 0 = R := ⟨_, rfl⟩
    have H0 := Lib.hid hR
    rw [hR]
    clear h h' hlen hlen' hT hF hR
    go_enter Tryd.func31, Tryd.ntmps31
    go_wp2
    go_loopw [13] (fun i wr => ∃ m : Nat, m ≤ n ∧ i = .int .i64 (m : Int) ∧ F m = R ∧ Ext w wr) (fun i _ => n - (intOf i).toNat)
    case atStart => exact ⟨0, Nat.zero_le _, rfl, H0.out, Ext.refl _⟩
    case round =>
      obtain ⟨m, hm, rfl, hr, hE⟩ := hrel
      have HE := Lib.hid hE
      by_cases hlt : m < n
      · obtain ⟨b, off, rfl, hc⟩ := H.out.at_ (by omega)
        obtain ⟨b', off', rfl, hc'⟩ := H'.out.at_ (by omega)
        have hs := Hst.out m hlt
        rw [hr] at hs
        obtain ⟨X, hX⟩ : ∃ X, (ts.getD m fun _ => 0) = X := ⟨_, rfl⟩
        obtain ⟨Y, hY⟩ : ∃ Y, (us.getD m fun _ => 0) = Y := ⟨_, rfl⟩
        rw [hX, hY] at hs
        have hE1 : Ext w wr.drew := HE.out.drew
        have HC := Lib.hid (show ∀ j, j < 16 → wr.drew.cell? ⟨b, off + m * 16 + j, none⟩ = some (.int .u8 (X j)) from fun j hj => by
          have h1 := hc m hlt j hj
          rw [hX] at h1
          rw [Ext.cell hE1 (World.block_lt_of_cell? w _ h1)]
          exact h1)
        have HC' := Lib.hid (show ∀ j, j < 16 → wr.drew.cell? ⟨b', off' + m * 16 + j, none⟩ = some (.int .u8 (Y j)) from fun j hj => by
          have h1 := hc' m hlt j hj
          rw [hY] at h1
          rw [Ext.cell hE1 (World.block_lt_of_cell? w _ h1)]
          exact h1)
        have HX0 := Lib.hid (show ∀ x, Ext wr.drew x → Ext w x from fun x hx => hE1.trans hx)
        have Hs := Lib.hid hs
        have x1 : (m : Int) < (n : Int) := by omega
        have x3 : (m : Int) ≤ 140737488355328 := by omega
        clear hc hc' hX hY hE1 hs hr hE
        go_upto_region 6 with (fail)
        refine wp_region_lexA (by kernel_rfl) (by kernel_rfl) ?_
        refine lx_e (.slice (some ⟨b, off, none⟩) n c) [] (by kernel_rfl) rfl (by rfl) (fun w1 hw1 => ?_) ?_
        · simp only [pk, lexVals]
          go_simp
          exact ⟨Ext.refl _, rfl⟩
        refine lx_e (.int .i64 (m : Int)) [] (by kernel_rfl) rfl (by rfl) (fun w1 hw1 => ?_) ?_
        · simp only [pk, lexVals]
          go_simp
          exact ⟨Ext.refl _, rfl⟩
        refine lx_e (.pointer (some ⟨b, off + m * 16, none⟩)) [(1, 16), (0, 17)] (by kernel_rfl) rfl (by rfl) (fun w1 hw1 => ?_) ?_
        · simp only [pk, nthSp, lexVals]
          exact lu_idx rfl rfl rfl (by omega)
        refine lx_e (.agg (rowArr 16 fun j => .int .u8 (X j))) [(0, 18)] (by kernel_rfl) rfl (by rfl) (fun w1 hw1 => ?_) ?_
        · simp only [pk, nthSp, lexVals]
          exact lu_tok rfl rfl (fun j hj => by rw [Ext.cell (hw1) (World.block_lt_of_cell? _ _ (HC.out j hj))]; exact HC.out j hj)
        refine lx_e (.slice (some ⟨b', off', none⟩) n c') [] (by kernel_rfl) rfl (by rfl) (fun w1 hw1 => ?_) ?_
        · simp only [pk, lexVals]
          go_simp
          exact ⟨Ext.refl _, rfl⟩
        refine lx_e (.int .i64 (m : Int)) [] (by kernel_rfl) rfl (by rfl) (fun w1 hw1 => ?_) ?_
        · simp only [pk, lexVals]
          go_simp
          exact ⟨Ext.refl _, rfl⟩
        refine lx_e (.pointer (some ⟨b', off' + m * 16, none⟩)) [(1, 20), (0, 21)] (by kernel_rfl) rfl (by rfl) (fun w1 hw1 => ?_) ?_
        · simp only [pk, nthSp, lexVals]
          exact lu_idx rfl rfl rfl (by omega)
        refine lx_e (.agg (rowArr 16 fun j => .int .u8 (Y j))) [(0, 22)] (by kernel_rfl) rfl (by rfl) (fun w1 hw1 => ?_) ?_
        · simp only [pk, nthSp, lexVals]
          exact lu_tok rfl rfl (fun j hj => by rw [Ext.cell (hw1) (World.block_lt_of_cell? _ _ (HC'.out j hj))]; exact HC'.out j hj)
        refine lx_e (.bool (!arrB 16 X Y)) [(4, 19), (0, 23)] (by kernel_rfl) rfl (by rfl) (fun w1 hw1 => ?_) ?_
        · simp only [pk, nthSp, lexVals]
          go_simp
          exact ⟨Ext.refl _, rfl⟩
        refine lx_stopA (by rfl) fun w7 hw7 => ?_
        have HE7 := Lib.hid (HX0.out w7 hw7)
        clear hw7
        simp only [rv, pf, lexVals]
        simp only [Act.put, List.setIfInBounds_toArray, List.set_cons_zero, List.set_cons_succ]
        obtain ⟨B, hB⟩ : ∃ B, arrB 16 X Y = B := ⟨_, rfl⟩
        rw [hB] at Hs ⊢
        clear hB
        cases B with
        | false =>
          have hR : R = false := Hs.out
          go_wp2_with fail
          go_ret
          exact ⟨by first | rfl | (rw [hR]; rfl), HE7.out⟩
        | true =>
          have HR := Lib.hid (show R = F (m + 1) from Hs.out)
          go_wp2_with fail
          go_roundw
          case rel => exact ⟨m + 1, by omega, by go_num, HR.out.symm, HE7.out⟩
          case measure => simp [intOf]; omega
      · obtain rfl : m = n := by omega
        have x1 : ¬ (m : Int) < (m : Int) := by omega
        have hR : R = true := by rw [← hr]; exact Hen.out
        go_wp2_with fail
        go_ret
        exact ⟨by first | rfl | (rw [hR]; rfl), HE.out⟩
  · have hT : tsB ts us = false := by unfold tsB; rw [decide_eq_false (by omega)]; rfl
    rw [hT]
    have x1 : ¬ (n : Int) = (n' : Int) := by omega
    have x2 : ((n : Int) == (n' : Int)) = false := beq_eq_false_iff_ne.2 x1
    clear h h' hlen hlen' hT
    go_enter Tryd.func31, Tryd.ntmps31
    go_wp2
    go_ret
    exact ⟨rfl, Ext.refl _⟩

end Go.Proofs.YthdgnahokmjkpaaDoor
