/-
  The walks of cmp.Compare at uint64 and int, and cmp.Or at int (three values). No conditions.
  The walks of item.compare, item.Later, jalousieref18.Later, jalousielaw18.awake. No conditions.
-/
import Derived.Test.YtldaligeckjhaaaRows
import Derived.ProofKit
import Derived.OpenShut
import Derived.WalkLawsBesides
import Derived.WalkSpells
import Derived.Lib.Hide
import Derived.Test.YtldaligeckjhaaaBase
import Derived.Test.YtldaligeckjhaaaLu
import Derived.Deep.Cut
namespace Go.Proofs.Ytldaligeckjhaaa
open Go.ChangeAt Go.ChangeShapes Go.RowKit Go.WideShapes

def cmpZ (x y : Int) : Int := if x < y then -1 else if y < x then 1 else 0

theorem isNaNu_any (x : Int) (w : World) : Calls Try.prog 84 #[.int .u64 x] w fun e w' => e = .returned (.bool false) ∧ w = w' := by
  go_enter Try.func84, Try.ntmps84
  go_wp2
  go_ret
  exact ⟨by simp, rfl⟩
theorem isNaNi_any (x : Int) (w : World) : Calls Try.prog 85 #[.int .i64 x] w fun e w' => e = .returned (.bool false) ∧ w = w' := by
  go_enter Try.func85, Try.ntmps85
  go_wp2
  go_ret
  exact ⟨by simp, rfl⟩

theorem cmpU_any (x y : Int) (w : World) : Calls Try.prog 65 #[.int .u64 x, .int .u64 y] w fun e w' => e = .returned (.int .i64 (cmpZ x y)) ∧ w = w' := by
  by_cases h1 : x < y
  · go_enter Try.func65, Try.ntmps65
    go_wp2_with (go_at_call 84; refine (isNaNu_any _ _).mono ?_; rintro e w' ⟨rfl, rfl⟩)
    go_ret
    exact ⟨ret_int (by unfold cmpZ; rw [if_pos h1]), rfl⟩
  · by_cases h2 : y < x
    · go_enter Try.func65, Try.ntmps65
      go_wp2_with (go_at_call 84; refine (isNaNu_any _ _).mono ?_; rintro e w' ⟨rfl, rfl⟩)
      go_ret
      exact ⟨ret_int (by unfold cmpZ; rw [if_neg (by omega), if_pos h2]), rfl⟩
    · go_enter Try.func65, Try.ntmps65
      go_wp2_with (go_at_call 84; refine (isNaNu_any _ _).mono ?_; rintro e w' ⟨rfl, rfl⟩)
      go_ret
      exact ⟨ret_int (by unfold cmpZ; rw [if_neg (by omega), if_neg (by omega)]), rfl⟩
theorem cmpN_any (x y : Int) (w : World) : Calls Try.prog 66 #[.int .i64 x, .int .i64 y] w fun e w' => e = .returned (.int .i64 (cmpZ x y)) ∧ w = w' := by
  by_cases h1 : x < y
  · go_enter Try.func66, Try.ntmps66
    go_wp2_with (go_at_call 85; refine (isNaNi_any _ _).mono ?_; rintro e w' ⟨rfl, rfl⟩)
    go_ret
    exact ⟨ret_int (by unfold cmpZ; rw [if_pos h1]), rfl⟩
  · by_cases h2 : y < x
    · go_enter Try.func66, Try.ntmps66
      go_wp2_with (go_at_call 85; refine (isNaNi_any _ _).mono ?_; rintro e w' ⟨rfl, rfl⟩)
      go_ret
      exact ⟨ret_int (by unfold cmpZ; rw [if_neg (by omega), if_pos h2]), rfl⟩
    · go_enter Try.func66, Try.ntmps66
      go_wp2_with (go_at_call 85; refine (isNaNi_any _ _).mono ?_; rintro e w' ⟨rfl, rfl⟩)
      go_ret
      exact ⟨ret_int (by unfold cmpZ; rw [if_neg (by omega), if_neg (by omega)]), rfl⟩

/-- The first of three that is not nought. -/
def orI (x y z : Int) : Int := if x ≠ 0 then x else if y ≠ 0 then y else z

theorem or3_any (g : Nat) (v : Nat → Int) (w : World) (hc : ∀ i, i < 3 → w.cell? ⟨g, i, none⟩ = some (.int .i64 (v i))) :
    Calls Try.prog 64 #[.slice (some ⟨g, 0, none⟩) 3 3] w fun e w' => e = .returned (.int .i64 (orI (v 0) (v 1) (v 2))) ∧ w = w' := by
  have H := Lib.hid hc
  clear hc
  go_enter Try.func64, Try.ntmps64
  go_wp2
  go_loop [8] (fun i => ∃ k : Nat, k ≤ 3 ∧ i = .int .i64 k ∧ ∀ j, j < k → v j = 0) (fun i => 3 - (intOf i).toNat)
  case atStart => exact ⟨0, by omega, rfl, fun j hj => by omega⟩
  case round =>
    obtain ⟨k, hk, rfl, hz⟩ := hrel
    have HZ := Lib.hid hz
    clear hz
    by_cases hlt : k < 3
    · have c1 := H.out k hlt
      have x2 : (0 : Int) ≤ (k : Int) := by omega
      have x3 : (k : Int) < 3 := by omega
      obtain ⟨x, hx⟩ : ∃ x, v k = x := ⟨_, rfl⟩
      rw [hx] at c1
      have Hx := Lib.hid hx
      clear hx
      by_cases hx0 : x = 0
      · subst hx0
        go_wp2
        go_round
        case rel =>
          refine ⟨k + 1, by omega, by go_num, fun j hj => ?_⟩
          by_cases hjk : j = k
          · subst hjk; exact Hx.out
          · exact HZ.out j (by omega)
        case measure => simp [intOf]; omega
      · have hb : (x != 0) = true := by simp [hx0]
        go_wp2
        go_ret
        refine ⟨ret_int ?_, rfl⟩
        have h3 := Hx.out
        have h4 := HZ.out
        unfold orI
        rcases (by omega : k = 0 ∨ k = 1 ∨ k = 2) with rfl | rfl | rfl
        · rw [if_pos (by rw [h3]; exact hx0), h3]
        · rw [if_neg (by simp [h4 0 (by omega)]), if_pos (by rw [h3]; exact hx0), h3]
        · rw [if_neg (by simp [h4 0 (by omega)]), if_neg (by simp [h4 1 (by omega)]), h3]
    · obtain rfl : k = 3 := by omega
      rw [show ((3 : Nat) : Int) = 3 from rfl]
      go_wp2
      go_ret
      refine ⟨ret_int ?_, rfl⟩
      have h4 := HZ.out
      unfold orI
      rw [if_neg (by simp [h4 0 (by omega)]), if_neg (by simp [h4 1 (by omega)]), h4 2 (by omega)]

/-- A header's cells: its time, its writer, its number. -/
structure HdAt (cs : Array Value) (t wr sq : Int) : Prop where
  size : cs.size = 125
  ct : cs[36]? = some (.int .u64 t)
  cw : cs[0]? = some (.int .i64 wr)
  cq : cs[1]? = some (.int .u64 sq)

/-- Which is later. -/
def laterI (t1 w1 s1 t2 w2 s2 : Int) : Int := orI (cmpZ t1 t2) (cmpZ w1 w2) (cmpZ s1 s2)
def laterB (t1 w1 s1 t2 w2 s2 : Int) : Bool := decide (0 < laterI t1 w1 s1 t2 w2 s2)

theorem laterB_iff (t1 w1 s1 t2 w2 s2 : Int) : laterB t1 w1 s1 t2 w2 s2 = true ↔ (t2 < t1 ∨ t1 = t2 ∧ (w2 < w1 ∨ w1 = w2 ∧ s2 < s1)) := by
  unfold laterB laterI orI cmpZ
  rw [decide_eq_true_iff]
  repeat' split
  all_goals first | omega | (simp at *; omega)

theorem laterB_trans {t1 w1 s1 t2 w2 s2 t3 w3 s3 : Int} (h : laterB t1 w1 s1 t2 w2 s2 = true) (k : laterB t2 w2 s2 t3 w3 s3 = true) : laterB t1 w1 s1 t3 w3 s3 = true := by
  rw [laterB_iff] at h k ⊢
  omega

theorem laterB_not {t1 w1 s1 t2 w2 s2 : Int} (h : laterB t1 w1 s1 t2 w2 s2 = true) : laterB t2 w2 s2 t1 w1 s1 = false := by
  rw [Bool.eq_false_iff]
  intro k
  rw [laterB_iff] at h k
  omega

theorem laterB_time {t1 w1 s1 t2 w2 s2 : Int} (h : t1 ≠ t2) : laterB t1 w1 s1 t2 w2 s2 = decide (t2 < t1) := by
  rw [Bool.eq_iff_iff, laterB_iff, decide_eq_true_iff]
  omega
theorem laterB_writer {t w1 s1 w2 s2 : Int} (h : w1 ≠ w2) : laterB t w1 s1 t w2 s2 = decide (w2 < w1) := by
  rw [Bool.eq_iff_iff, laterB_iff, decide_eq_true_iff]
  omega
theorem laterB_seq {t w s1 s2 : Int} : laterB t w s1 t w s2 = decide (s2 < s1) := by
  rw [Bool.eq_iff_iff, laterB_iff, decide_eq_true_iff]
  omega

/-- Two headers in two new blocks. -/
theorem two_boxes (w : World) (a b : Array Value) (T : TypeId) : ∃ w2, (w.alloc (.cells a T)).alloc (.cells b T) = w2 ∧ Ext w w2 ∧ (∀ i v, a[i]? = some v → w2.cell? ⟨w.heap.size, i, none⟩ = some v) ∧ (∀ i v, b[i]? = some v → w2.cell? ⟨w.heap.size + 1, i, none⟩ = some v) ∧
    w2.heap[w.heap.size]? = some (.cells a T (0, 0)) ∧ w2.heap[w.heap.size + 1]? = some (.cells b T (0, 0)) ∧ w.heap.size + 1 < w2.heap.size := by
  have e : (w.alloc (.cells a T)).heap.size = w.heap.size + 1 := by simp
  have h1 : ((w.alloc (.cells a T)).alloc (.cells b T)).heap[w.heap.size]? = some (.cells a T (0, 0)) := by
    rw [Below.heap_alloc _ _ _ (by rw [e]; omega)]
    exact heap_new w _ _ rfl
  have h2 : ((w.alloc (.cells a T)).alloc (.cells b T)).heap[w.heap.size + 1]? = some (.cells b T (0, 0)) := heap_new _ _ _ e.symm
  refine ⟨_, rfl, ((Ext.refl w).alloc _).alloc _, fun i v hv => ?_, fun i v hv => ?_, h1, h2, by simp⟩
  · rw [cell_of_row _ _ i _ _ _ h1]; exact hv
  · rw [cell_of_row _ _ i _ _ _ h2]; exact hv

theorem cells3 (w : World) (x y z : Int) (T : TypeId) (g : Nat) (hg : w.heap.size = g) : ∀ i, i < 3 → (w.alloc (.cells #[.int .i64 x, .int .i64 y, .int .i64 z] T)).cell? ⟨g, i, none⟩ = some (.int .i64 ((fun i => if i = 0 then x else if i = 1 then y else z) i)) := fun i hi => by
  rw [cell_of_row _ g i _ _ _ (heap_new w _ _ hg.symm)]
  rcases (by omega : i = 0 ∨ i = 1 ∨ i = 2) with rfl | rfl | rfl <;> rfl

set_option maxRecDepth 100000 in
theorem compareH_any (a b : Array Value) (t1 w1 s1 t2 w2 s2 : Int) (w : World) (ha : HdAt a t1 w1 s1) (hb : HdAt b t2 w2 s2) :
    Calls Try.prog 35 #[.agg a, .agg b] w fun e w' => e = .returned (.int .i64 (laterI t1 w1 s1 t2 w2 s2)) ∧ Ext w w' := by
  obtain ⟨wB, hwB, hE, hca, hcb, _, _, _⟩ := two_boxes w a b 31
  have c1 := hca _ _ ha.ct
  have c2 := hca _ _ ha.cw
  have c3 := hca _ _ ha.cq
  have d1 := hcb _ _ hb.ct
  have d2 := hcb _ _ hb.cw
  have d3 := hcb _ _ hb.cq
  have HE := Lib.hid hE
  have HwB := Lib.hid hwB
  clear hE hca hcb hwB ha hb
  obtain ⟨w2', hw2'⟩ : ∃ w2', wB.heap.size = w2' := ⟨_, rfl⟩
  go_enter Try.func35, Try.ntmps35
  go_upto_region 1 with (fail)
  refine wp_world (w' := wB) HwB.out ?_
  obtain ⟨g, hg⟩ : ∃ g, w.heap.size = g := ⟨_, rfl⟩
  rw [hg] at c1 c2 c3 d1 d2 d3 ⊢
  clear hg HwB
  refine wp_region_quietT 15 (by kernel_rfl) (by kernel_rfl) ?_
  simp only [List.take_succ_cons, List.take_zero, List.drop_succ_cons, List.drop_zero]
  repeat (go_big_quiet_step (first
    | (go_at_call 65; exact quiet_left (cmpU_any _ _ _))
    | (go_at_call 65; exact quiet_add_left (cmpU_any _ _ _))
    | (go_at_call 66; exact quiet_left (cmpN_any _ _ _))
    | (go_at_call 66; exact quiet_add_left (cmpN_any _ _ _))))
  refine wpQuiet_nil ?_
  intro _ hw'
  obtain ⟨nq, hw''⟩ := hw'
  subst hw''
  have hor := or3_any w2' (fun i => if i = 0 then cmpZ t1 t2 else if i = 1 then cmpZ w1 w2 else cmpZ s1 s2) _ (cells3 (wB.drewN nq) (cmpZ t1 t2) (cmpZ w1 w2) (cmpZ s1 s2) 3 w2' hw2')
  have HO := Lib.hid hor
  have HE2 := Lib.hid ((HE.out.drewN' nq).alloc (.cells #[.int .i64 (cmpZ t1 t2), .int .i64 (cmpZ w1 w2), .int .i64 (cmpZ s1 s2)] 3))
  clear hor c1 c2 c3 d1 d2 d3
  go_wp2_with fail
  subst hw2'
  refine HO.out.mono ?_
  rintro e w3 ⟨rfl, rfl⟩
  go_wp2
  go_ret
  exact ⟨rfl, HE2.out⟩

/-- The header as a value; a row's block of it. -/
theorem info_hd : (Try.prog.info? 31).map (·.size) = some 125 := by kernel_rfl

set_option maxRecDepth 100000 in
theorem later_any (a b : Array Value) (t1 w1 s1 t2 w2 s2 : Int) (w : World) (ha : HdAt a t1 w1 s1) (hb : HdAt b t2 w2 s2) :
    Calls Try.prog 14 #[.agg a, .agg b] w fun e w' => e = .returned (.bool (laterB t1 w1 s1 t2 w2 s2)) ∧ Ext w w' := by
  obtain ⟨wB, hwB, hE, _, _, hg1, hg2, _⟩ := two_boxes w a b 31
  have Hha := Lib.hid ha
  have Hhb := Lib.hid hb
  have HC := Lib.hid (compareH_any a b t1 w1 s1 t2 w2 s2 wB ha hb)
  have Hia := Lib.hid (show (Try.prog.info? 31).map (·.size) = some a.size by rw [ha.size]; exact info_hd)
  have Hib := Lib.hid (show (Try.prog.info? 31).map (·.size) = some b.size by rw [hb.size]; exact info_hd)
  have HE := Lib.hid hE
  have HwB := Lib.hid hwB
  have HG1 := Lib.hid hg1
  have HG2 := Lib.hid hg2
  clear hE hwB ha hb hg1 hg2
  go_enter Try.func14, Try.ntmps14
  go_upto_region 1 with (fail)
  refine wp_world (w' := wB) HwB.out ?_
  go_wp2_with (first
    | (refine wpList_load_row rfl 31 (.tmp 2) rfl w.heap.size rfl _ _ _ _ HG1.out Try.underlying31 rfl Hia.out ?_)
    | (refine wpList_load_row rfl 31 (.tmp 3) rfl (w.heap.size + 1) rfl _ _ _ _ HG2.out Try.underlying31 rfl Hib.out ?_))
  refine HC.out.mono ?_
  rintro e w3 ⟨rfl, hE3⟩
  have HE3 := Lib.hid (HE.out.trans hE3)
  obtain ⟨L, hL⟩ : ∃ L, laterI t1 w1 s1 t2 w2 s2 = L := ⟨_, rfl⟩
  have HL := Lib.hid (show laterB t1 w1 s1 t2 w2 s2 = decide (0 < L) by rw [← hL]; rfl)
  rw [hL]
  clear hE3 hL
  go_wp2
  go_ret
  exact ⟨by rw [HL.out]; rfl, HE3.out⟩

set_option maxRecDepth 100000 in
theorem refLater_any (a b : Array Value) (t1 w1 s1 t2 w2 s2 : Int) (w : World) (ha : HdAt a t1 w1 s1) (hb : HdAt b t2 w2 s2) :
    Calls Try.prog 37 #[.agg a, .agg b] w fun e w' => e = .returned (.bool (laterB t1 w1 s1 t2 w2 s2)) ∧ Ext w w' := by
  obtain ⟨wB, hwB, hE, hca, hcb, _, _, _⟩ := two_boxes w a b 31
  have c1 := hca _ _ ha.ct
  have c2 := hca _ _ ha.cw
  have c3 := hca _ _ ha.cq
  have d1 := hcb _ _ hb.ct
  have d2 := hcb _ _ hb.cw
  have d3 := hcb _ _ hb.cq
  have HE := Lib.hid hE
  have HwB := Lib.hid hwB
  clear hE hca hcb hwB ha hb
  by_cases ht : t1 = t2
  · subst ht
    by_cases hw : w1 = w2
    · subst hw
      go_enter Try.func37, Try.ntmps37
      go_upto_region 1 with (fail)
      refine wp_world (w' := wB) HwB.out ?_
      go_wp2
      go_ret
      exact ⟨by rw [laterB_seq]; rfl, HE.out⟩
    · have hb : (w1 != w2) = true := by simp [hw]
      have Hw := Lib.hid hw
      clear hw
      go_enter Try.func37, Try.ntmps37
      go_upto_region 1 with (fail)
      refine wp_world (w' := wB) HwB.out ?_
      go_wp2
      go_ret
      exact ⟨by rw [laterB_writer Hw.out]; rfl, HE.out⟩
  · have hb : (t1 != t2) = true := by simp [ht]
    have Ht := Lib.hid ht
    clear ht
    go_enter Try.func37, Try.ntmps37
    go_upto_region 1 with (fail)
    refine wp_world (w' := wB) HwB.out ?_
    go_wp2
    go_ret
    exact ⟨by rw [laterB_time Ht.out]; rfl, HE.out⟩

/-- A header of noughts. -/
def zHd : Array Value := #[.int .i64 0, .int .u64 0] ++ Array.replicate 32 (.int .u8 0) ++ #[.int .i64 0, .bool false, .int .u64 0] ++ Array.replicate 16 (.int .u8 0) ++ #[.slice none 0 0] ++ Array.replicate 6 (.int .u64 0) ++ Array.replicate 32 (.int .u8 0) ++ #[.int .i64 0] ++ Array.replicate 32 (.int .u8 0)
theorem zHd_size : zHd.size = 125 := by kernel_rfl
theorem zero_hd (w : World) : (zeroValue 31).run Try.prog w = .ok (.agg zHd) w := by kernel_rfl

set_option maxRecDepth 100000 in
theorem awake18_any (w : World) : Calls Try.prog 10 #[] w fun e w' => e = .returned (.bool true) ∧ Ext w w' := by
  have hz := zero_hd
  have hs := zHd_size
  go_enter Try.func10, Try.ntmps10
  go_wp2_with fail
  refine (later_any _ _ 2 0 0 1 0 0 w ?_ ?_).mono ?_
  · exact ⟨by kernel_rfl, by kernel_rfl, by kernel_rfl, by kernel_rfl⟩
  · exact ⟨by kernel_rfl, by kernel_rfl, by kernel_rfl, by kernel_rfl⟩
  rintro e w1 ⟨rfl, hE1⟩
  have HE := Lib.hid hE1
  rw [show laterB 2 0 0 1 0 0 = true from rfl]
  clear hE1
  go_wp2
  go_ret
  exact ⟨rfl, HE.out⟩

end Go.Proofs.Ytldaligeckjhaaa
