/-
  The walk of keys.Of. Asked: the table of 64 words lies as the text lays it.
-/
import Derived.Test.YtdgbcieopkilcaaDoorKeyB
namespace Go.Proofs.YtdgbcieopkilcaaDoor
open Go.ChangeShapes Go.WideShapes Go.ChangeAt Go.RowKit

/-- The four labels. -/
def labBody : ByteArray := ⟨#[106, 97, 108, 111, 117, 115, 105, 101, 32, 98, 111, 100, 121]⟩
def labCode : ByteArray := ⟨#[106, 97, 108, 111, 117, 115, 105, 101, 32, 99, 111, 100, 101]⟩
def labTag : ByteArray := ⟨#[106, 97, 108, 111, 117, 115, 105, 101, 32, 116, 97, 103]⟩
def labItem : ByteArray := ⟨#[106, 97, 108, 111, 117, 115, 105, 101, 32, 105, 116, 101, 109]⟩

/-- Four arrays of 32, one behind the other. -/
def four (h0 h1 h2 h3 : Nat → Value) (j : Nat) : Value :=
  if 96 ≤ j ∧ j < 96 + 32 then h3 (j - 96) else if 64 ≤ j ∧ j < 64 + 32 then h2 (j - 64) else if 32 ≤ j ∧ j < 32 + 32 then h1 (j - 32) else if 0 ≤ j ∧ j < 0 + 32 then h0 (j - 0) else .int .u8 0

theorem zero_set (w : World) : (zeroValue 30).run Tryd.prog w = .ok (.agg (rowArr 128 fun _ => .int .u8 0)) w := by kernel_rfl

set_option maxRecDepth 100000 in
theorem build_set (w : World) (h0 h1 h2 h3 : Nat → Value) : (Instr.build 30 #[(0, .agg (rowArr 32 h0)), (1, .agg (rowArr 32 h1)), (2, .agg (rowArr 32 h2)), (3, .agg (rowArr 32 h3))]).run Tryd.prog w = .ok (.agg (rowArr 128 (four h0 h1 h2 h3))) w := by
  kernel_rfl

theorem lu_build_set {w : World} {o : Oper} {ev : Operand → Value} {x0 x1 x2 x3 : Operand} {h0 h1 h2 h3 : Nat → Value} (ho : o.op = .build 30 #[(0, x0), (1, x1), (2, x2), (3, x3)]) (e0 : ev x0 = .agg (rowArr 32 h0)) (e1 : ev x1 = .agg (rowArr 32 h1)) (e2 : ev x2 = .agg (rowArr 32 h2)) (e3 : ev x3 = .agg (rowArr 32 h3)) :
    lexUpon Tryd.prog w (.ex (.agg (rowArr 128 (four h0 h1 h2 h3)))) ((execOp ev o).run Tryd.prog w) := by
  have hb := build_set w h0 h1 h2 h3
  simp only [execOp, ho, List.map_toArray, List.map_cons, List.map_nil, e0, e1, e2, e3, Sem.run_bind, hb, Result.andThen_ok, Sem.run_pure]
  exact ⟨Ext.refl _, rfl⟩

/-- The keys of an epoch's key. -/
def ofV (f : Nat → Int) : Nat → Value := four (fun j => .int .u8 (dvF f (strB labBody) j)) (fun j => .int .u8 (dvF f (strB labCode) j)) (fun j => .int .u8 (dvF f (strB labTag) j)) (fun j => .int .u8 (dvF f (strB labItem) j))
theorem ofV_one (f : Nat → Int) (j : Nat) : (ofV f j).oneCell' = true := by
  unfold ofV four
  repeat' split
  all_goals rfl

/-- A key, and a set of noughts. -/
theorem set_box (w : World) (f : Nat → Int) : ∃ w2, (w.alloc (.cells (rowArr 32 fun j => .int .u8 (f j)) 23)).alloc (.cells (rowArr 128 fun _ => .int .u8 0) 30) = w2 ∧ Ext w w2 ∧ w2.heap[w.heap.size]? = some (.cells (rowArr 32 fun j => .int .u8 (f j)) 23 (0, 0)) ∧ w2.heap[w.heap.size + 1]? = some (.cells (rowArr 128 fun _ => .int .u8 0) 30 (0, 0)) := by
  have e : (w.alloc (.cells (rowArr 32 fun j => .int .u8 (f j)) 23)).heap.size = w.heap.size + 1 := by simp
  refine ⟨_, rfl, ((Ext.refl w).alloc _).alloc _, ?_, heap_new _ _ _ e.symm⟩
  rw [Below.heap_alloc _ _ _ (by rw [e]; omega)]
  exact heap_new w _ _ rfl

set_option maxHeartbeats 1000000 in
set_option maxRecDepth 100000 in
theorem of_any (f : Nat → Int) (hf : ∀ j, j < 32 → 0 ≤ f j ∧ f j < 256) (w : World) (hk : KsAt 2 w) :
    Calls Tryd.prog 9 #[.agg (rowArr 32 fun j => .int .u8 (f j))] w fun e w' => e = .returned (.agg (rowArr 128 (ofV f))) ∧ Ext w w' := by
  obtain ⟨w2, hw2, hE2, hF2, hZ2⟩ := set_box w f
  have HK := Lib.hid hk
  have Hf := Lib.hid hf
  have Hw2 := Lib.hid hw2
  have HE2 := Lib.hid hE2
  have HF2 := Lib.hid hF2
  have HZ2 := Lib.hid hZ2
  clear hk hf hw2 hE2 hF2 hZ2
  have hz := zero_set
  go_enter Tryd.func9, Tryd.ntmps9
  go_upto_region 1 with (fail)
  refine wp_world (w' := w2) Hw2.out ?_
  obtain ⟨g, hg⟩ : ∃ g, w.heap.size = g := ⟨_, rfl⟩
  rw [hg] at HF2 HZ2 ⊢
  have Hg := Lib.hid (Nat.le_of_eq hg)
  have HFd := Lib.hid (show w2.drew.heap[g]? = _ from HF2.out)
  have HZd := Lib.hid (show w2.drew.heap[g + 1]? = _ from HZ2.out)
  have HX0 := Lib.hid (show ∀ x, Ext w2.drew x → Ext w x from fun x hx => HE2.out.trans (Ext.trans (Ext.refl w2).drew hx))
  clear hg Hw2 HF2 HZ2
  refine wp_region_lexT 9 (by kernel_rfl) (by kernel_rfl) ?_
  simp only [List.take_succ_cons, List.take_zero, List.drop_succ_cons, List.drop_zero]
  refine lx_e (.agg (rowArr 32 fun j => .int .u8 (f j))) [] (by kernel_rfl) rfl (by rfl) (fun w1 hw1 => ?_) ?_
  · simp only [pk, lexVals]
    exact lu_row rfl rfl (hw1.keep HFd.out) Tryd.underlying23 rfl (by kernel_rfl)
  refine lx_e (.agg (rowArr 32 fun j => .int .u8 (dvF f (strB labBody) j))) [(0, 3)] (by kernel_rfl) rfl (by rfl) (fun w1 hw1 => ?_) ?_
  · simp only [pk, nthSp, lexVals]
    have hm := derive_dv f Hf.out labBody w1 (by decide) (HK.out.ext' (HX0.out w1 hw1))
    have HM := Lib.hid hm
    clear hm hw1
    go_simp
    refine HM.out.mono ?_
    rintro e w2 ⟨rfl, hE2⟩
    exact ⟨_, rfl, hE2, rfl⟩
  refine lx_e (.agg (rowArr 32 fun j => .int .u8 (f j))) [] (by kernel_rfl) rfl (by rfl) (fun w1 hw1 => ?_) ?_
  · simp only [pk, lexVals]
    exact lu_row rfl rfl (hw1.keep HFd.out) Tryd.underlying23 rfl (by kernel_rfl)
  refine lx_e (.agg (rowArr 32 fun j => .int .u8 (dvF f (strB labCode) j))) [(0, 5)] (by kernel_rfl) rfl (by rfl) (fun w1 hw1 => ?_) ?_
  · simp only [pk, nthSp, lexVals]
    have hm := derive_dv f Hf.out labCode w1 (by decide) (HK.out.ext' (HX0.out w1 hw1))
    have HM := Lib.hid hm
    clear hm hw1
    go_simp
    refine HM.out.mono ?_
    rintro e w2 ⟨rfl, hE2⟩
    exact ⟨_, rfl, hE2, rfl⟩
  refine lx_e (.agg (rowArr 32 fun j => .int .u8 (f j))) [] (by kernel_rfl) rfl (by rfl) (fun w1 hw1 => ?_) ?_
  · simp only [pk, lexVals]
    exact lu_row rfl rfl (hw1.keep HFd.out) Tryd.underlying23 rfl (by kernel_rfl)
  refine lx_e (.agg (rowArr 32 fun j => .int .u8 (dvF f (strB labTag) j))) [(0, 7)] (by kernel_rfl) rfl (by rfl) (fun w1 hw1 => ?_) ?_
  · simp only [pk, nthSp, lexVals]
    have hm := derive_dv f Hf.out labTag w1 (by decide) (HK.out.ext' (HX0.out w1 hw1))
    have HM := Lib.hid hm
    clear hm hw1
    go_simp
    refine HM.out.mono ?_
    rintro e w2 ⟨rfl, hE2⟩
    exact ⟨_, rfl, hE2, rfl⟩
  refine lx_e (.agg (rowArr 32 fun j => .int .u8 (f j))) [] (by kernel_rfl) rfl (by rfl) (fun w1 hw1 => ?_) ?_
  · simp only [pk, lexVals]
    exact lu_row rfl rfl (hw1.keep HFd.out) Tryd.underlying23 rfl (by kernel_rfl)
  refine lx_e (.agg (rowArr 32 fun j => .int .u8 (dvF f (strB labItem) j))) [(0, 9)] (by kernel_rfl) rfl (by rfl) (fun w1 hw1 => ?_) ?_
  · simp only [pk, nthSp, lexVals]
    have hm := derive_dv f Hf.out labItem w1 (by decide) (HK.out.ext' (HX0.out w1 hw1))
    have HM := Lib.hid hm
    clear hm hw1
    go_simp
    refine HM.out.mono ?_
    rintro e w2 ⟨rfl, hE2⟩
    exact ⟨_, rfl, hE2, rfl⟩
  refine lx_e (.agg (rowArr 128 (ofV f))) [(6, 4), (4, 6), (2, 8), (0, 10)] (by kernel_rfl) rfl (by rfl) (fun w1 hw1 => ?_) ?_
  · simp only [pk, nthSp, lexVals]
    exact lu_build_set rfl rfl rfl rfl rfl
  refine lx_stopT (by rfl) (by decide) fun w7 hw7 => ?_
  have HE7 := Lib.hid (HX0.out w7 hw7)
  have HZ7 := Lib.hid (hw7.keep HZd.out)
  clear hw7 HZd HFd
  simp only [rv, pf, lexVals, List.drop_succ_cons, List.drop_zero]
  simp only [Act.put, List.setIfInBounds_toArray, List.set_cons_zero, List.set_cons_succ]
  go_wp2_with (refine wpList_store_row rfl 30 _ _ rfl _ _ rfl rfl _ _ HZ7.out (by kernel_rfl) (by simp only [rowArr_size]) (rowArr_one fun j _ => ofV_one f j) ?_)
  have hgg := Hg.out
  exact bodyPost_ret (results_cell_row rfl _ _ (g + 1) _ _ _ _ rfl (setRow_heap w7 (g + 1) _ _ _ _ HZ7.out) Tryd.underlying30 rfl (by kernel_rfl)) rfl ⟨rfl, below_setRow HE7.out (by omega) _⟩

end Go.Proofs.YtdgbcieopkilcaaDoor
