/-
  The walk of jalousielaw11.KeysSets: it answers true. Asked: the two tables lie as the text lays them.
-/
import Derived.Test.YtppidlpblkihbaaDoorAwakeK
namespace Go.Proofs.YtppidlpblkihbaaDoor
open Go.ChangeShapes Go.WideShapes Go.ChangeAt Go.RowKit

set_option maxRecDepth 100000 in
theorem size_hash11 (w : World) : (sizeOf 23).run Tryd.prog w = .ok 32 w := by kernel_rfl

/-- 32 bytes loaded out of the middle of a block. -/
theorem lu_hash {w : World} {o : Oper} {ev : Operand → Value} {x : Operand} {b off : Nat} {t : Nat → Int} (ho : o.op = .load 23 x) (hx : ev x = .pointer (some ⟨b, off, none⟩)) (hc : ∀ j, j < 32 → w.cell? ⟨b, off + j, none⟩ = some (.int .u8 (t j))) :
    lexUpon Tryd.prog w (.ex (.agg (rowArr 32 fun j => .int .u8 (t j)))) ((execOp ev o).run Tryd.prog w) := by
  have h1 := run_loadCells_list (P := Tryd.prog) w ⟨b, off, none⟩ ((List.range 32).map fun j => Value.int .u8 (t j)) (fun j v hv => by
    have hj : j < 32 := by
      have := (List.getElem?_eq_some_iff.1 hv).1
      simpa using this
    rw [List.getElem?_map, List.getElem?_range hj] at hv
    obtain rfl := Option.some.inj hv
    rw [add_none]
    exact hc j hj)
  rw [List.length_map, List.length_range] at h1
  have hagg : (isAgg 23).run Tryd.prog w = .ok true w := by
    unfold isAgg
    rw [Sem.run_bind, run_underlying Tryd.underlying23 w]
    rfl
  have hv : (loadVar 23 ⟨b, off, none⟩).run Tryd.prog w = .ok (.agg (rowArr 32 fun j => .int .u8 (t j))) w := by
    simp only [loadVar, Sem.run_bind, hagg, size_hash11, Result.andThen_ok, if_true, h1, Sem.run_pure]
    rfl
  simp only [execOp, ho, hx, Instr.loadAt, Instr.sureAddr, Sem.run_bind, Sem.run_pure, Result.andThen_ok, hv]
  exact ⟨Ext.refl _, rfl⟩

/-- An int loaded. -/
theorem lu_int {w : World} {o : Oper} {ev : Operand → Value} {x : Operand} {ad : Addr} {v : Value} (ho : o.op = .load 3 x) (hx : ev x = .pointer (some ad)) (hc : w.cell? ad = some v) :
    lexUpon Tryd.prog w (.ex v) ((execOp ev o).run Tryd.prog w) := by
  have hagg : (isAgg 3).run Tryd.prog w = .ok false w := by
    unfold isAgg
    rw [Sem.run_bind, run_underlying Tryd.underlying3 w]
    rfl
  have hv : (loadVar 3 ad).run Tryd.prog w = .ok v w := by
    simp [loadVar, Sem.run_bind, hagg, hc]
  simp only [execOp, ho, hx, Instr.loadAt, Instr.sureAddr, Sem.run_bind, Sem.run_pure, Result.andThen_ok, hv]
  exact ⟨Ext.refl _, rfl⟩

set_option maxRecDepth 100000 in
theorem lu_field0 {w : World} {o : Oper} {ev : Operand → Value} {x : Operand} {g : Nat} (ho : o.op = .fieldAddr 33 x 0) (hx : ev x = .pointer (some ⟨g, 0, none⟩)) :
    lexUpon Tryd.prog w (.ex (.pointer (some ⟨g, 0, none⟩))) ((execOp ev o).run Tryd.prog w) := by
  have hr : (Instr.fieldAt 33 (.pointer (some ⟨g, 0, none⟩)) 0).run Tryd.prog w = .ok (.pointer (some ⟨g, 0, none⟩)) w := by kernel_rfl
  simp only [execOp, ho, hx, Sem.run_bind, hr, Result.andThen_ok, Sem.run_pure]
  exact ⟨Ext.refl _, rfl⟩
theorem set_at0 (f : Nat → Int) : ∀ j, j < 32 → ofV f (0 + j) = .int .u8 (dvF f (strB labBody) j) := fun j hj => by
  unfold ofV four
  split
  · omega
  · split
    · omega
    · split
      · omega
      · split
        · have hq : 0 + j - 0 = j := by omega
          rw [hq]
        · omega
theorem set_cells0 {w : World} {g : Nat} {f : Nat → Int} (h : w.heap[g]? = some (.cells (rowArr 128 (ofV f)) 33 (0, 0))) : ∀ j, j < 32 → w.cell? ⟨g, 0 + j, none⟩ = some (.int .u8 (dvF f (strB labBody) j)) := fun j hj => by
  rw [(rowIs_of h).cell (show 0 + j < 128 by omega), set_at0 f j hj]
set_option maxRecDepth 100000 in
theorem lu_field1 {w : World} {o : Oper} {ev : Operand → Value} {x : Operand} {g : Nat} (ho : o.op = .fieldAddr 33 x 1) (hx : ev x = .pointer (some ⟨g, 0, none⟩)) :
    lexUpon Tryd.prog w (.ex (.pointer (some ⟨g, 32, none⟩))) ((execOp ev o).run Tryd.prog w) := by
  have hr : (Instr.fieldAt 33 (.pointer (some ⟨g, 0, none⟩)) 1).run Tryd.prog w = .ok (.pointer (some ⟨g, 32, none⟩)) w := by kernel_rfl
  simp only [execOp, ho, hx, Sem.run_bind, hr, Result.andThen_ok, Sem.run_pure]
  exact ⟨Ext.refl _, rfl⟩
theorem set_at1 (f : Nat → Int) : ∀ j, j < 32 → ofV f (32 + j) = .int .u8 (dvF f (strB labCode) j) := fun j hj => by
  unfold ofV four
  split
  · omega
  · split
    · omega
    · split
      · have hq : 32 + j - 32 = j := by omega
        rw [hq]
      · split
        · omega
        · omega
theorem set_cells1 {w : World} {g : Nat} {f : Nat → Int} (h : w.heap[g]? = some (.cells (rowArr 128 (ofV f)) 33 (0, 0))) : ∀ j, j < 32 → w.cell? ⟨g, 32 + j, none⟩ = some (.int .u8 (dvF f (strB labCode) j)) := fun j hj => by
  rw [(rowIs_of h).cell (show 32 + j < 128 by omega), set_at1 f j hj]
set_option maxRecDepth 100000 in
theorem lu_field2 {w : World} {o : Oper} {ev : Operand → Value} {x : Operand} {g : Nat} (ho : o.op = .fieldAddr 33 x 2) (hx : ev x = .pointer (some ⟨g, 0, none⟩)) :
    lexUpon Tryd.prog w (.ex (.pointer (some ⟨g, 64, none⟩))) ((execOp ev o).run Tryd.prog w) := by
  have hr : (Instr.fieldAt 33 (.pointer (some ⟨g, 0, none⟩)) 2).run Tryd.prog w = .ok (.pointer (some ⟨g, 64, none⟩)) w := by kernel_rfl
  simp only [execOp, ho, hx, Sem.run_bind, hr, Result.andThen_ok, Sem.run_pure]
  exact ⟨Ext.refl _, rfl⟩
theorem set_at2 (f : Nat → Int) : ∀ j, j < 32 → ofV f (64 + j) = .int .u8 (dvF f (strB labTag) j) := fun j hj => by
  unfold ofV four
  split
  · omega
  · split
    · have hq : 64 + j - 64 = j := by omega
      rw [hq]
    · split
      · omega
      · split
        · omega
        · omega
theorem set_cells2 {w : World} {g : Nat} {f : Nat → Int} (h : w.heap[g]? = some (.cells (rowArr 128 (ofV f)) 33 (0, 0))) : ∀ j, j < 32 → w.cell? ⟨g, 64 + j, none⟩ = some (.int .u8 (dvF f (strB labTag) j)) := fun j hj => by
  rw [(rowIs_of h).cell (show 64 + j < 128 by omega), set_at2 f j hj]
set_option maxRecDepth 100000 in
theorem lu_field3 {w : World} {o : Oper} {ev : Operand → Value} {x : Operand} {g : Nat} (ho : o.op = .fieldAddr 33 x 3) (hx : ev x = .pointer (some ⟨g, 0, none⟩)) :
    lexUpon Tryd.prog w (.ex (.pointer (some ⟨g, 96, none⟩))) ((execOp ev o).run Tryd.prog w) := by
  have hr : (Instr.fieldAt 33 (.pointer (some ⟨g, 0, none⟩)) 3).run Tryd.prog w = .ok (.pointer (some ⟨g, 96, none⟩)) w := by kernel_rfl
  simp only [execOp, ho, hx, Sem.run_bind, hr, Result.andThen_ok, Sem.run_pure]
  exact ⟨Ext.refl _, rfl⟩
theorem set_at3 (f : Nat → Int) : ∀ j, j < 32 → ofV f (96 + j) = .int .u8 (dvF f (strB labItem) j) := fun j hj => by
  unfold ofV four
  split
  · have hq : 96 + j - 96 = j := by omega
    rw [hq]
  · split
    · omega
    · split
      · omega
      · split
        · omega
        · omega
theorem set_cells3 {w : World} {g : Nat} {f : Nat → Int} (h : w.heap[g]? = some (.cells (rowArr 128 (ofV f)) 33 (0, 0))) : ∀ j, j < 32 → w.cell? ⟨g, 96 + j, none⟩ = some (.int .u8 (dvF f (strB labItem) j)) := fun j hj => by
  rw [(rowIs_of h).cell (show 96 + j < 128 by omega), set_at3 f j hj]

set_option maxRecDepth 100000 in
theorem lu_two0 {w : World} {o : Oper} {ev : Operand → Value} {x : Operand} {g : Nat} (ho : o.op = .indexAddr 31 x (.const (.int .i64 0))) (hx : ev x = .pointer (some ⟨g, 0, none⟩)) (hc : ev (.const (.int .i64 0)) = .int .i64 0 := by rfl) :
    lexUpon Tryd.prog w (.ex (.pointer (some ⟨g, 0, none⟩))) ((execOp ev o).run Tryd.prog w) := by
  have hr : (Instr.indexAt 31 (.pointer (some ⟨g, 0, none⟩)) (.int .i64 0)).run Tryd.prog w = .ok (.pointer (some ⟨g, 0, none⟩)) w := by kernel_rfl
  simp only [execOp, ho, hx, hc, Sem.run_bind, hr, Result.andThen_ok, Sem.run_pure]
  exact ⟨Ext.refl _, rfl⟩
theorem two_cell0 {w : World} {g : Nat} {a b : Int} (h : w.heap[g]? = some (.cells #[.int .i64 a, .int .i64 b] 31 (0, 0))) : w.cell? ⟨g, 0, none⟩ = some (.int .i64 a) := by
  unfold World.cell?
  simp [h]
set_option maxRecDepth 100000 in
theorem lu_two1 {w : World} {o : Oper} {ev : Operand → Value} {x : Operand} {g : Nat} (ho : o.op = .indexAddr 31 x (.const (.int .i64 1))) (hx : ev x = .pointer (some ⟨g, 0, none⟩)) (hc : ev (.const (.int .i64 1)) = .int .i64 1 := by rfl) :
    lexUpon Tryd.prog w (.ex (.pointer (some ⟨g, 1, none⟩))) ((execOp ev o).run Tryd.prog w) := by
  have hr : (Instr.indexAt 31 (.pointer (some ⟨g, 0, none⟩)) (.int .i64 1)).run Tryd.prog w = .ok (.pointer (some ⟨g, 1, none⟩)) w := by kernel_rfl
  simp only [execOp, ho, hx, hc, Sem.run_bind, hr, Result.andThen_ok, Sem.run_pure]
  exact ⟨Ext.refl _, rfl⟩
theorem two_cell1 {w : World} {g : Nat} {a b : Int} (h : w.heap[g]? = some (.cells #[.int .i64 a, .int .i64 b] 31 (0, 0))) : w.cell? ⟨g, 1, none⟩ = some (.int .i64 b) := by
  unfold World.cell?
  simp [h]

theorem three_box (w : World) (f s : Nat → Int) (a b : Int) : ∃ w2, ((w.alloc (.cells (rowArr 32 fun j => .int .u8 (f j)) 23)).alloc (.cells (rowArr 32 fun j => .int .u8 (s j)) 23)).alloc (.cells #[.int .i64 a, .int .i64 b] 31) = w2 ∧ Ext w w2
    ∧ w2.heap[w.heap.size]? = some (.cells (rowArr 32 fun j => .int .u8 (f j)) 23 (0, 0)) ∧ w2.heap[w.heap.size + 1]? = some (.cells (rowArr 32 fun j => .int .u8 (s j)) 23 (0, 0)) ∧ w2.heap[w.heap.size + 1 + 1]? = some (.cells #[.int .i64 a, .int .i64 b] 31 (0, 0)) := by
  have e : (w.alloc (.cells (rowArr 32 fun j => .int .u8 (f j)) 23)).heap.size = w.heap.size + 1 := by simp
  have e2 : ((w.alloc (.cells (rowArr 32 fun j => .int .u8 (f j)) 23)).alloc (.cells (rowArr 32 fun j => .int .u8 (s j)) 23)).heap.size = w.heap.size + 1 + 1 := by simp
  refine ⟨_, rfl, (((Ext.refl w).alloc _).alloc _).alloc _, ?_, ?_, heap_new _ _ _ e2.symm⟩
  · rw [Below.heap_alloc _ _ _ (by rw [e2]; omega), Below.heap_alloc _ _ _ (by rw [e]; omega)]
    exact heap_new w _ _ rfl
  · rw [Below.heap_alloc _ _ _ (by rw [e2]; omega)]
    exact heap_new _ _ _ e.symm

set_option maxHeartbeats 2000000 in
set_option maxRecDepth 100000 in
theorem lawKeysSets_any (f s : Nat → Int) (a b : Int) (w : World) (hf : ∀ j, j < 32 → 0 ≤ f j ∧ f j < 256) (hs : ∀ j, j < 32 → 0 ≤ s j ∧ s j < 256) (hk : KsAt 1 w) (hk2 : KsAt 0 w) :
    Calls Tryd.prog 4 #[.agg (rowArr 32 fun j => .int .u8 (f j)), .agg (rowArr 32 fun j => .int .u8 (s j)), .agg #[.int .i64 a, .int .i64 b]] w fun e w' => e = .returned (.bool true) ∧ Ext w w' := by
  obtain ⟨w2, hw2, hE2, hF2, hG2, hT2⟩ := three_box w f s a b
  have HK := Lib.hid hk
  have HK2 := Lib.hid hk2
  have Hf := Lib.hid hf
  have Hs := Lib.hid hs
  have Hw2 := Lib.hid hw2
  have HE2 := Lib.hid hE2
  have HF2 := Lib.hid hF2
  have HG2 := Lib.hid hG2
  have HT2 := Lib.hid hT2
  clear hk hk2 hf hs hw2 hE2 hF2 hG2 hT2
  have keq := eql_same11
  have hz := zero_set
  go_enter Tryd.func4, Tryd.ntmps4
  go_upto_region 1 with (fail)
  refine wp_world (w' := w2) Hw2.out ?_
  obtain ⟨gf, hgf⟩ : ∃ gf, w.heap.size = gf := ⟨_, rfl⟩
  rw [hgf] at HF2 HG2 HT2 ⊢
  clear hgf Hw2
  obtain ⟨gg, hgg⟩ : ∃ gg, gf + 1 = gg := ⟨_, rfl⟩
  rw [hgg] at HG2 HT2 ⊢
  clear hgg
  obtain ⟨gt, hgt⟩ : ∃ gt, gg + 1 = gt := ⟨_, rfl⟩
  rw [hgt] at HT2 ⊢
  clear hgt
  have HY := Lib.hid (of_any f Hf.out w2 (HK.out.ext' HE2.out))
  go_wp2_with (refine wpList_load_row rfl 23 (.tmp 3) rfl gf rfl _ _ _ _ HF2.out Tryd.underlying23 rfl (by kernel_rfl) ?_)
  refine HY.out.mono ?_
  rintro e w3 ⟨rfl, hE⟩
  clear HY
  have HE3 := Lib.hid (HE2.out.trans hE)
  have HF3 := Lib.hid (hE.keep HF2.out)
  have HG3 := Lib.hid (hE.keep HG2.out)
  have HT3 := Lib.hid (hE.keep HT2.out)
  clear hE
  obtain ⟨R, hR⟩ : ∃ R, ofV f = R := ⟨_, rfl⟩
  have HR1 := Lib.hid (show ∀ i, i < 128 → (R i).oneCell' = true by rw [← hR]; exact fun i _ => ofV_one f i)
  rw [hR]
  go_upto_region 2 with (refine wpList_store_row rfl 33 _ _ rfl w3.heap.size _ rfl rfl _ _ (heap_new w3 _ _ rfl) (by kernel_rfl) (by simp [rowArr_size]) (rowArr_one HR1.out) ?_; rw [setRow_new w3 _ _ _ _ rfl])
  obtain ⟨w4, hw4⟩ : ∃ w4, w3.alloc (.cells (rowArr 128 R) 33) = w4 := ⟨_, rfl⟩
  have hE : Ext w3 w4 := by rw [← hw4]; exact (Ext.refl w3).alloc _
  obtain ⟨gs, hgs⟩ : ∃ gs, w3.heap.size = gs := ⟨_, rfl⟩
  have HS4 := Lib.hid (show w4.heap[gs]? = some (.cells (rowArr 128 (ofV f)) 33 (0, 0)) by rw [← hw4, hR]; exact heap_new w3 _ _ hgs.symm)
  refine wp_world (w' := w4) hw4 ?_
  rw [hgs]
  clear hw4 hgs hR HR1
  have HE4 := Lib.hid (HE3.out.trans hE)
  have HFd := Lib.hid (show w4.drew.heap[gf]? = _ from hE.keep HF3.out)
  have HGd := Lib.hid (show w4.drew.heap[gg]? = _ from hE.keep HG3.out)
  have HTd := Lib.hid (show w4.drew.heap[gt]? = _ from hE.keep HT3.out)
  have HSd := Lib.hid (show w4.drew.heap[gs]? = _ from HS4.out)
  have HX0 := Lib.hid (show ∀ x, Ext w4.drew x → Ext w x from fun x hx => HE4.out.trans (Ext.trans (Ext.refl w4).drew hx))
  clear hE HF2 HG2 HT2 HF3 HG3 HT3 HS4 HE2 HE3
  obtain ⟨D0, hD0⟩ : ∃ D0, dvF f (strB labBody) = D0 := ⟨_, rfl⟩
  have HD0 := Lib.hid hD0
  have HC0 := Lib.hid (show ∀ x, Ext w4.drew x → ∀ j, j < 32 → x.cell? ⟨gs, 0 + j, none⟩ = some (.int .u8 (D0 j)) from fun x hx => hD0 ▸ set_cells0 (hx.keep HSd.out))
  clear hD0
  obtain ⟨D1, hD1⟩ : ∃ D1, dvF f (strB labCode) = D1 := ⟨_, rfl⟩
  have HD1 := Lib.hid hD1
  have HC1 := Lib.hid (show ∀ x, Ext w4.drew x → ∀ j, j < 32 → x.cell? ⟨gs, 32 + j, none⟩ = some (.int .u8 (D1 j)) from fun x hx => hD1 ▸ set_cells1 (hx.keep HSd.out))
  clear hD1
  obtain ⟨D2, hD2⟩ : ∃ D2, dvF f (strB labTag) = D2 := ⟨_, rfl⟩
  have HD2 := Lib.hid hD2
  have HC2 := Lib.hid (show ∀ x, Ext w4.drew x → ∀ j, j < 32 → x.cell? ⟨gs, 64 + j, none⟩ = some (.int .u8 (D2 j)) from fun x hx => hD2 ▸ set_cells2 (hx.keep HSd.out))
  clear hD2
  obtain ⟨D3, hD3⟩ : ∃ D3, dvF f (strB labItem) = D3 := ⟨_, rfl⟩
  have HD3 := Lib.hid hD3
  have HC3 := Lib.hid (show ∀ x, Ext w4.drew x → ∀ j, j < 32 → x.cell? ⟨gs, 96 + j, none⟩ = some (.int .u8 (D3 j)) from fun x hx => hD3 ▸ set_cells3 (hx.keep HSd.out))
  clear hD3
  obtain ⟨P, hP⟩ : ∃ P, pairF s a b = P := ⟨_, rfl⟩
  have HP := Lib.hid hP
  clear hP HSd
  refine wp_region_lexA (by kernel_rfl) (by kernel_rfl) ?_
  refine lx_e (.bool true) [] (by kernel_rfl) rfl (by rfl) (fun w1 hw1 => ?_) ?_
  · simp only [pk, lexVals]
    have hm := awake11_any w1 (HK.out.ext' (HX0.out w1 hw1))
    have HM := Lib.hid hm
    clear hm hw1
    go_simp
    refine HM.out.mono ?_
    rintro e w2 ⟨rfl, hE2⟩
    exact ⟨_, rfl, hE2, rfl⟩
  refine lx_e (.bool true) [(0, 10)] (by kernel_rfl) rfl (by rfl) (fun w1 hw1 => ?_) ?_
  · simp only [pk, nthSp, lexVals]
    go_simp
    exact ⟨Ext.refl _, rfl⟩
  refine lx_ge (.pointer (some ⟨gs, 0, none⟩)) [(0, 11)] 11 (by kernel_rfl) rfl (by kernel_rfl) (by rfl) (fun w1 => ?_) (fun w1 hw1 => ?_) ?_
  · simp only [pk, nthSp, lexVals]
    rfl
  · simp only [pk, nthSp, lexVals]
    exact lu_field0 rfl rfl
  refine lx_ge (.agg (rowArr 32 fun j => .int .u8 (D0 j))) [(0, 12), (1, 11)] 11 (by kernel_rfl) rfl (by kernel_rfl) (by rfl) (fun w1 => ?_) (fun w1 hw1 => ?_) ?_
  · simp only [pk, nthSp, lexVals]
    rfl
  · simp only [pk, nthSp, lexVals]
    exact lu_hash rfl rfl (HC0.out w1 hw1)
  refine lx_ge (.agg (rowArr 32 fun j => .int .u8 (f j))) [(2, 11)] 11 (by kernel_rfl) rfl (by kernel_rfl) (by rfl) (fun w1 => ?_) (fun w1 hw1 => ?_) ?_
  · simp only [pk, nthSp, lexVals]
    rfl
  · simp only [pk, nthSp, lexVals]
    exact lu_row rfl rfl (hw1.keep HFd.out) Tryd.underlying23 rfl (by kernel_rfl)
  refine lx_ge (.agg (rowArr 32 fun j => .int .u8 (D0 j))) [(0, 14), (3, 11)] 11 (by kernel_rfl) rfl (by kernel_rfl) (by rfl) (fun w1 => ?_) (fun w1 hw1 => ?_) ?_
  · simp only [pk, nthSp, lexVals]
    rfl
  · simp only [pk, nthSp, lexVals]
    have hm := refderive_dv f Hf.out labBody w1 (by decide) (HK2.out.ext' (HX0.out w1 hw1))
    rw [HD0.out] at hm
    have HM := Lib.hid hm
    clear hm hw1
    go_simp
    refine HM.out.mono ?_
    rintro e w2 ⟨rfl, hE2⟩
    exact ⟨_, rfl, hE2, rfl⟩
  refine lx_ge (.bool true) [(2, 13), (0, 15), (4, 11)] 11 (by kernel_rfl) rfl (by kernel_rfl) (by rfl) (fun w1 => ?_) (fun w1 hw1 => ?_) ?_
  · simp only [pk, nthSp, lexVals]
    rfl
  · simp only [pk, nthSp, lexVals]
    go_simp
    exact ⟨Ext.refl _, rfl⟩
  refine lx_e (.bool true) [(5, 11), (0, 16)] (by kernel_rfl) rfl (by rfl) (fun w1 hw1 => ?_) ?_
  · simp only [pk, nthSp, lexVals]
    go_simp
    exact ⟨Ext.refl _, rfl⟩
  refine lx_e (.bool true) [(0, 17)] (by kernel_rfl) rfl (by rfl) (fun w1 hw1 => ?_) ?_
  · simp only [pk, nthSp, lexVals]
    go_simp
    exact ⟨Ext.refl _, rfl⟩
  refine lx_ge (.pointer (some ⟨gs, 32, none⟩)) [(0, 18)] 18 (by kernel_rfl) rfl (by kernel_rfl) (by rfl) (fun w1 => ?_) (fun w1 hw1 => ?_) ?_
  · simp only [pk, nthSp, lexVals]
    rfl
  · simp only [pk, nthSp, lexVals]
    exact lu_field1 rfl rfl
  refine lx_ge (.agg (rowArr 32 fun j => .int .u8 (D1 j))) [(0, 19), (1, 18)] 18 (by kernel_rfl) rfl (by kernel_rfl) (by rfl) (fun w1 => ?_) (fun w1 hw1 => ?_) ?_
  · simp only [pk, nthSp, lexVals]
    rfl
  · simp only [pk, nthSp, lexVals]
    exact lu_hash rfl rfl (HC1.out w1 hw1)
  refine lx_ge (.agg (rowArr 32 fun j => .int .u8 (f j))) [(2, 18)] 18 (by kernel_rfl) rfl (by kernel_rfl) (by rfl) (fun w1 => ?_) (fun w1 hw1 => ?_) ?_
  · simp only [pk, nthSp, lexVals]
    rfl
  · simp only [pk, nthSp, lexVals]
    exact lu_row rfl rfl (hw1.keep HFd.out) Tryd.underlying23 rfl (by kernel_rfl)
  refine lx_ge (.agg (rowArr 32 fun j => .int .u8 (D1 j))) [(0, 21), (3, 18)] 18 (by kernel_rfl) rfl (by kernel_rfl) (by rfl) (fun w1 => ?_) (fun w1 hw1 => ?_) ?_
  · simp only [pk, nthSp, lexVals]
    rfl
  · simp only [pk, nthSp, lexVals]
    have hm := refderive_dv f Hf.out labCode w1 (by decide) (HK2.out.ext' (HX0.out w1 hw1))
    rw [HD1.out] at hm
    have HM := Lib.hid hm
    clear hm hw1
    go_simp
    refine HM.out.mono ?_
    rintro e w2 ⟨rfl, hE2⟩
    exact ⟨_, rfl, hE2, rfl⟩
  refine lx_ge (.bool true) [(2, 20), (0, 22), (4, 18)] 18 (by kernel_rfl) rfl (by kernel_rfl) (by rfl) (fun w1 => ?_) (fun w1 hw1 => ?_) ?_
  · simp only [pk, nthSp, lexVals]
    rfl
  · simp only [pk, nthSp, lexVals]
    go_simp
    exact ⟨Ext.refl _, rfl⟩
  refine lx_e (.bool true) [(5, 18), (0, 23)] (by kernel_rfl) rfl (by rfl) (fun w1 hw1 => ?_) ?_
  · simp only [pk, nthSp, lexVals]
    go_simp
    exact ⟨Ext.refl _, rfl⟩
  refine lx_e (.bool true) [(0, 24)] (by kernel_rfl) rfl (by rfl) (fun w1 hw1 => ?_) ?_
  · simp only [pk, nthSp, lexVals]
    go_simp
    exact ⟨Ext.refl _, rfl⟩
  refine lx_ge (.pointer (some ⟨gs, 64, none⟩)) [(0, 25)] 25 (by kernel_rfl) rfl (by kernel_rfl) (by rfl) (fun w1 => ?_) (fun w1 hw1 => ?_) ?_
  · simp only [pk, nthSp, lexVals]
    rfl
  · simp only [pk, nthSp, lexVals]
    exact lu_field2 rfl rfl
  refine lx_ge (.agg (rowArr 32 fun j => .int .u8 (D2 j))) [(0, 26), (1, 25)] 25 (by kernel_rfl) rfl (by kernel_rfl) (by rfl) (fun w1 => ?_) (fun w1 hw1 => ?_) ?_
  · simp only [pk, nthSp, lexVals]
    rfl
  · simp only [pk, nthSp, lexVals]
    exact lu_hash rfl rfl (HC2.out w1 hw1)
  refine lx_ge (.agg (rowArr 32 fun j => .int .u8 (f j))) [(2, 25)] 25 (by kernel_rfl) rfl (by kernel_rfl) (by rfl) (fun w1 => ?_) (fun w1 hw1 => ?_) ?_
  · simp only [pk, nthSp, lexVals]
    rfl
  · simp only [pk, nthSp, lexVals]
    exact lu_row rfl rfl (hw1.keep HFd.out) Tryd.underlying23 rfl (by kernel_rfl)
  refine lx_ge (.agg (rowArr 32 fun j => .int .u8 (D2 j))) [(0, 28), (3, 25)] 25 (by kernel_rfl) rfl (by kernel_rfl) (by rfl) (fun w1 => ?_) (fun w1 hw1 => ?_) ?_
  · simp only [pk, nthSp, lexVals]
    rfl
  · simp only [pk, nthSp, lexVals]
    have hm := refderive_dv f Hf.out labTag w1 (by decide) (HK2.out.ext' (HX0.out w1 hw1))
    rw [HD2.out] at hm
    have HM := Lib.hid hm
    clear hm hw1
    go_simp
    refine HM.out.mono ?_
    rintro e w2 ⟨rfl, hE2⟩
    exact ⟨_, rfl, hE2, rfl⟩
  refine lx_ge (.bool true) [(2, 27), (0, 29), (4, 25)] 25 (by kernel_rfl) rfl (by kernel_rfl) (by rfl) (fun w1 => ?_) (fun w1 hw1 => ?_) ?_
  · simp only [pk, nthSp, lexVals]
    rfl
  · simp only [pk, nthSp, lexVals]
    go_simp
    exact ⟨Ext.refl _, rfl⟩
  refine lx_e (.bool true) [(5, 25), (0, 30)] (by kernel_rfl) rfl (by rfl) (fun w1 hw1 => ?_) ?_
  · simp only [pk, nthSp, lexVals]
    go_simp
    exact ⟨Ext.refl _, rfl⟩
  refine lx_e (.bool true) [(0, 31)] (by kernel_rfl) rfl (by rfl) (fun w1 hw1 => ?_) ?_
  · simp only [pk, nthSp, lexVals]
    go_simp
    exact ⟨Ext.refl _, rfl⟩
  refine lx_ge (.pointer (some ⟨gs, 96, none⟩)) [(0, 32)] 32 (by kernel_rfl) rfl (by kernel_rfl) (by rfl) (fun w1 => ?_) (fun w1 hw1 => ?_) ?_
  · simp only [pk, nthSp, lexVals]
    rfl
  · simp only [pk, nthSp, lexVals]
    exact lu_field3 rfl rfl
  refine lx_ge (.agg (rowArr 32 fun j => .int .u8 (D3 j))) [(0, 33), (1, 32)] 32 (by kernel_rfl) rfl (by kernel_rfl) (by rfl) (fun w1 => ?_) (fun w1 hw1 => ?_) ?_
  · simp only [pk, nthSp, lexVals]
    rfl
  · simp only [pk, nthSp, lexVals]
    exact lu_hash rfl rfl (HC3.out w1 hw1)
  refine lx_ge (.agg (rowArr 32 fun j => .int .u8 (f j))) [(2, 32)] 32 (by kernel_rfl) rfl (by kernel_rfl) (by rfl) (fun w1 => ?_) (fun w1 hw1 => ?_) ?_
  · simp only [pk, nthSp, lexVals]
    rfl
  · simp only [pk, nthSp, lexVals]
    exact lu_row rfl rfl (hw1.keep HFd.out) Tryd.underlying23 rfl (by kernel_rfl)
  refine lx_ge (.agg (rowArr 32 fun j => .int .u8 (D3 j))) [(0, 35), (3, 32)] 32 (by kernel_rfl) rfl (by kernel_rfl) (by rfl) (fun w1 => ?_) (fun w1 hw1 => ?_) ?_
  · simp only [pk, nthSp, lexVals]
    rfl
  · simp only [pk, nthSp, lexVals]
    have hm := refderive_dv f Hf.out labItem w1 (by decide) (HK2.out.ext' (HX0.out w1 hw1))
    rw [HD3.out] at hm
    have HM := Lib.hid hm
    clear hm hw1
    go_simp
    refine HM.out.mono ?_
    rintro e w2 ⟨rfl, hE2⟩
    exact ⟨_, rfl, hE2, rfl⟩
  refine lx_ge (.bool true) [(2, 34), (0, 36), (4, 32)] 32 (by kernel_rfl) rfl (by kernel_rfl) (by rfl) (fun w1 => ?_) (fun w1 hw1 => ?_) ?_
  · simp only [pk, nthSp, lexVals]
    rfl
  · simp only [pk, nthSp, lexVals]
    go_simp
    exact ⟨Ext.refl _, rfl⟩
  refine lx_e (.bool true) [(5, 32), (0, 37)] (by kernel_rfl) rfl (by rfl) (fun w1 hw1 => ?_) ?_
  · simp only [pk, nthSp, lexVals]
    go_simp
    exact ⟨Ext.refl _, rfl⟩
  refine lx_e (.bool true) [(0, 38)] (by kernel_rfl) rfl (by rfl) (fun w1 hw1 => ?_) ?_
  · simp only [pk, nthSp, lexVals]
    go_simp
    exact ⟨Ext.refl _, rfl⟩
  refine lx_ge (.agg (rowArr 32 fun j => .int .u8 (s j))) [(0, 39)] 39 (by kernel_rfl) rfl (by kernel_rfl) (by rfl) (fun w1 => ?_) (fun w1 hw1 => ?_) ?_
  · simp only [pk, nthSp, lexVals]
    rfl
  · simp only [pk, nthSp, lexVals]
    exact lu_row rfl rfl (hw1.keep HGd.out) Tryd.underlying23 rfl (by kernel_rfl)
  refine lx_ge (.pointer (some ⟨gt, 0, none⟩)) [(1, 39)] 39 (by kernel_rfl) rfl (by kernel_rfl) (by rfl) (fun w1 => ?_) (fun w1 hw1 => ?_) ?_
  · simp only [pk, nthSp, lexVals]
    rfl
  · simp only [pk, nthSp, lexVals]
    exact lu_two0 rfl rfl
  refine lx_ge (.int .i64 a) [(0, 41), (2, 39)] 39 (by kernel_rfl) rfl (by kernel_rfl) (by rfl) (fun w1 => ?_) (fun w1 hw1 => ?_) ?_
  · simp only [pk, nthSp, lexVals]
    rfl
  · simp only [pk, nthSp, lexVals]
    exact lu_int rfl rfl (two_cell0 (hw1.keep HTd.out))
  refine lx_ge (.pointer (some ⟨gt, 1, none⟩)) [(3, 39)] 39 (by kernel_rfl) rfl (by kernel_rfl) (by rfl) (fun w1 => ?_) (fun w1 hw1 => ?_) ?_
  · simp only [pk, nthSp, lexVals]
    rfl
  · simp only [pk, nthSp, lexVals]
    exact lu_two1 rfl rfl
  refine lx_ge (.int .i64 b) [(0, 43), (4, 39)] 39 (by kernel_rfl) rfl (by kernel_rfl) (by rfl) (fun w1 => ?_) (fun w1 hw1 => ?_) ?_
  · simp only [pk, nthSp, lexVals]
    rfl
  · simp only [pk, nthSp, lexVals]
    exact lu_int rfl rfl (two_cell1 (hw1.keep HTd.out))
  refine lx_ge (.agg (rowArr 32 fun j => .int .u8 (P j))) [(4, 40), (2, 42), (0, 44), (5, 39)] 39 (by kernel_rfl) rfl (by kernel_rfl) (by rfl) (fun w1 => ?_) (fun w1 hw1 => ?_) ?_
  · simp only [pk, nthSp, lexVals]
    rfl
  · simp only [pk, nthSp, lexVals]
    have hm := pair_any s Hs.out a b w1 (HK.out.ext' (HX0.out w1 hw1))
    rw [HP.out] at hm
    have HM := Lib.hid hm
    clear hm hw1
    go_simp
    refine HM.out.mono ?_
    rintro e w2 ⟨rfl, hE2⟩
    exact ⟨_, rfl, hE2, rfl⟩
  refine lx_ge (.agg (rowArr 32 fun j => .int .u8 (s j))) [(6, 39)] 39 (by kernel_rfl) rfl (by kernel_rfl) (by rfl) (fun w1 => ?_) (fun w1 hw1 => ?_) ?_
  · simp only [pk, nthSp, lexVals]
    rfl
  · simp only [pk, nthSp, lexVals]
    exact lu_row rfl rfl (hw1.keep HGd.out) Tryd.underlying23 rfl (by kernel_rfl)
  refine lx_ge (.pointer (some ⟨gt, 0, none⟩)) [(7, 39)] 39 (by kernel_rfl) rfl (by kernel_rfl) (by rfl) (fun w1 => ?_) (fun w1 hw1 => ?_) ?_
  · simp only [pk, nthSp, lexVals]
    rfl
  · simp only [pk, nthSp, lexVals]
    exact lu_two0 rfl rfl
  refine lx_ge (.int .i64 a) [(0, 47), (8, 39)] 39 (by kernel_rfl) rfl (by kernel_rfl) (by rfl) (fun w1 => ?_) (fun w1 hw1 => ?_) ?_
  · simp only [pk, nthSp, lexVals]
    rfl
  · simp only [pk, nthSp, lexVals]
    exact lu_int rfl rfl (two_cell0 (hw1.keep HTd.out))
  refine lx_ge (.pointer (some ⟨gt, 1, none⟩)) [(9, 39)] 39 (by kernel_rfl) rfl (by kernel_rfl) (by rfl) (fun w1 => ?_) (fun w1 hw1 => ?_) ?_
  · simp only [pk, nthSp, lexVals]
    rfl
  · simp only [pk, nthSp, lexVals]
    exact lu_two1 rfl rfl
  refine lx_ge (.int .i64 b) [(0, 49), (10, 39)] 39 (by kernel_rfl) rfl (by kernel_rfl) (by rfl) (fun w1 => ?_) (fun w1 hw1 => ?_) ?_
  · simp only [pk, nthSp, lexVals]
    rfl
  · simp only [pk, nthSp, lexVals]
    exact lu_int rfl rfl (two_cell1 (hw1.keep HTd.out))
  refine lx_ge (.agg (rowArr 32 fun j => .int .u8 (P j))) [(4, 46), (2, 48), (0, 50), (11, 39)] 39 (by kernel_rfl) rfl (by kernel_rfl) (by rfl) (fun w1 => ?_) (fun w1 hw1 => ?_) ?_
  · simp only [pk, nthSp, lexVals]
    rfl
  · simp only [pk, nthSp, lexVals]
    have hm := refPair_any s Hs.out a b w1 (HK2.out.ext' (HX0.out w1 hw1))
    rw [HP.out] at hm
    have HM := Lib.hid hm
    clear hm hw1
    go_simp
    refine HM.out.mono ?_
    rintro e w2 ⟨rfl, hE2⟩
    exact ⟨_, rfl, hE2, rfl⟩
  refine lx_ge (.bool true) [(6, 45), (0, 51), (12, 39)] 39 (by kernel_rfl) rfl (by kernel_rfl) (by rfl) (fun w1 => ?_) (fun w1 hw1 => ?_) ?_
  · simp only [pk, nthSp, lexVals]
    rfl
  · simp only [pk, nthSp, lexVals]
    go_simp
    exact ⟨Ext.refl _, rfl⟩
  refine lx_e (.bool true) [(13, 39), (0, 52)] (by kernel_rfl) rfl (by rfl) (fun w1 hw1 => ?_) ?_
  · simp only [pk, nthSp, lexVals]
    go_simp
    exact ⟨Ext.refl _, rfl⟩
  refine lx_e (.bool true) [(0, 53)] (by kernel_rfl) rfl (by rfl) (fun w1 hw1 => ?_) ?_
  · simp only [pk, nthSp, lexVals]
    go_simp
    exact ⟨Ext.refl _, rfl⟩
  refine lx_stopA (by rfl) fun w7 hw7 => ?_
  have HE7 := Lib.hid (HX0.out w7 hw7)
  clear hw7
  simp only [rv, pf, lexVals]
  simp only [Act.put, List.setIfInBounds_toArray, List.set_cons_zero, List.set_cons_succ]
  go_wp2_with fail
  go_ret
  exact ⟨rfl, HE7.out⟩

theorem lawKeysSets_arr (f s p : Nat → Int) (w : World) (hf : ∀ j, j < 32 → 0 ≤ f j ∧ f j < 256) (hs : ∀ j, j < 32 → 0 ≤ s j ∧ s j < 256) (_ : ∀ j, j < 2 → -9223372036854775808 ≤ p j ∧ p j ≤ 9223372036854775807) (hk : KsAt 1 w) (hk2 : KsAt 0 w) :
    Calls Tryd.prog 4 #[.agg (rowArr 32 fun j => .int .u8 (f j)), .agg (rowArr 32 fun j => .int .u8 (s j)), .agg (rowArr 2 fun j => .int .i64 (p j))] w fun e w' => e = .returned (.bool true) ∧ Ext w w' :=
  lawKeysSets_any f s (p 0) (p 1) w hf hs hk hk2

end Go.Proofs.YtppidlpblkihbaaDoor
