/-
  A token among tokens: the walk of jalousieref11.In. No conditions.
  A token among tokens: the walks of slices.Index, slices.Contains. No conditions.
  Whether two slices of tokens meet: the walks of keys.Meet and jalousieref11.Meet. No conditions.
-/
import Derived.Test.YtihlpfdhallfpaaDoorSorted
import Derived.Test.YtihlpfdhallfpaaDoorHdA
namespace Go.Proofs.YtihlpfdhallfpaaDoor
open Go.ChangeAt Go.ChangeShapes Go.RowKit Go.WideShapes

def eqN (n : Nat) (f g : Nat → Int) : Bool := decide (∀ j, j < n → f j = g j)
def eqTok (f g : Nat → Int) : Bool := eqN 16 f g
theorem eqTok_comm (f g : Nat → Int) : eqTok f g = eqTok g f := by
  unfold eqTok eqN
  congr 1
  exact propext ⟨fun h j hj => (h j hj).symm, fun h j hj => (h j hj).symm⟩
def inB (ts : List (Nat → Int)) (t : Nat → Int) : Bool := ts.any fun x => eqTok x t
theorem inB_step (ts : List (Nat → Int)) (t : Nat → Int) (k : Nat) (h : k < ts.length) : inB (ts.drop k) t = (eqTok (ts.getD k fun _ => 0) t || inB (ts.drop (k + 1)) t) := by
  have e : (ts.getD k fun _ => 0) = ts[k] := by simp [List.getD_eq_getElem?_getD, List.getElem?_eq_getElem h]
  rw [e]
  unfold inB
  rw [List.drop_eq_getElem_cons h, List.any_cons]

theorem eql_tok (w : World) (f g : Nat → Int) : (binOp .eql 30 (.agg (rowArr 16 fun j => .int .u8 (f j))) (.agg (rowArr 16 fun j => .int .u8 (g j)))).run Tryd.prog w = .ok (.bool (eqTok f g)) w :=
  run_eql_arr w 30 5 16 .u8 Tryd.underlying30 Tryd.underlying5 size_byte11 f g

set_option maxHeartbeats 1000000 in
set_option maxRecDepth 100000 in
theorem refIn_any (a : Option Addr) (n c : Nat) (ts : List (Nat → Int)) (T : Nat → Int) (w : World) (h : TsAt w a n c ts) :
    Calls Tryd.prog 78 #[.slice a n c, .agg (rowArr 16 fun j => .int .u8 (T j))] w fun e w' => e = .returned (.bool (inB ts T)) ∧ Ext w w' := by
  have hlen := h.len
  have hsm := h.small
  have keq := eql_tok
  obtain ⟨w2, hw2⟩ : ∃ w2, w.alloc (.cells (rowArr 16 fun j => .int .u8 (T j)) 30) = w2 := ⟨_, rfl⟩
  have hE2 : Ext w w2 := by rw [← hw2]; exact (Ext.refl w).alloc _
  have hT2 : w2.heap[w.heap.size]? = some (.cells (rowArr 16 fun j => .int .u8 (T j)) 30 (0, 0)) := by rw [← hw2]; exact heap_new w _ _ rfl
  have H := Lib.hid h
  have Hlen := Lib.hid hlen
  have Hw2 := Lib.hid hw2
  have HE2 := Lib.hid hE2
  have HT2 := Lib.hid hT2
  have Hst := Lib.hid (show ∀ k, k < n → _ from fun k hk => inB_step ts T k (by omega))
  have H0 := Lib.hid (show inB (ts.drop 0) T = inB ts T from rfl)
  have Hen := Lib.hid (show inB (ts.drop n) T = false by rw [← hlen, List.drop_length]; rfl)
  obtain ⟨R, hR⟩ : ∃ R, inB ts T = R := ⟨_, rfl⟩
  rw [hR] at H0 ⊢
  clear h hlen hR hw2 hE2 hT2
  go_enter Tryd.func78, Tryd.ntmps78
  go_upto_region 1 with (fail)
  refine wp_world (w' := w2) Hw2.out ?_
  obtain ⟨g, hg⟩ : ∃ g, w.heap.size = g := ⟨_, rfl⟩
  rw [hg] at HT2 ⊢
  clear hg Hw2
  go_wp2
  go_loopw [5] (fun i wr => ∃ m : Nat, m ≤ n ∧ i = .int .i64 (m : Int) ∧ inB (ts.drop m) T = R ∧ Ext w2 wr) (fun i _ => n - (intOf i).toNat)
  case atStart => exact ⟨0, Nat.zero_le _, rfl, H0.out, Ext.refl _⟩
  case round =>
    obtain ⟨m, hm, rfl, hr, hE⟩ := hrel
    have HE := Lib.hid (HE2.out.trans hE)
    by_cases hlt : m < n
    · obtain ⟨b, off, rfl, hc⟩ := H.out.at_ (by omega)
      obtain ⟨F, hF⟩ : ∃ F, (ts.getD m fun _ => 0) = F := ⟨_, rfl⟩
      have hE1 : Ext w wr.drew := HE.out.drew
      have HC0 := Lib.hid (show ∀ j, j < 16 → wr.drew.cell? ⟨b, off + m * 16 + j, none⟩ = some (.int .u8 (F j)) from fun j hj => by
        have h1 := hc m hlt j hj
        rw [hF] at h1
        rw [Ext.cell hE1 (World.block_lt_of_cell? w _ h1)]
        exact h1)
      have HTd := Lib.hid (show wr.drew.heap[g]? = _ from hE.keep HT2.out)
      have HX0 := Lib.hid (show ∀ x, Ext wr.drew x → Ext w x ∧ Ext w2 x from fun x hx => ⟨hE1.trans hx, (hE.drew).trans hx⟩)
      have hs := Hst.out m hlt
      rw [hF, hr] at hs
      have Hs := Lib.hid hs
      have x1 : (m : Int) < (n : Int) := by omega
      have x3 : (m : Int) ≤ 140737488355328 := by omega
      clear hc hF hE1 hs hr hE
      go_upto_region 4 with (fail)
      refine wp_region_lexA (by kernel_rfl) (by kernel_rfl) ?_
      refine lx_e (.slice (some ⟨b, off, none⟩) n c) [] (by kernel_rfl) rfl (by rfl) (fun w1 hw1 => ?_) ?_
      · simp only [pk, lexVals]
        go_simp
        exact ⟨Ext.refl _, rfl⟩
      refine lx_e (.int .i64 (m : Int)) [] (by kernel_rfl) rfl (by rfl) (fun w1 hw1 => ?_) ?_
      · simp only [pk, lexVals]
        go_simp
        exact ⟨Ext.refl _, rfl⟩
      refine lx_e (.pointer (some ⟨b, off + m * 16, none⟩)) [(1, 12), (0, 13)] (by kernel_rfl) rfl (by rfl) (fun w1 hw1 => ?_) ?_
      · simp only [pk, nthSp, lexVals]
        exact lu_idx rfl rfl rfl (by omega)
      refine lx_e (.agg (rowArr 16 fun j => .int .u8 (F j))) [(0, 14)] (by kernel_rfl) rfl (by rfl) (fun w1 hw1 => ?_) ?_
      · simp only [pk, nthSp, lexVals]
        exact lu_tok rfl rfl (fun j hj => by rw [Ext.cell (hw1) (World.block_lt_of_cell? _ _ (HC0.out j hj))]; exact HC0.out j hj)
      refine lx_e (.agg (rowArr 16 fun j => .int .u8 (T j))) [] (by kernel_rfl) rfl (by rfl) (fun w1 hw1 => ?_) ?_
      · simp only [pk, lexVals]
        exact lu_row rfl rfl (hw1.keep HTd.out) Tryd.underlying30 rfl (by kernel_rfl)
      refine lx_e (.bool (eqTok F T)) [(1, 15), (0, 16)] (by kernel_rfl) rfl (by rfl) (fun w1 hw1 => ?_) ?_
      · simp only [pk, nthSp, lexVals]
        go_simp
        exact ⟨Ext.refl _, rfl⟩
      refine lx_stopA (by rfl) fun w7 hw7 => ?_
      have HE7 := Lib.hid (HX0.out w7 hw7).1
      have HF7 := Lib.hid (HX0.out w7 hw7).2
      clear hw7
      simp only [rv, pf, lexVals]
      simp only [Act.put, List.setIfInBounds_toArray, List.set_cons_zero, List.set_cons_succ]
      obtain ⟨B, hB⟩ : ∃ B, eqTok F T = B := ⟨_, rfl⟩
      rw [hB] at Hs ⊢
      clear hB
      cases B with
      | true =>
        have hR : R = true := Hs.out
        go_wp2_with fail
        go_ret
        exact ⟨by rw [hR]; rfl, HE7.out⟩
      | false =>
        have HR := Lib.hid (show R = inB (ts.drop (m + 1)) T from Hs.out)
        go_wp2_with fail
        go_roundw
        case rel => exact ⟨m + 1, by omega, by go_num, HR.out.symm, HF7.out⟩
        case measure => simp [intOf]; omega
    · obtain rfl : m = n := by omega
      have x1 : ¬ (m : Int) < (m : Int) := by omega
      have hR : R = false := by rw [← hr]; exact Hen.out
      go_wp2_with fail
      go_ret
      exact ⟨rfl, HE.out⟩

set_option maxHeartbeats 1000000 in
set_option maxRecDepth 100000 in
theorem index_any (a : Option Addr) (n c : Nat) (ts : List (Nat → Int)) (T : Nat → Int) (w : World) (h : TsAt w a n c ts) :
    Calls Tryd.prog 77 #[.slice a n c, .agg (rowArr 16 fun j => .int .u8 (T j))] w fun e w' => ∃ r : Int, e = .returned (.int .i64 r) ∧ decide (0 ≤ r) = inB ts T ∧ Ext w w' := by
  have hlen := h.len
  have hsm := h.small
  have keq := eql_tok
  obtain ⟨w2, hw2⟩ : ∃ w2, w.alloc (.cells (rowArr 16 fun j => .int .u8 (T j)) 30) = w2 := ⟨_, rfl⟩
  have hE2 : Ext w w2 := by rw [← hw2]; exact (Ext.refl w).alloc _
  have hT2 : w2.heap[w.heap.size]? = some (.cells (rowArr 16 fun j => .int .u8 (T j)) 30 (0, 0)) := by rw [← hw2]; exact heap_new w _ _ rfl
  have H := Lib.hid h
  have Hlen := Lib.hid hlen
  have Hw2 := Lib.hid hw2
  have HE2 := Lib.hid hE2
  have HT2 := Lib.hid hT2
  have Hst := Lib.hid (show ∀ k, k < n → _ from fun k hk => inB_step ts T k (by omega))
  have H0 := Lib.hid (show inB (ts.drop 0) T = inB ts T from rfl)
  have Hen := Lib.hid (show inB (ts.drop n) T = false by rw [← hlen, List.drop_length]; rfl)
  obtain ⟨R, hR⟩ : ∃ R, inB ts T = R := ⟨_, rfl⟩
  rw [hR] at H0 ⊢
  clear h hlen hR hw2 hE2 hT2
  go_enter Tryd.func77, Tryd.ntmps77
  go_upto_region 1 with (fail)
  refine wp_world (w' := w2) Hw2.out ?_
  obtain ⟨g, hg⟩ : ∃ g, w.heap.size = g := ⟨_, rfl⟩
  rw [hg] at HT2 ⊢
  clear hg Hw2
  go_wp2
  go_loopw [8] (fun i wr => ∃ m : Nat, m ≤ n ∧ i = .int .i64 (m : Int) ∧ inB (ts.drop m) T = R ∧ Ext w2 wr) (fun i _ => n - (intOf i).toNat)
  case atStart => exact ⟨0, Nat.zero_le _, rfl, H0.out, Ext.refl _⟩
  case round =>
    obtain ⟨m, hm, rfl, hr, hE⟩ := hrel
    have HE := Lib.hid (HE2.out.trans hE)
    by_cases hlt : m < n
    · obtain ⟨b, off, rfl, hc⟩ := H.out.at_ (by omega)
      obtain ⟨F, hF⟩ : ∃ F, (ts.getD m fun _ => 0) = F := ⟨_, rfl⟩
      have hE1 : Ext w wr.drew := HE.out.drew
      have HC0 := Lib.hid (show ∀ j, j < 16 → wr.drew.cell? ⟨b, off + m * 16 + j, none⟩ = some (.int .u8 (F j)) from fun j hj => by
        have h1 := hc m hlt j hj
        rw [hF] at h1
        rw [Ext.cell hE1 (World.block_lt_of_cell? w _ h1)]
        exact h1)
      have HTd := Lib.hid (show wr.drew.heap[g]? = _ from hE.keep HT2.out)
      have HX0 := Lib.hid (show ∀ x, Ext wr.drew x → Ext w x ∧ Ext w2 x from fun x hx => ⟨hE1.trans hx, (hE.drew).trans hx⟩)
      have hs := Hst.out m hlt
      rw [hF, hr] at hs
      have hcm := eqTok_comm T F
      rw [← hcm] at hs
      have Hs := Lib.hid hs
      have x1 : (m : Int) < (n : Int) := by omega
      have x3 : (m : Int) ≤ 140737488355328 := by omega
      clear hc hF hE1 hs hr hE hcm
      go_upto_region 4 with (fail)
      refine wp_region_lexA (by kernel_rfl) (by kernel_rfl) ?_
      refine lx_e (.agg (rowArr 16 fun j => .int .u8 (T j))) [] (by kernel_rfl) rfl (by rfl) (fun w1 hw1 => ?_) ?_
      · simp only [pk, lexVals]
        exact lu_row rfl rfl (hw1.keep HTd.out) Tryd.underlying30 rfl (by kernel_rfl)
      refine lx_e (.slice (some ⟨b, off, none⟩) n c) [] (by kernel_rfl) rfl (by rfl) (fun w1 hw1 => ?_) ?_
      · simp only [pk, lexVals]
        go_simp
        exact ⟨Ext.refl _, rfl⟩
      refine lx_e (.int .i64 (m : Int)) [] (by kernel_rfl) rfl (by rfl) (fun w1 hw1 => ?_) ?_
      · simp only [pk, lexVals]
        go_simp
        exact ⟨Ext.refl _, rfl⟩
      refine lx_e (.pointer (some ⟨b, off + m * 16, none⟩)) [(1, 12), (0, 13)] (by kernel_rfl) rfl (by rfl) (fun w1 hw1 => ?_) ?_
      · simp only [pk, nthSp, lexVals]
        exact lu_idx rfl rfl rfl (by omega)
      refine lx_e (.agg (rowArr 16 fun j => .int .u8 (F j))) [(0, 14)] (by kernel_rfl) rfl (by rfl) (fun w1 hw1 => ?_) ?_
      · simp only [pk, nthSp, lexVals]
        exact lu_tok rfl rfl (fun j hj => by rw [Ext.cell (hw1) (World.block_lt_of_cell? _ _ (HC0.out j hj))]; exact HC0.out j hj)
      refine lx_e (.bool (eqTok T F)) [(4, 11), (0, 15)] (by kernel_rfl) rfl (by rfl) (fun w1 hw1 => ?_) ?_
      · simp only [pk, nthSp, lexVals]
        go_simp
        exact ⟨Ext.refl _, rfl⟩
      refine lx_stopA (by rfl) fun w7 hw7 => ?_
      have HE7 := Lib.hid (HX0.out w7 hw7).1
      have HF7 := Lib.hid (HX0.out w7 hw7).2
      clear hw7
      simp only [rv, pf, lexVals]
      simp only [Act.put, List.setIfInBounds_toArray, List.set_cons_zero, List.set_cons_succ]
      obtain ⟨B, hB⟩ : ∃ B, eqTok T F = B := ⟨_, rfl⟩
      rw [hB] at Hs ⊢
      clear hB
      cases B with
      | true =>
        have hR : R = true := Hs.out
        go_wp2_with fail
        go_ret
        exact ⟨(m : Int), rfl, by rw [hR, decide_eq_true (by omega)], HE7.out⟩
      | false =>
        have HR := Lib.hid (show R = inB (ts.drop (m + 1)) T from Hs.out)
        go_wp2_with fail
        go_roundw
        case rel => exact ⟨m + 1, by omega, by go_num, HR.out.symm, HF7.out⟩
        case measure => simp [intOf]; omega
    · obtain rfl : m = n := by omega
      have x1 : ¬ (m : Int) < (m : Int) := by omega
      have hR : R = false := by rw [← hr]; exact Hen.out
      go_wp2_with fail
      go_ret
      exact ⟨-1, rfl, by first | rfl | decide, HE.out⟩

set_option maxRecDepth 100000 in
theorem contains_any (a : Option Addr) (n c : Nat) (ts : List (Nat → Int)) (T : Nat → Int) (w : World) (h : TsAt w a n c ts) :
    Calls Tryd.prog 57 #[.slice a n c, .agg (rowArr 16 fun j => .int .u8 (T j))] w fun e w' => e = .returned (.bool (inB ts T)) ∧ Ext w w' := by
  obtain ⟨w2, hw2⟩ : ∃ w2, w.alloc (.cells (rowArr 16 fun j => .int .u8 (T j)) 30) = w2 := ⟨_, rfl⟩
  have hE2 : Ext w w2 := by rw [← hw2]; exact (Ext.refl w).alloc _
  have hT2 : w2.heap[w.heap.size]? = some (.cells (rowArr 16 fun j => .int .u8 (T j)) 30 (0, 0)) := by rw [← hw2]; exact heap_new w _ _ rfl
  have HI := Lib.hid (index_any a n c ts T w2 (h.ext hE2))
  have Hw2 := Lib.hid hw2
  have HE2 := Lib.hid hE2
  have HT2 := Lib.hid hT2
  clear h hw2 hE2 hT2
  go_enter Tryd.func57, Tryd.ntmps57
  go_upto_region 1 with (fail)
  refine wp_world (w' := w2) Hw2.out ?_
  obtain ⟨g, hg⟩ : ∃ g, w.heap.size = g := ⟨_, rfl⟩
  rw [hg] at HT2 ⊢
  clear hg Hw2
  go_wp2_with (refine wpList_load_row rfl 30 (.tmp 3) rfl g rfl _ _ _ _ HT2.out Tryd.underlying30 rfl (by kernel_rfl) ?_)
  refine HI.out.mono ?_
  rintro e w3 ⟨r, rfl, hr, hE⟩
  have HE3 := Lib.hid (HE2.out.trans hE)
  have Hr := Lib.hid hr
  clear hE hr HI
  go_wp2_with fail
  go_ret
  exact ⟨by rw [← Hr.out]; rfl, HE3.out⟩

def meetB (ts us : List (Nat → Int)) : Bool := ts.any fun t => inB us t
theorem meetB_step (ts us : List (Nat → Int)) (k : Nat) (h : k < ts.length) : meetB (ts.drop k) us = (inB us (ts.getD k fun _ => 0) || meetB (ts.drop (k + 1)) us) := by
  have e : (ts.getD k fun _ => 0) = ts[k] := by simp [List.getD_eq_getElem?_getD, List.getElem?_eq_getElem h]
  rw [e]
  unfold meetB
  rw [List.drop_eq_getElem_cons h, List.any_cons]
theorem meetB_comm (ts us : List (Nat → Int)) : meetB ts us = meetB us ts := by
  unfold meetB inB
  rw [Bool.eq_iff_iff]
  simp only [List.any_eq_true]
  exact ⟨fun ⟨t, ht, u, hu, h⟩ => ⟨u, hu, t, ht, by rw [eqTok_comm]; exact h⟩, fun ⟨u, hu, t, ht, h⟩ => ⟨t, ht, u, hu, by rw [eqTok_comm]; exact h⟩⟩

/-- A token's place, a token loaded: in a region that keeps the text's order. -/
theorem wp_idx {ops : Array Oper} {Q : Exit → Act → World → Prop} {rest : List Oper} {o : Oper} {a : Act} {w : World} (hgd : o.guard = none) (x y : Operand) (ho : o.op = .indexAddr 31 x y)
    (b off n c k : Nat) (hx : a.eval x = .slice (some ⟨b, off, none⟩) n c) (hy : a.eval y = .int .i64 (k : Int)) (hk : k < n)
    (h : wpList Tryd.prog ops Q rest (a.put o.dst (.pointer (some ⟨b, off + k * 16, none⟩))) w) : wpList Tryd.prog ops Q (o :: rest) a w := by
  refine wpList_plain hgd fun K hK => ?_
  have hr : (Instr.indexAt 31 (.slice (some ⟨b, off, none⟩) n c) (.int .i64 (k : Int))).run Tryd.prog w = .ok (.pointer (some ⟨b, off + k * 16, none⟩)) w := by
    have hb : (0 : Int) ≤ (k : Int) ∧ (k : Int) < (n : Int) := by omega
    simp only [Instr.indexAt, asIntOf, Sem.run_bind, Sem.run_pure, Result.andThen_ok, run_underlying Tryd.underlying31, hb, and_self, if_true, size_tok, Int.toNat_natCast, add_none]
  unfold Oper.wp execOp
  simp only [ho, hx, hy, Sem.run_bind, hr, Result.andThen_ok, Sem.run_pure]
  exact hK _ _ h

theorem wp_tok {ops : Array Oper} {Q : Exit → Act → World → Prop} {rest : List Oper} {o : Oper} {a : Act} {w : World} (hgd : o.guard = none) (x : Operand) (ho : o.op = .load 30 x)
    (b off : Nat) (t : Nat → Int) (hx : a.eval x = .pointer (some ⟨b, off, none⟩)) (hc : ∀ j, j < 16 → w.cell? ⟨b, off + j, none⟩ = some (.int .u8 (t j)))
    (h : wpList Tryd.prog ops Q rest (a.put o.dst (.agg (rowArr 16 fun j => .int .u8 (t j)))) w) : wpList Tryd.prog ops Q (o :: rest) a w := by
  refine wpList_plain hgd fun K hK => ?_
  have h1 := run_loadCells_list (P := Tryd.prog) w ⟨b, off, none⟩ ((List.range 16).map fun j => Value.int .u8 (t j)) (fun j v hv => by
    have hj : j < 16 := by
      have := (List.getElem?_eq_some_iff.1 hv).1
      simpa using this
    rw [List.getElem?_map, List.getElem?_range hj] at hv
    obtain rfl := Option.some.inj hv
    rw [add_none]
    exact hc j hj)
  rw [List.length_map, List.length_range] at h1
  have hagg : (isAgg 30).run Tryd.prog w = .ok true w := by
    unfold isAgg
    rw [Sem.run_bind, run_underlying Tryd.underlying30 w]
    rfl
  have hv : (loadVar 30 ⟨b, off, none⟩).run Tryd.prog w = .ok (.agg (rowArr 16 fun j => .int .u8 (t j))) w := by
    simp only [loadVar, Sem.run_bind, hagg, size_tok, Result.andThen_ok, if_true, h1, Sem.run_pure]
    rfl
  unfold Oper.wp execOp
  simp only [ho, hx, Instr.loadAt, Instr.sureAddr, Sem.run_bind, Sem.run_pure, Result.andThen_ok, hv]
  exact hK _ _ h

set_option maxHeartbeats 1000000 in
set_option maxRecDepth 100000 in
theorem meet1_any (b : Option Addr) (m d : Nat) (us : List (Nat → Int)) (T : Nat → Int) (gb : Nat) (w : World) (hu : TsAt w b m d us) (hb : w.heap[gb]? = some (.cells #[.slice b m d] 31 (0, 0))) :
    Calls Tryd.prog 56 #[.agg (rowArr 16 fun j => .int .u8 (T j)), .pointer (some ⟨gb, 0, none⟩)] w fun e w' => e = .returned (.bool (inB us T)) ∧ Ext w w' := by
  obtain ⟨w2, hw2⟩ : ∃ w2, w.alloc (.cells (rowArr 16 fun j => .int .u8 (T j)) 30) = w2 := ⟨_, rfl⟩
  have hE2 : Ext w w2 := by rw [← hw2]; exact (Ext.refl w).alloc _
  have hT2 : w2.heap[w.heap.size]? = some (.cells (rowArr 16 fun j => .int .u8 (T j)) 30 (0, 0)) := by rw [← hw2]; exact heap_new w _ _ rfl
  have hcb : w2.cell? ⟨gb, 0, none⟩ = some (.slice b m d) := by
    have := hE2.keep hb
    unfold World.cell?
    simp [this]
  have HI := Lib.hid (contains_any b m d us T w2 (hu.ext hE2))
  have Hw2 := Lib.hid hw2
  have HE2 := Lib.hid hE2
  have HT2 := Lib.hid hT2
  clear hu hb hw2 hE2 hT2
  go_enter Tryd.func56, Tryd.ntmps56
  go_upto_region 1 with (fail)
  refine wp_world (w' := w2) Hw2.out ?_
  obtain ⟨g, hg⟩ : ∃ g, w.heap.size = g := ⟨_, rfl⟩
  rw [hg] at HT2 ⊢
  clear hg Hw2
  go_wp2_with (refine wpList_load_row rfl 30 (.tmp 2) rfl g rfl _ _ _ _ HT2.out Tryd.underlying30 rfl (by kernel_rfl) ?_)
  refine HI.out.mono ?_
  rintro e w3 ⟨rfl, hE⟩
  have HE3 := Lib.hid (HE2.out.trans hE)
  clear hE HI
  go_wp2_with fail
  go_ret
  exact ⟨rfl, HE3.out⟩

set_option maxHeartbeats 1000000 in
set_option maxRecDepth 100000 in
theorem indexFunc_any (a : Option Addr) (n c : Nat) (ts : List (Nat → Int)) (b : Option Addr) (m d : Nat) (us : List (Nat → Int)) (gb : Nat) (w : World) (h : TsAt w a n c ts) (hu : TsAt w b m d us) (hb : w.heap[gb]? = some (.cells #[.slice b m d] 31 (0, 0))):
    Calls Tryd.prog 76 #[.slice a n c, .func (.func 56) #[] #[.pointer (some ⟨gb, 0, none⟩)]] w fun e w' => ∃ r : Int, e = .returned (.int .i64 r) ∧ decide (0 ≤ r) = meetB ts us ∧ Ext w w' := by
  have hlen := h.len
  have hsm := h.small
  have H := Lib.hid h
  have HUu := Lib.hid hu
  have Hlen := Lib.hid hlen
  have HB := Lib.hid hb
  have Hst := Lib.hid (show ∀ k, k < n → _ from fun k hk => meetB_step ts us k (by omega))
  have H0 := Lib.hid (show meetB (ts.drop 0) us = meetB ts us from rfl)
  have Hen := Lib.hid (show meetB (ts.drop n) us = false by rw [← hlen, List.drop_length]; rfl)
  obtain ⟨R, hR⟩ : ∃ R, meetB ts us = R := ⟨_, rfl⟩
  rw [hR] at H0 ⊢
  clear h hlen hR hu hb
  go_enter Tryd.func76, Tryd.ntmps76
  go_wp2
  go_loopw [8] (fun i wr => ∃ k : Nat, k ≤ n ∧ i = .int .i64 (k : Int) ∧ meetB (ts.drop k) us = R ∧ Ext w wr) (fun i _ => n - (intOf i).toNat)
  case atStart => exact ⟨0, Nat.zero_le _, rfl, H0.out, Ext.refl _⟩
  case round =>
    obtain ⟨k, hm, rfl, hr, hE⟩ := hrel
    have HE := Lib.hid hE
    by_cases hlt : k < n
    · obtain ⟨p, off, rfl, hc⟩ := H.out.at_ (by omega)
      obtain ⟨F, hF⟩ : ∃ F, (ts.getD k fun _ => 0) = F := ⟨_, rfl⟩
      have HC0 := Lib.hid (show ∀ j, j < 16 → wr.cell? ⟨p, off + k * 16 + j, none⟩ = some (.int .u8 (F j)) from fun j hj => by
        have h1 := hc k hlt j hj
        rw [hF] at h1
        rw [Ext.cell hE (World.block_lt_of_cell? w _ h1)]
        exact h1)
      have hs := Hst.out k hlt
      rw [hF, hr] at hs
      have Hs := Lib.hid hs
      have HM := Lib.hid (meet1_any b m d us F gb wr (HUu.out.ext hE) (hE.keep HB.out))
      have x1 : (k : Int) < (n : Int) := by omega
      have x3 : (k : Int) ≤ 140737488355328 := by omega
      clear hc hF hs hr hE
      go_wp2_with (first | (refine wp_idx rfl _ _ rfl p off n c k rfl (by first | rfl | simp [Act.eval]) (by omega) ?_) | (refine wp_tok rfl _ rfl p _ F rfl HC0.out ?_) | (go_at_call 56; refine HM.out.mono ?_; rintro e w3 ⟨rfl, hE3⟩; have HE3 := Lib.hid (HE.out.trans hE3); clear hE3))
      · rename_i h1
        have hR : R = true := by have h2 := Hs.out; rw [h1] at h2; exact h2
        go_ret
        exact ⟨(k : Int), rfl, by rw [hR]; first | rfl | exact decide_eq_true (by omega), HE3.out⟩
      · rename_i h1
        have HR := Lib.hid (show R = meetB (ts.drop (k + 1)) us by have h2 := Hs.out; rw [h1] at h2; exact h2)
        go_roundw
        case rel => exact ⟨k + 1, by omega, by go_num, HR.out.symm, HE3.out⟩
        case measure => simp [intOf]; omega
    · obtain rfl : k = n := by omega
      have x1 : ¬ (k : Int) < (k : Int) := by omega
      have hR : R = false := by rw [← hr]; exact Hen.out
      go_wp2_with fail
      go_ret
      exact ⟨-1, rfl, by first | rfl | decide, HE.out⟩

set_option maxHeartbeats 1000000 in
set_option maxRecDepth 100000 in
theorem refMeet_any (a : Option Addr) (n c : Nat) (ts : List (Nat → Int)) (b : Option Addr) (m d : Nat) (us : List (Nat → Int)) (w : World) (h : TsAt w a n c ts) (hu : TsAt w b m d us) :
    Calls Tryd.prog 58 #[.slice a n c, .slice b m d] w fun e w' => e = .returned (.bool (meetB ts us)) ∧ Ext w w' := by
  have hlen := h.len
  have hsm := h.small
  have H := Lib.hid h
  have HUu := Lib.hid hu
  have Hlen := Lib.hid hlen
  have Hst := Lib.hid (show ∀ k, k < n → _ from fun k hk => meetB_step ts us k (by omega))
  have H0 := Lib.hid (show meetB (ts.drop 0) us = meetB ts us from rfl)
  have Hen := Lib.hid (show meetB (ts.drop n) us = false by rw [← hlen, List.drop_length]; rfl)
  obtain ⟨R, hR⟩ : ∃ R, meetB ts us = R := ⟨_, rfl⟩
  rw [hR] at H0 ⊢
  clear h hlen hR hu
  go_enter Tryd.func58, Tryd.ntmps58
  go_wp2
  go_loopw [5] (fun i wr => ∃ k : Nat, k ≤ n ∧ i = .int .i64 (k : Int) ∧ meetB (ts.drop k) us = R ∧ Ext w wr) (fun i _ => n - (intOf i).toNat)
  case atStart => exact ⟨0, Nat.zero_le _, rfl, H0.out, Ext.refl _⟩
  case round =>
    obtain ⟨k, hm, rfl, hr, hE⟩ := hrel
    have HE := Lib.hid hE
    by_cases hlt : k < n
    · obtain ⟨p, off, rfl, hc⟩ := H.out.at_ (by omega)
      obtain ⟨F, hF⟩ : ∃ F, (ts.getD k fun _ => 0) = F := ⟨_, rfl⟩
      have HC0 := Lib.hid (show ∀ j, j < 16 → wr.cell? ⟨p, off + k * 16 + j, none⟩ = some (.int .u8 (F j)) from fun j hj => by
        have h1 := hc k hlt j hj
        rw [hF] at h1
        rw [Ext.cell hE (World.block_lt_of_cell? w _ h1)]
        exact h1)
      have hs := Hst.out k hlt
      rw [hF, hr] at hs
      have Hs := Lib.hid hs
      have HM := Lib.hid (refIn_any b m d us F wr (HUu.out.ext hE))
      have x1 : (k : Int) < (n : Int) := by omega
      have x3 : (k : Int) ≤ 140737488355328 := by omega
      clear hc hF hs hr hE
      go_wp2_with (first | (refine wp_idx rfl _ _ rfl p off n c k rfl (by first | rfl | simp [Act.eval]) (by omega) ?_) | (refine wp_tok rfl _ rfl p _ F rfl HC0.out ?_) | (refine HM.out.mono ?_; rintro e w3 ⟨rfl, hE3⟩; have HE3 := Lib.hid (HE.out.trans hE3); clear hE3))
      · rename_i h1
        have hR : R = true := by have h2 := Hs.out; rw [h1] at h2; exact h2
        go_ret
        exact ⟨by rw [hR]; rfl, HE3.out⟩
      · rename_i h1
        have HR := Lib.hid (show R = meetB (ts.drop (k + 1)) us by have h2 := Hs.out; rw [h1] at h2; exact h2)
        go_roundw
        case rel => exact ⟨k + 1, by omega, by go_num, HR.out.symm, HE3.out⟩
        case measure => simp [intOf]; omega
    · obtain rfl : k = n := by omega
      have x1 : ¬ (k : Int) < (k : Int) := by omega
      have hR : R = false := by rw [← hr]; exact Hen.out
      go_wp2_with fail
      go_ret
      exact ⟨rfl, HE.out⟩

set_option maxHeartbeats 1000000 in
set_option maxRecDepth 100000 in
theorem containsFunc_any (a : Option Addr) (n c : Nat) (ts : List (Nat → Int)) (b : Option Addr) (m d : Nat) (us : List (Nat → Int)) (gb : Nat) (w : World) (h : TsAt w a n c ts) (hu : TsAt w b m d us) (hb : w.heap[gb]? = some (.cells #[.slice b m d] 31 (0, 0))) :
    Calls Tryd.prog 55 #[.slice a n c, .func (.func 56) #[] #[.pointer (some ⟨gb, 0, none⟩)]] w fun e w' => e = .returned (.bool (meetB ts us)) ∧ Ext w w' := by
  have HI := Lib.hid (indexFunc_any a n c ts b m d us gb w h hu hb)
  clear h hu hb
  go_enter Tryd.func55, Tryd.ntmps55
  go_wp2_with fail
  refine HI.out.mono ?_
  rintro e w3 ⟨r, rfl, hr, hE⟩
  have HE3 := Lib.hid hE
  have Hr := Lib.hid hr
  clear hE hr HI
  go_wp2_with fail
  go_ret
  exact ⟨by rw [← Hr.out]; rfl, HE3.out⟩

set_option maxHeartbeats 1000000 in
set_option maxRecDepth 100000 in
theorem meet_any (a : Option Addr) (n c : Nat) (ts : List (Nat → Int)) (b : Option Addr) (m d : Nat) (us : List (Nat → Int)) (w : World) (h : TsAt w a n c ts) (hu : TsAt w b m d us) :
    Calls Tryd.prog 37 #[.slice a n c, .slice b m d] w fun e w' => e = .returned (.bool (meetB ts us)) ∧ Ext w w' := by
  obtain ⟨w2, hw2⟩ : ∃ w2, w.alloc (.cells #[.slice b m d] 31) = w2 := ⟨_, rfl⟩
  have hE2 : Ext w w2 := by rw [← hw2]; exact (Ext.refl w).alloc _
  have hT2 : w2.heap[w.heap.size]? = some (.cells #[.slice b m d] 31 (0, 0)) := by rw [← hw2]; exact heap_new w _ _ rfl
  have HI := Lib.hid (containsFunc_any a n c ts b m d us w.heap.size w2 (h.ext hE2) (hu.ext hE2) hT2)
  have Hw2 := Lib.hid hw2
  have HE2 := Lib.hid hE2
  clear h hu hw2 hE2 hT2
  have hmf : ∀ (fn : Fn) (first cap : Array Value) (w : World), (Instr.makeFunc fn first cap).run Tryd.prog w = .ok (.func fn first cap) w := fun _ _ _ _ => rfl
  go_enter Tryd.func37, Tryd.ntmps37
  go_upto_region 1 with (fail)
  refine wp_world (w' := w2) Hw2.out ?_
  clear Hw2
  go_wp2_with fail
  refine HI.out.mono ?_
  rintro e w3 ⟨rfl, hE⟩
  have HE3 := Lib.hid (HE2.out.trans hE)
  clear hE HI
  go_wp2_with fail
  go_ret
  exact ⟨rfl, HE3.out⟩

end Go.Proofs.YtihlpfdhallfpaaDoor
