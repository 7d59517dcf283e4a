/-
  The walk of Box.Code in ideal mode, where the code isn't there yet. Asked: the table of 64 words lies as the text lays it.
-/
import Derived.Test.YtpiebfhcfkncoaaDoorBoxDr
namespace Go.Proofs.YtpiebfhcfkncoaaDoor
open Go.ChangeShapes Go.WideShapes Go.ChangeAt Go.RowKit

set_option maxRecDepth 100000 in
theorem zero_nm (w : World) : (zeroValue 76).run Tryd.prog w = .ok (.agg (nmV (fun _ => 0) ⟨#[]⟩)) w := by kernel_rfl
theorem wp_build_nm {ops : Array Oper} {Q : Exit → Act → World → Prop} {rest : List Oper} {o : Oper} {a : Act} {w : World} (hw : Region.wanted o (yielded ops a.tmps) = true) (x0 x1 : Operand) (ho : o.op = .build 76 #[(0, x0), (1, x1)])
    (f : Nat → Int) (s : ByteArray) (h0 : a.eval x0 = .agg (rowArr 32 fun j => .int .u8 (f j))) (h1 : a.eval x1 = .string s) (A : Array Value) (hA : nmV f s = A)
    (h : wpList Tryd.prog ops Q rest (a.put o.dst (.agg A)) w) : wpList Tryd.prog ops Q (o :: rest) a w := by
  subst hA
  refine wpList_want hw fun K hK => ?_
  unfold Oper.wp execOp
  simp only [ho, List.map_toArray, List.map_cons, List.map_nil, h0, h1, Sem.run_bind, build_nm, Result.andThen_ok, Sem.run_pure]
  exact hK _ _ h
/-- A code put into a box. -/
def PutSays (w : World) (m : Nat) (l : List CdE) (f : Nat → Int) (s : ByteArray) (c : Nat → Int) (w' : World) : Prop := (∃ o, w' = ChangeMaps.setBlock w m o) ∧ ∃ b, CdAt w' m (l ++ [⟨f, s, c, b⟩])
theorem wp_update_cd {ops : Array Oper} {Q : Exit → Act → World → Prop} {rest : List Oper} {o : Oper} {a : Act} {w : World} (hw : Region.wanted o (yielded ops a.tmps) = true) (x y z : Operand) (ho : o.op = .mapUpdate 63 x y z)
    (m : Nat) (l : List CdE) (hm : CdAt w m l) (f : Nat → Int) (s : ByteArray) (hn : cdFind f s l = none) (c : Nat → Int) (hx : a.eval x = .map (some m)) (hy : a.eval y = .agg (nmV f s)) (hz : a.eval z = .agg (rowArr 32 fun j => .int .u8 (c j)))
    (h : ∀ w', PutSays w m l f s c w' → wpList Tryd.prog ops Q rest (a.put o.dst undef) w') : wpList Tryd.prog ops Q (o :: rest) a w := by
  obtain ⟨es, clock, h1, h2⟩ := hm.at_
  have hnn : nmFind f s (l.map cdNm) 0 = none := by
    have := (nmFind_cd f s l 0).1
    rw [hn] at this
    cases hq : nmFind f s (l.map cdNm) 0 with
    | none => rfl
    | some p => rw [hq] at this; cases this
  have hr := update_nm Tryd.underlying63 h1 h2 f s hnn (.agg (rowArr 32 fun j => .int .u8 (c j)))
  refine wpList_want hw fun K hK => ?_
  unfold Oper.wp execOp
  simp only [ho, hx, hy, hz, Sem.run_bind, hr, Result.andThen_ok, Sem.run_pure]
  refine hK _ _ (h _ ⟨⟨_, rfl⟩, ⟨clock, ⟨⟨es.push ⟨.agg (nmV f s), .agg (rowArr 32 fun j => .int .u8 (c j)), clock⟩, clock + 1, ?_, ?_⟩⟩⟩⟩)
  · unfold ChangeMaps.setBlock
    have hlt := (Array.getElem?_eq_some_iff.1 h1).1
    simp [hlt]
  · rw [Array.toList_push, h2, List.map_append, List.map_append]
    rfl
theorem setBlock_other (w : World) (m k : Nat) (o : Obj) (hne : k ≠ m) : (ChangeMaps.setBlock w m o).heap[k]? = w.heap[k]? := by
  unfold ChangeMaps.setBlock
  simp [Ne.symm hne]
theorem below_setBlock {B m : Nat} {a w : World} (h : Below B a w) (hm : B ≤ m) (o : Obj) : Below B a (ChangeMaps.setBlock w m o) :=
  h.trans ⟨rfl, rfl, rfl, by unfold ChangeMaps.setBlock; simp, fun k hk => setBlock_other w m k o (by omega)⟩
theorem below_grown {B g : Nat} {a w w' : World} (h : Below B a w) (hs : B ≤ w.heap.size) (hg : w.grownBy w' (some g)) (hB : B ≤ g) : Below B a w' :=
  h.trans ⟨hg.os, hg.tape, hg.output, hg.size, fun k hk => hg.block k (by omega) (fun e => by have := Option.some.inj e; omega)⟩

/-- All blocks but two are as they were. -/
def Kept (g m : Nat) (w w' : World) : Prop := w.heap.size ≤ w'.heap.size ∧ ∀ k, k < w.heap.size → k ≠ g → k ≠ m → w'.heap[k]? = w.heap[k]?

set_option maxHeartbeats 8000000 in
set_option maxRecDepth 100000 in
theorem boxCodeI_any (gb : Nat) (h : Nat → Int) (dr : Int) (m1 m2 m3 : Nat) (l : List CdE) (f : Nat → Int) (a : Option Addr) (n c : Nat) (xs : List Int) (w : World) (B : Nat) (hb : w.heap[gb]? = some (.cells (rowArr 37 (boxJ h dr m1 m2 m3)) 66 (0, 0))) (hh : ∀ j, j < 32 → 0 ≤ h j ∧ h j < 256) (hd : 0 ≤ dr ∧ dr < 18446744073709551616)
    (hm : CdAt w m2 l) (hx : BsAt w a n c xs) (hgm : gb ≠ m2) (hno : cdFind f (strOf xs) l = none) (hB1 : B ≤ gb) (hB2 : B ≤ m2) (hk : KsAt 1 w) :
    Calls Tryd.prog 16 #[.pointer (some ⟨gb, 0, none⟩), .agg (rowArr 32 fun j => .int .u8 (f j)), .slice a n c] w fun e w' => ∃ cc : Nat → Int, (∀ j, j < 32 → 0 ≤ cc j ∧ cc j < 256) ∧ e = .returned (.agg (rowArr 32 fun j => .int .u8 (cc j))) ∧ (∃ dr', (0 ≤ dr' ∧ dr' < 18446744073709551616) ∧ w'.heap[gb]? = some (.cells (rowArr 37 (boxJ h dr' m1 m2 m3)) 66 (0, 0))) ∧ (∃ b, CdAt w' m2 (l ++ [⟨f, strOf xs, cc, b⟩])) ∧ Below B w w' ∧ Kept gb m2 w w' := by
  have hgb : gb < w.heap.size := (Array.getElem?_eq_some_iff.1 hb).1
  have hm2 : m2 < w.heap.size := by obtain ⟨es, ck, h1, _⟩ := hm.at_; exact (Array.getElem?_eq_some_iff.1 h1).1
  obtain ⟨w2, hw2, hE2, hK2, hZ2⟩ := tok_box' w (rowArr 32 fun j => .int .u8 (f j)) (Array.replicate 32 (.int .u8 0)) 23 23
  obtain ⟨g, hg⟩ : ∃ g, w.heap.size = g := ⟨_, rfl⟩
  rw [hg] at hK2 hZ2 hgb hm2
  have hs2 : g + 1 < w2.heap.size := (Array.getElem?_eq_some_iff.1 hZ2).1
  have hz := zero_h32
  have hznm := zero_nm
  have Hg := Lib.hid hg
  have Hw2 := Lib.hid hw2
  have HE2 := Lib.hid hE2
  have HK2 := Lib.hid hK2
  have HZ2 := Lib.hid hZ2
  have HBs := Lib.hid (hx.ext hE2)
  have HKr := Lib.hid (fun x (h1 : Ext w x) => hk.ext' h1)
  have HBx := Lib.hid (fun x (h1 : Ext w x) => h1.keep hb)
  have HCd := Lib.hid (fun x (h1 : Ext w x) => hm.ext h1)
  have c0 := (box_cell (hE2.keep hb)).1
  have C35 := Lib.hid (fun x (h1 : Ext w2 x) => (box_cell ((hE2.trans h1).keep hb)).2.2.1)
  have hLk := fun x (h1 : Ext w2 x) => lookup_cd (hm.ext (hE2.trans h1)) f (strOf xs)
  rw [hno] at hLk
  have Hh := Lib.hid hh
  have Hd := Lib.hid hd
  have Hno := Lib.hid hno
  obtain ⟨s, hs⟩ : ∃ s, strOf xs = s := ⟨_, rfl⟩
  have Hs := Lib.hid hs
  rw [hs] at hLk Hno ⊢
  obtain ⟨NV, hNV⟩ : ∃ x, nmV f s = x := ⟨_, rfl⟩
  have HNV := Lib.hid hNV
  rw [hNV] at hLk
  have HLk := Lib.hid (show ∀ x, Ext w2 x → (Instr.lookup 63 (.map (some m2)) (.agg NV) true).run Tryd.prog x = .ok (.tuple #[.agg (rowArr 32 fun _ => .int .u8 0), .bool false]) x from hLk)
  have HNs := Lib.hid (show NV.size = 33 by rw [← hNV]; exact nmV_size f s)
  have HNo := Lib.hid (show NV.all (·.oneCell') = true by rw [← hNV]; exact nmV_one f s)
  obtain ⟨ZN, hZN⟩ : ∃ x, nmV (fun _ => 0) ⟨#[]⟩ = x := ⟨_, rfl⟩
  have HZs := Lib.hid (show ZN.size = 33 by rw [← hZN]; exact nmV_size _ _)
  rw [hZN] at hznm
  clear hw2 hE2 hK2 hZ2 hg hb hm hx hLk hno hNV hZN hs hh hd hk
  have karr := fun (w : World) (a : Option Addr) (c : Nat) => run_arrayAt_hash w a 32 c (Nat.le_refl _)
  go_enter Tryd.func16, Tryd.ntmps16
  go_upto_region 1 with (fail)
  refine wp_world (w' := w2) Hw2.out ?_
  rw [Hg.out]
  clear Hw2
  go_upto_region 4 with (first | (refine wpList_load_rowW rfl 23 _ rfl g rfl _ _ _ _ HK2.out Tryd.underlying23 rfl (by kernel_rfl) ?_) | (refine conv_strW rfl _ rfl a n c xs rfl HBs.out ?_; rw [Hs.out]) | (refine wp_build_nm rfl _ _ rfl f s rfl rfl NV HNV.out ?_) | (refine wpList_store_row rfl 76 _ _ rfl w2.heap.size _ rfl rfl _ _ (heap_new w2 _ _ rfl) (by rw [HNs.out]; kernel_rfl) (by rw [HNs.out, HZs.out]) HNo.out ?_; rw [setRow_new w2 _ _ _ _ rfl]))
  clear c0
  obtain ⟨w4, hw4⟩ : ∃ x, w2.alloc (.cells NV 76) = x := ⟨_, rfl⟩
  obtain ⟨q, hq⟩ : ∃ x, w2.heap.size = x := ⟨_, rfl⟩
  have HN4 := Lib.hid (show w4.heap[q]? = some (.cells NV 76 (0, 0)) by rw [← hw4]; exact heap_new w2 _ _ hq.symm)
  have HE4 := Lib.hid (show Ext w2 w4 by rw [← hw4]; exact (Ext.refl w2).alloc _)
  refine wp_world (w' := w4) hw4 ?_
  rw [hq]
  rw [hq] at hs2
  clear hw4 hq hznm
  obtain ⟨S, hS⟩ : ∃ S, w4.heap.size = S := ⟨_, rfl⟩
  have hqS : q < S := by rw [← hS]; exact (Array.getElem?_eq_some_iff.1 HN4.out).1
  have HX := Lib.hid (show ∀ x, Below S w4 x → Ext w4 x from fun x hx => by rw [← hS] at hx; exact hx)
  have hst : RowR S 23 32 w4 false w4.drew := by rw [← hS]; exact RowR.start w4 23 32
  clear hS
  refine lq_start (E := fun _ => RowE S (.cells (rowArr 32 fun _ => .int .u8 0) 23 (0, 0))) 12 9 (by omega) (by kernel_rfl) (by kernel_rfl) (fun _ w => RowE.refl _ _ w) (fun _ _ h => h) hst ?_
  simp only [List.take_succ_cons, List.take_zero]
  refine lr_p (.pointer (some ⟨gb, 0, none⟩)) [] (by decide) (by kernel_rfl) rfl (by rfl) (fun w1 hw1 => ?_) ?_
  · simp only [pk, lexVals]
    first | (go_simp; done) | (go_simp; rfl)
  refine lr_p (.pointer (some ⟨gb, 0, none⟩)) [(0, 24)] (by decide) (by kernel_rfl) rfl (by rfl) (fun w1 hw1 => ?_) ?_
  · simp only [pk, nthSp, lexVals]
    first | (go_simp; done) | (go_simp; rfl)
  refine lr_p (.pointer (some ⟨gb, 35, none⟩)) [(0, 25)] (by decide) (by kernel_rfl) rfl (by rfl) (fun w1 hw1 => ?_) ?_
  · simp only [pk, nthSp, lexVals]
    first | (go_simp; done) | (go_simp; rfl)
  refine lr_p (.map (some m2)) [(0, 26)] (by decide) (by kernel_rfl) rfl (by rfl) (fun w1 hw1 => ?_) ?_
  · simp only [pk, nthSp, lexVals]
    have hc := C35.out w1 (HE4.out.trans (HX.out w1 hw1))
    clear hw1
    first | (go_simp; done) | (go_simp; rfl)
  refine lr_p (.agg NV) [] (by decide) (by kernel_rfl) rfl (by rfl) (fun w1 hw1 => ?_) ?_
  · simp only [pk, lexVals]
    exact rl_row rfl rfl ((HX.out w1 hw1).keep HN4.out) Tryd.underlying76 rfl (by rw [HNs.out]; kernel_rfl)
  refine lr_p (.tuple #[.agg (rowArr 32 fun _ => .int .u8 0), .bool false]) [(1, 27), (0, 28)] (by decide) (by kernel_rfl) rfl (by rfl) (fun w1 hw1 => ?_) ?_
  · simp only [pk, nthSp, lexVals]
    exact rl_lookup rfl rfl rfl (HLk.out w1 (HE4.out.trans (HX.out w1 hw1)))
  refine lr_p (.tuple #[.agg (rowArr 32 fun _ => .int .u8 0), .bool false]) [(0, 29)] (by decide) (by kernel_rfl) rfl (by rfl) (fun w1 hw1 => ?_) ?_
  · simp only [pk, nthSp, lexVals]
    first | (go_simp; done) | (go_simp; rfl)
  refine lr_p (.agg (rowArr 32 fun _ => .int .u8 0)) [(0, 23)] (by decide) (by kernel_rfl) rfl (by rfl) (fun w1 hw1 => ?_) ?_
  · simp only [pk, nthSp, lexVals]
    first | (go_simp; done) | (go_simp; rfl)
  refine lr_p (.bool false) [(1, 23)] (by decide) (by kernel_rfl) rfl (by rfl) (fun w1 hw1 => ?_) ?_
  · simp only [pk, nthSp, lexVals]
    first | (go_simp; done) | (go_simp; rfl)
  refine lr_new (rowArr 32 fun _ => .int .u8 0) [] rfl (by kernel_rfl) rfl (by rfl) (by rw [rowArr_size]) (fun w1 => ?_) ?_
  · simp only [pk, lexVals]
    have hz := zero_h32
    first | (go_simp; done) | (go_simp; rfl)
  refine lr_put (rowArr 32 fun _ => Value.int .u8 0) 23 _ _ rfl [(0, 8), (2, 30)] (by decide) (by kernel_rfl) rfl (by rfl) rfl (by rw [rowArr_size]) (by kernel_rfl) (rowArr_one fun _ _ => rfl) (fun w1 hw1 => ?_) ?_
  · simp only [pk, nthSp, lexVals]
    rintro u8 ⟨rfl, h8⟩
    exact ⟨rfl, h8, rfl⟩
  refine lr_p (.bool false) [(2, 31)] (by decide) (by kernel_rfl) rfl (by rfl) (fun w1 hw1 => ?_) ?_
  · simp only [pk, nthSp, lexVals]
    first | (go_simp; done) | (go_simp; rfl)
  refine lq_stop (by rfl) (by decide) fun w7 hw7 => ?_
  have HE47 := Lib.hid (HX.out w7 hw7.1)
  clear hw7
  simp only [rv, pf, lexVals, List.drop_succ_cons, List.drop_zero]
  rintro v1 ⟨rfl, -⟩ v2 hF7
  have HF7 := Lib.hid hF7
  have HE7 := Lib.hid (HE2.out.trans (HE4.out.trans HE47.out))
  have HN7 := Lib.hid (HE47.out.keep HN4.out)
  have HZ7 := Lib.hid ((HE4.out.trans HE47.out).keep HZ2.out)
  simp only [Act.put, List.setIfInBounds_toArray, List.set_cons_zero, List.set_cons_succ]
  have hS7 : S < w7.heap.size := (Array.getElem?_eq_some_iff.1 hF7).1
  have hDr := draw_any gb h dr m1 m2 m3 32 w7 (HBx.out w7 HE7.out) Hh.out Hd.out (by omega) (HKr.out w7 HE7.out)
  rw [show ((32 : Nat) : Int) = 32 from rfl] at hDr
  have HDr := Lib.hid hDr
  have HCd7 := Lib.hid (HCd.out w7 HE7.out)
  clear hF7 HX HLk C35 HE47 hDr
  go_wp2_with fail
  refine HDr.out.mono ?_
  rintro e w8 ⟨a8, x8, rfl, hb8, hN8, ⟨dr', hd', hB8⟩, hG8⟩
  obtain ⟨p8, cur8, rfl, hp8, -⟩ := hN8 (by omega)
  have hkeep8 : ∀ k, k < w7.heap.size → k ≠ gb → w8.heap[k]? = w7.heap[k]? := fun k h1 h2 => hG8.block k h1 (fun e => h2 (Option.some.inj e))
  have HF8 := Lib.hid ((hkeep8 S hS7 (by omega)).trans HF7.out)
  have HN8 := Lib.hid ((hkeep8 q (by omega) (by omega)).trans HN7.out)
  have HZ8 := Lib.hid ((hkeep8 (g + 1) (by omega) (by omega)).trans HZ7.out)
  have HB8 := Lib.hid hB8
  have Hb8 := Lib.hid hb8
  have HL8 := Lib.hid (show Below B w w8 from below_grown (B := B) (Below.mono HE7.out (by have := Hg.out; omega)) (by omega) hG8 hB1)
  have HT8 := Lib.hid (show Kept gb m2 w w8 from ⟨by have := Below.size HE7.out; have := hG8.size; omega, fun k h1 h2 _ => (hkeep8 k (by have := Below.size HE7.out; omega) h2).trans (HE7.out.block h1)⟩)
  have HC8 := Lib.hid (show CdAt w8 m2 l from by
    obtain ⟨es, ck, h1, h2⟩ := HCd7.out.at_
    exact ⟨es, ck, (hkeep8 m2 (by omega) (fun e => hgm e.symm)).trans h1, h2⟩)
  have Hd' := Lib.hid hd'
  have hs8 := hG8.size
  clear hb8 hB8 hG8 hkeep8 hd' HDr HF7 HN7 HZ7 HCd7
  obtain ⟨cc, hcc⟩ : ∃ cc : Nat → Int, (fun j => x8.getD j 0) = cc := ⟨_, rfl⟩
  have Hcc := Lib.hid (show ∀ j, j < 32 → 0 ≤ cc j ∧ cc j < 256 from fun j _ => by rw [← hcc]; exact getD_byte Hb8.out.byte j)
  go_upto_region 7 with (first | (refine load_bs rfl 23 32 _ rfl Tryd.underlying23 (by kernel_rfl) ⟨p8, 0, none⟩ 32 32 x8 rfl Hb8.out (Nat.le_refl _) ?_) | (refine wpList_store_row rfl 23 _ _ rfl S _ rfl rfl _ _ HF8.out (by kernel_rfl) (by simp only [rowArr_size]) (rowArr_one fun _ _ => rfl) ?_))
  have hvv : (rowArr 32 fun j => Value.int .u8 (x8.getD j 0)) = rowArr 32 fun j => .int .u8 (cc j) := by rw [← hcc]
  rw [hvv]
  obtain ⟨w9, hw9⟩ : ∃ x, w8.setRow S (rowArr 32 fun j => .int .u8 (cc j)) = x := ⟨_, rfl⟩
  have HF9 := Lib.hid (show w9.heap[S]? = some (.cells (rowArr 32 fun j => .int .u8 (cc j)) 23 (0, 0)) by rw [← hw9]; exact setRow_heap w8 S _ _ _ _ HF8.out)
  have hoth : ∀ k, k ≠ S → w9.heap[k]? = w8.heap[k]? := fun k hne => by rw [← hw9]; exact setRow_other w8 S k _ hne
  have HN9 := Lib.hid ((hoth q (by omega)).trans HN8.out)
  have HZ9 := Lib.hid ((hoth (g + 1) (by omega)).trans HZ8.out)
  have HB9 := Lib.hid ((hoth gb (by omega)).trans HB8.out)
  have HC9 := Lib.hid (show CdAt w9 m2 l from by
    obtain ⟨es, ck, h1, h2⟩ := HC8.out.at_
    exact ⟨es, ck, (hoth m2 (by omega)).trans h1, h2⟩)
  have HL9 := Lib.hid (show Below B w w9 by rw [← hw9]; exact below_setRow HL8.out (by omega) _)
  have HT9 := Lib.hid (show Kept gb m2 w w9 from ⟨by rw [← hw9]; have := HT8.out.1; simpa using this, fun k h1 h2 h3 => (hoth k (by have := Hg.out; omega)).trans (HT8.out.2 k h1 h2 h3)⟩)
  refine wp_world (w' := w9) hw9 ?_
  clear hw9 hoth hvv hcc HF8 HN8 HZ8 HB8 HC8 HL8 Hb8
  have HX := Lib.hid (show ∀ x, Ext w9.drew x → Ext w9 x from fun x hx => Ext.trans (Ext.refl w9).drew hx)
  refine wp_region_lexT 6 (by kernel_rfl) (by kernel_rfl) ?_
  simp only [List.take_succ_cons, List.take_zero, List.drop_succ_cons, List.drop_zero]
  refine lx_e (.pointer (some ⟨gb, 0, none⟩)) [] (by kernel_rfl) rfl (by rfl) (fun w1 hw1 => ?_) ?_
  · simp only [pk, lexVals]
    go_simp
    exact ⟨Ext.refl _, rfl⟩
  refine lx_e (.pointer (some ⟨gb, 0, none⟩)) [(0, 38)] (by kernel_rfl) rfl (by rfl) (fun w1 hw1 => ?_) ?_
  · simp only [pk, nthSp, lexVals]
    go_simp
    exact ⟨Ext.refl _, rfl⟩
  refine lx_e (.pointer (some ⟨gb, 35, none⟩)) [(0, 39)] (by kernel_rfl) rfl (by rfl) (fun w1 hw1 => ?_) ?_
  · simp only [pk, nthSp, lexVals]
    go_simp
    exact ⟨Ext.refl _, rfl⟩
  refine lx_e (.map (some m2)) [(0, 40)] (by kernel_rfl) rfl (by rfl) (fun w1 hw1 => ?_) ?_
  · simp only [pk, nthSp, lexVals]
    have hc := (box_cell ((HX.out w1 hw1).keep HB9.out)).2.2.1
    clear hw1
    go_simp
    exact ⟨Ext.refl _, rfl⟩
  refine lx_e (.agg NV) [] (by kernel_rfl) rfl (by rfl) (fun w1 hw1 => ?_) ?_
  · simp only [pk, lexVals]
    exact lu_row rfl rfl ((HX.out w1 hw1).keep HN9.out) Tryd.underlying76 rfl (by rw [HNs.out]; kernel_rfl)
  refine lx_e (.agg (rowArr 32 fun j => .int .u8 (cc j))) [] (by kernel_rfl) rfl (by rfl) (fun w1 hw1 => ?_) ?_
  · simp only [pk, lexVals]
    exact lu_row rfl rfl ((HX.out w1 hw1).keep HF9.out) Tryd.underlying23 rfl (by kernel_rfl)
  refine lx_stopT (by rfl) (by decide) fun w10 hw10 => ?_
  have HE10 := Lib.hid (HX.out w10 hw10)
  have HC10 := Lib.hid (HC9.out.ext HE10.out)
  clear hw10
  simp only [rv, pf, lexVals, List.drop_succ_cons, List.drop_zero]
  simp only [Act.put, List.setIfInBounds_toArray, List.set_cons_zero, List.set_cons_succ]
  go_upto_region 8 with (refine wp_update_cd rfl _ _ _ rfl m2 l HC10.out f s Hno.out cc rfl (by rw [HNV.out]; rfl) rfl ?_)
  intro w11 hput
  obtain ⟨⟨ob, hw11⟩, hcd⟩ := hput
  have hoth : ∀ k, k ≠ m2 → w11.heap[k]? = w10.heap[k]? := fun k hne => by rw [hw11]; exact setBlock_other w10 m2 k ob hne
  have HF11 := Lib.hid ((hoth S (by omega)).trans (HE10.out.keep HF9.out))
  have HZ11 := Lib.hid ((hoth (g + 1) (by omega)).trans (HE10.out.keep HZ9.out))
  have HB11 := Lib.hid ((hoth gb hgm).trans (HE10.out.keep HB9.out))
  have HL11 := Lib.hid (show Below B w w11 by rw [hw11]; exact below_setBlock (HL9.out.trans (Below.mono HE10.out (by have := Below.size HL9.out; have := Hg.out; omega))) hB2 ob)
  have HT11 := Lib.hid (show Kept gb m2 w w11 from ⟨by have h1 := HT9.out.1; have h2 := Below.size HE10.out; have h3 : w10.heap.size = w11.heap.size := (by rw [hw11]; unfold ChangeMaps.setBlock; simp); omega, fun k h1 h2 h3 => (hoth k h3).trans ((HE10.out.block (by have := HT9.out.1; omega)).trans (HT9.out.2 k h1 h2 h3))⟩)
  have HCd := Lib.hid hcd
  clear hw11 hoth hcd HF9 HZ9 HB9 HC9 HL9 HC10 HE10 HX HNV
  go_wp2_with (first | (refine wpList_load_rowW rfl 23 _ rfl S rfl _ _ _ _ HF11.out Tryd.underlying23 rfl (by kernel_rfl) ?_) | (refine wpList_store_row rfl 23 _ _ rfl (g + 1) _ rfl rfl _ _ HZ11.out (by kernel_rfl) (by simp [rowArr_size]) (rowArr_one fun _ _ => rfl) ?_))
  refine bodyPost_ret (results_cell_row rfl _ _ (g + 1) _ _ _ _ rfl (setRow_heap w11 (g + 1) _ _ _ _ HZ11.out) Tryd.underlying23 rfl (by kernel_rfl)) rfl ⟨cc, Hcc.out, rfl, ⟨dr', Hd'.out, (setRow_other w11 (g + 1) gb _ (by omega)).trans HB11.out⟩, ?_, below_setRow HL11.out (by have := Hg.out; omega) _, ⟨by have := HT11.out.1; simpa using this, fun k h1 h2 h3 => (setRow_other w11 (g + 1) k _ (by have := Hg.out; omega)).trans (HT11.out.2 k h1 h2 h3)⟩⟩
  obtain ⟨bb, hcd⟩ := HCd.out
  obtain ⟨es, ck, h1, h2⟩ := hcd.at_
  exact ⟨bb, ⟨⟨es, ck, (setRow_other w11 (g + 1) m2 _ (by omega)).trans h1, h2⟩⟩⟩

end Go.Proofs.YtpiebfhcfkncoaaDoor
