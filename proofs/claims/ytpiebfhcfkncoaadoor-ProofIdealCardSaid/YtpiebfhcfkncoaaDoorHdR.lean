/-
  The walk of keys.Of. Asked: the table of 64 words lies as the text lays it.
  A ring by value; the walk of proof.Keys. Asked: the table of 64 words lies as the text lays it.
  The walk of entry.Hash. Asked: the table of 64 words lies as the text lays it.
  What a box answers, abstractly; the walks of entry.Right and proof.Right over it.
-/
import Derived.Test.YtpiebfhcfkncoaaDoorKeyB
import Derived.Test.YtpiebfhcfkncoaaDoorHd
import Derived.Test.YtpiebfhcfkncoaaDoorHdEq
import Derived.Test.YtpiebfhcfkncoaaDoorHdBy
import Derived.Test.YtpiebfhcfkncoaaDoorSumB
import Derived.Test.YtpiebfhcfkncoaaDoorBoxR
namespace Go.Proofs.YtpiebfhcfkncoaaDoor
open Go.ChangeAt Go.ChangeShapes Go.RowKit Go.WideShapes

/-- The four labels. -/
def labBody : ByteArray := ⟨#[106, 97, 108, 111, 117, 115, 105, 101, 32, 98, 111, 100, 121]⟩
def labCode : ByteArray := ⟨#[106, 97, 108, 111, 117, 115, 105, 101, 32, 99, 111, 100, 101]⟩
def labTag : ByteArray := ⟨#[106, 97, 108, 111, 117, 115, 105, 101, 32, 116, 97, 103]⟩
def labItem : ByteArray := ⟨#[106, 97, 108, 111, 117, 115, 105, 101, 32, 105, 116, 101, 109]⟩

/-- Four arrays of 32, one behind the other. -/
def four (h0 h1 h2 h3 : Nat → Value) (j : Nat) : Value :=
  if 96 ≤ j ∧ j < 96 + 32 then h3 (j - 96) else if 64 ≤ j ∧ j < 64 + 32 then h2 (j - 64) else if 32 ≤ j ∧ j < 32 + 32 then h1 (j - 32) else if 0 ≤ j ∧ j < 0 + 32 then h0 (j - 0) else .int .u8 0

theorem zero_set (w : World) : (zeroValue 48).run Tryd.prog w = .ok (.agg (rowArr 128 fun _ => .int .u8 0)) w := by kernel_rfl

set_option maxRecDepth 100000 in
theorem build_set (w : World) (h0 h1 h2 h3 : Nat → Value) : (Instr.build 48 #[(0, .agg (rowArr 32 h0)), (1, .agg (rowArr 32 h1)), (2, .agg (rowArr 32 h2)), (3, .agg (rowArr 32 h3))]).run Tryd.prog w = .ok (.agg (rowArr 128 (four h0 h1 h2 h3))) w := by
  kernel_rfl

theorem lu_build_set {w : World} {o : Oper} {ev : Operand → Value} {x0 x1 x2 x3 : Operand} {h0 h1 h2 h3 : Nat → Value} (ho : o.op = .build 48 #[(0, x0), (1, x1), (2, x2), (3, x3)]) (e0 : ev x0 = .agg (rowArr 32 h0)) (e1 : ev x1 = .agg (rowArr 32 h1)) (e2 : ev x2 = .agg (rowArr 32 h2)) (e3 : ev x3 = .agg (rowArr 32 h3)) :
    lexUpon Tryd.prog w (.ex (.agg (rowArr 128 (four h0 h1 h2 h3)))) ((execOp ev o).run Tryd.prog w) := by
  have hb := build_set w h0 h1 h2 h3
  simp only [execOp, ho, List.map_toArray, List.map_cons, List.map_nil, e0, e1, e2, e3, Sem.run_bind, hb, Result.andThen_ok, Sem.run_pure]
  exact ⟨Ext.refl _, rfl⟩

/-- The keys of an epoch's key. -/
def ofV (f : Nat → Int) : Nat → Value := four (fun j => .int .u8 (dvF f (strB labBody) j)) (fun j => .int .u8 (dvF f (strB labCode) j)) (fun j => .int .u8 (dvF f (strB labTag) j)) (fun j => .int .u8 (dvF f (strB labItem) j))
theorem ofV_one (f : Nat → Int) (j : Nat) : (ofV f j).oneCell' = true := by
  unfold ofV four
  repeat' split
  all_goals rfl

/-- A key, and a set of noughts. -/
theorem set_box (w : World) (f : Nat → Int) : ∃ w2, (w.alloc (.cells (rowArr 32 fun j => .int .u8 (f j)) 23)).alloc (.cells (rowArr 128 fun _ => .int .u8 0) 48) = w2 ∧ Ext w w2 ∧ w2.heap[w.heap.size]? = some (.cells (rowArr 32 fun j => .int .u8 (f j)) 23 (0, 0)) ∧ w2.heap[w.heap.size + 1]? = some (.cells (rowArr 128 fun _ => .int .u8 0) 48 (0, 0)) := by
  have e : (w.alloc (.cells (rowArr 32 fun j => .int .u8 (f j)) 23)).heap.size = w.heap.size + 1 := by simp
  refine ⟨_, rfl, ((Ext.refl w).alloc _).alloc _, ?_, heap_new _ _ _ e.symm⟩
  rw [Below.heap_alloc _ _ _ (by rw [e]; omega)]
  exact heap_new w _ _ rfl

set_option maxHeartbeats 1000000 in
set_option maxRecDepth 100000 in
theorem of_any (f : Nat → Int) (hf : ∀ j, j < 32 → 0 ≤ f j ∧ f j < 256) (w : World) (hk : KsAt 1 w) :
    Calls Tryd.prog 31 #[.agg (rowArr 32 fun j => .int .u8 (f j))] w fun e w' => e = .returned (.agg (rowArr 128 (ofV f))) ∧ Ext w w' := by
  obtain ⟨w2, hw2, hE2, hF2, hZ2⟩ := set_box w f
  have HK := Lib.hid hk
  have Hf := Lib.hid hf
  have Hw2 := Lib.hid hw2
  have HE2 := Lib.hid hE2
  have HF2 := Lib.hid hF2
  have HZ2 := Lib.hid hZ2
  clear hk hf hw2 hE2 hF2 hZ2
  have hz := zero_set
  go_enter Tryd.func31, Tryd.ntmps31
  go_upto_region 1 with (fail)
  refine wp_world (w' := w2) Hw2.out ?_
  obtain ⟨g, hg⟩ : ∃ g, w.heap.size = g := ⟨_, rfl⟩
  rw [hg] at HF2 HZ2 ⊢
  have Hg := Lib.hid (Nat.le_of_eq hg)
  have HFd := Lib.hid (show w2.drew.heap[g]? = _ from HF2.out)
  have HZd := Lib.hid (show w2.drew.heap[g + 1]? = _ from HZ2.out)
  have HX0 := Lib.hid (show ∀ x, Ext w2.drew x → Ext w x from fun x hx => HE2.out.trans (Ext.trans (Ext.refl w2).drew hx))
  clear hg Hw2 HF2 HZ2
  refine wp_region_lexT 9 (by kernel_rfl) (by kernel_rfl) ?_
  simp only [List.take_succ_cons, List.take_zero, List.drop_succ_cons, List.drop_zero]
  refine lx_e (.agg (rowArr 32 fun j => .int .u8 (f j))) [] (by kernel_rfl) rfl (by rfl) (fun w1 hw1 => ?_) ?_
  · simp only [pk, lexVals]
    exact lu_row rfl rfl (hw1.keep HFd.out) Tryd.underlying23 rfl (by kernel_rfl)
  refine lx_e (.agg (rowArr 32 fun j => .int .u8 (dvF f (strB labBody) j))) [(0, 3)] (by kernel_rfl) rfl (by rfl) (fun w1 hw1 => ?_) ?_
  · simp only [pk, nthSp, lexVals]
    have hm := derive_dv f Hf.out labBody w1 (by decide) (HK.out.ext' (HX0.out w1 hw1))
    have HM := Lib.hid hm
    clear hm hw1
    go_simp
    refine HM.out.mono ?_
    rintro e w2 ⟨rfl, hE2⟩
    exact ⟨_, rfl, hE2, rfl⟩
  refine lx_e (.agg (rowArr 32 fun j => .int .u8 (f j))) [] (by kernel_rfl) rfl (by rfl) (fun w1 hw1 => ?_) ?_
  · simp only [pk, lexVals]
    exact lu_row rfl rfl (hw1.keep HFd.out) Tryd.underlying23 rfl (by kernel_rfl)
  refine lx_e (.agg (rowArr 32 fun j => .int .u8 (dvF f (strB labCode) j))) [(0, 5)] (by kernel_rfl) rfl (by rfl) (fun w1 hw1 => ?_) ?_
  · simp only [pk, nthSp, lexVals]
    have hm := derive_dv f Hf.out labCode w1 (by decide) (HK.out.ext' (HX0.out w1 hw1))
    have HM := Lib.hid hm
    clear hm hw1
    go_simp
    refine HM.out.mono ?_
    rintro e w2 ⟨rfl, hE2⟩
    exact ⟨_, rfl, hE2, rfl⟩
  refine lx_e (.agg (rowArr 32 fun j => .int .u8 (f j))) [] (by kernel_rfl) rfl (by rfl) (fun w1 hw1 => ?_) ?_
  · simp only [pk, lexVals]
    exact lu_row rfl rfl (hw1.keep HFd.out) Tryd.underlying23 rfl (by kernel_rfl)
  refine lx_e (.agg (rowArr 32 fun j => .int .u8 (dvF f (strB labTag) j))) [(0, 7)] (by kernel_rfl) rfl (by rfl) (fun w1 hw1 => ?_) ?_
  · simp only [pk, nthSp, lexVals]
    have hm := derive_dv f Hf.out labTag w1 (by decide) (HK.out.ext' (HX0.out w1 hw1))
    have HM := Lib.hid hm
    clear hm hw1
    go_simp
    refine HM.out.mono ?_
    rintro e w2 ⟨rfl, hE2⟩
    exact ⟨_, rfl, hE2, rfl⟩
  refine lx_e (.agg (rowArr 32 fun j => .int .u8 (f j))) [] (by kernel_rfl) rfl (by rfl) (fun w1 hw1 => ?_) ?_
  · simp only [pk, lexVals]
    exact lu_row rfl rfl (hw1.keep HFd.out) Tryd.underlying23 rfl (by kernel_rfl)
  refine lx_e (.agg (rowArr 32 fun j => .int .u8 (dvF f (strB labItem) j))) [(0, 9)] (by kernel_rfl) rfl (by rfl) (fun w1 hw1 => ?_) ?_
  · simp only [pk, nthSp, lexVals]
    have hm := derive_dv f Hf.out labItem w1 (by decide) (HK.out.ext' (HX0.out w1 hw1))
    have HM := Lib.hid hm
    clear hm hw1
    go_simp
    refine HM.out.mono ?_
    rintro e w2 ⟨rfl, hE2⟩
    exact ⟨_, rfl, hE2, rfl⟩
  refine lx_e (.agg (rowArr 128 (ofV f))) [(6, 4), (4, 6), (2, 8), (0, 10)] (by kernel_rfl) rfl (by rfl) (fun w1 hw1 => ?_) ?_
  · simp only [pk, nthSp, lexVals]
    exact lu_build_set rfl rfl rfl rfl rfl
  refine lx_stopT (by rfl) (by decide) fun w7 hw7 => ?_
  have HE7 := Lib.hid (HX0.out w7 hw7)
  have HZ7 := Lib.hid (hw7.keep HZd.out)
  clear hw7 HZd HFd
  simp only [rv, pf, lexVals, List.drop_succ_cons, List.drop_zero]
  simp only [Act.put, List.setIfInBounds_toArray, List.set_cons_zero, List.set_cons_succ]
  go_wp2_with (refine wpList_store_row rfl 48 _ _ rfl _ _ rfl rfl _ _ HZ7.out (by kernel_rfl) (by simp only [rowArr_size]) (rowArr_one fun j _ => ofV_one f j) ?_)
  have hgg := Hg.out
  exact bodyPost_ret (results_cell_row rfl _ _ (g + 1) _ _ _ _ rfl (setRow_heap w7 (g + 1) _ _ _ _ HZ7.out) Tryd.underlying48 rfl (by kernel_rfl)) rfl ⟨rfl, below_setRow HE7.out (by omega) _⟩

/-- A slice of the hashes 'ts'. -/
structure EpAt (w : World) (a : Option Addr) (n c : Nat) (ts : List (Nat → Int)) : Prop where
  len : ts.length = n
  cap : n ≤ c
  lim : c ≤ 9223372036854775807
  small : n ≤ 140737488355328
  byte : ∀ t ∈ ts, ∀ j, j < 32 → 0 ≤ t j ∧ t j < 256
  at_ : 0 < n → ∃ b off, a = some ⟨b, off, none⟩ ∧ ∀ i, i < n → ∀ j, j < 32 → w.cell? ⟨b, off + i * 32 + j, none⟩ = some (.int .u8 ((ts.getD i fun _ => 0) j))
  nil_ : a = none → c = 0
theorem EpAt.ext {w w' : World} {a : Option Addr} {n c : Nat} {ts : List (Nat → Int)} (h : EpAt w a n c ts) (he : Ext w w') : EpAt w' a n c ts := by
  refine ⟨h.len, h.cap, h.lim, h.small, h.byte, fun hn => ?_, h.nil_⟩
  obtain ⟨b, off, ha, hc⟩ := h.at_ hn
  refine ⟨b, off, ha, fun i hi j hj => ?_⟩
  have h1 := hc i hi j hj
  rw [Ext.cell he (World.block_lt_of_cell? w _ h1)]
  exact h1
theorem EpAt.key {w : World} {a : Option Addr} {n c : Nat} {ts : List (Nat → Int)} (h : EpAt w a n c ts) (i : Nat) (hi : i < n) : ∀ j, j < 32 → 0 ≤ (ts.getD i fun _ => 0) j ∧ (ts.getD i fun _ => 0) j < 256 := by
  have hl : i < ts.length := by rw [h.len]; exact hi
  rw [List.getD_eq_getElem?_getD, List.getElem?_eq_getElem hl]
  exact h.byte _ (List.getElem_mem hl)

/-- A ring. -/
structure Rg where
  grp : Nat → Int
  ea : Option Addr
  en : Nat
  ec : Nat
  ks : List (Nat → Int)
def rgC (r : Rg) (i : Nat) : Value := if i < 32 then .int .u8 (r.grp i) else .slice r.ea r.en r.ec
def rgV (r : Rg) : Array Value := rowArr 33 (rgC r)
theorem rgV_size (r : Rg) : (rgV r).size = 33 := rowArr_size _ _
theorem rgC_one (r : Rg) (i : Nat) : (rgC r i).oneCell' = true := by unfold rgC; split <;> rfl
structure RgAt (w : World) (r : Rg) : Prop where
  grp : ∀ j, j < 32 → 0 ≤ r.grp j ∧ r.grp j < 256
  eps : EpAt w r.ea r.en r.ec r.ks
theorem RgAt.ext {w w' : World} {r : Rg} (h : RgAt w r) (he : Ext w w') : RgAt w' r := ⟨h.grp, h.eps.ext he⟩
section
variable {w : World} {g : Nat} {r : Rg} {T : TypeId} {fr : Nat × Nat} (hb : w.heap[g]? = some (.cells (rgV r) T fr))
include hb
theorem rg_grp (i : Nat) (hi : i < 32) : w.cell? ⟨g, 0 + i, none⟩ = some (.int .u8 (r.grp i)) := by
  rw [row_cell hb (0 + i) (by omega), Nat.zero_add]
  unfold rgC
  rw [if_pos hi]
theorem rg_eps : w.cell? ⟨g, 32, none⟩ = some (.slice r.ea r.en r.ec) := row_cell hb 32 (by omega)
end

/-- The key that a header's code is by. -/
def keyO (r : Rg) (h : Hd) : Option (Nat → Int) := if h.ctl = true then some r.grp else if h.epoch < 0 ∨ (r.en : Int) ≤ h.epoch then none else some (r.ks.getD h.epoch.toNat fun _ => 0)
theorem keyO_byte {w : World} {r : Rg} {h : Hd} (hr : RgAt w r) {f : Nat → Int} (hf : keyO r h = some f) : ∀ j, j < 32 → 0 ≤ f j ∧ f j < 256 := by
  unfold keyO at hf
  by_cases hc : h.ctl = true
  · rw [if_pos hc] at hf
    obtain rfl := Option.some.inj hf
    exact hr.grp
  · rw [if_neg hc] at hf
    by_cases he : h.epoch < 0 ∨ (r.en : Int) ≤ h.epoch
    · rw [if_pos he] at hf
      cases hf
    · rw [if_neg he] at hf
      obtain rfl := Option.some.inj hf
      exact hr.eps.key _ (by omega)
/-- What proof.Keys hands back. -/
def setC : Option (Nat → Int) → Nat → Value
  | some f => ofV f
  | none => fun _ => .int .u8 0
theorem setC_one (o : Option (Nat → Int)) (j : Nat) : (setC o j).oneCell' = true := by
  cases o
  · rfl
  · exact ofV_one _ j

theorem box3 (w : World) (A B C : Array Value) (T U V : TypeId) : ∃ w2, ((w.alloc (.cells A T)).alloc (.cells B U)).alloc (.cells C V) = w2 ∧ Ext w w2 ∧ w2.heap[w.heap.size]? = some (.cells A T (0, 0)) ∧ w2.heap[w.heap.size + 1]? = some (.cells B U (0, 0)) ∧ w2.heap[w.heap.size + 1 + 1]? = some (.cells C V (0, 0)) := by
  refine ⟨_, rfl, (((Ext.refl w).alloc _).alloc _).alloc _, ?_, ?_, ?_⟩
  · exact Ext.keep (((Ext.refl (w.alloc (.cells A T))).alloc _).alloc _) (heap_new w _ _ rfl)
  · exact Ext.keep ((Ext.refl ((w.alloc (.cells A T)).alloc (.cells B U))).alloc _) (heap_new _ _ _ (by simp))
  · exact heap_new _ _ _ (by simp)

/-- A hash's place in a slice. -/
theorem wp_idx32 {ops : Array Oper} {Q : Exit → Act → World → Prop} {rest : List Oper} {o : Oper} {a : Act} {w : World} (hw : Region.wanted o (yielded ops a.tmps) = true) (x y : Operand) (ho : o.op = .indexAddr 24 x y)
    (b off n c k : Nat) (hx : a.eval x = .slice (some ⟨b, off, none⟩) n c) (hy : a.eval y = .int .i64 (k : Int)) (hk : k < n)
    (h : wpList Tryd.prog ops Q rest (a.put o.dst (.pointer (some ⟨b, off + k * 32, none⟩))) w) : wpList Tryd.prog ops Q (o :: rest) a w := by
  have hr : (Instr.indexAt 24 (.slice (some ⟨b, off, none⟩) n c) (.int .i64 (k : Int))).run Tryd.prog w = .ok (.pointer (some ⟨b, off + k * 32, none⟩)) w := by
    have hb : (0 : Int) ≤ (k : Int) ∧ (k : Int) < (n : Int) := by omega
    simp only [Instr.indexAt, asIntOf, Sem.run_bind, Sem.run_pure, Result.andThen_ok, run_underlying Tryd.underlying24, hb, and_self, if_true, size_h32, Int.toNat_natCast, add_none]
  refine wpList_want hw fun K hK => ?_
  unfold Oper.wp execOp
  simp only [ho, hx, hy, Sem.run_bind, hr, Result.andThen_ok, Sem.run_pure]
  exact hK _ _ h

set_option maxHeartbeats 2000000 in
set_option maxRecDepth 100000 in
theorem keys15_any (r : Rg) (h : Hd) (w : World) (hr : RgAt w r) (hk : KsAt 1 w) :
    Calls Tryd.prog 14 #[.agg (rgV r), .agg (hdV h)] w fun e w' => e = .returned (.tuple #[.agg (rowArr 128 (setC (keyO r h))), .bool (keyO r h).isSome]) ∧ Ext w w' := by
  obtain ⟨w2, hw2, hE2, hR2, hH2, hZ2⟩ := box3 w (rgV r) (hdV h) (rowArr 128 fun _ => .int .u8 0) 26 33 48
  have hz := zero_set
  have HK := Lib.hid (hk.ext' hE2)
  have Hw2 := Lib.hid hw2
  have HE2 := Lib.hid hE2
  obtain ⟨g, hg⟩ : ∃ g, w.heap.size = g := ⟨_, rfl⟩
  rw [hg] at hR2 hH2 hZ2
  have Hg := Lib.hid hg
  have HZ2 := Lib.hid hZ2
  have HG := Lib.hid (fun i (hi : i < 32) => rg_grp hR2 i hi)
  have c35 := hd_ctl hH2
  have c34 := hd_epoch hH2
  have c32 := rg_eps hR2
  have HGb := Lib.hid hr.grp
  have hEp := hr.eps.ext hE2
  obtain ⟨RV, hRV⟩ : ∃ A, rgV r = A := ⟨_, rfl⟩
  obtain ⟨HV, hHV⟩ : ∃ A, hdV h = A := ⟨_, rfl⟩
  rw [hRV, hHV] at Hw2 ⊢
  clear hw2 hE2 hR2 hH2 hZ2 hg hr hk hRV hHV
  unfold keyO
  obtain ⟨grp, ea, en, ec, ks⟩ := r
  obtain ⟨B, hB⟩ : ∃ B, h.ctl = B := ⟨_, rfl⟩
  obtain ⟨E, hE⟩ : ∃ B, h.epoch = B := ⟨_, rfl⟩
  rw [hB] at c35 ⊢
  rw [hE] at c34 ⊢
  clear hB hE
  dsimp only at c32 HG HGb hEp ⊢
  cases B with
  | true =>
    clear c34 c32 hEp
    rw [if_pos rfl]
    have HO := Lib.hid (of_any grp HGb.out w2 HK.out)
    go_enter Tryd.func14, Tryd.ntmps14
    go_upto_region 1 with (fail)
    refine wp_world (w' := w2) Hw2.out ?_
    rw [Hg.out]
    go_wp2_with (refine wp_sub rfl 23 _ rfl g 0 32 (fun j => .int .u8 (grp j)) rfl Tryd.underlying23 (size_h32 _) HG.out ?_)
    refine HO.out.mono ?_
    rintro e w3 ⟨rfl, hE3⟩
    have HE3 := Lib.hid (HE2.out.trans hE3)
    have HZ3 := Lib.hid (hE3.keep HZ2.out)
    clear hE3 HO HE2 HZ2 c35
    go_wp2_with (refine wpList_store_row rfl 48 _ _ rfl _ _ rfl rfl _ _ HZ3.out (by kernel_rfl) (by simp only [rowArr_size]) (rowArr_one fun j _ => ofV_one _ j) ?_)
    refine bodyPost_ret (results_row_tmp rfl _ _ (g + 1 + 1) _ _ _ _ rfl (setRow_heap w3 (g + 1 + 1) _ _ _ _ HZ3.out) Tryd.underlying48 rfl (by kernel_rfl)) rfl ⟨rfl, below_setRow HE3.out (by have := Hg.out; omega) _⟩
  | false =>
    rw [if_neg (by simp)]
    by_cases hbad : E < 0 ∨ (en : Int) ≤ E
    · rw [if_pos hbad]
      by_cases h0 : E < 0
      case' pos => clear hbad c32
      case' neg => have h1 : (en : Int) ≤ E := by omega
      case' neg => have h2 : 0 ≤ E := by omega
      case' neg => clear hbad h0
      all_goals
        clear hEp
        go_enter Tryd.func14, Tryd.ntmps14
        go_upto_region 1 with (fail)
        refine wp_world (w' := w2) Hw2.out ?_
        rw [Hg.out]
        go_wp2_with (refine wpList_store_row rfl 48 _ _ rfl _ _ rfl rfl _ _ HZ2.out (by kernel_rfl) (by simp only [rowArr_size]) (rowArr_one fun j _ => rfl) ?_)
        refine bodyPost_ret (results_row_tmp rfl _ _ (g + 1 + 1) _ _ _ _ rfl (setRow_heap w2 (g + 1 + 1) _ _ _ _ HZ2.out) Tryd.underlying48 rfl (by kernel_rfl)) rfl ⟨rfl, below_setRow HE2.out (by have := Hg.out; omega) _⟩
    · rw [if_neg hbad]
      obtain ⟨k, rfl⟩ : ∃ k : Nat, E = (k : Int) := ⟨E.toNat, by omega⟩
      have h1 : ¬ (en : Int) ≤ (k : Int) := by omega
      have h2 : k < en := by omega
      have Hk := Lib.hid h2
      rw [Int.toNat_natCast]
      obtain ⟨b, off, rfl, hcell⟩ := hEp.at_ (by omega)
      have HC := Lib.hid (hcell k h2)
      have HF := Lib.hid (hEp.key k h2)
      have hsm := hEp.small
      obtain ⟨f, hf⟩ : ∃ f, (ks.getD k fun _ => 0) = f := ⟨_, rfl⟩
      rw [hf] at HC HF ⊢
      have HO := Lib.hid (of_any f HF.out w2 HK.out)
      clear hbad hEp hcell hf h2
      go_enter Tryd.func14, Tryd.ntmps14
      go_upto_region 1 with (fail)
      refine wp_world (w' := w2) Hw2.out ?_
      rw [Hg.out]
      go_wp2_with (first | (refine wp_idx32 rfl _ _ rfl b off en ec k rfl rfl Hk.out ?_) | (refine wp_sub rfl 23 _ rfl b (off + k * 32) 32 (fun j => .int .u8 (f j)) rfl Tryd.underlying23 (size_h32 _) HC.out ?_))
      refine HO.out.mono ?_
      rintro e w3 ⟨rfl, hE3⟩
      have HE3 := Lib.hid (HE2.out.trans hE3)
      have HZ3 := Lib.hid (hE3.keep HZ2.out)
      clear hE3 HO HE2 HZ2 c35 c34 c32
      go_wp2_with (refine wpList_store_row rfl 48 _ _ rfl _ _ rfl rfl _ _ HZ3.out (by kernel_rfl) (by simp only [rowArr_size]) (rowArr_one fun j _ => ofV_one _ j) ?_)
      refine bodyPost_ret (results_row_tmp rfl _ _ (g + 1 + 1) _ _ _ _ rfl (setRow_heap w3 (g + 1 + 1) _ _ _ _ HZ3.out) Tryd.underlying48 rfl (by kernel_rfl)) rfl ⟨rfl, below_setRow HE3.out (by have := Hg.out; omega) _⟩

theorem hdKs_ext {g : Nat} {w w' : World} (h : KsAt g w) (he : Ext w w') : KsAt g w' := fun i hi => by
  have hb := World.block_lt_of_cell? w _ (h i hi)
  rw [Ext.cell (p := ⟨g, i, none⟩) he hb]
  exact h i hi
theorem zero32 (w : World) : (zeroValue 23).run Tryd.prog w = .ok (.agg (rowArr 32 fun _ => .int .u8 0)) w := zero_h32 w

set_option maxHeartbeats 2000000 in
set_option maxRecDepth 100000 in
theorem hdHash_any (h : Hd) (ts : List (Nat → Int)) (w : World) (ho : HdOk h) (ht : TsAt w h.ta h.tn h.tc ts) (hk : KsAt 1 w) :
    Calls Tryd.prog 24 #[.agg (hdV h)] w fun e w' => e = .returned (.agg (rowArr 32 fun j => .int .u8 (shaF (bytesL h ts) j))) ∧ Ext w w' := by
  obtain ⟨w2, hw2⟩ : ∃ w2, (w.alloc (.cells (hdV h) 33)).alloc (.cells (rowArr 32 fun _ => .int .u8 0) 23) = w2 := ⟨_, rfl⟩
  have hE2 : Ext w w2 := by rw [← hw2]; exact ((Ext.refl w).alloc _).alloc _
  have hB2 : w2.heap[w.heap.size]? = some (.cells (hdV h) 33 (0, 0)) := by
    rw [← hw2]
    exact Ext.keep ((Ext.refl (w.alloc (.cells (hdV h) 33))).alloc _) (heap_new w _ _ rfl)
  have hZ2 : w2.heap[w.heap.size + 1]? = some (.cells (rowArr 32 fun _ => .int .u8 0) 23 (0, 0)) := by
    rw [← hw2]
    exact heap_new _ _ _ (by simp)
  have hby := bytesL_byte ho ht.len ht.byte
  have hle := bytesL_le h ts
  have HBy := Lib.hid (hdBytes_any h ts w2 ho (ht.ext hE2))
  obtain ⟨XS, hXS⟩ : ∃ X, bytesL h ts = X := ⟨_, rfl⟩
  rw [hXS] at hby hle HBy ⊢
  have Hby := Lib.hid hby
  have Hw2 := Lib.hid hw2
  have HE2 := Lib.hid hE2
  have HB2 := Lib.hid hB2
  have HZ2 := Lib.hid hZ2
  have HK := Lib.hid hk
  have Hsz := Lib.hid (hdV_size h)
  obtain ⟨A, hA⟩ : ∃ A, hdV h = A := ⟨_, rfl⟩
  rw [hA] at HBy Hw2 HB2 Hsz ⊢
  clear hw2 hE2 hB2 hZ2 ho ht hk hA hXS hby
  go_enter Tryd.func24, Tryd.ntmps24
  go_upto_region 1 with (fail)
  refine wp_world (w' := w2) Hw2.out ?_
  obtain ⟨g, hg⟩ : ∃ g, w.heap.size = g := ⟨_, rfl⟩
  rw [hg] at HB2 HZ2 ⊢
  have Hg := Lib.hid (Nat.le_of_eq hg)
  clear hg Hw2
  go_wp2_with (refine wpList_load_rowW rfl 33 _ rfl g rfl _ _ _ _ HB2.out Tryd.underlying33 rfl (by rw [Hsz.out]; kernel_rfl) ?_)
  refine HBy.out.mono ?_
  rintro e w3 ⟨v3, rfl, hown, hE⟩
  obtain ⟨a3, c3, rfl, hc1, hc2⟩ := owns_slice hown
  have hb3 : BsAt w3 a3 XS.length c3 XS := owns_bs hown Hby.out (by unfold maxLen at hc2; omega) (by omega)
  have hP := ps_one hb3 53
  have hE4 : Ext w3 (w3.alloc (.cells #[.slice a3 XS.length c3] 53)) := (Ext.refl w3).alloc _
  have hm := sum_any _ _ _ _ _ hP (by simp; omega) (by omega) (hdKs_ext HK.out (HE2.out.trans (hE.trans hE4)))
  have HM := Lib.hid hm
  have HE4 := Lib.hid (hE.trans hE4)
  clear hown hc1 hc2 hb3 hP hE4 hm hE HBy
  obtain ⟨N, hN⟩ : ∃ N, XS.length = N := ⟨_, rfl⟩
  rw [hN] at HM HE4 hle ⊢
  clear hN
  go_wp2_with fail
  refine HM.out.mono ?_
  rintro e w5 ⟨rfl, hE5⟩
  rw [show ([XS] : List (List Int)).flatten = XS by simp]
  have HZ5 := Lib.hid ((HE4.out.trans hE5).keep HZ2.out)
  have HE5 := Lib.hid (HE2.out.trans (HE4.out.trans hE5))
  obtain ⟨F, hF⟩ : ∃ F, shaF XS = F := ⟨_, rfl⟩
  have HF := Lib.hid hF
  rw [hF]
  clear hE5 HM HE4 hF
  go_wp2_with (refine wpList_store_row rfl 23 _ _ rfl _ _ rfl rfl _ _ HZ5.out (by kernel_rfl) (by simp only [rowArr_size]) (rowArr_one fun _ _ => rfl) ?_)
  have hgg := Hg.out
  exact bodyPost_ret (results_cell_row rfl _ _ (g + 1) _ _ _ _ rfl (setRow_heap w5 (g + 1) _ _ _ _ HZ5.out) Tryd.underlying23 rfl (by kernel_rfl)) rfl ⟨by rw [HF.out], below_setRow HE5.out (by omega) _⟩

/-- Whether a code is right. -/
abbrev Rt := (Nat → Int) → List Int → (Nat → Int) → Bool
/-- What Box.Right answers at a box. -/
def RightIs (gb : Nat) (R : Rt) (w : World) : Prop := ∀ w1, Ext w w1 → ∀ f : Nat → Int, (∀ j, j < 32 → 0 ≤ f j ∧ f j < 256) → ∀ d : Nat → Int, (∀ j, j < 32 → 0 ≤ d j ∧ d j < 256) → ∀ (a : Option Addr) (n c : Nat) (xs : List Int), BsAt w1 a n c xs → n ≤ 4096 →
  Calls Tryd.prog 54 #[.pointer (some ⟨gb, 0, none⟩), .agg (rowArr 32 fun j => .int .u8 (f j)), .slice a n c, .agg (rowArr 32 fun j => .int .u8 (d j))] w1 fun e w' => e = .returned (.bool (R f xs d)) ∧ Ext w1 w'
theorem RightIs.ext {gb : Nat} {R : Rt} {w w' : World} (h : RightIs gb R w) (he : Ext w w') : RightIs gb R w' := fun w1 h1 => h w1 (he.trans h1)
def realR : Rt := fun f xs d => decide (l32 (macF (l32 f) xs) = l32 d)
theorem rightIs_real {gb : Nat} {w : World} (hc : w.cell? ⟨gb, 0, none⟩ = some (.bool false)) (hk : KsAt 1 w) : RightIs gb realR w := fun w1 h1 f hf d hd a n c xs hb hn =>
  boxRight_any gb f hf a n c xs d hd w1 ((Ext.cell h1 (World.block_lt_of_cell? w _ hc)).trans hc) hb hn (hk.ext' h1)

/-- The code's key of an epoch's key. -/
def codeK (f : Nat → Int) : Nat → Int := dvF f (strB labCode)
theorem codeK_byte (f : Nat → Int) : ∀ j, j < 32 → 0 ≤ codeK f j ∧ codeK f j < 256 := fun j _ => dvF_byte _ _ j
theorem ofV_code (f : Nat → Int) (i : Nat) (hi : i < 32) : ofV f (32 + i) = .int .u8 (codeK f i) := by
  unfold ofV four
  rw [if_neg (by omega), if_neg (by omega), if_pos (by omega), show 32 + i - 32 = i by omega]
  rfl
theorem tok_box' (w : World) (A B : Array Value) (T U : TypeId) : ∃ w2, (w.alloc (.cells A T)).alloc (.cells B U) = w2 ∧ Ext w w2 ∧ w2.heap[w.heap.size]? = some (.cells A T (0, 0)) ∧ w2.heap[w.heap.size + 1]? = some (.cells B U (0, 0)) := by
  refine ⟨_, rfl, ((Ext.refl w).alloc _).alloc _, ?_, ?_⟩
  · exact Ext.keep ((Ext.refl (w.alloc (.cells A T))).alloc _) (heap_new w _ _ rfl)
  · exact heap_new _ _ _ (by simp)
/-- Whether a header is right by an epoch's key. -/
def rightH (R : Rt) (f : Nat → Int) (h : Hd) (ts : List (Nat → Int)) : Bool := hdB h ts && R (codeK f) (coreL h ts) h.code
def rightO (R : Rt) (o : Option (Nat → Int)) (h : Hd) (ts : List (Nat → Int)) : Bool := match o with
  | some f => rightH R f h ts
  | none => false

set_option maxHeartbeats 4000000 in
set_option maxRecDepth 100000 in
theorem hdRight_any (gb : Nat) (R : Rt) (f : Nat → Int) (h : Hd) (ts : List (Nat → Int)) (w : World) (ho : HdOk h) (ht : TsAt w h.ta h.tn h.tc ts) (hR : RightIs gb R w) :
    Calls Tryd.prog 28 #[.pointer (some ⟨gb, 0, none⟩), .agg (rowArr 128 (ofV f)), .agg (hdV h)] w fun e w' => e = .returned (.bool (rightH R f h ts)) ∧ Ext w w' := by
  obtain ⟨w2, hw2, hE2, hS2, hH2⟩ := tok_box' w (rowArr 128 (ofV f)) (hdV h) 48 33
  obtain ⟨g, hg⟩ : ∃ g, w.heap.size = g := ⟨_, rfl⟩
  rw [hg] at hS2 hH2
  have Hg := Lib.hid hg
  have Hw2 := Lib.hid hw2
  have HE2 := Lib.hid hE2
  have HH2 := Lib.hid hH2
  have HRt := Lib.hid (hR.ext hE2)
  have Hsz := Lib.hid (hdV_size h)
  have Hcb := Lib.hid (codeK_byte f)
  have Hdb := Lib.hid ho.code
  have HFo := Lib.hid (fun w1 (h1 : Ext w2 w1) => formedHd_any h ts w1 ho (ht.ext (hE2.trans h1)))
  have HDd := Lib.hid (show ∀ w1, Ext w2 w1 → ∀ i, i < 32 → w1.cell? ⟨g + 1, 93 + i, none⟩ = some (.int .u8 (h.code i)) from fun w1 h1 i hi => hd_code (h1.keep hH2) i hi)
  have HCd := Lib.hid (show ∀ w1, Ext w2 w1 → ∀ i, i < 32 → w1.cell? ⟨g, 32 + i, none⟩ = some (.int .u8 (codeK f i)) from fun w1 h1 i hi => by rw [row_cell (h1.keep hS2) (32 + i) (by omega), ofV_code f i hi])
  have HCo := Lib.hid (show hdB h ts = true → ∀ w1, Ext w2 w1 → Calls Tryd.prog 55 #[.agg (hdV h)] w1 fun e w' => ∃ q n c, e = .returned (.slice q n c) ∧ BsAt w' q n c (coreL h ts) ∧ Ext w1 w' from fun hf w1 h1 =>
    (core_any h ts w1 ho (ht.ext (hE2.trans h1)) hf).mono fun e w' ⟨v, he, hown, hE⟩ => by
      obtain ⟨q, c, rfl, h2, h3⟩ := owns_slice hown
      exact ⟨q, _, c, he, owns_bs hown (coreL_byte hf ho ht.len ht.byte) (by unfold maxLen at h3; omega) (by have := coreL_le hf; omega), hE⟩)
  have HXl := Lib.hid (fun hf : hdB h ts = true => coreL_le (h := h) (ts := ts) hf)
  have HX := Lib.hid (show ∀ x, Ext w2.drew x → Ext w2 x from fun x hx => Ext.trans (Ext.refl w2).drew hx)
  unfold rightH
  obtain ⟨cd, hcd⟩ : ∃ c, codeK f = c := ⟨_, rfl⟩
  obtain ⟨HV, hHV⟩ : ∃ A, hdV h = A := ⟨_, rfl⟩
  obtain ⟨SV, hSV⟩ : ∃ A, rowArr 128 (ofV f) = A := ⟨_, rfl⟩
  rw [hcd] at Hcb HCd ⊢
  rw [hHV] at HH2 Hsz HFo HCo Hw2 ⊢
  rw [hSV] at Hw2 ⊢
  obtain ⟨X, hX⟩ : ∃ X, coreL h ts = X := ⟨_, rfl⟩
  rw [hX] at HCo HXl ⊢
  obtain ⟨F, hF⟩ : ∃ F, hdB h ts = F := ⟨_, rfl⟩
  rw [hF] at HCo HXl HFo ⊢
  clear hw2 hE2 hS2 hH2 hg ho ht hR hcd hHV hSV hX hF
  cases F with
  | true =>
    have HCo := Lib.hid (HCo.out rfl)
    have HXl := Lib.hid (HXl.out rfl)
    go_enter Tryd.func28, Tryd.ntmps28
    go_upto_region 1 with (fail)
    refine wp_world (w' := w2) Hw2.out ?_
    rw [Hg.out]
    refine wp_region_lexA (by kernel_rfl) (by kernel_rfl) ?_
    refine lx_e (.agg HV) [] (by kernel_rfl) rfl (by rfl) (fun w1 hw1 => ?_) ?_
    · simp only [pk, lexVals]
      exact lu_row rfl rfl ((HX.out w1 hw1).keep HH2.out) Tryd.underlying33 rfl (by rw [Hsz.out]; kernel_rfl)
    refine lx_e (.bool true) [(0, 7)] (by kernel_rfl) rfl (by rfl) (fun w1 hw1 => ?_) ?_
    · simp only [pk, nthSp, lexVals]
      have hm := HFo.out w1 (HX.out w1 hw1)
      have HM := Lib.hid hm
      clear hm hw1
      go_simp
      refine HM.out.mono ?_
      rintro e w2 ⟨rfl, hE2⟩
      exact ⟨_, rfl, hE2, rfl⟩
    refine lx_e (.bool true) [(0, 8)] (by kernel_rfl) rfl (by rfl) (fun w1 hw1 => ?_) ?_
    · simp only [pk, nthSp, lexVals]
      go_simp
      exact ⟨Ext.refl _, rfl⟩
    refine lx_ge (.pointer (some ⟨gb, 0, none⟩)) [(0, 9)] 9 (by kernel_rfl) rfl (by kernel_rfl) (by rfl) (fun w1 => ?_) (fun w1 hw1 => ?_) ?_
    · simp only [pk, nthSp, lexVals]
      rfl
    · simp only [pk, nthSp, lexVals]
      go_simp
      exact ⟨Ext.refl _, rfl⟩
    refine lx_ge (.pointer (some ⟨g, 32, none⟩)) [(1, 9)] 9 (by kernel_rfl) rfl (by kernel_rfl) (by rfl) (fun w1 => ?_) (fun w1 hw1 => ?_) ?_
    · simp only [pk, nthSp, lexVals]
      rfl
    · simp only [pk, nthSp, lexVals]
      go_simp
      exact ⟨Ext.refl _, rfl⟩
    refine lx_ge (.agg (rowArr 32 fun j => .int .u8 (cd j))) [(0, 11), (2, 9)] 9 (by kernel_rfl) rfl (by kernel_rfl) (by rfl) (fun w1 => ?_) (fun w1 hw1 => ?_) ?_
    · simp only [pk, nthSp, lexVals]
      rfl
    · simp only [pk, nthSp, lexVals]
      exact lu_sub rfl rfl Tryd.underlying23 (size_h32 _) (HCd.out w1 (HX.out w1 hw1))
    refine lx_ge (.agg HV) [(3, 9)] 9 (by kernel_rfl) rfl (by kernel_rfl) (by rfl) (fun w1 => ?_) (fun w1 hw1 => ?_) ?_
    · simp only [pk, nthSp, lexVals]
      rfl
    · simp only [pk, nthSp, lexVals]
      exact lu_row rfl rfl ((HX.out w1 hw1).keep HH2.out) Tryd.underlying33 rfl (by rw [Hsz.out]; kernel_rfl)
    refine lx_ga (fun u w => ∃ q n c, u = .slice q n c ∧ BsAt w q n c X) [(0, 13), (4, 9)] 9 (by kernel_rfl) rfl (by kernel_rfl) (by rfl) (fun u w w' he ⟨q, n, c, h1, h2⟩ => ⟨q, n, c, h1, h2.ext he⟩) (fun w1 => ?_) (fun w1 hw1 => ?_) ?_
    · simp only [pk, nthSp, lexVals]
      rfl
    · simp only [pk, nthSp, lexVals]
      have HM := Lib.hid (HCo.out w1 (HX.out w1 hw1))
      clear hw1
      go_simp
      refine HM.out.mono ?_
      rintro e w2 ⟨q, n, c, rfl, hs, hE2⟩
      exact ⟨_, rfl, hE2, _, _, _, rfl, hs⟩
    refine lx_ge (.pointer (some ⟨g + 1, 93, none⟩)) [(5, 9)] 9 (by kernel_rfl) rfl (by kernel_rfl) (by rfl) (fun w1 => ?_) (fun w1 hw1 => ?_) ?_
    · simp only [pk, nthSp, lexVals]
      rfl
    · simp only [pk, nthSp, lexVals]
      go_simp
      exact ⟨Ext.refl _, rfl⟩
    refine lx_ge (.agg (rowArr 32 fun j => .int .u8 (h.code j))) [(0, 15), (6, 9)] 9 (by kernel_rfl) rfl (by kernel_rfl) (by rfl) (fun w1 => ?_) (fun w1 hw1 => ?_) ?_
    · simp only [pk, nthSp, lexVals]
      rfl
    · simp only [pk, nthSp, lexVals]
      exact lu_sub rfl rfl Tryd.underlying23 (size_h32 _) (HDd.out w1 (HX.out w1 hw1))
    refine lx_ge (.bool (R cd X h.code)) [(6, 10), (4, 12), (2, 14), (0, 16), (7, 9)] 9 (by kernel_rfl) rfl (by kernel_rfl) (by rfl) (fun w1 => ?_) (fun w1 hw1 => ?_) ?_
    · simp only [pk, nthSp, lexVals]
      rintro u14 ⟨q14, n14, c14, rfl, -⟩
      rfl
    · simp only [pk, nthSp, lexVals]
      rintro u14 ⟨q14, n14, c14, rfl, h14⟩
      have hm := HRt.out w1 (HX.out w1 hw1) _ Hcb.out _ Hdb.out _ _ _ _ h14 (by have := h14.len; have := HXl.out; omega)
      have HM := Lib.hid hm
      clear hm hw1 h14
      go_simp
      refine HM.out.mono ?_
      rintro e w2 ⟨rfl, hE2⟩
      exact ⟨_, rfl, hE2, rfl⟩
    refine lx_e (.bool (R cd X h.code)) [(8, 9), (0, 17)] (by kernel_rfl) rfl (by rfl) (fun w1 hw1 => ?_) ?_
    · simp only [pk, nthSp, lexVals]
      go_simp
      exact ⟨Ext.refl _, rfl⟩
    refine lx_e (.bool (R cd X h.code)) [(0, 18)] (by kernel_rfl) rfl (by rfl) (fun w1 hw1 => ?_) ?_
    · simp only [pk, nthSp, lexVals]
      go_simp
      exact ⟨Ext.refl _, rfl⟩
    refine lx_stopA (by rfl) fun w7 hw7 => ?_
    have HE7 := Lib.hid (HE2.out.trans (HX.out w7 hw7))
    clear hw7
    simp only [rv, pf, lexVals]
    rintro v1 ⟨q1, n1, c1, rfl, -⟩
    simp only [Act.put, List.setIfInBounds_toArray, List.set_cons_zero, List.set_cons_succ]
    go_wp2
    go_ret
    exact ⟨rfl, HE7.out⟩
  | false =>
    clear HCo HXl
    go_enter Tryd.func28, Tryd.ntmps28
    go_upto_region 1 with (fail)
    refine wp_world (w' := w2) Hw2.out ?_
    rw [Hg.out]
    refine wp_region_lexA (by kernel_rfl) (by kernel_rfl) ?_
    refine lx_e (.agg HV) [] (by kernel_rfl) rfl (by rfl) (fun w1 hw1 => ?_) ?_
    · simp only [pk, lexVals]
      exact lu_row rfl rfl ((HX.out w1 hw1).keep HH2.out) Tryd.underlying33 rfl (by rw [Hsz.out]; kernel_rfl)
    refine lx_e (.bool false) [(0, 7)] (by kernel_rfl) rfl (by rfl) (fun w1 hw1 => ?_) ?_
    · simp only [pk, nthSp, lexVals]
      have hm := HFo.out w1 (HX.out w1 hw1)
      have HM := Lib.hid hm
      clear hm hw1
      go_simp
      refine HM.out.mono ?_
      rintro e w2 ⟨rfl, hE2⟩
      exact ⟨_, rfl, hE2, rfl⟩
    refine lx_e (.bool false) [(0, 8)] (by kernel_rfl) rfl (by rfl) (fun w1 hw1 => ?_) ?_
    · simp only [pk, nthSp, lexVals]
      go_simp
      exact ⟨Ext.refl _, rfl⟩
    refine lx_no [(0, 9)] 9 (by kernel_rfl) rfl (by kernel_rfl) (by rfl) (fun w1 => ?_) ?_
    · simp only [pk, nthSp, lexVals]
      first | (go_simp; done) | (go_simp; exact fun h => by cases h)
    refine lx_no [(1, 9)] 9 (by kernel_rfl) rfl (by kernel_rfl) (by rfl) (fun w1 => ?_) ?_
    · simp only [pk, nthSp, lexVals]
      first | (go_simp; done) | (go_simp; exact fun h => by cases h)
    refine lx_no [(0, 11), (2, 9)] 9 (by kernel_rfl) rfl (by kernel_rfl) (by rfl) (fun w1 => ?_) ?_
    · simp only [pk, nthSp, lexVals]
      first | (go_simp; done) | (go_simp; exact fun h => by cases h)
    refine lx_no [(3, 9)] 9 (by kernel_rfl) rfl (by kernel_rfl) (by rfl) (fun w1 => ?_) ?_
    · simp only [pk, nthSp, lexVals]
      first | (go_simp; done) | (go_simp; exact fun h => by cases h)
    refine lx_no [(0, 13), (4, 9)] 9 (by kernel_rfl) rfl (by kernel_rfl) (by rfl) (fun w1 => ?_) ?_
    · simp only [pk, nthSp, lexVals]
      first | (go_simp; done) | (go_simp; exact fun h => by cases h)
    refine lx_no [(5, 9)] 9 (by kernel_rfl) rfl (by kernel_rfl) (by rfl) (fun w1 => ?_) ?_
    · simp only [pk, nthSp, lexVals]
      first | (go_simp; done) | (go_simp; exact fun h => by cases h)
    refine lx_no [(0, 15), (6, 9)] 9 (by kernel_rfl) rfl (by kernel_rfl) (by rfl) (fun w1 => ?_) ?_
    · simp only [pk, nthSp, lexVals]
      first | (go_simp; done) | (go_simp; exact fun h => by cases h)
    refine lx_no [(6, 10), (4, 12), (2, 14), (0, 16), (7, 9)] 9 (by kernel_rfl) rfl (by kernel_rfl) (by rfl) (fun w1 => ?_) ?_
    · simp only [pk, nthSp, lexVals]
      first | (go_simp; done) | (go_simp; exact fun h => by cases h)
    refine lx_e (.bool false) [(8, 9), (0, 17)] (by kernel_rfl) rfl (by rfl) (fun w1 hw1 => ?_) ?_
    · simp only [pk, nthSp, lexVals]
      go_simp
      exact ⟨Ext.refl _, rfl⟩
    refine lx_e (.bool false) [(0, 18)] (by kernel_rfl) rfl (by rfl) (fun w1 hw1 => ?_) ?_
    · simp only [pk, nthSp, lexVals]
      go_simp
      exact ⟨Ext.refl _, rfl⟩
    refine lx_stopA (by rfl) fun w7 hw7 => ?_
    have HE7 := Lib.hid (HE2.out.trans (HX.out w7 hw7))
    clear hw7
    simp only [rv, pf, lexVals]
    simp only [Act.put, List.setIfInBounds_toArray, List.set_cons_zero, List.set_cons_succ]
    go_wp2
    go_ret
    exact ⟨rfl, HE7.out⟩

set_option maxHeartbeats 4000000 in
set_option maxRecDepth 100000 in
theorem prRight_any (gb : Nat) (R : Rt) (r : Rg) (h : Hd) (ts : List (Nat → Int)) (w : World) (hr : RgAt w r) (ho : HdOk h) (ht : TsAt w h.ta h.tn h.tc ts) (hR : RightIs gb R w) (hk : KsAt 1 w) :
    Calls Tryd.prog 12 #[.pointer (some ⟨gb, 0, none⟩), .agg (rgV r), .agg (hdV h)] w fun e w' => e = .returned (.bool (rightO R (keyO r h) h ts)) ∧ Ext w w' := by
  obtain ⟨w2, hw2, hE2, hR2, hH2⟩ := tok_box' w (rgV r) (hdV h) 26 33
  obtain ⟨g, hg⟩ : ∃ g, w.heap.size = g := ⟨_, rfl⟩
  rw [hg] at hR2 hH2
  have hz := zero_set
  have Hg := Lib.hid hg
  have Hw2 := Lib.hid hw2
  have HE2 := Lib.hid hE2
  have HR2 := Lib.hid hR2
  have HH2 := Lib.hid hH2
  have Hsz := Lib.hid (hdV_size h)
  have Hsr := Lib.hid (rgV_size r)
  have HKe := Lib.hid (keys15_any r h w2 (hr.ext hE2) (hk.ext' hE2))
  have HRi := Lib.hid (fun f w1 (h1 : Ext w2 w1) => hdRight_any gb R f h ts w1 ho (ht.ext (hE2.trans h1)) (hR.ext (hE2.trans h1)))
  have HVo := Lib.hid (rowArr_one (n := 128) fun i _ => setC_one (keyO r h) i)
  have HVs := Lib.hid (rowArr_size 128 (setC (keyO r h)))
  obtain ⟨HV, hHV⟩ : ∃ A, hdV h = A := ⟨_, rfl⟩
  obtain ⟨RV, hRV⟩ : ∃ A, rgV r = A := ⟨_, rfl⟩
  rw [hHV] at HH2 Hsz Hw2 HKe HRi ⊢
  rw [hRV] at HR2 Hsr Hw2 HKe ⊢
  obtain ⟨O, hO⟩ : ∃ O, keyO r h = O := ⟨_, rfl⟩
  rw [hO] at HKe HVo HVs ⊢
  clear hw2 hE2 hR2 hH2 hg hr ho ht hR hk hHV hRV hO
  obtain ⟨SV, hSV⟩ : ∃ A, rowArr 128 (setC O) = A := ⟨_, rfl⟩
  have HSV := Lib.hid hSV
  rw [hSV] at HKe HVo HVs
  clear hSV
  go_enter Tryd.func12, Tryd.ntmps12
  go_upto_region 1 with (fail)
  refine wp_world (w' := w2) Hw2.out ?_
  rw [Hg.out]
  go_wp2_with (first | (refine wpList_load_rowW rfl 26 _ rfl g rfl _ _ _ _ HR2.out Tryd.underlying26 rfl (by rw [Hsr.out]; kernel_rfl) ?_) | (refine wpList_load_rowW rfl 33 _ rfl (g + 1) rfl _ _ _ _ HH2.out Tryd.underlying33 rfl (by rw [Hsz.out]; kernel_rfl) ?_))
  refine HKe.out.mono ?_
  rintro e w3 ⟨rfl, hE3⟩
  have HE3 := Lib.hid hE3
  clear hE3 HKe
  go_upto_region 2 with (refine wpList_store_row rfl 48 _ _ rfl w3.heap.size _ rfl rfl _ _ (heap_new w3 _ _ rfl) (by rw [HVs.out]; kernel_rfl) (by rw [HVs.out]; rfl) HVo.out ?_; rw [setRow_new w3 _ _ _ _ rfl])
  obtain ⟨w4, hw4⟩ : ∃ x, w3.alloc (.cells SV 48) = x := ⟨_, rfl⟩
  obtain ⟨z, hz4⟩ : ∃ z, w3.heap.size = z := ⟨_, rfl⟩
  have HS4 := Lib.hid (show w4.heap[z]? = some (.cells SV 48 (0, 0)) by rw [← hw4]; exact heap_new w3 _ _ hz4.symm)
  have HE4 := Lib.hid (show Ext w2 w4 by rw [← hw4]; exact HE3.out.alloc _)
  refine wp_world (w' := w4) hw4 ?_
  rw [hz4]
  clear hw4 hz4 hz HE3
  cases O with
  | none =>
    clear HRi
    go_wp2
    go_ret
    exact ⟨rfl, HE2.out.trans HE4.out⟩
  | some f =>
    go_wp2_with (first | (refine wpList_load_rowW rfl 48 _ rfl z rfl _ _ _ _ HS4.out Tryd.underlying48 rfl (by rw [HVs.out]; kernel_rfl) ?_) | (refine wpList_load_rowW rfl 33 _ rfl (g + 1) rfl _ _ _ _ (HE4.out.keep HH2.out) Tryd.underlying33 rfl (by rw [Hsz.out]; kernel_rfl) ?_))
    have hq := HRi.out f w4 HE4.out
    rw [show rowArr 128 (ofV f) = SV from HSV.out] at hq
    refine hq.mono ?_
    rintro e w5 ⟨rfl, hE5⟩
    have HE5 := Lib.hid (HE2.out.trans (HE4.out.trans hE5))
    clear hE5 hq HRi
    go_wp2
    go_ret
    exact ⟨rfl, HE5.out⟩

end Go.Proofs.YtpiebfhcfkncoaaDoor
