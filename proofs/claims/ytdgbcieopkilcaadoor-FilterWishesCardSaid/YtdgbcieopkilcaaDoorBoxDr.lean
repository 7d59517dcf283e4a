/-
  A box's map in ideal mode: laws for its walks. No conditions.
  The walk of Box.draw. Asked: the table of 64 words lies as the text lays it.
-/
import Derived.Test.YtdgbcieopkilcaaDoorBoxI
import Derived.Test.YtdgbcieopkilcaaDoorLexG
namespace Go.Proofs.YtdgbcieopkilcaaDoor
open Go.ChangeAt Go.ChangeShapes Go.RowKit Go.WideShapes

theorem tok_box' (w : World) (A B : Array Value) (T U : TypeId) : ∃ w2, (w.alloc (.cells A T)).alloc (.cells B U) = w2 ∧ Ext w w2 ∧ w2.heap[w.heap.size]? = some (.cells A T (0, 0)) ∧ w2.heap[w.heap.size + 1]? = some (.cells B U (0, 0)) := by
  refine ⟨_, rfl, ((Ext.refl w).alloc _).alloc _, ?_, ?_⟩
  · exact Ext.keep ((Ext.refl (w.alloc (.cells A T))).alloc _) (heap_new w _ _ rfl)
  · exact heap_new _ _ _ (by simp)
section
variable {w : World} {o : Oper} {ev : Operand → Value}
theorem rl_row {P : Program} {x : Operand} {T : TypeId} {g : Nat} {t : TypeId} {cs : Array Value} {fr : Nat × Nat} {d : TypeDesc} (ho : o.op = .load T x) (hx : ev x = .pointer (some ⟨g, 0, none⟩)) (hg : w.heap[g]? = some (.cells cs t fr))
    (hu : P.underlying T = some d) (hd : (match d with | .struct _ | .array _ _ => true | _ => false) = true) (hi : (P.info? T).map (·.size) = some cs.size) : (execOp ev o).run P w = .ok (.value (.agg cs)) w := by
  simp only [execOp, ho, hx, Instr.loadAt, Instr.sureAddr, Sem.run_bind, Sem.run_pure, Result.andThen_ok, run_loadVar_row w g t T cs fr d hg hu hd hi]
theorem rl_str {x : Operand} {src : Option Addr} {n c : Nat} {xs : List Int} (ho : o.op = .convert 40 9 x) (hx : ev x = .slice src n c) (hb : BsAt w src n c xs) : (execOp ev o).run Tryd.prog w = .ok (.value (.string (strOf xs))) w := by
  have hr := run_conv_str hb
  simp only [execOp, ho, hx, Sem.run_bind, hr, Result.andThen_ok, Sem.run_pure]
set_option maxRecDepth 100000 in
theorem build_nm (w : World) (f : Nat → Int) (s : ByteArray) : (Instr.build 83 #[(0, .agg (rowArr 32 fun j => .int .u8 (f j))), (1, .string s)]).run Tryd.prog w = .ok (.agg (nmV f s)) w := by kernel_rfl
theorem rl_build_nm {x0 x1 : Operand} {f : Nat → Int} {s : ByteArray} (ho : o.op = .build 83 #[(0, x0), (1, x1)]) (h0 : ev x0 = .agg (rowArr 32 fun j => .int .u8 (f j))) (h1 : ev x1 = .string s) : (execOp ev o).run Tryd.prog w = .ok (.value (.agg (nmV f s))) w := by
  have hb := build_nm w f s
  simp only [execOp, ho, List.map_toArray, List.map_cons, List.map_nil, h0, h1, Sem.run_bind, hb, Result.andThen_ok, Sem.run_pure]
theorem rl_lookup {P : Program} {T : TypeId} {x y : Operand} {vx vy r : Value} (ho : o.op = .lookup T x y true) (hx : ev x = vx) (hy : ev y = vy) (h : (Instr.lookup T vx vy true).run P w = .ok r w) : (execOp ev o).run P w = .ok (.value r) w := by
  simp only [execOp, ho, hx, hy, Sem.run_bind, h, Result.andThen_ok, Sem.run_pure]
end
theorem box_cell {w : World} {gb : Nat} {h : Nat → Int} {dr : Int} {m1 m2 m3 : Nat} {T : TypeId} (hb : w.heap[gb]? = some (.cells (rowArr 37 (boxJ h dr m1 m2 m3)) T (0, 0))) : w.cell? ⟨gb, 0, none⟩ = some (.bool true) ∧ w.cell? ⟨gb, 33, none⟩ = some (.int .u64 dr) ∧ w.cell? ⟨gb, 35, none⟩ = some (.map (some m2)) ∧ w.cell? ⟨gb, 36, none⟩ = some (.map (some m3)) :=
  ⟨row_cell hb 0 (by omega), row_cell hb 33 (by omega), row_cell hb 35 (by omega), row_cell hb 36 (by omega)⟩
set_option maxRecDepth 100000 in
theorem zero_nm (w : World) : (zeroValue 83).run Tryd.prog w = .ok (.agg (nmV (fun _ => 0) ⟨#[]⟩)) w := by kernel_rfl
theorem wp_build_nm {ops : Array Oper} {Q : Exit → Act → World → Prop} {rest : List Oper} {o : Oper} {a : Act} {w : World} (hw : Region.wanted o (yielded ops a.tmps) = true) (x0 x1 : Operand) (ho : o.op = .build 83 #[(0, x0), (1, x1)])
    (f : Nat → Int) (s : ByteArray) (h0 : a.eval x0 = .agg (rowArr 32 fun j => .int .u8 (f j))) (h1 : a.eval x1 = .string s) (A : Array Value) (hA : nmV f s = A)
    (h : wpList Tryd.prog ops Q rest (a.put o.dst (.agg A)) w) : wpList Tryd.prog ops Q (o :: rest) a w := by
  subst hA
  refine wpList_want hw fun K hK => ?_
  unfold Oper.wp execOp
  simp only [ho, List.map_toArray, List.map_cons, List.map_nil, h0, h1, Sem.run_bind, build_nm, Result.andThen_ok, Sem.run_pure]
  exact hK _ _ h
theorem setBlock_other (w : World) (m k : Nat) (o : Obj) (hne : k ≠ m) : (ChangeMaps.setBlock w m o).heap[k]? = w.heap[k]? := by
  unfold ChangeMaps.setBlock
  simp [Ne.symm hne]
theorem below_setBlock {B m : Nat} {a w : World} (h : Below B a w) (hm : B ≤ m) (o : Obj) : Below B a (ChangeMaps.setBlock w m o) :=
  h.trans ⟨rfl, rfl, rfl, by unfold ChangeMaps.setBlock; simp, fun k hk => setBlock_other w m k o (by omega)⟩
theorem below_grown {B g : Nat} {a w w' : World} (h : Below B a w) (hs : B ≤ w.heap.size) (hg : w.grownBy w' (some g)) (hB : B ≤ g) : Below B a w' :=
  h.trans ⟨hg.os, hg.tape, hg.output, hg.size, fun k hk => hg.block k (by omega) (fun e => by have := Option.some.inj e; omega)⟩

/-- All blocks but two are as they were. -/
def Kept (g m : Nat) (w w' : World) : Prop := w.heap.size ≤ w'.heap.size ∧ ∀ k, k < w.heap.size → k ≠ g → k ≠ m → w'.heap[k]? = w.heap[k]?

theorem newB_ext {B n : Nat} {w w' : World} {a : Option Addr} (h : NewB B w a n) (he : Ext w w') : NewB B w' a n := fun h0 => by
  obtain ⟨g, cur, h1, h2, h3⟩ := h h0
  exact ⟨g, cur, h1, h2, he.keep h3⟩
theorem newB_le {B B' n : Nat} {w : World} {a : Option Addr} (h : NewB B w a n) (hB : B' ≤ B) : NewB B' w a n := fun h0 => by
  obtain ⟨g, cur, h1, h2, h3⟩ := h h0
  exact ⟨g, cur, h1, by omega, h3⟩
theorem boxBig_bs (x : Int) (w : World) : Calls Tryd.prog 60 #[.slice none 0 0, .int .u64 x] w fun e w' => ∃ a c xs, e = .returned (.slice a 8 c) ∧ BsAt w' a 8 c xs ∧ Ext w w' :=
  (boxBig_any w.heap.size (.slice none 0 0) 0 [] x w (World.ownsRow_nil _ _ _ _) (Nat.le_refl _) (by omega)).mono fun e w' ⟨v, he, hown, hE⟩ => by
    obtain ⟨q, c, rfl, h2, h3⟩ := owns_slice hown
    exact ⟨q, c, _, he, owns_bs hown (fun y hy => beB_byte _ _ y (by simpa using hy)) (by unfold maxLen at h3; omega) (by omega), hE⟩
theorem boxJ_seed {w : World} {gb : Nat} {h : Nat → Int} {dr : Int} {m1 m2 m3 : Nat} {T : TypeId} (hb : w.heap[gb]? = some (.cells (rowArr 37 (boxJ h dr m1 m2 m3)) T (0, 0))) (i : Nat) (hi : i < 32) : w.cell? ⟨gb, 1 + i, none⟩ = some (.int .u8 (h i)) := by
  rw [row_cell hb (1 + i) (by omega)]
  unfold boxJ
  rw [if_neg (by omega), if_pos (by omega), show 1 + i - 1 = i by omega]
theorem boxJ_dr (h : Nat → Int) (dr dr' : Int) (m1 m2 m3 : Nat) : ∀ j, j < 37 → (if j = 33 then Value.int .u64 dr' else boxJ h dr m1 m2 m3 j) = boxJ h dr' m1 m2 m3 j := by
  intro j _
  by_cases h1 : j = 33
  · rw [if_pos h1, h1]; rfl
  · rw [if_neg h1]
    unfold boxJ
    by_cases a0 : j = 0
    · rw [if_pos a0, if_pos a0]
    rw [if_neg a0, if_neg a0]
    by_cases a1 : j < 33
    · rw [if_pos a1, if_pos a1]
    rw [if_neg a1, if_neg a1, if_neg h1, if_neg h1]

def BigP (u : Value) (w : World) : Prop := ∃ a c xs, u = .slice a 8 c ∧ BsAt w a 8 c xs
def DrT (S n : Nat) (u : Value) (w : World) : Prop := ∃ a xs, u = .tuple #[.slice a n n, .int .i64 0] ∧ BsAt w a n n xs ∧ NewB S w a n
def DrS (S n : Nat) (u : Value) (w : World) : Prop := ∃ a xs, u = .slice a n n ∧ BsAt w a n n xs ∧ NewB S w a n
theorem bs_blk {w w' : World} {a : Option Addr} {n c : Nat} {xs : List Int} (h : BsAt w a n c xs) (he : 0 < n → ∀ b off, a = some ⟨b, off, none⟩ → w'.heap[b]? = w.heap[b]?) : BsAt w' a n c xs := by
  refine ⟨h.len, h.cap, h.lim, h.small, h.byte, fun hn => ?_, h.nil_⟩
  obtain ⟨b, off, ha, hc⟩ := h.at_ hn
  refine ⟨b, off, ha, fun i hi => ?_⟩
  have h1 := hc i hi
  unfold World.cell? at h1 ⊢
  rw [he hn b off ha]
  exact h1

set_option maxHeartbeats 4000000 in
set_option maxRecDepth 100000 in
theorem draw_any (gb : Nat) (h : Nat → Int) (dr : Int) (m1 m2 m3 n : Nat) (w : World) (hb : w.heap[gb]? = some (.cells (rowArr 37 (boxJ h dr m1 m2 m3)) 61 (0, 0))) (hh : ∀ j, j < 32 → 0 ≤ h j ∧ h j < 256) (hd : 0 ≤ dr ∧ dr < 18446744073709551616) (hn : n ≤ 8160) (hk : KsAt 2 w) :
    Calls Tryd.prog 40 #[.pointer (some ⟨gb, 0, none⟩), .int .i64 (n : Int)] w fun e w' => ∃ a xs, e = .returned (.slice a n n) ∧ BsAt w' a n n xs ∧ NewB w.heap.size w' a n ∧ (∃ dr', (0 ≤ dr' ∧ dr' < 18446744073709551616) ∧ w'.heap[gb]? = some (.cells (rowArr 37 (boxJ h dr' m1 m2 m3)) 61 (0, 0))) ∧ w.grownBy w' (some gb) := by
  have hgb : gb < w.heap.size := (Array.getElem?_eq_some_iff.1 hb).1
  obtain ⟨S, hS⟩ : ∃ S, w.heap.size = S := ⟨_, rfl⟩
  rw [hS] at hgb ⊢
  have HS := Lib.hid hS
  have HB := Lib.hid hb
  have Hh := Lib.hid hh
  have Hn := Lib.hid hn
  have Hd := Lib.hid hd
  have HK := Lib.hid (fun x (hx : Ext w x) => hk.ext' hx)
  have HCs := Lib.hid (fun x (hx : Ext w x) => boxJ_seed (hx.keep hb))
  have C33 := Lib.hid (fun x (hx : Ext w x) => (box_cell (hx.keep hb)).2.1)
  clear hb hh hd hk hS
  go_enter Tryd.func40, Tryd.ntmps40
  go_upto_region 1 with (fail)
  have HX := Lib.hid (show ∀ x, Ext w.drew x → Ext w x from fun x hx => Ext.trans (Ext.refl w).drew hx)
  refine wp_region_lexA (by kernel_rfl) (by kernel_rfl) ?_
  refine lx_e (.pointer (some ⟨gb, 0, none⟩)) [] (by kernel_rfl) rfl (by rfl) (fun w1 hw1 => ?_) ?_
  · simp only [pk, lexVals]
    go_simp
    exact ⟨Ext.refl _, rfl⟩
  refine lx_e (.pointer (some ⟨gb, 0, none⟩)) [(0, 8)] (by kernel_rfl) rfl (by rfl) (fun w1 hw1 => ?_) ?_
  · simp only [pk, nthSp, lexVals]
    go_simp
    exact ⟨Ext.refl _, rfl⟩
  refine lx_e (.pointer (some ⟨gb, 1, none⟩)) [(0, 9)] (by kernel_rfl) rfl (by rfl) (fun w1 hw1 => ?_) ?_
  · simp only [pk, nthSp, lexVals]
    go_simp
    exact ⟨Ext.refl _, rfl⟩
  refine lx_e (.agg (rowArr 32 fun j => .int .u8 (h j))) [(0, 10)] (by kernel_rfl) rfl (by rfl) (fun w1 hw1 => ?_) ?_
  · simp only [pk, nthSp, lexVals]
    exact lu_sub rfl rfl Tryd.underlying23 (size_h32 _) (HCs.out w1 (HX.out w1 hw1))
  refine lx_e (.pointer (some ⟨gb, 0, none⟩)) [] (by kernel_rfl) rfl (by rfl) (fun w1 hw1 => ?_) ?_
  · simp only [pk, lexVals]
    go_simp
    exact ⟨Ext.refl _, rfl⟩
  refine lx_e (.pointer (some ⟨gb, 0, none⟩)) [(0, 12)] (by kernel_rfl) rfl (by rfl) (fun w1 hw1 => ?_) ?_
  · simp only [pk, nthSp, lexVals]
    go_simp
    exact ⟨Ext.refl _, rfl⟩
  refine lx_e (.pointer (some ⟨gb, 33, none⟩)) [(0, 13)] (by kernel_rfl) rfl (by rfl) (fun w1 hw1 => ?_) ?_
  · simp only [pk, nthSp, lexVals]
    go_simp
    exact ⟨Ext.refl _, rfl⟩
  refine lx_e (.int .u64 dr) [(0, 14)] (by kernel_rfl) rfl (by rfl) (fun w1 hw1 => ?_) ?_
  · simp only [pk, nthSp, lexVals]
    have hc := C33.out w1 (HX.out w1 hw1)
    clear hw1
    go_simp
    exact ⟨Ext.refl _, rfl⟩
  refine lx_a (fun u w => BigP u w) [(0, 15)] (by kernel_rfl) rfl (by rfl) (fun u w w' he ⟨a, c, xs, h1, h2⟩ => ⟨a, c, xs, h1, h2.ext he⟩) (fun w1 hw1 => ?_) ?_
  · simp only [pk, nthSp, lexVals]
    have HM := Lib.hid (boxBig_bs dr w1)
    clear hw1
    go_simp
    refine HM.out.mono ?_
    rintro e w2 ⟨a, c, xs, rfl, hs, hE2⟩
    exact ⟨_, rfl, hE2, ⟨_, _, _, rfl, hs⟩⟩
  refine lx_e (.int .i64 (n : Int)) [] (by kernel_rfl) rfl (by rfl) (fun w1 hw1 => ?_) ?_
  · simp only [pk, lexVals]
    go_simp
    exact ⟨Ext.refl _, rfl⟩
  refine lx_a (fun u w => DrT S n u w) [(6, 11), (1, 16), (0, 17)] (by kernel_rfl) rfl (by rfl) (fun u w w' he ⟨a, xs, h1, h2, h3⟩ => ⟨a, xs, h1, h2.ext he, newB_ext h3 he⟩) (fun w1 hw1 => ?_) ?_
  · simp only [pk, nthSp, lexVals]
    rintro u16 ⟨a16, c16, x16, rfl, h16⟩
    have HM := Lib.hid (expand_any h Hh.out a16 8 c16 x16 n w1 h16 Hn.out (by omega) (HK.out w1 (HX.out w1 hw1)))
    have hl := Below.size (HX.out w1 hw1)
    rw [HS.out] at hl
    clear hw1 h16
    go_simp
    refine HM.out.mono ?_
    rintro e w2 ⟨v, rfl, ⟨a, rfl, hs, hN⟩, hE2⟩
    exact ⟨_, rfl, hE2, ⟨_, _, rfl, hs, newB_le hN hl⟩⟩
  refine lx_a (fun u w => DrT S n u w) [(0, 18)] (by kernel_rfl) rfl (by rfl) (fun u w w' he ⟨a, xs, h1, h2, h3⟩ => ⟨a, xs, h1, h2.ext he, newB_ext h3 he⟩) (fun w1 hw1 => ?_) ?_
  · simp only [pk, nthSp, lexVals]
    rintro u18 ⟨a18, x18, rfl, h18, k18⟩
    clear hw1
    go_simp
    exact ⟨Ext.refl _, ⟨_, _, rfl, h18, k18⟩⟩
  refine lx_a (fun u w => DrS S n u w) [(0, 7)] (by kernel_rfl) rfl (by rfl) (fun u w w' he ⟨a, xs, h1, h2, h3⟩ => ⟨a, xs, h1, h2.ext he, newB_ext h3 he⟩) (fun w1 hw1 => ?_) ?_
  · simp only [pk, nthSp, lexVals]
    rintro u7 ⟨a7, x7, rfl, h7, k7⟩
    clear hw1
    go_simp
    exact ⟨Ext.refl _, ⟨_, _, rfl, h7, k7⟩⟩
  refine lx_e (.int .i64 0) [(1, 7)] (by kernel_rfl) rfl (by rfl) (fun w1 hw1 => ?_) ?_
  · simp only [pk, nthSp, lexVals]
    rintro u7 ⟨a7, x7, rfl, h7, k7⟩
    clear hw1
    go_simp
    exact ⟨Ext.refl _, rfl⟩
  refine lx_a (fun u w => DrS S n u w) [(1, 19)] (by kernel_rfl) rfl (by rfl) (fun u w w' he ⟨a, xs, h1, h2, h3⟩ => ⟨a, xs, h1, h2.ext he, newB_ext h3 he⟩) (fun w1 hw1 => ?_) ?_
  · simp only [pk, nthSp, lexVals]
    rintro u19 ⟨a19, x19, rfl, h19, k19⟩
    clear hw1
    go_simp
    exact ⟨Ext.refl _, ⟨_, _, rfl, h19, k19⟩⟩
  refine lx_e (.int .i64 0) [(1, 20)] (by kernel_rfl) rfl (by rfl) (fun w1 hw1 => ?_) ?_
  · simp only [pk, nthSp, lexVals]
    go_simp
    exact ⟨Ext.refl _, rfl⟩
  refine lx_stopA (by rfl) fun w5 hw5 => ?_
  have HE5 := Lib.hid (HX.out w5 hw5)
  clear hw5
  simp only [rv, pf, lexVals]
  rintro v1 ⟨a1, c1, x1, rfl, -⟩ v2 ⟨a2, x2, rfl, -⟩ v3 ⟨a3, x3, rfl, -⟩ v4 ⟨a4, x4, rfl, -⟩ v5 ⟨a5, x5, rfl, h5, k5⟩
  simp only [Act.put, List.setIfInBounds_toArray, List.set_cons_zero, List.set_cons_succ]
  have H5 := Lib.hid h5
  have K5 := Lib.hid k5
  have hr5 : w5.rowIs gb 61 37 (boxJ h dr m1 m2 m3) := rowIs_of (HE5.out.keep HB.out)
  have HR5 := Lib.hid hr5
  have c33 := C33.out w5 HE5.out
  have f33 := hr5.frozen 33
  have hd1 := Hd.out
  clear h5 k5 hr5
  go_wp2
  go_ret
  have hoth : ∀ k, k ≠ gb → (w5.setCell ⟨gb, 33, none⟩ (.int .u64 (IntKind.u64.wrap (dr + 1)))).heap[k]? = w5.heap[k]? := fun k hne => Below.heap_setCell w5 _ _ k (fun e => hne e)
  have hfar : 0 < n → ∀ b off, a5 = some ⟨b, off, none⟩ → b ≠ gb := fun h0 b off e => by
    obtain ⟨g, cur, h1, h2, _⟩ := K5.out h0
    rw [e] at h1
    simp only [Option.some.injEq, Addr.mk.injEq, and_true] at h1
    omega
  refine ⟨a5, x5, rfl, bs_blk H5.out (fun h0 b off e => hoth b (hfar h0 b off e)), fun h0 => ?_, ⟨IntKind.u64.wrap (dr + 1), by rw [IntKind.wrap_u64]; omega, rowIs_cells ((HR5.out.set 33 _).congr (boxJ_dr h dr _ m1 m2 m3))⟩, grown_setCell (grown_ext HE5.out _) rfl _⟩
  obtain ⟨g, cur, h1, h2, h3⟩ := K5.out h0
  exact ⟨g, cur, h1, h2, by rw [hoth g (by omega)]; exact h3⟩

end Go.Proofs.YtdgbcieopkilcaaDoor
