/-
  The latest of rows: the walks of item.any, known, valued, of latest's two functions, of slices.MaxFunc, and of item.latest. No conditions but the length.
  The walks of slices.MaxFunc of rows and of item.latest. No conditions but the length.
  The walk of item.latest. No conditions but the length.
  The latest of rows is one of them, or the blank one. No conditions.
-/
import Derived.Test.YtldaligeckjhaaaRwA
import Derived.Test.YtldaligeckjhaaaLater
namespace Go.Proofs.Ytldaligeckjhaaa
open Go.ChangeAt Go.ChangeShapes Go.RowKit Go.WideShapes

theorem hdAtR (r : Rw) : HdAt (hdV r.hd.1) r.hd.1.time r.hd.1.writer r.hd.1.seq := ⟨hdV_size _, rowArr_get 125 _ 36 (by omega), rowArr_get 125 _ 0 (by omega), rowArr_get 125 _ 1 (by omega)⟩
/-- Which row is later. -/
def latI (a b : Rw) : Int := laterI a.hd.1.time a.hd.1.writer a.hd.1.seq b.hd.1.time b.hd.1.writer b.hd.1.seq
def latB (a b : Rw) : Bool := laterB a.hd.1.time a.hd.1.writer a.hd.1.seq b.hd.1.time b.hd.1.writer b.hd.1.seq
theorem latB_eq (a b : Rw) : latB a b = decide (0 < latI a b) := rfl
set_option maxRecDepth 100000 in
theorem any_any (r : Rw) (w : World) : Calls Try.prog 59 #[.agg (rwV r)] w fun e w' => e = .returned (.bool true) ∧ Ext w w' := by
  obtain ⟨V, hV⟩ : ∃ V, rwV r = V := ⟨_, rfl⟩
  rw [hV]
  clear hV
  go_enter Try.func59, Try.ntmps59
  go_wp2
  go_ret
  exact ⟨rfl, (Ext.refl w).alloc _⟩
set_option maxRecDepth 100000 in
theorem known_any (r : Rw) (w : World) : Calls Try.prog 60 #[.agg (rwV r)] w fun e w' => e = .returned (.bool r.kn) ∧ Ext w w' := by
  obtain ⟨w2, hw2⟩ : ∃ w2, w.alloc (.cells (rwV r) 36) = w2 := ⟨_, rfl⟩
  have hE2 : Ext w w2 := by rw [← hw2]; exact (Ext.refl w).alloc _
  have hB2 : w2.heap[w.heap.size]? = some (.cells (rwV r) 36 (0, 0)) := by rw [← hw2]; exact heap_new w _ _ rfl
  have k1 := rw_kn hB2
  obtain ⟨g, hg⟩ : ∃ g, w.heap.size = g := ⟨_, rfl⟩
  rw [hg] at k1
  have Hg := Lib.hid hg
  have Hw2 := Lib.hid hw2
  have HE2 := Lib.hid hE2
  obtain ⟨V, hV⟩ : ∃ V, rwV r = V := ⟨_, rfl⟩
  obtain ⟨kn, hkn⟩ : ∃ V, r.kn = V := ⟨_, rfl⟩
  rw [hV] at Hw2 ⊢
  rw [hkn] at k1 ⊢
  clear hV hkn hg hw2 hE2 hB2
  go_enter Try.func60, Try.ntmps60
  go_upto_region 1 with (fail)
  refine wp_world (w' := w2) Hw2.out ?_
  rw [Hg.out]
  go_wp2
  go_ret
  exact ⟨rfl, HE2.out⟩
def valB (r : Rw) : Bool := r.kn && !(r.op == 3)
set_option maxRecDepth 100000 in
theorem valued_any (r : Rw) (w : World) : Calls Try.prog 61 #[.agg (rwV r)] w fun e w' => e = .returned (.bool (valB r)) ∧ Ext w w' := by
  obtain ⟨w2, hw2⟩ : ∃ w2, w.alloc (.cells (rwV r) 36) = w2 := ⟨_, rfl⟩
  have hE2 : Ext w w2 := by rw [← hw2]; exact (Ext.refl w).alloc _
  have hB2 : w2.heap[w.heap.size]? = some (.cells (rwV r) 36 (0, 0)) := by rw [← hw2]; exact heap_new w _ _ rfl
  have k1 := rw_kn hB2
  have k2 := rw_op hB2
  obtain ⟨g, hg⟩ : ∃ g, w.heap.size = g := ⟨_, rfl⟩
  rw [hg] at k1 k2
  have Hg := Lib.hid hg
  have Hw2 := Lib.hid hw2
  have HE2 := Lib.hid hE2
  unfold valB
  obtain ⟨V, hV⟩ : ∃ V, rwV r = V := ⟨_, rfl⟩
  obtain ⟨kn, hkn⟩ : ∃ V, r.kn = V := ⟨_, rfl⟩
  obtain ⟨op, hop⟩ : ∃ V, r.op = V := ⟨_, rfl⟩
  rw [hV] at Hw2 ⊢
  rw [hkn] at k1 ⊢
  rw [hop] at k2 ⊢
  clear hV hkn hg hw2 hE2 hB2 hop
  go_enter Try.func61, Try.ntmps61
  go_upto_region 1 with (fail)
  refine wp_world (w' := w2) Hw2.out ?_
  rw [Hg.out]
  cases kn with
  | false =>
    go_wp2
    go_ret
    exact ⟨rfl, HE2.out⟩
  | true =>
    go_wp2
    go_ret
    exact ⟨by first | rfl | simp, HE2.out⟩

set_option maxHeartbeats 1000000 in
set_option maxRecDepth 100000 in
theorem cmp2_any (a b : Rw) (w : World) : Calls Try.prog 83 #[.agg (rwV a), .agg (rwV b)] w fun e w' => e = .returned (.int .i64 (latI a b)) ∧ Ext w w' := by
  obtain ⟨w2, hw2, hE2, hB2, hD2⟩ := two_box w (rwV a) (rwV b) 36 36
  have HM := Lib.hid (compareH_any _ _ _ _ _ _ _ _ w2 (hdAtR a) (hdAtR b))
  obtain ⟨g, hg⟩ : ∃ g, w.heap.size = g := ⟨_, rfl⟩
  rw [hg] at hB2 hD2
  have Hg := Lib.hid hg
  have Hw2 := Lib.hid hw2
  have HE2 := Lib.hid hE2
  have HR1 := Lib.hid (rw_rh hB2)
  have HR2 := Lib.hid (rw_rh hD2)
  obtain ⟨V, hV⟩ : ∃ V, rwV a = V := ⟨_, rfl⟩
  obtain ⟨W, hW⟩ : ∃ V, rwV b = V := ⟨_, rfl⟩
  obtain ⟨X, hX⟩ : ∃ V, hdV a.hd.1 = V := ⟨_, rfl⟩
  obtain ⟨Y, hY⟩ : ∃ V, hdV b.hd.1 = V := ⟨_, rfl⟩
  obtain ⟨L, hL⟩ : ∃ l, hdL a.hd.1 = l := ⟨_, rfl⟩
  obtain ⟨M, hM⟩ : ∃ l, hdL b.hd.1 = l := ⟨_, rfl⟩
  have HLX := Lib.hid (show L.toArray = X ∧ L.length = 125 by rw [← hL, hdL_arr, hX, hdL_length]; exact ⟨rfl, rfl⟩)
  have HMY := Lib.hid (show M.toArray = Y ∧ M.length = 125 by rw [← hM, hdL_arr, hY, hdL_length]; exact ⟨rfl, rfl⟩)
  have HL := Lib.hid (show latI a b = laterI a.hd.1.time a.hd.1.writer a.hd.1.seq b.hd.1.time b.hd.1.writer b.hd.1.seq from rfl)
  obtain ⟨R, hR⟩ : ∃ R, latI a b = R := ⟨_, rfl⟩
  rw [hR] at HL ⊢
  rw [hV, hW] at Hw2 ⊢
  rw [hX, hY, ← HL.out] at HM
  rw [hL] at HR1
  rw [hM] at HR2
  clear hg hw2 hE2 hB2 hD2 hV hW hX hY hL hM hR HL
  go_enter Try.func83, Try.ntmps83
  go_upto_region 1 with (fail)
  refine wp_world (w' := w2) Hw2.out ?_
  rw [Hg.out]
  go_wp2_with (first | (refine wpList_load_mid rfl 31 (.tmp 5) rfl g 0 rfl L _ HR1.out Try.underlying31 rfl (by rw [HLX.out.2]; kernel_rfl) ?_; rw [HLX.out.1]) | (refine wpList_load_mid rfl 31 (.tmp 7) rfl (g + 1) 0 rfl M _ HR2.out Try.underlying31 rfl (by rw [HMY.out.2]; kernel_rfl) ?_; rw [HMY.out.1]))
  refine HM.out.mono ?_
  rintro e w3 ⟨rfl, hE3⟩
  have HE3 := Lib.hid (HE2.out.trans hE3)
  clear hE3
  go_wp2
  go_ret
  exact ⟨rfl, HE3.out⟩

set_option maxHeartbeats 1000000 in
set_option maxRecDepth 100000 in
theorem latest1_any (F : FuncId) (p : Rw → Bool) (r : Rw) (gb : Nat) (w : World) (hcf : ∀ (args : Array Value) (y : World), (callFunc F args).run Try.prog y = .ok (.enter F args) y) (hF : ∀ y, Ext w y → Calls Try.prog F #[.agg (rwV r)] y fun e w' => e = .returned (.bool (p r)) ∧ Ext y w') (hb : w.cell? ⟨gb, 0, none⟩ = some (.func (.func F) #[] #[])) :
    Calls Try.prog 81 #[.agg (rwV r), .pointer (some ⟨gb, 0, none⟩)] w fun e w' => e = .returned (.bool (!p r)) ∧ Ext w w' := by
  obtain ⟨w2, hw2⟩ : ∃ w2, w.alloc (.cells (rwV r) 36) = w2 := ⟨_, rfl⟩
  have hE2 : Ext w w2 := by rw [← hw2]; exact (Ext.refl w).alloc _
  have hB2 : w2.heap[w.heap.size]? = some (.cells (rwV r) 36 (0, 0)) := by rw [← hw2]; exact heap_new w _ _ rfl
  have hc := (hE2.cell (World.block_lt_of_cell? w _ hb)).trans hb
  have HM := Lib.hid (hF w2 hE2)
  obtain ⟨g, hg⟩ : ∃ g, w.heap.size = g := ⟨_, rfl⟩
  rw [hg] at hB2
  have Hg := Lib.hid hg
  have Hw2 := Lib.hid hw2
  have HE2 := Lib.hid hE2
  have HB2 := Lib.hid hB2
  obtain ⟨V, hV⟩ : ∃ V, rwV r = V := ⟨_, rfl⟩
  have HVs := Lib.hid (show V.size = 130 by rw [← hV]; exact rwV_size r)
  rw [hV] at Hw2 HM HB2 ⊢
  obtain ⟨q, hq⟩ : ∃ q, p r = q := ⟨_, rfl⟩
  rw [hq] at HM ⊢
  clear hg hw2 hE2 hB2 hV hq hb hF
  go_enter Try.func81, Try.ntmps81
  go_upto_region 1 with (fail)
  refine wp_world (w' := w2) Hw2.out ?_
  rw [Hg.out]
  go_wp2_with (refine wpList_load_rowW rfl 36 _ rfl g rfl _ _ _ _ HB2.out Try.underlying36 rfl (by rw [HVs.out]; kernel_rfl) ?_)
  refine HM.out.mono ?_
  rintro e w3 ⟨rfl, hE3⟩
  have HE3 := Lib.hid (HE2.out.trans hE3)
  clear hE3
  go_wp2
  go_ret
  exact ⟨rfl, HE3.out⟩

/-- The latest of the first k. -/
def maxN (l : List Rw) : Nat → Rw
  | 0 => rwN
  | k + 1 => if k = 0 then rwAt l 0 else if latB (rwAt l k) (maxN l k) = true then rwAt l k else maxN l k
theorem maxN_succ {l : List Rw} {k : Nat} (hk : 1 ≤ k) : maxN l (k + 1) = if latB (rwAt l k) (maxN l k) = true then rwAt l k else maxN l k := by
  show (if k = 0 then _ else _) = _
  rw [if_neg (by omega)]
theorem lu_ridx {w : World} {o : Oper} {ev : Operand → Value} {x y : Operand} {b off n c k : Nat} (ho : o.op = .indexAddr 22 x y) (hx : ev x = .slice (some ⟨b, off, none⟩) n c) (hy : ev y = .int .i64 (k : Int)) (hk : k < n) :
    lexUpon Try.prog w (.ex (.pointer (some ⟨b, off + k * 130, none⟩))) ((execOp ev o).run Try.prog w) := by
  have hr : (Instr.indexAt 22 (.slice (some ⟨b, off, none⟩) n c) (.int .i64 (k : Int))).run Try.prog w = .ok (.pointer (some ⟨b, off + k * 130, none⟩)) w := by
    have hb : (0 : Int) ≤ (k : Int) ∧ (k : Int) < (n : Int) := by omega
    simp only [Instr.indexAt, asIntOf, Sem.run_bind, Sem.run_pure, Result.andThen_ok, run_underlying Try.underlying22, hb, and_self, if_true, size_rw, Int.toNat_natCast, add_none]
  simp only [execOp, ho, hx, hy, Sem.run_bind, hr, Result.andThen_ok, Sem.run_pure]
  exact ⟨Ext.refl _, rfl⟩
set_option maxRecDepth 100000 in
theorem lu_rmid {w : World} {o : Oper} {ev : Operand → Value} {x : Operand} {b off : Nat} (ho : o.op = .load 36 x) (hx : ev x = .pointer (some ⟨b, off, none⟩)) (cs : List Value) (hr : w.rangeAt b off cs) (hl : cs.length = 130) (A : Array Value) (hA : cs.toArray = A) :
    lexUpon Try.prog w (.ex (.agg A)) ((execOp ev o).run Try.prog w) := by
  subst hA
  simp only [execOp, ho, hx, Instr.loadAt, Instr.sureAddr, Sem.run_bind, Sem.run_pure, Result.andThen_ok, run_loadVar_mid w b off 36 cs _ hr Try.underlying36 rfl (by rw [hl]; kernel_rfl)]
  exact ⟨Ext.refl _, rfl⟩

/-- Where MaxFunc stands: the latest of the first k in a block of its own. -/
structure MaxSt (w y : World) (S : Nat) (l : List Rw) (k : Nat) : Prop where
  ext : Below S w y
  res : y.heap[S]? = some (.cells (rwV rwN) 36 (0, 0))
  max : y.heap[S + 1]? = some (.cells (rwV (maxN l k)) 36 (0, 0))
theorem MaxSt.more {w y z : World} {S : Nat} {l : List Rw} {k : Nat} (h : MaxSt w y S l k) (hE : Ext y z) (hS : S ≤ y.heap.size) : MaxSt w z S l k := ⟨h.ext.trans (Below.mono hE hS), hE.keep h.res, hE.keep h.max⟩

set_option maxHeartbeats 2000000 in
set_option maxRecDepth 100000 in
theorem maxR_any (b off n c : Nat) (l : List Rw) (w : World) (hn : 0 < n) (hs : n ≤ 1000000) (hnc : n ≤ c) (hcl : c ≤ 9223372036854775807) (hc : ∀ i, i < n → ∀ j, j < 130 → w.cell? ⟨b, off + i * 130 + j, none⟩ = some (rwC (rwAt l i) j)) :
    Calls Try.prog 82 #[.slice (some ⟨b, off, none⟩) n c, .func (.func 83) #[] #[]] w fun e w' => e = .returned (.agg (rwV (maxN l n))) ∧ Ext w w' := by
  have HC := Lib.hid hc
  have hb0 : b < w.heap.size := World.block_lt_of_cell? _ _ (hc 0 hn 0 (by omega))
  have Hres := Lib.hid (show ∀ e : Ending, e = .returned (.agg (rwV (maxN l n))) → e = .returned (.agg (rwV (maxN l n))) from fun _ h => h)
  clear hc
  obtain ⟨S, hS⟩ : ∃ S, w.heap.size = S := ⟨_, rfl⟩
  have HS := Lib.hid hS
  rw [hS] at hb0
  have hzr := rw_zero
  obtain ⟨ZR, hZR⟩ : ∃ Z, rwV rwN = Z := ⟨_, rfl⟩
  have HZR := Lib.hid hZR
  have HZs := Lib.hid (show ZR.size = 130 by rw [← hZR]; exact rwV_size _)
  rw [hZR] at hzr
  have x0 : (0 : Int) < (n : Int) := by omega
  have x1 : ¬ (n : Int) < 1 := by omega
  have x2 : ((0 : Nat) : Int) = 0 := rfl
  obtain ⟨r0, hr0⟩ : ∃ r, rwAt l 0 = r := ⟨_, rfl⟩
  obtain ⟨X0, hX0⟩ : ∃ X, rwV r0 = X := ⟨_, rfl⟩
  have HX0 := Lib.hid (show (rwL r0).toArray = X0 ∧ X0.size = 130 ∧ X0.all (·.oneCell') = true from ⟨by rw [rwL_arr, hX0], by rw [← hX0]; exact rwV_size _, by rw [← hX0]; exact rwV_one _⟩)
  have HRg0 := Lib.hid (show ∀ x, Ext w x → x.rangeAt b off (rwL r0) from fun x hx => rwL_range fun j hj => by
    have h1 := HC.out 0 hn j hj
    rw [Nat.zero_mul, Nat.add_zero] at h1
    rw [hx.cell (World.block_lt_of_cell? _ _ h1), h1, hr0])
  have Hr0 := Lib.hid hr0
  have HX0e := Lib.hid hX0
  clear hS hZR hr0 hX0
  go_enter Try.func82, Try.ntmps82
  go_upto_region 3 with (fail)
  rw [HS.out]
  obtain ⟨w2, hw2⟩ : ∃ x, w.alloc (.cells ZR 36) = x := ⟨_, rfl⟩
  have hE2 : Ext w w2 := by rw [← hw2]; exact (Ext.refl w).alloc _
  have hR2 : w2.heap[S]? = some (.cells ZR 36 (0, 0)) := by rw [← hw2]; exact heap_new w _ _ HS.out.symm
  have hs2 : w2.heap.size = S + 1 := by rw [← hw2, ← HS.out]; simp
  have HE2 := Lib.hid hE2
  have HR2 := Lib.hid hR2
  have Hs2 := Lib.hid hs2
  have HRg2 := Lib.hid (HRg0.out w2 hE2)
  refine wp_world (w' := w2) hw2 ?_
  clear hw2 hE2 hR2 hs2
  go_upto_region 4 with (first | (refine wp_ridx rfl _ _ rfl b off n c 0 rfl rfl hn ?_; rw [Nat.zero_mul, Nat.add_zero]) | (refine wpList_load_mid rfl 36 (.tmp 12) rfl b off rfl (rwL r0) _ HRg2.out Try.underlying36 rfl (by rw [rwL_length]; kernel_rfl) ?_; rw [HX0.out.1]) | (refine wpList_store_row rfl 36 _ _ rfl w2.heap.size _ rfl rfl _ _ (heap_new w2 _ _ rfl) (by rw [HX0.out.2.1]; kernel_rfl) (by rw [HX0.out.2.1, HZs.out]) HX0.out.2.2 ?_; rw [setRow_new w2 _ _ _ _ rfl]))
  rw [Hs2.out]
  obtain ⟨w3, hw3⟩ : ∃ x, w2.alloc (.cells X0 36) = x := ⟨_, rfl⟩
  have HM0 := Lib.hid (show MaxSt w w3 S l 1 from by
    refine ⟨?_, ?_, ?_⟩
    · rw [← hw3]; exact Below.alloc (by rw [← HS.out]; exact HE2.out) (by rw [Hs2.out]; omega) _
    · rw [HZR.out, ← hw3, Below.heap_alloc _ _ _ (by rw [Hs2.out]; omega)]; exact HR2.out
    · rw [← hw3]
      show _ = some (Obj.cells (rwV (if 0 = 0 then rwAt l 0 else _)) _ _)
      rw [if_pos rfl, Hr0.out, HX0e.out]
      exact heap_new w2 _ _ Hs2.out.symm)
  have hz3 : S + 1 < w3.heap.size := (Array.getElem?_eq_some_iff.1 HM0.out.max).1
  have HE3 := Lib.hid (show Ext w2 w3 by rw [← hw3]; exact (Ext.refl w2).alloc _)
  refine wp_world (w' := w3) hw3 ?_
  clear hw3 hz3
  go_wp2
  go_loopw [6] (fun i y => ∃ k : Nat, 1 ≤ k ∧ k ≤ n ∧ i = .int .i64 (k : Int) ∧ MaxSt w y S l k) (fun i _ => n - (intOf i).toNat)
  case atStart => exact ⟨1, Nat.le_refl _, by omega, rfl, HM0.out⟩
  case round =>
    obtain ⟨k, hk1, hk, rfl, hM⟩ := hrel
    have HM := Lib.hid hM
    rename World => y
    have hSy : S + 1 < y.heap.size := (Array.getElem?_eq_some_iff.1 hM.max).1
    clear hM HM0
    by_cases hlt : k < n
    · have x3 : (k : Int) < (n : Int) := by omega
      have Hlt := Lib.hid hlt
      obtain ⟨x, hx⟩ : ∃ r, rwAt l k = r := ⟨_, rfl⟩
      obtain ⟨X, hX⟩ : ∃ X, rwV x = X := ⟨_, rfl⟩
      obtain ⟨m, hm⟩ : ∃ r, maxN l k = r := ⟨_, rfl⟩
      obtain ⟨M, hMv⟩ : ∃ X, rwV m = X := ⟨_, rfl⟩
      have HXa := Lib.hid (show (rwL x).toArray = X by rw [rwL_arr, hX])
      have HXs := Lib.hid (show X.size = 130 ∧ X.all (·.oneCell') = true by rw [← hX]; exact ⟨rwV_size _, rwV_one _⟩)
      have HMs := Lib.hid (show M.size = 130 by rw [← hMv]; exact rwV_size _)
      have HMy := Lib.hid (show y.heap[S + 1]? = some (.cells M 36 (0, 0)) by rw [← hMv, ← hm]; exact HM.out.max)
      have HX := Lib.hid (show ∀ z, Ext y.drew z → Ext y z from fun z hz => Ext.trans (Ext.refl y).drew hz)
      have HRg := Lib.hid (show ∀ z, Ext y z → z.rangeAt b (off + k * 130) (rwL x) from fun z hz => rwL_range fun j hj => by
        have h1 := HC.out k hlt j hj
        have hbl := World.block_lt_of_cell? _ _ h1
        have h2 : y.cell? ⟨b, off + k * 130 + j, none⟩ = some (rwC (rwAt l k) j) := (Below.cell HM.out.ext (p := ⟨b, off + k * 130 + j, none⟩) hb0).trans h1
        rw [hz.cell (World.block_lt_of_cell? _ _ h2), h2, hx])
      obtain ⟨D, hD⟩ : ∃ D, latI x m = D := ⟨_, rfl⟩
      obtain ⟨Q, hQ⟩ : ∃ Q, decide (0 < D) = Q := ⟨_, rfl⟩
      have HQ := Lib.hid hQ
      have HQl := Lib.hid (show latB (rwAt l k) (maxN l k) = Q by rw [latB_eq, hx, hm, hD, hQ])
      have HCm := Lib.hid (show ∀ z, Calls Try.prog 83 #[.agg X, .agg M] z fun e w' => e = .returned (.int .i64 D) ∧ Ext z w' from fun z => by rw [← hX, ← hMv, ← hD]; exact cmp2_any x m z)
      have Hx := Lib.hid hx
      have Hm := Lib.hid hm
      have HXe := Lib.hid hX
      clear hx hX hm hMv hD hQ hlt
      go_upto_region 7 with (fail)
      refine wp_region_lexA (by kernel_rfl) (by kernel_rfl) ?_
      refine lx_e (.func (.func 83) #[] #[]) [] (by kernel_rfl) rfl (by rfl) (fun w1 hw1 => ?_) ?_
      · simp only [pk, lexVals]
        go_simp
        exact ⟨Ext.refl _, rfl⟩
      refine lx_e (.slice (some ⟨b, off, none⟩) n c) [] (by kernel_rfl) rfl (by rfl) (fun w1 hw1 => ?_) ?_
      · simp only [pk, lexVals]
        go_simp
        exact ⟨Ext.refl _, rfl⟩
      refine lx_e (.int .i64 (k : Int)) [] (by kernel_rfl) rfl (by rfl) (fun w1 hw1 => ?_) ?_
      · simp only [pk, lexVals]
        go_simp
        exact ⟨Ext.refl _, rfl⟩
      refine lx_e (.pointer (some ⟨b, off + k * 130, none⟩)) [(1, 21), (0, 22)] (by kernel_rfl) rfl (by rfl) (fun w1 hw1 => ?_) ?_
      · simp only [pk, nthSp, lexVals]
        exact lu_ridx rfl rfl rfl Hlt.out
      refine lx_e (.agg X) [(0, 23)] (by kernel_rfl) rfl (by rfl) (fun w1 hw1 => ?_) ?_
      · simp only [pk, nthSp, lexVals]
        exact lu_rmid rfl rfl (rwL x) (HRg.out w1 (HX.out w1 hw1)) (rwL_length x) X HXa.out
      refine lx_e (.agg M) [] (by kernel_rfl) rfl (by rfl) (fun w1 hw1 => ?_) ?_
      · simp only [pk, lexVals]
        exact lu_row rfl rfl ((HX.out w1 hw1).keep HMy.out) Try.underlying36 rfl (by rw [HMs.out]; kernel_rfl)
      refine lx_e (.int .i64 D) [(5, 20), (1, 24), (0, 25)] (by kernel_rfl) rfl (by rfl) (fun w1 hw1 => ?_) ?_
      · simp only [pk, nthSp, lexVals]
        have HM := Lib.hid (HCm.out w1)
        clear hw1
        go_simp
        refine HM.out.mono ?_
        rintro e w2 ⟨rfl, hE2⟩
        exact ⟨_, rfl, hE2, rfl⟩
      refine lx_e (.bool Q) [(0, 26)] (by kernel_rfl) rfl (by rfl) (fun w1 hw1 => ?_) ?_
      · simp only [pk, nthSp, lexVals]
        have hq := HQ.out
        clear hw1
        go_simp
        exact ⟨Ext.refl _, by first | rfl | (show Value.bool _ = Value.bool _; rw [← hq])⟩
      refine lx_stopA (by rfl) fun z hz => ?_
      have HEz := Lib.hid (HX.out z hz)
      clear hz HX
      simp only [rv, pf, lexVals]
      simp only [Act.put, List.setIfInBounds_toArray, List.set_cons_zero, List.set_cons_succ]
      have HMz := Lib.hid (HM.out.more HEz.out (by omega))
      have hzz := HEz.out.size
      have hln := Hlt.out
      cases Q with
      | true =>
        have HRz := Lib.hid (HRg.out z HEz.out)
        have HMx := Lib.hid (HEz.out.keep HMy.out)
        go_upto_region 6 with (first | (refine wp_ridx rfl _ _ rfl b off n c k rfl (by first | rfl | simp [Act.eval]) hln ?_) | (refine wpList_load_mid rfl 36 (.tmp 30) rfl b (off + k * 130) rfl (rwL x) _ HRz.out Try.underlying36 rfl (by rw [rwL_length]; kernel_rfl) ?_; rw [HXa.out]) | (refine wpList_store_row rfl 36 _ _ rfl (S + 1) _ rfl rfl _ _ HMx.out (by rw [HXs.out.1]; kernel_rfl) (by rw [HXs.out.1, HMs.out]) HXs.out.2 ?_))
        have HN := Lib.hid (show MaxSt w (z.setRow (S + 1) X) S l (k + 1) from by
          refine ⟨below_setRow HMz.out.ext (by omega) _, (setRow_other z (S + 1) S _ (by omega)).trans HMz.out.res, ?_⟩
          rw [maxN_succ hk1, if_pos HQl.out, Hx.out, HXe.out]
          exact setRow_heap z (S + 1) _ _ _ _ HMx.out)
        go_wp2
        go_roundw
        case rel => exact ⟨k + 1, by omega, by omega, by go_num, HN.out⟩
        case measure => simp [intOf]; omega
      | false =>
        have HN := Lib.hid (show MaxSt w z S l (k + 1) from ⟨HMz.out.ext, HMz.out.res, by rw [maxN_succ hk1, if_neg (by rw [HQl.out]; simp)]; exact HMz.out.max⟩)
        go_wp2
        go_roundw
        case rel => exact ⟨k + 1, by omega, by omega, by go_num, HN.out⟩
        case measure => simp [intOf]; omega
    · obtain rfl : k = n := by omega
      have x3 : ¬ (k : Int) < (k : Int) := by omega
      obtain ⟨M, hMv⟩ : ∃ X, rwV (maxN l k) = X := ⟨_, rfl⟩
      have HMs := Lib.hid (show M.size = 130 ∧ M.all (·.oneCell') = true by rw [← hMv]; exact ⟨rwV_size _, rwV_one _⟩)
      have HMy := Lib.hid (show y.heap[S + 1]? = some (.cells M 36 (0, 0)) by rw [← hMv]; exact HM.out.max)
      have HRy := Lib.hid (show y.heap[S]? = some (.cells ZR 36 (0, 0)) by rw [← HZR.out]; exact HM.out.res)
      go_wp2_with (first | (refine wpList_load_rowW rfl 36 _ rfl (S + 1) rfl _ _ _ _ HMy.out Try.underlying36 rfl (by rw [HMs.out.1]; kernel_rfl) ?_) | (refine wpList_store_row rfl 36 _ _ rfl S _ rfl rfl _ _ HRy.out (by rw [HMs.out.1]; kernel_rfl) (by rw [HMs.out.1, HZs.out]) HMs.out.2 ?_))
      refine bodyPost_ret (results_cell_row rfl _ _ S _ _ _ _ rfl (setRow_heap y S _ _ _ _ HRy.out) Try.underlying36 rfl (by rw [HMs.out.1]; kernel_rfl)) rfl ⟨by first | rfl | rw [hMv], ?_⟩
      have h5 := below_setRow HM.out.ext (Nat.le_refl S) M
      rw [← HS.out] at h5 ⊢
      exact h5

set_option maxRecDepth 100000 in
theorem build_row0 (w : World) : (Instr.build 36 #[]).run Try.prog w = .ok (.agg (rwV rwN)) w := by kernel_rfl
theorem wp_build_row0 {ops : Array Oper} {Q : Exit → Act → World → Prop} {rest : List Oper} {o : Oper} {a : Act} {w : World} (hgd : o.guard = none) (ho : o.op = .build 36 #[]) (A : Array Value) (hA : rwV rwN = A) (h : wpList Try.prog ops Q rest (a.put o.dst (.agg A)) w) : wpList Try.prog ops Q (o :: rest) a w := by
  subst hA
  refine wpList_plain hgd fun K hK => ?_
  unfold Oper.wp execOp
  simp only [ho, List.map_toArray, List.map_nil, Sem.run_bind, build_row0, Result.andThen_ok, Sem.run_pure]
  exact hK _ _ h
set_option maxRecDepth 100000 in
theorem idxR_nil (gb : Nat) (w : World) : Calls Try.prog 99 #[.slice none 0 0, .func (.func 81) #[] #[.pointer (some ⟨gb, 0, none⟩)]] w fun e w' => e = .returned (.int .i64 (-1)) ∧ Ext w w' := by
  go_enter Try.func99, Try.ntmps99
  go_wp2
  go_loopw [8] (fun i wr => i = .int .i64 0 ∧ wr = w) (fun _ _ => 0)
  case atStart => exact ⟨rfl, rfl⟩
  case round =>
    obtain ⟨rfl, rfl⟩ := hrel
    go_wp2
    go_ret
    exact ⟨rfl, Ext.refl _⟩
set_option maxRecDepth 100000 in
theorem delR_nil (gb : Nat) (w : World) : Calls Try.prog 79 #[.slice none 0 0, .func (.func 81) #[] #[.pointer (some ⟨gb, 0, none⟩)]] w fun e w' => e = .returned (.slice none 0 0) ∧ Ext w w' := by
  have HI := Lib.hid (idxR_nil gb w)
  go_enter Try.func79, Try.ntmps79
  go_upto_region 1 with (fail)
  go_wp2_with fail
  refine HI.out.mono ?_
  rintro e w2 ⟨rfl, hE⟩
  have HE := Lib.hid hE
  clear hE HI
  go_wp2
  go_ret
  exact ⟨rfl, HE.out⟩

/-- What latest answers, of the rows that it looks at. -/
def LatSays (w : World) (fs : List Rw) (e : Ending) (w' : World) : Prop := Ext w w' ∧ e = .returned (.tuple #[.agg (rwV (maxN fs fs.length)), .bool (decide (0 < fs.length))])
theorem lat_box (w : World) (F : FuncId) (Z : Array Value) : ∃ w2, (w.alloc (.cells #[.func (.func F) #[] #[]] 39)).alloc (.cells Z 36) = w2 ∧ Ext w w2 ∧ w2.heap[w.heap.size]? = some (.cells #[.func (.func F) #[] #[]] 39 (0, 0)) ∧ w2.heap[w.heap.size + 1]? = some (.cells Z 36 (0, 0)) := by
  refine ⟨_, rfl, ((Ext.refl w).alloc _).alloc _, ?_, ?_⟩
  · exact Ext.keep ((Ext.refl (w.alloc (.cells #[.func (.func F) #[] #[]] 39))).alloc _) (heap_new w _ _ rfl)
  · exact heap_new _ _ _ (by simp)
/-- What a function says of rows. -/
def Says (F : FuncId) (p : Rw → Bool) : Prop := (∀ (args : Array Value) (y : World), (callFunc F args).run Try.prog y = .ok (.enter F args) y) ∧ ∀ (r : Rw) (y : World), Calls Try.prog F #[.agg (rwV r)] y fun e w' => e = .returned (.bool (p r)) ∧ Ext y w'

set_option maxHeartbeats 2000000 in
set_option maxRecDepth 100000 in
theorem latest_any (F : FuncId) (p : Rw → Bool) (hF : Says F p) (a : Option Addr) (n c : Nat) (l : List Rw) (w : World) (h : RwsAt w a n c l) (hs : n ≤ 100000) :
    Calls Try.prog 58 #[.slice a n c, .func (.func F) #[] #[]] w (LatSays w (l.filter p)) := by
  have hzr := rw_zero
  obtain ⟨ZR, hZR⟩ : ∃ Z, rwV rwN = Z := ⟨_, rfl⟩
  have HZR := Lib.hid hZR
  have HZs := Lib.hid (show ZR.size = 130 ∧ ZR.all (·.oneCell') = true by rw [← hZR]; exact ⟨rwV_size _, rwV_one _⟩)
  rw [hZR] at hzr
  obtain ⟨w2, hw2, hE2, hB2, hZ2⟩ := lat_box w F ZR
  obtain ⟨S, hS⟩ : ∃ S, w.heap.size = S := ⟨_, rfl⟩
  have HS := Lib.hid hS
  rw [hS] at hB2 hZ2
  have HCl := Lib.hid (rwClone_any a n c l w2 (h.ext hE2) (by omega))
  have Hw2 := Lib.hid hw2
  have HE2 := Lib.hid hE2
  have HB2 := Lib.hid hB2
  have HZ2 := Lib.hid hZ2
  have HF := Lib.hid hF
  have Hl := Lib.hid h.len
  have hmf : ∀ (fn : Fn) (first cap : Array Value) (w : World), (Instr.makeFunc fn first cap).run Try.prog w = .ok (.func fn first cap) w := fun _ _ _ _ => rfl
  have hs2 : S + 1 < w2.heap.size := (Array.getElem?_eq_some_iff.1 hZ2).1
  clear hw2 hE2 hB2 hZ2 h hZR hS hF
  go_enter Try.func58, Try.ntmps58
  go_upto_region 1 with (fail)
  refine wp_world (w' := w2) Hw2.out ?_
  rw [HS.out]
  clear Hw2
  go_wp2_with fail
  refine HCl.out.mono ?_
  rintro e w3 ⟨v, rfl, hown, hE3⟩
  obtain ⟨a3, c3, rfl⟩ := own_rwsl hown
  have HO := Lib.hid hown
  have HE3 := Lib.hid hE3
  have HZ3 := Lib.hid (hE3.keep HZ2.out)
  have HB3 := Lib.hid (hE3.keep HB2.out)
  clear hE3 HCl
  have hcase : (a3 = none ∧ n = 0 ∧ c3 = 0) ∨ ∃ g, a3 = some ⟨g, 0, none⟩ ∧ w2.heap.size ≤ g := by
    rcases hown.2 with ⟨e, h0⟩ | ⟨g, cap, cur, e, hb, _⟩
    · simp only [Value.slice.injEq] at e
      exact .inl ⟨e.1, h0, e.2.2⟩
    · simp only [Value.slice.injEq] at e
      exact .inr ⟨g, e.1, hb⟩
  clear hown
  rcases hcase with ⟨rfl, rfl, rfl⟩ | ⟨g, rfl, hg⟩
  · obtain rfl : l = [] := List.eq_nil_of_length_eq_zero Hl.out
    have HD := Lib.hid (delR_nil S w3)
    go_wp2_with fail
    refine HD.out.mono ?_
    rintro e w4 ⟨rfl, hE4⟩
    have HE4 := Lib.hid (HE2.out.trans (HE3.out.trans hE4))
    have HZ4 := Lib.hid (hE4.keep HZ3.out)
    clear hE4 HD
    go_wp2_with (first | (refine wp_build_row0 rfl rfl ZR HZR.out ?_) | (refine wpList_store_row rfl 36 _ _ rfl (S + 1) _ rfl rfl _ _ HZ4.out (by rw [HZs.out.1]; kernel_rfl) rfl HZs.out.2 ?_))
    refine bodyPost_ret (results_row_tmp rfl _ _ (S + 1) _ _ _ _ rfl (setRow_heap w4 (S + 1) _ _ _ _ HZ4.out) Try.underlying36 rfl (by rw [HZs.out.1]; kernel_rfl)) rfl ?_
    have h5 := below_setRow (HE4.out) (show w.heap.size ≤ S + 1 by rw [HS.out]; omega) ZR
    exact ⟨h5, by rw [← HZR.out]; rfl⟩
  · have HD := Lib.hid (delR_any (B := w2.heap.size) (gb := S) (p := p) HO.out (by omega) fun y hy i hi => latest1_any F p (rwAt l i) S y HF.out.1 (fun z _ => HF.out.2 (rwAt l i) z) (by
      have h1 := hy.block S (by have := HE3.out.size; omega) (fun e => by have := Option.some.inj e; omega)
      unfold World.cell?
      rw [h1, HB3.out]
      rfl))
    go_wp2_with fail
    refine HD.out.mono ?_
    rintro e w4 ⟨rfl, hown4, hg4⟩
    have HO4 := Lib.hid hown4
    have hEx : Ext w w4 := (HE2.out.trans HE3.out).trans' ⟨hg4.os, hg4.tape, hg4.output, hg4.size, fun i hi => hg4.block i (by have := HE2.out.size; have := HE3.out.size; omega) (fun e => by have := Option.some.inj e; have := HE2.out.size; omega)⟩
    have HE4 := Lib.hid hEx
    have HZ4 := Lib.hid ((hg4.block (S + 1) (by have := HE3.out.size; omega) (fun e => by have := Option.some.inj e; omega)).trans HZ3.out)
    obtain ⟨fs, hfs⟩ : ∃ fs, l.filter p = fs := ⟨_, rfl⟩
    have Hfs := Lib.hid hfs
    rw [hfs] at HO4 ⊢
    have hml : fs.length ≤ n := by
      rw [← hfs, ← Hl.out]
      exact List.length_filter_le _ _
    clear hown4 hg4 hEx HD hfs
    obtain ⟨m, hm⟩ : ∃ m, fs.length = m := ⟨_, rfl⟩
    have Hm := Lib.hid hm
    rw [hm] at HO4 hml ⊢
    clear hm
    obtain ⟨POST, hP⟩ : ∃ P : Ending → World → Prop, LatSays w fs = P := ⟨_, rfl⟩
    by_cases h0 : m = 0
    · subst h0
      go_wp2_with (first | (refine wp_build_row0 rfl rfl ZR HZR.out ?_) | (refine wpList_store_row rfl 36 _ _ rfl (S + 1) _ rfl rfl _ _ HZ4.out (by rw [HZs.out.1]; kernel_rfl) rfl HZs.out.2 ?_))
      refine bodyPost_ret (results_row_tmp rfl _ _ (S + 1) _ _ _ _ rfl (setRow_heap w4 (S + 1) _ _ _ _ HZ4.out) Try.underlying36 rfl (by rw [HZs.out.1]; kernel_rfl)) rfl ?_
      have h5 := below_setRow (HE4.out) (show w.heap.size ≤ S + 1 by rw [HS.out]; omega) ZR
      have hnil : fs = [] := List.eq_nil_of_length_eq_zero Hm.out
      unfold LatSays
      rw [Hfs.out, hnil]
      exact ⟨h5, by rw [← HZR.out]; rfl⟩
    · have x0 : ¬ (m : Int) = 0 := by omega
      obtain ⟨f4, hr4, hf4, hB4, hmc, hcm⟩ := own_blkR HO4.out
      have hMx := maxR_any g 0 m c3 fs w4 (by omega) (by omega) hmc (by unfold maxLen at hcm; omega) (fun i hi j hj => by
        have := Nat.mul_le_mul_right 130 hmc
        rw [Nat.zero_add, hr4.cell (by omega), hf4 i j hi hj])
      obtain ⟨M, hMv⟩ : ∃ X, rwV (maxN fs m) = X := ⟨_, rfl⟩
      have HMs := Lib.hid (show M.size = 130 ∧ M.all (·.oneCell') = true by rw [← hMv]; exact ⟨rwV_size _, rwV_one _⟩)
      rw [hMv] at hMx
      have HMx := Lib.hid hMx
      have HMv := Lib.hid hMv
      clear hr4 hf4 hB4 hmc hcm hMx hMv hP
      go_wp2_with fail
      refine HMx.out.mono ?_
      rintro e w5 ⟨rfl, hE5⟩
      have HE5 := Lib.hid (HE4.out.trans hE5)
      have HZ5 := Lib.hid (hE5.keep HZ4.out)
      clear hE5 HMx
      go_wp2_with (refine wpList_store_row rfl 36 _ _ rfl (S + 1) _ rfl rfl _ _ HZ5.out (by rw [HMs.out.1]; kernel_rfl) (by rw [HMs.out.1, HZs.out.1]) HMs.out.2 ?_)
      refine bodyPost_ret (results_row_tmp rfl _ _ (S + 1) _ _ _ _ rfl (setRow_heap w5 (S + 1) _ _ _ _ HZ5.out) Try.underlying36 rfl (by rw [HMs.out.1]; kernel_rfl)) rfl ?_
      have h5 := below_setRow (HE5.out) (show w.heap.size ≤ S + 1 by rw [HS.out]; omega) M
      unfold LatSays
      rw [Hfs.out, Hm.out, HMv.out, decide_eq_true (show 0 < m by omega)]
      exact ⟨h5, rfl⟩

theorem rwN_at (w : World) : RwAt w rwN := by
  refine ⟨htN_at w, ⟨rfl, Nat.le_refl _, ?_, fun s hs => ?_, fun h => ?_⟩, ?_, ⟨?_, ?_⟩, ?_, ?_⟩
  · show (0 : Nat) ≤ _; omega
  · cases hs
  · have h0 : (0 : Nat) < 0 := h
    omega
  · show (0 : Nat) ≤ _; omega
  · show (-9223372036854775808 : Int) ≤ 0; omega
  · show (0 : Int) ≤ 9223372036854775807; omega
  · show (0 : Nat) ≤ _; omega
  · show (0 : Nat) ≤ _; omega
theorem maxN_mem (l : List Rw) : ∀ k, 0 < k → k ≤ l.length → maxN l k ∈ l
  | 0, h, _ => by omega
  | k + 1, _, hk => by
    rcases Nat.eq_zero_or_pos k with q | q
    · subst q
      exact rwAt_mem (by omega)
    · rw [maxN_succ q]
      split
      · exact rwAt_mem (by omega)
      · exact maxN_mem l k q (by omega)
theorem maxN_at {w : World} {l : List Rw} (h : ∀ r ∈ l, RwAt w r) (p : Rw → Bool) : RwAt w (maxN (l.filter p) (l.filter p).length) := by
  rcases Nat.eq_zero_or_pos (l.filter p).length with q | q
  · rw [q]
    exact rwN_at w
  · exact h _ (List.mem_filter.1 (maxN_mem _ _ q (Nat.le_refl _))).1

end Go.Proofs.Ytldaligeckjhaaa
