/-
  Slices of items: the walks of slices.IndexFunc and slices.DeleteFunc of them, by a function that tells what is struck. No conditions but the length.
  The walk of filter.Shown: of rows the items that a filter shows. No conditions but the length.
-/
import Derived.Test.YtldaligeckjhaaaFold
import Derived.Test.YtldaligeckjhaaaFltS
namespace Go.Proofs.Ytldaligeckjhaaa
open Go.ChangeAt Go.ChangeShapes Go.RowKit Go.WideShapes

def itAt (l : List It) (i : Nat) : It := l.getD i itN
set_option maxRecDepth 100000 in
theorem size_itD (w : World) : (sizeOf 41).run Try.prog w = .ok 146 w := by kernel_rfl
/-- A row of a call's own as a block. -/
theorem own_blkI {w : World} {B g n cap : Nat} {ts : List It} (h : w.ownsRow B 41 146 (.slice (some ⟨g, 0, none⟩) n cap) n (itsC ts)) : ∃ f, w.rowIs g 41 (cap * 146) f ∧ (∀ i j, i < n → j < 146 → f (i * 146 + j) = itC (itAt ts i) j) ∧ B ≤ g ∧ n ≤ cap ∧ cap ≤ maxLen := by
  have hl : ts.length = n := by
    have := h.1
    rw [itsC_length] at this
    omega
  rcases h.2 with ⟨e, _⟩ | ⟨g', cap', cur, e, k1, k2, k3, k4, k5, k6⟩
  · cases e
  · simp only [Value.slice.injEq, Option.some.injEq, Addr.mk.injEq, and_true, true_and] at e
    obtain ⟨rfl, rfl⟩ := e
    refine ⟨fun j => cur.getD j undef, rowIs_of (k2.trans ?_), fun i j hi hj => ?_, k1, k3, k4⟩
    · congr 2
      apply Array.ext
      · rw [rowArr_size, k5]
      · intro j h1 h2
        rw [rowArr_size] at h2
        have h3 := rowArr_get (cap * 146) (fun j => cur.getD j undef) j h2
        rw [Array.getElem?_eq_getElem (by rw [rowArr_size]; exact h2)] at h3
        rw [Option.some.inj h3]
        simp [Array.getD, h1]
    · have h7 := itsC_get ts i j (by omega) hj
      rw [← k6, List.getElem?_take_of_lt (by omega), Array.getElem?_toList] at h7
      show cur.getD (i * 146 + j) undef = _
      unfold Array.getD
      have h8 := (Array.getElem?_eq_some_iff.1 h7)
      obtain ⟨h9, h10⟩ := h8
      rw [dif_pos h9]
      exact h10
theorem blk_ownI {w : World} {B g m cap : Nat} {f : Nat → Value} {ts : List It} (hr : w.rowIs g 41 (cap * 146) f) (hB : B ≤ g) (hm : m ≤ cap) (hc : cap ≤ maxLen) (hl : ts.length = m) (hf : ∀ i j, i < m → j < 146 → f (i * 146 + j) = itC (itAt ts i) j) : w.ownsRow B 41 146 (.slice (some ⟨g, 0, none⟩) m cap) m (itsC ts) := by
  refine ⟨by rw [itsC_length, hl], .inr ⟨g, cap, _, rfl, hB, rowIs_cells hr, hm, hc, rowArr_size _ _, ?_⟩⟩
  apply List.ext_getElem?
  intro j
  by_cases hj : j < m * 146
  · have h1 := itsC_get ts (j / 146) (j % 146) (by omega) (by omega)
    rw [show j / 146 * 146 + j % 146 = j by omega] at h1
    rw [List.getElem?_take_of_lt hj, Array.getElem?_toList, rowArr_get _ _ _ (by omega), h1]
    have h2 := hf (j / 146) (j % 146) (by omega) (by omega)
    rw [show j / 146 * 146 + j % 146 = j by omega] at h2
    rw [h2]
    rfl
  · rw [List.getElem?_take_eq_none (by omega), List.getElem?_eq_none (by rw [itsC_length]; omega)]
set_option maxRecDepth 100000 in
theorem it_szD (w : World) : (sizeOf (Try.prog.elem 49)).run Try.prog w = .ok 146 w := by kernel_rfl
set_option maxRecDepth 100000 in
theorem wp_it_from {ops : Array Oper} {Q : Exit → Act → World → Prop} {rest : List Oper} {o : Oper} {a : Act} {w : World} (hw : Region.wanted o (yielded ops a.tmps) = true) (x y : Operand) (ho : o.op = .slice 49 x (some y) none none)
    (b n c k : Nat) (hx : a.eval x = .slice (some ⟨b, 0, none⟩) n c) (hy : a.eval y = .int .i64 (k : Int)) (hk : k < n) (hc : n ≤ c) (K : wpList Try.prog ops Q rest (a.put o.dst (.slice (some ⟨b, 0 + k * 146, none⟩) (n - k) (c - k))) w) : wpList Try.prog ops Q (o :: rest) a w := by
  have hs := run_slice_l (P := Try.prog) (w := w) 49 (some ⟨b, 0, none⟩) n c Try.underlying49 .i64 (k : Int) (by omega) (by omega)
  have hr : (Instr.sliceAt 49 (.slice (some ⟨b, 0, none⟩) n c) (some (.int .i64 (k : Int))) none none).run Try.prog w = .ok (.slice (some ⟨b, 0 + k * 146, none⟩) (n - k) (c - k)) w := by
    rw [run_sliceAt_slice w _ _ _ _ _ Try.underlying49, hs, it_szD]
    simp only [Result.andThen_ok]
    unfold sliced
    rw [show ((k : Int)).toNat = k by omega, if_neg (show ¬ c = k by omega)]
    simp only [Option.map_some, addr_add]
  refine wpList_want hw fun K2 hK => ?_
  unfold Oper.wp execOp
  simp only [ho, hx, hy, Option.map_some, Option.map_none, Sem.run_bind, hr, Result.andThen_ok, Sem.run_pure]
  exact hK _ _ K
set_option maxRecDepth 100000 in
theorem wp_it_to {ops : Array Oper} {Q : Exit → Act → World → Prop} {rest : List Oper} {o : Oper} {a : Act} {w : World} (hw : Region.wanted o (yielded ops a.tmps) = true) (x y : Operand) (ho : o.op = .slice 49 x none (some y) none)
    (b n c k : Nat) (hx : a.eval x = .slice (some ⟨b, 0, none⟩) n c) (hy : a.eval y = .int .i64 (k : Int)) (hk : k ≤ c) (K : wpList Try.prog ops Q rest (a.put o.dst (.slice (some ⟨b, 0, none⟩) k c)) w) : wpList Try.prog ops Q (o :: rest) a w := by
  have hs := run_slice_h (P := Try.prog) (w := w) 49 (some ⟨b, 0, none⟩) n c Try.underlying49 .i64 (k : Int) (by omega) (by omega)
  have hr : (Instr.sliceAt 49 (.slice (some ⟨b, 0, none⟩) n c) none (some (.int .i64 (k : Int))) none).run Try.prog w = .ok (.slice (some ⟨b, 0, none⟩) k c) w := by
    rw [run_sliceAt_slice w _ _ _ _ _ Try.underlying49, hs, it_szD]
    simp only [Result.andThen_ok]
    unfold sliced
    rw [show ((k : Int)).toNat = k by omega, Nat.zero_mul, Nat.sub_zero, Nat.sub_zero]
    have e : (if c = 0 then (some ⟨b, 0, none⟩ : Option Addr) else (some ⟨b, 0, none⟩ : Option Addr).map fun x => x.add 0) = some ⟨b, 0, none⟩ := by
      split
      · rfl
      · simp [addr_add]
    rw [e]
  refine wpList_want hw fun K2 hK => ?_
  unfold Oper.wp execOp
  simp only [ho, hx, hy, Option.map_some, Option.map_none, Sem.run_bind, hr, Result.andThen_ok, Sem.run_pure]
  exact hK _ _ K
theorem wp_iidx {ops : Array Oper} {Q : Exit → Act → World → Prop} {rest : List Oper} {o : Oper} {a : Act} {w : World} (hw : Region.wanted o (yielded ops a.tmps) = true) (x y : Operand) (ho : o.op = .indexAddr 49 x y)
    (b off n c k : Nat) (hx : a.eval x = .slice (some ⟨b, off, none⟩) n c) (hy : a.eval y = .int .i64 (k : Int)) (hk : k < n)
    (h : wpList Try.prog ops Q rest (a.put o.dst (.pointer (some ⟨b, off + k * 146, none⟩))) w) : wpList Try.prog ops Q (o :: rest) a w := by
  refine wpList_want hw fun K hK => ?_
  have hr : (Instr.indexAt 49 (.slice (some ⟨b, off, none⟩) n c) (.int .i64 (k : Int))).run Try.prog w = .ok (.pointer (some ⟨b, off + k * 146, none⟩)) w := by
    have hb : (0 : Int) ≤ (k : Int) ∧ (k : Int) < (n : Int) := by omega
    simp only [Instr.indexAt, asIntOf, Sem.run_bind, Sem.run_pure, Result.andThen_ok, run_underlying Try.underlying49, hb, and_self, if_true, size_itD, Int.toNat_natCast, add_none]
  unfold Oper.wp execOp
  simp only [ho, hx, hy, Sem.run_bind, hr, Result.andThen_ok, Sem.run_pure]
  exact hK _ _ h
/-- Zero rows' cells. -/
def zis (n : Nat) : List Value := (List.range (n * 146)).map fun i => itC itN (i % 146)
theorem zis_length (n : Nat) : (zis n).length = n * 146 := by simp [zis]
theorem zis_one (n : Nat) : ∀ v ∈ zis n, v.oneCell' = true := fun v hv => by
  obtain ⟨j, _, rfl⟩ := List.mem_map.1 hv
  exact itC_one _ _
/-- Rows cleared. -/
theorem run_clear_it (w : World) (ty : TypeId) (b o n c : Nat) (hn : 0 < n) (hc : ∀ j, j < n * 146 → (w.cell? ⟨b, o + j, none⟩).isSome = true) (hf : ∀ j, j < n * 146 → w.frozen? ⟨b, o + j, none⟩ = false) :
    (Builtin.clear_ #[49] ty #[.slice (some ⟨b, o, none⟩) n c]).run Try.prog w = .ok (.tuple #[]) (w.setCells b o (zis n)) := by
  have hzc : (Builtin.zeroCells (Value.agg (itV itN)).cells n).toList = zis n := by
    have e : (Value.agg (itV itN)).cells = rowArr 146 (itC itN) := rfl
    rw [e]
    apply List.ext_getElem
    · simp [Builtin.zeroCells, zis, rowArr_size]
    · intro i h1 h2
      simp [Builtin.zeroCells, zis, rowArr, List.getElem?_range (show i % 146 < 146 by omega)]
  have hst := run_storeCells_cells (P := Try.prog) b o (zis n) 0 w (by rw [zis_length]; simpa using hc) (by rw [zis_length]; simpa using hf) (zis_one n)
  simp only [Nat.add_zero] at hst
  have hz := it_zero w
  obtain ⟨Z, hZ⟩ : ∃ Z, (Value.agg (itV itN)) = Z := ⟨_, rfl⟩
  rw [hZ] at hz hzc
  obtain ⟨m, rfl⟩ : ∃ m, n = m + 1 := ⟨n - 1, by omega⟩
  simp [Builtin.clear_, run_underlying Try.underlying49, hz, hzc, hst]
theorem wp_clear_it {ops : Array Oper} {Q : Exit → Act → World → Prop} {rest : List Oper} {o : Oper} {a : Act} {w : World} (hw : Region.wanted o (yielded ops a.tmps) = true) (x : Operand) (ho : o.op = .call { callee := .builtin .clear, args := #[x], argTypes := #[49] })
    (b off n c : Nat) (hx : a.eval x = .slice (some ⟨b, off, none⟩) n c) (hn : 0 < n) (hc : ∀ j, j < n * 146 → (w.cell? ⟨b, off + j, none⟩).isSome = true) (hf : ∀ j, j < n * 146 → w.frozen? ⟨b, off + j, none⟩ = false)
    (K : wpList Try.prog ops Q rest (a.put o.dst (.tuple #[])) (w.setCells b off (zis n))) : wpList Try.prog ops Q (o :: rest) a w := by
  refine wpList_want hw fun K2 hK => ?_
  unfold Oper.wp execOp
  simp only [ho, resolve, invoke, builtin, Sem.run_bind, Sem.run_pure, Result.andThen_ok, List.map_toArray, List.map_cons, List.map_nil, hx, run_clear_it w o.type b off n c hn hc hf]
  exact hK _ _ K
theorem itL_range {w : World} {g off : Nat} {r : It} (h : ∀ j, j < 146 → w.cell? ⟨g, off + j, none⟩ = some (itC r j)) : w.rangeAt g off (itL r) := fun p v hv => by
  have hp : p < 146 := by
    have := (List.getElem?_eq_some_iff.1 hv).1
    rwa [itL_length] at this
  rw [itL_get r p hp] at hv
  rw [← Option.some.inj hv]
  exact h p hp
theorem itAt_mem {l : List It} {i : Nat} (h : i < l.length) : itAt l i ∈ l := by
  unfold itAt
  rw [List.getD_eq_getElem?_getD, List.getElem?_eq_getElem h]
  exact List.getElem_mem _
theorem take_it {l : List It} {k : Nat} (h : k < l.length) : l.take (k + 1) = l.take k ++ [itAt l k] := by
  unfold itAt
  rw [List.take_add_one, List.getElem?_eq_getElem h, List.getD_eq_getElem?_getD, List.getElem?_eq_getElem h]
  rfl

/-- What IndexFunc answers: the first that isn't wanted. -/
def IdxSaysI (w : World) (n : Nat) (l : List It) (p : It → Bool) (e : Ending) (w' : World) : Prop := ∃ r : Int, e = .returned (.int .i64 r) ∧ Ext w w' ∧ ((r = -1 ∧ ∀ i, i < n → p (itAt l i) = true) ∨ ∃ k : Nat, r = (k : Int) ∧ k < n ∧ (∀ i, i < k → p (itAt l i) = true) ∧ p (itAt l k) = false)
set_option maxHeartbeats 1000000 in
set_option maxRecDepth 100000 in
theorem idxI_any (gb b off n c : Nat) (l : List It) (p : It → Bool) (w : World) (hs : n ≤ 9223372036854775807) (hc : ∀ i, i < n → ∀ j, j < 146 → w.cell? ⟨b, off + i * 146 + j, none⟩ = some (itC (itAt l i) j))
    (HD : ∀ y, Ext w y → ∀ i, i < n → Calls Try.prog 47 #[.agg (itV (itAt l i)), .pointer (some ⟨gb, 0, none⟩)] y fun e w' => e = .returned (.bool (!p (itAt l i))) ∧ Ext y w') :
    Calls Try.prog 76 #[.slice (some ⟨b, off, none⟩) n c, .func (.func 47) #[] #[.pointer (some ⟨gb, 0, none⟩)]] w (IdxSaysI w n l p) := by
  have HC := Lib.hid hc
  have HDd := Lib.hid HD
  clear hc HD
  go_enter Try.func76, Try.ntmps76
  go_wp2
  go_loopw [8] (fun i wr => ∃ k : Nat, k ≤ n ∧ i = .int .i64 (k : Int) ∧ (∀ i, i < k → p (itAt l i) = true) ∧ Ext w wr) (fun i _ => n - (intOf i).toNat)
  case atStart => exact ⟨0, Nat.zero_le _, rfl, fun i hi => by omega, Ext.refl _⟩
  case round =>
    obtain ⟨k, hk, rfl, hr, hE⟩ := hrel
    have HE := Lib.hid hE
    have Hr := Lib.hid hr
    rename World => y
    clear hE hr
    by_cases hlt : k < n
    · have x1 : (k : Int) < (n : Int) := by omega
      obtain ⟨x, hx⟩ : ∃ x, itAt l k = x := ⟨_, rfl⟩
      have Hx := Lib.hid hx
      have HRg := Lib.hid (show y.rangeAt b (off + k * 146) (itL x) from itL_range fun j hj => by
        have h1 := HC.out k hlt j hj
        rw [HE.out.cell (World.block_lt_of_cell? _ _ h1), h1, hx])
      have HM := Lib.hid (HDd.out y HE.out k hlt)
      rw [hx] at HM
      obtain ⟨X, hX⟩ : ∃ X, itV x = X := ⟨_, rfl⟩
      have HXa := Lib.hid (show (itL x).toArray = X by rw [itL_arr, hX])
      rw [hX] at HM
      obtain ⟨q, hq⟩ : ∃ q, p x = q := ⟨_, rfl⟩
      rw [hq] at HM
      have Hq := Lib.hid hq
      clear hx hX hq
      go_upto_region 4 with (fail)
      go_wp2_with (first | (refine wp_iidx rfl _ _ rfl b off n c k rfl (by first | rfl | simp [Act.eval]) hlt ?_) | (refine wpList_load_mid rfl 41 (.tmp 14) rfl b _ rfl (itL x) _ HRg.out Try.underlying41 rfl (by rw [itL_length]; kernel_rfl) ?_; rw [HXa.out]) | (go_at_call 47; refine HM.out.mono ?_; rintro e w3 ⟨rfl, hE3⟩; have HE3 := Lib.hid (HE.out.trans hE3); clear hE3))
      · rename_i h1
        have hq : q = false := by cases q <;> simp_all
        go_ret
        exact ⟨(k : Int), rfl, HE3.out, .inr ⟨k, rfl, hlt, Hr.out, by rw [Hx.out, Hq.out, hq]⟩⟩
      · rename_i h1
        have hq : q = true := by cases q <;> simp_all
        go_roundw
        case rel => exact ⟨k + 1, by omega, by go_num, fun i hi => by
          by_cases hik : i = k
          · rw [hik, Hx.out, Hq.out, hq]
          · exact Hr.out i (by omega), HE3.out⟩
        case measure => simp [intOf]; omega
    · obtain rfl : k = n := by omega
      have x1 : ¬ (k : Int) < (k : Int) := by omega
      go_wp2_with fail
      go_ret
      exact ⟨-1, rfl, HE.out, .inl ⟨rfl, Hr.out⟩⟩

/-- Behind the first that is struck: what the row holds. -/
structure DelI (w y : World) (g cap n : Nat) (l : List It) (p : It → Bool) (j kk : Nat) (F : Nat → It) : Prop where
  row : ∃ f, y.rowIs g 41 (cap * 146) f ∧ ∀ i q, i < n → q < 146 → f (i * 146 + q) = itC (F i) q
  grown : w.grownBy y (some g)
  len : ((l.take j).filter p).length = kk
  lt : kk + 1 ≤ j
  head : ∀ i, i < kk → F i = itAt ((l.take j).filter p) i
  tail : ∀ i, j ≤ i → i < n → F i = itAt l i
theorem DelI.ext {w y z : World} {g cap n : Nat} {l : List It} {p : It → Bool} {j kk : Nat} {F : Nat → It} (h : DelI w y g cap n l p j kk F) (hE : Ext y z) : DelI w z g cap n l p j kk F := by
  obtain ⟨f, hr, hf⟩ := h.row
  exact ⟨⟨f, hr.of_block (hE.block hr.lt), hf⟩, h.grown.trans (grown_ext hE _), h.len, h.lt, h.head, h.tail⟩
theorem filterI_skip {l : List It} {p : It → Bool} {j : Nat} (hj : j < l.length) (h : p (itAt l j) = false) : (l.take (j + 1)).filter p = (l.take j).filter p := by
  rw [take_it hj, List.filter_append]
  simp [h]
theorem filterI_keep {l : List It} {p : It → Bool} {j : Nat} (hj : j < l.length) (h : p (itAt l j) = true) : (l.take (j + 1)).filter p = (l.take j).filter p ++ [itAt l j] := by
  rw [take_it hj, List.filter_append]
  simp [h]
theorem DelI.skip {w y : World} {g cap n : Nat} {l : List It} {p : It → Bool} {j kk : Nat} {F : Nat → It} (h : DelI w y g cap n l p j kk F) (hj : j < l.length) (he : p (itAt l j) = false) : DelI w y g cap n l p (j + 1) kk F :=
  ⟨h.row, h.grown, by rw [filterI_skip hj he, h.len], by have := h.lt; omega, fun i hi => by rw [filterI_skip hj he, h.head i hi], fun i h1 h2 => h.tail i (by omega) h2⟩
theorem DelI.keep {w y : World} {g cap n : Nat} {l : List It} {p : It → Bool} {j kk : Nat} {F : Nat → It} (h : DelI w y g cap n l p j kk F) (hj : j < l.length) (he : p (itAt l j) = true) : DelI w (y.setCells g (kk * 146) (itL (itAt l j))) g cap n l p (j + 1) (kk + 1) (fun i => if i = kk then itAt l j else F i) := by
  obtain ⟨f, hr, hf⟩ := h.row
  have hlt := h.lt
  have hlen := h.len
  refine ⟨⟨_, rowIs_setCells _ _ _ _ hr, fun i q hi hq => ?_⟩, grown_setCells _ _ _ h.grown, by rw [filterI_keep hj he, List.length_append, h.len]; rfl, by omega, fun i hi => ?_, fun i h1 h2 => ?_⟩
  · rw [itL_length]
    by_cases h1 : i = kk
    · subst h1
      rw [if_pos (by omega), if_pos rfl, show i * 146 + q - i * 146 = q by omega, List.getD_eq_getElem?_getD, itL_get _ _ hq]
      rfl
    · rw [if_neg (by omega), if_neg h1]
      exact hf i q hi hq
  · rw [filterI_keep hj he]
    show (if i = kk then itAt l j else F i) = ((l.take j).filter p ++ [itAt l j]).getD i itN
    rw [List.getD_eq_getElem?_getD]
    by_cases h1 : i = kk
    · rw [if_pos h1, List.getElem?_append_right (by omega), show i - ((l.take j).filter p).length = 0 by omega]
      rfl
    · rw [if_neg h1, h.head i (by omega), List.getElem?_append_left (by omega)]
      unfold itAt
      rw [List.getD_eq_getElem?_getD]
  · rw [if_neg (by omega)]
    exact h.tail i (by omega) h2
/-- What DeleteFunc answers. -/
def DelISays (w : World) (B g cap : Nat) (fs : List It) (e : Ending) (w' : World) : Prop :=
  e = .returned (.slice (some ⟨g, 0, none⟩) fs.length cap) ∧ w'.ownsRow B 41 146 (.slice (some ⟨g, 0, none⟩) fs.length cap) fs.length (itsC fs) ∧ w.grownBy w' (some g)
theorem filterI_all {l : List It} {p : It → Bool} {n : Nat} (hl : l.length = n) (h : ∀ i, i < n → p (itAt l i) = true) : l.filter p = l := by
  rw [List.filter_eq_self]
  intro x hx
  obtain ⟨i, hi, rfl⟩ := List.mem_iff_getElem.1 hx
  have := h i (by omega)
  unfold itAt at this
  rw [List.getD_eq_getElem?_getD, List.getElem?_eq_getElem hi] at this
  exact this
theorem delI_all {w w' : World} {B g n cap : Nat} {l : List It} {p : It → Bool} (hf : l.filter p = l) (hl : l.length = n) (hg : w.grownBy w' (some g)) (ho : w'.ownsRow B 41 146 (.slice (some ⟨g, 0, none⟩) n cap) n (itsC l)) : DelISays w B g cap (l.filter p) (.returned (.slice (some ⟨g, 0, none⟩) n cap)) w' := by
  subst hl
  unfold DelISays
  rw [hf]
  exact ⟨rfl, ho, hg⟩
theorem DelI.fin {w y : World} {B g cap n : Nat} {l : List It} {p : It → Bool} {kk : Nat} {F : Nat → It} (h : DelI w y g cap n l p n kk F) (hl : l.length = n) (hB : B ≤ g) (hnc : n ≤ cap) (hcm : cap ≤ maxLen) : DelISays w B g cap (l.filter p) (.returned (.slice (some ⟨g, 0, none⟩) kk cap)) (y.setCells g (0 + kk * 146) (zis (n - kk))) := by
  have hlt := h.lt
  have ht : l.take n = l := by rw [← hl, List.take_length]
  have hk : (l.filter p).length = kk := by have := h.len; rwa [ht] at this
  unfold DelISays
  rw [hk]
  obtain ⟨f, hr, hf⟩ := h.row
  refine ⟨rfl, blk_ownI (rowIs_setCells _ _ _ _ hr) hB (by omega) hcm hk (fun i q hi hq => ?_), grown_setCells _ _ _ h.grown⟩
  rw [if_neg (by omega), hf i q (by omega) hq, h.head i hi, ht]

set_option maxHeartbeats 1500000 in
set_option maxRecDepth 100000 in
theorem delI_any {w : World} {B g cap n gb : Nat} {l : List It} {p : It → Bool} (hown : w.ownsRow B 41 146 (.slice (some ⟨g, 0, none⟩) n cap) n (itsC l)) (hs : n ≤ 9223372036854775807)
    (HD : ∀ y, w.grownBy y (some g) → ∀ i, i < n → Calls Try.prog 47 #[.agg (itV (itAt l i)), .pointer (some ⟨gb, 0, none⟩)] y fun e w' => e = .returned (.bool (!p (itAt l i))) ∧ Ext y w') :
    Calls Try.prog 46 #[.slice (some ⟨g, 0, none⟩) n cap, .func (.func 47) #[] #[.pointer (some ⟨gb, 0, none⟩)]] w (DelISays w B g cap (l.filter p)) := by
  have hl : l.length = n := by
    have := hown.1
    rw [itsC_length] at this
    omega
  have HO := Lib.hid hown
  obtain ⟨f0, hr0, hf0, hBg, hnc, hcm⟩ := own_blkI hown
  have HI := Lib.hid (idxI_any gb g 0 n cap l p w hs (fun i hi j hj => by rw [show 0 + i * 146 + j = i * 146 + j by omega, hr0.cell (by have := Nat.mul_le_mul_right 146 hnc; omega), hf0 i j hi hj]) (fun y hy => HD y (grown_ext hy _)))
  have Hr0 := Lib.hid hr0
  have Hf0 := Lib.hid hf0
  have HBg := Lib.hid hBg
  have Hcm := Lib.hid hcm
  have Hl := Lib.hid hl
  have HDd := Lib.hid HD
  have hcap : cap ≤ 9223372036854775807 := by unfold maxLen at hcm; omega
  have hmul := Nat.mul_le_mul_right 146 hnc
  clear hown hr0 hf0 hBg hcm hl HD
  go_enter Try.func46, Try.ntmps46
  go_upto_region 1 with (fail)
  go_wp2_with fail
  refine HI.out.mono ?_
  rintro e w2 ⟨r, rfl, hE, hc⟩
  have HE := Lib.hid hE
  clear hE HI
  rcases hc with ⟨rfl, hall⟩ | ⟨k, rfl, hk, hpre, hbad⟩
  · have Hall := Lib.hid hall
    clear hall
    go_wp2
    go_ret
    exact delI_all (filterI_all Hl.out Hall.out) Hl.out (grown_ext HE.out _) (HO.out.kept (grown_ext HE.out none) (by right; intro e; cases e))
  · have xk : ((k : Int) == -1) = false := by simp
    have HS0 := Lib.hid (show DelI w w2 g cap n l p (k + 1) k (itAt l) from by
      have hl := Hl.out
      have hfk : (l.take k).filter p = l.take k := filterI_all (n := k) (by rw [List.length_take]; omega) fun i hi => by
        have h1 := hpre i hi
        unfold itAt at h1 ⊢
        rw [List.getD_eq_getElem?_getD, List.getElem?_take_of_lt hi, ← List.getD_eq_getElem?_getD]
        exact h1
      have hfk2 : (l.take (k + 1)).filter p = l.take k := by rw [filterI_skip (by omega) hbad, hfk]
      refine ⟨⟨f0, Hr0.out.of_block (HE.out.block Hr0.out.lt), Hf0.out⟩, grown_ext HE.out _, by rw [hfk2, List.length_take]; omega, Nat.le_refl _, fun i hi => ?_, fun i _ _ => rfl⟩
      rw [hfk2]
      unfold itAt
      rw [List.getD_eq_getElem?_getD, List.getD_eq_getElem?_getD, List.getElem?_take_of_lt hi])
    clear hpre hbad
    go_wp2
    go_loopw [5, 6] (fun v i y => ∃ (j kk : Nat) (F : Nat → It), k + 1 ≤ j ∧ j ≤ n ∧ v = .int .i64 (kk : Int) ∧ i = .int .i64 (j : Int) ∧ DelI w y g cap n l p j kk F) (fun _ i _ => n - (intOf i).toNat)
    case atStart => exact ⟨k + 1, k, _, Nat.le_refl _, by omega, rfl, by go_num, HS0.out⟩
    case round =>
      obtain ⟨j, kk, F, hj1, hj, rfl, rfl, hS⟩ := hrel
      have HS := Lib.hid hS
      rename World => u
      clear hS HS0
      obtain ⟨f1, hr1, hf1⟩ := HS.out.row
      have Hr1 := Lib.hid hr1
      have Hkk := Lib.hid HS.out.lt
      by_cases hlt : j < n
      · have x3 : (j : Int) < (n : Int) := by omega
        obtain ⟨x, hx⟩ : ∃ x, itAt l j = x := ⟨_, rfl⟩
        have Hx := Lib.hid hx
        have HRg := Lib.hid (show u.rangeAt g (0 + j * 146) (itL x) from itL_range fun q hq => by
          rw [show 0 + j * 146 + q = j * 146 + q by omega, hr1.cell (by omega), hf1 j q hlt hq, HS.out.tail j (Nat.le_refl _) hlt, hx])
        obtain ⟨X, hX⟩ : ∃ X, itV x = X := ⟨_, rfl⟩
        have HXa := Lib.hid (show (itL x).toArray = X by rw [itL_arr, hX])
        have HXs := Lib.hid (show X.size = 146 by rw [← hX]; exact itV_size x)
        have HXo := Lib.hid (show X.all (·.oneCell') = true by rw [← hX]; exact itV_one x)
        have HXl := Lib.hid (show X.toList = itL x by rw [← hX, ← itL_arr])
        clear hr1 hf1 hx
        have hzr := it_zero
        obtain ⟨ZR, hZR⟩ : ∃ Z, itV itN = Z := ⟨_, rfl⟩
        have HZs := Lib.hid (show ZR.size = 146 by rw [← hZR]; exact itV_size _)
        rw [hZR] at hzr
        clear hZR
        go_upto_region 8 with (first | (refine wp_iidx rfl _ _ rfl g 0 n cap j rfl (by first | rfl | simp [Act.eval]) hlt ?_) | (refine wpList_load_mid rfl 41 (.tmp 24) rfl g _ rfl (itL x) _ HRg.out Try.underlying41 rfl (by rw [itL_length]; kernel_rfl) ?_; rw [HXa.out]) | (refine wpList_store_row rfl 41 _ _ rfl u.heap.size _ rfl rfl _ _ (heap_new u _ _ rfl) (by rw [HXs.out]; kernel_rfl) (by rw [HXs.out, HZs.out]) HXo.out ?_; rw [setRow_new u _ _ _ _ rfl]))
        obtain ⟨u2, hu2⟩ : ∃ z, u.alloc (.cells X 41) = z := ⟨_, rfl⟩
        obtain ⟨t, ht⟩ : ∃ t, u.heap.size = t := ⟨_, rfl⟩
        have hE2 : Ext u u2 := by rw [← hu2]; exact (Ext.refl u).alloc _
        have HR2 := Lib.hid (show u2.heap[t]? = some (.cells X 41 (0, 0)) by rw [← hu2]; exact heap_new u _ _ ht.symm)
        have HS2 := Lib.hid (HS.out.ext hE2)
        have HM := Lib.hid (HDd.out u2 HS2.out.grown j hlt)
        rw [Hx.out, hX] at HM
        rw [ht]
        refine wp_world (w' := u2) hu2 ?_
        obtain ⟨q, hq⟩ : ∃ q, p x = q := ⟨_, rfl⟩
        have Hq := Lib.hid hq
        rw [hq] at HM
        clear hu2 hE2 ht hX hq hzr HS
        go_upto_if 29 with (first | (refine wpList_load_rowW rfl 41 _ rfl t rfl _ _ _ _ HR2.out Try.underlying41 rfl (by rw [HXs.out]; kernel_rfl) ?_) | (go_at_call 47; refine HM.out.mono ?_; rintro e u3 ⟨rfl, hE3⟩; have HR3 := Lib.hid (hE3.keep HR2.out); have HS3 := Lib.hid (HS2.out.ext hE3); clear hE3))
        cases q with
        | true =>
          have Hkl := Lib.hid (show kk < cap ∧ kk < n from ⟨by have := Hkk.out; omega, by have := Hkk.out; omega⟩)
          obtain ⟨f3, hr3, -⟩ := HS3.out.row
          have Hth := Lib.hid (show u3.there g (kk * 146) X.size from fun z hz => by
            rw [HXs.out] at hz
            have := Hkl.out
            exact ⟨by rw [hr3.cell (by omega)]; rfl, hr3.frozen _⟩)
          have hkn := Hkl.out.2
          clear hr3
          go_upto_region 10 with (first | (refine wpList_load_rowW rfl 41 _ rfl t rfl _ _ _ _ HR3.out Try.underlying41 rfl (by rw [HXs.out]; kernel_rfl) ?_) | (refine wp_iidx rfl _ _ rfl g 0 n cap kk rfl (by first | rfl | simp [Act.eval]) hkn ?_) | (refine wpList_store_mid rfl 41 (.tmp 33) (.tmp 32) rfl g (0 + kk * 146) X rfl rfl (by rw [Nat.zero_add]; exact Hth.out) (by rw [HXs.out]; kernel_rfl) HXo.out ?_))
          go_wp2
          go_roundw
          case rel =>
            have h5 := HS3.out.keep (by have := Hl.out; omega) (by rw [Hx.out]; exact Hq.out)
            rw [Hx.out, ← HXl.out] at h5
            exact ⟨j + 1, kk + 1, _, by omega, by omega, by go_num, by go_num, h5⟩
          case measure => simp [intOf]; omega
        | false =>
          go_wp2
          go_roundw
          case rel => exact ⟨j + 1, kk, F, by omega, by omega, rfl, by go_num, HS3.out.skip (by have := Hl.out; omega) (by rw [Hx.out]; exact Hq.out)⟩
          case measure => simp [intOf]; omega
      · obtain rfl : j = n := by omega
        have x3 : ¬ (j : Int) < (j : Int) := by omega
        clear hf1
        go_upto_region 11 with (fail)
        go_wp2_with (first | (refine wp_it_from rfl _ _ rfl g j cap kk rfl rfl (by have := Hkk.out; omega) hnc ?_) | (refine wp_clear_it rfl _ rfl g (0 + kk * 146) (j - kk) (cap - kk) rfl (by have := Hkk.out; omega) (fun q hq => by rw [Hr1.out.cell (by have := Hkk.out; omega)]; rfl) (fun q hq => Hr1.out.frozen _) ?_) | (refine wp_it_to rfl _ _ rfl g j cap kk rfl rfl (by have := Hkk.out; omega) ?_))
        go_ret
        have h9 := HS.out.fin Hl.out HBg.out hnc Hcm.out
        rw [Nat.zero_add] at h9
        exact h9

/-- What DeleteFunc answers, for rows of one's own that may be none. -/
def DelAny (w : World) (B : Nat) (v : Value) (fs : List It) (e : Ending) (w' : World) : Prop :=
  ∃ u, e = .returned u ∧ w'.ownsRow B 41 146 u fs.length (itsC fs) ∧ w.grownBy w' v.ownBlock
set_option maxHeartbeats 400000 in
set_option maxRecDepth 100000 in
theorem idxI_nil (gb : Nat) (w : World) :
    Calls Try.prog 76 #[.slice none 0 0, .func (.func 47) #[] #[.pointer (some ⟨gb, 0, none⟩)]] w fun e w' => e = .returned (.int .i64 (-1)) ∧ Ext w w' := by
  go_enter Try.func76, Try.ntmps76
  go_wp2
  go_loopw [8] (fun i wr => i = .int .i64 0 ∧ wr = w) (fun _ _ => 0)
  case atStart => exact ⟨rfl, rfl⟩
  case round =>
    obtain ⟨rfl, rfl⟩ := hrel
    go_wp2_with fail
    go_ret
    exact ⟨rfl, Ext.refl _⟩
set_option maxHeartbeats 400000 in
set_option maxRecDepth 100000 in
theorem delI_nil (gb : Nat) (w : World) :
    Calls Try.prog 46 #[.slice none 0 0, .func (.func 47) #[] #[.pointer (some ⟨gb, 0, none⟩)]] w fun e w' => e = .returned (.slice none 0 0) ∧ Ext w w' := by
  have HI := Lib.hid (idxI_nil gb w)
  go_enter Try.func46, Try.ntmps46
  go_upto_region 1 with (fail)
  go_wp2_with fail
  refine HI.out.mono ?_
  rintro e w2 ⟨rfl, hE⟩
  have HE := Lib.hid hE
  clear hE HI
  go_wp2
  go_ret
  exact ⟨rfl, HE.out⟩
theorem delI_own {w : World} {B n gb : Nat} {v : Value} {l : List It} {p : It → Bool} (hown : w.ownsRow B 41 146 v n (itsC l)) (hs : n ≤ 9223372036854775807)
    (HD : ∀ y, w.grownBy y v.ownBlock → ∀ i, i < n → Calls Try.prog 47 #[.agg (itV (itAt l i)), .pointer (some ⟨gb, 0, none⟩)] y fun e w' => e = .returned (.bool (!p (itAt l i))) ∧ Ext y w') :
    Calls Try.prog 46 #[v, .func (.func 47) #[] #[.pointer (some ⟨gb, 0, none⟩)]] w (DelAny w B v (l.filter p)) := by
  have hl : l.length = n := by
    have := hown.1
    rw [itsC_length] at this
    omega
  rcases hown.2 with ⟨e1, e2⟩ | ⟨g, cap, cur, e1, _⟩
  · subst e1
    subst e2
    obtain rfl : l = [] := List.eq_nil_of_length_eq_zero hl
    refine (delI_nil gb w).mono ?_
    rintro e w' ⟨rfl, hE⟩
    exact ⟨_, rfl, World.ownsRow_nil _ _ _ _, grown_ext hE _⟩
  · subst e1
    refine (delI_any hown hs HD).mono ?_
    rintro e w' ⟨rfl, h2, h3⟩
    exact ⟨_, rfl, h2, h3⟩

/-- Whether a filter shows an item. -/
def shP (al : Bool) (ss : List ByteArray) (t : It) : Bool := showsB al t.kn t.al t.tags ss
set_option maxHeartbeats 1000000 in
set_option maxRecDepth 100000 in
theorem shown1_any (al : Bool) (b : Option Addr) (m d : Nat) (ss : List ByteArray) (t : It) (gb : Nat) (w : World) (ht : ItAt w t) (hu : SrAt w b m d ss) (hb : w.heap[gb]? = some (.cells (fltV al (.slice b m d)) 55 (0, 0))) :
    Calls Try.prog 47 #[.agg (itV t), .pointer (some ⟨gb, 0, none⟩)] w fun e w' => e = .returned (.bool (!shP al ss t)) ∧ Ext w w' := by
  obtain ⟨w2, hw2⟩ : ∃ z, w.alloc (.cells (itV t) 41) = z := ⟨_, rfl⟩
  obtain ⟨g, hg⟩ : ∃ z, w.heap.size = z := ⟨_, rfl⟩
  have hE2 : Ext w w2 := by rw [← hw2]; exact (Ext.refl w).alloc _
  have HB2 := Lib.hid (show w2.heap[g]? = some (.cells (itV t) 41 (0, 0)) by rw [← hw2]; exact heap_new w _ _ hg.symm)
  have HF2 := Lib.hid (hE2.keep hb)
  have hm : Calls Try.prog 26 #[.agg (fltV al (.slice b m d)), .agg (itV t)] w2 _ := shows_any al b m d ss (itC t) t.kn t.al t.ta t.tags.length t.tc t.tags w2 rfl rfl rfl (ht.tags.ext hE2) (hu.ext hE2)
  have HE2 := Lib.hid hE2
  have Hsh := Lib.hid (show shP al ss t = showsB al t.kn t.al t.tags ss from rfl)
  obtain ⟨R, hR⟩ : ∃ z, shP al ss t = z := ⟨_, rfl⟩
  rw [hR]
  rw [← Hsh.out, hR] at hm
  obtain ⟨X, hX⟩ : ∃ z, itV t = z := ⟨_, rfl⟩
  have HXs := Lib.hid (show X.size = 146 by rw [← hX]; exact itV_size t)
  have HFs := Lib.hid (show (fltV al (.slice b m d)).size = 2 from rfl)
  obtain ⟨FV, hFV⟩ : ∃ z, fltV al (.slice b m d) = z := ⟨_, rfl⟩
  rw [hFV] at hm HF2 HFs
  rw [hX] at hw2 HB2 hm ⊢
  have Hw2 := Lib.hid hw2
  have Hg := Lib.hid hg
  have HM := Lib.hid hm
  clear hw2 hg hm hR hX hFV hE2 hb ht hu Hsh
  go_enter Try.func47, Try.ntmps47
  go_upto_region 1 with (fail)
  refine wp_world (w' := w2) Hw2.out ?_
  rw [Hg.out]
  clear Hw2 Hg
  go_wp2_with (first | (refine wpList_load_rowW rfl 55 (.tmp 1) rfl gb rfl _ _ _ _ HF2.out Try.underlying55 rfl (by rw [HFs.out]; kernel_rfl) ?_) | (refine wpList_load_rowW rfl 41 (.tmp 2) rfl g rfl _ _ _ _ HB2.out Try.underlying41 rfl (by rw [HXs.out]; kernel_rfl) ?_) | (go_at_call 26; refine HM.out.mono ?_; rintro e w3 ⟨rfl, hE3⟩; have HE3 := Lib.hid (HE2.out.trans hE3); clear hE3))
  go_ret
  exact ⟨rfl, HE3.out⟩

/-- What filter.Shown answers. -/
def ShownSays (w : World) (cs : List Rw) (p : It → Bool) (e : Ending) (w' : World) : Prop := ∃ (v : Value) (its : List It), e = .returned v ∧ Ext w w' ∧ w'.ownsRow w.heap.size 41 146 v (its.filter p).length (itsC (its.filter p)) ∧ (∀ t ∈ its, ItAt w' t) ∧ FoldIs cs its
set_option maxHeartbeats 1000000 in
set_option maxRecDepth 100000 in
theorem shown_any (al : Bool) (b : Option Addr) (m d : Nat) (ss : List ByteArray) (a : Option Addr) (n c : Nat) (l : List Rw) (w : World) (h : RwsAt w a n c l) (hs : n ≤ 100000) (hu : SrAt w b m d ss) :
    Calls Try.prog 23 #[.agg (fltV al (.slice b m d)), .slice a n c] w (ShownSays w (cntN l n) (shP al ss)) := by
  obtain ⟨w1, hw1⟩ : ∃ z, w.alloc (.cells (fltV al (.slice b m d)) 55) = z := ⟨_, rfl⟩
  obtain ⟨g, hg⟩ : ∃ z, w.heap.size = z := ⟨_, rfl⟩
  have hE1 : Ext w w1 := by rw [← hw1]; exact (Ext.refl w).alloc _
  have HF1 := Lib.hid (show w1.heap[g]? = some (.cells (fltV al (.slice b m d)) 55 (0, 0)) by rw [← hw1]; exact heap_new w _ _ hg.symm)
  have HFo := Lib.hid (foldO_any a n c l w1 (h.ext hE1) hs)
  have HU := Lib.hid (hu.ext hE1)
  have HE1 := Lib.hid hE1
  have Hn := Lib.hid h.len
  obtain ⟨FV, hFV⟩ : ∃ z, fltV al (.slice b m d) = z := ⟨_, rfl⟩
  have HFV := Lib.hid hFV
  rw [hFV] at hw1 ⊢
  have Hw1 := Lib.hid hw1
  have Hg := Lib.hid hg
  have hmf : ∀ (fn : Fn) (first cap : Array Value) (w : World), (Instr.makeFunc fn first cap).run Try.prog w = .ok (.func fn first cap) w := fun _ _ _ _ => rfl
  clear hw1 hg hE1 h hu hFV
  go_enter Try.func23, Try.ntmps23
  go_upto_region 1 with (fail)
  refine wp_world (w' := w1) Hw1.out ?_
  rw [Hg.out]
  clear Hw1
  go_wp2_with fail
  refine HFo.out.mono ?_
  rintro e w2 ⟨v, its, rfl, hE, hown, hat, hfi⟩
  have hlen : its.length ≤ 9223372036854775807 := by
    rcases hown.2 with ⟨_, e⟩ | ⟨_, cap, _, _, _, _, k1, k2, _⟩
    · omega
    · unfold maxLen at k2
      omega
  have HD := Lib.hid (delI_own (gb := g) (p := shP al ss) hown hlen (fun y hy i hi => by
    have hb : Ext w1 y := Below.trans hE ((Below.refl w1.heap.size w2).grown hy (Below.size hE) (fun q hq => (hown.lt q hq).1))
    have hm : itAt its i ∈ its := itAt_mem hi
    exact shown1_any al b m d ss (itAt its i) g y (((hat _ hm).rows hown hy).at) (HU.out.ext hb) (hb.keep HF1.out)))
  have HE := Lib.hid hE
  have HOw := Lib.hid hown
  have HAt := Lib.hid hat
  have HFi := Lib.hid hfi
  clear hE hown hat hfi HFo hlen
  go_wp2_with (go_at_call 46; refine HD.out.mono ?_; rintro e w3 ⟨u, rfl, ho3, hg3⟩; have HO3 := Lib.hid ho3; have HG3 := Lib.hid hg3; clear ho3 hg3)
  have hb : Ext w1 w3 := Below.trans HE.out ((Below.refl w1.heap.size w2).grown HG3.out (Below.size HE.out) (fun q hq => (HOw.out.lt q hq).1))
  go_ret
  exact ⟨u, its, rfl, HE1.out.trans hb, own_monoM HO3.out (Below.size HE1.out), fun t ht => (((HAt.out t ht).rows HOw.out HG3.out).at), HFi.out⟩

end Go.Proofs.Ytldaligeckjhaaa
