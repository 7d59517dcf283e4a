/-
  Slices of rows: the walks of slices.Clone, IndexFunc, DeleteFunc of them. No conditions but the length.
  Rows of a call's own: appended to; a row as a slice of one. No conditions but the length.
-/
import Derived.Test.YtldaligeckjhaaaRwF
import Derived.Test.YtldaligeckjhaaaTkO
import Derived.Lib.SliceRun
import Derived.Deep.MidRow
import Derived.Test.YtldaligeckjhaaaRefNu
namespace Go.Proofs.Ytldaligeckjhaaa
open Go.ChangeAt Go.ChangeShapes Go.RowKit Go.WideShapes

def rwAt (l : List Rw) (i : Nat) : Rw := l.getD i rwN
set_option maxRecDepth 100000 in
theorem size_rw (w : World) : (sizeOf 36).run Try.prog w = .ok 130 w := by kernel_rfl
set_option maxRecDepth 100000 in
theorem info_rw : (Try.prog.info? 36).map (fun i => (i.zero, i.size, i.bytes)) = some (some (.agg (rwV rwN)), 130, 304) := by kernel_rfl
/-- A row of a call's own as a block. -/
theorem own_blkR {w : World} {B g n cap : Nat} {ts : List Rw} (h : w.ownsRow B 36 130 (.slice (some ⟨g, 0, none⟩) n cap) n (rwsC ts)) : ∃ f, w.rowIs g 36 (cap * 130) f ∧ (∀ i j, i < n → j < 130 → f (i * 130 + j) = rwC (rwAt ts i) j) ∧ B ≤ g ∧ n ≤ cap ∧ cap ≤ maxLen := by
  have hl : ts.length = n := by
    have := h.1
    rw [rwsC_length] at this
    omega
  rcases h.2 with ⟨e, _⟩ | ⟨g', cap', cur, e, k1, k2, k3, k4, k5, k6⟩
  · cases e
  · simp only [Value.slice.injEq, Option.some.injEq, Addr.mk.injEq, and_true, true_and] at e
    obtain ⟨rfl, rfl⟩ := e
    refine ⟨fun j => cur.getD j undef, rowIs_of (k2.trans ?_), fun i j hi hj => ?_, k1, k3, k4⟩
    · congr 2
      apply Array.ext
      · rw [rowArr_size, k5]
      · intro j h1 h2
        rw [rowArr_size] at h2
        have h3 := rowArr_get (cap * 130) (fun j => cur.getD j undef) j h2
        rw [Array.getElem?_eq_getElem (by rw [rowArr_size]; exact h2)] at h3
        rw [Option.some.inj h3]
        simp [Array.getD, h1]
    · have h7 := rwsC_get ts i j (by omega) hj
      rw [← k6, List.getElem?_take_of_lt (by omega), Array.getElem?_toList] at h7
      show cur.getD (i * 130 + j) undef = _
      unfold Array.getD
      have h8 := (Array.getElem?_eq_some_iff.1 h7)
      obtain ⟨h9, h10⟩ := h8
      rw [dif_pos h9]
      exact h10
theorem blk_ownR {w : World} {B g m cap : Nat} {f : Nat → Value} {ts : List Rw} (hr : w.rowIs g 36 (cap * 130) f) (hB : B ≤ g) (hm : m ≤ cap) (hc : cap ≤ maxLen) (hl : ts.length = m) (hf : ∀ i j, i < m → j < 130 → f (i * 130 + j) = rwC (rwAt ts i) j) : w.ownsRow B 36 130 (.slice (some ⟨g, 0, none⟩) m cap) m (rwsC ts) := by
  refine ⟨by rw [rwsC_length, hl], .inr ⟨g, cap, _, rfl, hB, rowIs_cells hr, hm, hc, rowArr_size _ _, ?_⟩⟩
  apply List.ext_getElem?
  intro j
  by_cases hj : j < m * 130
  · have h1 := rwsC_get ts (j / 130) (j % 130) (by omega) (by omega)
    rw [show j / 130 * 130 + j % 130 = j by omega] at h1
    rw [List.getElem?_take_of_lt hj, Array.getElem?_toList, rowArr_get _ _ _ (by omega), h1]
    have h2 := hf (j / 130) (j % 130) (by omega) (by omega)
    rw [show j / 130 * 130 + j % 130 = j by omega] at h2
    rw [h2]
    rfl
  · rw [List.getElem?_take_eq_none (by omega), List.getElem?_eq_none (by rw [rwsC_length]; omega)]
set_option maxRecDepth 100000 in
theorem rw_sz (w : World) : (sizeOf (Try.prog.elem 22)).run Try.prog w = .ok 130 w := by kernel_rfl
set_option maxRecDepth 100000 in
theorem wp_rw_from {ops : Array Oper} {Q : Exit → Act → World → Prop} {rest : List Oper} {o : Oper} {a : Act} {w : World} (hw : Region.wanted o (yielded ops a.tmps) = true) (x y : Operand) (ho : o.op = .slice 22 x (some y) none none)
    (b n c k : Nat) (hx : a.eval x = .slice (some ⟨b, 0, none⟩) n c) (hy : a.eval y = .int .i64 (k : Int)) (hk : k < n) (hc : n ≤ c) (K : wpList Try.prog ops Q rest (a.put o.dst (.slice (some ⟨b, 0 + k * 130, none⟩) (n - k) (c - k))) w) : wpList Try.prog ops Q (o :: rest) a w := by
  have hs := run_slice_l (P := Try.prog) (w := w) 22 (some ⟨b, 0, none⟩) n c Try.underlying22 .i64 (k : Int) (by omega) (by omega)
  have hr : (Instr.sliceAt 22 (.slice (some ⟨b, 0, none⟩) n c) (some (.int .i64 (k : Int))) none none).run Try.prog w = .ok (.slice (some ⟨b, 0 + k * 130, none⟩) (n - k) (c - k)) w := by
    rw [run_sliceAt_slice w _ _ _ _ _ Try.underlying22, hs, rw_sz]
    simp only [Result.andThen_ok]
    unfold sliced
    rw [show ((k : Int)).toNat = k by omega, if_neg (show ¬ c = k by omega)]
    simp only [Option.map_some, addr_add]
  refine wpList_want hw fun K2 hK => ?_
  unfold Oper.wp execOp
  simp only [ho, hx, hy, Option.map_some, Option.map_none, Sem.run_bind, hr, Result.andThen_ok, Sem.run_pure]
  exact hK _ _ K
set_option maxRecDepth 100000 in
theorem wp_rw_to {ops : Array Oper} {Q : Exit → Act → World → Prop} {rest : List Oper} {o : Oper} {a : Act} {w : World} (hw : Region.wanted o (yielded ops a.tmps) = true) (x y : Operand) (ho : o.op = .slice 22 x none (some y) none)
    (b n c k : Nat) (hx : a.eval x = .slice (some ⟨b, 0, none⟩) n c) (hy : a.eval y = .int .i64 (k : Int)) (hk : k ≤ c) (K : wpList Try.prog ops Q rest (a.put o.dst (.slice (some ⟨b, 0, none⟩) k c)) w) : wpList Try.prog ops Q (o :: rest) a w := by
  have hs := run_slice_h (P := Try.prog) (w := w) 22 (some ⟨b, 0, none⟩) n c Try.underlying22 .i64 (k : Int) (by omega) (by omega)
  have hr : (Instr.sliceAt 22 (.slice (some ⟨b, 0, none⟩) n c) none (some (.int .i64 (k : Int))) none).run Try.prog w = .ok (.slice (some ⟨b, 0, none⟩) k c) w := by
    rw [run_sliceAt_slice w _ _ _ _ _ Try.underlying22, hs, rw_sz]
    simp only [Result.andThen_ok]
    unfold sliced
    rw [show ((k : Int)).toNat = k by omega, Nat.zero_mul, Nat.sub_zero, Nat.sub_zero]
    have e : (if c = 0 then (some ⟨b, 0, none⟩ : Option Addr) else (some ⟨b, 0, none⟩ : Option Addr).map fun x => x.add 0) = some ⟨b, 0, none⟩ := by
      split
      · rfl
      · simp [addr_add]
    rw [e]
  refine wpList_want hw fun K2 hK => ?_
  unfold Oper.wp execOp
  simp only [ho, hx, hy, Option.map_some, Option.map_none, Sem.run_bind, hr, Result.andThen_ok, Sem.run_pure]
  exact hK _ _ K
theorem wp_ridx {ops : Array Oper} {Q : Exit → Act → World → Prop} {rest : List Oper} {o : Oper} {a : Act} {w : World} (hw : Region.wanted o (yielded ops a.tmps) = true) (x y : Operand) (ho : o.op = .indexAddr 22 x y)
    (b off n c k : Nat) (hx : a.eval x = .slice (some ⟨b, off, none⟩) n c) (hy : a.eval y = .int .i64 (k : Int)) (hk : k < n)
    (h : wpList Try.prog ops Q rest (a.put o.dst (.pointer (some ⟨b, off + k * 130, none⟩))) w) : wpList Try.prog ops Q (o :: rest) a w := by
  refine wpList_want hw fun K hK => ?_
  have hr : (Instr.indexAt 22 (.slice (some ⟨b, off, none⟩) n c) (.int .i64 (k : Int))).run Try.prog w = .ok (.pointer (some ⟨b, off + k * 130, none⟩)) w := by
    have hb : (0 : Int) ≤ (k : Int) ∧ (k : Int) < (n : Int) := by omega
    simp only [Instr.indexAt, asIntOf, Sem.run_bind, Sem.run_pure, Result.andThen_ok, run_underlying Try.underlying22, hb, and_self, if_true, size_rw, Int.toNat_natCast, add_none]
  unfold Oper.wp execOp
  simp only [ho, hx, hy, Sem.run_bind, hr, Result.andThen_ok, Sem.run_pure]
  exact hK _ _ h
theorem rwsC_cells {w : World} {b off n c : Nat} {ts : List Rw} (h : RwsAt w (some ⟨b, off, none⟩) n c ts) : ∀ j u, (rwsC ts)[j]? = some u → w.cell? ((⟨b, off, none⟩ : Addr).add j) = some u := by
  intro j u hu
  have hl := h.len
  have hj : j < ts.length * 130 := by
    have := (List.getElem?_eq_some_iff.1 hu).1
    rwa [rwsC_length] at this
  obtain ⟨b', off', ha, hc⟩ := h.at_ (by omega)
  simp only [Option.some.injEq, Addr.mk.injEq, and_true] at ha
  obtain ⟨rfl, rfl⟩ := ha
  have h1 := rwsC_get ts (j / 130) (j % 130) (by omega) (by omega)
  rw [show j / 130 * 130 + j % 130 = j by omega, hu] at h1
  rw [Option.some.inj h1, addr_add, show off + j = off + j / 130 * 130 + j % 130 by omega]
  exact hc (j / 130) (by omega) (j % 130) (by omega)

set_option maxHeartbeats 1000000 in
set_option maxRecDepth 100000 in
theorem rwClone_any (a : Option Addr) (n c : Nat) (ts : List Rw) (w : World) (h : RwsAt w a n c ts) (hs : n ≤ 1000000) :
    Calls Try.prog 80 #[.slice a n c] w fun e w' => ∃ v, e = .returned v ∧ w'.ownsRow w.heap.size 36 130 v n (rwsC ts) ∧ Ext w w' := by
  have hl := h.len
  have hcap := h.cap
  obtain ⟨i0, hi, hz0, hz1, hz2⟩ := info_parts info_rw
  have H := Lib.hid h
  clear h
  have q22 : ∀ (w : World) (a : Option Addr) (n c n' c' : Nat), (binOp .eql 22 (.slice a n c) (.slice none n' c')).run Try.prog w = .ok (.bool a.isNone) w := fun w a n c n' c' => Lib.run_eql_slice_nil w _ _ a n c n' c' Try.underlying22
  cases a with
  | none =>
    obtain rfl : c = 0 := H.out.nil_ rfl
    obtain rfl : n = 0 := by omega
    obtain rfl : ts = [] := List.eq_nil_of_length_eq_zero hl
    go_enter Try.func80, Try.ntmps80
    go_wp2
    go_ret
    exact ⟨_, rfl, World.ownsRow_nil _ _ _ _, Ext.refl _⟩
  | some ad =>
    have hcell : ∀ j u, (rwsC ts)[j]? = some u → (w.alloc (.cells #[] 36)).cell? (ad.add j) = some u := by
      by_cases h0 : n = 0
      · subst h0
        obtain rfl : ts = [] := List.eq_nil_of_length_eq_zero hl
        intro j u hu
        simp [rwsC] at hu
      · obtain ⟨b, off, ha, _⟩ := H.out.at_ (by omega)
        obtain rfl := Option.some.inj ha
        exact rwsC_cells (H.out.ext ((Ext.refl w).alloc _))
    have Hcell := Lib.hid hcell
    clear hcell
    go_enter Try.func80, Try.ntmps80
    go_wp2_with (at_builtin; refine wpList_append_own _ rfl _ _ 22 rfl w.heap.size 36 i0 (.agg (rwV rwN)) 130 304 Try.underlying22 hi hz0 hz1 hz2 (by kernel_rfl) (by decide) _ 0 [] rfl (World.ownsRow_made w #[] 0 (Nat.le_refl _) (by unfold maxLen; omega) rfl) ad n c (rwsC ts) rfl ?c1 Hcell.out (rwsC_one ts) ?c4 ?c5 ?c6 ?_)
    case c1 => rw [rwsC_length, hl]
    case c4 => unfold maxLen; omega
    case c5 => omega
    case c6 => simp
    intro v' w1 hown hgrow _
    go_wp2
    go_ret
    refine ⟨v', rfl, ?_, ?_⟩
    · exact hown
    · exact ((Below.refl _ _).alloc (Nat.le_refl _) _).grown hgrow (by simp) (fun k hk => by simp [Value.ownBlock] at hk; omega)
set_option maxRecDepth 100000 in
theorem rw_zero (w : World) : (zeroValue 36).run Try.prog w = .ok (.agg (rwV rwN)) w := by kernel_rfl
/-- Zero rows' cells. -/
def zrs (n : Nat) : List Value := (List.range (n * 130)).map fun i => rwC rwN (i % 130)
theorem zrs_length (n : Nat) : (zrs n).length = n * 130 := by simp [zrs]
theorem zrs_one (n : Nat) : ∀ v ∈ zrs n, v.oneCell' = true := fun v hv => by
  obtain ⟨j, _, rfl⟩ := List.mem_map.1 hv
  exact rwC_one _ _
/-- Rows cleared. -/
theorem run_clear_rw (w : World) (ty : TypeId) (b o n c : Nat) (hn : 0 < n) (hc : ∀ j, j < n * 130 → (w.cell? ⟨b, o + j, none⟩).isSome = true) (hf : ∀ j, j < n * 130 → w.frozen? ⟨b, o + j, none⟩ = false) :
    (Builtin.clear_ #[22] ty #[.slice (some ⟨b, o, none⟩) n c]).run Try.prog w = .ok (.tuple #[]) (w.setCells b o (zrs n)) := by
  have hzc : (Builtin.zeroCells (Value.agg (rwV rwN)).cells n).toList = zrs n := by
    have e : (Value.agg (rwV rwN)).cells = rowArr 130 (rwC rwN) := rfl
    rw [e]
    apply List.ext_getElem
    · simp [Builtin.zeroCells, zrs, rowArr_size]
    · intro i h1 h2
      simp [Builtin.zeroCells, zrs, rowArr, List.getElem?_range (show i % 130 < 130 by omega)]
  have hst := run_storeCells_cells (P := Try.prog) b o (zrs n) 0 w (by rw [zrs_length]; simpa using hc) (by rw [zrs_length]; simpa using hf) (zrs_one n)
  simp only [Nat.add_zero] at hst
  have hz := rw_zero w
  obtain ⟨Z, hZ⟩ : ∃ Z, (Value.agg (rwV rwN)) = Z := ⟨_, rfl⟩
  rw [hZ] at hz hzc
  obtain ⟨m, rfl⟩ : ∃ m, n = m + 1 := ⟨n - 1, by omega⟩
  simp [Builtin.clear_, run_underlying Try.underlying22, hz, hzc, hst]
theorem wp_clear_rw {ops : Array Oper} {Q : Exit → Act → World → Prop} {rest : List Oper} {o : Oper} {a : Act} {w : World} (hw : Region.wanted o (yielded ops a.tmps) = true) (x : Operand) (ho : o.op = .call { callee := .builtin .clear, args := #[x], argTypes := #[22] })
    (b off n c : Nat) (hx : a.eval x = .slice (some ⟨b, off, none⟩) n c) (hn : 0 < n) (hc : ∀ j, j < n * 130 → (w.cell? ⟨b, off + j, none⟩).isSome = true) (hf : ∀ j, j < n * 130 → w.frozen? ⟨b, off + j, none⟩ = false)
    (K : wpList Try.prog ops Q rest (a.put o.dst (.tuple #[])) (w.setCells b off (zrs n))) : wpList Try.prog ops Q (o :: rest) a w := by
  refine wpList_want hw fun K2 hK => ?_
  unfold Oper.wp execOp
  simp only [ho, resolve, invoke, builtin, Sem.run_bind, Sem.run_pure, Result.andThen_ok, List.map_toArray, List.map_cons, List.map_nil, hx, run_clear_rw w o.type b off n c hn hc hf]
  exact hK _ _ K
theorem rwL_range {w : World} {g off : Nat} {r : Rw} (h : ∀ j, j < 130 → w.cell? ⟨g, off + j, none⟩ = some (rwC r j)) : w.rangeAt g off (rwL r) := fun p v hv => by
  have hp : p < 130 := by
    have := (List.getElem?_eq_some_iff.1 hv).1
    rwa [rwL_length] at this
  rw [rwL_get r p hp] at hv
  rw [← Option.some.inj hv]
  exact h p hp
theorem rwAt_mem {l : List Rw} {i : Nat} (h : i < l.length) : rwAt l i ∈ l := by
  unfold rwAt
  rw [List.getD_eq_getElem?_getD, List.getElem?_eq_getElem h]
  exact List.getElem_mem _
theorem take_rw {l : List Rw} {k : Nat} (h : k < l.length) : l.take (k + 1) = l.take k ++ [rwAt l k] := by
  unfold rwAt
  rw [List.take_add_one, List.getElem?_eq_getElem h, List.getD_eq_getElem?_getD, List.getElem?_eq_getElem h]
  rfl

/-- What IndexFunc answers: the first that isn't wanted. -/
def IdxSays (w : World) (n : Nat) (l : List Rw) (p : Rw → Bool) (e : Ending) (w' : World) : Prop := ∃ r : Int, e = .returned (.int .i64 r) ∧ Ext w w' ∧ ((r = -1 ∧ ∀ i, i < n → p (rwAt l i) = true) ∨ ∃ k : Nat, r = (k : Int) ∧ k < n ∧ (∀ i, i < k → p (rwAt l i) = true) ∧ p (rwAt l k) = false)
set_option maxHeartbeats 1000000 in
set_option maxRecDepth 100000 in
theorem idxR_any (gb b off n c : Nat) (l : List Rw) (p : Rw → Bool) (w : World) (hs : n ≤ 1000000) (hc : ∀ i, i < n → ∀ j, j < 130 → w.cell? ⟨b, off + i * 130 + j, none⟩ = some (rwC (rwAt l i) j))
    (HD : ∀ y, Ext w y → ∀ i, i < n → Calls Try.prog 81 #[.agg (rwV (rwAt l i)), .pointer (some ⟨gb, 0, none⟩)] y fun e w' => e = .returned (.bool (!p (rwAt l i))) ∧ Ext y w') :
    Calls Try.prog 99 #[.slice (some ⟨b, off, none⟩) n c, .func (.func 81) #[] #[.pointer (some ⟨gb, 0, none⟩)]] w (IdxSays w n l p) := by
  have HC := Lib.hid hc
  have HDd := Lib.hid HD
  clear hc HD
  go_enter Try.func99, Try.ntmps99
  go_wp2
  go_loopw [8] (fun i wr => ∃ k : Nat, k ≤ n ∧ i = .int .i64 (k : Int) ∧ (∀ i, i < k → p (rwAt l i) = true) ∧ Ext w wr) (fun i _ => n - (intOf i).toNat)
  case atStart => exact ⟨0, Nat.zero_le _, rfl, fun i hi => by omega, Ext.refl _⟩
  case round =>
    obtain ⟨k, hk, rfl, hr, hE⟩ := hrel
    have HE := Lib.hid hE
    have Hr := Lib.hid hr
    rename World => y
    clear hE hr
    by_cases hlt : k < n
    · have x1 : (k : Int) < (n : Int) := by omega
      obtain ⟨x, hx⟩ : ∃ x, rwAt l k = x := ⟨_, rfl⟩
      have Hx := Lib.hid hx
      have HRg := Lib.hid (show y.rangeAt b (off + k * 130) (rwL x) from rwL_range fun j hj => by
        have h1 := HC.out k hlt j hj
        rw [HE.out.cell (World.block_lt_of_cell? _ _ h1), h1, hx])
      have HM := Lib.hid (HDd.out y HE.out k hlt)
      rw [hx] at HM
      obtain ⟨X, hX⟩ : ∃ X, rwV x = X := ⟨_, rfl⟩
      have HXa := Lib.hid (show (rwL x).toArray = X by rw [rwL_arr, hX])
      rw [hX] at HM
      obtain ⟨q, hq⟩ : ∃ q, p x = q := ⟨_, rfl⟩
      rw [hq] at HM
      have Hq := Lib.hid hq
      clear hx hX hq
      go_upto_region 4 with (fail)
      go_wp2_with (first | (refine wp_ridx rfl _ _ rfl b off n c k rfl (by first | rfl | simp [Act.eval]) hlt ?_) | (refine wpList_load_mid rfl 36 (.tmp 14) rfl b _ rfl (rwL x) _ HRg.out Try.underlying36 rfl (by rw [rwL_length]; kernel_rfl) ?_; rw [HXa.out]) | (go_at_call 81; refine HM.out.mono ?_; rintro e w3 ⟨rfl, hE3⟩; have HE3 := Lib.hid (HE.out.trans hE3); clear hE3))
      · rename_i h1
        have hq : q = false := by cases q <;> simp_all
        go_ret
        exact ⟨(k : Int), rfl, HE3.out, .inr ⟨k, rfl, hlt, Hr.out, by rw [Hx.out, Hq.out, hq]⟩⟩
      · rename_i h1
        have hq : q = true := by cases q <;> simp_all
        go_roundw
        case rel => exact ⟨k + 1, by omega, by go_num, fun i hi => by
          by_cases hik : i = k
          · rw [hik, Hx.out, Hq.out, hq]
          · exact Hr.out i (by omega), HE3.out⟩
        case measure => simp [intOf]; omega
    · obtain rfl : k = n := by omega
      have x1 : ¬ (k : Int) < (k : Int) := by omega
      go_wp2_with fail
      go_ret
      exact ⟨-1, rfl, HE.out, .inl ⟨rfl, Hr.out⟩⟩

/-- Behind the first that is struck: what the row holds. -/
structure Del (w y : World) (g cap n : Nat) (l : List Rw) (p : Rw → Bool) (j kk : Nat) (F : Nat → Rw) : Prop where
  row : ∃ f, y.rowIs g 36 (cap * 130) f ∧ ∀ i q, i < n → q < 130 → f (i * 130 + q) = rwC (F i) q
  grown : w.grownBy y (some g)
  len : ((l.take j).filter p).length = kk
  lt : kk + 1 ≤ j
  head : ∀ i, i < kk → F i = rwAt ((l.take j).filter p) i
  tail : ∀ i, j ≤ i → i < n → F i = rwAt l i
theorem Del.ext {w y z : World} {g cap n : Nat} {l : List Rw} {p : Rw → Bool} {j kk : Nat} {F : Nat → Rw} (h : Del w y g cap n l p j kk F) (hE : Ext y z) : Del w z g cap n l p j kk F := by
  obtain ⟨f, hr, hf⟩ := h.row
  exact ⟨⟨f, hr.of_block (hE.block hr.lt), hf⟩, h.grown.trans (grown_ext hE _), h.len, h.lt, h.head, h.tail⟩
theorem filter_skip {l : List Rw} {p : Rw → Bool} {j : Nat} (hj : j < l.length) (h : p (rwAt l j) = false) : (l.take (j + 1)).filter p = (l.take j).filter p := by
  rw [take_rw hj, List.filter_append]
  simp [h]
theorem filter_keep {l : List Rw} {p : Rw → Bool} {j : Nat} (hj : j < l.length) (h : p (rwAt l j) = true) : (l.take (j + 1)).filter p = (l.take j).filter p ++ [rwAt l j] := by
  rw [take_rw hj, List.filter_append]
  simp [h]
theorem Del.skip {w y : World} {g cap n : Nat} {l : List Rw} {p : Rw → Bool} {j kk : Nat} {F : Nat → Rw} (h : Del w y g cap n l p j kk F) (hj : j < l.length) (he : p (rwAt l j) = false) : Del w y g cap n l p (j + 1) kk F :=
  ⟨h.row, h.grown, by rw [filter_skip hj he, h.len], by have := h.lt; omega, fun i hi => by rw [filter_skip hj he, h.head i hi], fun i h1 h2 => h.tail i (by omega) h2⟩
theorem Del.keep {w y : World} {g cap n : Nat} {l : List Rw} {p : Rw → Bool} {j kk : Nat} {F : Nat → Rw} (h : Del w y g cap n l p j kk F) (hj : j < l.length) (he : p (rwAt l j) = true) : Del w (y.setCells g (kk * 130) (rwL (rwAt l j))) g cap n l p (j + 1) (kk + 1) (fun i => if i = kk then rwAt l j else F i) := by
  obtain ⟨f, hr, hf⟩ := h.row
  have hlt := h.lt
  have hlen := h.len
  refine ⟨⟨_, rowIs_setCells _ _ _ _ hr, fun i q hi hq => ?_⟩, grown_setCells _ _ _ h.grown, by rw [filter_keep hj he, List.length_append, h.len]; rfl, by omega, fun i hi => ?_, fun i h1 h2 => ?_⟩
  · rw [rwL_length]
    by_cases h1 : i = kk
    · subst h1
      rw [if_pos (by omega), if_pos rfl, show i * 130 + q - i * 130 = q by omega, List.getD_eq_getElem?_getD, rwL_get _ _ hq]
      rfl
    · rw [if_neg (by omega), if_neg h1]
      exact hf i q hi hq
  · rw [filter_keep hj he]
    show (if i = kk then rwAt l j else F i) = ((l.take j).filter p ++ [rwAt l j]).getD i rwN
    rw [List.getD_eq_getElem?_getD]
    by_cases h1 : i = kk
    · rw [if_pos h1, List.getElem?_append_right (by omega), show i - ((l.take j).filter p).length = 0 by omega]
      rfl
    · rw [if_neg h1, h.head i (by omega), List.getElem?_append_left (by omega)]
      unfold rwAt
      rw [List.getD_eq_getElem?_getD]
  · rw [if_neg (by omega)]
    exact h.tail i (by omega) h2
/-- What DeleteFunc answers. -/
def DelSays (w : World) (B g cap : Nat) (fs : List Rw) (e : Ending) (w' : World) : Prop :=
  e = .returned (.slice (some ⟨g, 0, none⟩) fs.length cap) ∧ w'.ownsRow B 36 130 (.slice (some ⟨g, 0, none⟩) fs.length cap) fs.length (rwsC fs) ∧ w.grownBy w' (some g)
theorem filter_all {l : List Rw} {p : Rw → Bool} {n : Nat} (hl : l.length = n) (h : ∀ i, i < n → p (rwAt l i) = true) : l.filter p = l := by
  rw [List.filter_eq_self]
  intro x hx
  obtain ⟨i, hi, rfl⟩ := List.mem_iff_getElem.1 hx
  have := h i (by omega)
  unfold rwAt at this
  rw [List.getD_eq_getElem?_getD, List.getElem?_eq_getElem hi] at this
  exact this
theorem del_all {w w' : World} {B g n cap : Nat} {l : List Rw} {p : Rw → Bool} (hf : l.filter p = l) (hl : l.length = n) (hg : w.grownBy w' (some g)) (ho : w'.ownsRow B 36 130 (.slice (some ⟨g, 0, none⟩) n cap) n (rwsC l)) : DelSays w B g cap (l.filter p) (.returned (.slice (some ⟨g, 0, none⟩) n cap)) w' := by
  subst hl
  unfold DelSays
  rw [hf]
  exact ⟨rfl, ho, hg⟩
theorem Del.fin {w y : World} {B g cap n : Nat} {l : List Rw} {p : Rw → Bool} {kk : Nat} {F : Nat → Rw} (h : Del w y g cap n l p n kk F) (hl : l.length = n) (hB : B ≤ g) (hnc : n ≤ cap) (hcm : cap ≤ maxLen) : DelSays w B g cap (l.filter p) (.returned (.slice (some ⟨g, 0, none⟩) kk cap)) (y.setCells g (0 + kk * 130) (zrs (n - kk))) := by
  have hlt := h.lt
  have ht : l.take n = l := by rw [← hl, List.take_length]
  have hk : (l.filter p).length = kk := by have := h.len; rwa [ht] at this
  unfold DelSays
  rw [hk]
  obtain ⟨f, hr, hf⟩ := h.row
  refine ⟨rfl, blk_ownR (rowIs_setCells _ _ _ _ hr) hB (by omega) hcm hk (fun i q hi hq => ?_), grown_setCells _ _ _ h.grown⟩
  rw [if_neg (by omega), hf i q (by omega) hq, h.head i hi, ht]

set_option maxHeartbeats 1500000 in
set_option maxRecDepth 100000 in
theorem delR_any {w : World} {B g cap n gb : Nat} {l : List Rw} {p : Rw → Bool} (hown : w.ownsRow B 36 130 (.slice (some ⟨g, 0, none⟩) n cap) n (rwsC l)) (hs : n ≤ 1000000)
    (HD : ∀ y, w.grownBy y (some g) → ∀ i, i < n → Calls Try.prog 81 #[.agg (rwV (rwAt l i)), .pointer (some ⟨gb, 0, none⟩)] y fun e w' => e = .returned (.bool (!p (rwAt l i))) ∧ Ext y w') :
    Calls Try.prog 79 #[.slice (some ⟨g, 0, none⟩) n cap, .func (.func 81) #[] #[.pointer (some ⟨gb, 0, none⟩)]] w (DelSays w B g cap (l.filter p)) := by
  have hl : l.length = n := by
    have := hown.1
    rw [rwsC_length] at this
    omega
  have HO := Lib.hid hown
  obtain ⟨f0, hr0, hf0, hBg, hnc, hcm⟩ := own_blkR hown
  have HI := Lib.hid (idxR_any gb g 0 n cap l p w hs (fun i hi j hj => by rw [show 0 + i * 130 + j = i * 130 + j by omega, hr0.cell (by have := Nat.mul_le_mul_right 130 hnc; omega), hf0 i j hi hj]) (fun y hy => HD y (grown_ext hy _)))
  have Hr0 := Lib.hid hr0
  have Hf0 := Lib.hid hf0
  have HBg := Lib.hid hBg
  have Hcm := Lib.hid hcm
  have Hl := Lib.hid hl
  have HDd := Lib.hid HD
  have hcap : cap ≤ 9223372036854775807 := by unfold maxLen at hcm; omega
  have hmul := Nat.mul_le_mul_right 130 hnc
  clear hown hr0 hf0 hBg hcm hl HD
  go_enter Try.func79, Try.ntmps79
  go_upto_region 1 with (fail)
  go_wp2_with fail
  refine HI.out.mono ?_
  rintro e w2 ⟨r, rfl, hE, hc⟩
  have HE := Lib.hid hE
  clear hE HI
  rcases hc with ⟨rfl, hall⟩ | ⟨k, rfl, hk, hpre, hbad⟩
  · have Hall := Lib.hid hall
    clear hall
    go_wp2
    go_ret
    exact del_all (filter_all Hl.out Hall.out) Hl.out (grown_ext HE.out _) (HO.out.kept (grown_ext HE.out none) (by right; intro e; cases e))
  · have xk : ((k : Int) == -1) = false := by simp
    have HS0 := Lib.hid (show Del w w2 g cap n l p (k + 1) k (rwAt l) from by
      have hl := Hl.out
      have hfk : (l.take k).filter p = l.take k := filter_all (n := k) (by rw [List.length_take]; omega) fun i hi => by
        have h1 := hpre i hi
        unfold rwAt at h1 ⊢
        rw [List.getD_eq_getElem?_getD, List.getElem?_take_of_lt hi, ← List.getD_eq_getElem?_getD]
        exact h1
      have hfk2 : (l.take (k + 1)).filter p = l.take k := by rw [filter_skip (by omega) hbad, hfk]
      refine ⟨⟨f0, Hr0.out.of_block (HE.out.block Hr0.out.lt), Hf0.out⟩, grown_ext HE.out _, by rw [hfk2, List.length_take]; omega, Nat.le_refl _, fun i hi => ?_, fun i _ _ => rfl⟩
      rw [hfk2]
      unfold rwAt
      rw [List.getD_eq_getElem?_getD, List.getD_eq_getElem?_getD, List.getElem?_take_of_lt hi])
    clear hpre hbad
    go_wp2
    go_loopw [5, 6] (fun v i y => ∃ (j kk : Nat) (F : Nat → Rw), k + 1 ≤ j ∧ j ≤ n ∧ v = .int .i64 (kk : Int) ∧ i = .int .i64 (j : Int) ∧ Del w y g cap n l p j kk F) (fun _ i _ => n - (intOf i).toNat)
    case atStart => exact ⟨k + 1, k, _, Nat.le_refl _, by omega, rfl, by go_num, HS0.out⟩
    case round =>
      obtain ⟨j, kk, F, hj1, hj, rfl, rfl, hS⟩ := hrel
      have HS := Lib.hid hS
      rename World => u
      clear hS HS0
      obtain ⟨f1, hr1, hf1⟩ := HS.out.row
      have Hr1 := Lib.hid hr1
      have Hkk := Lib.hid HS.out.lt
      by_cases hlt : j < n
      · have x3 : (j : Int) < (n : Int) := by omega
        obtain ⟨x, hx⟩ : ∃ x, rwAt l j = x := ⟨_, rfl⟩
        have Hx := Lib.hid hx
        have HRg := Lib.hid (show u.rangeAt g (0 + j * 130) (rwL x) from rwL_range fun q hq => by
          rw [show 0 + j * 130 + q = j * 130 + q by omega, hr1.cell (by omega), hf1 j q hlt hq, HS.out.tail j (Nat.le_refl _) hlt, hx])
        obtain ⟨X, hX⟩ : ∃ X, rwV x = X := ⟨_, rfl⟩
        have HXa := Lib.hid (show (rwL x).toArray = X by rw [rwL_arr, hX])
        have HXs := Lib.hid (show X.size = 130 by rw [← hX]; exact rwV_size x)
        have HXo := Lib.hid (show X.all (·.oneCell') = true by rw [← hX]; exact rwV_one x)
        have HXl := Lib.hid (show X.toList = rwL x by rw [← hX, ← rwL_arr])
        clear hr1 hf1 hx
        have hzr := rw_zero
        obtain ⟨ZR, hZR⟩ : ∃ Z, rwV rwN = Z := ⟨_, rfl⟩
        have HZs := Lib.hid (show ZR.size = 130 by rw [← hZR]; exact rwV_size _)
        rw [hZR] at hzr
        clear hZR
        go_upto_region 8 with (first | (refine wp_ridx rfl _ _ rfl g 0 n cap j rfl (by first | rfl | simp [Act.eval]) hlt ?_) | (refine wpList_load_mid rfl 36 (.tmp 24) rfl g _ rfl (rwL x) _ HRg.out Try.underlying36 rfl (by rw [rwL_length]; kernel_rfl) ?_; rw [HXa.out]) | (refine wpList_store_row rfl 36 _ _ rfl u.heap.size _ rfl rfl _ _ (heap_new u _ _ rfl) (by rw [HXs.out]; kernel_rfl) (by rw [HXs.out, HZs.out]) HXo.out ?_; rw [setRow_new u _ _ _ _ rfl]))
        obtain ⟨u2, hu2⟩ : ∃ z, u.alloc (.cells X 36) = z := ⟨_, rfl⟩
        obtain ⟨t, ht⟩ : ∃ t, u.heap.size = t := ⟨_, rfl⟩
        have hE2 : Ext u u2 := by rw [← hu2]; exact (Ext.refl u).alloc _
        have HR2 := Lib.hid (show u2.heap[t]? = some (.cells X 36 (0, 0)) by rw [← hu2]; exact heap_new u _ _ ht.symm)
        have HS2 := Lib.hid (HS.out.ext hE2)
        have HM := Lib.hid (HDd.out u2 HS2.out.grown j hlt)
        rw [Hx.out, hX] at HM
        rw [ht]
        refine wp_world (w' := u2) hu2 ?_
        obtain ⟨q, hq⟩ : ∃ q, p x = q := ⟨_, rfl⟩
        have Hq := Lib.hid hq
        rw [hq] at HM
        clear hu2 hE2 ht hX hq hzr HS
        go_upto_if 29 with (first | (refine wpList_load_rowW rfl 36 _ rfl t rfl _ _ _ _ HR2.out Try.underlying36 rfl (by rw [HXs.out]; kernel_rfl) ?_) | (go_at_call 81; refine HM.out.mono ?_; rintro e u3 ⟨rfl, hE3⟩; have HR3 := Lib.hid (hE3.keep HR2.out); have HS3 := Lib.hid (HS2.out.ext hE3); clear hE3))
        cases q with
        | true =>
          have Hkl := Lib.hid (show kk < cap ∧ kk < n from ⟨by have := Hkk.out; omega, by have := Hkk.out; omega⟩)
          obtain ⟨f3, hr3, -⟩ := HS3.out.row
          have Hth := Lib.hid (show u3.there g (kk * 130) X.size from fun z hz => by
            rw [HXs.out] at hz
            have := Hkl.out
            exact ⟨by rw [hr3.cell (by omega)]; rfl, hr3.frozen _⟩)
          have hkn := Hkl.out.2
          clear hr3
          go_upto_region 10 with (first | (refine wpList_load_rowW rfl 36 _ rfl t rfl _ _ _ _ HR3.out Try.underlying36 rfl (by rw [HXs.out]; kernel_rfl) ?_) | (refine wp_ridx rfl _ _ rfl g 0 n cap kk rfl (by first | rfl | simp [Act.eval]) hkn ?_) | (refine wpList_store_mid rfl 36 (.tmp 33) (.tmp 32) rfl g (0 + kk * 130) X rfl rfl (by rw [Nat.zero_add]; exact Hth.out) (by rw [HXs.out]; kernel_rfl) HXo.out ?_))
          go_wp2
          go_roundw
          case rel =>
            have h5 := HS3.out.keep (by have := Hl.out; omega) (by rw [Hx.out]; exact Hq.out)
            rw [Hx.out, ← HXl.out] at h5
            exact ⟨j + 1, kk + 1, _, by omega, by omega, by go_num, by go_num, h5⟩
          case measure => simp [intOf]; omega
        | false =>
          go_wp2
          go_roundw
          case rel => exact ⟨j + 1, kk, F, by omega, by omega, rfl, by go_num, HS3.out.skip (by have := Hl.out; omega) (by rw [Hx.out]; exact Hq.out)⟩
          case measure => simp [intOf]; omega
      · obtain rfl : j = n := by omega
        have x3 : ¬ (j : Int) < (j : Int) := by omega
        clear hf1
        go_upto_region 11 with (fail)
        go_wp2_with (first | (refine wp_rw_from rfl _ _ rfl g j cap kk rfl rfl (by have := Hkk.out; omega) hnc ?_) | (refine wp_clear_rw rfl _ rfl g (0 + kk * 130) (j - kk) (cap - kk) rfl (by have := Hkk.out; omega) (fun q hq => by rw [Hr1.out.cell (by have := Hkk.out; omega)]; rfl) (fun q hq => Hr1.out.frozen _) ?_) | (refine wp_rw_to rfl _ _ rfl g j cap kk rfl rfl (by have := Hkk.out; omega) ?_))
        go_ret
        have h9 := HS.out.fin Hl.out HBg.out hnc Hcm.out
        rw [Nat.zero_add] at h9
        exact h9

theorem exec_append_rw {w : World} {o : Oper} {ev : Operand → Value} (s x : Operand) (ho : o.op = .call { callee := .builtin .append, args := #[s, x], argTypes := #[22, 22] })
    (B : Nat) (v : Value) (n : Nat) (l : List Rw) (hs : ev s = v) (hown : w.ownsRow B 36 130 v n (rwsC l))
    (q c : Nat) (y : Rw) (hx : ev x = .slice (some ⟨q, 0, none⟩) 1 c) (hq : ∀ j, j < 130 → w.cell? ⟨q, j, none⟩ = some (rwC y j)) (hsz : n ≤ 1000000) (hB : B ≤ w.heap.size) :
    ∃ v' w', (execOp ev o).run Try.prog w = .ok (.value v') w' ∧ w'.ownsRow B 36 130 v' (n + 1) (rwsC (l ++ [y])) ∧ w.grownBy w' v.ownBlock ∧ (v'.ownBlock = v.ownBlock ∨ v'.ownBlock = some w.heap.size) := by
  obtain ⟨i0, hi, hz0, hz1, hz2⟩ := info_parts info_rw
  have hnews : ∀ j u, (rwL y)[j]? = some u → w.cell? ((⟨q, 0, none⟩ : Addr).add j) = some u := fun j u hu => by
    have hj : j < 130 := by
      have := (List.getElem?_eq_some_iff.1 hu).1
      rwa [rwL_length] at this
    rw [rwL_get y j hj] at hu
    obtain rfl := Option.some.inj hu
    rw [addr_add, Nat.zero_add]
    exact hq j hj
  have h63 : n + 1 ≤ maxLen := by unfold maxLen; omega
  obtain ⟨v', w', hr, h2, h3, _⟩ := run_append_own (P := Try.prog) w B 22 o.type 36 i0 (.agg (rwV rwN)) 130 304 Try.underlying22 hi hz0 hz1 hz2 (by kernel_rfl) (by decide) v n (rwsC l) hown ⟨q, 0, none⟩ 1 c (rwL y) (by rw [rwL_length]) hnews (rwL_one y) h63 (by omega) hB
  have h4 := append_where (P := Try.prog) Try.underlying22 hi hz0 hz1 hz2 hown (by rw [rwL_length]) hnews (rwL_one y) h63 (by omega) hr
  refine ⟨v', w', ?_, by rw [rwsC_append, rwsC, rwsC, List.append_nil]; exact h2, h3, h4⟩
  simp only [execOp, ho, resolve, invoke, builtin, Sem.run_bind, Sem.run_pure, Result.andThen_ok, List.map_toArray, List.map_cons, List.map_nil, hs, hx, hr]
theorem append_rw {w : World} {ops : Array Oper} {rest : List Oper} {o : Oper} {a : Act} {Q : Exit → Act → World → Prop} (hw : Region.wanted o (yielded ops a.tmps) = true) (s x : Operand) (ho : o.op = .call { callee := .builtin .append, args := #[s, x], argTypes := #[22, 22] })
    (B : Nat) (v : Value) (n : Nat) (l : List Rw) (hs : a.eval s = v) (hown : w.ownsRow B 36 130 v n (rwsC l))
    (q c : Nat) (y : Rw) (hx : a.eval x = .slice (some ⟨q, 0, none⟩) 1 c) (hq : ∀ j, j < 130 → w.cell? ⟨q, j, none⟩ = some (rwC y j)) (hsz : n ≤ 1000000) (hB : B ≤ w.heap.size)
    (h : ∀ v' w', w'.ownsRow B 36 130 v' (n + 1) (rwsC (l ++ [y])) → w.grownBy w' v.ownBlock → (v'.ownBlock = v.ownBlock ∨ v'.ownBlock = some w.heap.size) → wpList Try.prog ops Q rest (a.put o.dst v') w') : wpList Try.prog ops Q (o :: rest) a w := by
  obtain ⟨v', w', hr, h1, h2, h3⟩ := exec_append_rw (ev := a.eval) s x ho B v n l hs hown q c y hx hq hsz hB
  refine wpList_want hw fun K hK => ?_
  unfold Oper.wp
  rw [hr]
  exact hK _ _ (h v' w' h1 h2 h3)
theorem luc_append_rw {w : World} {o : Oper} {ev : Operand → Value} {C : World → Prop} {E : World → World → Prop} {sp : Sp} (s x : Operand) (ho : o.op = .call { callee := .builtin .append, args := #[s, x], argTypes := #[22, 22] })
    (B : Nat) (v : Value) (n : Nat) (l : List Rw) (hs : ev s = v) (hown : w.ownsRow B 36 130 v n (rwsC l))
    (q c : Nat) (y : Rw) (hx : ev x = .slice (some ⟨q, 0, none⟩) 1 c) (hq : ∀ j, j < 130 → w.cell? ⟨q, j, none⟩ = some (rwC y j)) (hsz : n ≤ 1000000) (hB : B ≤ w.heap.size)
    (hf : ∀ v' w', w'.ownsRow B 36 130 v' (n + 1) (rwsC (l ++ [y])) → w.grownBy w' v.ownBlock → (v'.ownBlock = v.ownBlock ∨ v'.ownBlock = some w.heap.size) → C w' ∧ E w w' ∧ sp.holds v' w') : lexUponC Try.prog C E w sp ((execOp ev o).run Try.prog w) := by
  obtain ⟨v', w', hr, h1, h2, h3⟩ := exec_append_rw s x ho B v n l hs hown q c y hx hq hsz hB
  rw [hr]
  exact hf v' w' h1 h2 h3
set_option maxRecDepth 100000 in
theorem build_rw1 (w : World) (p : Rw) : (Instr.buildSlice 22 1 #[(0, .agg (rwV p))]).run Try.prog w = .ok (.slice (some ⟨w.heap.size, 0, none⟩) 1 1) (w.alloc (.cells (rwV p) 36)) := by kernel_rfl
theorem lu_rw1 {w : World} {o : Oper} {ev : Operand → Value} {x : Operand} {p : Rw} {F : Value → World → Prop} (ho : o.op = .buildSlice 22 1 #[(0, x)]) (hx : ev x = .agg (rwV p)) (hf : F (.slice (some ⟨w.heap.size, 0, none⟩) 1 1) (w.alloc (.cells (rwV p) 36))) : lexUpon Try.prog w (.ab F) ((execOp ev o).run Try.prog w) := by
  simp only [execOp, ho, List.map_toArray, List.map_cons, List.map_nil, hx, Sem.run_bind, build_rw1, Result.andThen_ok, Sem.run_pure]
  exact ⟨(Ext.refl w).alloc _, hf⟩
theorem wp_build_rw1 {ops : Array Oper} {Q : Exit → Act → World → Prop} {rest : List Oper} {o : Oper} {a : Act} {w : World} (hw : Region.wanted o (yielded ops a.tmps) = true) (x : Operand) (ho : o.op = .buildSlice 22 1 #[(0, x)])
    (p : Rw) (A : Array Value) (hA : rwV p = A) (hx : a.eval x = .agg A)
    (k : wpList Try.prog ops Q rest (a.put o.dst (.slice (some ⟨w.heap.size, 0, none⟩) 1 1)) (w.alloc (.cells A 36))) : wpList Try.prog ops Q (o :: rest) a w := by
  subst hA
  refine wpList_want hw fun K hK => ?_
  unfold Oper.wp execOp
  simp only [ho, List.map_toArray, List.map_cons, List.map_nil, hx, Sem.run_bind, build_rw1, Result.andThen_ok, Sem.run_pure]
  exact hK _ _ k

end Go.Proofs.Ytldaligeckjhaaa
