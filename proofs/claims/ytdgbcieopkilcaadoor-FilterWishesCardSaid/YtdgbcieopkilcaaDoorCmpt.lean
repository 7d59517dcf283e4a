/-
  The walk of slices.Compact at rows of tokens of a call's own. No conditions but the length.
-/
import Derived.Test.YtdgbcieopkilcaaDoorTkO
import Derived.Test.YtdgbcieopkilcaaDoorMeet
import Derived.Deep.MidRow
import Derived.Lib.SliceRun
namespace Go.Proofs.YtdgbcieopkilcaaDoor
open Go.ChangeShapes Go.WideShapes Go.ChangeAt Go.RowKit

theorem neq_tok (w : World) (f g : Nat → Int) : (binOp .neq 35 (.agg (rowArr 16 fun j => .int .u8 (f j))) (.agg (rowArr 16 fun j => .int .u8 (g j)))).run Tryd.prog w = .ok (.bool (!eqTok f g)) w :=
  run_neq_arr w 35 5 16 .u8 Tryd.underlying35 Tryd.underlying5 size_byte11 f g
def tkAt (ts : List (Nat → Int)) (i : Nat) : Nat → Int := ts.getD i fun _ => 0
/-- What is kept of the first k. -/
def cptN (ts : List (Nat → Int)) : Nat → List (Nat → Int)
  | 0 => []
  | k + 1 => if k = 0 then [tkAt ts 0] else if eqTok (tkAt ts k) (tkAt ts (k - 1)) = true then cptN ts k else cptN ts k ++ [tkAt ts k]
def cpt (ts : List (Nat → Int)) : List (Nat → Int) := cptN ts ts.length
theorem cptN_le (ts : List (Nat → Int)) : ∀ k, (cptN ts k).length ≤ k
  | 0 => Nat.le_refl _
  | k + 1 => by
    have := cptN_le ts k
    unfold cptN
    split
    · simp
    · split
      · omega
      · simp; omega
theorem cptN_same {ts : List (Nat → Int)} {k : Nat} (hk : 1 ≤ k) (h : eqTok (tkAt ts k) (tkAt ts (k - 1)) = true) : cptN ts (k + 1) = cptN ts k := by
  show (if k = 0 then _ else _) = _
  rw [if_neg (by omega), if_pos h]
theorem cptN_new {ts : List (Nat → Int)} {k : Nat} (hk : 1 ≤ k) (h : eqTok (tkAt ts k) (tkAt ts (k - 1)) = false) : cptN ts (k + 1) = cptN ts k ++ [tkAt ts k] := by
  show (if k = 0 then _ else _) = _
  rw [if_neg (by omega), h, if_neg (by simp)]
theorem take_tk {ts : List (Nat → Int)} {k : Nat} (h : k < ts.length) : ts.take (k + 1) = ts.take k ++ [tkAt ts k] := by
  unfold tkAt
  rw [List.take_add_one, List.getElem?_eq_getElem h, List.getD_eq_getElem?_getD, List.getElem?_eq_getElem h]
  rfl

/-- A row of a call's own as a block. -/
theorem own_blkT {w : World} {B g n cap : Nat} {ts : List (Nat → Int)} (h : w.ownsRow B 35 16 (.slice (some ⟨g, 0, none⟩) n cap) n (tkC ts)) : ∃ f, w.rowIs g 35 (cap * 16) f ∧ (∀ i j, i < n → j < 16 → f (i * 16 + j) = .int .u8 (tkAt ts i j)) ∧ B ≤ g ∧ n ≤ cap ∧ cap ≤ maxLen := by
  have hl : ts.length = n := by
    have := h.1
    rw [tkC_length] at this
    omega
  rcases h.2 with ⟨e, _⟩ | ⟨g', cap', cur, e, k1, k2, k3, k4, k5, k6⟩
  · cases e
  · simp only [Value.slice.injEq, Option.some.injEq, Addr.mk.injEq, and_true, true_and] at e
    obtain ⟨rfl, rfl⟩ := e
    refine ⟨fun j => cur.getD j undef, rowIs_of (k2.trans ?_), fun i j hi hj => ?_, k1, k3, k4⟩
    · congr 2
      apply Array.ext
      · rw [rowArr_size, k5]
      · intro j h1 h2
        rw [rowArr_size] at h2
        have h3 := rowArr_get (cap * 16) (fun j => cur.getD j undef) j h2
        rw [Array.getElem?_eq_getElem (by rw [rowArr_size]; exact h2)] at h3
        rw [Option.some.inj h3]
        simp [Array.getD, h1]
    · have h7 := tkC_get ts i j (by omega) hj
      rw [← k6, List.getElem?_take_of_lt (by omega), Array.getElem?_toList] at h7
      show cur.getD (i * 16 + j) undef = _
      unfold Array.getD
      have h8 := (Array.getElem?_eq_some_iff.1 h7)
      obtain ⟨h9, h10⟩ := h8
      rw [dif_pos h9]
      exact h10
theorem blk_ownT {w : World} {B g m cap : Nat} {f : Nat → Value} {ts : List (Nat → Int)} (hr : w.rowIs g 35 (cap * 16) f) (hB : B ≤ g) (hm : m ≤ cap) (hc : cap ≤ maxLen) (hl : ts.length = m) (hf : ∀ i j, i < m → j < 16 → f (i * 16 + j) = .int .u8 (tkAt ts i j)) : w.ownsRow B 35 16 (.slice (some ⟨g, 0, none⟩) m cap) m (tkC ts) := by
  refine ⟨by rw [tkC_length, hl], .inr ⟨g, cap, _, rfl, hB, rowIs_cells hr, hm, hc, rowArr_size _ _, ?_⟩⟩
  apply List.ext_getElem?
  intro j
  by_cases hj : j < m * 16
  · have h1 := tkC_get ts (j / 16) (j % 16) (by omega) (by omega)
    rw [show j / 16 * 16 + j % 16 = j by omega] at h1
    rw [List.getElem?_take_of_lt hj, Array.getElem?_toList, rowArr_get _ _ _ (by omega), h1]
    have h2 := hf (j / 16) (j % 16) (by omega) (by omega)
    rw [show j / 16 * 16 + j % 16 = j by omega] at h2
    rw [h2]
    rfl
  · rw [List.getElem?_take_eq_none (by omega), List.getElem?_eq_none (by rw [tkC_length]; omega)]
theorem rowIs_setCellsT {t : TypeId} {b n : Nat} : ∀ (vs : List Value) (o : Nat) (w : World) (f : Nat → Value), w.rowIs b t n f → (w.setCells b o vs).rowIs b t n (fun j => if o ≤ j ∧ j < o + vs.length then vs.getD (j - o) undef else f j)
  | [], o, _, f, h => h.congr fun j _ => by rw [if_neg (by simp)]
  | v :: r, o, _, f, h => (rowIs_setCellsT r (o + 1) _ _ (h.set o v)).congr fun j _ => by
    rw [List.length_cons]
    by_cases h1 : j = o
    · subst h1
      rw [if_neg (by omega), if_pos rfl, if_pos (by omega), Nat.sub_self]
      rfl
    · rw [if_neg h1]
      by_cases h2 : o + 1 ≤ j ∧ j < o + 1 + r.length
      · rw [if_pos h2, if_pos (by omega), show j - o = (j - (o + 1)) + 1 by omega]
        rfl
      · rw [if_neg h2, if_neg (by omega)]
theorem grown_setCellsT {a : World} {g : Nat} : ∀ (vs : List Value) (o : Nat) (w : World), a.grownBy w (some g) → a.grownBy (w.setCells g o vs) (some g)
  | [], _, _, h => h
  | v :: r, o, _, h => grown_setCellsT r (o + 1) _ (grown_setCell h rfl v)

set_option maxRecDepth 100000 in
theorem tk_sz (w : World) : (sizeOf (Tryd.prog.elem 32)).run Tryd.prog w = .ok 16 w := by kernel_rfl
set_option maxRecDepth 100000 in
theorem wp_tk_from {ops : Array Oper} {Q : Exit → Act → World → Prop} {rest : List Oper} {o : Oper} {a : Act} {w : World} (hw : Region.wanted o (yielded ops a.tmps) = true) (x y : Operand) (ho : o.op = .slice 32 x (some y) none none)
    (b n c k : Nat) (hx : a.eval x = .slice (some ⟨b, 0, none⟩) n c) (hy : a.eval y = .int .i64 (k : Int)) (hk : k < n) (hc : n ≤ c) (K : wpList Tryd.prog ops Q rest (a.put o.dst (.slice (some ⟨b, 0 + k * 16, none⟩) (n - k) (c - k))) w) : wpList Tryd.prog ops Q (o :: rest) a w := by
  have hs := run_slice_l (P := Tryd.prog) (w := w) 32 (some ⟨b, 0, none⟩) n c Tryd.underlying32 .i64 (k : Int) (by omega) (by omega)
  have hr : (Instr.sliceAt 32 (.slice (some ⟨b, 0, none⟩) n c) (some (.int .i64 (k : Int))) none none).run Tryd.prog w = .ok (.slice (some ⟨b, 0 + k * 16, none⟩) (n - k) (c - k)) w := by
    rw [run_sliceAt_slice w _ _ _ _ _ Tryd.underlying32, hs, tk_sz]
    simp only [Result.andThen_ok]
    unfold sliced
    rw [show ((k : Int)).toNat = k by omega, if_neg (show ¬ c = k by omega)]
    simp only [Option.map_some, addr_add]
  refine wpList_want hw fun K2 hK => ?_
  unfold Oper.wp execOp
  simp only [ho, hx, hy, Option.map_some, Option.map_none, Sem.run_bind, hr, Result.andThen_ok, Sem.run_pure]
  exact hK _ _ K
set_option maxRecDepth 100000 in
theorem wp_tk_to {ops : Array Oper} {Q : Exit → Act → World → Prop} {rest : List Oper} {o : Oper} {a : Act} {w : World} (hw : Region.wanted o (yielded ops a.tmps) = true) (x y : Operand) (ho : o.op = .slice 32 x none (some y) none)
    (b n c k : Nat) (hx : a.eval x = .slice (some ⟨b, 0, none⟩) n c) (hy : a.eval y = .int .i64 (k : Int)) (hk : k ≤ c) (K : wpList Tryd.prog ops Q rest (a.put o.dst (.slice (some ⟨b, 0, none⟩) k c)) w) : wpList Tryd.prog ops Q (o :: rest) a w := by
  have hs := run_slice_h (P := Tryd.prog) (w := w) 32 (some ⟨b, 0, none⟩) n c Tryd.underlying32 .i64 (k : Int) (by omega) (by omega)
  have hr : (Instr.sliceAt 32 (.slice (some ⟨b, 0, none⟩) n c) none (some (.int .i64 (k : Int))) none).run Tryd.prog w = .ok (.slice (some ⟨b, 0, none⟩) k c) w := by
    rw [run_sliceAt_slice w _ _ _ _ _ Tryd.underlying32, hs, tk_sz]
    simp only [Result.andThen_ok]
    unfold sliced
    rw [show ((k : Int)).toNat = k by omega, Nat.zero_mul, Nat.sub_zero, Nat.sub_zero]
    have e : (if c = 0 then (some ⟨b, 0, none⟩ : Option Addr) else (some ⟨b, 0, none⟩ : Option Addr).map fun x => x.add 0) = some ⟨b, 0, none⟩ := by
      split
      · rfl
      · simp [addr_add]
    rw [e]
  refine wpList_want hw fun K2 hK => ?_
  unfold Oper.wp execOp
  simp only [ho, hx, hy, Option.map_some, Option.map_none, Sem.run_bind, hr, Result.andThen_ok, Sem.run_pure]
  exact hK _ _ K
set_option maxRecDepth 100000 in
theorem tk_zero (w : World) : (zeroValue 35).run Tryd.prog w = .ok (.agg (rowArr 16 fun _ => .int .u8 0)) w := by kernel_rfl
/-- Tokens cleared. -/
theorem run_clear_tk (w : World) (ty : TypeId) (b o n c : Nat) (hn : 0 < n) (hc : ∀ j, j < n * 16 → (w.cell? ⟨b, o + j, none⟩).isSome = true) (hf : ∀ j, j < n * 16 → w.frozen? ⟨b, o + j, none⟩ = false) :
    (Builtin.clear_ #[32] ty #[.slice (some ⟨b, o, none⟩) n c]).run Tryd.prog w = .ok (.tuple #[]) (w.setCells b o (List.replicate (n * 16) (.int .u8 0))) := by
  have hzc : (Builtin.zeroCells (Value.agg (rowArr 16 fun _ => .int .u8 0)).cells n).toList = List.replicate (n * 16) (.int .u8 0) := by
    have e : (Value.agg (rowArr 16 fun _ => Value.int .u8 0)).cells = rowArr 16 fun _ => .int .u8 0 := rfl
    rw [e]
    apply List.ext_getElem
    · simp [Builtin.zeroCells, rowArr_size]
    · intro i h1 h2
      simp [Builtin.zeroCells, rowArr, List.getElem?_range (show i % 16 < 16 by omega)]
  have hst := run_storeCells_cells (P := Tryd.prog) b o (List.replicate (n * 16) (.int .u8 0)) 0 w (by simpa using hc) (by simpa using hf) (by intro v hv'; rw [List.eq_of_mem_replicate hv']; rfl)
  simp only [Nat.add_zero] at hst
  have hz := tk_zero w
  obtain ⟨Z, hZ⟩ : ∃ Z, (Value.agg (rowArr 16 fun _ => Value.int .u8 0)) = Z := ⟨_, rfl⟩
  rw [hZ] at hz hzc
  obtain ⟨m, rfl⟩ : ∃ m, n = m + 1 := ⟨n - 1, by omega⟩
  simp [Builtin.clear_, run_underlying Tryd.underlying32, hz, hzc, hst]
theorem wp_clear_tk {ops : Array Oper} {Q : Exit → Act → World → Prop} {rest : List Oper} {o : Oper} {a : Act} {w : World} (hw : Region.wanted o (yielded ops a.tmps) = true) (x : Operand) (ho : o.op = .call { callee := .builtin .clear, args := #[x], argTypes := #[32] })
    (b off n c : Nat) (hx : a.eval x = .slice (some ⟨b, off, none⟩) n c) (hn : 0 < n) (hc : ∀ j, j < n * 16 → (w.cell? ⟨b, off + j, none⟩).isSome = true) (hf : ∀ j, j < n * 16 → w.frozen? ⟨b, off + j, none⟩ = false)
    (K : wpList Tryd.prog ops Q rest (a.put o.dst (.tuple #[])) (w.setCells b off (List.replicate (n * 16) (.int .u8 0)))) : wpList Tryd.prog ops Q (o :: rest) a w := by
  refine wpList_want hw fun K2 hK => ?_
  unfold Oper.wp execOp
  simp only [ho, resolve, invoke, builtin, Sem.run_bind, Sem.run_pure, Result.andThen_ok, List.map_toArray, List.map_cons, List.map_nil, hx, run_clear_tk w o.type b off n c hn hc hf]
  exact hK _ _ K

/-- Behind the first that comes twice: what the row holds. -/
structure Cps (w y : World) (g cap n : Nat) (ts : List (Nat → Int)) (j kk : Nat) (F : Nat → Nat → Int) : Prop where
  row : ∃ f, y.rowIs g 35 (cap * 16) f ∧ ∀ i q, i < n → q < 16 → f (i * 16 + q) = .int .u8 (F i q)
  grown : w.grownBy y (some g)
  len : (cptN ts j).length = kk
  lt : kk + 1 ≤ j
  head : ∀ i, i < kk → F i = tkAt (cptN ts j) i
  tail : ∀ i, j ≤ i + 1 → i < n → F i = tkAt ts i

/-- What slices.Compact answers. -/
def CptSays (w : World) (B g cap : Nat) (ts : List (Nat → Int)) (e : Ending) (w' : World) : Prop :=
  e = .returned (.slice (some ⟨g, 0, none⟩) (cpt ts).length cap) ∧ w'.ownsRow B 35 16 (.slice (some ⟨g, 0, none⟩) (cpt ts).length cap) (cpt ts).length (tkC (cpt ts)) ∧ w.grownBy w' (some g)
theorem cpt_all {w w' : World} {B g n cap : Nat} {ts : List (Nat → Int)} (hc : cpt ts = ts) (hl : ts.length = n) (_ho : w.ownsRow B 35 16 (.slice (some ⟨g, 0, none⟩) n cap) n (tkC ts)) (hg : w.grownBy w' (some g)) (ho : w'.ownsRow B 35 16 (.slice (some ⟨g, 0, none⟩) n cap) n (tkC ts)) : CptSays w B g cap ts (.returned (.slice (some ⟨g, 0, none⟩) n cap)) w' := by
  subst hl
  unfold CptSays
  rw [hc]
  exact ⟨rfl, ho, hg⟩
theorem cps_head0 {a : List (Nat → Int)} {x : Nat → Int} {F : Nat → Nat → Int} {kk : Nat} (hl : a.length = kk) (h : ∀ i, i < kk → F i = tkAt a i) : ∀ i, i < kk + 1 → (if i = kk then x else F i) = tkAt (a ++ [x]) i := by
  intro i hi
  unfold tkAt
  rw [List.getD_eq_getElem?_getD]
  by_cases h1 : i = kk
  · rw [if_pos h1, List.getElem?_append_right (by omega), show i - a.length = 0 by omega]
    rfl
  · rw [if_neg h1, h i (by omega), List.getElem?_append_left (by omega)]
    unfold tkAt
    rw [List.getD_eq_getElem?_getD]
/-- The next is the one before it again. -/
theorem Cps.skip {w y z : World} {g cap n : Nat} {ts : List (Nat → Int)} {j kk : Nat} {F : Nat → Nat → Int} (h : Cps w y g cap n ts j kk F) (hE : Ext y z) (hj : 1 ≤ j) (he : eqTok (tkAt ts j) (tkAt ts (j - 1)) = true) : Cps w z g cap n ts (j + 1) kk F := by
  obtain ⟨f, hr, hf⟩ := h.row
  exact ⟨⟨f, hr.of_block (hE.block hr.lt), hf⟩, h.grown.trans (grown_ext hE _), by rw [cptN_same hj he, h.len], by have := h.lt; omega, fun i hi => by rw [cptN_same hj he, h.head i hi], fun i h1 h2 => h.tail i (by omega) h2⟩
theorem Cps.skipE {w y z : World} {g cap n : Nat} {ts : List (Nat → Int)} {j kk : Nat} {F : Nat → Nat → Int} (h : Cps w y g cap n ts j kk F) (hE : Ext y z) : Cps w z g cap n ts j kk F := by
  obtain ⟨f, hr, hf⟩ := h.row
  exact ⟨⟨f, hr.of_block (hE.block hr.lt), hf⟩, h.grown.trans (grown_ext hE _), h.len, h.lt, h.head, h.tail⟩
theorem tk1_range {w : World} {g k q : Nat} {t : Nat → Int} (h : ∀ p, p < 16 → w.cell? ⟨g, 0 + k * 16 + q * 16 + p, none⟩ = some (.int .u8 (t p))) : w.rangeAt g (k * 16 + q * 16) (tk1 t) := by
  intro p v hv
  have hp : p < 16 := by
    have := (List.getElem?_eq_some_iff.1 hv).1
    rwa [tk1_length] at this
  rw [tk1_get t p hp] at hv
  obtain rfl := Option.some.inj hv
  rw [← h p hp, show k * 16 + q * 16 + p = 0 + k * 16 + q * 16 + p by omega]
theorem tk1_size {t : Nat → Int} : (tk1 t).toArray.size = 16 := by simp [tk1]
theorem tk1_one {t : Nat → Int} : ∀ v ∈ tk1 t, v.oneCell' = true := by
  intro v hv
  obtain ⟨j, _, rfl⟩ := List.mem_map.1 hv
  rfl
theorem tk1_there {w : World} {g cap kk : Nat} {f : Nat → Value} {t : Nat → Int} (hr : w.rowIs g 35 (cap * 16) f) (h : kk < cap) : w.there g (kk * 16) (tk1 t).toArray.size := by
  intro p hp
  rw [tk1_size] at hp
  exact ⟨by rw [hr.cell (by omega)]; rfl, hr.frozen _⟩
/-- The next is stored. -/
theorem Cps.keep {w y : World} {g cap n : Nat} {ts : List (Nat → Int)} {j kk : Nat} {F : Nat → Nat → Int} (h : Cps w y g cap n ts j kk F) (hj : 1 ≤ j) (he : eqTok (tkAt ts j) (tkAt ts (j - 1)) = false) : Cps w (y.setCells g (kk * 16) (tk1 (tkAt ts j))) g cap n ts (j + 1) (kk + 1) (fun i => if i = kk then tkAt ts j else F i) := by
  obtain ⟨f, hr, hf⟩ := h.row
  have hlt := h.lt
  refine ⟨⟨_, rowIs_setCellsT _ _ _ _ hr, fun i q hi hq => ?_⟩, grown_setCellsT _ _ _ h.grown, by rw [cptN_new hj he, List.length_append, h.len]; rfl, by omega, ?_, fun i h1 h2 => ?_⟩
  · rw [tk1_length]
    by_cases h1 : i = kk
    · subst h1
      rw [if_pos (by omega), if_pos rfl, show i * 16 + q - i * 16 = q by omega, List.getD_eq_getElem?_getD, tk1_get _ _ hq]
      rfl
    · rw [if_neg (by omega), if_neg h1]
      exact hf i q hi hq
  · rw [cptN_new hj he]
    exact cps_head0 h.len h.head
  · rw [if_neg (by omega)]
    exact h.tail i (by omega) h2
/-- At the end. -/
theorem Cps.fin {w y : World} {B g cap n : Nat} {ts : List (Nat → Int)} {kk : Nat} {F : Nat → Nat → Int} (h : Cps w y g cap n ts n kk F) (hl : ts.length = n) (hB : B ≤ g) (hnc : n ≤ cap) (hcm : cap ≤ maxLen) : CptSays w B g cap ts (.returned (.slice (some ⟨g, 0, none⟩) kk cap)) (y.setCells g (kk * 16) (List.replicate ((n - kk) * 16) (.int .u8 0))) := by
  have hlt := h.lt
  have hk : (cpt ts).length = kk := by
    unfold cpt
    rw [hl]
    exact h.len
  unfold CptSays
  rw [hk]
  obtain ⟨f, hr, hf⟩ := h.row
  refine ⟨rfl, blk_ownT (rowIs_setCellsT _ _ _ _ hr) hB (by omega) hcm hk (fun i q hi hq => ?_), grown_setCellsT _ _ _ h.grown⟩
  rw [if_neg (by omega), hf i q (by omega) hq, h.head i hi]
  unfold cpt
  rw [hl]
set_option maxHeartbeats 8000000 in
set_option maxRecDepth 100000 in
theorem compact_any {w : World} {B g cap n : Nat} {ts : List (Nat → Int)} (hown : w.ownsRow B 35 16 (.slice (some ⟨g, 0, none⟩) n cap) n (tkC ts)) (hs : n ≤ 1000000) :
    Calls Tryd.prog 27 #[.slice (some ⟨g, 0, none⟩) n cap] w (CptSays w B g cap ts) := by
  have hl : ts.length = n := by
    have := hown.1
    rw [tkC_length] at this
    omega
  have HO := Lib.hid hown
  obtain ⟨f0, hr0, hf0, hBg, hnc, hcm⟩ := own_blkT hown
  have Hr0 := Lib.hid hr0
  have Hf0 := Lib.hid hf0
  have HBg := Lib.hid hBg
  have Hcm := Lib.hid hcm
  have Hl := Lib.hid hl
  have hcap : cap ≤ 9223372036854775807 := by unfold maxLen at hcm; omega
  clear hown hr0 hf0 hBg hcm hl
  go_enter Tryd.func27, Tryd.ntmps27
  by_cases h2 : n < 2
  · have x1 : (n : Int) < 2 := by omega
    have hc : cpt ts = ts := by
      unfold cpt
      rw [Hl.out]
      have hl := Hl.out
      rcases (by omega : n = 0 ∨ n = 1) with rfl | rfl
      · rw [List.eq_nil_of_length_eq_zero hl]
        rfl
      · show (if 0 = 0 then [tkAt ts 0] else _) = ts
        rw [if_pos rfl]
        obtain ⟨t, rfl⟩ := List.length_eq_one_iff.1 hl
        rfl
    have Hc := Lib.hid hc
    clear hc
    go_wp2
    go_ret
    exact cpt_all Hc.out Hl.out HO.out (World.grownBy.refl w _) HO.out
  · have x1 : ¬ (n : Int) < 2 := by omega
    go_wp2
    go_loopw [3] (fun i y => ∃ k : Nat, 1 ≤ k ∧ k ≤ n ∧ i = .int .i64 (k : Int) ∧ cptN ts k = ts.take k ∧ Ext w y) (fun i _ => n - (intOf i).toNat)
    case atStart => exact ⟨1, by omega, by omega, rfl, by
      show (if 0 = 0 then [tkAt ts 0] else _) = _
      rw [if_pos rfl, take_tk (by have := Hl.out; omega)]
      rfl, Ext.refl w⟩
    case round =>
      obtain ⟨k, hk1, hk, rfl, hcp, hE⟩ := hrel
      have HE := Lib.hid hE
      have Hcp := Lib.hid hcp
      rename World => y
      clear hE hcp
      by_cases hlt : k < n
      · have x2 : (k : Int) < (n : Int) := by omega
        obtain ⟨m, hm⟩ : ∃ m, k = m + 1 := ⟨k - 1, by omega⟩
        have hry := Hr0.out.of_block (HE.out.block Hr0.out.lt)
        have HC1 := Lib.hid (show ∀ x, Ext y x → ∀ j, j < 16 → x.cell? ⟨g, 0 + k * 16 + j, none⟩ = some (.int .u8 (tkAt ts k j)) from fun x hx j hj => by
          have h1 := hry.cell (i := 0 + k * 16 + j) (by omega)
          rw [Ext.cell hx (World.block_lt_of_cell? _ _ h1), h1, Nat.zero_add, Hf0.out k j hlt hj])
        have HC0 := Lib.hid (show ∀ x, Ext y x → ∀ j, j < 16 → x.cell? ⟨g, 0 + m * 16 + j, none⟩ = some (.int .u8 (tkAt ts m j)) from fun x hx j hj => by
          have h1 := hry.cell (i := 0 + m * 16 + j) (by omega)
          rw [Ext.cell hx (World.block_lt_of_cell? _ _ h1), h1, Nat.zero_add, Hf0.out m j (by omega) hj])
        have HX := Lib.hid (show ∀ x, Ext y.drew x → Ext y x from fun x hx => Ext.trans (Ext.refl y).drew hx)
        have HjN := Lib.hid hlt
        have HkN := Lib.hid (show k ≤ 1000000 ∧ k = m + 1 from ⟨by omega, hm⟩)
        have Hjm := Lib.hid hm
        obtain ⟨BQ, hBQ⟩ : ∃ b, eqTok (tkAt ts k) (tkAt ts m) = b := ⟨_, rfl⟩
        have HBq := Lib.hid hBQ
        obtain ⟨TF, hTF⟩ : ∃ t, tkAt ts k = t := ⟨_, rfl⟩
        obtain ⟨TG, hTG⟩ : ∃ t, tkAt ts m = t := ⟨_, rfl⟩
        rw [hTF] at HC1 HBq
        rw [hTG] at HC0 HBq
        have HTF := Lib.hid hTF
        have HTG := Lib.hid hTG
        clear hry hm hBQ hTF hTG hlt
        go_upto_region 6 with (fail)
        refine wp_region_lexA (by kernel_rfl) (by kernel_rfl) ?_
        refine lx_e (.slice (some ⟨g, 0, none⟩) (n) (cap)) [] (by kernel_rfl) rfl (by rfl) (fun w1 hw1 => ?_) ?_
        · simp only [pk, lexVals]
          clear hw1
          go_simp
          exact ⟨Ext.refl _, by first | rfl | simp⟩
        refine lx_e (.int .i64 (k : Int)) [] (by kernel_rfl) rfl (by rfl) (fun w1 hw1 => ?_) ?_
        · simp only [pk, lexVals]
          clear hw1
          go_simp
          exact ⟨Ext.refl _, by first | rfl | simp⟩
        refine lx_e (.pointer (some ⟨g, 0 + k * 16, none⟩)) [(1, 16), (0, 17)] (by kernel_rfl) rfl (by rfl) (fun w1 hw1 => ?_) ?_
        · simp only [pk, nthSp, lexVals]
          exact lu_idx rfl rfl rfl HjN.out
        refine lx_e (.agg (rowArr 16 fun j => .int .u8 (TF j))) [(0, 18)] (by kernel_rfl) rfl (by rfl) (fun w1 hw1 => ?_) ?_
        · simp only [pk, nthSp, lexVals]
          exact lu_tok rfl rfl (HC1.out w1 (HX.out w1 hw1))
        refine lx_e (.slice (some ⟨g, 0, none⟩) (n) (cap)) [] (by kernel_rfl) rfl (by rfl) (fun w1 hw1 => ?_) ?_
        · simp only [pk, lexVals]
          clear hw1
          go_simp
          exact ⟨Ext.refl _, by first | rfl | simp⟩
        refine lx_e (.int .i64 (k : Int)) [] (by kernel_rfl) rfl (by rfl) (fun w1 hw1 => ?_) ?_
        · simp only [pk, lexVals]
          clear hw1
          go_simp
          exact ⟨Ext.refl _, by first | rfl | simp⟩
        refine lx_e (.int .i64 (m : Int)) [(0, 21)] (by kernel_rfl) rfl (by rfl) (fun w1 hw1 => ?_) ?_
        · simp only [pk, nthSp, lexVals]
          have hi := HkN.out
          clear hw1
          go_simp
          exact ⟨Ext.refl _, by first | rfl | (show Value.int .i64 _ = Value.int .i64 _; congr 1; first | omega | (rw [IntKind.wrap_i64]; omega))⟩
        refine lx_e (.pointer (some ⟨g, 0 + m * 16, none⟩)) [(2, 20), (0, 22)] (by kernel_rfl) rfl (by rfl) (fun w1 hw1 => ?_) ?_
        · simp only [pk, nthSp, lexVals]
          exact lu_idx rfl rfl rfl (by have := HjN.out; have := Hjm.out; omega)
        refine lx_e (.agg (rowArr 16 fun j => .int .u8 (TG j))) [(0, 23)] (by kernel_rfl) rfl (by rfl) (fun w1 hw1 => ?_) ?_
        · simp only [pk, nthSp, lexVals]
          exact lu_tok rfl rfl (HC0.out w1 (HX.out w1 hw1))
        refine lx_e (.bool BQ) [(5, 19), (0, 24)] (by kernel_rfl) rfl (by rfl) (fun w1 hw1 => ?_) ?_
        · simp only [pk, nthSp, lexVals]
          have keq := eql_tok
          have hb := HBq.out
          clear hw1
          go_simp
          exact ⟨Ext.refl _, by first | rfl | (rw [hb]) | (simp [hb])⟩
        refine lx_stopA (by rfl) fun z hz => ?_
        have HEz := Lib.hid (HE.out.trans (HX.out z hz))
        clear hz HX HC0 HC1
        simp only [rv, pf, lexVals]
        simp only [Act.put, List.setIfInBounds_toArray, List.set_cons_zero, List.set_cons_succ]
        have Heq := Lib.hid (show eqTok (tkAt ts k) (tkAt ts (k - 1)) = BQ from by
          rw [show k - 1 = m by have := Hjm.out; omega, HTF.out, HTG.out, HBq.out])
        clear HBq HTF HTG
        cases BQ with
        | false =>
          go_wp2
          go_roundw
          case rel => exact ⟨k + 1, by omega, by have := HjN.out; omega, by go_num, by rw [cptN_new hk1 Heq.out, Hcp.out, take_tk (by have := Hl.out; have := HjN.out; omega)], HEz.out⟩
          case measure => have := HjN.out; simp [intOf]; omega
        | true =>
          have hkn := HjN.out
          go_upto_region 8 with (refine wp_tk_from rfl _ _ rfl g n cap k rfl rfl hkn hnc ?_)
          have HS0 := Lib.hid (show Cps w z g cap n ts (k + 1) k (tkAt ts) from
            ⟨⟨f0, Hr0.out.of_block (HEz.out.block Hr0.out.lt), Hf0.out⟩, grown_ext HEz.out _, by rw [cptN_same hk1 Heq.out, Hcp.out, List.length_take, Hl.out]; omega, by omega, fun i hi => by
              rw [cptN_same hk1 Heq.out, Hcp.out]
              unfold tkAt
              rw [List.getD_eq_getElem?_getD, List.getD_eq_getElem?_getD, List.getElem?_take_of_lt hi], fun i _ _ => rfl⟩)
          clear HkN HjN Hjm HE
          go_wp2
          go_loopw [3, 5] (fun v i y => ∃ (j kk : Nat) (F : Nat → Nat → Int), k + 1 ≤ j ∧ j ≤ n ∧ v = .int .i64 (kk : Int) ∧ i = .int .i64 ((j - k : Nat) : Int) ∧ Cps w y g cap n ts j kk F) (fun _ i _ => n - (intOf i).toNat)
          case atStart => exact ⟨k + 1, k, _, Nat.le_refl _, by omega, rfl, by rw [show k + 1 - k = 1 by omega]; rfl, HS0.out⟩
          case round =>
            obtain ⟨j, kk, F, hj1, hj, rfl, rfl, hS⟩ := hrel
            have HS := Lib.hid hS
            rename World => u
            clear hS
            obtain ⟨f1, hr1, hf1⟩ := HS.out.row
            have Hr1 := Lib.hid hr1
            have Hf1 := Lib.hid hf1
            have Hkk := Lib.hid HS.out.lt
            clear hr1 hf1
            obtain ⟨q, hq⟩ : ∃ q, q = j - k := ⟨_, rfl⟩
            rw [← hq]
            have Hq := Lib.hid hq
            obtain rfl : j = k + q := by omega
            clear hq
            by_cases hlt : k + q < n
            · have x3 : (q : Int) < ((n - k : Nat) : Int) := by omega
              have HC1 := Lib.hid (show ∀ x, Ext u x → ∀ p, p < 16 → x.cell? ⟨g, 0 + k * 16 + q * 16 + p, none⟩ = some (.int .u8 (tkAt ts (k + q) p)) from fun x hx p hp => by
                have h1 := Hr1.out.cell (i := 0 + k * 16 + q * 16 + p) (by omega)
                rw [Ext.cell hx (World.block_lt_of_cell? _ _ h1), h1, show 0 + k * 16 + q * 16 + p = (k + q) * 16 + p by omega, Hf1.out (k + q) p hlt hp, HS.out.tail (k + q) (by omega) hlt])
              have HC0 := Lib.hid (show ∀ x, Ext u x → ∀ p, p < 16 → x.cell? ⟨g, 0 + k * 16 + (q - 1 : Nat) * 16 + p, none⟩ = some (.int .u8 (tkAt ts (k + q - 1) p)) from fun x hx p hp => by
                have h1 := Hr1.out.cell (i := 0 + k * 16 + (q - 1 : Nat) * 16 + p) (by omega)
                rw [Ext.cell hx (World.block_lt_of_cell? _ _ h1), h1, show 0 + k * 16 + (q - 1 : Nat) * 16 + p = (k + q - 1) * 16 + p by omega, Hf1.out (k + q - 1) p (by omega) hp, HS.out.tail (k + q - 1) (by omega) (by omega)])
              have HX := Lib.hid (show ∀ x, Ext u.drew x → Ext u x from fun x hx => Ext.trans (Ext.refl u).drew hx)
              have HjN := Lib.hid (show q < n - k by omega)
              have HkN := Lib.hid (show 1 ≤ q ∧ q ≤ 1000000 from ⟨by omega, by omega⟩)
              have Hjm := Lib.hid (show q - 1 + 1 = q by omega)
              obtain ⟨BQ, hBQ⟩ : ∃ b, eqTok (tkAt ts (k + q)) (tkAt ts (k + q - 1)) = b := ⟨_, rfl⟩
              have HBq := Lib.hid hBQ
              have HBo := Lib.hid hBQ
              obtain ⟨TF, hTF⟩ : ∃ t, tkAt ts (k + q) = t := ⟨_, rfl⟩
              obtain ⟨TG, hTG⟩ : ∃ t, tkAt ts (k + q - 1) = t := ⟨_, rfl⟩
              rw [hTF] at HC1 HBq
              rw [hTG] at HC0 HBq
              have HTF := Lib.hid hTF
              have Hjn := Lib.hid hlt
              have HU := Lib.hid (show ∀ x, Ext u.drew x → ∀ p, p < 16 → x.cell? ⟨g, 0 + k * 16 + q * 16 + p, none⟩ = some (.int .u8 (TF p)) from fun x hx => HC1.out x (HX.out x hx))
              clear hBQ hTF hTG hlt
              go_upto_region 11 with (fail)
              refine wp_region_lexA (by kernel_rfl) (by kernel_rfl) ?_
              refine lx_e (.slice (some ⟨g, 0 + k * 16, none⟩) (n - k) (cap - k)) [] (by kernel_rfl) rfl (by rfl) (fun w1 hw1 => ?_) ?_
              · simp only [pk, lexVals]
                clear hw1
                go_simp
                exact ⟨Ext.refl _, by first | rfl | simp⟩
              refine lx_e (.int .i64 (q : Int)) [] (by kernel_rfl) rfl (by rfl) (fun w1 hw1 => ?_) ?_
              · simp only [pk, lexVals]
                clear hw1
                go_simp
                exact ⟨Ext.refl _, by first | rfl | simp⟩
              refine lx_e (.pointer (some ⟨g, 0 + k * 16 + q * 16, none⟩)) [(1, 35), (0, 36)] (by kernel_rfl) rfl (by rfl) (fun w1 hw1 => ?_) ?_
              · simp only [pk, nthSp, lexVals]
                exact lu_idx rfl rfl rfl HjN.out
              refine lx_e (.agg (rowArr 16 fun j => .int .u8 (TF j))) [(0, 37)] (by kernel_rfl) rfl (by rfl) (fun w1 hw1 => ?_) ?_
              · simp only [pk, nthSp, lexVals]
                exact lu_tok rfl rfl (HC1.out w1 (HX.out w1 hw1))
              refine lx_e (.slice (some ⟨g, 0 + k * 16, none⟩) (n - k) (cap - k)) [] (by kernel_rfl) rfl (by rfl) (fun w1 hw1 => ?_) ?_
              · simp only [pk, lexVals]
                clear hw1
                go_simp
                exact ⟨Ext.refl _, by first | rfl | simp⟩
              refine lx_e (.int .i64 (q : Int)) [] (by kernel_rfl) rfl (by rfl) (fun w1 hw1 => ?_) ?_
              · simp only [pk, lexVals]
                clear hw1
                go_simp
                exact ⟨Ext.refl _, by first | rfl | simp⟩
              refine lx_e (.int .i64 ((q - 1 : Nat) : Int)) [(0, 40)] (by kernel_rfl) rfl (by rfl) (fun w1 hw1 => ?_) ?_
              · simp only [pk, nthSp, lexVals]
                have hi := HkN.out
                clear hw1
                go_simp
                exact ⟨Ext.refl _, by first | rfl | (show Value.int .i64 _ = Value.int .i64 _; congr 1; first | omega | (rw [IntKind.wrap_i64]; omega))⟩
              refine lx_e (.pointer (some ⟨g, 0 + k * 16 + (q - 1 : Nat) * 16, none⟩)) [(2, 39), (0, 41)] (by kernel_rfl) rfl (by rfl) (fun w1 hw1 => ?_) ?_
              · simp only [pk, nthSp, lexVals]
                exact lu_idx rfl rfl rfl (by have := HjN.out; have := Hjm.out; omega)
              refine lx_e (.agg (rowArr 16 fun j => .int .u8 (TG j))) [(0, 42)] (by kernel_rfl) rfl (by rfl) (fun w1 hw1 => ?_) ?_
              · simp only [pk, nthSp, lexVals]
                exact lu_tok rfl rfl (HC0.out w1 (HX.out w1 hw1))
              refine lx_e (.bool (!BQ)) [(5, 38), (0, 43)] (by kernel_rfl) rfl (by rfl) (fun w1 hw1 => ?_) ?_
              · simp only [pk, nthSp, lexVals]
                have keq := neq_tok
                have hb := HBq.out
                clear hw1
                go_simp
                exact ⟨Ext.refl _, by first | rfl | (rw [hb]) | (simp [hb])⟩
              refine lx_stopA (by rfl) fun z hz => ?_
              have HEz := Lib.hid (HX.out z hz)
              have HTz := Lib.hid (HU.out z hz)
              clear hz HX HC0 HC1 HBq HU
              simp only [rv, pf, lexVals]
              simp only [Act.put, List.setIfInBounds_toArray, List.set_cons_zero, List.set_cons_succ]
              cases BQ with
              | true =>
                go_wp2
                go_roundw
                case rel => exact ⟨k + q + 1, kk, F, by omega, by have := Hjn.out; omega, rfl, by go_num, HS.out.skip HEz.out (by omega) HBo.out⟩
                case measure => have := Hjn.out; simp [intOf]; omega
              | false =>
                have Hrz := Lib.hid (Hr1.out.of_block (HEz.out.block Hr1.out.lt))
                have Hrg := Lib.hid (tk1_range HTz.out)
                have Hth := Lib.hid (tk1_there (t := TF) Hrz.out (show kk < cap by have := Hkk.out; have := Hjn.out; omega))
                have x4 : (kk : Int) < (n : Int) := by have := Hkk.out; have := Hjn.out; omega
                have x5 : kk < n := by omega
                clear HTz
                go_upto_region 12 with (fail)
                go_upto_region 13 with (first | (refine wpList_load_mid rfl 35 (.tmp 49) rfl g _ rfl (tk1 TF) _ Hrg.out Tryd.underlying35 rfl (by rw [tk1_length]; kernel_rfl) ?_) | (refine wpList_store_mid rfl 35 (.tmp 51) (.tmp 50) rfl g (kk * 16) (tk1 TF).toArray rfl rfl Hth.out (by rw [tk1_size]; kernel_rfl) (all_oneCell_toArray tk1_one) ?_))
                go_wp2
                go_roundw
                case rel =>
                  have h5 := (HS.out.skipE HEz.out).keep (by have := HkN.out; omega) HBo.out
                  rw [HTF.out] at h5
                  exact ⟨k + q + 1, kk + 1, _, by omega, by have := Hjn.out; omega, by go_num, by go_num, h5⟩
                case measure => have := Hjn.out; simp [intOf]; omega
            · obtain rfl : k + q = n := by omega
              have x3 : ¬ (q : Int) < ((k + q - k : Nat) : Int) := by omega
              go_upto_region 14 with (fail)
              go_wp2_with (first | (refine wp_tk_from rfl _ _ rfl g (k + q) cap kk rfl rfl (by have := Hkk.out; omega) hnc ?_) | (refine wp_clear_tk rfl _ rfl g (0 + kk * 16) (k + q - kk) (cap - kk) rfl (by have := Hkk.out; omega) (fun p hp => by rw [Hr1.out.cell (by have := Hkk.out; omega)]; rfl) (fun p hp => Hr1.out.frozen _) ?_) | (refine wp_tk_to rfl _ _ rfl g (k + q) cap kk rfl rfl (by have := Hkk.out; omega) ?_))
              go_ret
              exact HS.out.fin Hl.out HBg.out hnc Hcm.out
      · obtain rfl : k = n := by omega
        have x2 : ¬ (k : Int) < (k : Int) := by omega
        have Hc := Lib.hid (show cpt ts = ts from by
          unfold cpt
          rw [Hl.out, Hcp.out, List.take_of_length_le (by rw [Hl.out]; exact Nat.le_refl _)])
        go_wp2
        go_ret
        exact cpt_all Hc.out Hl.out HO.out (grown_ext HE.out _) (HO.out.kept (grown_ext HE.out none) (by right; intro e; cases e))

end Go.Proofs.YtdgbcieopkilcaaDoor
