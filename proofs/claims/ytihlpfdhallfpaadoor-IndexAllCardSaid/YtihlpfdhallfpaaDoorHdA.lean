/-
  Two arrays of integers: equal or not. No conditions.
  A header by value: 125 cells; its fields, its arrays loaded and sliced. No conditions.
  Arrays compared. No conditions.
  Cells in the middle of a block; a header there. No conditions.
-/
import Derived.Test.YtihlpfdhallfpaaDoorBase
import Derived.Stop.BytesEq
import Derived.Test.YtihlpfdhallfpaaDoorSorted
import Derived.Deep.MidRow
namespace Go.Proofs.YtihlpfdhallfpaaDoor
open Go.ChangeAt Go.ChangeShapes Go.RowKit Go.WideShapes

theorem run_equalIn_arr {P : Program} (w : World) (d : Nat) (t e : TypeId) (n : Nat) (k : IntKind) (ht : P.underlying t = some (.array n e)) (he : P.underlying e = some (.int k)) (hsz : ∀ w, (sizeOf e).run P w = .ok 1 w) (f g : Nat → Int) :
    (Op.equalIn (d + 2) t (.agg (rowArr n fun j => .int k (f j))) (.agg (rowArr n fun j => .int k (g j)))).run P w = .ok (decide (∀ j, j < n → f j = g j)) w := by
  rw [Op.equalIn]
  simp only [Sem.run_bind, run_underlying ht, Result.andThen_ok, hsz, Std.Legacy.Range.forIn_eq_forIn_range', Std.Legacy.Range.size, Nat.sub_zero, Nat.add_sub_cancel, Nat.div_one]
  have hl : ∀ i ∈ List.range' 0 n 1, i < n := fun i hi => by simpa using (List.mem_range'_1.1 hi).2
  have hd : decide (∀ j, j < n → f j = g j) = decide (∀ j, j ∈ List.range' 0 n 1 → f j = g j) := by
    congr 1
    apply propext
    constructor
    · exact fun h j hj => h j (hl j hj)
    · exact fun h j hj => h j (List.mem_range'_1.2 ⟨by omega, by omega⟩)
  rw [hd]
  clear hd
  generalize List.range' 0 n 1 = l at hl ⊢
  induction l with
  | nil => simp
  | cons i l ih =>
    have hi : i < n := hl i (by simp)
    have px : (part e (rowArr n fun j => Value.int k (f j)) (i * 1)).run P w = .ok (.int k (f i)) w := by
      have hg := rowArr_get n (fun j => Value.int k (f j)) i hi
      simp [part, isAgg, run_underlying he, hg]
    have py : (part e (rowArr n fun j => Value.int k (g j)) (i * 1)).run P w = .ok (.int k (g i)) w := by
      have hg := rowArr_get n (fun j => Value.int k (g j)) i hi
      simp [part, isAgg, run_underlying he, hg]
    have pe : (Op.equalIn (d + 1) e (.int k (f i)) (.int k (g i))).run P w = .ok (f i == g i) w := run_equalIn_int w d e k k _ _ he
    simp only [List.forIn_cons, Sem.run_bind, px, py, pe, Result.andThen_ok]
    by_cases h : f i = g i
    · rw [beq_iff_eq.2 h]
      simp only [Bool.not_true, Bool.false_eq_true, if_false, Sem.run_pure, Result.andThen_ok]
      have e1 : decide (∀ j, j ∈ i :: l → f j = g j) = decide (∀ j, j ∈ l → f j = g j) := by
        congr 1
        apply propext
        constructor
        · exact fun h j hj => h j (List.mem_cons_of_mem _ hj)
        · intro h2 j hj
          rcases List.mem_cons.1 hj with rfl | hj
          · exact h
          · exact h2 j hj
      rw [e1]
      exact ih fun j hj => hl j (by simp [hj])
    · rw [beq_eq_false_iff_ne.2 h]
      simp only [Bool.not_false, if_true, Sem.run_pure, Result.andThen_ok]
      have e1 : decide (∀ j, j ∈ i :: l → f j = g j) = false := by
        rw [decide_eq_false_iff_not]
        exact fun h2 => h (h2 i (by simp))
      rw [e1]

theorem run_eql_arr {P : Program} (w : World) (t e : TypeId) (n : Nat) (k : IntKind) (ht : P.underlying t = some (.array n e)) (he : P.underlying e = some (.int k)) (hsz : ∀ w, (sizeOf e).run P w = .ok 1 w) (f g : Nat → Int) :
    (binOp .eql t (.agg (rowArr n fun j => .int k (f j))) (.agg (rowArr n fun j => .int k (g j)))).run P w = .ok (.bool (decide (∀ j, j < n → f j = g j))) w := by
  rw [run_eql_struct, run_equalIn_arr w 9998 t e n k ht he hsz f g]
  rfl

theorem run_neq_arr {P : Program} (w : World) (t e : TypeId) (n : Nat) (k : IntKind) (ht : P.underlying t = some (.array n e)) (he : P.underlying e = some (.int k)) (hsz : ∀ w, (sizeOf e).run P w = .ok 1 w) (f g : Nat → Int) :
    (binOp .neq t (.agg (rowArr n fun j => .int k (f j))) (.agg (rowArr n fun j => .int k (g j)))).run P w = .ok (.bool (!decide (∀ j, j < n → f j = g j))) w := by
  have h := run_equalIn_arr w 9998 t e n k ht he hsz f g
  simp only [binOp]
  simp [Op.equal, Op.maxDepth, h]

structure Hd where
  writer : Int
  seq : Int
  prev : Nat → Int
  epoch : Int
  ctl : Bool
  time : Int
  item : Nat → Int
  ta : Option Addr
  tn : Nat
  tc : Nat
  knows : Nat → Int
  sum : Nat → Int
  size : Int
  code : Nat → Int

/-- A header's cell. -/
def hdC (h : Hd) (i : Nat) : Value :=
  if i < 1 then .int .i64 h.writer else if i < 2 then .int .u64 h.seq else if i < 34 then .int .u8 (h.prev (i - 2)) else if i < 35 then .int .i64 h.epoch else if i < 36 then .bool h.ctl else if i < 37 then .int .u64 h.time
  else if i < 53 then .int .u8 (h.item (i - 37)) else if i < 54 then .slice h.ta h.tn h.tc else if i < 60 then .int .u64 (h.knows (i - 54)) else if i < 92 then .int .u8 (h.sum (i - 60)) else if i < 93 then .int .i64 h.size else .int .u8 (h.code (i - 93))
def hdV (h : Hd) : Array Value := rowArr 125 (hdC h)
theorem hdV_size (h : Hd) : (hdV h).size = 125 := rowArr_size _ _
theorem hdC_one (h : Hd) (i : Nat) : (hdC h i).oneCell' = true := by
  unfold hdC
  repeat (split; rfl)
  rfl
theorem hdV_one (h : Hd) : (hdV h).all (·.oneCell') = true := rowArr_one fun i _ => hdC_one h i

/-- What a header's numbers are. -/
structure HdOk (h : Hd) : Prop where
  writer : -9223372036854775808 ≤ h.writer ∧ h.writer ≤ 9223372036854775807
  seq : 0 ≤ h.seq ∧ h.seq < 18446744073709551616
  prev : ∀ j, j < 32 → 0 ≤ h.prev j ∧ h.prev j < 256
  epoch : -9223372036854775808 ≤ h.epoch ∧ h.epoch ≤ 9223372036854775807
  time : 0 ≤ h.time ∧ h.time < 18446744073709551616
  item : ∀ j, j < 16 → 0 ≤ h.item j ∧ h.item j < 256
  knows : ∀ j, j < 6 → 0 ≤ h.knows j ∧ h.knows j < 18446744073709551616
  sum : ∀ j, j < 32 → 0 ≤ h.sum j ∧ h.sum j < 256
  size : -9223372036854775808 ≤ h.size ∧ h.size ≤ 9223372036854775807
  code : ∀ j, j < 32 → 0 ≤ h.code j ∧ h.code j < 256

theorem row_cell {w : World} {g n : Nat} {f : Nat → Value} {T : TypeId} {fr : Nat × Nat} (h : w.heap[g]? = some (.cells (rowArr n f) T fr)) (i : Nat) (hi : i < n) : w.cell? ⟨g, i, none⟩ = some (f i) := by
  unfold World.cell?
  simp only [h]
  exact rowArr_get n f i hi

section
variable {w : World} {g : Nat} {h : Hd} {T : TypeId} {fr : Nat × Nat} (hb : w.heap[g]? = some (.cells (hdV h) T fr))
include hb
theorem hd_writer : w.cell? ⟨g, 0, none⟩ = some (.int .i64 h.writer) := row_cell hb 0 (by omega)
theorem hd_seq : w.cell? ⟨g, 1, none⟩ = some (.int .u64 h.seq) := row_cell hb 1 (by omega)
theorem hd_epoch : w.cell? ⟨g, 34, none⟩ = some (.int .i64 h.epoch) := row_cell hb 34 (by omega)
theorem hd_ctl : w.cell? ⟨g, 35, none⟩ = some (.bool h.ctl) := row_cell hb 35 (by omega)
theorem hd_time : w.cell? ⟨g, 36, none⟩ = some (.int .u64 h.time) := row_cell hb 36 (by omega)
theorem hd_toks : w.cell? ⟨g, 53, none⟩ = some (.slice h.ta h.tn h.tc) := row_cell hb 53 (by omega)
theorem hd_size : w.cell? ⟨g, 92, none⟩ = some (.int .i64 h.size) := row_cell hb 92 (by omega)
theorem hd_prev (i : Nat) (hi : i < 32) : w.cell? ⟨g, 2 + i, none⟩ = some (.int .u8 (h.prev i)) := by
  rw [row_cell hb (2 + i) (by omega)]
  unfold hdC
  rw [if_neg (by omega), if_neg (by omega), if_pos (by omega), show 2 + i - 2 = i by omega]
theorem hd_item (i : Nat) (hi : i < 16) : w.cell? ⟨g, 37 + i, none⟩ = some (.int .u8 (h.item i)) := by
  rw [row_cell hb (37 + i) (by omega)]
  unfold hdC
  rw [if_neg (by omega), if_neg (by omega), if_neg (by omega), if_neg (by omega), if_neg (by omega), if_neg (by omega), if_pos (by omega), show 37 + i - 37 = i by omega]
theorem hd_knows (i : Nat) (hi : i < 6) : w.cell? ⟨g, 54 + i, none⟩ = some (.int .u64 (h.knows i)) := by
  rw [row_cell hb (54 + i) (by omega)]
  unfold hdC
  rw [if_neg (by omega), if_neg (by omega), if_neg (by omega), if_neg (by omega), if_neg (by omega), if_neg (by omega), if_neg (by omega), if_neg (by omega), if_pos (by omega), show 54 + i - 54 = i by omega]
theorem hd_sum (i : Nat) (hi : i < 32) : w.cell? ⟨g, 60 + i, none⟩ = some (.int .u8 (h.sum i)) := by
  rw [row_cell hb (60 + i) (by omega)]
  unfold hdC
  rw [if_neg (by omega), if_neg (by omega), if_neg (by omega), if_neg (by omega), if_neg (by omega), if_neg (by omega), if_neg (by omega), if_neg (by omega), if_neg (by omega), if_pos (by omega), show 60 + i - 60 = i by omega]
theorem hd_code (i : Nat) (hi : i < 32) : w.cell? ⟨g, 93 + i, none⟩ = some (.int .u8 (h.code i)) := by
  rw [row_cell hb (93 + i) (by omega)]
  unfold hdC
  rw [if_neg (by omega), if_neg (by omega), if_neg (by omega), if_neg (by omega), if_neg (by omega), if_neg (by omega), if_neg (by omega), if_neg (by omega), if_neg (by omega), if_neg (by omega), if_neg (by omega), show 93 + i - 93 = i by omega]
end

/-- Bytes inside a block. -/
theorem bs_cells {w : World} {g off n : Nat} {f : Nat → Int} (hc : ∀ i, i < n → w.cell? ⟨g, off + i, none⟩ = some (.int .u8 (f i))) (hf : ∀ i, i < n → 0 ≤ f i ∧ f i < 256) (hn : n ≤ 1000) : BsAt w (some ⟨g, off, none⟩) n n ((List.range n).map f) := by
  refine ⟨by simp, Nat.le_refl _, by omega, by omega, fun x hx => ?_, fun _ => ⟨g, off, rfl, fun i hi => ?_⟩, by simp⟩
  · obtain ⟨i, hi, rfl⟩ := List.mem_map.1 hx
    exact hf i (List.mem_range.1 hi)
  · rw [hc i hi, List.getD_eq_getElem?_getD, List.getElem?_map, List.getElem?_range hi]
    rfl

/-- An array inside a block, loaded. -/
theorem run_loadSub {P : Program} {w : World} {T E : TypeId} {b off n : Nat} {f : Nat → Value} (hu : P.underlying T = some (.array n E)) (hsz : (sizeOf T).run P w = .ok n w) (hc : ∀ i, i < n → w.cell? ⟨b, off + i, none⟩ = some (f i)) :
    (loadVar T ⟨b, off, none⟩).run P w = .ok (.agg (rowArr n f)) w := by
  have h1 := run_loadCells_list (P := P) w ⟨b, off, none⟩ ((List.range n).map f) (fun j v hv => by
    have hj : j < n := by
      have := (List.getElem?_eq_some_iff.1 hv).1
      simpa using this
    rw [List.getElem?_map, List.getElem?_range hj] at hv
    obtain rfl := Option.some.inj hv
    rw [addr_add]
    exact hc j hj)
  rw [List.length_map, List.length_range] at h1
  have hagg : (isAgg T).run P w = .ok true w := by
    unfold isAgg
    rw [Sem.run_bind, run_underlying hu w]
    rfl
  simp only [loadVar, Sem.run_bind, hagg, hsz, Result.andThen_ok, if_true, h1, Sem.run_pure]
  rfl

theorem wp_sub {P : Program} {ops : Array Oper} {Q : Exit → Act → World → Prop} {rest : List Oper} {o : Oper} {a : Act} {w : World} (hw : Region.wanted o (yielded ops a.tmps) = true) (T : TypeId) (x : Operand) (ho : o.op = .load T x)
    {E : TypeId} (b off n : Nat) (f : Nat → Value) (hx : a.eval x = .pointer (some ⟨b, off, none⟩)) (hu : P.underlying T = some (.array n E)) (hsz : (sizeOf T).run P w = .ok n w) (hc : ∀ i, i < n → w.cell? ⟨b, off + i, none⟩ = some (f i))
    (h : wpList P ops Q rest (a.put o.dst (.agg (rowArr n f))) w) : wpList P ops Q (o :: rest) a w := by
  refine wpList_want hw fun K hK => ?_
  unfold Oper.wp execOp
  simp only [ho, hx, Instr.loadAt, Instr.sureAddr, Sem.run_bind, Sem.run_pure, Result.andThen_ok, run_loadSub hu hsz hc]
  exact hK _ _ h

theorem lu_sub {P : Program} {w : World} {o : Oper} {ev : Operand → Value} {x : Operand} {T E : TypeId} {b off n : Nat} {f : Nat → Value} (ho : o.op = .load T x) (hx : ev x = .pointer (some ⟨b, off, none⟩)) (hu : P.underlying T = some (.array n E)) (hsz : (sizeOf T).run P w = .ok n w)
    (hc : ∀ i, i < n → w.cell? ⟨b, off + i, none⟩ = some (f i)) : lexUpon P w (.ex (.agg (rowArr n f))) ((execOp ev o).run P w) := by
  simp only [execOp, ho, hx, Instr.loadAt, Instr.sureAddr, Sem.run_bind, Sem.run_pure, Result.andThen_ok, run_loadSub hu hsz hc]
  exact ⟨Ext.refl _, rfl⟩

set_option maxRecDepth 100000 in
theorem size_h32 (w : World) : (sizeOf 28).run Tryd.prog w = .ok 32 w := by kernel_rfl
set_option maxRecDepth 100000 in
theorem size_k6 (w : World) : (sizeOf 32).run Tryd.prog w = .ok 6 w := by kernel_rfl
set_option maxRecDepth 100000 in
theorem zero_h32 (w : World) : (zeroValue 28).run Tryd.prog w = .ok (.agg (rowArr 32 fun _ => .int .u8 0)) w := by kernel_rfl
set_option maxRecDepth 100000 in
theorem zero_t16 (w : World) : (zeroValue 30).run Tryd.prog w = .ok (.agg (rowArr 16 fun _ => .int .u8 0)) w := by kernel_rfl
set_option maxRecDepth 100000 in
theorem size_u8 (w : World) : (sizeOf 5).run Tryd.prog w = .ok 1 w := by kernel_rfl

def zeroB (n : Nat) (f : Nat → Int) : Bool := decide (∀ j, j < n → f j = 0)
theorem eql_h32 (w : World) (f : Nat → Int) : (binOp .eql 28 (.agg (rowArr 32 fun j => .int .u8 (f j))) (.agg (rowArr 32 fun _ => .int .u8 0))).run Tryd.prog w = .ok (.bool (zeroB 32 f)) w :=
  run_eql_arr w 28 5 32 .u8 Tryd.underlying28 Tryd.underlying5 size_u8 f (fun _ => 0)
theorem eql_t16 (w : World) (f : Nat → Int) : (binOp .eql 30 (.agg (rowArr 16 fun j => .int .u8 (f j))) (.agg (rowArr 16 fun _ => .int .u8 0))).run Tryd.prog w = .ok (.bool (zeroB 16 f)) w :=
  run_eql_arr w 30 5 16 .u8 Tryd.underlying30 Tryd.underlying5 size_u8 f (fun _ => 0)
set_option maxRecDepth 100000 in
theorem index_k6 (w : World) (f : Nat → Int) (k : Nat) (hk : k < 6) : (Instr.index 32 (.agg (rowArr 6 fun j => .int .u64 (f j))) (.int .i64 (k : Int))).run Tryd.prog w = .ok (.int .u64 (f k)) w :=
  index_row 32 26 6 (fun j => .int .u64 (f j)) k hk Tryd.underlying32 w (by kernel_rfl) (by kernel_rfl)

/-- The first n of two functions are the same. -/
def arrB (n : Nat) (f g : Nat → Int) : Bool := decide (∀ j, j < n → f j = g j)
theorem eql_h (w : World) (f g : Nat → Int) : (binOp .eql 28 (.agg (rowArr 32 fun j => .int .u8 (f j))) (.agg (rowArr 32 fun j => .int .u8 (g j)))).run Tryd.prog w = .ok (.bool (arrB 32 f g)) w :=
  run_eql_arr w 28 5 32 .u8 Tryd.underlying28 Tryd.underlying5 size_u8 f g
theorem neq_h (w : World) (f g : Nat → Int) : (binOp .neq 28 (.agg (rowArr 32 fun j => .int .u8 (f j))) (.agg (rowArr 32 fun j => .int .u8 (g j)))).run Tryd.prog w = .ok (.bool (!arrB 32 f g)) w :=
  run_neq_arr w 28 5 32 .u8 Tryd.underlying28 Tryd.underlying5 size_u8 f g
theorem eql_t (w : World) (f g : Nat → Int) : (binOp .eql 30 (.agg (rowArr 16 fun j => .int .u8 (f j))) (.agg (rowArr 16 fun j => .int .u8 (g j)))).run Tryd.prog w = .ok (.bool (arrB 16 f g)) w :=
  run_eql_arr w 30 5 16 .u8 Tryd.underlying30 Tryd.underlying5 size_u8 f g
theorem neq_t (w : World) (f g : Nat → Int) : (binOp .neq 30 (.agg (rowArr 16 fun j => .int .u8 (f j))) (.agg (rowArr 16 fun j => .int .u8 (g j)))).run Tryd.prog w = .ok (.bool (!arrB 16 f g)) w :=
  run_neq_arr w 30 5 16 .u8 Tryd.underlying30 Tryd.underlying5 size_u8 f g
set_option maxRecDepth 100000 in
theorem size_u64 (w : World) : (sizeOf 26).run Tryd.prog w = .ok 1 w := by kernel_rfl
theorem eql_k (w : World) (f g : Nat → Int) : (binOp .eql 32 (.agg (rowArr 6 fun j => .int .u64 (f j))) (.agg (rowArr 6 fun j => .int .u64 (g j)))).run Tryd.prog w = .ok (.bool (arrB 6 f g)) w :=
  run_eql_arr w 32 26 6 .u64 Tryd.underlying32 Tryd.underlying26 size_u64 f g

/-- A header and its tokens. -/
abbrev HT := Hd × List (Nat → Int)
def hdN : Hd := ⟨0, 0, fun _ => 0, 0, false, 0, fun _ => 0, none, 0, 0, fun _ => 0, fun _ => 0, 0, fun _ => 0⟩
def htN : HT := (hdN, [])
theorem hdN_ok : HdOk hdN := ⟨by decide, by decide, fun _ _ => ⟨Int.le_refl 0, by show (0 : Int) < 256; omega⟩, by decide, by decide, fun _ _ => ⟨Int.le_refl 0, by show (0 : Int) < 256; omega⟩, fun _ _ => ⟨Int.le_refl 0, by show (0 : Int) < 18446744073709551616; omega⟩, fun _ _ => ⟨Int.le_refl 0, by show (0 : Int) < 256; omega⟩, by decide, fun _ _ => ⟨Int.le_refl 0, by show (0 : Int) < 256; omega⟩⟩
/-- A header that may stand in memory, with its tokens. -/
structure HtAt (w : World) (x : HT) : Prop where
  ok : HdOk x.1
  toks : TsAt w x.1.ta x.1.tn x.1.tc x.2
theorem HtAt.ext {w w' : World} {x : HT} (h : HtAt w x) (he : Ext w w') : HtAt w' x := ⟨h.ok, h.toks.ext he⟩
theorem htN_at (w : World) : HtAt w htN := ⟨hdN_ok, ⟨rfl, Nat.le_refl _, by show (0 : Nat) ≤ _; omega, by show (0 : Nat) ≤ _; omega, fun t ht => by simp [htN] at ht, fun h => by have h0 : (0 : Nat) < 0 := h; omega, fun _ => rfl⟩⟩

def hdL (h : Hd) : List Value := (List.range 125).map (hdC h)
theorem hdL_length (h : Hd) : (hdL h).length = 125 := by simp [hdL]
theorem hdL_get (h : Hd) (j : Nat) (hj : j < 125) : (hdL h)[j]? = some (hdC h j) := by
  unfold hdL
  rw [List.getElem?_map, List.getElem?_range hj]
  rfl

/-- Cells stored one behind the other. -/
theorem rowIs_setCells {t : TypeId} {b n : Nat} : ∀ (vs : List Value) (o : Nat) (w : World) (f : Nat → Value), w.rowIs b t n f → (w.setCells b o vs).rowIs b t n (fun j => if o ≤ j ∧ j < o + vs.length then vs.getD (j - o) undef else f j)
  | [], o, _, f, h => h.congr fun j _ => by rw [if_neg (by simp)]
  | v :: r, o, _, f, h => (rowIs_setCells r (o + 1) _ _ (h.set o v)).congr fun j _ => by
    rw [List.length_cons]
    by_cases h1 : j = o
    · subst h1
      rw [if_neg (by omega), if_pos rfl, if_pos (by omega), Nat.sub_self]
      rfl
    · by_cases h2 : o + 1 ≤ j ∧ j < o + 1 + r.length
      · rw [if_pos h2, if_pos (by omega), show j - o = (j - (o + 1)) + 1 by omega]
        rfl
      · rw [if_neg h2, if_neg h1, if_neg (by omega)]
theorem grown_setCells {a : World} {g : Nat} : ∀ (vs : List Value) (o : Nat) (w : World), a.grownBy w (some g) → a.grownBy (w.setCells g o vs) (some g)
  | [], _, _, h => h
  | v :: r, o, _, h => grown_setCells r (o + 1) _ (grown_setCell h rfl v)


/-- A header loaded out of the middle of a block. -/
theorem range_hd {w : World} {b off : Nat} {h : Hd} (hc : ∀ j, j < 125 → w.cell? ⟨b, off + j, none⟩ = some (hdC h j)) : w.rangeAt b off (hdL h) := fun j v hv => by
  have hj : j < 125 := by
    have := (List.getElem?_eq_some_iff.1 hv).1
    rwa [hdL_length] at this
  rw [hdL_get h j hj] at hv
  rw [← Option.some.inj hv]
  exact hc j hj
theorem hdL_arr (h : Hd) : (hdL h).toArray = hdV h := rfl


theorem info_hd125 : (Tryd.prog.info? 34).map (·.size) = some 125 := by kernel_rfl
theorem lu_hmid {w : World} {o : Oper} {ev : Operand → Value} {x : Operand} {b off : Nat} {h : Hd} (ho : o.op = .load 34 x) (hx : ev x = .pointer (some ⟨b, off, none⟩)) (hr : w.rangeAt b off (hdL h)) :
    lexUpon Tryd.prog w (.ex (.agg (hdV h))) ((execOp ev o).run Tryd.prog w) := by
  simp only [execOp, ho, hx, Instr.loadAt, Instr.sureAddr, Sem.run_bind, Sem.run_pure, Result.andThen_ok, run_loadVar_mid w b off 34 (hdL h) _ hr Tryd.underlying34 rfl (by rw [hdL_length]; exact info_hd125)]
  exact ⟨Ext.refl _, rfl⟩

end Go.Proofs.YtihlpfdhallfpaaDoor
