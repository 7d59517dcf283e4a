/-
  Slices of tokens: an element's place, an element loaded. No conditions.
-/
import Derived.Test.YthdgnahokmjkpaaDoorTok
namespace Go.Proofs.YthdgnahokmjkpaaDoor
open Go.ChangeShapes Go.WideShapes Go.ChangeAt Go.RowKit

/-- A slice of the tokens 'ts'. -/
structure TsAt (w : World) (a : Option Addr) (n c : Nat) (ts : List (Nat → Int)) : Prop where
  len : ts.length = n
  cap : n ≤ c
  lim : c ≤ 9223372036854775807
  small : n ≤ 140737488355328
  byte : ∀ t ∈ ts, ∀ j, j < 16 → 0 ≤ t j ∧ t j < 256
  at_ : 0 < n → ∃ b off, a = some ⟨b, off, none⟩ ∧ ∀ i, i < n → ∀ j, j < 16 → w.cell? ⟨b, off + i * 16 + j, none⟩ = some (.int .u8 ((ts.getD i fun _ => 0) j))
  nil_ : a = none → c = 0

theorem TsAt.ext {w w' : World} {a : Option Addr} {n c : Nat} {ts : List (Nat → Int)} (h : TsAt w a n c ts) (he : Ext w w') : TsAt w' a n c ts := by
  refine ⟨h.len, h.cap, h.lim, h.small, h.byte, fun hn => ?_, h.nil_⟩
  obtain ⟨b, off, ha, hc⟩ := h.at_ hn
  refine ⟨b, off, ha, fun i hi j hj => ?_⟩
  have h1 := hc i hi j hj
  rw [Ext.cell he (World.block_lt_of_cell? w _ h1)]
  exact h1

theorem TsAt.tok {w : World} {a : Option Addr} {n c : Nat} {ts : List (Nat → Int)} (h : TsAt w a n c ts) (i : Nat) (hi : i < n) : ∀ j, j < 16 → 0 ≤ (ts.getD i fun _ => 0) j ∧ (ts.getD i fun _ => 0) j < 256 := by
  have hl : i < ts.length := by rw [h.len]; exact hi
  rw [List.getD_eq_getElem?_getD, List.getElem?_eq_getElem hl]
  exact h.byte _ (List.getElem_mem hl)

theorem add_none (b off k : Nat) : (⟨b, off, none⟩ : Addr).add k = ⟨b, off + k, none⟩ := by
  unfold Addr.add
  split <;> simp_all

set_option maxRecDepth 100000 in
theorem size_tok (w : World) : (sizeOf 31).run Tryd.prog w = .ok 16 w := by kernel_rfl

/-- A token's place in a slice. -/
theorem lu_idx {w : World} {o : Oper} {ev : Operand → Value} {x y : Operand} {b off n c k : Nat} (ho : o.op = .indexAddr 32 x y) (hx : ev x = .slice (some ⟨b, off, none⟩) n c) (hy : ev y = .int .i64 (k : Int)) (hk : k < n) :
    lexUpon Tryd.prog w (.ex (.pointer (some ⟨b, off + k * 16, none⟩))) ((execOp ev o).run Tryd.prog w) := by
  have hr : (Instr.indexAt 32 (.slice (some ⟨b, off, none⟩) n c) (.int .i64 (k : Int))).run Tryd.prog w = .ok (.pointer (some ⟨b, off + k * 16, none⟩)) w := by
    have hb : (0 : Int) ≤ (k : Int) ∧ (k : Int) < (n : Int) := by omega
    simp only [Instr.indexAt, asIntOf, Sem.run_bind, Sem.run_pure, Result.andThen_ok, run_underlying Tryd.underlying32, hb, and_self, if_true, size_tok, Int.toNat_natCast, add_none]
  simp only [execOp, ho, hx, hy, Sem.run_bind, hr, Result.andThen_ok, Sem.run_pure]
  exact ⟨Ext.refl _, rfl⟩

/-- A token loaded. -/
theorem lu_tok {w : World} {o : Oper} {ev : Operand → Value} {x : Operand} {b off : Nat} {t : Nat → Int} (ho : o.op = .load 31 x) (hx : ev x = .pointer (some ⟨b, off, none⟩)) (hc : ∀ j, j < 16 → w.cell? ⟨b, off + j, none⟩ = some (.int .u8 (t j))) :
    lexUpon Tryd.prog w (.ex (.agg (rowArr 16 fun j => .int .u8 (t j)))) ((execOp ev o).run Tryd.prog w) := by
  have h1 := run_loadCells_list (P := Tryd.prog) w ⟨b, off, none⟩ ((List.range 16).map fun j => Value.int .u8 (t j)) (fun j v hv => by
    have hj : j < 16 := by
      have := (List.getElem?_eq_some_iff.1 hv).1
      simpa using this
    rw [List.getElem?_map, List.getElem?_range hj] at hv
    obtain rfl := Option.some.inj hv
    rw [add_none]
    exact hc j hj)
  rw [List.length_map, List.length_range] at h1
  have hagg : (isAgg 31).run Tryd.prog w = .ok true w := by
    unfold isAgg
    rw [Sem.run_bind, run_underlying Tryd.underlying31 w]
    rfl
  have hv : (loadVar 31 ⟨b, off, none⟩).run Tryd.prog w = .ok (.agg (rowArr 16 fun j => .int .u8 (t j))) w := by
    simp only [loadVar, Sem.run_bind, hagg, size_tok, Result.andThen_ok, if_true, h1, Sem.run_pure]
    rfl
  simp only [execOp, ho, hx, Instr.loadAt, Instr.sureAddr, Sem.run_bind, Sem.run_pure, Result.andThen_ok, hv]
  exact ⟨Ext.refl _, rfl⟩

/-- In strictly rising order. -/
def risesB : List (Nat → Int) → Bool
  | a :: b :: l => if 0 ≤ cmpTok a b then false else risesB (b :: l)
  | _ => true

theorem rises_step (ts : List (Nat → Int)) (k : Nat) (h : k + 1 < ts.length) : risesB (ts.drop k) = if 0 ≤ cmpTok (ts.getD k fun _ => 0) (ts.getD (k + 1) fun _ => 0) then false else risesB (ts.drop (k + 1)) := by
  rw [List.drop_eq_getElem_cons (by omega : k < ts.length), List.drop_eq_getElem_cons h]
  simp [risesB, List.getD_eq_getElem?_getD, List.getElem?_eq_getElem h, List.getElem?_eq_getElem (by omega : k < ts.length)]

theorem rises_end (ts : List (Nat → Int)) (k : Nat) (h : ts.length ≤ k + 1) : risesB (ts.drop k) = true := by
  by_cases hk : k < ts.length
  · rw [List.drop_eq_getElem_cons hk, List.drop_eq_nil_of_le h]
    rfl
  · rw [List.drop_eq_nil_of_le (by omega)]
    rfl

end Go.Proofs.YthdgnahokmjkpaaDoor
