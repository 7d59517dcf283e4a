/-
  How a slice of bytes is told of, and what stays of it while memory grows. No conditions.
-/
import Derived.WalkKit
import Derived.Below
import Derived.Lib.Hide
import Derived.Deep.OwnRows
import Derived.Deep.MidRow
import Derived.Deep.WholeRow
import Derived.BigQuiet
import Derived.Deep.QuietTactic
import Derived.Test.YtihlpfdhallfpaaDoorLex
namespace Go.Proofs.YtihlpfdhallfpaaDoor
open Go.RowKit

/-- A slice of the bytes 'xs' (as numbers). -/
structure BsAt (w : World) (a : Option Addr) (n c : Nat) (xs : List Int) : Prop where
  len : xs.length = n
  cap : n ≤ c
  lim : c ≤ 9223372036854775807
  small : n ≤ 140737488355328
  byte : ∀ x ∈ xs, 0 ≤ x ∧ x < 256
  at_ : 0 < n → ∃ b off, a = some ⟨b, off, none⟩ ∧ ∀ i, i < n → w.cell? ⟨b, off + i, none⟩ = some (.int .u8 (xs.getD i 0))
  nil_ : a = none → c = 0

theorem BsAt.ext {w w' : World} {a : Option Addr} {n c : Nat} {xs : List Int} (h : BsAt w a n c xs) (he : Ext w w') : BsAt w' a n c xs := by
  refine ⟨h.len, h.cap, h.lim, h.small, h.byte, fun hn => ?_, h.nil_⟩
  obtain ⟨b, off, ha, hc⟩ := h.at_ hn
  refine ⟨b, off, ha, fun i hi => ?_⟩
  have h1 := hc i hi
  rw [Ext.cell he (World.block_lt_of_cell? w _ h1)]
  exact h1

theorem BsAt.below {w w' : World} {a : Option Addr} {n c : Nat} {xs : List Int} (h : BsAt w a n c xs) {B : Nat} (he : Below B w w') (hb : 0 < n → ∀ b off, a = some ⟨b, off, none⟩ → b < B) : BsAt w' a n c xs := by
  refine ⟨h.len, h.cap, h.lim, h.small, h.byte, fun hn => ?_, h.nil_⟩
  obtain ⟨b, off, ha, hc⟩ := h.at_ hn
  refine ⟨b, off, ha, fun i hi => ?_⟩
  rw [Below.cell he (hb hn b off ha)]
  exact hc i hi

theorem BsAt.sub {w : World} {b off n c : Nat} {xs : List Int} (h : BsAt w (some ⟨b, off, none⟩) n c xs) (i m : Nat) (hi : i + m ≤ n) : BsAt w (some ⟨b, off + i, none⟩) m (c - i) ((xs.drop i).take m) := by
  have hl := h.len
  have hc := h.cap
  have hm := h.lim
  have hsm := h.small
  refine ⟨by simp; omega, by omega, by omega, by omega, fun x hx => h.byte x (List.mem_of_mem_drop (List.mem_of_mem_take hx)), fun hm => ⟨b, off + i, rfl, fun j hj => ?_⟩, fun h => by cases h⟩
  obtain ⟨b', off', ha, hcell⟩ := h.at_ (by omega)
  simp only [Option.some.injEq, Addr.mk.injEq, and_true] at ha
  obtain ⟨rfl, rfl⟩ := ha
  have h1 := hcell (i + j) (by omega)
  rw [Nat.add_assoc, h1]
  congr 2
  rw [List.getD_eq_getElem?_getD, List.getD_eq_getElem?_getD, List.getElem?_take, if_pos hj, List.getElem?_drop]

theorem getD_byte {xs : List Int} (h : ∀ x ∈ xs, 0 ≤ x ∧ x < 256) (i : Nat) : 0 ≤ xs.getD i 0 ∧ xs.getD i 0 < 256 := by
  by_cases hi : i < xs.length
  · have := h xs[i] (List.getElem_mem hi)
    simpa [List.getD, List.getElem?_eq_getElem hi] using this
  · simp [List.getD, List.getElem?_eq_none (by omega : xs.length ≤ i)]

theorem take_snoc {xs : List Int} {k : Nat} (h : k < xs.length) : xs.take (k + 1) = xs.take k ++ [xs.getD k 0] := by
  rw [List.take_succ_eq_append_getElem h, List.getD, List.getElem?_eq_getElem h]
  rfl

theorem snoc_ind {α : Type} {p : List α → Prop} (h0 : p []) (hs : ∀ l x, p l → p (l ++ [x])) : ∀ l, p l := by
  have h : ∀ l : List α, p l.reverse := fun l => by
    induction l with
    | nil => exact h0
    | cons x l ih => rw [List.reverse_cons]; exact hs _ _ ih
  intro l
  have := h l.reverse
  rwa [List.reverse_reverse] at this

theorem ext_cells {w w' : World} (h : Ext w w') : (∀ b o, b < w.heap.size → w'.cell? ⟨b, o, none⟩ = w.cell? ⟨b, o, none⟩) ∧ (∀ b o, b < w.heap.size → w'.frozen? ⟨b, o, none⟩ = w.frozen? ⟨b, o, none⟩) :=
  ⟨fun b o hb => Below.cell (p := ⟨b, o, none⟩) h hb, fun b o hb => Below.frozen (p := ⟨b, o, none⟩) h hb⟩

theorem ret_int {k : IntKind} {a b : Int} (h : a = b) : Ending.returned (.int k a) = .returned (.int k b) := by rw [h]
theorem val_int {k : IntKind} {a b : Int} (h : a = b) : Value.int k a = Value.int k b := by rw [h]

/-- The cells of a row, written as one array. -/
def rowArr (n : Nat) (f : Nat → Value) : Array Value := ((List.range n).map f).toArray

theorem rowArr_size (n : Nat) (f : Nat → Value) : (rowArr n f).size = n := by simp [rowArr]
theorem rowArr_get (n : Nat) (f : Nat → Value) (i : Nat) (h : i < n) : (rowArr n f)[i]? = some (f i) := by
  unfold rowArr
  simp [h]
theorem rowArr_congr (n : Nat) (f g : Nat → Value) (h : ∀ i, i < n → f i = g i) : rowArr n f = rowArr n g := by
  unfold rowArr
  congr 1
  exact List.map_congr_left fun i hi => h i (List.mem_range.1 hi)

theorem rowIs_cells {w : World} {b : Nat} {t : TypeId} {n : Nat} {f : Nat → Value} (h : w.rowIs b t n f) : w.heap[b]? = some (.cells (rowArr n f) t (0, 0)) := by
  obtain ⟨c, hb, hs, hc⟩ := h
  have : c = rowArr n f := by
    apply Array.ext
    · rw [hs, rowArr_size]
    · intro i h1 h2
      have h3 := hc i (by omega)
      have h4 := rowArr_get n f i (by omega)
      rw [Array.getElem?_eq_getElem h1] at h3
      rw [Array.getElem?_eq_getElem h2] at h4
      rw [Option.some.inj h3, Option.some.inj h4]
  rw [hb, this]

theorem rowIs_of {w : World} {b : Nat} {t : TypeId} {n : Nat} {f : Nat → Value} (h : w.heap[b]? = some (.cells (rowArr n f) t (0, 0))) : w.rowIs b t n f :=
  ⟨_, h, rowArr_size n f, fun i hi => rowArr_get n f i hi⟩

theorem rowIs_setRow {w : World} {b : Nat} {t : TypeId} {n : Nat} {f g : Nat → Value} (h : w.rowIs b t n f) : (w.setRow b (rowArr n g)).rowIs b t n g :=
  rowIs_of (setRow_heap w b _ _ t _ (rowIs_cells h))

theorem rowIs_setRowOther {w : World} {b c : Nat} {t : TypeId} {n : Nat} {f : Nat → Value} (h : w.rowIs b t n f) (hne : b ≠ c) (cs : Array Value) : (w.setRow c cs).rowIs b t n f :=
  h.of_block (setRow_other w c b cs hne)

theorem below_setRow {B : Nat} {a w : World} (h : Below B a w) {g : Nat} (hg : B ≤ g) (cs : Array Value) : Below B a (w.setRow g cs) :=
  h.trans ⟨rfl, rfl, rfl, by simp, fun k hk => setRow_other w g k cs (by omega)⟩

theorem below_drewN' {B : Nat} {a w : World} (h : Below B a w) (n : Nat) : Below B a (w.drewN n) := ⟨h.os, h.tape, h.output, h.size, h.block⟩

theorem rowArr_one {n : Nat} {f : Nat → Value} (h : ∀ i, i < n → (f i).oneCell' = true) : (rowArr n f).all (·.oneCell') = true := by
  refine Array.all_eq_true_iff_forall_mem.2 fun v hv => ?_
  unfold rowArr at hv
  obtain ⟨i, hi, rfl⟩ := List.mem_map.1 (by simpa using hv : v ∈ (List.range n).map f)
  exact h i (List.mem_range.1 hi)

theorem quiet_left {P : Program} {f : FuncId} {args : Array Value} {w : World} {n : Nat} {v : Value}
    (h : Calls P f args (w.drewN n) fun e w' => e = .returned v ∧ w.drewN n = w') : Calls P f args (w.drewN n) fun e w'' => e = .returned v ∧ ∃ m, w'' = w.drewN m :=
  h.mono fun _ _ ⟨he, hm⟩ => ⟨he, n, hm.symm⟩
theorem quiet_add_left {P : Program} {f : FuncId} {args : Array Value} {w : World} {a n : Nat} {v : Value}
    (h : Calls P f args (w.drewN (a + n)) fun e w' => e = .returned v ∧ w.drewN (a + n) = w') :
    Calls P f args (w.drewN (a + n)) fun e w'' => e = .returned v ∧ ∃ m, w'' = w.drewN (a + m) :=
  h.mono fun _ _ ⟨he, hm⟩ => ⟨he, n, hm.symm⟩

theorem setRow_new (w : World) (c c' : Array Value) (t : TypeId) (g : Nat) (hg : g = w.heap.size) : (w.alloc (.cells c t)).setRow g c' = w.alloc (.cells c' t) := by
  subst hg
  exact World.setRow_alloc_new w c c' t
theorem heap_new (w : World) (o : Obj) (g : Nat) (hg : g = w.heap.size) : (w.alloc o).heap[g]? = some o := by
  subst hg
  exact heap_alloc_new w o

/-- Eight stores, one behind the other. -/
def set8 (w : World) (b : Nat) (v0 v1 v2 v3 v4 v5 v6 v7 : Value) : World :=
  (((((((w.setCell ⟨b, 0, none⟩ v0).setCell ⟨b, 1, none⟩ v1).setCell ⟨b, 2, none⟩ v2).setCell ⟨b, 3, none⟩ v3).setCell ⟨b, 4, none⟩ v4).setCell ⟨b, 5, none⟩ v5).setCell ⟨b, 6, none⟩ v6).setCell ⟨b, 7, none⟩ v7

theorem rowIs_set8 {w : World} {b : Nat} {t : TypeId} {f g : Nat → Value} (h : w.rowIs b t 8 f) : (set8 w b (g 0) (g 1) (g 2) (g 3) (g 4) (g 5) (g 6) (g 7)).rowIs b t 8 g := by
  unfold set8
  refine ((((((((h.set 0 _).set 1 _).set 2 _).set 3 _).set 4 _).set 5 _).set 6 _).set 7 _).congr fun i hi => ?_
  rcases (by omega : i = 0 ∨ i = 1 ∨ i = 2 ∨ i = 3 ∨ i = 4 ∨ i = 5 ∨ i = 6 ∨ i = 7) with rfl | rfl | rfl | rfl | rfl | rfl | rfl | rfl <;> rfl

theorem rowIs_set8_other {w : World} {b c n : Nat} {t : TypeId} {f : Nat → Value} (h : w.rowIs c t n f) (hne : c ≠ b) (v0 v1 v2 v3 v4 v5 v6 v7 : Value) : (set8 w b v0 v1 v2 v3 v4 v5 v6 v7).rowIs c t n f := by
  unfold set8
  exact (((((((h.setOther hne _).setOther hne _).setOther hne _).setOther hne _).setOther hne _).setOther hne _).setOther hne _).setOther hne _

theorem below_set8 {B : Nat} {a w : World} (h : Below B a w) {b : Nat} (hb : B ≤ b) (v0 v1 v2 v3 v4 v5 v6 v7 : Value) : Below B a (set8 w b v0 v1 v2 v3 v4 v5 v6 v7) := by
  unfold set8
  exact (((((((h.setCell hb _).setCell hb _).setCell hb _).setCell hb _).setCell hb _).setCell hb _).setCell hb _).setCell hb _

theorem grown_ext {a w : World} (h : Ext a w) (row : Option Nat) : a.grownBy w row := ⟨Below.os h, Below.tape h, Below.output h, Below.size h, fun _ hi _ => h.block hi⟩
theorem grown_trans {a b c : World} {row : Option Nat} (h : a.grownBy b row) (k : b.grownBy c row) : a.grownBy c row :=
  ⟨k.os.trans h.os, k.tape.trans h.tape, k.output.trans h.output, Nat.le_trans h.size k.size, fun i hi hne => (k.block i (Nat.lt_of_lt_of_le hi h.size) hne).trans (h.block i hi hne)⟩
theorem grown_below {a b c : World} {row : Option Nat} (h : a.grownBy b row) {B : Nat} (k : Below B b c) (hB : b.heap.size ≤ B) : a.grownBy c row :=
  ⟨k.os.trans h.os, k.tape.trans h.tape, k.output.trans h.output, Nat.le_trans h.size k.size, fun i hi hne => (k.block i (by have := h.size; omega)).trans (h.block i hi hne)⟩
theorem grown_drewN {a w : World} {row : Option Nat} (h : a.grownBy w row) (n : Nat) : a.grownBy (w.drewN n) row := ⟨h.os, h.tape, h.output, h.size, h.block⟩
theorem grown_setCell {a w : World} {g : Nat} (h : a.grownBy w (some g)) {p : Addr} (hp : p.block = g) (u : Value) : a.grownBy (w.setCell p u) (some g) :=
  ⟨h.os, h.tape, h.output, by simpa [World.setCell] using h.size, fun i hi hne => (Below.heap_setCell w p u i (fun e => hne (by rw [e, hp]))).trans (h.block i hi hne)⟩

/-- The world under another name. -/
theorem wp_world {P : Program} {s : Code} {Q : Exit → Act → World → Prop} {a : Act} {w w' : World} (h : w = w') (k : s.wp P Q a w') : s.wp P Q a w := h ▸ k
theorem wpList_world {P : Program} {ops : Array Oper} {Q : Exit → Act → World → Prop} {l : List Oper} {a : Act} {w w' : World} (h : w = w') (k : wpList P ops Q l a w') : wpList P ops Q l a w := h ▸ k

/-- A guarded operation whose guard says yes. -/
theorem wpList_want {P : Program} {ops : Array Oper} {Q : Exit → Act → World → Prop} {rest : List Oper} {o : Oper} {a : Act} {w : World} (hw : Region.wanted o (yielded ops a.tmps) = true)
    (h : ∀ K : Act → World → Prop, (∀ a w, wpList P ops Q rest a w → K a w) → o.wp P a w K Q) : wpList P ops Q (o :: rest) a w :=
  wpList_step fun K hK => by rw [if_pos hw]; exact h K hK

theorem wpList_load_rowW {P : Program} {ops : Array Oper} {Q : Exit → Act → World → Prop} {rest : List Oper} {o : Oper} {a : Act} {w : World} (hw : Region.wanted o (yielded ops a.tmps) = true) (ty : TypeId) (x : Operand) (ho : o.op = .load ty x)
    (g : Nat) (hx : a.eval x = .pointer (some ⟨g, 0, none⟩)) (t : TypeId) (cs : Array Value) (fr : Nat × Nat) (d : TypeDesc) (hg : w.heap[g]? = some (.cells cs t fr))
    (hu : P.underlying ty = some d) (hd : (match d with | .struct _ | .array _ _ => true | _ => false) = true) (hi : (P.info? ty).map (·.size) = some cs.size)
    (h : wpList P ops Q rest (a.put o.dst (.agg cs)) w) : wpList P ops Q (o :: rest) a w :=
  wpList_want hw fun _ hK => wp_load_row ty x ho g hx t cs fr d hg hu hd hi (hK _ _ h)

/-- A block that was there is as it was. -/
theorem Ext.keep {w w' : World} {g : Nat} {o : Obj} (he : Ext w w') (h : w.heap[g]? = some o) : w'.heap[g]? = some o := by
  rw [he.block (Array.getElem?_eq_some_iff.1 h).1]
  exact h

theorem Ext.trans' {a b c : World} (h : Ext a b) (k : Below a.heap.size b c) : Ext a c := Below.trans h k

theorem Ext.drewN' {a b : World} (h : Ext a b) (n : Nat) : Ext a (b.drewN n) := below_drewN' h n

end Go.Proofs.YtihlpfdhallfpaaDoor
