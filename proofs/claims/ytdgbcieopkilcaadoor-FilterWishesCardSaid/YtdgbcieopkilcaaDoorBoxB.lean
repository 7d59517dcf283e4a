/-
  A new box, in either mode, and how it answers names. Asked: the table of 64 words lies as the text lays it.
-/
import Derived.Test.YtdgbcieopkilcaaDoorBlindI
import Derived.Test.YtdgbcieopkilcaaDoorKeys
namespace Go.Proofs.YtdgbcieopkilcaaDoor
open Go.ChangeShapes Go.WideShapes Go.ChangeAt Go.RowKit

/-- A box as box.New leaves it. -/
structure BoxIs (b : Bool) (S p : Nat) (w : World) : Prop where
  new : S ≤ p
  mode : w.cell? ⟨p, 0, none⟩ = some (.bool b)
  maps : b = true → ∃ (h : Nat → Int) (m1 m2 m3 : Nat), (∀ j, j < 32 → 0 ≤ h j ∧ h j < 256) ∧ w.heap[p]? = some (.cells (rowArr 37 (boxJ h 0 m1 m2 m3)) 61 (0, 0)) ∧ w.heap[m3]? = some (.map #[] 0) ∧ S ≤ m3 ∧ m3 < p
theorem BoxIs.ext {b : Bool} {S p : Nat} {w w' : World} (h : BoxIs b S p w) (he : Ext w w') : BoxIs b S p w' :=
  ⟨h.new, (he.cell (World.block_lt_of_cell? _ _ h.mode)).trans h.mode, fun e => by
    obtain ⟨f, m1, m2, m3, h1, h2, h3, h4, h5⟩ := h.maps e
    exact ⟨f, m1, m2, m3, h1, he.keep h2, he.keep h3, h4, h5⟩⟩
theorem BoxIs.le {b : Bool} {S S' p : Nat} {w : World} (h : BoxIs b S p w) (hs : S' ≤ S) : BoxIs b S' p w :=
  ⟨Nat.le_trans hs h.new, h.mode, fun e => by
    obtain ⟨f, m1, m2, m3, h1, h2, h3, h4, h5⟩ := h.maps e
    exact ⟨f, m1, m2, m3, h1, h2, h3, Nat.le_trans hs h4, h5⟩⟩
/-- Another row is written. -/
theorem BoxIs.row {b : Bool} {S p s n : Nat} {w : World} {T : TypeId} {fr : Nat × Nat} {f : Nat → Int} (h : BoxIs b S p w) (hs : w.heap[s]? = some (.cells (rowArr (n + 1) fun j => .int .u8 (f j)) T fr)) (cs : Array Value) : p ≠ s ∧ BoxIs b S p (w.setRow s cs) := by
  have hne : p ≠ s := by
    rintro rfl
    have h1 := row_cell hs 0 (Nat.succ_pos n)
    have h2 := h.mode
    rw [h1] at h2
    cases h2
  refine ⟨hne, h.new, (cell_same (setRow_other w s p cs hne)).trans h.mode, fun e => ?_⟩
  obtain ⟨g, m1, m2, m3, h1, h2, h3, h4, h5⟩ := h.maps e
  have hm : m3 ≠ s := by
    rintro rfl
    rw [hs] at h3
    cases h3
  exact ⟨g, m1, m2, m3, h1, (setRow_other w s p cs hne).trans h2, (setRow_other w s m3 cs hm).trans h3, h4, h5⟩

theorem boxNew_both (b : Bool) (f : Nat → Int) (hf : ∀ j, j < 32 → 0 ≤ f j ∧ f j < 256) (w : World) (hk : KsAt 2 w) :
    Calls Tryd.prog 8 #[.bool b, .agg (rowArr 32 fun j => .int .u8 (f j))] w fun e w' => ∃ p, e = .returned (.pointer (some ⟨p, 0, none⟩)) ∧ BoxIs b w.heap.size p w' ∧ Ext w w' := by
  cases b with
  | false =>
    refine (boxNew_new f hf w hk).mono ?_
    rintro e w' ⟨g, h1, h2, h3, h4⟩
    exact ⟨g, h1, ⟨h4, h2, fun e => by cases e⟩, h3⟩
  | true =>
    refine (boxNewI_any f hf w hk).mono ?_
    rintro e w' ⟨g, m1, m2, m3, h1, h2, h3, h4, h5, h6, h7, h8, h9⟩
    exact ⟨g, h1, ⟨by omega, (box_cell h2).1, fun _ => ⟨_, m1, m2, m3, fun j _ => dvF_byte _ _ j, h2, h4, by omega, h8⟩⟩, h9⟩
/-- It answers names by any key. -/
theorem BoxIs.blinder {b : Bool} {S p : Nat} {w : World} (h : BoxIs b S p w) (hk : KsAt 2 w) (hr : 2 < S) (f : Nat → Int) (hf : ∀ j, j < 32 → 0 ≤ f j ∧ f j < 256) :
    ∃ gm, S ≤ gm ∧ ∃ (bl : Blinder p gm w.heap.size f) (s : bl.St), bl.At s w ∧ (b = false → ∀ s xs t, bl.tok s xs = some t → t = macF (l32 f) xs) ∧ (∀ s cs T fr, w.heap[s]? = some (.cells cs T fr) → p ≠ s → gm ≠ s) := by
  have hp : p < w.heap.size := World.block_lt_of_cell? _ _ h.mode
  have hS := h.new
  cases b with
  | false => exact ⟨p, h.new, realBl p w.heap.size f hf hp (by omega), (), ⟨h.mode, hk, Nat.le_refl _⟩, fun _ s xs t ht => (Option.some.inj ht).symm, fun _ _ _ _ _ h => h⟩
  | true =>
    obtain ⟨g, m1, m2, m3, h1, h2, h3, h4, h5⟩ := h.maps rfl
    exact ⟨m3, h4, idealBl p m1 m2 m3 w.heap.size g f h1 hp (by omega) (by omega) (by omega) (by omega) (by omega), [], ⟨⟨0, by omega, h2⟩, ⟨⟨#[], 0, h3, rfl⟩, fun e he => (by cases he)⟩, hk, Nat.le_refl _⟩, fun e => (by cases e), fun s cs T fr hs _ => (by
      rintro rfl
      rw [h3] at hs
      cases hs)⟩

/-- A string made bytes, in a region that draws its order. -/
theorem lu_conv {w : World} {o : Oper} {ev : Operand → Value} {x : Operand} (ho : o.op = .convert 9 40 x) (s : ByteArray) (hx : ev x = .string s) (hsz : s.size ≤ 140737488351232) :
    lexUpon Tryd.prog w (.ab fun u w' => ∃ q c, u = .slice q s.size c ∧ BsAt w' q s.size c (strB s)) ((execOp ev o).run Tryd.prog w) := by
  have hrun := Lib.run_convert_string_bytes (P := Tryd.prog) w 9 40 5 s Tryd.underlying9 Tryd.underlying40 Tryd.underlying5
  simp only [execOp, ho, hx, Sem.run_bind, hrun, Result.andThen_ok, Sem.run_pure]
  refine ⟨⟨rfl, rfl, rfl, by rw [Lib.bytesWorld_size]; omega, fun k hk => Lib.bytesWorld_at_old w _ s k hk⟩, _, _, rfl, ?_⟩
  have hc1 := grownCap_ge w s.size 0 5
  have hc2 := grownCap_le_maxLen w s.size 0 5 (by unfold maxLen; omega)
  refine ⟨strB_length s, hc1, by unfold maxLen at hc2; omega, by omega, strB_byte s, fun _ => ⟨w.heap.size, 0, rfl, fun i hi => ?_⟩, fun h => by cases h⟩
  rw [Nat.zero_add, Lib.bytesWorld_cell w 5 s i hi]
  have hi' : i < s.data.toList.length := by simpa using hi
  unfold strB
  rw [List.getD_eq_getElem?_getD, List.getD_eq_getElem?_getD, List.getElem?_map, List.getElem?_eq_getElem hi']
  rfl

end Go.Proofs.YtdgbcieopkilcaaDoor
