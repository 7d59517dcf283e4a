/-
  What takes parts from bytes (package pack's In): its state; the walks of fail, Over. No conditions.
-/
import Derived.Test.YtppidlpblkihbaaDoorBys
import Derived.Test.YtppidlpblkihbaaDoorNum
import Derived.Deep.Heap
namespace Go.Proofs.YtppidlpblkihbaaDoor
open Go.ChangeShapes Go.WideShapes Go.ChangeAt Go.RowKit

/-- Block g is an In: the bytes that are left, whether it has failed. -/
def InAt (w : World) (g : Nat) (xs : List Int) (bad : Bool) : Prop :=
  ∃ a n c, w.heap[g]? = some (.cells #[.slice a n c, .bool bad] 113 (0, 0)) ∧ BsAt w a n c xs

theorem in_cells {w : World} {g : Nat} {v0 v1 : Value} {T : TypeId} (h : w.heap[g]? = some (.cells #[v0, v1] T (0, 0))) : w.cell? ⟨g, 0, none⟩ = some v0 ∧ w.cell? ⟨g, 1, none⟩ = some v1 ∧ w.frozen? ⟨g, 0, none⟩ = false ∧ w.frozen? ⟨g, 1, none⟩ = false := by
  unfold World.cell? World.frozen?
  simp [h]

theorem in_set0 {w : World} {g : Nat} {v0 v1 : Value} {T : TypeId} (h : w.heap[g]? = some (.cells #[v0, v1] T (0, 0))) (v : Value) : (w.setCell ⟨g, 0, none⟩ v).heap[g]? = some (.cells #[v, v1] T (0, 0)) := by
  simp [World.setCell, Array.getElem?_modify, h]

theorem in_set1 {w : World} {g : Nat} {v0 v1 : Value} {T : TypeId} (h : w.heap[g]? = some (.cells #[v0, v1] T (0, 0))) (v : Value) : (w.setCell ⟨g, 1, none⟩ v).heap[g]? = some (.cells #[v0, v] T (0, 0)) := by
  simp [World.setCell, Array.getElem?_modify, h]

theorem BsAt.beside {w w' : World} {a : Option Addr} {n c : Nat} {xs : List Int} {g : Nat} (h : BsAt w a n c xs) (hg : w.grownBy w' (some g)) (hn : ∀ k x, w.cell? ⟨g, k, none⟩ ≠ some (.int .u8 x)) : BsAt w' a n c xs := by
  refine ⟨h.len, h.cap, h.lim, h.small, h.byte, fun hp => ?_, h.nil_⟩
  obtain ⟨b, off, ha, hc⟩ := h.at_ hp
  refine ⟨b, off, ha, fun i hi => ?_⟩
  have h1 := hc i hi
  exact World.grownBy.cell hg h1 (fun e => hn (off + i) _ (by injection e with e; rw [← e]; exact h1))

theorem in_noBytes {w : World} {g : Nat} {a : Option Addr} {n c : Nat} {bad : Bool} {T : TypeId} (h : w.heap[g]? = some (.cells #[.slice a n c, .bool bad] T (0, 0))) : ∀ k x, w.cell? ⟨g, k, none⟩ ≠ some (.int .u8 x) := by
  intro k x
  unfold World.cell?
  simp only [h]
  rcases k with _ | _ | k <;> simp

theorem InAt.bad {w : World} {g : Nat} {xs : List Int} {bad : Bool} (h : InAt w g xs bad) : InAt (w.setCell ⟨g, 1, none⟩ (.bool true)) g xs true ∧ w.grownBy (w.setCell ⟨g, 1, none⟩ (.bool true)) (some g) := by
  obtain ⟨a, n, c, hg, hb⟩ := h
  have hG : w.grownBy (w.setCell ⟨g, 1, none⟩ (.bool true)) (some g) := grown_setCell (grown_ext (Ext.refl w) _) rfl _
  exact ⟨⟨a, n, c, in_set1 hg _, hb.beside hG (in_noBytes hg)⟩, hG⟩

theorem InAt.cut {w : World} {g : Nat} {a : Option Addr} {n c : Nat} {bad : Bool} (hg : w.heap[g]? = some (.cells #[.slice a n c, .bool bad] 113 (0, 0))) {a' : Option Addr} {n' c' : Nat} {ys : List Int} (hb : BsAt w a' n' c' ys) :
    InAt (w.setCell ⟨g, 0, none⟩ (.slice a' n' c')) g ys bad ∧ w.grownBy (w.setCell ⟨g, 0, none⟩ (.slice a' n' c')) (some g) := by
  have hG : w.grownBy (w.setCell ⟨g, 0, none⟩ (.slice a' n' c')) (some g) := grown_setCell (grown_ext (Ext.refl w) _) rfl _
  exact ⟨⟨a', n', c', in_set0 hg _, hb.beside hG (in_noBytes hg)⟩, hG⟩

theorem fail_any (g : Nat) (xs : List Int) (bad : Bool) (w : World) (h : InAt w g xs bad) :
    Calls Tryd.prog 80 #[.pointer (some ⟨g, 0, none⟩)] w fun e w' => e = .returned (.tuple #[]) ∧ InAt w' g xs true ∧ w.grownBy w' (some g) := by
  have HB := Lib.hid h.bad
  obtain ⟨a, n, c, hg, hb⟩ := h
  obtain ⟨c0, c1, z0, z1⟩ := in_cells hg
  clear hg hb
  go_enter Tryd.func80, Tryd.ntmps80
  go_wp2_with fail
  first | go_end0 | refine bodyPost_ret (results_none rfl _ _ _) rfl ?_
  exact ⟨rfl, HB.out⟩

theorem over_any (g : Nat) (xs : List Int) (bad : Bool) (w : World) (h : InAt w g xs bad) :
    Calls Tryd.prog 52 #[.pointer (some ⟨g, 0, none⟩)] w fun e w' => e = .returned (.bool (!bad && decide (xs.length = 0))) ∧ w' = w := by
  obtain ⟨a, n, c, hg, hb⟩ := h
  obtain ⟨c0, c1, z0, z1⟩ := in_cells hg
  have hl := hb.len
  clear hg hb z0 z1
  subst hl
  cases bad with
  | true =>
    go_enter Tryd.func52, Tryd.ntmps52
    go_wp2_with fail
    go_ret
    exact ⟨rfl, rfl⟩
  | false =>
    have e1 : ((xs.length : Int) == 0) = decide (xs.length = 0) := by by_cases h : xs.length = 0 <;> simp [h]
    have E1 := Lib.hid e1
    clear e1
    go_enter Tryd.func52, Tryd.ntmps52
    go_wp2_with fail
    go_ret
    exact ⟨by rw [← E1.out]; rfl, rfl⟩

end Go.Proofs.YtppidlpblkihbaaDoor
