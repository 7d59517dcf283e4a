/-
  Steps of the walk: bytes behind bytes that the call owns. No conditions but lengths.
-/
import Derived.Test.YtppidlpblkihbaaDoorSumB
import Derived.Laws.AppendOwnNone
namespace Go.Proofs.YtppidlpblkihbaaDoor
open Go.ChangeShapes Go.WideShapes Go.ChangeAt Go.RowKit

theorem new_cell (w : World) (v : Value) (t : TypeId) : (w.alloc (.cells #[v] t)).cell? ⟨w.heap.size, 0, none⟩ = some v := cell_one_new w v t 0 v rfl

theorem append_bs {w : World} {ops : Array Oper} {rest : List Oper} {o : Oper} {a : Act} {Q : Exit → Act → World → Prop} (hgd : o.guard = none) (s x : Operand) (ho : o.op = .call { callee := .builtin .append, args := #[s, x], argTypes := #[41, 41] })
    (B : Nat) (v : Value) (n : Nat) (xs : List Int) (hs : a.eval s = v) (hown : w.ownsRow B 5 1 v n (bv xs))
    (src : Option Addr) (m c : Nat) (ys : List Int) (hx : a.eval x = .slice src m c) (hb : BsAt w src m c ys) (hsz : n + m ≤ 140737488355328) (hB : B ≤ w.heap.size)
    (h : ∀ v' w', w'.ownsRow B 5 1 v' (n + m) (bv (xs ++ ys)) → Below B w w' → wpList Tryd.prog ops Q rest (a.put o.dst v') w') : wpList Tryd.prog ops Q (o :: rest) a w := by
  obtain ⟨i0, hi, hz0, hz1, hz2⟩ := info_parts info_u8
  have hl := hb.len
  cases src with
  | none =>
    obtain rfl : c = 0 := hb.nil_ rfl
    have hc := hb.cap
    obtain rfl : m = 0 := by omega
    obtain rfl : ys = [] := List.eq_nil_of_length_eq_zero hl
    refine wpList_append_own_none hgd s x 41 ho B 5 i0 1 Tryd.underlying41 hi v n (bv xs) hs hown hx ?_
    exact h v w (by simpa using hown) (Below.refl _ _)
  | some ad =>
    refine wpList_append_own w hgd s x 41 ho B 5 i0 (.int .u8 0) 1 1 Tryd.underlying41 hi hz0 hz1 hz2 rfl (by decide) v n (bv xs) hs hown ad m c (bv ys) hx (by rw [bv_length, hl, Nat.mul_one]) hb.news (bv_one ys) (by unfold maxLen; omega) (by omega) hB ?_
    intro v' w' hown' hgrow _
    refine h v' w' (by rw [bv_append]; exact hown') ?_
    exact (Below.refl B w).grown hgrow hB (fun k hk => (hown.lt k hk).1)

theorem append_byte {w : World} {ops : Array Oper} {rest : List Oper} {o : Oper} {a : Act} {Q : Exit → Act → World → Prop} (hgd : o.guard = none) (s x : Operand) (ho : o.op = .call { callee := .builtin .append, args := #[s, x], argTypes := #[41, 41] })
    (B : Nat) (v : Value) (n : Nat) (xs : List Int) (hs : a.eval s = v) (hown : w.ownsRow B 5 1 v n (bv xs))
    (g : Nat) (y : Int) (hx : a.eval x = .slice (some ⟨g, 0, none⟩) 1 1) (hc : w.cell? ⟨g, 0, none⟩ = some (.int .u8 y)) (hsz : n + 1 ≤ 140737488355328) (hB : B ≤ w.heap.size)
    (h : ∀ v' w', w'.ownsRow B 5 1 v' (n + 1) (bv (xs ++ [y])) → Below B w w' → wpList Tryd.prog ops Q rest (a.put o.dst v') w') : wpList Tryd.prog ops Q (o :: rest) a w := by
  obtain ⟨i0, hi, hz0, hz1, hz2⟩ := info_parts info_u8
  refine wpList_append_own w hgd s x 41 ho B 5 i0 (.int .u8 0) 1 1 Tryd.underlying41 hi hz0 hz1 hz2 rfl (by decide) v n (bv xs) hs hown ⟨g, 0, none⟩ 1 1 (bv [y]) hx rfl (fun j u hu => ?_) (bv_one [y]) (by unfold maxLen; omega) (by omega) hB ?_
  · obtain ⟨hj, rfl⟩ := bv_get [y] j u hu
    obtain rfl : j = 0 := by simp at hj; omega
    rw [addr_add]
    exact hc
  · intro v' w' hown' hgrow _
    refine h v' w' (by rw [bv_append]; exact hown') ?_
    exact (Below.refl B w).grown hgrow hB (fun k hk => (hown.lt k hk).1)

/-- Bytes that lie at the head of a block. -/
theorem bs_new (w : World) (xs : List Int) (cs : Array Value) (T : TypeId) (fr : Nat × Nat) (hcs : cs = ⟨bv xs⟩) (hb : ∀ x ∈ xs, 0 ≤ x ∧ x < 256) (hs : xs.length ≤ 140737488355328) : BsAt (w.alloc (.cells cs T fr)) (some ⟨w.heap.size, 0, none⟩) xs.length xs.length xs := by
  subst hcs
  refine ⟨rfl, Nat.le_refl _, by omega, hs, hb, fun _ => ⟨w.heap.size, 0, rfl, fun i hi => ?_⟩, fun h => by cases h⟩
  rw [Nat.zero_add, cell_of_row _ w.heap.size i _ _ _ (heap_new w _ _ rfl)]
  unfold bv
  simp [List.getD, List.getElem?_eq_getElem hi]

/-- Parts that lie at the head of a block. -/
theorem ps_one {w : World} {pa : Option Addr} {m pc : Nat} {xs : List Int} (h : BsAt w pa m pc xs) (T : TypeId) : PsAt (w.alloc (.cells #[.slice pa m pc] T)) (some ⟨w.heap.size, 0, none⟩) 1 1 [xs] := by
  refine ⟨rfl, Nat.le_refl _, by omega, fun _ => ⟨w.heap.size, 0, rfl, fun i hi => ⟨pa, m, pc, ?_, ?_⟩⟩⟩
  · obtain rfl : i = 0 := by omega
    rw [cell_of_row _ w.heap.size _ _ _ _ (heap_new w _ _ rfl)]
    rfl
  · obtain rfl : i = 0 := by omega
    exact h.ext ((Ext.refl w).alloc _)

end Go.Proofs.YtppidlpblkihbaaDoor
