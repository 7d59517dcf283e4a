/-
  Rows of tokens, and slices.SortFunc and slices.Compact of them, whether there is one or none; slices of strings.
-/
import Derived.Test.YtdgbcieopkilcaaDoorSrtC
import Derived.Test.YtdgbcieopkilcaaDoorCmpt
import Derived.Test.YtdgbcieopkilcaaDoorBlr
namespace Go.Proofs.YtdgbcieopkilcaaDoor
open Go.ChangeShapes Go.WideShapes Go.ChangeAt Go.RowKit

/-- Strings side by side. -/
structure SrAt (w : World) (a : Option Addr) (n c : Nat) (ss : List ByteArray) : Prop where
  len : ss.length = n
  cap : n ≤ c
  lim : c ≤ 9223372036854775807
  size : ∀ s ∈ ss, s.size ≤ 140737488351232
  at_ : 0 < n → ∃ g off, a = some ⟨g, off, none⟩ ∧ ∀ i, i < n → w.cell? ⟨g, off + i, none⟩ = some (.string (ss.getD i ⟨#[]⟩))
theorem SrAt.get {w : World} {a : Option Addr} {n c : Nat} {ss : List ByteArray} (h : SrAt w a n c ss) {i : Nat} (hi : i < n) : (ss.getD i ⟨#[]⟩) ∈ ss := by
  have hl := h.len
  rw [List.getD_eq_getElem?_getD, List.getElem?_eq_getElem (by omega)]
  exact List.getElem_mem _
theorem SrAt.ext {w w' : World} {a : Option Addr} {n c : Nat} {ss : List ByteArray} (h : SrAt w a n c ss) (he : Ext w w') : SrAt w' a n c ss := by
  refine ⟨h.len, h.cap, h.lim, h.size, fun hn => ?_⟩
  obtain ⟨g, off, ha, hc⟩ := h.at_ hn
  exact ⟨g, off, ha, fun i hi => by rw [Ext.cell he (World.block_lt_of_cell? w _ (hc i hi))]; exact hc i hi⟩
theorem SrAt.kp {w w' : World} {g m : Nat} {a : Option Addr} {n c : Nat} {ss : List ByteArray} (h : SrAt w a n c ss) (k : Kp2 g m w w') (hne : 0 < n → ∀ p : Addr, a = some p → p.block ≠ g ∧ p.block ≠ m) : SrAt w' a n c ss := by
  refine ⟨h.len, h.cap, h.lim, h.size, fun hn => ?_⟩
  obtain ⟨b, off, ha, hc⟩ := h.at_ hn
  refine ⟨b, off, ha, fun i hi => ?_⟩
  have h1 := hc i hi
  have h2 := k.block b (World.block_lt_of_cell? w _ h1) (hne hn _ ha).1 (hne hn _ ha).2
  unfold World.cell? at h1 ⊢
  rw [h2]
  exact h1

set_option maxRecDepth 100000 in
theorem build_tk1 (w : World) (f : Nat → Int) : (Instr.buildSlice 32 1 #[(0, .agg (rowArr 16 fun j => .int .u8 (f j)))]).run Tryd.prog w = .ok (.slice (some ⟨w.heap.size, 0, none⟩) 1 1) (w.alloc (.cells (rowArr 16 fun j => .int .u8 (f j)) 35)) := by
  kernel_rfl
theorem wp_build_tk1 {ops : Array Oper} {Q : Exit → Act → World → Prop} {rest : List Oper} {o : Oper} {a : Act} {w : World} (hw : Region.wanted o (yielded ops a.tmps) = true) (x : Operand) (ho : o.op = .buildSlice 32 1 #[(0, x)])
    (f : Nat → Int) (hx : a.eval x = .agg (rowArr 16 fun j => .int .u8 (f j)))
    (h : wpList Tryd.prog ops Q rest (a.put o.dst (.slice (some ⟨w.heap.size, 0, none⟩) 1 1)) (w.alloc (.cells (rowArr 16 fun j => .int .u8 (f j)) 35))) : wpList Tryd.prog ops Q (o :: rest) a w := by
  refine wpList_want hw fun K hK => ?_
  unfold Oper.wp execOp
  simp only [ho, List.map_toArray, List.map_cons, List.map_nil, hx, Sem.run_bind, build_tk1, Result.andThen_ok, Sem.run_pure]
  exact hK _ _ h
theorem own_sl2 {w : World} {B size n : Nat} {e : TypeId} {v : Value} {xs : List Value} (h : w.ownsRow B e size v n xs) : ∃ a c, v = .slice a n c := by
  rcases h.2 with ⟨rfl, rfl⟩ | ⟨g, cap, cur, rfl, _⟩
  · exact ⟨none, 0, rfl⟩
  · exact ⟨_, cap, rfl⟩

/-- What is sorted. -/
structure Srt (ts us : List Tk) : Prop where
  perm : us.Perm ts
  up : ∀ i j, i < j → j < us.length → ¬ cfT (us.getD j default) (us.getD i default) < 0
theorem sortTok_all {w : World} {B c n : Nat} {a : Option Addr} {ts : List Tk} (hn : ts.length = n) (hown : w.ownsRow B 35 16 (.slice a n c) n (tkL ts)) (hs : n ≤ 1000000) :
    Calls Tryd.prog 25 #[.slice a n c, .func (.func 26) #[] #[]] w fun e w' => e = .returned (.tuple #[]) ∧ ∃ us : List Tk, us.length = n ∧ Srt ts us ∧ w'.ownsRow B 35 16 (.slice a n c) n (tkL us) ∧ Below B w w' := by
  by_cases h0 : n = 0
  · subst h0
    have hcon := AnyF.slices_SortFunc_none Tryd.sortTok a c (.func (.func 26) #[] #[]) w
    change Calls Tryd.prog 25 _ _ _ at hcon
    refine hcon.mono ?_
    rintro e w' ⟨rfl, rfl⟩
    obtain rfl := List.eq_nil_of_length_eq_zero hn
    exact ⟨rfl, [], rfl, ⟨List.Perm.refl _, fun i j _ h => by simp at h⟩, hown, Below.refl _ _⟩
  · obtain ⟨g, rfl⟩ : ∃ g, a = some ⟨g, 0, none⟩ := by
      rcases hown.2 with ⟨e, h⟩ | ⟨g', cap', cur, e, _⟩
      · exact absurd h h0
      · simp only [Value.slice.injEq] at e
        exact ⟨g', e.1⟩
    have hB := (hown.lt g rfl).1
    refine (sortTok_any hn hown hs).mono ?_
    rintro e w' ⟨rfl, us, h1, h2, h3, h4, h5⟩
    subst hn
    exact ⟨rfl, us, h1, ⟨h2, fun i j hij hj => h3 i j hij (by omega)⟩, h4, ⟨h5.os, h5.tape, h5.output, h5.size, fun k hk => h5.block k (by have := (hown.lt g rfl).2; omega) (fun e => by have := Option.some.inj e; omega)⟩⟩

set_option maxHeartbeats 1000000 in
set_option maxRecDepth 100000 in
theorem compact_none (w : World) (a : Option Addr) (c : Nat) : Calls Tryd.prog 27 #[.slice a 0 c] w fun e w' => e = .returned (.slice a 0 c) ∧ w' = w := by
  go_enter Tryd.func27, Tryd.ntmps27
  go_wp2
  go_ret
  exact ⟨rfl, rfl⟩
theorem compact_all {w : World} {B n c : Nat} {a : Option Addr} {ts : List (Nat → Int)} (hn : ts.length = n) (hown : w.ownsRow B 35 16 (.slice a n c) n (tkC ts)) (hs : n ≤ 1000000) :
    Calls Tryd.prog 27 #[.slice a n c] w fun e w' => ∃ m, m = (cpt ts).length ∧ e = .returned (.slice a m c) ∧ w'.ownsRow B 35 16 (.slice a m c) m (tkC (cpt ts)) ∧ Below B w w' := by
  by_cases h0 : n = 0
  · subst h0
    obtain rfl := List.eq_nil_of_length_eq_zero hn
    refine (compact_none w a c).mono ?_
    rintro e w' ⟨rfl, rfl⟩
    exact ⟨0, rfl, rfl, hown, Below.refl _ _⟩
  · obtain ⟨g, rfl⟩ : ∃ g, a = some ⟨g, 0, none⟩ := by
      rcases hown.2 with ⟨e, h⟩ | ⟨g', cap', cur, e, _⟩
      · exact absurd h h0
      · simp only [Value.slice.injEq] at e
        exact ⟨g', e.1⟩
    refine (compact_any hown hs).mono ?_
    rintro e w' ⟨h1, h2, h5⟩
    have hB := (hown.lt g rfl).1
    exact ⟨_, rfl, h1, h2, ⟨h5.os, h5.tape, h5.output, h5.size, fun k hk => h5.block k (by have := (hown.lt g rfl).2; omega) (fun e => by have := Option.some.inj e; omega)⟩⟩

end Go.Proofs.YtdgbcieopkilcaaDoor
