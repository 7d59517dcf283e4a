/-
  What a header's bytes are parsed as: plain; the memory that its walk goes through. No conditions.
-/
import Derived.Test.YtdhbkjajhbfihaaArr
import Derived.Test.YtdhbkjajhbfihaaHdBy
import Derived.Test.YtdhbkjajhbfihaaHdQ
namespace Go.Proofs.Ytdhbkjajhbfihaa
open Go.ChangeShapes Go.WideShapes Go.ChangeAt Go.RowKit

set_option maxRecDepth 100000 in
theorem readInB_any (a : Option Addr) (n c : Nat) (xs : List Int) (w : World) (h : BsAt w a n c xs) :
    Calls Try.prog 21 #[.slice a n c] w fun e w' => ∃ g r, e = .returned (.pointer (some ⟨g, 0, none⟩)) ∧ w.heap.size ≤ g ∧ g < w'.heap.size ∧ w.heap.size ≤ r ∧ r < w'.heap.size ∧ InAt w' g xs false ∧ InBlk w' g r ∧ Ext w w' := by
  have HC := Lib.hid (clone_any a n c xs w h)
  have hby := h.byte
  have hsm := h.small
  have hbi := build_in
  clear h
  go_enter Try.func21, Try.ntmps21
  go_wp2_with fail
  refine HC.out.mono ?_
  rintro e w1 ⟨v, rfl, hown, hE⟩
  obtain ⟨ao, cv, rfl, hc1, hc2⟩ := owns_slice hown
  have hb := owns_bs hown hby (by unfold maxLen at hc2; omega) hsm
  have hlt := hown.lt
  have HB := Lib.hid hb
  have HE := Lib.hid hE
  have HL := Lib.hid hlt
  have HO := Lib.hid hown
  clear hb hE HC hlt hown hc1 hc2
  go_wp2_with fail
  go_ret
  have hE2 : Ext w1 (w1.alloc (.cells #[.slice ao n cv, .bool false] 72)) := (Ext.refl w1).alloc _
  have hg := heap_new w1 (.cells #[.slice ao n cv, .bool false] 72 (0, 0)) _ rfl
  have hlt2 := (Array.getElem?_eq_some_iff.1 hg).1
  have hs := Below.size HE.out
  rcases HO.out.2 with ⟨h1, h2⟩ | ⟨g, cap, cur, h1, h2, h3, _⟩
  · refine ⟨w1.heap.size, w1.heap.size, rfl, hs, hlt2, hs, hlt2, ⟨ao, n, cv, hg, HB.out.ext hE2⟩, ⟨_, _, _, _, _, _, hg, fun _ _ _ h => by omega⟩, HE.out.trans hE2⟩
  · obtain ⟨rfl, _⟩ : ao = some ⟨g, 0, none⟩ ∧ True := by
      simp only [Value.slice.injEq] at h1
      exact ⟨h1.1, trivial⟩
    have hgl := (Array.getElem?_eq_some_iff.1 h3).1
    refine ⟨w1.heap.size, g, rfl, hs, hlt2, h2, by omega, ⟨_, n, cv, hg, HB.out.ext hE2⟩, ⟨_, _, _, _, _, _, hg, fun b off e _ => ?_⟩, HE.out.trans hE2⟩
    simp only [Option.some.injEq, Addr.mk.injEq] at e
    exact e.1.symm

/-- Where the walk's blocks lie. -/
structure HPn (w : World) (B gI r g0 g : Nat) : Prop where
  l0 : w.heap.size ≤ g0 ∧ g0 < B
  lg : w.heap.size ≤ g ∧ g < B
  lI : w.heap.size ≤ gI ∧ gI < B
  lr : r < B
  n1 : g ≠ g0
  n2 : gI ≠ g
  n3 : gI ≠ g0
  n4 : r ≠ g
/-- What the walk keeps. -/
structure HP (w : World) (B gI r g0 g : Nat) (h : Hd) (ts : List (Nat → Int)) (xs : List Int) (bad : Bool) (wr : World) : Prop where
  inn : InAt wr gI xs bad
  blk : InBlk wr gI r
  row : wr.rowIs g 30 125 (hdC h)
  res : wr.rowIs g0 30 125 (hdC hdZ)
  own : wr.ownsRow B 26 16 (.slice h.ta h.tn h.tc) h.tn (tkC ts)
  ext : Ext w wr
  low : B ≤ wr.heap.size

section
variable {w wr w' : World} {B gI r g0 g : Nat} {h : Hd} {ts : List (Nat → Int)} {xs : List Int} {bad : Bool}
/-- An In's step. -/
theorem HP.step (H : HP w B gI r g0 g h ts xs bad wr) (N : HPn w B gI r g0 g) {xs' : List Int} {bad' : Bool} (hI : InAt w' gI xs' bad') (hG : wr.grownBy w' (some gI)) (hS : InSame wr w' gI) : HP w B gI r g0 g h ts xs' bad' w' := by
  have n1 := N.n1; have n2 := N.n2; have n3 := N.n3
  refine ⟨hI, hS r H.blk, H.row.of_block (hG.block g H.row.lt (fun e => n2 (Option.some.inj e).symm)), H.res.of_block (hG.block g0 H.res.lt (fun e => n3 (Option.some.inj e).symm)), H.own.kept hG ?_, Below.grown H.ext hG (Below.size H.ext) (fun k e => by have := Option.some.inj e; have := N.lI.1; omega), Nat.le_trans H.low hG.size⟩
  right
  intro e
  have := (H.own.lt gI e).1
  have := N.lI.2
  omega
/-- A header's cell is stored. -/
theorem HP.set (H : HP w B gI r g0 g h ts xs bad wr) (N : HPn w B gI r g0 g) (i : Nat) (hi : i < 125) (v : Value) (h' : Hd) (hc : ∀ j, j < 125 → (if j = i then v else hdC h j) = hdC h' j) (ht : h'.ta = h.ta ∧ h'.tn = h.tn ∧ h'.tc = h.tc) :
    wr.cell? ⟨g, i, none⟩ = some (hdC h i) ∧ wr.frozen? ⟨g, i, none⟩ = false ∧ HP w B gI r g0 g h' ts xs bad (wr.setCell ⟨g, i, none⟩ v) := by
  have n1 := N.n1; have n2 := N.n2; have n4 := N.n4
  have hG2 : wr.grownBy (wr.setCell ⟨g, i, none⟩ v) (some g) := grown_setCell (World.grownBy.refl wr _) rfl _
  obtain ⟨i1, b1⟩ := H.inn.grown H.blk hG2 n2 n4
  refine ⟨H.row.cell hi, H.row.frozen i, i1, b1, (H.row.set i v).congr hc, H.res.setOther (fun e => n1 e.symm) v, ?_, Below.grown H.ext hG2 (Below.size H.ext) (fun k e => by have := Option.some.inj e; have := N.lg.1; omega), Nat.le_trans H.low hG2.size⟩
  rw [ht.1, ht.2.1, ht.2.2]
  refine H.own.kept hG2 (Or.inr fun e => ?_)
  have := (H.own.lt g e).1
  have := N.lg.2
  omega
/-- An array is taken. -/
theorem HP.arr (H : HP w B gI r g0 g h ts xs bad wr) (N : HPn w B gI r g0 g) {xs' : List Int} {bad' : Bool} (hI : InAt w' gI xs' bad') (hB : InBlk w' gI r) {f : Nat → Value} (hr : w'.rowIs g 30 125 f) (hG : Grown2 wr w' gI g)
    (h' : Hd) (hc : ∀ j, j < 125 → f j = hdC h' j) (ht : h'.ta = h.ta ∧ h'.tn = h.tn ∧ h'.tc = h.tc) : HP w B gI r g0 g h' ts xs' bad' w' := by
  have n1 := N.n1; have n3 := N.n3
  refine ⟨hI, hB, hr.congr hc, H.res.of_block (hG.block g0 H.res.lt (fun e => n3 e.symm) (fun e => n1 e.symm)), ?_, hG.ext H.ext N.lI.1 N.lg.1, Nat.le_trans H.low hG.size⟩
  rw [ht.1, ht.2.1, ht.2.2]
  rcases H.own.2 with ⟨h1, h2⟩ | ⟨q, cap, cur, h1, h2, h3, h4⟩
  · exact ⟨H.own.1, .inl ⟨h1, h2⟩⟩
  · have := N.lg.2
    have := N.lI.2
    exact ⟨H.own.1, .inr ⟨q, cap, cur, h1, h2, hG.keep h3 (by omega) (by omega), h4⟩⟩
/-- Memory grew. -/
theorem HP.more (H : HP w B gI r g0 g h ts xs bad wr) (hE : Ext wr w') : HP w B gI r g0 g h ts xs bad w' := by
  obtain ⟨a, n, c, hg, hb⟩ := H.inn
  refine ⟨⟨a, n, c, hE.keep hg, hb.ext hE⟩, inSame_ext hE r H.blk, H.row.of_block (hE.block H.row.lt), H.res.of_block (hE.block H.res.lt), ?_, H.ext.trans hE, Nat.le_trans H.low (Below.size hE)⟩
  rcases H.own.2 with ⟨h1, h2⟩ | ⟨q, cap, cur, h1, h2, h3, h4⟩
  · exact ⟨H.own.1, .inl ⟨h1, h2⟩⟩
  · exact ⟨H.own.1, .inr ⟨q, cap, cur, h1, h2, hE.keep h3, h4⟩⟩
end

end Go.Proofs.Ytdhbkjajhbfihaa
