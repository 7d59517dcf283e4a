/-
  What entry.Parse keeps. No conditions.
-/
import Derived.Test.YtdhbkjajhbfihaaHdP
import Derived.Test.YtdhbkjajhbfihaaHdBy
namespace Go.Proofs.Ytdhbkjajhbfihaa
open Go.ChangeShapes Go.WideShapes Go.ChangeAt Go.RowKit

theorem arF_out {R : List Int} {i : Nat} (h : R.length ≤ i) : arF R i = 0 := by
  unfold arF
  rw [List.getD_eq_getElem?_getD, List.getElem?_eq_none h]
  rfl

theorem hdC_arr2 (h : Hd) (hz : h.prev = fun _ => 0) (R : List Int) (hR : R.length ≤ 32) : ∀ j, j < 125 → (if 2 ≤ j ∧ j < 2 + R.length then .int .u8 (R.getD (j - 2) 0) else hdC h j) = hdC { h with prev := arF R } j := by
  intro j _
  by_cases hj : 2 ≤ j ∧ j < 34
  · have e1 : hdC { h with prev := arF R } j = .int .u8 (arF R (j - 2)) := by
      unfold hdC
      rw [if_neg (by omega), if_neg (by omega), if_pos (by omega)]
    have e2 : hdC h j = .int .u8 0 := by
      unfold hdC
      rw [if_neg (by omega), if_neg (by omega), if_pos (by omega)]
      rw [hz]
    rw [e1, e2]
    by_cases h1 : 2 ≤ j ∧ j < 2 + R.length
    · rw [if_pos h1]
      rfl
    · rw [if_neg h1, arF_out (by omega)]
  · rw [if_neg (by omega)]
    exact hdC_congr h { h with prev := arF R } j (by omega) (by intro c d; first | rfl | exact ⟨rfl, rfl, rfl⟩ | (exfalso; omega)) (by intro c d; first | rfl | exact ⟨rfl, rfl, rfl⟩ | (exfalso; omega)) (by intro c d; first | rfl | exact ⟨rfl, rfl, rfl⟩ | (exfalso; omega)) (by intro c d; first | rfl | exact ⟨rfl, rfl, rfl⟩ | (exfalso; omega)) (by intro c d; first | rfl | exact ⟨rfl, rfl, rfl⟩ | (exfalso; omega)) (by intro c d; first | rfl | exact ⟨rfl, rfl, rfl⟩ | (exfalso; omega)) (by intro c d; first | rfl | exact ⟨rfl, rfl, rfl⟩ | (exfalso; omega)) (by intro c d; first | rfl | exact ⟨rfl, rfl, rfl⟩ | (exfalso; omega)) (by intro c d; first | rfl | exact ⟨rfl, rfl, rfl⟩ | (exfalso; omega)) (by intro c d; first | rfl | exact ⟨rfl, rfl, rfl⟩ | (exfalso; omega)) (by intro c d; first | rfl | exact ⟨rfl, rfl, rfl⟩ | (exfalso; omega)) (by intro c d; first | rfl | exact ⟨rfl, rfl, rfl⟩ | (exfalso; omega))
theorem hdC_arr6 (h : Hd) (hz : h.item = fun _ => 0) (R : List Int) (hR : R.length ≤ 16) : ∀ j, j < 125 → (if 37 ≤ j ∧ j < 37 + R.length then .int .u8 (R.getD (j - 37) 0) else hdC h j) = hdC { h with item := arF R } j := by
  intro j _
  by_cases hj : 37 ≤ j ∧ j < 53
  · have e1 : hdC { h with item := arF R } j = .int .u8 (arF R (j - 37)) := by
      unfold hdC
      rw [if_neg (by omega), if_neg (by omega), if_neg (by omega), if_neg (by omega), if_neg (by omega), if_neg (by omega), if_pos (by omega)]
    have e2 : hdC h j = .int .u8 0 := by
      unfold hdC
      rw [if_neg (by omega), if_neg (by omega), if_neg (by omega), if_neg (by omega), if_neg (by omega), if_neg (by omega), if_pos (by omega)]
      rw [hz]
    rw [e1, e2]
    by_cases h1 : 37 ≤ j ∧ j < 37 + R.length
    · rw [if_pos h1]
      rfl
    · rw [if_neg h1, arF_out (by omega)]
  · rw [if_neg (by omega)]
    exact hdC_congr h { h with item := arF R } j (by omega) (by intro c d; first | rfl | exact ⟨rfl, rfl, rfl⟩ | (exfalso; omega)) (by intro c d; first | rfl | exact ⟨rfl, rfl, rfl⟩ | (exfalso; omega)) (by intro c d; first | rfl | exact ⟨rfl, rfl, rfl⟩ | (exfalso; omega)) (by intro c d; first | rfl | exact ⟨rfl, rfl, rfl⟩ | (exfalso; omega)) (by intro c d; first | rfl | exact ⟨rfl, rfl, rfl⟩ | (exfalso; omega)) (by intro c d; first | rfl | exact ⟨rfl, rfl, rfl⟩ | (exfalso; omega)) (by intro c d; first | rfl | exact ⟨rfl, rfl, rfl⟩ | (exfalso; omega)) (by intro c d; first | rfl | exact ⟨rfl, rfl, rfl⟩ | (exfalso; omega)) (by intro c d; first | rfl | exact ⟨rfl, rfl, rfl⟩ | (exfalso; omega)) (by intro c d; first | rfl | exact ⟨rfl, rfl, rfl⟩ | (exfalso; omega)) (by intro c d; first | rfl | exact ⟨rfl, rfl, rfl⟩ | (exfalso; omega)) (by intro c d; first | rfl | exact ⟨rfl, rfl, rfl⟩ | (exfalso; omega))
theorem hdC_arr11 (h : Hd) (hz : h.sum = fun _ => 0) (R : List Int) (hR : R.length ≤ 32) : ∀ j, j < 125 → (if 60 ≤ j ∧ j < 60 + R.length then .int .u8 (R.getD (j - 60) 0) else hdC h j) = hdC { h with sum := arF R } j := by
  intro j _
  by_cases hj : 60 ≤ j ∧ j < 92
  · have e1 : hdC { h with sum := arF R } j = .int .u8 (arF R (j - 60)) := by
      unfold hdC
      rw [if_neg (by omega), if_neg (by omega), if_neg (by omega), if_neg (by omega), if_neg (by omega), if_neg (by omega), if_neg (by omega), if_neg (by omega), if_neg (by omega), if_pos (by omega)]
    have e2 : hdC h j = .int .u8 0 := by
      unfold hdC
      rw [if_neg (by omega), if_neg (by omega), if_neg (by omega), if_neg (by omega), if_neg (by omega), if_neg (by omega), if_neg (by omega), if_neg (by omega), if_neg (by omega), if_pos (by omega)]
      rw [hz]
    rw [e1, e2]
    by_cases h1 : 60 ≤ j ∧ j < 60 + R.length
    · rw [if_pos h1]
      rfl
    · rw [if_neg h1, arF_out (by omega)]
  · rw [if_neg (by omega)]
    exact hdC_congr h { h with sum := arF R } j (by omega) (by intro c d; first | rfl | exact ⟨rfl, rfl, rfl⟩ | (exfalso; omega)) (by intro c d; first | rfl | exact ⟨rfl, rfl, rfl⟩ | (exfalso; omega)) (by intro c d; first | rfl | exact ⟨rfl, rfl, rfl⟩ | (exfalso; omega)) (by intro c d; first | rfl | exact ⟨rfl, rfl, rfl⟩ | (exfalso; omega)) (by intro c d; first | rfl | exact ⟨rfl, rfl, rfl⟩ | (exfalso; omega)) (by intro c d; first | rfl | exact ⟨rfl, rfl, rfl⟩ | (exfalso; omega)) (by intro c d; first | rfl | exact ⟨rfl, rfl, rfl⟩ | (exfalso; omega)) (by intro c d; first | rfl | exact ⟨rfl, rfl, rfl⟩ | (exfalso; omega)) (by intro c d; first | rfl | exact ⟨rfl, rfl, rfl⟩ | (exfalso; omega)) (by intro c d; first | rfl | exact ⟨rfl, rfl, rfl⟩ | (exfalso; omega)) (by intro c d; first | rfl | exact ⟨rfl, rfl, rfl⟩ | (exfalso; omega)) (by intro c d; first | rfl | exact ⟨rfl, rfl, rfl⟩ | (exfalso; omega))
theorem hdC_arr13 (h : Hd) (hz : h.code = fun _ => 0) (R : List Int) (_ : R.length ≤ 32) : ∀ j, j < 125 → (if 93 ≤ j ∧ j < 93 + R.length then .int .u8 (R.getD (j - 93) 0) else hdC h j) = hdC { h with code := arF R } j := by
  intro j _
  by_cases hj : 93 ≤ j ∧ j < 125
  · have e1 : hdC { h with code := arF R } j = .int .u8 (arF R (j - 93)) := by
      unfold hdC
      rw [if_neg (by omega), if_neg (by omega), if_neg (by omega), if_neg (by omega), if_neg (by omega), if_neg (by omega), if_neg (by omega), if_neg (by omega), if_neg (by omega), if_neg (by omega), if_neg (by omega)]
    have e2 : hdC h j = .int .u8 0 := by
      unfold hdC
      rw [if_neg (by omega), if_neg (by omega), if_neg (by omega), if_neg (by omega), if_neg (by omega), if_neg (by omega), if_neg (by omega), if_neg (by omega), if_neg (by omega), if_neg (by omega), if_neg (by omega)]
      rw [hz]
    rw [e1, e2]
    by_cases h1 : 93 ≤ j ∧ j < 93 + R.length
    · rw [if_pos h1]
      rfl
    · rw [if_neg h1, arF_out (by omega)]
  · rw [if_neg (by omega)]
    exact hdC_congr h { h with code := arF R } j (by omega) (by intro c d; first | rfl | exact ⟨rfl, rfl, rfl⟩ | (exfalso; omega)) (by intro c d; first | rfl | exact ⟨rfl, rfl, rfl⟩ | (exfalso; omega)) (by intro c d; first | rfl | exact ⟨rfl, rfl, rfl⟩ | (exfalso; omega)) (by intro c d; first | rfl | exact ⟨rfl, rfl, rfl⟩ | (exfalso; omega)) (by intro c d; first | rfl | exact ⟨rfl, rfl, rfl⟩ | (exfalso; omega)) (by intro c d; first | rfl | exact ⟨rfl, rfl, rfl⟩ | (exfalso; omega)) (by intro c d; first | rfl | exact ⟨rfl, rfl, rfl⟩ | (exfalso; omega)) (by intro c d; first | rfl | exact ⟨rfl, rfl, rfl⟩ | (exfalso; omega)) (by intro c d; first | rfl | exact ⟨rfl, rfl, rfl⟩ | (exfalso; omega)) (by intro c d; first | rfl | exact ⟨rfl, rfl, rfl⟩ | (exfalso; omega)) (by intro c d; first | rfl | exact ⟨rfl, rfl, rfl⟩ | (exfalso; omega)) (by intro c d; first | rfl | exact ⟨rfl, rfl, rfl⟩ | (exfalso; omega))
theorem InAt.grownO {w w' : World} {g r : Nat} {row : Option Nat} {xs : List Int} {bad : Bool} (hI : InAt w g xs bad) (hB : InBlk w g r) (hG : w.grownBy w' row) (h1 : some g ≠ row) (h2 : some r ≠ row) : InAt w' g xs bad ∧ InBlk w' g r := by
  cases row with
  | some q => exact hI.grown hB hG (fun e => h1 (by rw [e])) (fun e => h2 (by rw [e]))
  | none =>
    refine hI.grown hB (row := w'.heap.size + g + r) ⟨hG.os, hG.tape, hG.output, hG.size, fun k hk _ => hG.block k hk (by simp)⟩ ?_ ?_
    · obtain ⟨a, n, c, hg, _⟩ := hI
      have := (Array.getElem?_eq_some_iff.1 hg).1
      have := hG.size
      omega
    · obtain ⟨a, n, c, hg, _⟩ := hI
      have := (Array.getElem?_eq_some_iff.1 hg).1
      have := hG.size
      omega
section
variable {w wr wa w' : World} {B gI r g0 g : Nat} {h : Hd} {ts : List (Nat → Int)} {xs : List Int} {bad : Bool}
/-- An array of the walk's own is taken. -/
theorem HP.tok (H : HP w B gI r g0 g h ts xs bad wr) (N : HPn w B gI r g0 g) (hE : Ext wr wa) {xs' : List Int} {bad' : Bool} (hI : InAt w' gI xs' bad') (hB : InBlk w' gI r) {q : Nat} (hq : wr.heap.size ≤ q) (hG : Grown2 wa w' gI q) : HP w B gI r g0 g h ts xs' bad' w' := by
  have H2 := H.more hE
  have n1 := N.n1; have n2 := N.n2; have n3 := N.n3
  have hg := H.row.lt
  have hg0 := H.res.lt
  refine ⟨hI, hB, H2.row.of_block (hG.block g H2.row.lt (fun e => n2 e.symm) (by omega)), H2.res.of_block (hG.block g0 H2.res.lt (fun e => n3 e.symm) (by omega)), ?_, hG.ext H2.ext N.lI.1 (Nat.le_trans (Below.size H.ext) hq), Nat.le_trans H2.low hG.size⟩
  rcases H2.own.2 with ⟨h1, h2⟩ | ⟨p, cap, cur, h1, h2, h3, h4⟩
  · exact ⟨H2.own.1, .inl ⟨h1, h2⟩⟩
  · have := N.lI.2
    have h5 := (H.own.lt p (by rw [h1]; rfl)).2
    exact ⟨H2.own.1, .inr ⟨p, cap, cur, h1, h2, hG.keep h3 (by omega) (by omega), h4⟩⟩
/-- A token more. -/
theorem HP.push (H : HP w B gI r g0 g h ts xs bad wr) (N : HPn w B gI r g0 g) {a' : Option Addr} {c' : Nat} {us : List (Nat → Int)} {m : Nat} (ho : w'.ownsRow B 26 16 (.slice a' m c') m (tkC us)) (hG : wr.grownBy w' (Value.slice h.ta h.tn h.tc).ownBlock) :
    w'.cell? ⟨g, 53, none⟩ = some (hdC h 53) ∧ w'.frozen? ⟨g, 53, none⟩ = false ∧ HP w B gI r g0 g { h with ta := a', tn := m, tc := c' } us xs bad (w'.setCell ⟨g, 53, none⟩ (.slice a' m c')) := by
  have hne : ∀ k, k < B → some k ≠ (Value.slice h.ta h.tn h.tc).ownBlock := fun k hk e => by
    have := (H.own.lt k e.symm).1
    omega
  have n1 := N.n1; have n2 := N.n2; have n4 := N.n4
  obtain ⟨i1, b1⟩ := H.inn.grownO H.blk hG (hne gI N.lI.2) (hne r N.lr)
  have hr := H.row.of_block (hG.block g H.row.lt (hne g N.lg.2))
  have hz := H.res.of_block (hG.block g0 H.res.lt (hne g0 N.l0.2))
  have hlow := Nat.le_trans H.low hG.size
  have hE : Ext w w' := Below.grown H.ext hG (Below.size H.ext) (fun k e => by have := (H.own.lt k e).1; have := N.lg; omega)
  have hG2 : w'.grownBy (w'.setCell ⟨g, 53, none⟩ (.slice a' m c')) (some g) := grown_setCell (World.grownBy.refl w' _) rfl _
  obtain ⟨i2, b2⟩ := i1.grown b1 hG2 n2 n4
  refine ⟨hr.cell (by omega), hr.frozen 53, i2, b2, (hr.set 53 _).congr (hdC_setT h a' m c'), hz.setOther (fun e => n1 e.symm) _, ?_, Below.grown hE hG2 (Below.size hE) (fun k e => by have := Option.some.inj e; have := N.lg.1; omega), Nat.le_trans hlow hG2.size⟩
  refine ho.kept hG2 (Or.inr fun e => ?_)
  have := (ho.lt g e).1
  have := N.lg.2
  omega
theorem HP.fin (H : HP w B gI r g0 g h ts xs bad wr) (N : HPn w B gI r g0 g) (hE : Ext wr w') (cs : Array Value) (hb : ∀ t ∈ ts, ∀ j, j < 16 → 0 ≤ t j ∧ t j < 256) (hs : h.tn ≤ 8) : TsAt (w'.setRow g0 cs) h.ta h.tn h.tc ts := by
  refine own_ts1 ((H.more hE).own.kept (grown_setRow w' g0 cs) (Or.inr fun e => ?_)) hb (by omega)
  have := (H.own.lt g0 e).1
  have := N.l0.2
  omega
end

end Go.Proofs.Ytdhbkjajhbfihaa
