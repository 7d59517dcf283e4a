/-
  The walk of proof.header. No conditions.
-/
import Derived.Test.YtdhbkjajhbfihaaPrQ
import Derived.Test.YtdhbkjajhbfihaaMidT
import Derived.Test.YtdhbkjajhbfihaaHdPar
namespace Go.Proofs.Ytdhbkjajhbfihaa
open Go.ChangeShapes Go.WideShapes Go.ChangeAt Go.RowKit

theorem inAt_ext {w w' : World} {g : Nat} {xs : List Int} {bad : Bool} (h : InAt w g xs bad) (he : Ext w w') : InAt w' g xs bad := by
  obtain ⟨a, n, c, hg, hb⟩ := h
  exact ⟨a, n, c, he.keep hg, hb.ext he⟩
theorem grown_newRow {a b : World} {row : Option Nat} (h : a.grownBy b row) {g : Nat} (hg : a.heap.size ≤ g) (cs : Array Value) : a.grownBy (b.setRow g cs) row :=
  ⟨h.os, h.tape, h.output, by have := h.size; simp; omega, fun k hk hne => by rw [setRow_other b g k cs (by omega)]; exact h.block k hk hne⟩
theorem grown_ofNew {a b : World} {row : Option Nat} {g : Nat} (h : a.grownBy b (some g)) (hg : a.heap.size ≤ g) : a.grownBy b row :=
  ⟨h.os, h.tape, h.output, h.size, fun k hk _ => h.block k hk (fun e => by have := Option.some.inj e; omega)⟩
theorem hdTk_yes {t : List Int} (h : hdTaken t = true) (a : Option Addr) (c : Nat) : (reT (hdTk t) a c).1 = hdOf t a c := by
  unfold hdTk
  rw [if_pos h]
  rfl
theorem hdTk_no {t : List Int} (h : hdTaken t = false) : hdTk t = htN := by
  unfold hdTk
  rw [h]
  rfl

set_option maxHeartbeats 2000000 in
set_option maxRecDepth 100000 in
theorem prHeader_any (gI r : Nat) (xs : List Int) (bad : Bool) (w : World) (h : InAt w gI xs bad) (hb : InBlk w gI r) (hr : r < w.heap.size) :
    Calls Try.prog 23 #[.pointer (some ⟨gI, 0, none⟩)] w fun e w' => ∃ a c, e = .returned (.agg (hdV (reT (hdTk (textP xs bad 4096).1) a c).1)) ∧ HtAt w' (reT (hdTk (textP xs bad 4096).1) a c) ∧ (∀ k off, a = some ⟨k, off, none⟩ → w.heap.size ≤ k) ∧
      InAt w' gI (textP xs bad 4096).2.1 (textP xs bad 4096).2.2 ∧ InBlk w' gI r ∧ w.grownBy w' (some gI) := by
  obtain ⟨w1, hw1⟩ : ∃ w1, w.alloc (.cells (hdV hdZ) 30) = w1 := ⟨_, rfl⟩
  have hE1 : Ext w w1 := by rw [← hw1]; exact (Ext.refl w).alloc _
  have hB1 : w1.heap[w.heap.size]? = some (.cells (hdV hdZ) 30 (0, 0)) := by rw [← hw1]; exact heap_new w _ _ rfl
  have hgI : gI < w.heap.size := by obtain ⟨_, _, _, hg, _⟩ := h; exact (Array.getElem?_eq_some_iff.1 hg).1
  have hby : ∀ c ∈ (textP xs bad 4096).1, 0 ≤ c ∧ c < 256 := by obtain ⟨_, _, _, _, hx⟩ := h; exact textP_byte1 hx.byte
  have HTx := Lib.hid (text_any gI xs bad 4096 w1 (inAt_ext h hE1) (by decide) (by decide))
  obtain ⟨t, ht⟩ : ∃ t, (textP xs bad 4096).1 = t := ⟨_, rfl⟩
  obtain ⟨rest, hrest⟩ : ∃ t, (textP xs bad 4096).2 = t := ⟨_, rfl⟩
  rw [ht] at hby
  rw [ht, hrest] at HTx ⊢
  have Hby := Lib.hid hby
  have Hblk := Lib.hid (inSame_ext hE1 r hb)
  have Hlt := Lib.hid (And.intro hgI hr)
  have HE1 := Lib.hid hE1
  obtain ⟨g2, hg2⟩ : ∃ g, w.heap.size = g := ⟨_, rfl⟩
  rw [hg2] at hB1
  have HB1 := Lib.hid hB1
  have Hg2 := Lib.hid hg2
  have Hw1 := Lib.hid hw1
  have Hs1 := Lib.hid (show w1.heap.size = g2 + 1 by rw [← hw1, ← hg2]; simp)
  have hz := zero_hd
  clear h hb hr hw1 hE1 hB1 hgI hby ht hrest hg2
  go_enter Try.func23, Try.ntmps23
  go_upto_region 1 with (fail)
  refine wp_world (w' := w1) Hw1.out ?_
  rw [Hg2.out]
  clear Hw1
  go_wp2_with fail
  refine HTx.out.mono ?_
  rintro e w2 ⟨a2, n2, c2, rfl, hb2, hI2, hG2, hS2⟩
  have HPa := Lib.hid (parseHd_anyF a2 n2 c2 t w2 hb2)
  have HI2 := Lib.hid hI2
  have HG2 := Lib.hid hG2
  have HK2 := Lib.hid (hS2 r Hblk.out)
  clear hb2 hI2 hG2 hS2 HTx
  go_wp2_with fail
  refine HPa.out.mono ?_
  rintro e w3 ⟨⟨hv, rfl, hC, hZ⟩, hE3⟩
  have hx : ∃ a c, hv = (reT (hdTk t) a c).1 ∧ HtAt w3 (reT (hdTk t) a c) ∧ ∀ k off, a = some ⟨k, off, none⟩ → w2.heap.size ≤ k := by
    cases hD : hdTaken t with
    | true =>
      obtain ⟨a, c, e1, e2, e3⟩ := hC hD
      refine ⟨a, c, by rw [hdTk_yes hD, e1], ?_, e3⟩
      refine ⟨by rw [hdTk_yes hD]; exact hdOf_ok Hby.out a c, ?_⟩
      have e4 : (reT (hdTk t) a c).2 = tsOf t := by unfold hdTk; rw [if_pos hD]; rfl
      rw [hdTk_yes hD, e4]
      exact e2
    | false =>
      refine ⟨none, 0, by rw [hdTk_no hD]; exact hZ hD, by rw [hdTk_no hD]; exact htN_at w3, fun k off e => by cases e⟩
  obtain ⟨a, c, rfl, hAt, hfar⟩ := hx
  obtain ⟨ec, hec⟩ : ∃ ec : Int, (if hdTaken t = true then (0 : Int) else 2) = ec := ⟨_, rfl⟩
  rw [hec]
  clear hec
  obtain ⟨X, hX⟩ : ∃ X, reT (hdTk t) a c = X := ⟨_, rfl⟩
  have HX := Lib.hid hX
  rw [hX] at hAt
  have HAt := Lib.hid hAt
  have HFar := Lib.hid hfar
  have HE3 := Lib.hid hE3
  rw [hX]
  have Hsz := Lib.hid (hdV_size X.1)
  have Hall := Lib.hid (hdV_one X.1)
  obtain ⟨CV, hCV⟩ : ∃ CV, hdV X.1 = CV := ⟨_, rfl⟩
  rw [hCV] at Hsz Hall ⊢
  have HCV := Lib.hid hCV
  clear hC hZ hAt hfar hE3 hX hCV HPa
  go_upto_region 2 with (refine wpList_store_row rfl 30 _ _ rfl w3.heap.size _ rfl rfl _ _ (heap_new w3 _ _ rfl) (by rw [Hsz.out]; kernel_rfl) (by rw [Hsz.out]; rfl) Hall.out ?_; rw [setRow_new w3 _ _ _ _ rfl])
  obtain ⟨w4, hw4⟩ : ∃ w4, w3.alloc (.cells CV 30) = w4 := ⟨_, rfl⟩
  have hE4 : Ext w3 w4 := by rw [← hw4]; exact (Ext.refl w3).alloc _
  obtain ⟨p, hp⟩ : ∃ p, w3.heap.size = p := ⟨_, rfl⟩
  have hB4 : w4.heap[p]? = some (.cells CV 30 (0, 0)) := by rw [← hw4]; exact heap_new w3 _ _ hp.symm
  refine wp_world (w' := w4) hw4 ?_
  rw [hp]
  have hlt := Hlt.out
  have hgg := Hg2.out
  have hss := Hs1.out
  have hZ4 : w4.heap[g2]? = some (.cells (hdV hdZ) 30 (0, 0)) := by
    refine hE4.keep (HE3.out.keep ?_)
    rw [HG2.out.block g2 (by omega) (fun e => by have := Option.some.inj e; omega)]
    exact HB1.out
  have HB4 := Lib.hid hB4
  have HZ4 := Lib.hid hZ4
  have HE34 := Lib.hid (HE3.out.trans hE4)
  have HXt := Lib.hid (HAt.out.ext hE4)
  clear hw4 hE4 hp hB4 hZ4
  go_wp2_with (first
    | (refine wpList_load_rowW rfl 30 _ rfl p rfl _ _ _ _ HB4.out Try.underlying30 rfl (by rw [Hsz.out]; kernel_rfl) ?_)
    | (refine wpList_store_row rfl 30 _ _ rfl _ _ rfl rfl _ _ HZ4.out (by rw [Hsz.out]; kernel_rfl) (by rw [Hsz.out]; rfl) Hall.out ?_))
  have hG12 : w.grownBy w4 (some gI) := grown_trans (grown_ext HE1.out _) (grown_trans HG2.out (grown_ext HE34.out _))
  have hI4 := inAt_ext HI2.out HE34.out
  have hK4 := inSame_ext HE34.out r HK2.out
  have hgr : w4.grownBy (w4.setRow g2 CV) (some g2) := ⟨rfl, rfl, rfl, by simp, fun i _ hne => setRow_other w4 g2 i _ (fun e => hne (by rw [e]))⟩
  obtain ⟨i5, k5⟩ := hI4.grown hK4 hgr (by omega) (by omega)
  have hs2 := HG2.out.size
  refine bodyPost_ret (results_cell_row rfl _ _ g2 _ _ _ _ rfl (setRow_heap w4 g2 _ _ _ _ HZ4.out) Try.underlying30 rfl (by rw [Hsz.out]; kernel_rfl)) rfl ?_
  refine ⟨a, c, by rw [HX.out, HCV.out], ?_, fun k off e => by have := HFar.out k off e; omega, i5, k5, grown_newRow hG12 (by omega) _⟩
  rw [HX.out]
  refine ⟨HXt.out.ok, HXt.out.toks.blk fun h0 b off hta => ?_⟩
  refine setRow_other w4 g2 b _ (fun e => ?_)
  have h1 : a = some ⟨b, off, none⟩ := by rw [← HX.out] at hta; exact hta
  have := HFar.out b off h1
  omega

end Go.Proofs.Ytdhbkjajhbfihaa
