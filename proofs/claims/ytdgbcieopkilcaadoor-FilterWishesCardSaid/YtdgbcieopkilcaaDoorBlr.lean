/-
  A box's answers to one key, real or ideal; the walk of keys.Token.
-/
import Derived.Test.YtdgbcieopkilcaaDoorBlind
namespace Go.Proofs.YtdgbcieopkilcaaDoor
open Go.ChangeShapes Go.WideShapes Go.ChangeAt Go.RowKit

/-- All blocks but two are as they were. -/
structure Kp2 (g m : Nat) (w w' : World) : Prop where
  os : w'.os = w.os
  tape : w'.tape = w.tape
  output : w'.output = w.output
  size : w.heap.size ≤ w'.heap.size
  block : ∀ k, k < w.heap.size → k ≠ g → k ≠ m → w'.heap[k]? = w.heap[k]?
theorem Kp2.refl (g m : Nat) (w : World) : Kp2 g m w w := ⟨rfl, rfl, rfl, Nat.le_refl _, fun _ _ _ _ => rfl⟩
theorem Kp2.trans {g m : Nat} {a b c : World} (h : Kp2 g m a b) (k : Kp2 g m b c) : Kp2 g m a c := ⟨k.os.trans h.os, k.tape.trans h.tape, k.output.trans h.output, Nat.le_trans h.size k.size, fun i h1 h2 h3 => (k.block i (by have := h.size; omega) h2 h3).trans (h.block i h1 h2 h3)⟩
theorem Kp2.of_ext {g m : Nat} {a b : World} (h : Ext a b) : Kp2 g m a b := ⟨h.os, h.tape, h.output, h.size, fun _ h1 _ _ => h.block h1⟩
/-- One block that the first hadn't is changed. -/
theorem Kp2.new {g m : Nat} {a b c : World} (h : Kp2 g m a b) {B : Nat} (hB : a.heap.size ≤ B) (k : Below B b c) : Kp2 g m a c := ⟨k.os.trans h.os, k.tape.trans h.tape, k.output.trans h.output, Nat.le_trans h.size k.size, fun i h1 h2 h3 => (k.block i (by omega)).trans (h.block i h1 h2 h3)⟩

/-- A box's answers to one key: what is known of it grows. -/
structure Blinder (gb gm top : Nat) (f : Nat → Int) where
  St : Type
  At : St → World → Prop
  tok : St → List Int → Option (Nat → Int)
  gb_top : gb < top
  gm_top : gm < top
  keeps : Nat → Prop
  keeps_top : ∀ k, keeps k → k < top
  size : ∀ {s w}, At s w → top ≤ w.heap.size
  stay : ∀ {s w w'}, At s w → w.heap.size ≤ w'.heap.size → (∀ k, keeps k → w'.heap[k]? = w.heap[k]?) → At s w'
  byte : ∀ {s w xs t}, At s w → tok s xs = some t → ∀ j, j < 16 → 0 ≤ t j ∧ t j < 256
  call : ∀ s w a n c xs, At s w → BsAt w a n c xs → n ≤ 140737488351232 →
    Calls Tryd.prog 29 #[.pointer (some ⟨gb, 0, none⟩), .agg (rowArr 32 fun j => .int .u8 (f j)), .slice a n c] w fun e w' => ∃ s' t, e = .returned (.agg (rowArr 16 fun j => .int .u8 (t j))) ∧ At s' w' ∧ tok s' xs = some t ∧ (∀ ys u, tok s ys = some u → tok s' ys = some u) ∧ Kp2 gb gm w w'

theorem Blinder.kept {gb gm top : Nat} {f : Nat → Int} (b : Blinder gb gm top f) {s : b.St} {w w' : World} (h : b.At s w) (k : Below top w w') : b.At s w' := b.stay h k.size fun i hi => k.block i (b.keeps_top i hi)
theorem cell_same {w w' : World} {g i : Nat} (h : w'.heap[g]? = w.heap[g]?) : w'.cell? ⟨g, i, none⟩ = w.cell? ⟨g, i, none⟩ := by
  unfold World.cell?
  rw [h]
/-- In real mode. -/
def realBl (gb top : Nat) (f : Nat → Int) (hf : ∀ j, j < 32 → 0 ≤ f j ∧ f j < 256) (hg : gb < top) (hr : 2 < top) : Blinder gb gb top f where
  St := Unit
  At := fun _ w => w.cell? ⟨gb, 0, none⟩ = some (.bool false) ∧ KsAt 2 w ∧ top ≤ w.heap.size
  tok := fun _ xs => some fun j => macF (l32 f) xs j
  gb_top := hg
  gm_top := hg
  size := fun h => h.2.2
  keeps := fun k => k = gb ∨ k = 2
  keeps_top := fun k h => by rcases h with rfl | rfl <;> assumption
  stay := fun {s w w'} h hs k => ⟨(cell_same (k gb (.inl rfl))).trans h.1, fun i hi => (cell_same (k _ (.inr rfl))).trans (h.2.1 i hi), by have := h.2.2; omega⟩
  byte := fun {s w xs t} _ h j _ => by
    obtain rfl := Option.some.inj h
    exact macF_byte _ _ j
  call := fun s w a n c xs h hb hn => (boxBlind_any gb f hf a n c xs w h.1 hb hn h.2.1).mono fun e w' ⟨h1, h2⟩ => ⟨(), _, h1, ⟨(h2.cell (World.block_lt_of_cell? w _ h.1)).trans h.1, h.2.1.ext' h2, by have := h2.size; omega⟩, rfl, fun _ _ h => h, Kp2.of_ext h2⟩

theorem set_box2 (w : World) (S : Nat → Value) : ∃ w2, (w.alloc (.cells (rowArr 128 S) 30)).alloc (.cells (Array.replicate 16 (.int .u8 0)) 35) = w2 ∧ Ext w w2 ∧ w2.heap[w.heap.size]? = some (.cells (rowArr 128 S) 30 (0, 0)) ∧ w2.heap[w.heap.size + 1]? = some (.cells (Array.replicate 16 (.int .u8 0)) 35 (0, 0)) := by
  have e : (w.alloc (.cells (rowArr 128 S) 30)).heap.size = w.heap.size + 1 := by simp
  refine ⟨_, rfl, ((Ext.refl w).alloc _).alloc _, ?_, heap_new _ _ _ e.symm⟩
  rw [Below.heap_alloc _ _ _ (by rw [e]; omega)]
  exact heap_new w _ _ rfl
def ls32 (f : Nat → Int) : List Value := (List.range 32).map fun j => .int .u8 (f j)
theorem ls32_arr (f : Nat → Int) : (ls32 f).toArray = rowArr 32 fun j => .int .u8 (f j) := by
  apply Array.ext_getElem?
  intro j
  by_cases hj : j < 32
  · rw [rowArr_get _ _ _ hj, List.getElem?_toArray]
    unfold ls32
    rw [List.getElem?_map, List.getElem?_range hj]
    rfl
  · rw [List.getElem?_toArray, List.getElem?_eq_none (by simp [ls32]; omega), Array.getElem?_eq_none (by rw [rowArr_size]; omega)]
theorem ls32_length (f : Nat → Int) : (ls32 f).length = 32 := by simp [ls32]
/-- What comes of a tag. -/
def TokSays {gb gm top : Nat} {f : Nat → Int} (b : Blinder gb gm top f) (s : b.St) (xs : List Int) (w : World) (e : Ending) (w' : World) : Prop :=
  ∃ s' t, e = .returned (.agg (rowArr 16 fun j => .int .u8 (t j))) ∧ b.At s' w' ∧ b.tok s' xs = some t ∧ (∀ ys u, b.tok s ys = some u → b.tok s' ys = some u) ∧ Kp2 gb gm w w'

set_option maxHeartbeats 2000000 in
set_option maxRecDepth 100000 in
theorem token_any {gb gm top : Nat} {f : Nat → Int} (b : Blinder gb gm top f) (s : b.St) (w : World) (hs : b.At s w) (S : Nat → Value) (hS : ∀ i, i < 32 → S (64 + i) = .int .u8 (f i)) (x : ByteArray) (hx : x.size ≤ 140737488351232) :
    Calls Tryd.prog 12 #[.pointer (some ⟨gb, 0, none⟩), .agg (rowArr 128 S), .string x] w (TokSays b s (strB x) w) := by
  obtain ⟨w2, hw2, hE2, hR2, hZ2⟩ := set_box2 w S
  have HS := Lib.hid hs
  have Hw2 := Lib.hid hw2
  have HE2 := Lib.hid hE2
  have HZ2 := Lib.hid hZ2
  obtain ⟨g, hg⟩ : ∃ g, w.heap.size = g := ⟨_, rfl⟩
  have Hg := Lib.hid hg
  have HR2 := Lib.hid (show w2.rangeAt g (0 + 64) (ls32 f) from by
    intro j v hv
    have hj : j < 32 := by
      have := (List.getElem?_eq_some_iff.1 hv).1
      rwa [ls32_length] at this
    unfold ls32 at hv
    rw [List.getElem?_map, List.getElem?_range hj] at hv
    obtain rfl := Option.some.inj hv
    unfold World.cell?
    rw [← hg]
    simp only [hR2]
    rw [rowArr_get _ _ _ (by omega), show 0 + 64 + j = 64 + j by omega, hS j hj]
    rfl)
  rw [hg] at HZ2
  clear hs hw2 hE2 hR2 hZ2 hS hg
  go_enter Tryd.func12, Tryd.ntmps12
  go_upto_region 1 with (fail)
  refine wp_world (w' := w2) Hw2.out ?_
  rw [Hg.out]
  clear Hw2
  go_upto_region 99 with (first | (refine wpList_load_mid rfl 23 (.tmp 8) rfl g _ rfl (ls32 f) _ HR2.out Tryd.underlying23 rfl (by rw [ls32_length]; kernel_rfl) ?_; rw [ls32_arr]) | (refine conv_bs rfl (.tmp 10) rfl x rfl (by omega) ?_; intro c3 w3 hb3 hE3))
  have htop := b.size HS.out
  have hgs := Hg.out
  have hE23 := HE2.out.trans hE3
  have hg3 : g + 1 < w3.heap.size := by
    have h1 := (Array.getElem?_eq_some_iff.1 HZ2.out).1
    have h2 := hE3.size
    omega
  have HZ3 := Lib.hid (hE3.keep HZ2.out)
  have HE3 := Lib.hid hE23
  have Hb3 := Lib.hid hb3
  clear hb3 hE3 hE23 HE2 HZ2 HR2
  refine (b.call s w3 _ _ _ _ (b.kept HS.out (Below.mono HE3.out htop)) Hb3.out hx).mono ?_
  rintro e w4 ⟨s', t, rfl, hA, hT, hG, hK⟩
  have hgb := b.gb_top
  have hgm := b.gm_top
  have HZ4 := Lib.hid ((hK.block (g + 1) hg3 (by omega) (by omega)).trans HZ3.out)
  have HA := Lib.hid hA
  have HT := Lib.hid hT
  have HG := Lib.hid hG
  have HK := Lib.hid ((Kp2.of_ext HE3.out).trans hK)
  clear hA hT hG hK HZ3 HE3 Hb3 HS
  go_wp2_with (refine wpList_store_row rfl 35 (.tmp 6) (.tmp 12) rfl (g + 1) _ rfl rfl _ _ HZ4.out (by kernel_rfl) (by simp [rowArr_size]) (rowArr_one fun _ _ => rfl) ?_)
  have hst : Below (g + 1) w4 (w4.setRow (g + 1) (rowArr 16 fun j => .int .u8 (t j))) := below_setRow (Below.refl _ _) (Nat.le_refl _) _
  exact bodyPost_ret (results_cell_row rfl _ _ (g + 1) _ _ _ _ rfl (setRow_heap w4 (g + 1) _ _ _ _ HZ4.out) Tryd.underlying35 rfl (by kernel_rfl)) rfl ⟨s', t, rfl, b.kept HA.out (Below.mono hst (by omega)), HT.out, HG.out, HK.out.new (by omega) hst⟩

end Go.Proofs.YtdgbcieopkilcaaDoor
