/-
  The walks of control.Back, control.Key, jalousieref16.Key. Asked: the tables of 64 words lie as the text lays them.
-/
import Derived.Test.YtppidlpblkihbaaDoorDerive
import Derived.Test.YtppidlpblkihbaaDoorEqArr
import Derived.Test.YtppidlpblkihbaaDoorLu
namespace Go.Proofs.YtppidlpblkihbaaDoor
open Go.ChangeShapes Go.WideShapes Go.ChangeAt Go.RowKit

/-- The label "jalousie back". -/
def labBack : ByteArray := ⟨#[106, 97, 108, 111, 117, 115, 105, 101, 32, 98, 97, 99, 107]⟩
/-- A key n epochs ahead. -/
def backF (f : Nat → Int) : Nat → Nat → Int
  | 0 => f
  | n + 1 => dvF (backF f n) (strB labBack)
theorem backF_byte (f : Nat → Int) (hf : ∀ j, j < 32 → 0 ≤ f j ∧ f j < 256) : ∀ n j, j < 32 → 0 ≤ backF f n j ∧ backF f n j < 256
  | 0, j, h => hf j h
  | _ + 1, j, _ => dvF_byte _ _ j
theorem backF_add (f : Nat → Int) (n : Nat) : ∀ m, backF (backF f n) m = backF f (n + m)
  | 0 => rfl
  | m + 1 => by rw [backF, backF_add f n m]; rfl

theorem derive_dv (f : Nat → Int) (hf : ∀ j, j < 32 → 0 ≤ f j ∧ f j < 256) (s : ByteArray) (w : World) (hs : s.size ≤ 17179869184) (hk : KsAt 1 w) :
    Calls Tryd.prog 39 #[.agg (rowArr 32 fun j => .int .u8 (f j)), .string s] w fun e w' => e = .returned (.agg (rowArr 32 fun j => .int .u8 (dvF f (strB s) j))) ∧ Ext w w' :=
  derive_any f hf s w hs hk

/-- Two new arrays of 32 bytes: one with a key, one of noughts. -/
theorem key_box (w : World) (f : Nat → Int) (T : TypeId) : ∃ w2, (w.alloc (.cells (rowArr 32 fun j => .int .u8 (f j)) T)).alloc (.cells (Array.replicate 32 (.int .u8 0)) T) = w2 ∧ Ext w w2 ∧ w2.rowIs w.heap.size T 32 (fun j => .int .u8 (f j)) ∧ w2.rowIs (w.heap.size + 1) T 32 (fun _ => .int .u8 0) ∧ w.heap.size + 1 < w2.heap.size := by
  have e : (w.alloc (.cells (rowArr 32 fun j => .int .u8 (f j)) T)).heap.size = w.heap.size + 1 := by simp
  have h2 := start_zero32 T (w.alloc (.cells (rowArr 32 fun j => .int .u8 (f j)) T))
  rw [e] at h2
  exact ⟨_, rfl, ((Ext.refl w).alloc _).alloc _, (rowIs_of (heap_new w _ _ rfl)).alloc _, h2, h2.lt⟩

set_option maxHeartbeats 1000000 in
set_option maxRecDepth 100000 in
theorem back_any (f : Nat → Int) (hf : ∀ j, j < 32 → 0 ≤ f j ∧ f j < 256) (from_ : Int) (to_ : Int) (w : World) (h0 : 0 ≤ to_) (h1 : to_ ≤ from_) (h2 : from_ ≤ 255) (hk : KsAt 1 w) :
    Calls Tryd.prog 11 #[.agg (rowArr 32 fun j => .int .u8 (f j)), .int .i64 from_, .int .i64 to_] w fun e w' => e = .returned (.tuple #[.agg (rowArr 32 fun j => .int .u8 (backF f (from_ - to_).toNat j)), .int .i64 0]) ∧ Ext w w' := by
  obtain ⟨w2, hw2, hE2, hR2, hZ2, hs2⟩ := key_box w f 23
  have HK := Lib.hid hk
  have Hf := Lib.hid (backF_byte f hf)
  have Hw2 := Lib.hid hw2
  have HE2 := Lib.hid hE2
  have HR2 := Lib.hid hR2
  have HZ2 := Lib.hid hZ2
  clear hk hf hw2 hE2 hR2 hZ2
  go_enter Tryd.func11, Tryd.ntmps11
  go_upto_region 1 with (fail)
  refine wp_world (w' := w2) Hw2.out ?_
  obtain ⟨g, hg⟩ : ∃ g, w.heap.size = g := ⟨_, rfl⟩
  rw [hg] at HR2 HZ2 hs2 ⊢
  have Hg := Lib.hid (Nat.le_of_eq hg)
  clear hg Hw2
  obtain ⟨n, hn⟩ : ∃ n : Nat, from_ - to_ = (n : Int) := ⟨(from_ - to_).toNat, by omega⟩
  have Hn := Lib.hid (show (from_ - to_).toNat = n by omega)
  have hn255 : n ≤ 255 := by omega
  go_wp2
  clear hn
  go_loopw [23] (fun i wr => ∃ k : Nat, k ≤ n ∧ i = .int .i64 (k : Int) ∧ wr.rowIs g 23 32 (fun j => .int .u8 (backF f k j)) ∧ wr.rowIs (g + 1) 23 32 (fun _ => .int .u8 0) ∧ Ext w wr) (fun i _ => n - (intOf i).toNat)
  case atStart => exact ⟨0, Nat.zero_le _, rfl, HR2.out, HZ2.out, HE2.out⟩
  case round =>
    obtain ⟨k, hk, rfl, hR, hZ, hE⟩ := hrel
    have HR := Lib.hid hR
    have HC := Lib.hid (rowIs_cells hR)
    have HZ := Lib.hid hZ
    have HE := Lib.hid hE
    have hsr : g + 1 < wr.heap.size := hZ.lt
    clear hR hZ hE
    by_cases hlt : k < n
    · have x1 : (k : Int) < (n : Int) := by omega
      have hd := derive_dv (backF f k) (Hf.out k) labBack wr (by decide) (HK.out.ext' HE.out)
      have HD := Lib.hid hd
      clear hd
      go_wp2_with (refine wpList_load_row rfl 23 _ rfl g rfl _ _ _ _ HC.out Tryd.underlying23 rfl (by kernel_rfl) ?_)
      refine HD.out.mono ?_
      rintro e w3 ⟨rfl, hE3⟩
      have hR3 := HR.out.of_block (hE3.block (show g < wr.heap.size by omega))
      have HR3 := Lib.hid hR3
      have HC3 := Lib.hid (rowIs_cells hR3)
      have HZ3 := Lib.hid (HZ.out.of_block (hE3.block hsr))
      have HE3 := Lib.hid (HE.out.trans hE3)
      clear hR3 hE3 HR HC HZ HE HD
      go_wp2_with (refine wpList_store_row rfl 23 _ _ rfl _ _ rfl rfl _ _ HC3.out (by kernel_rfl) (by simp only [rowArr_size]) (rowArr_one fun _ _ => rfl) ?_)
      go_roundw
      case rel =>
        have hgg := Hg.out
        exact ⟨k + 1, by omega, by go_num, rowIs_setRow HR3.out, rowIs_setRowOther HZ3.out (show g + 1 ≠ g by omega) _, below_setRow HE3.out hgg _⟩
      case measure => simp [intOf]; omega
    · obtain rfl : k = n := by omega
      have HCz := Lib.hid (rowIs_cells HZ.out)
      go_wp2_with (first | (refine wpList_load_row rfl 23 _ rfl g rfl _ _ _ _ HC.out Tryd.underlying23 rfl (by kernel_rfl) ?_) | (refine wpList_store_row rfl 23 _ _ rfl _ _ rfl rfl _ _ HCz.out (by kernel_rfl) (by simp only [rowArr_size]) (rowArr_one fun _ _ => rfl) ?_))
      have hgg := Hg.out
      refine bodyPost_ret (results_row_tmp rfl _ _ (g + 1) _ _ _ _ rfl (setRow_heap wr (g + 1) _ _ _ _ HCz.out) Tryd.underlying23 rfl (by kernel_rfl)) rfl ⟨?_, below_setRow HE.out (by omega) _⟩
      rw [Hn.out]
      rfl

/-- The noughts of a built array. -/
theorem zero_hash (w : World) : (zeroValue 23).run Tryd.prog w = .ok (.agg (rowArr 32 fun _ => .int .u8 0)) w := by kernel_rfl
def zeroF : Nat → Int := fun _ => 0

set_option maxRecDepth 100000 in
theorem back_bad (f : Nat → Int) (from_ : Int) (to_ : Int) (w : World) (h : to_ < 0 ∨ from_ < to_ ∨ 255 < from_) :
    Calls Tryd.prog 11 #[.agg (rowArr 32 fun j => .int .u8 (f j)), .int .i64 from_, .int .i64 to_] w fun e w' => e = .returned (.tuple #[.agg (rowArr 32 fun j => .int .u8 (zeroF j)), .int .i64 1]) ∧ Ext w w' := by
  obtain ⟨w2, hw2, hE2, hR2, hZ2, hs2⟩ := key_box w f 23
  have Hw2 := Lib.hid hw2
  have HE2 := Lib.hid hE2
  have HC2 := Lib.hid (rowIs_cells hZ2)
  have hz := zero_hash
  clear hw2 hE2 hR2 hZ2
  obtain ⟨g, hg⟩ : ∃ g, w.heap.size = g := ⟨_, rfl⟩
  have Hg := Lib.hid hg
  rw [hg] at HC2 hs2
  clear hg
  by_cases h0 : to_ < 0
  · go_enter Tryd.func11, Tryd.ntmps11
    go_upto_region 1 with (fail)
    refine wp_world (w' := w2) Hw2.out ?_
    rw [Hg.out]
    go_wp2_with (refine wpList_store_row rfl 23 _ _ rfl _ _ rfl rfl _ _ HC2.out (by kernel_rfl) (by simp only [rowArr_size]) (rowArr_one fun _ _ => rfl) ?_)
    refine bodyPost_ret (results_row_tmp rfl _ _ (g + 1) _ _ _ _ rfl (setRow_heap w2 (g + 1) _ _ _ _ HC2.out) Tryd.underlying23 rfl (by kernel_rfl)) rfl ⟨rfl, below_setRow HE2.out (by have := Hg.out; omega) _⟩
  · by_cases h1 : from_ < to_
    · have x0 : 0 ≤ to_ := by omega
      clear h0 h
      go_enter Tryd.func11, Tryd.ntmps11
      go_upto_region 1 with (fail)
      refine wp_world (w' := w2) Hw2.out ?_
      rw [Hg.out]
      go_wp2_with (refine wpList_store_row rfl 23 _ _ rfl _ _ rfl rfl _ _ HC2.out (by kernel_rfl) (by simp only [rowArr_size]) (rowArr_one fun _ _ => rfl) ?_)
      refine bodyPost_ret (results_row_tmp rfl _ _ (g + 1) _ _ _ _ rfl (setRow_heap w2 (g + 1) _ _ _ _ HC2.out) Tryd.underlying23 rfl (by kernel_rfl)) rfl ⟨rfl, below_setRow HE2.out (by have := Hg.out; omega) _⟩
    · have x0 : 0 ≤ to_ := by omega
      have x1 : to_ ≤ from_ := by omega
      have x2 : 255 < from_ := by omega
      clear h0 h1 h
      go_enter Tryd.func11, Tryd.ntmps11
      go_upto_region 1 with (fail)
      refine wp_world (w' := w2) Hw2.out ?_
      rw [Hg.out]
      go_wp2_with (refine wpList_store_row rfl 23 _ _ rfl _ _ rfl rfl _ _ HC2.out (by kernel_rfl) (by simp only [rowArr_size]) (rowArr_one fun _ _ => rfl) ?_)
      refine bodyPost_ret (results_row_tmp rfl _ _ (g + 1) _ _ _ _ rfl (setRow_heap w2 (g + 1) _ _ _ _ HC2.out) Tryd.underlying23 rfl (by kernel_rfl)) rfl ⟨rfl, below_setRow HE2.out (by have := Hg.out; omega) _⟩

/-- What control.Key hands back. -/
def keyR (f : Nat → Int) (a : Int) : Nat → Int := if 0 ≤ a ∧ a ≤ 255 then backF f (255 - a).toNat else zeroF
def keyE (a : Int) : Int := if 0 ≤ a ∧ a ≤ 255 then 0 else 1

theorem back_key (f : Nat → Int) (hf : ∀ j, j < 32 → 0 ≤ f j ∧ f j < 256) (a : Int) (w : World) (hk : KsAt 1 w) :
    Calls Tryd.prog 11 #[.agg (rowArr 32 fun j => .int .u8 (f j)), .int .i64 255, .int .i64 a] w fun e w' => e = .returned (.tuple #[.agg (rowArr 32 fun j => .int .u8 (keyR f a j)), .int .i64 (keyE a)]) ∧ Ext w w' := by
  unfold keyR keyE
  by_cases h : 0 ≤ a ∧ a ≤ 255
  · rw [if_pos h, if_pos h]
    exact back_any f hf 255 a w h.1 h.2 (by omega) hk
  · rw [if_neg h, if_neg h]
    exact back_bad f 255 a w (by omega)

set_option maxRecDepth 100000 in
theorem key_any (f : Nat → Int) (hf : ∀ j, j < 32 → 0 ≤ f j ∧ f j < 256) (a : Int) (w : World) (hk : KsAt 1 w) :
    Calls Tryd.prog 9 #[.agg (rowArr 32 fun j => .int .u8 (f j)), .int .i64 a] w fun e w' => e = .returned (.tuple #[.agg (rowArr 32 fun j => .int .u8 (keyR f a j)), .int .i64 (keyE a)]) ∧ Ext w w' := by
  obtain ⟨w2, hw2, hE2, hR2, hZ2, hs2⟩ := key_box w f 23
  have Hw2 := Lib.hid hw2
  have HE2 := Lib.hid hE2
  have HC2 := Lib.hid (rowIs_cells hR2)
  have HZ2 := Lib.hid hZ2
  have HB := Lib.hid (back_key f hf a w2 (hk.ext' hE2))
  obtain ⟨g, hg⟩ : ∃ g, w.heap.size = g := ⟨_, rfl⟩
  have Hg := Lib.hid hg
  rw [hg] at HC2 HZ2 hs2
  clear hw2 hE2 hR2 hZ2 hg hk hf
  go_enter Tryd.func9, Tryd.ntmps9
  go_upto_region 1 with (fail)
  refine wp_world (w' := w2) Hw2.out ?_
  rw [Hg.out]
  go_wp2_with (refine wpList_load_row rfl 23 _ rfl g rfl _ _ _ _ HC2.out Tryd.underlying23 rfl (by kernel_rfl) ?_)
  refine HB.out.mono ?_
  rintro e w3 ⟨rfl, hE3⟩
  have HC3 := Lib.hid (rowIs_cells (HZ2.out.of_block (hE3.block hs2)))
  have HE3 := Lib.hid (HE2.out.trans hE3)
  clear hE3 HB HZ2 HC2
  go_wp2_with (refine wpList_store_row rfl 23 _ _ rfl _ _ rfl rfl _ _ HC3.out (by kernel_rfl) (by simp only [rowArr_size]) (rowArr_one fun _ _ => rfl) ?_)
  refine bodyPost_ret (results_row_tmp rfl _ _ (g + 1) _ _ _ _ rfl (setRow_heap w3 (g + 1) _ _ _ _ HC3.out) Tryd.underlying23 rfl (by kernel_rfl)) rfl ⟨rfl, below_setRow HE3.out (by have := Hg.out; omega) _⟩

theorem refderive_dv (f : Nat → Int) (hf : ∀ j, j < 32 → 0 ≤ f j ∧ f j < 256) (s : ByteArray) (w : World) (hs : s.size ≤ 17179869184) (hk : KsAt 0 w) :
    Calls Tryd.prog 15 #[.agg (rowArr 32 fun j => .int .u8 (f j)), .string s] w fun e w' => e = .returned (.agg (rowArr 32 fun j => .int .u8 (dvF f (strB s) j))) ∧ Ext w w' :=
  refDerive_any f hf s w hs hk

set_option maxHeartbeats 1000000 in
set_option maxRecDepth 100000 in
theorem refKey_any (f : Nat → Int) (hf : ∀ j, j < 32 → 0 ≤ f j ∧ f j < 256) (a : Int) (w : World) (h0 : 0 ≤ a) (h1 : a ≤ 255) (hk : KsAt 0 w) :
    Calls Tryd.prog 12 #[.agg (rowArr 32 fun j => .int .u8 (f j)), .int .i64 a] w fun e w' => e = .returned (.agg (rowArr 32 fun j => .int .u8 (backF f (255 - a).toNat j))) ∧ Ext w w' := by
  obtain ⟨w2, hw2, hE2, hR2, hZ2, hs2⟩ := key_box w f 23
  have HK := Lib.hid hk
  have Hf := Lib.hid (backF_byte f hf)
  have Hw2 := Lib.hid hw2
  have HE2 := Lib.hid hE2
  have HR2 := Lib.hid hR2
  have HC2 := Lib.hid (rowIs_cells hR2)
  have HZ2 := Lib.hid hZ2
  obtain ⟨n, hn⟩ : ∃ n : Nat, (255 - a).toNat = n := ⟨_, rfl⟩
  have hna : a = 255 - (n : Int) := by omega
  have hn255 : n ≤ 255 := by omega
  subst hna
  rw [hn]
  clear hk hf hw2 hE2 hR2 hZ2 hn
  go_enter Tryd.func12, Tryd.ntmps12
  go_upto_region 1 with (fail)
  refine wp_world (w' := w2) Hw2.out ?_
  obtain ⟨g, hg⟩ : ∃ g, w.heap.size = g := ⟨_, rfl⟩
  rw [hg] at HC2 HR2 HZ2 hs2 ⊢
  have Hg := Lib.hid (Nat.le_of_eq hg)
  clear hg Hw2
  go_upto_region 3 with (first | (refine wpList_load_row rfl 23 _ rfl g rfl _ _ _ _ HC2.out Tryd.underlying23 rfl (by kernel_rfl) ?_) | (refine wpList_store_row rfl 23 _ _ rfl w2.heap.size _ rfl rfl _ _ (heap_new w2 _ _ rfl) (by kernel_rfl) (by rw [rowArr_size]; rfl) (rowArr_one fun _ _ => rfl) ?_; rw [setRow_new w2 _ _ _ _ rfl]))
  obtain ⟨w3, hw3⟩ : ∃ w3, w2.alloc (.cells (rowArr 32 fun j => .int .u8 (f j)) 23) = w3 := ⟨_, rfl⟩
  have hE3 : Ext w w3 := by rw [← hw3]; exact HE2.out.alloc _
  have hR3 : w3.rowIs w2.heap.size 23 32 (fun j => .int .u8 (f j)) := by rw [← hw3]; exact rowIs_of (heap_new w2 _ _ rfl)
  have hZ3 : w3.rowIs (g + 1) 23 32 (fun _ => .int .u8 0) := by rw [← hw3]; exact HZ2.out.alloc _
  refine wp_world (w' := w3) hw3 ?_
  obtain ⟨q, hq⟩ : ∃ q, w2.heap.size = q := ⟨_, rfl⟩
  rw [hq] at hR3 hs2 ⊢
  have HR3 := Lib.hid hR3
  have HZ3 := Lib.hid hZ3
  have HE3 := Lib.hid hE3
  clear hw3 hR3 hZ3 hE3 hq HE2 HR2 HC2 HZ2
  go_loopw [6] (fun i wr => ∃ k : Nat, k ≤ n ∧ i = .int .i64 (255 - (k : Int)) ∧ wr.rowIs q 23 32 (fun j => .int .u8 (backF f k j)) ∧ wr.rowIs (g + 1) 23 32 (fun _ => .int .u8 0) ∧ Ext w wr) (fun i _ => (intOf i).toNat)
  case atStart => exact ⟨0, Nat.zero_le _, rfl, HR3.out, HZ3.out, HE3.out⟩
  case round =>
    obtain ⟨k, hk, rfl, hR, hZ, hE⟩ := hrel
    have HR := Lib.hid hR
    have HC := Lib.hid (rowIs_cells hR)
    have HZ := Lib.hid hZ
    have HE := Lib.hid hE
    have hsr : g + 1 < wr.heap.size := hZ.lt
    have hsq : q < wr.heap.size := hR.lt
    clear hR hZ hE
    by_cases hlt : k < n
    · have x1 : 255 - (n : Int) < 255 - (k : Int) := by omega
      have hd := refderive_dv (backF f k) (Hf.out k) labBack wr (by decide) (HK.out.ext' HE.out)
      have HD := Lib.hid hd
      clear hd
      go_wp2_with (refine wpList_load_row rfl 23 _ rfl q rfl _ _ _ _ HC.out Tryd.underlying23 rfl (by kernel_rfl) ?_)
      refine HD.out.mono ?_
      rintro e w5 ⟨rfl, hE5⟩
      have hR5 := HR.out.of_block (hE5.block (show q < wr.heap.size by omega))
      have HR5 := Lib.hid hR5
      have HC5 := Lib.hid (rowIs_cells hR5)
      have HZ5 := Lib.hid (HZ.out.of_block (hE5.block hsr))
      have HE5 := Lib.hid (HE.out.trans hE5)
      clear hR5 hE5 HR HC HZ HE HD
      go_wp2_with (refine wpList_store_row rfl 23 _ _ rfl _ _ rfl rfl _ _ HC5.out (by kernel_rfl) (by simp only [rowArr_size]) (rowArr_one fun _ _ => rfl) ?_)
      go_roundw
      case rel =>
        have hgg := Hg.out
        exact ⟨k + 1, by omega, val_int (by omega), rowIs_setRow HR5.out, rowIs_setRowOther HZ5.out (show g + 1 ≠ q by omega) _, below_setRow HE5.out (by omega) _⟩
      case measure => simp [intOf]; omega
    · obtain rfl : k = n := by omega
      have HCz := Lib.hid (rowIs_cells HZ.out)
      have x1 : ¬ 255 - (k : Int) < 255 - (k : Int) := by omega
      go_wp2_with (first | (refine wpList_load_row rfl 23 _ rfl q rfl _ _ _ _ HC.out Tryd.underlying23 rfl (by kernel_rfl) ?_) | (refine wpList_store_row rfl 23 _ _ rfl _ _ rfl rfl _ _ HCz.out (by kernel_rfl) (by simp only [rowArr_size]) (rowArr_one fun _ _ => rfl) ?_))
      have hgg := Hg.out
      exact bodyPost_ret (results_cell_row rfl _ _ (g + 1) _ _ _ _ rfl (setRow_heap wr (g + 1) _ _ _ _ HCz.out) Tryd.underlying23 rfl (by kernel_rfl)) rfl ⟨rfl, below_setRow HE.out (by omega) _⟩

end Go.Proofs.YtppidlpblkihbaaDoor
