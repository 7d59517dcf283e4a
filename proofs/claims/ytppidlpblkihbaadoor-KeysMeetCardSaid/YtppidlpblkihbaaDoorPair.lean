/-
  The walks of keys.Pair and jalousieref11.Pair. Asked: the tables of 64 words lie as the text lays them.
-/
import Derived.Test.YtppidlpblkihbaaDoorCtl
namespace Go.Proofs.YtppidlpblkihbaaDoor
open Go.ChangeShapes Go.WideShapes Go.ChangeAt Go.RowKit

def byteOf (x : Int) : Int := x % 256
def pairF (f : Nat → Int) (a b : Int) : Nat → Int := macF (l32 f) [byteOf (min a b), byteOf (max a b)]

theorem two_byte (x y : Int) : ∀ z ∈ [byteOf x, byteOf y], 0 ≤ z ∧ z < 256 := by
  intro z hz
  unfold byteOf at hz
  simp only [List.mem_cons, List.not_mem_nil, or_false] at hz
  omega

set_option maxHeartbeats 1000000 in
set_option maxRecDepth 100000 in
theorem pair_any (f : Nat → Int) (hf : ∀ j, j < 32 → 0 ≤ f j ∧ f j < 256) (a b : Int) (w : World) (hk : KsAt 1 w) :
    Calls Tryd.prog 16 #[.agg (rowArr 32 fun j => .int .u8 (f j)), .int .i64 a, .int .i64 b] w fun e w' => e = .returned (.agg (rowArr 32 fun j => .int .u8 (pairF f a b j))) ∧ Ext w w' := by
  obtain ⟨w2, hw2, hE2, hR2, hZ2, hs2⟩ := key_box w f 23
  have hb2 : BsAt w2 (some ⟨w.heap.size, 0, none⟩) 32 32 (l32 f) := bs_row hR2 hf (by omega)
  have HB2 := Lib.hid hb2
  have HK := Lib.hid hk
  have Hw2 := Lib.hid hw2
  have HE2 := Lib.hid hE2
  have HZ2 := Lib.hid (rowIs_cells hZ2)
  clear hk hf hw2 hE2 hR2 hZ2 hb2
  obtain ⟨v0, hv0⟩ : ∃ v0, IntKind.u8.wrap (min a b) = v0 := ⟨_, rfl⟩
  obtain ⟨v1, hv1⟩ : ∃ v1, IntKind.u8.wrap (max a b) = v1 := ⟨_, rfl⟩
  have e0 : byteOf (min a b) = v0 := by rw [← hv0, IntKind.wrap_u8]; rfl
  have e1 : byteOf (max a b) = v1 := by rw [← hv1, IntKind.wrap_u8]; rfl
  have HP := Lib.hid (show pairF f a b = macF (l32 f) [v0, v1] by unfold pairF; rw [e0, e1])
  have hvb : ∀ z ∈ [v0, v1], 0 ≤ z ∧ z < 256 := by rw [← e0, ← e1]; exact two_byte _ _
  have hb := bs_new w2 [v0, v1] #[.int .u8 v0, .int .u8 v1] 5 (0, 0) rfl hvb (by simp)
  have e3 : (w2.alloc (.cells #[.int .u8 v0, .int .u8 v1] 5)).heap.size = w2.heap.size + 1 := by simp
  have hP := ps_new (PsV.one hb) 41 (by omega)
  rw [e3] at hP
  have hEP : Ext w2 ((w2.alloc (.cells #[.int .u8 v0, .int .u8 v1] 5)).alloc (.cells #[.slice (some ⟨w2.heap.size, 0, none⟩) 2 2] 41)) := ((Ext.refl w2).alloc _).alloc _
  have hm := mac_any _ _ _ _ _ _ _ _ _ (HB2.out.ext hEP) hP (by simp) (by omega) (by omega) (HK.out.ext' (HE2.out.trans hEP))
  rw [flat_one] at hm
  have HM := Lib.hid hm
  have HEP := Lib.hid hEP
  clear hvb hb e3 hP hEP hm e0 e1
  go_enter Tryd.func16, Tryd.ntmps16
  go_upto_region 1 with (fail)
  refine wp_world (w' := w2) Hw2.out ?_
  obtain ⟨g, hg⟩ : ∃ g, w.heap.size = g := ⟨_, rfl⟩
  rw [hg] at HZ2 HM hs2 ⊢
  have Hg := Lib.hid (Nat.le_of_eq hg)
  clear hg Hw2
  go_wp2_with fail
  refine HM.out.mono ?_
  rintro e w3 ⟨rfl, hE3⟩
  have HZ3 := Lib.hid ((HEP.out.trans hE3).keep HZ2.out)
  have HE3 := Lib.hid (HE2.out.trans (HEP.out.trans hE3))
  obtain ⟨F, hF⟩ : ∃ F, macF (l32 f) [v0, v1] = F := ⟨_, rfl⟩
  rw [hF] at HP ⊢
  clear hE3 HM HEP HZ2 hF hv0 hv1
  go_wp2_with (refine wpList_store_row rfl 23 _ _ rfl _ _ rfl rfl _ _ HZ3.out (by kernel_rfl) (by simp only [rowArr_size]) (rowArr_one fun _ _ => rfl) ?_)
  have hgg := Hg.out
  exact bodyPost_ret (results_cell_row rfl _ _ (g + 1) _ _ _ _ rfl (setRow_heap w3 (g + 1) _ _ _ _ HZ3.out) Tryd.underlying23 rfl (by kernel_rfl)) rfl ⟨by rw [HP.out], below_setRow HE3.out (by omega) _⟩

set_option maxHeartbeats 1000000 in
set_option maxRecDepth 100000 in
theorem refPair_le (f : Nat → Int) (hf : ∀ j, j < 32 → 0 ≤ f j ∧ f j < 256) (a b : Int) (hab : a ≤ b) (w : World) (hk : KsAt 0 w) :
    Calls Tryd.prog 17 #[.agg (rowArr 32 fun j => .int .u8 (f j)), .int .i64 a, .int .i64 b] w fun e w' => e = .returned (.agg (rowArr 32 fun j => .int .u8 (pairF f a b j))) ∧ Ext w w' := by
  obtain ⟨w2, hw2, hE2, hR2, hZ2, hs2⟩ := key_box w f 23
  have hb2 : BsAt w2 (some ⟨w.heap.size, 0, none⟩) 32 32 (l32 f) := bs_row hR2 hf (by omega)
  have HB2 := Lib.hid hb2
  have HK := Lib.hid hk
  have Hw2 := Lib.hid hw2
  have HE2 := Lib.hid hE2
  have HZ2 := Lib.hid (rowIs_cells hZ2)
  clear hk hf hw2 hE2 hR2 hZ2 hb2
  obtain ⟨v0, hv0⟩ : ∃ v0, IntKind.u8.wrap a = v0 := ⟨_, rfl⟩
  obtain ⟨v1, hv1⟩ : ∃ v1, IntKind.u8.wrap b = v1 := ⟨_, rfl⟩
  have e0 : byteOf (min a b) = v0 := by rw [← hv0, IntKind.wrap_u8, Int.min_eq_left hab]; rfl
  have e1 : byteOf (max a b) = v1 := by rw [← hv1, IntKind.wrap_u8, Int.max_eq_right hab]; rfl
  have HP := Lib.hid (show pairF f a b = macF (l32 f) [v0, v1] by unfold pairF; rw [e0, e1])
  have hvb : ∀ z ∈ [v0, v1], 0 ≤ z ∧ z < 256 := by rw [← e0, ← e1]; exact two_byte _ _
  have hb := bs_new w2 [v0, v1] #[.int .u8 v0, .int .u8 v1] 5 (0, 0) rfl hvb (by simp)
  have hEP : Ext w2 (w2.alloc (.cells #[.int .u8 v0, .int .u8 v1] 5)) := (Ext.refl w2).alloc _
  have hm := refMac_any _ _ _ _ _ _ _ _ _ (HB2.out.ext hEP) hb (by simp) (by omega) (HK.out.ext' (HE2.out.trans hEP))
  have HM := Lib.hid hm
  have HEP := Lib.hid hEP
  clear hvb hb hEP hm e0 e1
  go_enter Tryd.func17, Tryd.ntmps17
  go_upto_region 1 with (fail)
  refine wp_world (w' := w2) Hw2.out ?_
  obtain ⟨g, hg⟩ : ∃ g, w.heap.size = g := ⟨_, rfl⟩
  rw [hg] at HZ2 HM hs2 ⊢
  have Hg := Lib.hid (Nat.le_of_eq hg)
  clear hg Hw2
  go_wp2_with fail
  refine HM.out.mono ?_
  rintro e w3 ⟨rfl, hE3⟩
  have HZ3 := Lib.hid ((HEP.out.trans hE3).keep HZ2.out)
  have HE3 := Lib.hid (HE2.out.trans (HEP.out.trans hE3))
  obtain ⟨F, hF⟩ : ∃ F, macF (l32 f) [v0, v1] = F := ⟨_, rfl⟩
  rw [hF] at HP ⊢
  clear hE3 HM HEP HZ2 hF hv0 hv1
  go_wp2_with (refine wpList_store_row rfl 23 _ _ rfl _ _ rfl rfl _ _ HZ3.out (by kernel_rfl) (by simp only [rowArr_size]) (rowArr_one fun _ _ => rfl) ?_)
  have hgg := Hg.out
  exact bodyPost_ret (results_cell_row rfl _ _ (g + 1) _ _ _ _ rfl (setRow_heap w3 (g + 1) _ _ _ _ HZ3.out) Tryd.underlying23 rfl (by kernel_rfl)) rfl ⟨by rw [HP.out], below_setRow HE3.out (by omega) _⟩

set_option maxHeartbeats 1000000 in
set_option maxRecDepth 100000 in
theorem refPair_any (f : Nat → Int) (hf : ∀ j, j < 32 → 0 ≤ f j ∧ f j < 256) (a b : Int) (w : World) (hk : KsAt 0 w) :
    Calls Tryd.prog 17 #[.agg (rowArr 32 fun j => .int .u8 (f j)), .int .i64 a, .int .i64 b] w fun e w' => e = .returned (.agg (rowArr 32 fun j => .int .u8 (pairF f a b j))) ∧ Ext w w' := by
  by_cases hab : a ≤ b
  · exact refPair_le f hf a b hab w hk
  · have x1 : b < a := by omega
    obtain ⟨w2, hw2, hE2, hR2, hZ2, hs2⟩ := key_box w f 23
    have hp := refPair_le f hf b a (by omega) w2 (hk.ext' hE2)
    have hc : pairF f b a = pairF f a b := by unfold pairF; rw [Int.min_comm, Int.max_comm]
    rw [hc] at hp
    have HM := Lib.hid hp
    have Hw2 := Lib.hid hw2
    have HE2 := Lib.hid hE2
    have HC2 := Lib.hid (rowIs_cells hR2)
    have HZ2 := Lib.hid (rowIs_cells hZ2)
    clear hk hf hw2 hE2 hR2 hZ2 hp hc hab
    go_enter Tryd.func17, Tryd.ntmps17
    go_upto_region 1 with (fail)
    refine wp_world (w' := w2) Hw2.out ?_
    obtain ⟨g, hg⟩ : ∃ g, w.heap.size = g := ⟨_, rfl⟩
    rw [hg] at HZ2 HC2 hs2 ⊢
    have Hg := Lib.hid (Nat.le_of_eq hg)
    clear hg Hw2
    go_wp2_with (refine wpList_load_row rfl 23 _ rfl g rfl _ _ _ _ HC2.out Tryd.underlying23 rfl (by kernel_rfl) ?_)
    refine HM.out.mono ?_
    rintro e w3 ⟨rfl, hE3⟩
    have HZ3 := Lib.hid (hE3.keep HZ2.out)
    have HE3 := Lib.hid (HE2.out.trans hE3)
    clear hE3 HM HZ2
    go_wp2_with (refine wpList_store_row rfl 23 _ _ rfl _ _ rfl rfl _ _ HZ3.out (by kernel_rfl) (by simp only [rowArr_size]) (rowArr_one fun _ _ => rfl) ?_)
    have hgg := Hg.out
    exact bodyPost_ret (results_cell_row rfl _ _ (g + 1) _ _ _ _ rfl (setRow_heap w3 (g + 1) _ _ _ _ HZ3.out) Tryd.underlying23 rfl (by kernel_rfl)) rfl ⟨rfl, below_setRow HE3.out (by omega) _⟩

end Go.Proofs.YtppidlpblkihbaaDoor
