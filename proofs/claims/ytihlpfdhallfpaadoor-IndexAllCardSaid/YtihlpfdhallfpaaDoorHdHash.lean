/-
  The walk of entry.Hash. Asked: the table of 64 words lies as the text lays it.
-/
import Derived.Test.YtihlpfdhallfpaaDoorHdBy
import Derived.Test.YtihlpfdhallfpaaDoorSumB
namespace Go.Proofs.YtihlpfdhallfpaaDoor
open Go.ChangeShapes Go.WideShapes Go.ChangeAt Go.RowKit

theorem hdKs_ext {g : Nat} {w w' : World} (h : KsAt g w) (he : Ext w w') : KsAt g w' := fun i hi => by
  have hb := World.block_lt_of_cell? w _ (h i hi)
  rw [Ext.cell (p := ⟨g, i, none⟩) he hb]
  exact h i hi
theorem zero32 (w : World) : (zeroValue 28).run Tryd.prog w = .ok (.agg (rowArr 32 fun _ => .int .u8 0)) w := zero_h32 w

set_option maxHeartbeats 2000000 in
set_option maxRecDepth 100000 in
theorem hdHash_any (h : Hd) (ts : List (Nat → Int)) (w : World) (ho : HdOk h) (ht : TsAt w h.ta h.tn h.tc ts) (hk : KsAt 1 w) :
    Calls Tryd.prog 10 #[.agg (hdV h)] w fun e w' => e = .returned (.agg (rowArr 32 fun j => .int .u8 (shaF (bytesL h ts) j))) ∧ Ext w w' := by
  obtain ⟨w2, hw2⟩ : ∃ w2, (w.alloc (.cells (hdV h) 34)).alloc (.cells (rowArr 32 fun _ => .int .u8 0) 28) = w2 := ⟨_, rfl⟩
  have hE2 : Ext w w2 := by rw [← hw2]; exact ((Ext.refl w).alloc _).alloc _
  have hB2 : w2.heap[w.heap.size]? = some (.cells (hdV h) 34 (0, 0)) := by
    rw [← hw2]
    exact Ext.keep ((Ext.refl (w.alloc (.cells (hdV h) 34))).alloc _) (heap_new w _ _ rfl)
  have hZ2 : w2.heap[w.heap.size + 1]? = some (.cells (rowArr 32 fun _ => .int .u8 0) 28 (0, 0)) := by
    rw [← hw2]
    exact heap_new _ _ _ (by simp)
  have hby := bytesL_byte ho ht.len ht.byte
  have hle := bytesL_le h ts
  have HBy := Lib.hid (hdBytes_any h ts w2 ho (ht.ext hE2))
  obtain ⟨XS, hXS⟩ : ∃ X, bytesL h ts = X := ⟨_, rfl⟩
  rw [hXS] at hby hle HBy ⊢
  have Hby := Lib.hid hby
  have Hw2 := Lib.hid hw2
  have HE2 := Lib.hid hE2
  have HB2 := Lib.hid hB2
  have HZ2 := Lib.hid hZ2
  have HK := Lib.hid hk
  have Hsz := Lib.hid (hdV_size h)
  obtain ⟨A, hA⟩ : ∃ A, hdV h = A := ⟨_, rfl⟩
  rw [hA] at HBy Hw2 HB2 Hsz ⊢
  clear hw2 hE2 hB2 hZ2 ho ht hk hA hXS hby
  go_enter Tryd.func10, Tryd.ntmps10
  go_upto_region 1 with (fail)
  refine wp_world (w' := w2) Hw2.out ?_
  obtain ⟨g, hg⟩ : ∃ g, w.heap.size = g := ⟨_, rfl⟩
  rw [hg] at HB2 HZ2 ⊢
  have Hg := Lib.hid (Nat.le_of_eq hg)
  clear hg Hw2
  go_wp2_with (refine wpList_load_rowW rfl 34 _ rfl g rfl _ _ _ _ HB2.out Tryd.underlying34 rfl (by rw [Hsz.out]; kernel_rfl) ?_)
  refine HBy.out.mono ?_
  rintro e w3 ⟨v3, rfl, hown, hE⟩
  obtain ⟨a3, c3, rfl, hc1, hc2⟩ := owns_slice hown
  have hb3 : BsAt w3 a3 XS.length c3 XS := owns_bs hown Hby.out (by unfold maxLen at hc2; omega) (by omega)
  have hP := ps_one hb3 35
  have hE4 : Ext w3 (w3.alloc (.cells #[.slice a3 XS.length c3] 35)) := (Ext.refl w3).alloc _
  have hm := sum_any _ _ _ _ _ hP (by simp; omega) (by omega) (hdKs_ext HK.out (HE2.out.trans (hE.trans hE4)))
  have HM := Lib.hid hm
  have HE4 := Lib.hid (hE.trans hE4)
  clear hown hc1 hc2 hb3 hP hE4 hm hE HBy
  obtain ⟨N, hN⟩ : ∃ N, XS.length = N := ⟨_, rfl⟩
  rw [hN] at HM HE4 hle ⊢
  clear hN
  go_wp2_with fail
  refine HM.out.mono ?_
  rintro e w5 ⟨rfl, hE5⟩
  rw [show ([XS] : List (List Int)).flatten = XS by simp]
  have HZ5 := Lib.hid ((HE4.out.trans hE5).keep HZ2.out)
  have HE5 := Lib.hid (HE2.out.trans (HE4.out.trans hE5))
  obtain ⟨F, hF⟩ : ∃ F, shaF XS = F := ⟨_, rfl⟩
  have HF := Lib.hid hF
  rw [hF]
  clear hE5 HM HE4 hF
  go_wp2_with (refine wpList_store_row rfl 28 _ _ rfl _ _ rfl rfl _ _ HZ5.out (by kernel_rfl) (by simp only [rowArr_size]) (rowArr_one fun _ _ => rfl) ?_)
  have hgg := Hg.out
  exact bodyPost_ret (results_cell_row rfl _ _ (g + 1) _ _ _ _ rfl (setRow_heap w5 (g + 1) _ _ _ _ HZ5.out) Tryd.underlying28 rfl (by kernel_rfl)) rfl ⟨by rw [HF.out], below_setRow HE5.out (by omega) _⟩

end Go.Proofs.YtihlpfdhallfpaaDoor
