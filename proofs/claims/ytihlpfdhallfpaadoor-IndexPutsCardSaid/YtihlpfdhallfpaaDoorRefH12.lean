/-
  The walk of jalousieref12.Hash. Asked: the table of 64 words lies as the text lays it.
-/
import Derived.Test.YtihlpfdhallfpaaDoorRefHdB
import Derived.Test.YtihlpfdhallfpaaDoorRefSum
import Derived.Test.YtihlpfdhallfpaaDoorHdHash
namespace Go.Proofs.YtihlpfdhallfpaaDoor
open Go.ChangeAt Go.ChangeShapes Go.RowKit Go.WideShapes

theorem h12_box (w : World) (A B : Array Value) (T U : TypeId) : ∃ w2, (w.alloc (.cells A T)).alloc (.cells B U) = w2 ∧ Ext w w2 ∧ w2.heap[w.heap.size]? = some (.cells A T (0, 0)) ∧ w2.heap[w.heap.size + 1]? = some (.cells B U (0, 0)) := by
  refine ⟨_, rfl, ((Ext.refl w).alloc _).alloc _, ?_, ?_⟩
  · exact Ext.keep ((Ext.refl (w.alloc (.cells A T))).alloc _) (heap_new w _ _ rfl)
  · exact heap_new _ _ _ (by simp)

set_option maxHeartbeats 2000000 in
set_option maxRecDepth 100000 in
theorem refHash12_any (h : Hd) (ts : List (Nat → Int)) (w : World) (ho : HdOk h) (ht : TsAt w h.ta h.tn h.tc ts) (hk : KsAt 0 w) :
    Calls Tryd.prog 79 #[.agg (hdV h)] w fun e w' => e = .returned (.agg (rowArr 32 fun j => .int .u8 (shaF (bytesL h ts) j))) ∧ Ext w w' := by
  obtain ⟨w2, hw2, hE2, hB2, hZ2⟩ := h12_box w (hdV h) (rowArr 32 fun _ => .int .u8 0) 34 28
  have hby := bytesL_byte ho ht.len ht.byte
  have hle := bytesL_le h ts
  have HBy := Lib.hid (refHdBytes_any h ts w2 ho (ht.ext hE2))
  obtain ⟨XS, hXS⟩ : ∃ X, bytesL h ts = X := ⟨_, rfl⟩
  rw [hXS] at hby hle HBy ⊢
  have hz := zero_h32
  have Hby := Lib.hid hby
  have Hw2 := Lib.hid hw2
  have HE2 := Lib.hid hE2
  have HB2 := Lib.hid hB2
  have HZ2 := Lib.hid hZ2
  have HK := Lib.hid hk
  have Hsz := Lib.hid (hdV_size h)
  obtain ⟨A, hA⟩ : ∃ A, hdV h = A := ⟨_, rfl⟩
  rw [hA] at HBy Hw2 HB2 Hsz ⊢
  clear hw2 hE2 hB2 hZ2 ho ht hk hA hXS hby
  go_enter Tryd.func79, Tryd.ntmps79
  go_upto_region 1 with (fail)
  refine wp_world (w' := w2) Hw2.out ?_
  obtain ⟨g, hg⟩ : ∃ g, w.heap.size = g := ⟨_, rfl⟩
  rw [hg] at HB2 HZ2 ⊢
  have Hg := Lib.hid (Nat.le_of_eq hg)
  clear hg Hw2
  go_wp2_with (refine wpList_load_rowW rfl 34 _ rfl g rfl _ _ _ _ HB2.out Tryd.underlying34 rfl (by rw [Hsz.out]; kernel_rfl) ?_)
  refine HBy.out.mono ?_
  rintro e w3 ⟨v3, rfl, hown, hE⟩
  obtain ⟨a3, c3, rfl, hc1, hc2⟩ := owns_slice hown
  have HB3 := Lib.hid (owns_bs hown Hby.out (by unfold maxLen at hc2; omega) (by omega))
  have HZ3 := Lib.hid (hE.keep HZ2.out)
  have HE3 := Lib.hid (HE2.out.trans hE)
  have HM := Lib.hid (refSum_any a3 _ c3 XS w3 HB3.out (by omega) (hdKs_ext HK.out HE3.out))
  clear hown hc1 hc2 hE HBy
  obtain ⟨N, hN⟩ : ∃ N, XS.length = N := ⟨_, rfl⟩
  rw [hN] at HM hle ⊢
  clear hN
  go_wp2_with fail
  refine HM.out.mono ?_
  rintro e w5 ⟨rfl, hE5⟩
  have HZ5 := Lib.hid (hE5.keep HZ3.out)
  have HE5 := Lib.hid (HE3.out.trans hE5)
  obtain ⟨F, hF⟩ : ∃ F, shaF XS = F := ⟨_, rfl⟩
  have HF := Lib.hid hF
  rw [hF]
  clear hE5 HM hF
  go_wp2_with (refine wpList_store_row rfl 28 _ _ rfl _ _ rfl rfl _ _ HZ5.out (by kernel_rfl) (by simp only [rowArr_size]) (rowArr_one fun _ _ => rfl) ?_)
  have hgg := Hg.out
  exact bodyPost_ret (results_cell_row rfl _ _ (g + 1) _ _ _ _ rfl (setRow_heap w5 (g + 1) _ _ _ _ HZ5.out) Tryd.underlying28 rfl (by kernel_rfl)) rfl ⟨by rw [HF.out], below_setRow HE5.out (by omega) _⟩

end Go.Proofs.YtihlpfdhallfpaaDoor
