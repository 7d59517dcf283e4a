/-
  The walk of an index's Heads. Asked: nothing.
-/
import Derived.Test.YtihlpfdhallfpaaDoorIxA
namespace Go.Proofs.YtihlpfdhallfpaaDoor
open Go.ChangeShapes Go.WideShapes Go.ChangeAt Go.RowKit

def hdsC (S : Nat → CSt) (k j : Nat) : Value := .int .u64 (if j < k then ((S j).l.length : Int) else 0)
theorem hdsC_set (S : Nat → CSt) (k j : Nat) : (if j = k then Value.int .u64 ((S k).l.length : Int) else hdsC S k j) = hdsC S (k + 1) j := by
  unfold hdsC
  by_cases h : j = k
  · subst h
    rw [if_pos rfl, if_pos (by omega)]
  · rw [if_neg h]
    by_cases hk : j < k
    · rw [if_pos hk, if_pos (by omega)]
    · rw [if_neg hk, if_neg (by omega)]
def gsL (G : Nat → Nat) : List Value := [.pointer (some ⟨G 0, 0, none⟩), .pointer (some ⟨G 1, 0, none⟩), .pointer (some ⟨G 2, 0, none⟩), .pointer (some ⟨G 3, 0, none⟩), .pointer (some ⟨G 4, 0, none⟩), .pointer (some ⟨G 5, 0, none⟩)]
def zero6 : Array Value := #[.int .u64 0, .int .u64 0, .int .u64 0, .int .u64 0, .int .u64 0, .int .u64 0]
theorem zero6_row (S : Nat → CSt) : zero6 = rowArr 6 (hdsC S 0) := rfl
set_option maxRecDepth 100000 in
theorem index_gs (w : World) (G : Nat → Nat) (k : Nat) (hk : k < 6) : (Instr.index 68 (.agg (gsL G).toArray) (.int .i64 (k : Int))).run Tryd.prog w = .ok (.pointer (some ⟨G k, 0, none⟩)) w := by
  rcases (by omega : k = 0 ∨ k = 1 ∨ k = 2 ∨ k = 3 ∨ k = 4 ∨ k = 5) with rfl | rfl | rfl | rfl | rfl | rfl <;> kernel_rfl
theorem info_ix68 : (Tryd.prog.info? 68).map (·.size) = some 6 := by kernel_rfl
set_option maxHeartbeats 4000000 in
set_option maxRecDepth 100000 in
theorem ixHeads_any {w : World} {B gx : Nat} {G : Nat → Nat} {S : Nat → CSt} {cnt : Int} (h0 : IxAt w B gx G S cnt) (hm : Modest S) :
    Calls Tryd.prog 16 #[.pointer (some ⟨gx, 0, none⟩)] w fun e w' => e = .returned (.agg (rowArr 6 fun j => .int .u64 ((S j).l.length : Int))) ∧ Ext w w' := by
  obtain ⟨w2, hw2⟩ : ∃ x, (w.alloc (.cells #[.int .u64 0, .int .u64 0, .int .u64 0, .int .u64 0, .int .u64 0, .int .u64 0] 48)).alloc (.cells #[.int .u64 0, .int .u64 0, .int .u64 0, .int .u64 0, .int .u64 0, .int .u64 0] 48) = x := ⟨_, rfl⟩
  have hE2 : Ext w w2 := by rw [← hw2]; exact ((Ext.refl w).alloc _).alloc _
  obtain ⟨r, hr⟩ : ∃ g, w.heap.size = g := ⟨_, rfl⟩
  have hs2 : w2.heap.size = r + 2 := by rw [← hw2, ← hr]; simp
  have hZ : w2.heap[r]? = some (.cells (rowArr 6 (hdsC S 0)) 48 (0, 0)) := by
    rw [← hw2, ← hr, ← zero6_row]
    exact ((Ext.refl _).alloc _).keep (heap_new w _ _ rfl)
  have hR : w2.rowIs (r + 1) 48 6 (hdsC S 0) := by
    refine rowIs_of ?_
    rw [← hw2, ← zero6_row]
    exact heap_new _ _ _ (by simp [hr])
  have hc : w2.rangeAt gx 0 (gsL G) := fun j v hv => by
    have hj : j < 6 := (List.getElem?_eq_some_iff.1 hv).1
    have h1 := ((h0.ext hE2).cells).1 j hj
    rw [Nat.zero_add, h1]
    rcases j with _ | _ | _ | _ | _ | _ | j <;> first | exact hv | (simp [gsL] at hv ⊢; exact hv) | omega
  have HIx := Lib.hid (fun (k : Nat) (hk : k < 6) (w : World) => index_gs w G k hk)
  obtain ⟨VG, hVG⟩ : ∃ x, (gsL G).toArray = x := ⟨_, rfl⟩
  have HVG := Lib.hid hVG
  rw [hVG] at HIx
  clear hVG
  have HHd := Lib.hid (show ∀ i, i < 6 → ∀ x, Ext w x → Calls Tryd.prog 33 #[.pointer (some ⟨G i, 0, none⟩)] x fun e w' => e = .returned (.int .u64 ((S i).l.length : Int)) ∧ Ext x w' from fun i hi x hx => head_any ((h0.ch i hi).ext hx) (by have := (hm i hi).1; omega))
  have HE2 := Lib.hid hE2
  have Hw2 := Lib.hid hw2
  have Hr := Lib.hid hr
  have HZ := Lib.hid hZ
  have HR := Lib.hid hR
  have Hc := Lib.hid hc
  clear h0 hm hr hw2 hE2 hs2 hZ hR hc
  go_enter Tryd.func16, Tryd.ntmps16
  go_upto_region 2 with (fail)
  refine wp_world (w' := w2) Hw2.out ?_
  rw [Hr.out]
  clear Hw2
  go_wp2_with (refine wpList_load_mid rfl 68 _ rfl gx 0 rfl (gsL G) _ Hc.out Tryd.underlying68 rfl info_ix68 ?_; rw [HVG.out])
  go_loopw [10] (fun i wr => ∃ k : Nat, k ≤ 6 ∧ i = .int .i64 (k : Int) ∧ wr.rowIs (r + 1) 48 6 (hdsC S k) ∧ wr.heap[r]? = some (.cells (rowArr 6 (hdsC S 0)) 48 (0, 0)) ∧ Ext w wr) (fun i _ => 6 - (intOf i).toNat)
  case atStart => exact ⟨0, by omega, rfl, HR.out, HZ.out, HE2.out⟩
  case round =>
    obtain ⟨k, hk, rfl, hR1, hZ1, hE1⟩ := hrel
    have HR1 := Lib.hid hR1
    have HZ1 := Lib.hid hZ1
    have HE1 := Lib.hid hE1
    clear hR1 hZ1 hE1
    by_cases hlt : k < 6
    · have x1 : (k : Int) < 6 := by omega
      have hix := HIx.out k hlt
      obtain ⟨q, hq⟩ : ∃ x, G k = x := ⟨_, rfl⟩
      have HM := Lib.hid (HHd.out k hlt wr HE1.out)
      rw [hq] at HM hix
      obtain ⟨N, hN⟩ : ∃ N, (S k).l.length = N := ⟨_, rfl⟩
      rw [hN] at HM
      have HN := Lib.hid hN
      clear hq hN
      go_wp2_with (fail)
      refine HM.out.mono ?_
      rintro e w4 ⟨rfl, hE⟩
      have hR4 := HR1.out.of_block (hE.block HR1.out.lt)
      have HR4 := Lib.hid ((hR4.set k (.int .u64 ((S k).l.length : Int))).congr fun j _ => hdsC_set S k j)
      have HZ4 := Lib.hid (hE.keep HZ1.out)
      have HE4 := Lib.hid (HE1.out.trans hE)
      have c := hR4.cell (i := k) (by omega)
      have f := hR4.frozen k
      clear hE hR4
      go_wp2
      go_roundw
      case rel =>
        have hrr := Hr.out
        have h4 := HR4.out
        rw [HN.out] at h4
        exact ⟨k + 1, by omega, by go_num, h4, by rw [(grown_setCell (World.grownBy.refl w4 _) (p := ⟨r + 1, k, none⟩) rfl (.int .u64 (N : Int))).block r (Array.getElem?_eq_some_iff.1 HZ4.out).1 (by simp)]; exact HZ4.out, HE4.out.setCell (by show w.heap.size ≤ r + 1; omega) _⟩
      case measure => simp [intOf]; omega
    · obtain rfl : k = 6 := by omega
      go_wp2_with (first | (refine wpList_load_rowW rfl 48 _ rfl (r + 1) rfl _ _ _ _ (rowIs_cells HR1.out) Tryd.underlying48 rfl (by rw [rowArr_size]; kernel_rfl) ?_) | (refine wpList_store_row rfl 48 _ _ rfl r _ rfl rfl _ _ HZ1.out (by kernel_rfl) (by simp only [rowArr_size]) (rowArr_one fun _ _ => rfl) ?_))
      have hrr := Hr.out
      exact bodyPost_ret (results_cell_row rfl _ _ r _ _ _ _ rfl (setRow_heap _ r _ _ _ _ HZ1.out) Tryd.underlying48 rfl (by kernel_rfl)) rfl ⟨by
        rw [rowArr_congr 6 (hdsC S 6) (fun j => .int .u64 ((S j).l.length : Int)) fun j hj => by unfold hdsC; rw [if_pos hj]], below_setRow HE1.out (by omega) _⟩

end Go.Proofs.YtihlpfdhallfpaaDoor
