/-
  The walk of jalousieref18.Few: what it lets through is no more than it is told. No conditions.
-/
import Derived.Test.YtldaligeckjhaaaRwF
import Derived.Test.YtldaligeckjhaaaPtC
namespace Go.Proofs.Ytldaligeckjhaaa
open Go.ChangeShapes Go.WideShapes Go.ChangeAt Go.RowKit

set_option maxRecDepth 100000 in
theorem zero_chg (w : World) : (zeroValue 34).run Try.prog w = .ok (.agg (chV 0 ⟨#[]⟩ (.slice none 0 0) ⟨#[]⟩)) w := by kernel_rfl
theorem chV_one (op : Int) (name : ByteArray) (a : Option Addr) (n c : Nat) (val : ByteArray) : (chV op name (.slice a n c) val).all (·.oneCell') = true := by
  unfold chV
  simp [Value.oneCell']
/-- What Few answers. -/
def FewR (n : Nat) (m : Int) (w : World) (e : Ending) (w' : World) : Prop := ∃ R : Bool, e = .returned (.bool R) ∧ (R = true → (n : Int) ≤ m) ∧ Ext w w'
set_option maxHeartbeats 4000000 in
set_option maxRecDepth 100000 in
theorem fewR_any (a : Option Addr) (n c : Nat) (l : List Rw) (M : Int) (w : World) (h : RwsAt w a n c l) :
    Calls Try.prog 11 #[.slice a n c, .int .i64 M] w (FewR n M w) := by
  have hcap := h.cap
  have hlim := h.lim
  have H := Lib.hid h
  clear h
  go_enter Try.func11, Try.ntmps11
  go_wp2
  go_loopw [5] (fun i y => ∃ k : Nat, k ≤ 100 ∧ k ≤ n ∧ i = .int .i64 (k : Int) ∧ Ext w y) (fun i _ => n - (intOf i).toNat)
  case atStart => exact ⟨0, by omega, by omega, rfl, Ext.refl w⟩
  case round =>
    obtain ⟨k, hk1, hk, rfl, hE⟩ := hrel
    have HE := Lib.hid hE
    rename World => y
    clear hE
    by_cases hlt : k < n ∧ k < 100
    · obtain ⟨h1, h2⟩ := hlt
      have x1 : (k : Int) < (n : Int) := by omega
      have x2 : (k : Int) < 100 := by omega
      obtain ⟨b, off, rfl, hcell⟩ := (H.out.ext HE.out).at_ (by omega)
      obtain ⟨x, hx⟩ : ∃ x, l.getD k rwN = x := ⟨_, rfl⟩
      have hxat : RwAt y x := by rw [← hx]; exact (H.out.get h1).ext HE.out
      have hck := hcell k h1
      rw [hx] at hck
      have HXt := Lib.hid hxat
      have HCh := Lib.hid (show y.rangeAt b (off + k * 130 + 126) (chgL4 x) from rw_ch hck)
      have hct : y.cell? ⟨b, off + k * 130 + 53, none⟩ = some (.slice x.hd.1.ta x.hd.1.tn x.hd.1.tc) := hck 53 (by omega)
      obtain ⟨CV, hCV⟩ : ∃ z, chV x.op x.name (.slice x.ta x.tags.length x.tc) x.val = z := ⟨_, rfl⟩
      have HCV := Lib.hid (show (chgL4 x).toArray = CV by rw [chgL4_arr, hCV])
      have HCe := Lib.hid hCV
      have HCs := Lib.hid (show CV.size = 4 ∧ CV.all (·.oneCell') = true by rw [← hCV]; exact ⟨rfl, chV_one _ _ _ _ _ _⟩)
      have HLn := Lib.hid (show (chgL4 x).length = 4 by simp [chgL4])
      obtain ⟨L4, hL4⟩ : ∃ z, chgL4 x = z := ⟨_, rfl⟩
      rw [hL4] at HCh HCV HLn
      obtain ⟨tn, htn⟩ : ∃ z, x.hd.1.tn = z := ⟨_, rfl⟩
      rw [htn] at hct
      have Hct := Lib.hid hct
      clear hcell hx hck hxat hct hCV hL4 htn
      have hzc := zero_chg
      go_upto_region 5 with (first | (refine wp_ridx rfl _ _ rfl b off n c k rfl (by first | rfl | simp [Act.eval]) h1 ?_) | (refine wpList_load_mid rfl 34 (.tmp 21) rfl b _ rfl L4 _ HCh.out Try.underlying34 rfl (by rw [HLn.out]; kernel_rfl) ?_; rw [HCV.out]; simp only [Act.put, List.setIfInBounds_toArray, List.set_cons_zero, List.set_cons_succ]) | (refine wpList_store_row rfl 34 _ _ rfl y.heap.size _ rfl rfl _ _ (heap_new y _ _ rfl) (by rw [HCs.out.1]; kernel_rfl) (by rw [HCs.out.1]; rfl) HCs.out.2 ?_; rw [setRow_new y _ _ _ _ rfl]))
      obtain ⟨y2, hy2⟩ : ∃ z, y.alloc (.cells CV 34) = z := ⟨_, rfl⟩
      obtain ⟨g, hg⟩ : ∃ z, y.heap.size = z := ⟨_, rfl⟩
      have hB2 : y2.heap[g]? = some (.cells CV 34 (0, 0)) := by rw [← hy2]; exact heap_new y _ _ hg.symm
      have HE2 := Lib.hid (show Ext y y2 by rw [← hy2]; exact (Ext.refl y).alloc _)
      have hct : y2.cell? ⟨b, off + k * 130 + 53, none⟩ = some (.slice x.hd.1.ta tn x.hd.1.tc) := by rw [HE2.out.cell (World.block_lt_of_cell? _ _ Hct.out)]; exact Hct.out
      rw [← HCe.out] at hB2
      obtain ⟨-, hc1, hc2, hc3⟩ := ch_cell hB2
      obtain ⟨nm, hnm⟩ : ∃ z, x.name = z := ⟨_, rfl⟩
      obtain ⟨vl, hvl⟩ : ∃ z, x.val = z := ⟨_, rfl⟩
      obtain ⟨gn, hgn⟩ : ∃ z, x.tags.length = z := ⟨_, rfl⟩
      have hst := HXt.out.tags
      rw [hnm] at hc1
      rw [hvl] at hc3
      rw [hgn] at hc2 hst
      have HSt := Lib.hid (hst.ext HE2.out)
      rw [hg]
      refine wp_world (w' := y2) hy2 ?_
      clear hy2 hg hB2 hzc hnm hvl hgn hst
      by_cases q1 : 20 < tn
      · have z1 : (20 : Int) < (tn : Int) := by omega
        go_wp2_with (refine wp_ridx rfl _ _ rfl b off n c k rfl (by first | rfl | simp [Act.eval]) h1 ?_)
        go_ret
        exact ⟨false, rfl, fun h => (by cases h), HE.out.trans HE2.out⟩
      · have z1 : ¬ (20 : Int) < (tn : Int) := by omega
        by_cases q2 : 20 < gn
        · have z2 : (20 : Int) < (gn : Int) := by omega
          go_wp2_with (refine wp_ridx rfl _ _ rfl b off n c k rfl (by first | rfl | simp [Act.eval]) h1 ?_)
          go_ret
          exact ⟨false, rfl, fun h => (by cases h), HE.out.trans HE2.out⟩
        · have z2 : ¬ (20 : Int) < (gn : Int) := by omega
          by_cases q3 : 100 < nm.size
          · have z3 : (100 : Int) < (nm.size : Int) := by omega
            go_wp2_with (refine wp_ridx rfl _ _ rfl b off n c k rfl (by first | rfl | simp [Act.eval]) h1 ?_)
            go_ret
            exact ⟨false, rfl, fun h => (by cases h), HE.out.trans HE2.out⟩
          · have z3 : ¬ (100 : Int) < (nm.size : Int) := by omega
            by_cases q4 : 700 < vl.size
            · have z4 : (700 : Int) < (vl.size : Int) := by omega
              go_wp2_with (refine wp_ridx rfl _ _ rfl b off n c k rfl (by first | rfl | simp [Act.eval]) h1 ?_)
              go_ret
              exact ⟨false, rfl, fun h => (by cases h), HE.out.trans HE2.out⟩
            · have z4 : ¬ (700 : Int) < (vl.size : Int) := by omega
              have hgc := HSt.out.cap
              have hgl := HSt.out.lim
              go_wp2_with (refine wp_ridx rfl _ _ rfl b off n c k rfl (by first | rfl | simp [Act.eval]) h1 ?_)
              clear z1 z2 z3 z4 hct hc1 hc3
              go_loopw [7] (fun j y' => ∃ m : Nat, m ≤ gn ∧ j = .int .i64 (m : Int) ∧ y' = y2) (fun j _ => gn - (intOf j).toNat)
              case atStart => exact ⟨0, by omega, rfl, rfl⟩
              case round =>
                obtain ⟨m, hm, rfl, rfl⟩ := hrel
                by_cases hml : m < gn
                · have x5 : (m : Int) < (gn : Int) := by omega
                  obtain ⟨g3, of3, ha3, hc3⟩ := HSt.out.at_ (by omega)
                  rw [ha3] at hc2
                  obtain ⟨t, ht⟩ : ∃ z, x.tags.getD m ⟨#[]⟩ = z := ⟨_, rfl⟩
                  have hc4 := hc3 m hml
                  rw [ht] at hc4
                  clear hc3 ht
                  by_cases q5 : 100 < t.size
                  · have z5 : (100 : Int) < (t.size : Int) := by omega
                    go_wp2
                    go_ret
                    exact ⟨false, rfl, fun h => (by cases h), HE.out.trans HE2.out⟩
                  · have z5 : ¬ (100 : Int) < (t.size : Int) := by omega
                    go_wp2
                    go_roundw
                    case rel => exact ⟨m + 1, by omega, by go_num, trivial⟩
                    case measure => simp [intOf]; omega
                · have x5 : ¬ (m : Int) < (gn : Int) := by omega
                  go_wp2
                  go_roundw
                  case rel => exact ⟨k + 1, by omega, by omega, by go_num, HE.out.trans HE2.out⟩
                  case measure => simp [intOf]; omega
    · by_cases hM : (n : Int) ≤ M
      · by_cases h1 : k < n
        · have x1 : (k : Int) < (n : Int) := by omega
          have x2 : ¬ (k : Int) < 100 := by omega
          go_wp2
          go_ret
          exact ⟨true, rfl, fun _ => hM, HE.out⟩
        · have x1 : ¬ (k : Int) < (n : Int) := by omega
          go_wp2
          go_ret
          exact ⟨true, rfl, fun _ => hM, HE.out⟩
      · by_cases h1 : k < n
        · have x1 : (k : Int) < (n : Int) := by omega
          have x2 : ¬ (k : Int) < 100 := by omega
          go_wp2
          go_ret
          exact ⟨false, rfl, fun h => (by cases h), HE.out⟩
        · have x1 : ¬ (k : Int) < (n : Int) := by omega
          go_wp2
          go_ret
          exact ⟨false, rfl, fun h => (by cases h), HE.out⟩

end Go.Proofs.Ytldaligeckjhaaa
