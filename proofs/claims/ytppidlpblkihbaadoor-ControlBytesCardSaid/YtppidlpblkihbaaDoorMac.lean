/-
  The walk of hash.Mac: HMAC of the parts. Asked: the table of 64 words lies as the text lays it; key and parts are not longer than 2^38 bytes.
-/
import Derived.Test.YtppidlpblkihbaaDoorMacA
import Derived.Deep.Cut
namespace Go.Proofs.YtppidlpblkihbaaDoor
open Go.ChangeShapes Go.WideShapes Go.ChangeAt Go.RowKit

theorem KsAt.ext' {g : Nat} {w w' : World} (h : KsAt g w) (he : Ext w w') : KsAt g w' := fun i hi => by
  have hb := World.block_lt_of_cell? w _ (h i hi)
  rw [Ext.cell (p := ⟨g, i, none⟩) he hb]
  exact h i hi

theorem flat_one (xs : List Int) : [xs].flatten = xs := by simp
theorem flat_two (xs ys : List Int) : [xs, ys].flatten = xs ++ ys := by simp

theorem start_zero64b (T : TypeId) (w : World) : (w.alloc (.cells (Array.replicate 64 (.int .u8 0)) T)).rowIs w.heap.size T 64 (fun _ => .int .u8 0) :=
  World.rowIs_alloc w (Array.replicate 64 (.int .u8 0)) T (fun _ => .int .u8 0) (fun i hi => by
    simp at hi
    simp [hi])

/-- The key behind its first test. -/
def MacCut (key : List Int) (w : World) (H : Nat) (v : Value) (wc : World) : Prop :=
  ∃ ak nk ck, v = .slice ak nk ck ∧ nk ≤ 64 ∧ BsAt wc ak nk ck (macKey key) ∧ Ext w wc ∧ wc.rowIs H 23 32 (fun _ => .int .u8 0)

set_option maxHeartbeats 1000000 in
set_option maxRecDepth 100000 in
theorem mac_any (a : Option Addr) (n c : Nat) (key : List Int) (pa : Option Addr) (pn pc : Nat) (ls : List (List Int)) (w : World) (hkey : BsAt w a n c key) (h : PsAt w pa pn pc ls)
    (hs : ls.flatten.length ≤ 274877906944) (hn : pn ≤ 549755813888) (hnk : n ≤ 274877906944) (hk : KsAt 1 w) :
    Calls Tryd.prog 41 #[.slice a n c, .slice pa pn pc] w fun e w' => e = .returned (.agg (rowArr 32 fun j => .int .u8 (macF key ls.flatten j))) ∧ Ext w w' := by
  have hkl := hkey.len
  have hkc := hkey.cap
  have hkm := hkey.lim
  have hpc := h.cap
  have hpm := h.lim
  have HKey := Lib.hid hkey
  have H := Lib.hid h
  have HK := Lib.hid hk
  have Hkl := Lib.hid hkl
  clear hkey h hk hkl
  go_enter Tryd.func41, Tryd.ntmps41
  go_upto_if 12 with (fail)
  obtain ⟨wA, hwA⟩ : ∃ wA, w.alloc (.cells (Array.replicate 32 (.int .u8 0)) 23) = wA := ⟨_, rfl⟩
  have hEA : Ext w wA := by rw [← hwA]; exact (Ext.refl w).alloc _
  have hZA : wA.rowIs w.heap.size 23 32 (fun _ => .int .u8 0) := by rw [← hwA]; exact start_zero32 _ w
  have hsA : w.heap.size < wA.heap.size := by rw [← hwA]; simp
  refine wp_world (w' := wA) hwA ?_
  have hKA := (HKey.out.ext hEA)
  have HKA := Lib.hid hKA
  have HPA := Lib.hid (H.out.ext hEA)
  have HTA := Lib.hid (HK.out.ext' hEA)
  have HEA := Lib.hid hEA
  have HZA := Lib.hid hZA
  clear hwA hEA hZA hKA
  go_cut [0] from 10 (fun v wc => MacCut key w w.heap.size v wc)
  case first =>
    by_cases h64 : 64 < n
    · have x1 : (64 : Int) < (n : Int) := by omega
      have hP := ps_one HKA.out 41
      have hEP : Ext wA (wA.alloc (.cells #[.slice a n c] 41)) := (Ext.refl wA).alloc _
      have hsum := sum_any _ 1 1 [key] _ hP (by rw [flat_one, Hkl.out]; omega) (by decide) (HTA.out.ext' hEP)
      rw [flat_one] at hsum
      have HS := Lib.hid hsum
      have HEP := Lib.hid (HEA.out.trans hEP)
      clear hP hEP hsum
      go_wp2_with fail
      refine HS.out.mono ?_
      rintro e w1 ⟨rfl, hE1⟩
      have HE1 := Lib.hid hE1
      clear hE1
      go_wp2_with (refine wpList_store_row rfl 23 _ _ rfl w1.heap.size _ rfl rfl _ _ (heap_new w1 _ _ rfl) (by kernel_rfl) (by rw [rowArr_size]; rfl) (rowArr_one fun _ _ => rfl) ?_; rw [setRow_new w1 _ _ _ _ rfl])
      go_meet
      case rel =>
        refine ⟨_, _, _, rfl, by omega, ?_, (HEP.out.trans HE1.out).alloc _, ?_⟩
        · rw [macKey_long (by rw [Hkl.out]; exact h64)]
          exact bs_sha (rowIs_of (heap_new w1 _ _ rfl))
        · exact (HZA.out.of_block ((((Ext.refl wA).alloc _).trans HE1.out).block hsA)).alloc _
    · have x1 : ¬ (64 : Int) < (n : Int) := by omega
      go_wp2_with fail
      go_meet
      case rel => exact ⟨_, _, _, rfl, by omega, by rw [macKey_short (by rw [Hkl.out]; omega)]; exact HKA.out, HEA.out, HZA.out⟩
  case rest =>
    obtain ⟨ak, nk, ck, rfl, hnk64, hB, hE, hZ⟩ := hcut
    have hbc := hB.cap
    have hbl := hB.lim
    have hbd := hB.byte
    obtain ⟨kk, hkk⟩ : ∃ kk, macKey key = kk := ⟨_, rfl⟩
    have hmac : ∀ j, macF key ls.flatten j = shaF (padK 92 kk ++ shaL (padK 54 kk ++ ls.flatten)) j := fun j => by rw [← hkk]; rfl
    rw [hkk] at hB hbd
    have Hmac := Lib.hid hmac
    have hPc := H.out.ext hE
    have hTc := HK.out.ext' hE
    have hsc := Below.size hE
    have hlt0 : w.heap.size < wc.heap.size := hZ.lt
    clear hmac hkk HKA HPA HTA HEA HZA hsA
    go_upto_region 5 with (fail)
    obtain ⟨w1, hw1⟩ : ∃ w1, (wc.alloc (.cells (Array.replicate 64 (.int .u8 0)) 108)).alloc (.cells (Array.replicate 64 (.int .u8 0)) 108) = w1 := ⟨_, rfl⟩
    have hE1 : Ext wc w1 := by rw [← hw1]; exact ((Ext.refl wc).alloc _).alloc _
    have hI1 : w1.rowIs wc.heap.size 108 64 (fun _ => .int .u8 0) := by rw [← hw1]; exact (start_zero64b _ wc).alloc _
    have hO1 : w1.rowIs (wc.heap.size + 1) 108 64 (fun _ => .int .u8 0) := by
      rw [← hw1]
      have := start_zero64b 108 (wc.alloc (.cells (Array.replicate 64 (.int .u8 0)) 108))
      rwa [show (wc.alloc (.cells (Array.replicate 64 (.int .u8 0)) 108)).heap.size = wc.heap.size + 1 by simp] at this
    have hs1 : wc.heap.size + 1 < w1.heap.size := hO1.lt
    refine wp_world (w' := w1) hw1 ?_
    obtain ⟨g, hg⟩ : ∃ g, wc.heap.size = g := ⟨_, rfl⟩
    rw [hg] at hI1 hO1 hs1 hlt0 hsc ⊢
    have hsg : ∀ x, Ext wc x → g ≤ x.heap.size := fun x hx => by rw [← hg]; exact Below.size hx
    have Hsg := Lib.hid hsg
    have HE := Lib.hid hE
    have HE1 := Lib.hid hE1
    have HPc := Lib.hid hPc
    have HTc := Lib.hid hTc
    have HZ1 := Lib.hid (hZ.of_block (hE1.block (by omega)))
    have HB := Lib.hid (hB.ext hE1)
    have HBc := Lib.hid hB
    have Hg := Lib.hid hg
    have HI1 := Lib.hid hI1
    have HO1 := Lib.hid hO1
    clear hw1 hg hsg hE hE1 hPc hTc hZ hB hI1 hO1 hbd
    go_wp2_with (refine copy_bs rfl (.tmp 17) (.tmp 18) rfl g 0 64 64 64 108 (fun _ => .int .u8 0) rfl HI1.out (by omega) ak nk ck kk rfl HB.out nk (show nk = min nk 64 by omega) ?_)
    intro w2 hI2 hG2
    have hkl := HB.out.len
    have hI2' : w2.rowIs g 108 64 (fun j => .int .u8 (kk.getD j 0)) := hI2.congr fun j _ => by
      by_cases hj : j < nk
      · rw [if_pos (by omega)]
        simp [List.getD_eq_getElem?_getD]
      · rw [if_neg (by omega), List.getD_eq_getElem?_getD, List.getElem?_eq_none (by omega)]
        rfl
    have hO2 : w2.rowIs (g + 1) 108 64 (fun _ => .int .u8 0) := HO1.out.of_block (hG2.block _ (by omega) (fun e => by injection e with e; omega))
    have HI2 := Lib.hid hI2'
    have HO2 := Lib.hid hO2
    have HE2 := Lib.hid (ext_grown HE1.out hG2 (Nat.le_of_eq Hg.out))
    have HZ2 := Lib.hid (HZ1.out.of_block (hG2.block _ (by omega) (fun e => by injection e with e; omega)))
    have HB2 := Lib.hid (HBc.out.ext HE2.out)
    clear hI2 hI2' hO2 hG2 HI1 HO1 HZ1 HB HE1 hkl
    go_wp2_with (refine copy_bs rfl (.tmp 20) (.tmp 21) rfl (g + 1) 0 64 64 64 108 (fun _ => .int .u8 0) rfl HO2.out (by omega) ak nk ck kk rfl HB2.out nk (show nk = min nk 64 by omega) ?_)
    intro w3 hO3 hG3
    have hkl := HB2.out.len
    have hO3' : w3.rowIs (g + 1) 108 64 (fun j => .int .u8 (kk.getD j 0)) := hO3.congr fun j _ => by
      by_cases hj : j < nk
      · rw [if_pos (by omega)]
        simp [List.getD_eq_getElem?_getD]
      · rw [if_neg (by omega), List.getD_eq_getElem?_getD, List.getElem?_eq_none (by omega)]
        rfl
    have hs2 := HO2.out.lt
    have HI3 := Lib.hid (HI2.out.of_block (hG3.block _ (by omega) (fun e => by injection e with e; omega)))
    have HO3 := Lib.hid hO3'
    have HE3 := Lib.hid (ext_grown HE2.out hG3 (by have := Hg.out; omega))
    have HZ3 := Lib.hid (HZ2.out.of_block (hG3.block _ (by omega) (fun e => by injection e with e; omega)))
    clear hO3 hO3' hG3 HI2 HO2 HZ2 HE2 HB2 hkl hs2
    have hsW := Hsg.out _ HE3.out
    go_wp2
    go_loopw [23] (fun i wr => ∃ k : Nat, k ≤ 64 ∧ i = .int .i64 (k : Int) ∧ wr.rowIs g 108 64 (fun j => .int .u8 (if j < k then bits .xor .u8 (kk.getD j 0) 54 else kk.getD j 0)) ∧ wr.rowIs (g + 1) 108 64 (fun j => .int .u8 (if j < k then bits .xor .u8 (kk.getD j 0) 92 else kk.getD j 0)) ∧ wr.rowIs w.heap.size 23 32 (fun _ => .int .u8 0) ∧ Ext wc wr) (fun i _ => 64 - (intOf i).toNat)
    case atStart => exact ⟨0, Nat.zero_le _, rfl, HI3.out.congr fun j _ => by simp, HO3.out.congr fun j _ => by simp, HZ3.out, HE3.out⟩
    case round =>
      obtain ⟨k, hk, rfl, hI, hO, hZ, hE⟩ := hrel
      by_cases hlt : k < 64
      · have c1 := hI.cell hlt
        have f1 := hI.frozen k
        have c2 := hO.cell hlt
        have f2 := hO.frozen k
        simp only [Nat.lt_irrefl, if_false] at c1 c2
        have HI := Lib.hid hI
        have HO := Lib.hid hO
        have HZ := Lib.hid hZ
        have HE := Lib.hid hE
        clear hI hO hZ hE
        go_wp2
        go_roundw
        case rel =>
          have hszr := Hsg.out _ HE.out
          refine ⟨k + 1, by omega, by go_num, ?_, ?_, (HZ.out.setOther (by show w.heap.size ≠ g; omega) _).setOther (by show w.heap.size ≠ g + 1; omega) _, ?_⟩
          · refine ((HI.out.set k _).setOther (by show g ≠ g + 1; omega) _).congr fun j hj => ?_
            by_cases hjk : j = k
            · subst hjk
              rw [if_pos rfl, if_pos (by omega), List.getD_eq_getElem?_getD]
            · rw [if_neg hjk]
              by_cases h2 : j < k
              · rw [if_pos h2, if_pos (by omega)]
              · rw [if_neg h2, if_neg (by omega)]
          · refine ((HO.out.setOther (by show g + 1 ≠ g; omega) _).set k _).congr fun j hj => ?_
            by_cases hjk : j = k
            · subst hjk
              rw [if_pos rfl, if_pos (by omega), List.getD_eq_getElem?_getD]
            · rw [if_neg hjk]
              by_cases h2 : j < k
              · rw [if_pos h2, if_pos (by omega)]
              · rw [if_neg h2, if_neg (by omega)]
          · have hg0 := Hg.out
            have hb1 : wc.heap.size ≤ (⟨g, k, none⟩ : Addr).block := by show wc.heap.size ≤ g; omega
            have hb2 : wc.heap.size ≤ (⟨g + 1, k, none⟩ : Addr).block := by show wc.heap.size ≤ g + 1; omega
            exact (Below.setCell HE.out hb1 _).setCell hb2 _
        case measure => simp [intOf]; omega
      · obtain rfl : k = 64 := by omega
        have hszr := Hsg.out _ hE
        have hin : BsAt wr (some ⟨g, 0, none⟩) 64 64 (padK 54 kk) := by
          refine bs_row (f := fun j => bits .xor .u8 (kk.getD j 0) 54) (hI.congr fun j hj => by rw [if_pos hj]) (fun j _ => ?_) (by omega)
          have h1 := bits_lo_u8 .xor (kk.getD j 0) 54
          have h2 := bits_hi_u8 .xor (kk.getD j 0) 54
          omega
        have hou : BsAt wr (some ⟨g + 1, 0, none⟩) 64 64 (padK 92 kk) := by
          refine bs_row (f := fun j => bits .xor .u8 (kk.getD j 0) 92) (hO.congr fun j hj => by rw [if_pos hj]) (fun j _ => ?_) (by omega)
          have h1 := bits_lo_u8 .xor (kk.getD j 0) 92
          have h2 := bits_hi_u8 .xor (kk.getD j 0) 92
          omega
        have hltw := hZ.lt
        have hEq : Ext wr (wr.alloc (.cells #[.slice (some ⟨g, 0, none⟩) 64 64] 41)) := (Ext.refl wr).alloc _
        have hown := World.ownsRow_lit (base := wr.heap.size) (e := 41) (size := 1) wr #[.slice (some ⟨g, 0, none⟩) 64 64] 1 (Nat.le_refl _) (by unfold maxLen; omega) rfl
        have Hin := Lib.hid hin
        have Hou := Lib.hid hou
        have HEr := Lib.hid hE
        have HEq := Lib.hid (hE.trans hEq)
        have HZr := Lib.hid hZ
        have Hown := Lib.hid hown
        clear hI hO hZ hE hin hou hEq hown
        rw [show ((64 : Nat) : Int) = 64 from rfl]
        go_wp2_with (at_builtin; refine append_ps rfl (.tmp 38) (.tmp 39) rfl wr.heap.size _ 1 _ rfl Hown.out pa pn pc ls rfl wc HPc.out HEq.out (by omega) (by simp) ?_)
        intro v' w4 vs hV hown4 hB4
        obtain ⟨ao, co, rfl, hco1, hco2⟩ := owns_slice' hown4
        have hE4 : Ext wr w4 := ((Ext.refl wr).alloc _).trans' hB4
        have hEc4 := HEr.out.trans hE4
        have hps := owns_ps hown4 (((PsV.one Hin.out).ext hE4).append (hV.ext hEc4)) (by unfold maxLen at hco2; omega)
        have hfl : ([padK 54 kk] ++ ls).flatten = padK 54 kk ++ ls.flatten := by simp
        have hsum := sum_any ao (1 + pn) co _ w4 hps (by rw [hfl, List.length_append, padK_length]; omega) (by omega) (HTc.out.ext' hEc4)
        rw [hfl] at hsum
        have HS := Lib.hid hsum
        have HE4 := Lib.hid hE4
        have HEc4 := Lib.hid hEc4
        clear hsum hps hfl hown4 hB4 hE4 hEc4 Hown HEq hV
        go_wp2_with fail
        refine HS.out.mono ?_
        rintro e w5 ⟨rfl, hE5⟩
        obtain ⟨xi, hxi⟩ : ∃ xi, padK 54 kk ++ ls.flatten = xi := ⟨_, rfl⟩
        rw [hxi] at Hmac ⊢
        have hE45 := HE4.out.trans hE5
        have HOu5 := Lib.hid (Hou.out.ext hE45)
        have HT5 := Lib.hid (HTc.out.ext' (HEr.out.trans hE45))
        have HZ5 := Lib.hid (HZr.out.of_block (hE45.block hltw))
        have HE5 := Lib.hid (HE.out.trans (HEr.out.trans hE45))
        have hlt5 : w.heap.size < w5.heap.size := HZ5.out.lt
        clear hE5 hE45 hxi HS HE4 HEc4 Hou HZr Hin
        go_wp2_with (refine wpList_store_row rfl 23 _ _ rfl w5.heap.size _ rfl rfl _ _ (heap_new w5 _ _ rfl) (by kernel_rfl) (by rw [rowArr_size]; rfl) (rowArr_one fun _ _ => rfl) ?_; rw [setRow_new w5 _ _ _ _ rfl])
        obtain ⟨w6, hw6⟩ : ∃ w6, w5.alloc (.cells (rowArr 32 fun j => .int .u8 (shaF xi j)) 23) = w6 := ⟨_, rfl⟩
        have hE6 : Ext w5 w6 := by rw [← hw6]; exact (Ext.refl w5).alloc _
        have hR6 : w6.rowIs w5.heap.size 23 32 (fun j => .int .u8 (shaF xi j)) := by rw [← hw6]; exact rowIs_of (heap_new w5 _ _ rfl)
        refine wp_world (w' := w6) hw6 ?_
        have hV6 := (PsV.one (HOu5.out.ext hE6)).append (PsV.one (bs_sha hR6))
        have HV6 := Lib.hid hV6
        have HT6 := Lib.hid (HT5.out.ext' hE6)
        have HZ6 := Lib.hid (HZ5.out.of_block (hE6.block hlt5))
        have HE6 := Lib.hid (HE5.out.trans hE6)
        have hlt6 : w.heap.size < w6.heap.size := HZ6.out.lt
        clear hw6 hE6 hR6 hV6 HOu5 HT5 HZ5 HE5
        simp only [Act.put]
        refine wp_region_quietT 2 (by kernel_rfl) (by kernel_rfl) ?_
        simp only [List.take_succ_cons, List.take_zero, List.drop_succ_cons, List.drop_zero]
        repeat (go_big_quiet_step (fail))
        refine wpQuiet_nil ?_
        intro _ hw'
        obtain ⟨nq, hw''⟩ := hw'
        subst hw''
        have hP7 := ps_new (w := w6.drewN nq) (vs := [.slice (some ⟨g + 1, 0, none⟩) 64 64, .slice (some ⟨w5.heap.size, 0, none⟩) 32 32]) (HV6.out.drewN nq) 41 (by omega)
        have hE7 : Ext w6 ((w6.drewN nq).alloc (.cells #[.slice (some ⟨g + 1, 0, none⟩) 64 64, .slice (some ⟨w5.heap.size, 0, none⟩) 32 32] 41)) := ((Ext.refl w6).drewN' nq).alloc _
        have hsum := sum_any _ 2 2 _ _ hP7 (by simp [padK_length, shaL_length]) (by omega) (HT6.out.ext' hE7)
        rw [show ([padK 92 kk] ++ [shaL xi]).flatten = padK 92 kk ++ shaL xi by simp] at hsum
        have HS := Lib.hid hsum
        have HE7 := Lib.hid hE7
        clear hP7 hE7 hsum HV6 HT6
        go_wp2_with fail
        refine HS.out.mono ?_
        rintro e w8 ⟨rfl, hE8⟩
        have hE8' := HE7.out.trans hE8
        have hz := rowIs_cells (HZ6.out.of_block (hE8'.block hlt6))
        have Hz := Lib.hid hz
        have HE8 := Lib.hid (HE6.out.trans hE8')
        clear hz hE8 hE8' HS HE7 HZ6 HE6
        go_wp2_with (refine wpList_store_row rfl 23 _ _ rfl _ _ rfl rfl _ _ Hz.out (by kernel_rfl) (by rw [rowArr_size, rowArr_size]) (rowArr_one fun _ _ => rfl) ?_)
        refine bodyPost_ret (results_cell_row rfl _ _ w.heap.size _ _ _ _ rfl (setRow_heap w8 w.heap.size _ _ _ _ Hz.out) Tryd.underlying23 rfl (by kernel_rfl)) rfl ⟨?_, ?_⟩
        · simp only [Hmac.out]
        · exact below_setRow HE8.out (Nat.le_refl _) _

end Go.Proofs.YtppidlpblkihbaaDoor
