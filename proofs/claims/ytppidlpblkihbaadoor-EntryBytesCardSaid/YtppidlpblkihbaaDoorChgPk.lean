/-
  The walk of entry.PackChange. No conditions.
-/
import Derived.Test.YtppidlpblkihbaaDoorChgP
namespace Go.Proofs.YtppidlpblkihbaaDoor
open Go.ChangeShapes Go.WideShapes Go.ChangeAt Go.RowKit

theorem chV_one (op : Int) (name : ByteArray) (a : Option Addr) (n c : Nat) (value : ByteArray) : (chV op name (.slice a n c) value).all (·.oneCell') = true := by simp [chV, Value.oneCell']

theorem SsAt.outStep {w w4 wk : World} {a : Option Addr} {n c g : Nat} {ss : List ByteArray} {v : Value} (h : SsAt w a n c ss) (h4 : Ext w w4) (hg : w.heap.size ≤ g) (hS : OutStep w4 wk g (.slice none 0 0) v) : SsAt wk a n c ss := by
  refine ⟨h.len, h.cap, h.lim, h.small, fun h0 => ?_⟩
  obtain ⟨b, off, rfl, hc⟩ := h.at_ h0
  refine ⟨b, off, rfl, fun i hi => ?_⟩
  have h1 := hc i hi
  have hlt : b < w.heap.size := World.block_lt_of_cell? w _ h1
  have hlt4 := Nat.lt_of_lt_of_le hlt (Below.size h4)
  have h2 : w4.cell? ⟨b, off + i, none⟩ = some (.string (ss.getD i ByteArray.empty)) := by rw [Ext.cell h4 hlt]; exact h1
  exact (World.cell?_of_block (hS.block b hlt4 (by omega) (by simp [Value.ownBlock]))).trans h2

/-- Bytes in a block made behind an Out's own lie apart from it. -/
theorem OutAt.apart_new {w : World} {g : Nat} {v : Value} {xs : List Int} {long : Bool} (h : OutAt w g v xs long) (n : Nat) : Apart (some ⟨w.heap.size, 0, none⟩) n g v := by
  intro _ b off e
  simp only [Option.some.injEq, Addr.mk.injEq, and_true] at e
  obtain ⟨rfl, rfl⟩ := e
  have h1 : g < w.heap.size := (Array.getElem?_eq_some_iff.1 h.blk).1
  exact ⟨by omega, fun e => by have := (h.own.lt _ e.symm).2; omega⟩

set_option maxHeartbeats 2000000 in
set_option maxRecDepth 100000 in
theorem packCh_bad (op : Int) (name : ByteArray) (ta : Option Addr) (tn tc : Nat) (ss : List ByteArray) (value : ByteArray) (w : World) (hf : changeB op name ss value = false) (h : SsAt w ta tn tc ss) (hn : name.size ≤ 9223372036854775807) (hv : value.size ≤ 9223372036854775807) (hs : ∀ s ∈ ss, s.size ≤ 9223372036854775807) :
    Calls Tryd.prog 59 #[.agg (chV op name (.slice ta tn tc) value)] w fun e w' => e = .returned (.tuple #[.slice none 0 0, .int .i64 1]) ∧ Ext w w' := by
  obtain ⟨CV, hCV⟩ : ∃ CV, chV op name (.slice ta tn tc) value = CV := ⟨_, rfl⟩
  have hsz : CV.size = 4 := by rw [← hCV]; rfl
  have HF := Lib.hid (show ∀ w9, Ext w w9 → Calls Tryd.prog 84 #[.agg CV] w9 fun e w' => e = .returned (.bool false) ∧ Ext w9 w' from fun w9 h9 => by
    have h1 := formedCh_any op name ta tn tc ss value w9 (h.ext h9) hn hv hs
    rw [hCV, hf] at h1
    exact h1)
  rw [hCV]
  obtain ⟨w2, hw2⟩ : ∃ w2, w.alloc (.cells CV 91) = w2 := ⟨_, rfl⟩
  have hE2 : Ext w w2 := by rw [← hw2]; exact (Ext.refl w).alloc _
  have hB2 : w2.heap[w.heap.size]? = some (.cells CV 91 (0, 0)) := by rw [← hw2]; exact heap_new w _ _ rfl
  have Hw2 := Lib.hid hw2
  have HE2 := Lib.hid hE2
  obtain ⟨g, hg⟩ : ∃ g, w.heap.size = g := ⟨_, rfl⟩
  rw [hg] at hB2
  have HB2 := Lib.hid hB2
  have Hg := Lib.hid hg
  have Hsz := Lib.hid hsz
  clear hw2 hE2 hB2 hg hsz hCV hf h hs
  go_enter Tryd.func59, Tryd.ntmps59
  go_upto_region 1 with (fail)
  refine wp_world (w' := w2) Hw2.out ?_
  rw [Hg.out]
  clear Hw2
  go_wp2_with (refine wpList_load_rowW rfl 91 _ rfl g rfl _ _ _ _ HB2.out Tryd.underlying91 rfl (by rw [Hsz.out]; kernel_rfl) ?_)
  refine (HF.out w2 HE2.out).mono ?_
  rintro e w3 ⟨rfl, hE3⟩
  have HE3 := Lib.hid (HE2.out.trans hE3)
  clear hE3
  go_wp2
  go_ret2
  exact ⟨rfl, HE3.out⟩

set_option maxHeartbeats 4000000 in
set_option maxRecDepth 100000 in
theorem packCh_any (op : Int) (name : ByteArray) (ta : Option Addr) (tn tc : Nat) (ss : List ByteArray) (value : ByteArray) (w : World) (hf : changeB op name ss value = true) (h : SsAt w ta tn tc ss) (hs : ∀ s ∈ ss, s.size ≤ 9223372036854775807) :
    Calls Tryd.prog 59 #[.agg (chV op name (.slice ta tn tc) value)] w fun e w' => ∃ q n c, e = .returned (.tuple #[.slice q n c, .int .i64 0]) ∧ BsAt w' q n c (chgL op name ss value) ∧ Ext w w' := by
  obtain ⟨⟨ho1, ho2⟩, hns, hts, htg, hvs⟩ := changeB_bd hf
  obtain ⟨CV, hCV⟩ : ∃ CV, chV op name (.slice ta tn tc) value = CV := ⟨_, rfl⟩
  have hsz : CV.size = 4 := by rw [← hCV]; rfl
  have HF := Lib.hid (show ∀ w9, Ext w w9 → Calls Tryd.prog 84 #[.agg CV] w9 fun e w' => e = .returned (.bool true) ∧ Ext w9 w' from fun w9 h9 => by
    have h1 := formedCh_any op name ta tn tc ss value w9 (h.ext h9) (by omega) (by omega) hs
    rw [hCV, hf] at h1
    exact h1)
  rw [hCV]
  obtain ⟨w2, hw2⟩ : ∃ w2, w.alloc (.cells CV 91) = w2 := ⟨_, rfl⟩
  have hE2 : Ext w w2 := by rw [← hw2]; exact (Ext.refl w).alloc _
  have hB2 : w2.heap[w.heap.size]? = some (.cells CV 91 (0, 0)) := by rw [← hw2]; exact heap_new w _ _ rfl
  have Hw2 := Lib.hid hw2
  have HE2 := Lib.hid hE2
  obtain ⟨g, hg⟩ : ∃ g, w.heap.size = g := ⟨_, rfl⟩
  rw [hg] at hB2
  have HB2 := Lib.hid hB2
  have Hg := Lib.hid hg
  have Hsz := Lib.hid hsz
  have HCV := Lib.hid hCV
  have Hlen := Lib.hid h.len
  have hlen := h.len
  have H := Lib.hid h
  have Htg := Lib.hid htg
  have wo : IntKind.u64.wrap op = op := by rw [IntKind.wrap_u64]; omega
  have wt : IntKind.u64.wrap (tn : Int) = (tn : Int) := by rw [IntKind.wrap_u64]; omega
  have ho := numL_length_le op
  have hnl := textL_le (strB name)
  have htl := numL_length_le (tn : Int)
  have hvl := textL_le (strB value)
  rw [strB_length] at hnl hvl
  obtain ⟨P, hP⟩ : ∃ P : Nat → List Int, P = fun k => numL op ++ textL (strB name) ++ numL (tn : Int) ++ tagsL ss k := ⟨_, rfl⟩
  have HP0 := Lib.hid (show P 0 = [] ++ numL op ++ textL (strB name) ++ numL (tn : Int) by rw [hP]; simp [tagsL])
  have HPs := Lib.hid (show ∀ k, P (k + 1) = P k ++ textL (strB (ss.getD k ByteArray.empty)) by intro k; rw [hP]; simp [tagsL])
  have HP6 := Lib.hid (show chgL op name ss value = P tn ++ textL (strB value) by rw [hP]; unfold chgL; rw [hlen])
  have HPl := Lib.hid (show ∀ k, k ≤ tn → (P k).length ≤ 400 by
    intro k hk
    have h1 := tagsL_le ss ss.length htg k (by omega)
    rw [hP]
    simp only [List.length_append]
    omega)
  have HPb := Lib.hid (chgL_byte (show 0 ≤ op by omega) name ss value)
  rw [hlen] at hts
  clear hw2 hE2 hB2 hg hsz hCV hf h hs htg hP hlen
  go_enter Tryd.func59, Tryd.ntmps59
  go_upto_region 1 with (fail)
  refine wp_world (w' := w2) Hw2.out ?_
  rw [Hg.out]
  clear Hw2
  go_wp2_with (refine wpList_load_rowW rfl 91 _ rfl g rfl _ _ _ _ HB2.out Tryd.underlying91 rfl (by rw [Hsz.out]; kernel_rfl) ?_)
  refine (HF.out w2 HE2.out).mono ?_
  rintro e w3 ⟨rfl, hE3⟩
  have HE3 := Lib.hid (HE2.out.trans hE3)
  have HB3 := Lib.hid (hE3.keep HB2.out)
  clear hE3
  go_upto_region 4 with (fail)
  obtain ⟨w4, hw4⟩ : ∃ w4, w3.alloc (.cells #[.slice none 0 0, .bool false] 83) = w4 := ⟨_, rfl⟩
  have hE4 : Ext w3 w4 := by rw [← hw4]; exact (Ext.refl w3).alloc _
  have hO4 : OutAt w4 w3.heap.size (.slice none 0 0) [] false := by rw [← hw4]; exact out_new w3
  refine wp_world (w' := w4) hw4 ?_
  obtain ⟨gO, hgO⟩ : ∃ g, w3.heap.size = g := ⟨_, rfl⟩
  rw [hgO] at hO4 ⊢
  have HO4 := Lib.hid hO4
  have HE4 := Lib.hid (HE3.out.trans hE4)
  have hB4 := hE4.keep HB3.out
  have hgg : g < w3.heap.size := (Array.getElem?_eq_some_iff.1 HB3.out).1
  have hgne : g ≠ gO := by omega
  have hwg : w.heap.size ≤ gO := by have := Below.size HE3.out; omega
  have HB4 := Lib.hid hB4
  rw [← HCV.out] at hB4
  obtain ⟨c0, c1, c2, c3⟩ := ch_cell hB4
  have Hgne := Lib.hid hgne
  have Hwg := Lib.hid hwg
  clear hw4 hE4 hO4 hB4 hgg hgne hgO hwg HB2 HB3 HE2 HE3 HF Hg
  go_wp2_with fail
  refine (oNum_any gO _ [] false op w4 HO4.out (by omega) (by omega) (by simp)).mono ?_
  rintro e w5 ⟨rfl, v5, hO5, hS5⟩
  have HO5 := Lib.hid hO5
  have HS5 := Lib.hid hS5
  have hB5 := hS5.keep HB4.out Hgne.out
  rw [← HCV.out] at hB5
  have d1 := (ch_cell hB5).2.1
  have l5 : ([] ++ numL op).length ≤ 10 := by simpa using ho
  have L5 := Lib.hid l5
  clear hO5 hS5 hB5 c0 c1 c2 c3 l5
  go_wp2_with (refine conv_bs rfl (.tmp 15) rfl name rfl (by omega) ?_; intro cc w5b hb5 hE5)
  have HT6 := Lib.hid (oText_any gO v5 _ (strB name) false _ name.size cc w5b (HO5.out.ext hE5) hb5 (HO5.out.apart_new _) (by omega) (by have := L5.out; omega))
  have HS5b := Lib.hid (HS5.out.then hE5)
  clear hb5 hE5 d1
  refine HT6.out.mono ?_
  rintro e w6 ⟨rfl, v6, hO6, hS6⟩
  have HO6 := Lib.hid hO6
  have HS6 := Lib.hid (HS5b.out.trans hS6)
  have hB6 := HS6.out.keep HB4.out Hgne.out
  rw [← HCV.out] at hB6
  have d2 := (ch_cell hB6).2.2.1
  have l6 : ([] ++ numL op ++ textL (strB name)).length ≤ 60 := by simp; omega
  have L6 := Lib.hid l6
  clear hO6 hS6 hB6 l6 HO5 HS5 HS5b HT6
  go_wp2_with fail
  refine (oNum_any gO v6 _ false (tn : Int) w6 HO6.out (by omega) (by omega) (by have := L6.out; omega)).mono ?_
  rintro e w7 ⟨rfl, v7, hO7, hS7⟩
  rw [← HP0.out] at hO7
  have HO7 := Lib.hid hO7
  have HS7 := Lib.hid (HS6.out.trans hS7)
  have hB7 := HS7.out.keep HB4.out Hgne.out
  rw [← HCV.out] at hB7
  have e2 := (ch_cell hB7).2.2.1
  clear hO7 hS7 hB7 d2 HO6 HS6
  go_wp2
  go_loopw [26] (fun i wr => ∃ (k : Nat) (v : Value), k ≤ tn ∧ i = .int .i64 (k : Int) ∧ OutAt wr gO v (P k) false ∧ OutStep w4 wr gO (.slice none 0 0) v) (fun i _ => tn - (intOf i).toNat)
  case atStart => exact ⟨0, v7, by omega, rfl, HO7.out, HS7.out⟩
  case round =>
    obtain ⟨k, v, hk, rfl, hO, hS⟩ := hrel
    have hPl := HPl.out k hk
    have HO := Lib.hid hO
    have HS := Lib.hid hS
    clear hO hS e2
    by_cases hlt : k < tn
    · have x1 : (k : Int) < (tn : Int) := by omega
      have hss := H.out.outStep HE4.out Hwg.out HS.out
      obtain ⟨bt, offt, rfl, hcell⟩ := hss.at_ (by omega)
      have hck := hcell k hlt
      have hsk := Htg.out k (by have := Hlen.out; omega)
      have hPs := HPs.out k
      obtain ⟨S, hSS⟩ : ∃ S, ss.getD k ByteArray.empty = S := ⟨_, rfl⟩
      rw [hSS] at hck hsk hPs
      have HPs' := Lib.hid hPs
      clear hss hcell hPs hSS
      go_wp2_with (refine conv_bs rfl (.tmp 30) rfl S rfl (by omega) ?_; intro cc w8b hb8 hE8)
      have HT8 := Lib.hid (oText_any gO v _ (strB S) false _ S.size cc w8b (HO.out.ext hE8) hb8 (HO.out.apart_new _) (by omega) (by omega))
      have HS8b := Lib.hid (HS.out.then hE8)
      clear hb8 hE8 hck
      refine HT8.out.mono ?_
      rintro e w8 ⟨rfl, v8, hO8, hS8⟩
      rw [← HPs'.out] at hO8
      have HO8 := Lib.hid hO8
      have HS8 := Lib.hid (HS8b.out.trans hS8)
      clear hO8 hS8 HT8 HS8b
      go_wp2
      go_roundw
      case rel => exact ⟨k + 1, v8, by omega, by go_num, HO8.out, HS8.out⟩
      case measure => simp [intOf]; omega
    · obtain rfl : k = tn := by omega
      have hBr := HS.out.keep HB4.out Hgne.out
      rw [← HCV.out] at hBr
      have d3 := (ch_cell hBr).2.2.2
      have x1 : ¬ (k : Int) < (k : Int) := by omega
      clear hBr
      go_wp2_with (refine conv_bs rfl (.tmp 35) rfl value rfl (by omega) ?_; intro cc w8b hb8 hE8)
      have HT8 := Lib.hid (oText_any gO v _ (strB value) false _ value.size cc w8b (HO.out.ext hE8) hb8 (HO.out.apart_new _) (by omega) (by omega))
      have HS8b := Lib.hid (HS.out.then hE8)
      clear hb8 hE8 d3
      refine HT8.out.mono ?_
      rintro e w8 ⟨rfl, v8, hO8, hS8⟩
      rw [← HP6.out] at hO8
      have HS8 := Lib.hid (HS8b.out.trans hS8)
      have hlC : (chgL op name ss value).length ≤ 16384 := by rw [HP6.out, List.length_append]; omega
      have HEn := Lib.hid (oEnd_any gO v8 _ w8 hO8 HPb.out hlC)
      clear hO8 hS8 HT8 HS8b hlC
      go_wp2_with fail
      refine HEn.out.mono ?_
      rintro e w9 ⟨q, cq, rfl, hbq, hE9⟩
      obtain ⟨N, hN⟩ : ∃ N, (chgL op name ss value).length = N := ⟨_, rfl⟩
      rw [hN] at hbq ⊢
      have HBQ := Lib.hid hbq
      have HE9 := Lib.hid (OutStep.ext HE4.out (HS8.out.then hE9) Hwg.out (fun r e => by simp [Value.ownBlock] at e))
      clear hbq hE9 hN
      go_wp2
      go_ret2
      exact ⟨q, _, cq, rfl, HBQ.out, HE9.out⟩

end Go.Proofs.YtppidlpblkihbaaDoor
