/-
  The walks of jalousieref12.text and PackChange. No conditions but lengths.
-/
import Derived.Test.YtppidlpblkihbaaChgQ
import Derived.Test.YtppidlpblkihbaaCore
namespace Go.Proofs.Ytppidlpblkihbaa
open Go.ChangeShapes Go.WideShapes Go.ChangeAt Go.RowKit

set_option maxHeartbeats 1000000 in
set_option maxRecDepth 100000 in
theorem refText12_any (s : ByteArray) (w : World) (hs : s.size ≤ 4096) :
    Calls Try.prog 39 #[.string s] w fun e w' => ∃ v, e = .returned v ∧ w'.ownsRow w.heap.size 5 1 v (textL (strB s)).length (bv (textL (strB s))) ∧ Ext w w' := by
  have hl := strB_length s
  have hN := refNum_any (s.size : Int) (by omega) (by omega) w
  have hle := numL_length_le (s.size : Int)
  have e1 : (textL (strB s)).length = (numL (s.size : Int)).length + s.size := by unfold textL; rw [List.length_append, hl]
  have e2 : textL (strB s) = numL (s.size : Int) ++ strB s := by unfold textL; rw [hl]
  have HN := Lib.hid hN
  have E1 := Lib.hid e1
  have E2 := Lib.hid e2
  have hw : IntKind.u64.wrap (s.size : Int) = (s.size : Int) := by rw [IntKind.wrap_u64]; omega
  clear hN e1 e2 hl
  obtain ⟨L, hL⟩ : ∃ L, numL (s.size : Int) = L := ⟨_, rfl⟩
  rw [hL] at HN E1 E2 hle
  clear hL
  go_enter Try.func39, Try.ntmps39
  go_wp2_with fail
  refine HN.out.mono ?_
  rintro e w1 ⟨v1, rfl, hown, hE⟩
  obtain ⟨a1, cc1, rfl, _, _⟩ := owns_slice hown
  have HO := Lib.hid hown
  have HE := Lib.hid hE
  have hsz := Below.size hE
  clear hown hE
  have HK := Lib.hid (show ∀ w2, Ext w1 w2 → w2.ownsRow w.heap.size 5 1 (.slice a1 L.length cc1) L.length (bv L) from fun w2 h2 => HO.out.kept (grown_ext h2 none) (by cases hv : (Value.ownBlock _) <;> simp))
  go_wp2_with (refine conv_bs rfl (.tmp 7) rfl s rfl (by omega) ?_; intro cc w2 hb2 hE2; refine append_bsG rfl (.tmp 6) (.tmp 8) rfl w.heap.size _ L.length L rfl (HK.out w2 hE2) _ s.size cc (strB s) rfl hb2 (by omega) (Nat.le_trans hsz (Below.size hE2)) ?_; intro v3 w3 hown3 hB3 hG3; clear hG3)
  have HE2 := Lib.hid (HE.out.trans hE2)
  have hE3 : Ext w w3 := Below.trans (B := w.heap.size) HE2.out hB3
  rw [← E1.out, ← E2.out] at hown3
  have Hown := Lib.hid hown3
  have HE3 := Lib.hid hE3
  clear hown3 hE3 hB3
  go_ret
  exact ⟨_, rfl, Hown.out, HE3.out⟩

set_option maxHeartbeats 4000000 in
set_option maxRecDepth 100000 in
theorem refPackCh_any (op : Int) (name : ByteArray) (ta : Option Addr) (tn tc : Nat) (ss : List ByteArray) (value : ByteArray) (w : World) (hf : changeB op name ss value = true) (h : SsAt w ta tn tc ss) :
    Calls Try.prog 13 #[.agg (chV op name (.slice ta tn tc) value)] w fun e w' => ∃ v, e = .returned v ∧ w'.ownsRow w.heap.size 5 1 v (chgL op name ss value).length (bv (chgL op name ss value)) ∧ Ext w w' := by
  obtain ⟨⟨ho1, ho2⟩, hns, hts, htg, hvs⟩ := changeB_bd hf
  obtain ⟨w2, hw2⟩ : ∃ w2, w.alloc (.cells (chV op name (.slice ta tn tc) value) 24) = w2 := ⟨_, rfl⟩
  have hE2 : Ext w w2 := by rw [← hw2]; exact (Ext.refl w).alloc _
  have hB2 : w2.heap[w.heap.size]? = some (.cells (chV op name (.slice ta tn tc) value) 24 (0, 0)) := by rw [← hw2]; exact heap_new w _ _ rfl
  have Hw2 := Lib.hid hw2
  have HE2 := Lib.hid hE2
  obtain ⟨g, hg⟩ : ∃ g, w.heap.size = g := ⟨_, rfl⟩
  rw [hg] at hB2
  have HB2 := Lib.hid hB2
  have Hg := Lib.hid hg
  have H2 := Lib.hid (h.ext hE2)
  have Hlen := Lib.hid h.len
  have hlen := h.len
  have Htg := Lib.hid htg
  have wo : IntKind.u64.wrap op = op := by rw [IntKind.wrap_u64]; omega
  have wt : IntKind.u64.wrap (tn : Int) = (tn : Int) := by rw [IntKind.wrap_u64]; omega
  have ho := numL_length_le op
  have hnl := textL_le (strB name)
  have htl := numL_length_le (tn : Int)
  have hvl := textL_le (strB value)
  rw [strB_length] at hnl hvl
  rw [hlen] at hts
  obtain ⟨L1, hL1⟩ : ∃ L, numL op = L := ⟨_, rfl⟩
  obtain ⟨L2, hL2⟩ : ∃ L, textL (strB name) = L := ⟨_, rfl⟩
  obtain ⟨L3, hL3⟩ : ∃ L, numL (tn : Int) = L := ⟨_, rfl⟩
  obtain ⟨L4, hL4⟩ : ∃ L, textL (strB value) = L := ⟨_, rfl⟩
  have b1 : ∀ x ∈ L1, 0 ≤ x ∧ x < 256 := by rw [← hL1]; exact numL_byte _ (by omega)
  have b2 : ∀ x ∈ L2, 0 ≤ x ∧ x < 256 := by rw [← hL2]; exact textL_byte (strB_byte _)
  have b3 : ∀ x ∈ L3, 0 ≤ x ∧ x < 256 := by rw [← hL3]; exact numL_byte _ (by omega)
  have b4 : ∀ x ∈ L4, 0 ≤ x ∧ x < 256 := by rw [← hL4]; exact textL_byte (strB_byte _)
  have HBy := Lib.hid (And.intro b1 (And.intro b2 (And.intro b3 b4)))
  have HL := Lib.hid (And.intro hL1 (And.intro hL2 (And.intro hL3 hL4)))
  rw [hL1] at ho
  rw [hL2] at hnl
  rw [hL3] at htl
  rw [hL4] at hvl
  obtain ⟨P, hP⟩ : ∃ P : Nat → List Int, P = fun k => L1 ++ L2 ++ L3 ++ tagsL ss k := ⟨_, rfl⟩
  have HP0 := Lib.hid (show P 0 = L1 ++ L2 ++ L3 by rw [hP]; simp [tagsL])
  have HPs := Lib.hid (show ∀ k, P (k + 1) = P k ++ textL (strB (ss.getD k ByteArray.empty)) by intro k; rw [hP]; simp [tagsL])
  have HP6 := Lib.hid (show chgL op name ss value = P tn ++ L4 by rw [hP]; unfold chgL; rw [hlen, hL1, hL2, hL3, hL4])
  have HPl := Lib.hid (show ∀ k, k ≤ tn → (P k).length ≤ 400 by
    intro k hk
    have h1 := tagsL_le ss ss.length htg k (by omega)
    rw [hP]
    simp only [List.length_append]
    omega)
  obtain ⟨R, hR⟩ : ∃ R, chgL op name ss value = R := ⟨_, rfl⟩
  rw [hR] at HP6 ⊢
  obtain ⟨c0, c1, c2, c3⟩ := ch_cell hB2
  clear hw2 hE2 hB2 h hf htg hP hlen hR hL1 hL2 hL3 hL4 b1 b2 b3 b4
  have hN1 := refNum_any op (by omega) (by omega) w2
  rw [HL.out.1] at hN1
  have HN1 := Lib.hid hN1
  clear hN1 hg
  go_enter Try.func13, Try.ntmps13
  go_upto_region 1 with (fail)
  refine wp_world (w' := w2) Hw2.out ?_
  rw [Hg.out]
  clear Hw2
  go_wp2_with fail
  refine HN1.out.mono ?_
  rintro e w3 ⟨v3, rfl, hown3, hE3⟩
  obtain ⟨a3, cc3, rfl, _⟩ := own_bsAt hown3 HBy.out.1 (by omega)
  have HO3 := Lib.hid hown3
  have HE3 := Lib.hid hE3
  have d1 := (ch_cell (hE3.keep HB2.out)).2.1
  have HN3 := Lib.hid (refText12_any name w3 (by omega))
  clear hown3 hE3 HN1 c0 c1 c2 c3
  go_wp2_with fail
  have hn := HN3.out
  rw [HL.out.2.1] at hn
  refine hn.mono ?_
  rintro e w4 ⟨v4, rfl, hown4, hE4⟩
  obtain ⟨a4, cc4, rfl, hb4⟩ := own_bsAt hown4 HBy.out.2.1 (by omega)
  have HB4 := Lib.hid hb4
  have HO4 := Lib.hid (HO3.out.kept (grown_ext hE4 none) (by cases hv : (Value.ownBlock _) <;> simp))
  have HE4 := Lib.hid (HE3.out.trans hE4)
  have hsz4 := Below.size HE4.out
  clear hown4 hE4 hb4 hn HN3 d1
  go_wp2_with (at_builtin; refine append_bsG rfl (.tmp 9) (.tmp 12) rfl w2.heap.size _ L1.length L1 rfl HO4.out a4 L2.length cc4 L2 rfl HB4.out (by omega) hsz4 ?_)
  intro v5 w5 hown5 hB5 _
  obtain ⟨N5, hN5⟩ : ∃ N, L1.length + L2.length = N := ⟨_, rfl⟩
  rw [hN5] at hown5
  obtain ⟨a5, cc5, rfl, _, _⟩ := owns_slice hown5
  have HO5 := Lib.hid hown5
  have HE5 := Lib.hid (HE4.out.trans' hB5)
  have HN5 := Lib.hid hN5
  have hn5 : N5 ≤ 50 := by omega
  have d2 := (ch_cell (HE5.out.keep HB2.out)).2.2.1
  have hn := refNum_any (tn : Int) (by omega) (by omega) w5
  rw [HL.out.2.2.1] at hn
  have HN6 := Lib.hid hn
  clear hown5 hB5 hN5 hn HO4 HB4 HE4
  go_wp2_with fail
  refine HN6.out.mono ?_
  rintro e w6 ⟨v6, rfl, hown6, hE6⟩
  obtain ⟨a6, cc6, rfl, hb6⟩ := own_bsAt hown6 HBy.out.2.2.1 (by omega)
  have HB6 := Lib.hid hb6
  have HO6 := Lib.hid (HO5.out.kept (grown_ext hE6 none) (by cases hv : (Value.ownBlock _) <;> simp))
  have HE6 := Lib.hid (HE5.out.trans hE6)
  have hsz6 := Below.size HE6.out
  clear hown6 hE6 hb6 HN6 d2 HO5
  go_wp2_with (at_builtin; refine append_bsG rfl (.tmp 14) (.tmp 19) rfl w2.heap.size _ N5 (L1 ++ L2) rfl HO6.out a6 L3.length cc6 L3 rfl HB6.out (by omega) hsz6 ?_)
  intro v7 w7 hown7 hB7 _
  have hown7' : w7.ownsRow w2.heap.size 5 1 v7 (P 0).length (bv (P 0)) := by
    have h1 : (P 0).length = N5 + L3.length := by rw [HP0.out, ← HN5.out]; simp; omega
    rw [h1, HP0.out, List.append_assoc]
    exact hown7
  obtain ⟨a7, cc7, rfl, _, _⟩ := owns_slice hown7'
  have HO7 := Lib.hid hown7'
  have HE7 := Lib.hid (HE6.out.trans' hB7)
  clear hown7 hown7' hB7 HO6 HB6 HE6 HE5 HE3 HO3 HP0
  go_wp2
  go_loopw [4, 3] (fun i v wr => ∃ (k : Nat), k ≤ tn ∧ i = .int .i64 (k : Int) ∧ wr.ownsRow w2.heap.size 5 1 v (P k).length (bv (P k)) ∧ Ext w2 wr) (fun i _ _ => tn - (intOf i).toNat)
  case atStart => exact ⟨0, by omega, rfl, HO7.out, HE7.out⟩
  case round =>
    obtain ⟨k, hk, rfl, hown, hE⟩ := hrel
    obtain ⟨_, _, d2, d3⟩ := ch_cell (hE.keep HB2.out)
    have hPl := HPl.out k hk
    have HO := Lib.hid hown
    have HE := Lib.hid hE
    have hszr := Below.size hE
    by_cases hlt : k < tn
    · have x1 : (k : Int) < (tn : Int) := by omega
      obtain ⟨bt, offt, rfl, hcell⟩ := (H2.out.ext hE).at_ (by omega)
      have hck := hcell k hlt
      have hsk := Htg.out k (by have := Hlen.out; omega)
      have hPs := HPs.out k
      obtain ⟨S, hSS⟩ : ∃ S, ss.getD k ByteArray.empty = S := ⟨_, rfl⟩
      rw [hSS] at hck hsk hPs
      have htx := refText12_any S wr (by omega)
      have htl2 := textL_le (strB S)
      rw [strB_length] at htl2
      have htb := textL_byte (strB_byte S)
      obtain ⟨T, hT⟩ : ∃ T, textL (strB S) = T := ⟨_, rfl⟩
      rw [hT] at htx htl2 hPs htb
      have HTx := Lib.hid htx
      have HPs' := Lib.hid hPs
      have HTb := Lib.hid htb
      clear hcell hPs hSS htx hT htb hown hE
      go_wp2_with fail
      refine HTx.out.mono ?_
      rintro e w8 ⟨v8, rfl, hown8, hE8⟩
      obtain ⟨a8, cc8, rfl, hb8⟩ := own_bsAt hown8 HTb.out (by omega)
      have HB8 := Lib.hid hb8
      have HO8 := Lib.hid (HO.out.kept (grown_ext hE8 none) (by cases hv : (Value.ownBlock _) <;> simp))
      have HE8 := Lib.hid (HE.out.trans hE8)
      have hsz8 := Below.size HE8.out
      clear hown8 hE8 hb8 HTx hck d2 d3
      go_wp2_with (at_builtin; refine append_bsG rfl _ _ rfl w2.heap.size _ (P k).length (P k) rfl HO8.out a8 T.length cc8 T rfl HB8.out (by omega) hsz8 ?_)
      intro v9 w9 hown9 hB9 _
      have hown9' : w9.ownsRow w2.heap.size 5 1 v9 (P (k + 1)).length (bv (P (k + 1))) := by
        rw [HPs'.out, List.length_append]
        exact hown9
      have HO9 := Lib.hid hown9'
      have HE9 := Lib.hid (HE8.out.trans' hB9)
      clear hown9 hown9' hB9 HE8 HO8 HB8
      go_wp2
      go_roundw
      case rel => exact ⟨k + 1, by omega, by go_num, HO9.out, HE9.out⟩
      case measure => simp [intOf]; omega
    · obtain rfl : k = tn := by omega
      have x1 : ¬ (k : Int) < (k : Int) := by omega
      have htx := refText12_any value wr (by omega)
      rw [HL.out.2.2.2] at htx
      have HTx := Lib.hid htx
      have hP6 := Lib.hid HP6.out
      clear htx hown hE
      go_wp2_with fail
      refine HTx.out.mono ?_
      rintro e w8 ⟨v8, rfl, hown8, hE8⟩
      obtain ⟨a8, cc8, rfl, hb8⟩ := own_bsAt hown8 HBy.out.2.2.2 (by omega)
      have HB8 := Lib.hid hb8
      have HO8 := Lib.hid (HO.out.kept (grown_ext hE8 none) (by cases hv : (Value.ownBlock _) <;> simp))
      have HE8 := Lib.hid (HE.out.trans hE8)
      have hsz8 := Below.size HE8.out
      clear hown8 hE8 hb8 HTx d2 d3
      go_wp2_with (at_builtin; refine append_bsG rfl _ _ rfl w2.heap.size _ (P k).length (P k) rfl HO8.out a8 L4.length cc8 L4 rfl HB8.out (by omega) hsz8 ?_)
      intro v9 w9 hown9 hB9 _
      have hown9' : w9.ownsRow w.heap.size 5 1 v9 R.length (bv R) := by
        rw [HP6.out, List.length_append]
        exact own_mono hown9 (Below.size HE2.out)
      have HO9 := Lib.hid hown9'
      have HE9 := Lib.hid ((HE2.out.trans HE8.out).trans' (Below.mono hB9 (by have := Below.size HE2.out; omega)))
      clear hown9 hown9' hB9 HE8 HO8 HB8
      go_wp2
      go_ret
      exact ⟨v9, rfl, HO9.out, HE9.out⟩

end Go.Proofs.Ytppidlpblkihbaa
