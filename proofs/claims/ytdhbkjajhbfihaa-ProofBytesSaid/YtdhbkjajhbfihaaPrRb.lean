/-
  The walks of jalousieref15.text and Bytes (of formed proofs). No conditions.
-/
import Derived.Test.YtdhbkjajhbfihaaPrQ
import Derived.Test.YtdhbkjajhbfihaaPrF
import Derived.Test.YtdhbkjajhbfihaaRefHdB
import Derived.Test.YtdhbkjajhbfihaaHdPar
namespace Go.Proofs.Ytdhbkjajhbfihaa
open Go.ChangeShapes Go.WideShapes Go.ChangeAt Go.RowKit

set_option maxHeartbeats 1000000 in
set_option maxRecDepth 100000 in
theorem refText15_any (a : Option Addr) (n c : Nat) (xs : List Int) (w : World) (h : BsAt w a n c xs) (hn : n ≤ 100000) :
    Calls Try.prog 27 #[.slice a n c] w fun e w' => ∃ v, e = .returned v ∧ w'.ownsRow w.heap.size 5 1 v (textL xs).length (bv (textL xs)) ∧ Ext w w' := by
  have hl := h.len
  have H := Lib.hid h
  have HN := Lib.hid (refNum_any (n : Int) (by omega) (by omega) w)
  have wN : IntKind.u64.wrap (n : Int) = (n : Int) := by rw [IntKind.wrap_u64]; omega
  have hle := numL_length_le (n : Int)
  clear h
  go_enter Try.func27, Try.ntmps27
  go_wp2_with fail
  refine HN.out.mono ?_
  rintro e w2 ⟨v2, rfl, hown, hE⟩
  have HO := Lib.hid hown
  have HE := Lib.hid hE
  have HB := Lib.hid (H.out.ext hE)
  have Hs := Lib.hid (Below.size hE)
  clear hown hE HN
  go_wp2_with (at_builtin; refine append_bsG rfl _ _ rfl w.heap.size v2 _ (numL (n : Int)) rfl HO.out a n c xs rfl HB.out (by omega) Hs.out ?_)
  intro v3 w3 hown3 hB3 hG3
  have hE3 : Ext w w3 := HE.out.trans' hB3
  have hx : (numL (n : Int)).length + n = (textL xs).length := by unfold textL; rw [List.length_append, hl]
  have hx2 : numL (n : Int) ++ xs = textL xs := by unfold textL; rw [hl]
  rw [hx, hx2] at hown3
  have HO3 := Lib.hid hown3
  have HE3 := Lib.hid hE3
  clear hown3 hB3 hG3 hE3 hx hx2
  go_wp2
  go_ret
  exact ⟨v3, rfl, HO3.out, HE3.out⟩

/-- A formed proof's bytes. -/
theorem prL_12 {p : Pr} (h : p.kind = 1 ∨ p.kind = 2) : prL p = [p.kind] ++ textL (bytesL p.a.1 p.a.2) ++ textL (bytesL p.b.1 p.b.2) := by
  unfold prL
  rw [if_neg (by omega), if_neg (by omega), numL_small _ (by omega), List.append_assoc]
theorem prL_3 {p : Pr} (h : p.kind = 3) : prL p = [3] ++ numL p.writer ++ numL p.floor ++ numL p.head := by
  unfold prL
  rw [if_pos h, h, numL_small 3 (by omega)]
  simp only [List.append_assoc]
theorem prL_4 {p : Pr} (h : p.kind = 4) : prL p = [4] ++ textL (bytesL p.a.1 p.a.2) ++ numL (p.wn : Int) ++ toksL p.ws p.wn := by
  unfold prL
  rw [if_neg (by omega), if_pos h, h, numL_small 4 (by omega)]
  simp only [List.append_assoc]
theorem new_own (w : World) (Z : Int) : (w.alloc (.cells #[.int .u8 Z] 5)).ownsRow w.heap.size 5 1 (.slice (some ⟨w.heap.size, 0, none⟩) 1 1) 1 (bv [Z]) :=
  ⟨rfl, .inr ⟨w.heap.size, 1, #[.int .u8 Z], rfl, Nat.le_refl _, heap_new w _ _ rfl, Nat.le_refl _, by unfold maxLen; omega, rfl, rfl⟩⟩

set_option maxHeartbeats 8000000 in
set_option maxRecDepth 100000 in
theorem refPrBytes_any (p : Pr) (w : World) (hp : PrAt w p) (hf : prB p = true) :
    Calls Try.prog 10 #[.agg (prV p)] w fun e w' => ∃ v, e = .returned v ∧ (∃ q n c, v = .slice q n c ∧ BsAt w' q n c (prL p)) ∧ Ext w w' := by
  have HRb := Lib.hid (prL_byte hp hf)
  have hk := prB_kind hf
  have HR3 := Lib.hid (fun hk => prB_3 (p := p) hf hk)
  have HR4 := Lib.hid (fun hk => prB_4 (p := p) hf hk)
  obtain ⟨R, hR⟩ : ∃ R, prL p = R := ⟨_, rfl⟩
  have HRe := Lib.hid hR.symm
  rw [hR] at HRb ⊢
  clear hR hf
  obtain ⟨K, a, b, W, F, H, wa, wn, wc, ws⟩ := p
  have hbW : -9223372036854775808 ≤ W ∧ W ≤ 9223372036854775807 := hp.writer
  have hbF : 0 ≤ F ∧ F < 18446744073709551616 := hp.floor
  have hbH : 0 ≤ H ∧ H < 18446744073709551616 := hp.head
  have Ha := Lib.hid (show HtAt w a from hp.a)
  have Hb := Lib.hid (show HtAt w b from hp.b)
  have HT := Lib.hid (show TsAt w wa wn wc ws from hp.toks)
  have Hba := Lib.hid (bytesL_byte Ha.out.ok Ha.out.toks.len Ha.out.toks.byte)
  have Hbb := Lib.hid (bytesL_byte Hb.out.ok Hb.out.toks.len Hb.out.toks.byte)
  have Hla := Lib.hid (bytesL_le a.1 a.2)
  have Hlb := Lib.hid (bytesL_le b.1 b.2)
  have hsm : wn ≤ 140737488355328 := hp.toks.small
  obtain ⟨w2, hw2⟩ : ∃ w2, w.alloc (.cells (prV ⟨K, a, b, W, F, H, wa, wn, wc, ws⟩) 32) = w2 := ⟨_, rfl⟩
  have hE2 : Ext w w2 := by rw [← hw2]; exact (Ext.refl w).alloc _
  have hB2 : w2.heap[w.heap.size]? = some (.cells (prV ⟨K, a, b, W, F, H, wa, wn, wc, ws⟩) 32 (0, 0)) := by rw [← hw2]; exact heap_new w _ _ rfl
  obtain ⟨g, hg⟩ : ∃ g, w.heap.size = g := ⟨_, rfl⟩
  rw [hg] at hB2
  have Hg := Lib.hid hg
  have Hw2 := Lib.hid hw2
  have HE2 := Lib.hid hE2
  have HB2 := Lib.hid hB2
  obtain ⟨S, hS⟩ : ∃ s, w2.heap.size = s := ⟨_, rfl⟩
  have HS := Lib.hid hS
  have c0 := pr_kind' hB2
  clear hw2 hE2 hB2 hg hp hS
  have w8 : IntKind.u8.wrap K = K := by
    have hk' : K = 1 ∨ K = 2 ∨ K = 3 ∨ K = 4 := hk
    rw [IntKind.wrap_u8]
    omega
  go_enter Try.func10, Try.ntmps10
  go_upto_region 1 with (fail)
  refine wp_world (w' := w2) Hw2.out ?_
  rw [Hg.out]
  clear Hw2
  go_upto_region 2 with (fail)
  obtain ⟨wO, hwO⟩ : ∃ x, w2.alloc (.cells #[.int .u8 K] 5) = x := ⟨_, rfl⟩
  have hO : wO.ownsRow S 5 1 (.slice (some ⟨S, 0, none⟩) 1 1) 1 (bv [K]) := by rw [← hwO, ← HS.out]; exact new_own w2 K
  have hE : Ext w2 wO := by rw [← hwO]; exact (Ext.refl w2).alloc _
  refine wp_world (w' := wO) hwO ?_
  rw [HS.out]
  obtain ⟨ao, hao⟩ : ∃ a : Option Addr, some ⟨S, 0, none⟩ = a := ⟨_, rfl⟩
  rw [hao] at hO ⊢
  obtain ⟨X, hX0⟩ : ∃ X : List Int, [K] = X := ⟨_, rfl⟩
  rw [hX0] at hO
  have hX1 : X.length = 1 := by rw [← hX0]; rfl
  have HXl := Lib.hid (show X.length ≤ 1 by omega)
  have HXe := Lib.hid hX0.symm
  obtain ⟨co, hco⟩ : ∃ c : Nat, 1 = c := ⟨_, rfl⟩
  have hsl : Value.slice ao 1 1 = .slice ao X.length co := by rw [hX1, ← hco]
  have hO2 : wO.ownsRow S 5 1 (.slice ao X.length co) X.length (bv X) := by
    rw [← hsl, hX1]
    exact hO
  have HO := Lib.hid hO2
  have HE := Lib.hid hE
  have HSz := Lib.hid (show S ≤ w2.heap.size by rw [HS.out]; exact Nat.le_refl _)
  rw [hsl]
  clear hwO hO hE hao hX0 hX1 hco hO2 hsl c0 w8
  rcases hk with hk | hk | hk | hk
  · have hk : K = 1 := hk
    subst hk
    have HRe := Lib.hid (show R = [1] ++ textL (bytesL a.1 a.2) ++ textL (bytesL b.1 b.2) from by rw [HRe.out]; exact prL_12 (Or.inl rfl))
    have cK := pr_kind' (HE.out.keep HB2.out)
    have HBy := Lib.hid (refHdBytes_any a.1 a.2 wO Ha.out.ok (Ha.out.toks.ext (HE2.out.trans HE.out)))
    have cK := pr_kind' (HE.out.keep HB2.out)
    go_wp2_with (refine wp_hmid rfl _ rfl g 1 a.1 rfl (pr_ra' (HE.out.keep HB2.out)) ?_)
    refine HBy.out.mono ?_
    rintro e wA ⟨vA, rfl, ownA, hEA⟩
    obtain ⟨aA, cA, rfl, hc1, hc2⟩ := owns_slice ownA
    have hBA := owns_bs ownA Hba.out (by unfold maxLen at hc2; omega) (by have := Hla.out; omega)
    have HTx := Lib.hid (refText15_any aA _ cA (bytesL a.1 a.2) wA hBA (by have := Hla.out; omega))
    have HE := Lib.hid (Ext.trans HE.out hEA)
    have HO := Lib.hid (own_ext HO.out hEA)
    obtain ⟨NB, hNB⟩ : ∃ N, (bytesL a.1 a.2).length = N := ⟨_, rfl⟩
    rw [hNB] at HTx ⊢
    have HNB := Lib.hid hNB
    clear ownA hc1 hc2 hBA hEA hNB cK HBy
    go_wp2_with fail
    refine HTx.out.mono ?_
    rintro e wB ⟨vB, rfl, ownB, hEB⟩
    obtain ⟨aT, cT, rfl, hc1, hc2⟩ := owns_slice ownB
    have hBT := owns_bs ownB (textL_byte Hba.out) (by unfold maxLen at hc2; omega) (by have := textL_le (bytesL a.1 a.2); have := Hla.out; omega)
    have HE := Lib.hid (Ext.trans HE.out hEB)
    have HO := Lib.hid (own_ext HO.out hEB)
    have hsz := Below.size HE.out
    obtain ⟨NT, hNT⟩ : ∃ N, (textL (bytesL a.1 a.2)).length = N := ⟨_, rfl⟩
    have hNl : NT ≤ 442 := by rw [← hNT]; have := textL_le (bytesL a.1 a.2); have := Hla.out; omega
    rw [hNT] at hBT ⊢
    have HBT := Lib.hid hBT
    have HNT := Lib.hid hNT
    clear ownB hc1 hc2 hBT hEB hNT HTx HNB
    go_wp2_with (at_builtin; refine append_bsG rfl _ _ rfl S _ X.length X rfl HO.out aT NT cT (textL (bytesL a.1 a.2)) rfl HBT.out (by have := HXl.out; omega) (by have := HSz.out; omega) ?_)
    clear hNl
    intro v9 w9 hown hB _
    obtain ⟨X2, hX⟩ : ∃ Y, X ++ textL (bytesL a.1 a.2) = Y := ⟨_, rfl⟩
    have hown2 := own_q hown hX.symm rfl HNT.out
    obtain ⟨a9, c9, rfl, _, _⟩ := owns_slice hown2
    have HO := Lib.hid hown2
    have HE := Lib.hid (Ext.trans' HE.out (by rw [HS.out]; exact hB))
    have hXl : X2.length ≤ 450 := by rw [← hX, List.length_append]; have := HXl.out; have := textL_le (bytesL a.1 a.2); have := Hla.out; omega
    have HXl := Lib.hid hXl
    rw [HXe.out] at hX
    have HXe := Lib.hid hX.symm
    clear hown hown2 hB hXl hX hsz HBT HNT
    obtain ⟨X, rfl⟩ : ∃ X, X = X2 := ⟨_, rfl⟩
    obtain ⟨wO, rfl⟩ : ∃ w, w = w9 := ⟨_, rfl⟩
    obtain ⟨ao, rfl⟩ : ∃ a, a = a9 := ⟨_, rfl⟩
    obtain ⟨co, rfl⟩ : ∃ c, c = c9 := ⟨_, rfl⟩
    have cK := pr_kind' (HE.out.keep HB2.out)
    have HBy := Lib.hid (refHdBytes_any b.1 b.2 wO Hb.out.ok (Hb.out.toks.ext (HE2.out.trans HE.out)))
    have cK := pr_kind' (HE.out.keep HB2.out)
    go_wp2_with (refine wp_hmid rfl _ rfl g 126 b.1 rfl (pr_rb' (HE.out.keep HB2.out)) ?_)
    refine HBy.out.mono ?_
    rintro e wA ⟨vA, rfl, ownA, hEA⟩
    obtain ⟨aA, cA, rfl, hc1, hc2⟩ := owns_slice ownA
    have hBA := owns_bs ownA Hbb.out (by unfold maxLen at hc2; omega) (by have := Hlb.out; omega)
    have HTx := Lib.hid (refText15_any aA _ cA (bytesL b.1 b.2) wA hBA (by have := Hlb.out; omega))
    have HE := Lib.hid (Ext.trans HE.out hEA)
    have HO := Lib.hid (own_ext HO.out hEA)
    obtain ⟨NB, hNB⟩ : ∃ N, (bytesL b.1 b.2).length = N := ⟨_, rfl⟩
    rw [hNB] at HTx ⊢
    have HNB := Lib.hid hNB
    clear ownA hc1 hc2 hBA hEA hNB cK HBy
    go_wp2_with fail
    refine HTx.out.mono ?_
    rintro e wB ⟨vB, rfl, ownB, hEB⟩
    obtain ⟨aT, cT, rfl, hc1, hc2⟩ := owns_slice ownB
    have hBT := owns_bs ownB (textL_byte Hbb.out) (by unfold maxLen at hc2; omega) (by have := textL_le (bytesL b.1 b.2); have := Hlb.out; omega)
    have HE := Lib.hid (Ext.trans HE.out hEB)
    have HO := Lib.hid (own_ext HO.out hEB)
    have hsz := Below.size HE.out
    obtain ⟨NT, hNT⟩ : ∃ N, (textL (bytesL b.1 b.2)).length = N := ⟨_, rfl⟩
    have hNl : NT ≤ 442 := by rw [← hNT]; have := textL_le (bytesL b.1 b.2); have := Hlb.out; omega
    rw [hNT] at hBT ⊢
    have HBT := Lib.hid hBT
    have HNT := Lib.hid hNT
    clear ownB hc1 hc2 hBT hEB hNT HTx HNB
    go_wp2_with (at_builtin; refine append_bsG rfl _ _ rfl S _ X.length X rfl HO.out aT NT cT (textL (bytesL b.1 b.2)) rfl HBT.out (by have := HXl.out; omega) (by have := HSz.out; omega) ?_)
    clear hNl
    intro v9 w9 hown hB _
    obtain ⟨X2, hX⟩ : ∃ Y, X ++ textL (bytesL b.1 b.2) = Y := ⟨_, rfl⟩
    have hown2 := own_q hown hX.symm rfl HNT.out
    obtain ⟨a9, c9, rfl, _, _⟩ := owns_slice hown2
    have HO := Lib.hid hown2
    have HE := Lib.hid (Ext.trans' HE.out (by rw [HS.out]; exact hB))
    have hXl : X2.length ≤ 900 := by rw [← hX, List.length_append]; have := HXl.out; have := textL_le (bytesL b.1 b.2); have := Hlb.out; omega
    have HXl := Lib.hid hXl
    rw [HXe.out] at hX
    have HXe := Lib.hid hX.symm
    clear hown hown2 hB hXl hX hsz HBT HNT
    obtain ⟨X, rfl⟩ : ∃ X, X = X2 := ⟨_, rfl⟩
    obtain ⟨wO, rfl⟩ : ∃ w, w = w9 := ⟨_, rfl⟩
    obtain ⟨ao, rfl⟩ : ∃ a, a = a9 := ⟨_, rfl⟩
    obtain ⟨co, rfl⟩ : ∃ c, c = c9 := ⟨_, rfl⟩
    go_wp2
    go_ret
    exact ⟨_, rfl, ⟨_, _, _, rfl, by rw [show R = X by rw [HRe.out, HXe.out]]; exact owns_bs HO.out (by rw [HXe.out, ← HRe.out]; exact HRb.out) (by obtain ⟨q, k, e, h1, h2⟩ := owns_slice HO.out; simp only [Value.slice.injEq] at e; unfold maxLen at h2; omega) (by have := HXl.out; omega)⟩, HE2.out.trans HE.out⟩
  · have hk : K = 2 := hk
    subst hk
    have HRe := Lib.hid (show R = [2] ++ textL (bytesL a.1 a.2) ++ textL (bytesL b.1 b.2) from by rw [HRe.out]; exact prL_12 (Or.inr rfl))
    have cK := pr_kind' (HE.out.keep HB2.out)
    have HBy := Lib.hid (refHdBytes_any a.1 a.2 wO Ha.out.ok (Ha.out.toks.ext (HE2.out.trans HE.out)))
    have cK := pr_kind' (HE.out.keep HB2.out)
    go_wp2_with (refine wp_hmid rfl _ rfl g 1 a.1 rfl (pr_ra' (HE.out.keep HB2.out)) ?_)
    refine HBy.out.mono ?_
    rintro e wA ⟨vA, rfl, ownA, hEA⟩
    obtain ⟨aA, cA, rfl, hc1, hc2⟩ := owns_slice ownA
    have hBA := owns_bs ownA Hba.out (by unfold maxLen at hc2; omega) (by have := Hla.out; omega)
    have HTx := Lib.hid (refText15_any aA _ cA (bytesL a.1 a.2) wA hBA (by have := Hla.out; omega))
    have HE := Lib.hid (Ext.trans HE.out hEA)
    have HO := Lib.hid (own_ext HO.out hEA)
    obtain ⟨NB, hNB⟩ : ∃ N, (bytesL a.1 a.2).length = N := ⟨_, rfl⟩
    rw [hNB] at HTx ⊢
    have HNB := Lib.hid hNB
    clear ownA hc1 hc2 hBA hEA hNB cK HBy
    go_wp2_with fail
    refine HTx.out.mono ?_
    rintro e wB ⟨vB, rfl, ownB, hEB⟩
    obtain ⟨aT, cT, rfl, hc1, hc2⟩ := owns_slice ownB
    have hBT := owns_bs ownB (textL_byte Hba.out) (by unfold maxLen at hc2; omega) (by have := textL_le (bytesL a.1 a.2); have := Hla.out; omega)
    have HE := Lib.hid (Ext.trans HE.out hEB)
    have HO := Lib.hid (own_ext HO.out hEB)
    have hsz := Below.size HE.out
    obtain ⟨NT, hNT⟩ : ∃ N, (textL (bytesL a.1 a.2)).length = N := ⟨_, rfl⟩
    have hNl : NT ≤ 442 := by rw [← hNT]; have := textL_le (bytesL a.1 a.2); have := Hla.out; omega
    rw [hNT] at hBT ⊢
    have HBT := Lib.hid hBT
    have HNT := Lib.hid hNT
    clear ownB hc1 hc2 hBT hEB hNT HTx HNB
    go_wp2_with (at_builtin; refine append_bsG rfl _ _ rfl S _ X.length X rfl HO.out aT NT cT (textL (bytesL a.1 a.2)) rfl HBT.out (by have := HXl.out; omega) (by have := HSz.out; omega) ?_)
    clear hNl
    intro v9 w9 hown hB _
    obtain ⟨X2, hX⟩ : ∃ Y, X ++ textL (bytesL a.1 a.2) = Y := ⟨_, rfl⟩
    have hown2 := own_q hown hX.symm rfl HNT.out
    obtain ⟨a9, c9, rfl, _, _⟩ := owns_slice hown2
    have HO := Lib.hid hown2
    have HE := Lib.hid (Ext.trans' HE.out (by rw [HS.out]; exact hB))
    have hXl : X2.length ≤ 450 := by rw [← hX, List.length_append]; have := HXl.out; have := textL_le (bytesL a.1 a.2); have := Hla.out; omega
    have HXl := Lib.hid hXl
    rw [HXe.out] at hX
    have HXe := Lib.hid hX.symm
    clear hown hown2 hB hXl hX hsz HBT HNT
    obtain ⟨X, rfl⟩ : ∃ X, X = X2 := ⟨_, rfl⟩
    obtain ⟨wO, rfl⟩ : ∃ w, w = w9 := ⟨_, rfl⟩
    obtain ⟨ao, rfl⟩ : ∃ a, a = a9 := ⟨_, rfl⟩
    obtain ⟨co, rfl⟩ : ∃ c, c = c9 := ⟨_, rfl⟩
    have cK := pr_kind' (HE.out.keep HB2.out)
    have HBy := Lib.hid (refHdBytes_any b.1 b.2 wO Hb.out.ok (Hb.out.toks.ext (HE2.out.trans HE.out)))
    have cK := pr_kind' (HE.out.keep HB2.out)
    go_wp2_with (refine wp_hmid rfl _ rfl g 126 b.1 rfl (pr_rb' (HE.out.keep HB2.out)) ?_)
    refine HBy.out.mono ?_
    rintro e wA ⟨vA, rfl, ownA, hEA⟩
    obtain ⟨aA, cA, rfl, hc1, hc2⟩ := owns_slice ownA
    have hBA := owns_bs ownA Hbb.out (by unfold maxLen at hc2; omega) (by have := Hlb.out; omega)
    have HTx := Lib.hid (refText15_any aA _ cA (bytesL b.1 b.2) wA hBA (by have := Hlb.out; omega))
    have HE := Lib.hid (Ext.trans HE.out hEA)
    have HO := Lib.hid (own_ext HO.out hEA)
    obtain ⟨NB, hNB⟩ : ∃ N, (bytesL b.1 b.2).length = N := ⟨_, rfl⟩
    rw [hNB] at HTx ⊢
    have HNB := Lib.hid hNB
    clear ownA hc1 hc2 hBA hEA hNB cK HBy
    go_wp2_with fail
    refine HTx.out.mono ?_
    rintro e wB ⟨vB, rfl, ownB, hEB⟩
    obtain ⟨aT, cT, rfl, hc1, hc2⟩ := owns_slice ownB
    have hBT := owns_bs ownB (textL_byte Hbb.out) (by unfold maxLen at hc2; omega) (by have := textL_le (bytesL b.1 b.2); have := Hlb.out; omega)
    have HE := Lib.hid (Ext.trans HE.out hEB)
    have HO := Lib.hid (own_ext HO.out hEB)
    have hsz := Below.size HE.out
    obtain ⟨NT, hNT⟩ : ∃ N, (textL (bytesL b.1 b.2)).length = N := ⟨_, rfl⟩
    have hNl : NT ≤ 442 := by rw [← hNT]; have := textL_le (bytesL b.1 b.2); have := Hlb.out; omega
    rw [hNT] at hBT ⊢
    have HBT := Lib.hid hBT
    have HNT := Lib.hid hNT
    clear ownB hc1 hc2 hBT hEB hNT HTx HNB
    go_wp2_with (at_builtin; refine append_bsG rfl _ _ rfl S _ X.length X rfl HO.out aT NT cT (textL (bytesL b.1 b.2)) rfl HBT.out (by have := HXl.out; omega) (by have := HSz.out; omega) ?_)
    clear hNl
    intro v9 w9 hown hB _
    obtain ⟨X2, hX⟩ : ∃ Y, X ++ textL (bytesL b.1 b.2) = Y := ⟨_, rfl⟩
    have hown2 := own_q hown hX.symm rfl HNT.out
    obtain ⟨a9, c9, rfl, _, _⟩ := owns_slice hown2
    have HO := Lib.hid hown2
    have HE := Lib.hid (Ext.trans' HE.out (by rw [HS.out]; exact hB))
    have hXl : X2.length ≤ 900 := by rw [← hX, List.length_append]; have := HXl.out; have := textL_le (bytesL b.1 b.2); have := Hlb.out; omega
    have HXl := Lib.hid hXl
    rw [HXe.out] at hX
    have HXe := Lib.hid hX.symm
    clear hown hown2 hB hXl hX hsz HBT HNT
    obtain ⟨X, rfl⟩ : ∃ X, X = X2 := ⟨_, rfl⟩
    obtain ⟨wO, rfl⟩ : ∃ w, w = w9 := ⟨_, rfl⟩
    obtain ⟨ao, rfl⟩ : ∃ a, a = a9 := ⟨_, rfl⟩
    obtain ⟨co, rfl⟩ : ∃ c, c = c9 := ⟨_, rfl⟩
    go_wp2
    go_ret
    exact ⟨_, rfl, ⟨_, _, _, rfl, by rw [show R = X by rw [HRe.out, HXe.out]]; exact owns_bs HO.out (by rw [HXe.out, ← HRe.out]; exact HRb.out) (by obtain ⟨q, k, e, h1, h2⟩ := owns_slice HO.out; simp only [Value.slice.injEq] at e; unfold maxLen at h2; omega) (by have := HXl.out; omega)⟩, HE2.out.trans HE.out⟩
  · have hk : K = 3 := hk
    subst hk
    have HRe := Lib.hid (show R = [3] ++ numL W ++ numL F ++ numL H from by rw [HRe.out]; exact prL_3 rfl)
    have cK := pr_kind' (HE.out.keep HB2.out)
    have h3 := HR3.out rfl
    have hW1 : 1 ≤ W := h3.1
    have hW6 : W ≤ 6 := h3.2.1
    have wW : IntKind.u64.wrap W = W := by rw [IntKind.wrap_u64]; omega
    clear h3
    have cN := pr_writer' (HE.out.keep HB2.out)
    go_wp2_with fail
    refine (refNum_any W (by omega) (by omega) wO).mono ?_
    rintro e wA ⟨vA, rfl, ownA, hEA⟩
    obtain ⟨aA, cA, rfl, hc1, hc2⟩ := owns_slice ownA
    have HBA := Lib.hid (num_bs ownA (by omega) hc2)
    have HE := Lib.hid (Ext.trans HE.out hEA)
    have HO := Lib.hid (own_ext HO.out hEA)
    have hsz := Below.size HE.out
    obtain ⟨NA, hNA⟩ : ∃ N, (numL W).length = N := ⟨_, rfl⟩
    have hNl := numL_length_le W
    rw [hNA] at HBA hNl ⊢
    have HNA := Lib.hid hNA
    clear cN ownA hEA hc1 hc2 hNA
    go_wp2_with (at_builtin; refine append_bsG rfl _ _ rfl S _ X.length X rfl HO.out aA NA cA (numL W) rfl HBA.out (by have := HXl.out; omega) (by have := HSz.out; omega) ?_)
    clear hNl
    intro v9 w9 hown hB _
    obtain ⟨X2, hX⟩ : ∃ Y, X ++ numL W = Y := ⟨_, rfl⟩
    have hown2 := own_q hown hX.symm rfl HNA.out
    obtain ⟨a9, c9, rfl, _, _⟩ := owns_slice hown2
    have HO := Lib.hid hown2
    have HE := Lib.hid (Ext.trans' HE.out (by rw [HS.out]; exact hB))
    have hXl : X2.length ≤ 20 := by rw [← hX, List.length_append]; have := HXl.out; have := numL_length_le W; omega
    have HXl := Lib.hid hXl
    rw [HXe.out] at hX
    have HXe := Lib.hid hX.symm
    clear hown hown2 hB hXl hX hsz HBA HNA
    obtain ⟨X, rfl⟩ : ∃ X, X = X2 := ⟨_, rfl⟩
    obtain ⟨wO, rfl⟩ : ∃ w, w = w9 := ⟨_, rfl⟩
    obtain ⟨ao, rfl⟩ : ∃ a, a = a9 := ⟨_, rfl⟩
    obtain ⟨co, rfl⟩ : ∃ c, c = c9 := ⟨_, rfl⟩
    have cN := pr_floor' (HE.out.keep HB2.out)
    go_wp2_with fail
    refine (refNum_any F hbF.1 hbF.2 wO).mono ?_
    rintro e wA ⟨vA, rfl, ownA, hEA⟩
    obtain ⟨aA, cA, rfl, hc1, hc2⟩ := owns_slice ownA
    have HBA := Lib.hid (num_bs ownA hbF.1 hc2)
    have HE := Lib.hid (Ext.trans HE.out hEA)
    have HO := Lib.hid (own_ext HO.out hEA)
    have hsz := Below.size HE.out
    obtain ⟨NA, hNA⟩ : ∃ N, (numL F).length = N := ⟨_, rfl⟩
    have hNl := numL_length_le F
    rw [hNA] at HBA hNl ⊢
    have HNA := Lib.hid hNA
    clear cN ownA hEA hc1 hc2 hNA
    go_wp2_with (at_builtin; refine append_bsG rfl _ _ rfl S _ X.length X rfl HO.out aA NA cA (numL F) rfl HBA.out (by have := HXl.out; omega) (by have := HSz.out; omega) ?_)
    clear hNl
    intro v9 w9 hown hB _
    obtain ⟨X2, hX⟩ : ∃ Y, X ++ numL F = Y := ⟨_, rfl⟩
    have hown2 := own_q hown hX.symm rfl HNA.out
    obtain ⟨a9, c9, rfl, _, _⟩ := owns_slice hown2
    have HO := Lib.hid hown2
    have HE := Lib.hid (Ext.trans' HE.out (by rw [HS.out]; exact hB))
    have hXl : X2.length ≤ 30 := by rw [← hX, List.length_append]; have := HXl.out; have := numL_length_le F; omega
    have HXl := Lib.hid hXl
    rw [HXe.out] at hX
    have HXe := Lib.hid hX.symm
    clear hown hown2 hB hXl hX hsz HBA HNA
    obtain ⟨X, rfl⟩ : ∃ X, X = X2 := ⟨_, rfl⟩
    obtain ⟨wO, rfl⟩ : ∃ w, w = w9 := ⟨_, rfl⟩
    obtain ⟨ao, rfl⟩ : ∃ a, a = a9 := ⟨_, rfl⟩
    obtain ⟨co, rfl⟩ : ∃ c, c = c9 := ⟨_, rfl⟩
    have cN := pr_head' (HE.out.keep HB2.out)
    go_wp2_with fail
    refine (refNum_any H hbH.1 hbH.2 wO).mono ?_
    rintro e wA ⟨vA, rfl, ownA, hEA⟩
    obtain ⟨aA, cA, rfl, hc1, hc2⟩ := owns_slice ownA
    have HBA := Lib.hid (num_bs ownA hbH.1 hc2)
    have HE := Lib.hid (Ext.trans HE.out hEA)
    have HO := Lib.hid (own_ext HO.out hEA)
    have hsz := Below.size HE.out
    obtain ⟨NA, hNA⟩ : ∃ N, (numL H).length = N := ⟨_, rfl⟩
    have hNl := numL_length_le H
    rw [hNA] at HBA hNl ⊢
    have HNA := Lib.hid hNA
    clear cN ownA hEA hc1 hc2 hNA
    go_wp2_with (at_builtin; refine append_bsG rfl _ _ rfl S _ X.length X rfl HO.out aA NA cA (numL H) rfl HBA.out (by have := HXl.out; omega) (by have := HSz.out; omega) ?_)
    clear hNl
    intro v9 w9 hown hB _
    obtain ⟨X2, hX⟩ : ∃ Y, X ++ numL H = Y := ⟨_, rfl⟩
    have hown2 := own_q hown hX.symm rfl HNA.out
    obtain ⟨a9, c9, rfl, _, _⟩ := owns_slice hown2
    have HO := Lib.hid hown2
    have HE := Lib.hid (Ext.trans' HE.out (by rw [HS.out]; exact hB))
    have hXl : X2.length ≤ 40 := by rw [← hX, List.length_append]; have := HXl.out; have := numL_length_le H; omega
    have HXl := Lib.hid hXl
    rw [HXe.out] at hX
    have HXe := Lib.hid hX.symm
    clear hown hown2 hB hXl hX hsz HBA HNA
    obtain ⟨X, rfl⟩ : ∃ X, X = X2 := ⟨_, rfl⟩
    obtain ⟨wO, rfl⟩ : ∃ w, w = w9 := ⟨_, rfl⟩
    obtain ⟨ao, rfl⟩ : ∃ a, a = a9 := ⟨_, rfl⟩
    obtain ⟨co, rfl⟩ : ∃ c, c = c9 := ⟨_, rfl⟩
    go_wp2
    go_ret
    exact ⟨_, rfl, ⟨_, _, _, rfl, by rw [show R = X by rw [HRe.out, HXe.out]]; exact owns_bs HO.out (by rw [HXe.out, ← HRe.out]; exact HRb.out) (by obtain ⟨q, k, e, h1, h2⟩ := owns_slice HO.out; simp only [Value.slice.injEq] at e; unfold maxLen at h2; omega) (by have := HXl.out; omega)⟩, HE2.out.trans HE.out⟩
  · have hk : K = 4 := hk
    subst hk
    have HRe := Lib.hid (show R = [4] ++ textL (bytesL a.1 a.2) ++ numL (wn : Int) ++ toksL ws wn from by rw [HRe.out]; exact prL_4 rfl)
    have cK := pr_kind' (HE.out.keep HB2.out)
    have h4 : wn ≤ 8 := HR4.out rfl
    have HBy := Lib.hid (refHdBytes_any a.1 a.2 wO Ha.out.ok (Ha.out.toks.ext (HE2.out.trans HE.out)))
    have cK := pr_kind' (HE.out.keep HB2.out)
    go_wp2_with (refine wp_hmid rfl _ rfl g 1 a.1 rfl (pr_ra' (HE.out.keep HB2.out)) ?_)
    refine HBy.out.mono ?_
    rintro e wA ⟨vA, rfl, ownA, hEA⟩
    obtain ⟨aA, cA, rfl, hc1, hc2⟩ := owns_slice ownA
    have hBA := owns_bs ownA Hba.out (by unfold maxLen at hc2; omega) (by have := Hla.out; omega)
    have HTx := Lib.hid (refText15_any aA _ cA (bytesL a.1 a.2) wA hBA (by have := Hla.out; omega))
    have HE := Lib.hid (Ext.trans HE.out hEA)
    have HO := Lib.hid (own_ext HO.out hEA)
    obtain ⟨NB, hNB⟩ : ∃ N, (bytesL a.1 a.2).length = N := ⟨_, rfl⟩
    rw [hNB] at HTx ⊢
    have HNB := Lib.hid hNB
    clear ownA hc1 hc2 hBA hEA hNB cK HBy
    go_wp2_with fail
    refine HTx.out.mono ?_
    rintro e wB ⟨vB, rfl, ownB, hEB⟩
    obtain ⟨aT, cT, rfl, hc1, hc2⟩ := owns_slice ownB
    have hBT := owns_bs ownB (textL_byte Hba.out) (by unfold maxLen at hc2; omega) (by have := textL_le (bytesL a.1 a.2); have := Hla.out; omega)
    have HE := Lib.hid (Ext.trans HE.out hEB)
    have HO := Lib.hid (own_ext HO.out hEB)
    have hsz := Below.size HE.out
    obtain ⟨NT, hNT⟩ : ∃ N, (textL (bytesL a.1 a.2)).length = N := ⟨_, rfl⟩
    have hNl : NT ≤ 442 := by rw [← hNT]; have := textL_le (bytesL a.1 a.2); have := Hla.out; omega
    rw [hNT] at hBT ⊢
    have HBT := Lib.hid hBT
    have HNT := Lib.hid hNT
    clear ownB hc1 hc2 hBT hEB hNT HTx HNB
    go_wp2_with (at_builtin; refine append_bsG rfl _ _ rfl S _ X.length X rfl HO.out aT NT cT (textL (bytesL a.1 a.2)) rfl HBT.out (by have := HXl.out; omega) (by have := HSz.out; omega) ?_)
    clear hNl
    intro v9 w9 hown hB _
    obtain ⟨X2, hX⟩ : ∃ Y, X ++ textL (bytesL a.1 a.2) = Y := ⟨_, rfl⟩
    have hown2 := own_q hown hX.symm rfl HNT.out
    obtain ⟨a9, c9, rfl, _, _⟩ := owns_slice hown2
    have HO := Lib.hid hown2
    have HE := Lib.hid (Ext.trans' HE.out (by rw [HS.out]; exact hB))
    have hXl : X2.length ≤ 450 := by rw [← hX, List.length_append]; have := HXl.out; have := textL_le (bytesL a.1 a.2); have := Hla.out; omega
    have HXl := Lib.hid hXl
    rw [HXe.out] at hX
    have HXe := Lib.hid hX.symm
    clear hown hown2 hB hXl hX hsz HBT HNT
    obtain ⟨X, rfl⟩ : ∃ X, X = X2 := ⟨_, rfl⟩
    obtain ⟨wO, rfl⟩ : ∃ w, w = w9 := ⟨_, rfl⟩
    obtain ⟨ao, rfl⟩ : ∃ a, a = a9 := ⟨_, rfl⟩
    obtain ⟨co, rfl⟩ : ∃ c, c = c9 := ⟨_, rfl⟩
    have cK := pr_kind' (HE.out.keep HB2.out)
    have cT := pr_toks' (HE.out.keep HB2.out)
    have wB : IntKind.u8.wrap (wn : Int) = (wn : Int) := by rw [IntKind.wrap_u8]; omega
    have hnum : numL (wn : Int) = [(wn : Int)] := numL_small _ (by omega)
    have hsz := Below.size HE.out
    go_wp2_with (at_builtin; refine append_byte rfl _ _ rfl S _ X.length X rfl (HO.out.alloc _) wO.heap.size (wn : Int) rfl (new_cell _ _ _) (by have := HXl.out; omega) (by simp; have := HSz.out; omega) ?_)
    intro v9 w9 hown hB
    obtain ⟨X2, hX⟩ : ∃ Y, X ++ [(wn : Int)] = Y := ⟨_, rfl⟩
    have hown2 := own_q hown hX.symm rfl rfl
    obtain ⟨a9, c9, rfl, _, _⟩ := owns_slice hown2
    have HO := Lib.hid hown2
    have HE := Lib.hid (Ext.trans' (HE.out.alloc _) (by rw [HS.out]; exact hB))
    have HXl := Lib.hid (show X2.length ≤ 460 by rw [← hX, List.length_append]; have := HXl.out; simp; omega)
    rw [HXe.out, ← hnum] at hX
    have HXe := Lib.hid hX.symm
    clear hown hown2 hB hX hsz cK cT wB hnum
    obtain ⟨X, rfl⟩ : ∃ X, X = X2 := ⟨_, rfl⟩
    obtain ⟨wO, rfl⟩ : ∃ w, w = w9 := ⟨_, rfl⟩
    obtain ⟨ao, rfl⟩ : ∃ a, a = a9 := ⟨_, rfl⟩
    obtain ⟨co, rfl⟩ : ∃ c, c = c9 := ⟨_, rfl⟩
    have c12 := pr_toks' (HE.out.keep HB2.out)
    obtain ⟨P, hP⟩ : ∃ P : Nat → List Int, P = fun k => X ++ toksL ws k := ⟨_, rfl⟩
    have HPs := Lib.hid (show ∀ k, P (k + 1) = P k ++ ln 16 (ws.getD k fun _ => 0) by intro k; rw [hP]; simp [toksL])
    have HPl := Lib.hid (show ∀ k, k ≤ wn → (P k).length ≤ 600 by intro k hk; rw [hP]; have := HXl.out; simp only [List.length_append, toksL_length]; omega)
    have HPR := Lib.hid (show R = P wn by rw [HRe.out, hP, HXe.out])
    have hP0 : X = P 0 := by rw [hP]; simp [toksL]
    have HO0 := Lib.hid (show wO.ownsRow S 5 1 (.slice ao X.length co) (P 0).length (bv (P 0)) by rw [← hP0]; exact HO.out)
    clear hP HXl HXe HRe HO hP0
    go_wp2
    go_loopw [4, 3] (fun i v wr => ∃ k : Nat, k ≤ wn ∧ i = .int .i64 (k : Int) ∧ wr.ownsRow S 5 1 v (P k).length (bv (P k)) ∧ Ext w2 wr) (fun i _ _ => wn - (intOf i).toNat)
    case atStart => exact ⟨0, by omega, rfl, HO0.out, HE.out⟩
    case round =>
      obtain ⟨k, hk, rfl, hown, hE⟩ := hrel
      obtain ⟨ak, ck, rfl, _, _⟩ := owns_slice hown
      have c12 := pr_toks' (hE.keep HB2.out)
      have HO := Lib.hid hown
      have HE := Lib.hid hE
      have hpl := HPl.out k (by omega)
      clear hown hE HO0
      by_cases hlt : k < wn
      · have x1 : (k : Int) < (wn : Int) := by omega
        obtain ⟨bt, offt, hta, htk⟩ := tok_bs (HT.out.ext (HE2.out.trans HE.out)) k hlt
        rw [hta] at c12
        have HBk := Lib.hid htk
        have hsz := Below.size HE.out
        have x2 : (0 : Int) ≤ (k : Int) := by omega
        clear hta htk
        go_wp2_with (at_builtin; refine append_bsG rfl _ _ rfl S _ (P k).length (P k) rfl HO.out (some ⟨bt, offt + k * 16, none⟩) 16 16 (ln 16 (ws.getD k fun _ => 0)) rfl HBk.out (by omega) (by have := HSz.out; omega) ?_)
        intro v1 w1 hown hB _
        have HO1 := Lib.hid (own_q hown (HPs.out k) rfl (ln_length _ _))
        have HE1 := Lib.hid (Ext.trans' HE.out (by rw [HS.out]; exact hB))
        clear hown hB
        go_wp2
        go_roundw
        case rel => exact ⟨k + 1, by omega, by go_num, HO1.out, HE1.out⟩
        case measure => simp [intOf]; omega
      · obtain rfl : k = wn := by omega
        have x1 : ¬ (k : Int) < (k : Int) := by omega
        go_wp2
        go_ret
        exact ⟨_, rfl, ⟨_, _, _, rfl, by rw [HPR.out]; exact owns_bs HO.out (by rw [← HPR.out]; exact HRb.out) (by obtain ⟨q, k, e, h1, h2⟩ := owns_slice HO.out; simp only [Value.slice.injEq] at e; unfold maxLen at h2; omega) (by omega)⟩, HE2.out.trans HE.out⟩

end Go.Proofs.Ytdhbkjajhbfihaa
