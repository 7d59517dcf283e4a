/-
  The walk of Out.Text. No conditions.
  The walk of proof.Bytes. No conditions.
  The walk of jalousielaw15.awake: it answers true. No conditions.
-/
import Derived.Test.YtpiebfhcfkncoaaDoorPackO
import Derived.Test.YtpiebfhcfkncoaaDoorPr
import Derived.Test.YtpiebfhcfkncoaaDoorHdBy
namespace Go.Proofs.YtpiebfhcfkncoaaDoor
open Go.ChangeAt Go.ChangeShapes Go.RowKit Go.WideShapes

theorem bs_none (w : World) : BsAt w none 0 0 [] := ⟨rfl, Nat.le_refl _, by omega, by omega, by simp, fun h => by omega, fun _ => rfl⟩
set_option maxRecDepth 100000 in
theorem oText_any (g : Nat) (v : Value) (xs ys : List Int) (long : Bool) (a : Option Addr) (n c : Nat) (w : World) (h : OutAt w g v xs long) (hb : BsAt w a n c ys) (hp : Apart a n g v) (hn : n ≤ 4096) (hs : xs.length ≤ 70368744177664) :
    Calls Tryd.prog 42 #[.pointer (some ⟨g, 0, none⟩), .slice a n c] w fun e w' => e = .returned (.tuple #[]) ∧ OutTo w w' g v (xs ++ textL ys) long := by
  have hl := hb.len
  have x1 : ¬ 4096 < (n : Int) := by omega
  have x2 : IntKind.u64.wrap (n : Int) = (n : Int) := by rw [IntKind.wrap_u64]; omega
  have HN := Lib.hid (oNum_any g v xs long (n : Int) w h (by omega) (by omega) hs)
  have hle := numL_length_le (n : Int)
  have e1 : (xs ++ numL (n : Int)) ++ ys = xs ++ textL ys := by unfold textL; rw [hl, List.append_assoc]
  have E1 := Lib.hid e1
  have HB := Lib.hid hb
  have HP := Lib.hid hp
  obtain ⟨c0, c1, z0, z1⟩ := in_cells h.blk
  clear h hb hl e1 hp
  go_enter Tryd.func42, Tryd.ntmps42
  go_wp2_with fail
  refine HN.out.mono ?_
  rintro e w1 ⟨rfl, v1, hO, hS⟩
  have HR := Lib.hid (oRaw_any g v1 (xs ++ numL (n : Int)) ys long a n c w1 hO (HB.out.step hS HP.out) (by rw [List.length_append]; omega))
  have HS := Lib.hid hS
  clear hO hS
  go_wp2_with fail
  refine HR.out.mono ?_
  rintro e w2 ⟨rfl, hT⟩
  have HT := Lib.hid (OutTo.trans HS.out hT)
  clear hT
  first | go_end0 | (go_wp2; go_end0) | (go_wp2; refine bodyPost_ret (results_none rfl _ _ _) rfl ?_) | refine bodyPost_ret (results_none rfl _ _ _) rfl ?_
  refine ⟨rfl, ?_⟩
  have hT := HT.out
  rw [E1.out] at hT
  exact hT

theorem OutAt.apart_own {w w' : World} {g : Nat} {v : Value} {xs : List Int} {long : Bool} {a : Option Addr} {n m c : Nat} {zs : List Value} (h : OutAt w g v xs long) (hown : w'.ownsRow w.heap.size 5 1 (.slice a n c) m zs) : Apart a n g v := by
  intro _ b off e
  subst e
  have h1 := (hown.lt b rfl).1
  have h2 : g < w.heap.size := (Array.getElem?_eq_some_iff.1 h.blk).1
  exact ⟨by omega, fun e => by have := (h.own.lt _ e.symm).2; omega⟩

set_option maxHeartbeats 8000000 in
set_option maxRecDepth 100000 in
theorem prBytes_any (p : Pr) (w : World) (hp : PrAt w p) :
    Calls Tryd.prog 20 #[.agg (prV p)] w fun e w' => ∃ a n c, e = .returned (.tuple #[.slice a n c, .int .i64 (if prB p = true then 0 else 1)]) ∧ BsAt w' a n c (if prB p = true then prL p else []) ∧ Ext w w' := by
  have HRb0 := Lib.hid (fun hf => prL_byte hp hf)
  have HRk := Lib.hid (fun hf => prB_kind (p := p) hf)
  have HR3 := Lib.hid (fun hf hk => prB_3 (p := p) hf hk)
  have HR4 := Lib.hid (fun hf hk => prB_4 (p := p) hf hk)
  have HFo := Lib.hid (fun w9 (h9 : Ext w w9) => prFormed_any p w9 (hp.ext h9))
  obtain ⟨R, hR⟩ : ∃ R, prL p = R := ⟨_, rfl⟩
  have HRe := Lib.hid hR.symm
  rw [hR] at HRb0 ⊢
  clear hR
  obtain ⟨f, hf⟩ : ∃ f, prB p = f := ⟨_, rfl⟩
  rw [hf] at HFo HRb0 HRk HR3 HR4 ⊢
  clear hf
  obtain ⟨K, a, b, W, F, H, wa, wn, wc, ws⟩ := p
  have hbW : -9223372036854775808 ≤ W ∧ W ≤ 9223372036854775807 := hp.writer
  have hbF : 0 ≤ F ∧ F < 18446744073709551616 := hp.floor
  have hbH : 0 ≤ H ∧ H < 18446744073709551616 := hp.head
  have Ha := Lib.hid (show HtAt w a from hp.a)
  have Hb := Lib.hid (show HtAt w b from hp.b)
  have HT := Lib.hid (show TsAt w wa wn wc ws from hp.toks)
  have Hba := Lib.hid (bytesL_byte Ha.out.ok Ha.out.toks.len Ha.out.toks.byte)
  have Hbb := Lib.hid (bytesL_byte Hb.out.ok Hb.out.toks.len Hb.out.toks.byte)
  have Hla := Lib.hid (bytesL_le a.1 a.2)
  have Hlb := Lib.hid (bytesL_le b.1 b.2)
  obtain ⟨w2, hw2⟩ : ∃ w2, w.alloc (.cells (prV ⟨K, a, b, W, F, H, wa, wn, wc, ws⟩) 35) = w2 := ⟨_, rfl⟩
  have hE2 : Ext w w2 := by rw [← hw2]; exact (Ext.refl w).alloc _
  have hB2 : w2.heap[w.heap.size]? = some (.cells (prV ⟨K, a, b, W, F, H, wa, wn, wc, ws⟩) 35 (0, 0)) := by rw [← hw2]; exact heap_new w _ _ rfl
  obtain ⟨g, hg⟩ : ∃ g, w.heap.size = g := ⟨_, rfl⟩
  rw [hg] at hB2
  have Hg := Lib.hid hg
  have Hw2 := Lib.hid hw2
  have HE := Lib.hid hE2
  have HB := Lib.hid hB2
  have Hsz := Lib.hid (prV_size ⟨K, a, b, W, F, H, wa, wn, wc, ws⟩)
  have HPV0 := Lib.hid hB2
  obtain ⟨PV, hPV⟩ : ∃ PV, prV ⟨K, a, b, W, F, H, wa, wn, wc, ws⟩ = PV := ⟨_, rfl⟩
  have HPV := Lib.hid hPV
  rw [hPV] at HFo HB Hsz Hw2 ⊢
  have hsm : wn ≤ 140737488355328 := hp.toks.small
  clear hw2 hE2 hB2 hg hp hPV
  cases f with
  | false =>
    simp only [Bool.false_eq_true, if_false]
    go_enter Tryd.func20, Tryd.ntmps20
    go_upto_region 1 with (fail)
    refine wp_world (w' := w2) Hw2.out ?_
    rw [Hg.out]
    clear Hw2
    go_wp2_with (refine wpList_load_rowW rfl 35 _ rfl g rfl _ _ _ _ HB.out Tryd.underlying35 rfl (by rw [Hsz.out]; kernel_rfl) ?_)
    refine (HFo.out w2 HE.out).mono ?_
    rintro e w3 ⟨rfl, hE⟩
    have HE3 := Lib.hid (HE.out.trans hE)
    clear hE HFo
    go_wp2
    go_ret2
    exact ⟨none, 0, 0, rfl, bs_none _, HE3.out⟩
  | true =>
  have hk := HRk.out rfl
  have HRb := Lib.hid (HRb0.out rfl)
  simp only [if_true]
  go_enter Tryd.func20, Tryd.ntmps20
  go_upto_region 1 with (fail)
  refine wp_world (w' := w2) Hw2.out ?_
  rw [Hg.out]
  go_wp2_with (refine wpList_load_rowW rfl 35 _ rfl g rfl _ _ _ _ HB.out Tryd.underlying35 rfl (by rw [Hsz.out]; kernel_rfl) ?_)
  refine (HFo.out w2 HE.out).mono ?_
  rintro e w3 ⟨rfl, hE⟩
  have hE3 := HE.out.trans hE
  have hB3 : w3.heap[g]? = some (.cells (prV ⟨K, a, b, W, F, H, wa, wn, wc, ws⟩) 35 (0, 0)) := hE.keep HPV0.out
  obtain ⟨w4, hw4⟩ : ∃ w4, w3.alloc (.cells #[.slice none 0 0, .bool false] 86) = w4 := ⟨_, rfl⟩
  have hE4 : Ext w3 w4 := by rw [← hw4]; exact (Ext.refl w3).alloc _
  have hO4 : OutAt w4 w3.heap.size (.slice none 0 0) [] false := by rw [← hw4]; exact out_new w3
  obtain ⟨gO, hgO⟩ : ∃ g, w3.heap.size = g := ⟨_, rfl⟩
  rw [hgO] at hO4
  have Hgne := Lib.hid (show g ≠ gO by have := (Array.getElem?_eq_some_iff.1 hB3).1; omega)
  have Hwg := Lib.hid (show w.heap.size ≤ gO by have := Below.size hE3; omega)
  have HE4 := Lib.hid (hE3.trans hE4)
  have HB4 := Lib.hid (hE4.keep hB3)
  have hBH := Lib.hid (show ∀ (wk : World) (v : Value), OutStep w4 wk gO (.slice none 0 0) v → wk.heap[g]? = some (.cells (prV ⟨K, a, b, W, F, H, wa, wn, wc, ws⟩) 35 (0, 0)) from fun wk v hS => hS.keep HB4.out Hgne.out)
  have HO := Lib.hid hO4
  have HS := Lib.hid (OutStep.refl w4 gO (.slice none 0 0))
  have HgO := Lib.hid hgO
  have Hw4 := Lib.hid hw4
  clear hE hE3 hB3 hw4 hE4 hO4 hgO HFo HB HPV0 Hw2 HE HRb0 HRk
  go_upto_region 4 with (fail)
  refine wp_world (w' := w4) Hw4.out ?_
  rw [HgO.out]
  clear Hw4 HgO
  obtain ⟨X, hX0⟩ : ∃ X : List Int, X = [] := ⟨_, rfl⟩
  obtain ⟨wO, hwO⟩ : ∃ w, w = w4 := ⟨_, rfl⟩
  obtain ⟨vO, hvO⟩ : ∃ v, v = Value.slice none 0 0 := ⟨_, rfl⟩
  have HXl := Lib.hid (show X.length ≤ 0 by rw [hX0]; exact Nat.le_refl 0)
  have HXe := Lib.hid hX0
  rw [← hX0, ← hvO, ← hwO] at HO
  have HS := Lib.hid (show OutStep w4 wO gO (.slice none 0 0) vO by rw [hwO, hvO]; exact HS.out)
  rw [← hwO]
  clear hX0 hwO hvO
  rcases hk with hk | hk | hk | hk
  · have hk : K = 1 := hk
    subst hk
    have HRe := Lib.hid (show R = [] ++ numL 1 ++ textL (bytesL a.1 a.2) ++ textL (bytesL b.1 b.2) from by rw [HRe.out]; unfold prL; simp [List.append_assoc])
    have cX := pr_kind' (hBH.out _ _ HS.out)
    have HN := Lib.hid (oNum_any gO vO X false 1 wO HO.out (by omega) (by omega) (by have := HXl.out; omega))
    go_wp2_with fail
    refine HN.out.mono ?_
    rintro e w9 ⟨rfl, v9, hO, hS⟩
    obtain ⟨X2, hX⟩ : ∃ Y, X ++ numL 1 = Y := ⟨_, rfl⟩
    have hXl : X2.length ≤ 10 := by rw [← hX, List.length_append]; have := numL_length_le 1; have := HXl.out; omega
    rw [hX] at hO
    have HO := Lib.hid hO
    have HS := Lib.hid (HS.out.trans hS)
    have HXl := Lib.hid hXl
    rw [HXe.out] at hX
    have HXe := Lib.hid hX.symm
    clear hO hS hX hXl cX HN
    obtain ⟨X, rfl⟩ : ∃ X, X = X2 := ⟨_, rfl⟩
    obtain ⟨wO, rfl⟩ : ∃ w, w = w9 := ⟨_, rfl⟩
    obtain ⟨vO, rfl⟩ : ∃ v, v = v9 := ⟨_, rfl⟩
    have cK := pr_kind' (hBH.out _ _ HS.out)
    have HHb := Lib.hid (hdBytes_any a.1 a.2 wO Ha.out.ok (Ha.out.toks.outStep HE4.out Hwg.out HS.out))
    go_wp2_with ((refine wpList_load_mid rfl 33 _ rfl g 1 rfl (hdL a.1) _ (pr_ra' (hBH.out _ _ HS.out)) Tryd.underlying33 rfl (by rw [hdL_length]; kernel_rfl) ?_; rw [hdL_arr]))
    refine HHb.out.mono ?_
    rintro e w8 ⟨v8, rfl, hown, hE⟩
    obtain ⟨a8, c8, rfl, hc1, hc2⟩ := owns_slice hown
    have hb8 := owns_bs hown Hba.out (by unfold maxLen at hc2; omega) (by have := Hla.out; omega)
    have HR := Lib.hid (oText_any gO vO X (bytesL a.1 a.2) false a8 _ c8 w8 (HO.out.ext hE) hb8 (HO.out.apart_own hown) (by have := Hla.out; omega) (by have := HXl.out; omega))
    have HS := Lib.hid (HS.out.then hE)
    obtain ⟨N8, hN8⟩ : ∃ N, (bytesL a.1 a.2).length = N := ⟨_, rfl⟩
    rw [hN8] at HR ⊢
    have HN8 := Lib.hid hN8
    clear hown hc1 hc2 hb8 hE HHb hN8
    go_wp2_with fail
    refine HR.out.mono ?_
    rintro e w9 ⟨rfl, v9, hO, hS⟩
    obtain ⟨X2, hX⟩ : ∃ Y, X ++ textL (bytesL a.1 a.2) = Y := ⟨_, rfl⟩
    have hXl : X2.length ≤ 460 := by rw [← hX, List.length_append]; have := textL_le (bytesL a.1 a.2); have := HXl.out; have := Hla.out; omega
    rw [hX] at hO
    have HO := Lib.hid hO
    have HS := Lib.hid (HS.out.trans hS)
    have HXl := Lib.hid hXl
    rw [HXe.out] at hX
    have HXe := Lib.hid hX.symm
    clear hO hS hX hXl HR HN8
    obtain ⟨X, rfl⟩ : ∃ X, X = X2 := ⟨_, rfl⟩
    obtain ⟨wO, rfl⟩ : ∃ w, w = w9 := ⟨_, rfl⟩
    obtain ⟨vO, rfl⟩ : ∃ v, v = v9 := ⟨_, rfl⟩
    have HHb := Lib.hid (hdBytes_any b.1 b.2 wO Hb.out.ok (Hb.out.toks.outStep HE4.out Hwg.out HS.out))
    go_wp2_with ((refine wpList_load_mid rfl 33 _ rfl g 126 rfl (hdL b.1) _ (pr_rb' (hBH.out _ _ HS.out)) Tryd.underlying33 rfl (by rw [hdL_length]; kernel_rfl) ?_; rw [hdL_arr]))
    refine HHb.out.mono ?_
    rintro e w8 ⟨v8, rfl, hown, hE⟩
    obtain ⟨a8, c8, rfl, hc1, hc2⟩ := owns_slice hown
    have hb8 := owns_bs hown Hbb.out (by unfold maxLen at hc2; omega) (by have := Hlb.out; omega)
    have HR := Lib.hid (oText_any gO vO X (bytesL b.1 b.2) false a8 _ c8 w8 (HO.out.ext hE) hb8 (HO.out.apart_own hown) (by have := Hlb.out; omega) (by have := HXl.out; omega))
    have HS := Lib.hid (HS.out.then hE)
    obtain ⟨N8, hN8⟩ : ∃ N, (bytesL b.1 b.2).length = N := ⟨_, rfl⟩
    rw [hN8] at HR ⊢
    have HN8 := Lib.hid hN8
    clear hown hc1 hc2 hb8 hE HHb hN8
    go_wp2_with fail
    refine HR.out.mono ?_
    rintro e w9 ⟨rfl, v9, hO, hS⟩
    obtain ⟨X2, hX⟩ : ∃ Y, X ++ textL (bytesL b.1 b.2) = Y := ⟨_, rfl⟩
    have hXl : X2.length ≤ 910 := by rw [← hX, List.length_append]; have := textL_le (bytesL b.1 b.2); have := HXl.out; have := Hlb.out; omega
    rw [hX] at hO
    have HO := Lib.hid hO
    have HS := Lib.hid (HS.out.trans hS)
    have HXl := Lib.hid hXl
    rw [HXe.out] at hX
    have HXe := Lib.hid hX.symm
    clear hO hS hX hXl HR HN8
    obtain ⟨X, rfl⟩ : ∃ X, X = X2 := ⟨_, rfl⟩
    obtain ⟨wO, rfl⟩ : ∃ w, w = w9 := ⟨_, rfl⟩
    obtain ⟨vO, rfl⟩ : ∃ v, v = v9 := ⟨_, rfl⟩
    have HXR : X = R := by rw [HXe.out]; exact (HRe.out).symm
    subst HXR
    have HEn := Lib.hid (oEnd_any gO vO X wO HO.out HRb.out (by have := HXl.out; omega))
    go_wp2_with fail
    refine HEn.out.mono ?_
    rintro e w9 ⟨a9, c9, rfl, hb9, hE⟩
    have hEw := OutStep.ext HE4.out (HS.out.then hE) Hwg.out (fun r e => by simp [Value.ownBlock] at e)
    have HEw := Lib.hid hEw
    have HB9 := Lib.hid hb9
    obtain ⟨N, hN⟩ : ∃ N, X.length = N := ⟨_, rfl⟩
    rw [hN] at HB9 ⊢
    clear hE hb9 hEw hN HEn
    go_wp2
    go_ret2
    exact ⟨a9, _, c9, rfl, HB9.out, HEw.out⟩
  · have hk : K = 2 := hk
    subst hk
    have HRe := Lib.hid (show R = [] ++ numL 2 ++ textL (bytesL a.1 a.2) ++ textL (bytesL b.1 b.2) from by rw [HRe.out]; unfold prL; simp [List.append_assoc])
    have cX := pr_kind' (hBH.out _ _ HS.out)
    have HN := Lib.hid (oNum_any gO vO X false 2 wO HO.out (by omega) (by omega) (by have := HXl.out; omega))
    go_wp2_with fail
    refine HN.out.mono ?_
    rintro e w9 ⟨rfl, v9, hO, hS⟩
    obtain ⟨X2, hX⟩ : ∃ Y, X ++ numL 2 = Y := ⟨_, rfl⟩
    have hXl : X2.length ≤ 10 := by rw [← hX, List.length_append]; have := numL_length_le 2; have := HXl.out; omega
    rw [hX] at hO
    have HO := Lib.hid hO
    have HS := Lib.hid (HS.out.trans hS)
    have HXl := Lib.hid hXl
    rw [HXe.out] at hX
    have HXe := Lib.hid hX.symm
    clear hO hS hX hXl cX HN
    obtain ⟨X, rfl⟩ : ∃ X, X = X2 := ⟨_, rfl⟩
    obtain ⟨wO, rfl⟩ : ∃ w, w = w9 := ⟨_, rfl⟩
    obtain ⟨vO, rfl⟩ : ∃ v, v = v9 := ⟨_, rfl⟩
    have cK := pr_kind' (hBH.out _ _ HS.out)
    have HHb := Lib.hid (hdBytes_any a.1 a.2 wO Ha.out.ok (Ha.out.toks.outStep HE4.out Hwg.out HS.out))
    go_wp2_with ((refine wpList_load_mid rfl 33 _ rfl g 1 rfl (hdL a.1) _ (pr_ra' (hBH.out _ _ HS.out)) Tryd.underlying33 rfl (by rw [hdL_length]; kernel_rfl) ?_; rw [hdL_arr]))
    refine HHb.out.mono ?_
    rintro e w8 ⟨v8, rfl, hown, hE⟩
    obtain ⟨a8, c8, rfl, hc1, hc2⟩ := owns_slice hown
    have hb8 := owns_bs hown Hba.out (by unfold maxLen at hc2; omega) (by have := Hla.out; omega)
    have HR := Lib.hid (oText_any gO vO X (bytesL a.1 a.2) false a8 _ c8 w8 (HO.out.ext hE) hb8 (HO.out.apart_own hown) (by have := Hla.out; omega) (by have := HXl.out; omega))
    have HS := Lib.hid (HS.out.then hE)
    obtain ⟨N8, hN8⟩ : ∃ N, (bytesL a.1 a.2).length = N := ⟨_, rfl⟩
    rw [hN8] at HR ⊢
    have HN8 := Lib.hid hN8
    clear hown hc1 hc2 hb8 hE HHb hN8
    go_wp2_with fail
    refine HR.out.mono ?_
    rintro e w9 ⟨rfl, v9, hO, hS⟩
    obtain ⟨X2, hX⟩ : ∃ Y, X ++ textL (bytesL a.1 a.2) = Y := ⟨_, rfl⟩
    have hXl : X2.length ≤ 460 := by rw [← hX, List.length_append]; have := textL_le (bytesL a.1 a.2); have := HXl.out; have := Hla.out; omega
    rw [hX] at hO
    have HO := Lib.hid hO
    have HS := Lib.hid (HS.out.trans hS)
    have HXl := Lib.hid hXl
    rw [HXe.out] at hX
    have HXe := Lib.hid hX.symm
    clear hO hS hX hXl HR HN8
    obtain ⟨X, rfl⟩ : ∃ X, X = X2 := ⟨_, rfl⟩
    obtain ⟨wO, rfl⟩ : ∃ w, w = w9 := ⟨_, rfl⟩
    obtain ⟨vO, rfl⟩ : ∃ v, v = v9 := ⟨_, rfl⟩
    have HHb := Lib.hid (hdBytes_any b.1 b.2 wO Hb.out.ok (Hb.out.toks.outStep HE4.out Hwg.out HS.out))
    go_wp2_with ((refine wpList_load_mid rfl 33 _ rfl g 126 rfl (hdL b.1) _ (pr_rb' (hBH.out _ _ HS.out)) Tryd.underlying33 rfl (by rw [hdL_length]; kernel_rfl) ?_; rw [hdL_arr]))
    refine HHb.out.mono ?_
    rintro e w8 ⟨v8, rfl, hown, hE⟩
    obtain ⟨a8, c8, rfl, hc1, hc2⟩ := owns_slice hown
    have hb8 := owns_bs hown Hbb.out (by unfold maxLen at hc2; omega) (by have := Hlb.out; omega)
    have HR := Lib.hid (oText_any gO vO X (bytesL b.1 b.2) false a8 _ c8 w8 (HO.out.ext hE) hb8 (HO.out.apart_own hown) (by have := Hlb.out; omega) (by have := HXl.out; omega))
    have HS := Lib.hid (HS.out.then hE)
    obtain ⟨N8, hN8⟩ : ∃ N, (bytesL b.1 b.2).length = N := ⟨_, rfl⟩
    rw [hN8] at HR ⊢
    have HN8 := Lib.hid hN8
    clear hown hc1 hc2 hb8 hE HHb hN8
    go_wp2_with fail
    refine HR.out.mono ?_
    rintro e w9 ⟨rfl, v9, hO, hS⟩
    obtain ⟨X2, hX⟩ : ∃ Y, X ++ textL (bytesL b.1 b.2) = Y := ⟨_, rfl⟩
    have hXl : X2.length ≤ 910 := by rw [← hX, List.length_append]; have := textL_le (bytesL b.1 b.2); have := HXl.out; have := Hlb.out; omega
    rw [hX] at hO
    have HO := Lib.hid hO
    have HS := Lib.hid (HS.out.trans hS)
    have HXl := Lib.hid hXl
    rw [HXe.out] at hX
    have HXe := Lib.hid hX.symm
    clear hO hS hX hXl HR HN8
    obtain ⟨X, rfl⟩ : ∃ X, X = X2 := ⟨_, rfl⟩
    obtain ⟨wO, rfl⟩ : ∃ w, w = w9 := ⟨_, rfl⟩
    obtain ⟨vO, rfl⟩ : ∃ v, v = v9 := ⟨_, rfl⟩
    have HXR : X = R := by rw [HXe.out]; exact (HRe.out).symm
    subst HXR
    have HEn := Lib.hid (oEnd_any gO vO X wO HO.out HRb.out (by have := HXl.out; omega))
    go_wp2_with fail
    refine HEn.out.mono ?_
    rintro e w9 ⟨a9, c9, rfl, hb9, hE⟩
    have hEw := OutStep.ext HE4.out (HS.out.then hE) Hwg.out (fun r e => by simp [Value.ownBlock] at e)
    have HEw := Lib.hid hEw
    have HB9 := Lib.hid hb9
    obtain ⟨N, hN⟩ : ∃ N, X.length = N := ⟨_, rfl⟩
    rw [hN] at HB9 ⊢
    clear hE hb9 hEw hN HEn
    go_wp2
    go_ret2
    exact ⟨a9, _, c9, rfl, HB9.out, HEw.out⟩
  · have hk : K = 3 := hk
    subst hk
    have HRe := Lib.hid (show R = [] ++ numL 3 ++ numL W ++ numL F ++ numL H from by rw [HRe.out]; unfold prL; simp [List.append_assoc])
    have cX := pr_kind' (hBH.out _ _ HS.out)
    have HN := Lib.hid (oNum_any gO vO X false 3 wO HO.out (by omega) (by omega) (by have := HXl.out; omega))
    go_wp2_with fail
    refine HN.out.mono ?_
    rintro e w9 ⟨rfl, v9, hO, hS⟩
    obtain ⟨X2, hX⟩ : ∃ Y, X ++ numL 3 = Y := ⟨_, rfl⟩
    have hXl : X2.length ≤ 10 := by rw [← hX, List.length_append]; have := numL_length_le 3; have := HXl.out; omega
    rw [hX] at hO
    have HO := Lib.hid hO
    have HS := Lib.hid (HS.out.trans hS)
    have HXl := Lib.hid hXl
    rw [HXe.out] at hX
    have HXe := Lib.hid hX.symm
    clear hO hS hX hXl cX HN
    obtain ⟨X, rfl⟩ : ∃ X, X = X2 := ⟨_, rfl⟩
    obtain ⟨wO, rfl⟩ : ∃ w, w = w9 := ⟨_, rfl⟩
    obtain ⟨vO, rfl⟩ : ∃ v, v = v9 := ⟨_, rfl⟩
    have cK := pr_kind' (hBH.out _ _ HS.out)
    have h3 := HR3.out (by first | rfl | trivial) (by first | rfl | trivial)
    have hW1 : 1 ≤ W := h3.1
    have hW6 : W ≤ 6 := h3.2.1
    have wW : IntKind.u64.wrap W = W := by rw [IntKind.wrap_u64]; omega
    clear h3
    have cX := pr_writer' (hBH.out _ _ HS.out)
    have HN := Lib.hid (oNum_any gO vO X false W wO HO.out (by omega) (by omega) (by have := HXl.out; omega))
    go_wp2_with fail
    refine HN.out.mono ?_
    rintro e w9 ⟨rfl, v9, hO, hS⟩
    obtain ⟨X2, hX⟩ : ∃ Y, X ++ numL W = Y := ⟨_, rfl⟩
    have hXl : X2.length ≤ 20 := by rw [← hX, List.length_append]; have := numL_length_le W; have := HXl.out; omega
    rw [hX] at hO
    have HO := Lib.hid hO
    have HS := Lib.hid (HS.out.trans hS)
    have HXl := Lib.hid hXl
    rw [HXe.out] at hX
    have HXe := Lib.hid hX.symm
    clear hO hS hX hXl cX HN
    obtain ⟨X, rfl⟩ : ∃ X, X = X2 := ⟨_, rfl⟩
    obtain ⟨wO, rfl⟩ : ∃ w, w = w9 := ⟨_, rfl⟩
    obtain ⟨vO, rfl⟩ : ∃ v, v = v9 := ⟨_, rfl⟩
    have cX := pr_floor' (hBH.out _ _ HS.out)
    have HN := Lib.hid (oNum_any gO vO X false F wO HO.out hbF.1 hbF.2 (by have := HXl.out; omega))
    go_wp2_with fail
    refine HN.out.mono ?_
    rintro e w9 ⟨rfl, v9, hO, hS⟩
    obtain ⟨X2, hX⟩ : ∃ Y, X ++ numL F = Y := ⟨_, rfl⟩
    have hXl : X2.length ≤ 30 := by rw [← hX, List.length_append]; have := numL_length_le F; have := HXl.out; omega
    rw [hX] at hO
    have HO := Lib.hid hO
    have HS := Lib.hid (HS.out.trans hS)
    have HXl := Lib.hid hXl
    rw [HXe.out] at hX
    have HXe := Lib.hid hX.symm
    clear hO hS hX hXl cX HN
    obtain ⟨X, rfl⟩ : ∃ X, X = X2 := ⟨_, rfl⟩
    obtain ⟨wO, rfl⟩ : ∃ w, w = w9 := ⟨_, rfl⟩
    obtain ⟨vO, rfl⟩ : ∃ v, v = v9 := ⟨_, rfl⟩
    have cX := pr_head' (hBH.out _ _ HS.out)
    have HN := Lib.hid (oNum_any gO vO X false H wO HO.out hbH.1 hbH.2 (by have := HXl.out; omega))
    go_wp2_with fail
    refine HN.out.mono ?_
    rintro e w9 ⟨rfl, v9, hO, hS⟩
    obtain ⟨X2, hX⟩ : ∃ Y, X ++ numL H = Y := ⟨_, rfl⟩
    have hXl : X2.length ≤ 40 := by rw [← hX, List.length_append]; have := numL_length_le H; have := HXl.out; omega
    rw [hX] at hO
    have HO := Lib.hid hO
    have HS := Lib.hid (HS.out.trans hS)
    have HXl := Lib.hid hXl
    rw [HXe.out] at hX
    have HXe := Lib.hid hX.symm
    clear hO hS hX hXl cX HN
    obtain ⟨X, rfl⟩ : ∃ X, X = X2 := ⟨_, rfl⟩
    obtain ⟨wO, rfl⟩ : ∃ w, w = w9 := ⟨_, rfl⟩
    obtain ⟨vO, rfl⟩ : ∃ v, v = v9 := ⟨_, rfl⟩
    have HXR : X = R := by rw [HXe.out]; exact (HRe.out).symm
    subst HXR
    have HEn := Lib.hid (oEnd_any gO vO X wO HO.out HRb.out (by have := HXl.out; omega))
    go_wp2_with fail
    refine HEn.out.mono ?_
    rintro e w9 ⟨a9, c9, rfl, hb9, hE⟩
    have hEw := OutStep.ext HE4.out (HS.out.then hE) Hwg.out (fun r e => by simp [Value.ownBlock] at e)
    have HEw := Lib.hid hEw
    have HB9 := Lib.hid hb9
    obtain ⟨N, hN⟩ : ∃ N, X.length = N := ⟨_, rfl⟩
    rw [hN] at HB9 ⊢
    clear hE hb9 hEw hN HEn
    go_wp2
    go_ret2
    exact ⟨a9, _, c9, rfl, HB9.out, HEw.out⟩
  · have hk : K = 4 := hk
    subst hk
    have HRe := Lib.hid (show R = [] ++ numL 4 ++ textL (bytesL a.1 a.2) ++ numL (wn : Int) ++ toksL ws wn from by rw [HRe.out]; unfold prL; simp [List.append_assoc])
    have cX := pr_kind' (hBH.out _ _ HS.out)
    have HN := Lib.hid (oNum_any gO vO X false 4 wO HO.out (by omega) (by omega) (by have := HXl.out; omega))
    go_wp2_with fail
    refine HN.out.mono ?_
    rintro e w9 ⟨rfl, v9, hO, hS⟩
    obtain ⟨X2, hX⟩ : ∃ Y, X ++ numL 4 = Y := ⟨_, rfl⟩
    have hXl : X2.length ≤ 10 := by rw [← hX, List.length_append]; have := numL_length_le 4; have := HXl.out; omega
    rw [hX] at hO
    have HO := Lib.hid hO
    have HS := Lib.hid (HS.out.trans hS)
    have HXl := Lib.hid hXl
    rw [HXe.out] at hX
    have HXe := Lib.hid hX.symm
    clear hO hS hX hXl cX HN
    obtain ⟨X, rfl⟩ : ∃ X, X = X2 := ⟨_, rfl⟩
    obtain ⟨wO, rfl⟩ : ∃ w, w = w9 := ⟨_, rfl⟩
    obtain ⟨vO, rfl⟩ : ∃ v, v = v9 := ⟨_, rfl⟩
    have cK := pr_kind' (hBH.out _ _ HS.out)
    have h4 : wn ≤ 8 := HR4.out (by first | rfl | trivial) (by first | rfl | trivial)
    have HHb := Lib.hid (hdBytes_any a.1 a.2 wO Ha.out.ok (Ha.out.toks.outStep HE4.out Hwg.out HS.out))
    go_wp2_with ((refine wpList_load_mid rfl 33 _ rfl g 1 rfl (hdL a.1) _ (pr_ra' (hBH.out _ _ HS.out)) Tryd.underlying33 rfl (by rw [hdL_length]; kernel_rfl) ?_; rw [hdL_arr]))
    refine HHb.out.mono ?_
    rintro e w8 ⟨v8, rfl, hown, hE⟩
    obtain ⟨a8, c8, rfl, hc1, hc2⟩ := owns_slice hown
    have hb8 := owns_bs hown Hba.out (by unfold maxLen at hc2; omega) (by have := Hla.out; omega)
    have HR := Lib.hid (oText_any gO vO X (bytesL a.1 a.2) false a8 _ c8 w8 (HO.out.ext hE) hb8 (HO.out.apart_own hown) (by have := Hla.out; omega) (by have := HXl.out; omega))
    have HS := Lib.hid (HS.out.then hE)
    obtain ⟨N8, hN8⟩ : ∃ N, (bytesL a.1 a.2).length = N := ⟨_, rfl⟩
    rw [hN8] at HR ⊢
    have HN8 := Lib.hid hN8
    clear hown hc1 hc2 hb8 hE HHb hN8
    go_wp2_with fail
    refine HR.out.mono ?_
    rintro e w9 ⟨rfl, v9, hO, hS⟩
    obtain ⟨X2, hX⟩ : ∃ Y, X ++ textL (bytesL a.1 a.2) = Y := ⟨_, rfl⟩
    have hXl : X2.length ≤ 460 := by rw [← hX, List.length_append]; have := textL_le (bytesL a.1 a.2); have := HXl.out; have := Hla.out; omega
    rw [hX] at hO
    have HO := Lib.hid hO
    have HS := Lib.hid (HS.out.trans hS)
    have HXl := Lib.hid hXl
    rw [HXe.out] at hX
    have HXe := Lib.hid hX.symm
    clear hO hS hX hXl HR HN8
    obtain ⟨X, rfl⟩ : ∃ X, X = X2 := ⟨_, rfl⟩
    obtain ⟨wO, rfl⟩ : ∃ w, w = w9 := ⟨_, rfl⟩
    obtain ⟨vO, rfl⟩ : ∃ v, v = v9 := ⟨_, rfl⟩
    have wtn : IntKind.u64.wrap (wn : Int) = (wn : Int) := by rw [IntKind.wrap_u64]; omega
    have cX := pr_toks' (hBH.out _ _ HS.out)
    have HN := Lib.hid (oNum_any gO vO X false (wn : Int) wO HO.out (by omega) (by omega) (by have := HXl.out; omega))
    go_wp2_with fail
    refine HN.out.mono ?_
    rintro e w9 ⟨rfl, v9, hO, hS⟩
    obtain ⟨X2, hX⟩ : ∃ Y, X ++ numL (wn : Int) = Y := ⟨_, rfl⟩
    have hXl : X2.length ≤ 470 := by rw [← hX, List.length_append]; have := numL_length_le (wn : Int); have := HXl.out; omega
    rw [hX] at hO
    have HO := Lib.hid hO
    have HS := Lib.hid (HS.out.trans hS)
    have HXl := Lib.hid hXl
    rw [HXe.out] at hX
    have HXe := Lib.hid hX.symm
    clear hO hS hX hXl cX HN
    obtain ⟨X, rfl⟩ : ∃ X, X = X2 := ⟨_, rfl⟩
    obtain ⟨wO, rfl⟩ : ∃ w, w = w9 := ⟨_, rfl⟩
    obtain ⟨vO, rfl⟩ : ∃ v, v = v9 := ⟨_, rfl⟩
    have c12 := pr_toks' (hBH.out _ _ HS.out)
    obtain ⟨P, hP⟩ : ∃ P : Nat → List Int, P = fun k => X ++ toksL ws k := ⟨_, rfl⟩
    have HPs := Lib.hid (show ∀ k, P (k + 1) = P k ++ ln 16 (ws.getD k fun _ => 0) by intro k; rw [hP]; simp [toksL])
    have HPl := Lib.hid (show ∀ k, k ≤ wn → (P k).length ≤ 600 by intro k hk; rw [hP]; have := HXl.out; simp only [List.length_append, toksL_length]; omega)
    have HPR := Lib.hid (show R = P wn by rw [HRe.out, hP, HXe.out])
    have HO0 := Lib.hid (show OutAt wO gO vO (P 0) false by rw [hP]; simp only [toksL, List.append_nil]; exact HO.out)
    clear hP HO HXl HXe HRe
    go_wp2
    go_loopw [53] (fun i wr => ∃ (k : Nat) (v : Value), k ≤ wn ∧ i = .int .i64 (k : Int) ∧ OutAt wr gO v (P k) false ∧ OutStep w4 wr gO (.slice none 0 0) v) (fun i _ => wn - (intOf i).toNat)
    case atStart => exact ⟨0, vO, by omega, rfl, HO0.out, HS.out⟩
    case round =>
      obtain ⟨k, v, hk, rfl, hO, hS⟩ := hrel
      have hPl := HPl.out k hk
      have HO := Lib.hid hO
      have HS := Lib.hid hS
      clear hO hS c12
      by_cases hlt : k < wn
      · have x1 : (k : Int) < (wn : Int) := by omega
        have x2 : (0 : Int) ≤ (k : Int) := by omega
        have hts := HT.out.outStep HE4.out Hwg.out HS.out
        have htb := HT.out.tok k hlt
        obtain ⟨bt, offt, hta, hcell⟩ := hts.at_ (by omega)
        have hck := hcell k hlt
        have hPs := HPs.out k
        obtain ⟨t, htt⟩ : ∃ t, (ws.getD k fun _ => 0) = t := ⟨_, rfl⟩
        rw [htt] at hck hPs htb
        have HCk := Lib.hid hck
        have HPs' := Lib.hid hPs
        have HTb := Lib.hid htb
        have hz := zero_t16
        clear hts hcell hck hPs htt htb
        rw [hta]
        go_upto_region 20 with (first | (refine wp_sub rfl 29 _ rfl bt (offt + k * 16) 16 (fun j => .int .u8 (t j)) rfl Tryd.underlying29 (size_tok _) HCk.out ?_) | (refine wpList_store_row rfl 29 _ _ rfl wr.heap.size _ rfl rfl _ _ (heap_new wr _ _ rfl) (by kernel_rfl) (by simp [rowArr_size]) (rowArr_one fun _ _ => rfl) ?_; rw [setRow_new wr _ _ _ _ rfl]))
        obtain ⟨w7, hw7⟩ : ∃ w7, wr.alloc (.cells (rowArr 16 fun j => .int .u8 (t j)) 29) = w7 := ⟨_, rfl⟩
        have hE7 : Ext wr w7 := by rw [← hw7]; exact (Ext.refl wr).alloc _
        obtain ⟨gt, hgt⟩ : ∃ g, wr.heap.size = g := ⟨_, rfl⟩
        have hB7 : w7.heap[gt]? = some (.cells (rowArr 16 fun j => .int .u8 (t j)) 29 (0, 0)) := by rw [← hw7]; exact heap_new wr _ _ hgt.symm
        refine wp_world (w' := w7) hw7 ?_
        rw [hgt]
        have hbs := bs_cells (g := gt) (off := 0) (n := 16) (f := t) (fun i hi => by rw [Nat.zero_add]; exact row_cell hB7 i hi) HTb.out (by omega)
        have HR7 := Lib.hid (oRaw_any gO v (P k) (ln 16 t) false _ 16 16 w7 (HO.out.ext hE7) hbs (by omega))
        have HS7 := Lib.hid (HS.out.then hE7)
        clear hw7 hE7 hgt hB7 hbs
        go_wp2_with fail
        refine HR7.out.mono ?_
        rintro e w8 ⟨rfl, v8, hO8, hS8⟩
        rw [← HPs'.out] at hO8
        have HO8 := Lib.hid hO8
        have HS8 := Lib.hid (HS7.out.trans hS8)
        clear hO8 hS8 HR7 HS7
        rw [← hta]
        go_wp2
        go_roundw
        case rel => exact ⟨k + 1, v8, by omega, by go_num, HO8.out, HS8.out⟩
        case measure => simp [intOf]; omega
      · have hkt : k = wn := by omega
        subst hkt
        have x1 : ¬ (k : Int) < (k : Int) := by omega
        have hOk := HO.out
        rw [← HPR.out] at hOk
        have HXl := Lib.hid (show R.length ≤ 600 by rw [HPR.out]; exact hPl)
        have HO := Lib.hid hOk
        clear hOk
        have HXe := HRb
        obtain ⟨wO, hwO⟩ : ∃ w, w = wr := ⟨_, rfl⟩
        have HEn := Lib.hid (oEnd_any gO v R wr HO.out HRb.out (by have := HXl.out; omega))
        go_wp2_with fail
        refine HEn.out.mono ?_
        rintro e w9 ⟨a9, c9, rfl, hb9, hE⟩
        have hEw := OutStep.ext HE4.out (HS.out.then hE) Hwg.out (fun r e => by simp [Value.ownBlock] at e)
        have HEw := Lib.hid hEw
        have HB9 := Lib.hid hb9
        obtain ⟨N, hN⟩ : ∃ N, R.length = N := ⟨_, rfl⟩
        rw [hN] at HB9 ⊢
        clear hE hb9 hEw hN HEn
        go_wp2
        go_ret2
        exact ⟨a9, _, c9, rfl, HB9.out, HEw.out⟩

def prA : Pr := ⟨3, htN, htN, 1, 5, 3, none, 0, 0, []⟩
theorem prA_at (w : World) : PrAt w prA := ⟨by show (-9223372036854775808 : Int) ≤ 3 ∧ (3 : Int) ≤ _; omega, htN_at w, htN_at w, by show (-9223372036854775808 : Int) ≤ 1 ∧ (1 : Int) ≤ _; omega, by show (0 : Int) ≤ 5 ∧ (5 : Int) < _; omega, by show (0 : Int) ≤ 3 ∧ (3 : Int) < _; omega, TsAt.none_ w⟩
theorem prA_ok : prB prA = true := by decide +kernel
theorem prA_by : prL prA = [3, 1, 5, 3] := by decide +kernel
set_option maxRecDepth 100000 in
theorem build_prA (w : World) : (Instr.build 35 #[(0, .int .i64 3), (3, .int .i64 1), (4, .int .u64 5), (5, .int .u64 3)]).run Tryd.prog w = .ok (.agg (prV prA)) w := by kernel_rfl
theorem wp_build_prA {ops : Array Oper} {Q : Exit → Act → World → Prop} {rest : List Oper} {o : Oper} {a : Act} {w : World} (hw : Region.wanted o (yielded ops a.tmps) = true) (x0 x1 x2 x3 : Operand) (ho : o.op = .build 35 #[(0, x0), (3, x1), (4, x2), (5, x3)])
    (h0 : a.eval x0 = .int .i64 3) (h1 : a.eval x1 = .int .i64 1) (h2 : a.eval x2 = .int .u64 5) (h3 : a.eval x3 = .int .u64 3) (A : Array Value) (hA : prV prA = A)
    (h : wpList Tryd.prog ops Q rest (a.put o.dst (.agg A)) w) : wpList Tryd.prog ops Q (o :: rest) a w := by
  subst hA
  refine wpList_want hw fun K hK => ?_
  unfold Oper.wp execOp
  simp only [ho, List.map_toArray, List.map_cons, List.map_nil, h0, h1, h2, h3, Sem.run_bind, build_prA, Result.andThen_ok, Sem.run_pure]
  exact hK _ _ h
theorem str_prA : strOf [3, 1, 5, 3] = ⟨#[3, 1, 5, 3]⟩ := by decide +kernel

set_option maxHeartbeats 1000000 in
set_option maxRecDepth 100000 in
theorem awake15_any (w : World) : Calls Tryd.prog 6 #[] w fun e w' => e = .returned (.bool true) ∧ Ext w w' := by
  have hB := prBytes_any prA w (prA_at w)
  rw [prA_ok, if_pos rfl, if_pos rfl, prA_by] at hB
  have HB := Lib.hid hB
  obtain ⟨PV, hPV⟩ : ∃ PV, prV prA = PV := ⟨_, rfl⟩
  rw [hPV] at HB
  have HPV := Lib.hid hPV
  clear hB hPV
  go_enter Tryd.func6, Tryd.ntmps6
  go_wp2_with (refine wp_build_prA rfl _ _ _ _ rfl rfl rfl rfl rfl PV HPV.out ?_)
  refine HB.out.mono ?_
  rintro e w1 ⟨a, n, c, rfl, hbs, hE⟩
  have HE := Lib.hid hE
  have HBs := Lib.hid hbs
  clear hE hbs HB
  go_wp2_with (refine conv_strW rfl _ rfl a n c [3, 1, 5, 3] rfl HBs.out ?_; rw [str_prA])
  go_ret
  exact ⟨rfl, HE.out⟩

end Go.Proofs.YtpiebfhcfkncoaaDoor
