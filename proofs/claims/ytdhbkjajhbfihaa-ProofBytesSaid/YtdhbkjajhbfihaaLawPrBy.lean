/-
  The walks of jalousielaw15.few, same (two that say the same) and ProofBytes: it answers true. No conditions.
-/
import Derived.Test.YtdhbkjajhbfihaaLawPrPar
namespace Go.Proofs.Ytdhbkjajhbfihaa
open Go.ChangeShapes Go.WideShapes Go.ChangeAt Go.RowKit

theorem box2 (w : World) (A B : Array Value) (T U : TypeId) : ∃ w2, (w.alloc (.cells A T)).alloc (.cells B U) = w2 ∧ Ext w w2 ∧ w2.heap[w.heap.size]? = some (.cells A T (0, 0)) ∧ w2.heap[w.heap.size + 1]? = some (.cells B U (0, 0)) := by
  refine ⟨_, rfl, ((Ext.refl w).alloc _).alloc _, ?_, ?_⟩
  · exact Ext.keep ((Ext.refl (w.alloc (.cells A T))).alloc _) (heap_new w _ _ rfl)
  · exact heap_new _ _ _ (by simp)
def ringV : Array Value := rowArr 33 fun i => if i < 32 then .int .u8 0 else .slice none 0 0
set_option maxRecDepth 100000 in
theorem zero_ring (w : World) : (zeroValue 37).run Try.prog w = .ok (.agg ringV) w := by kernel_rfl

def SomeB (e : Ending) : Prop := ∃ v, e = .returned (.bool v)

set_option maxHeartbeats 4000000 in
set_option maxRecDepth 100000 in
theorem few15_any (p : Pr) (w : World) (hp : PrAt w p) : Calls Try.prog 6 #[.agg (prV p), .agg ringV] w fun e w' => SomeB e ∧ Ext w w' := by
  obtain ⟨w2, hw2, hE2, hB2, hR2⟩ := box2 w (prV p) ringV 32 37
  obtain ⟨g, hg⟩ : ∃ g, w.heap.size = g := ⟨_, rfl⟩
  rw [hg] at hB2 hR2
  have c54 := pr_atoks hB2
  have c179 := pr_btoks hB2
  have c254 := pr_toks hB2
  have c32 : w2.cell? ⟨g + 1, 32, none⟩ = some (.slice none 0 0) := row_cell hR2 32 (by omega)
  have hs1 := hp.a.toks.small
  have hs2 := hp.b.toks.small
  have hs3 := hp.toks.small
  have Hg := Lib.hid hg
  have Hw2 := Lib.hid hw2
  have HE := Lib.hid hE2
  obtain ⟨PV, hPV⟩ : ∃ PV, prV p = PV := ⟨_, rfl⟩
  rw [hPV] at Hw2 ⊢
  obtain ⟨RV, hRV⟩ : ∃ RV, ringV = RV := ⟨_, rfl⟩
  rw [hRV] at Hw2 ⊢
  obtain ⟨n1, e1⟩ : ∃ n, p.a.1.tn = n := ⟨_, rfl⟩
  obtain ⟨n2, e2⟩ : ∃ n, p.b.1.tn = n := ⟨_, rfl⟩
  obtain ⟨n3, e3⟩ : ∃ n, p.wn = n := ⟨_, rfl⟩
  rw [e1] at c54 hs1
  rw [e2] at c179 hs2
  rw [e3] at c254 hs3
  clear hw2 hE2 hB2 hR2 hg hp hPV hRV e1 e2 e3
  by_cases h1 : n1 ≤ 20
  case neg =>
    have x1 : ¬ (n1 : Int) ≤ 20 := by omega
    have y1 : decide (n1 ≤ 20) = false := decide_eq_false h1
    go_enter Try.func6, Try.ntmps6
    go_upto_region 1 with (fail)
    refine wp_world (w' := w2) Hw2.out ?_
    rw [Hg.out]
    clear Hw2 Hg
    go_wp2
    go_ret
    exact ⟨⟨_, rfl⟩, HE.out⟩
  have x1 : (n1 : Int) ≤ 20 := by omega
  by_cases h2 : n2 ≤ 20
  case neg =>
    have x2 : ¬ (n2 : Int) ≤ 20 := by omega
    have y2 : decide (n2 ≤ 20) = false := decide_eq_false h2
    go_enter Try.func6, Try.ntmps6
    go_upto_region 1 with (fail)
    refine wp_world (w' := w2) Hw2.out ?_
    rw [Hg.out]
    clear Hw2 Hg
    go_wp2
    go_ret
    exact ⟨⟨_, rfl⟩, HE.out⟩
  have x2 : (n2 : Int) ≤ 20 := by omega
  by_cases h3 : n3 ≤ 20
  case neg =>
    have x3 : ¬ (n3 : Int) ≤ 20 := by omega
    have y3 : decide (n3 ≤ 20) = false := decide_eq_false h3
    go_enter Try.func6, Try.ntmps6
    go_upto_region 1 with (fail)
    refine wp_world (w' := w2) Hw2.out ?_
    rw [Hg.out]
    clear Hw2 Hg
    go_wp2
    go_ret
    exact ⟨⟨_, rfl⟩, HE.out⟩
  have x3 : (n3 : Int) ≤ 20 := by omega
  go_enter Try.func6, Try.ntmps6
  go_upto_region 1 with (fail)
  refine wp_world (w' := w2) Hw2.out ?_
  rw [Hg.out]
  clear Hw2 Hg
  go_wp2
  go_ret
  exact ⟨⟨_, rfl⟩, HE.out⟩

set_option maxHeartbeats 8000000 in
set_option maxRecDepth 100000 in
theorem prSame_any (p q : Pr) (w : World) (hp : PrAt w p) (hq : PrAt w q) (he : PrEq p q) :
    Calls Try.prog 11 #[.agg (prV p), .agg (prV q)] w fun e w' => e = .returned (.bool true) ∧ Ext w w' := by
  obtain ⟨w2, hw2, hE2, hB2, hR2⟩ := box2 w (prV p) (prV q) 32 32
  obtain ⟨g, hg⟩ : ∃ g, w.heap.size = g := ⟨_, rfl⟩
  rw [hg] at hB2 hR2
  have Hg := Lib.hid hg
  have Hw2 := Lib.hid hw2
  have HE := Lib.hid hE2
  have HB := Lib.hid hB2
  have HR := Lib.hid hR2
  have hsm := hp.toks.small
  have HT := Lib.hid hp.toks
  have HU := Lib.hid hq.toks
  have HEq := Lib.hid he
  have hsa : sameB p.a.1 q.a.1 p.a.2 q.a.2 = true := (sameB_iff hp.a.toks.len hq.a.toks.len).2 he.a
  have hsb : sameB p.b.1 q.b.1 p.b.2 q.b.2 = true := (sameB_iff hp.b.toks.len hq.b.toks.len).2 he.b
  have HSa := Lib.hid (show ∀ w9, Ext w w9 → Calls Try.prog 29 #[.agg (hdV p.a.1), .agg (hdV q.a.1)] w9 fun e w' => e = .returned (.bool true) ∧ Ext w9 w' from fun w9 h9 => by
    have h1 := sameHd_any p.a.1 q.a.1 p.a.2 q.a.2 w9 (hp.a.toks.ext h9) (hq.a.toks.ext h9)
    rw [hsa] at h1
    exact h1)
  have HSb := Lib.hid (show ∀ w9, Ext w w9 → Calls Try.prog 29 #[.agg (hdV p.b.1), .agg (hdV q.b.1)] w9 fun e w' => e = .returned (.bool true) ∧ Ext w9 w' from fun w9 h9 => by
    have h1 := sameHd_any p.b.1 q.b.1 p.b.2 q.b.2 w9 (hp.b.toks.ext h9) (hq.b.toks.ext h9)
    rw [hsb] at h1
    exact h1)
  have HNe := Lib.hid neq_t
  obtain ⟨n, hn⟩ : ∃ n, p.wn = n := ⟨_, rfl⟩
  have hnq : q.wn = n := by rw [← he.wn, hn]
  have c1 := pr_toks hB2
  have c2 := pr_toks hR2
  rw [hn] at c1 hsm
  rw [hnq] at c2
  have Hn := Lib.hid hn
  have Hnq := Lib.hid hnq
  obtain ⟨PV, hPV⟩ : ∃ PV, prV p = PV := ⟨_, rfl⟩
  obtain ⟨QV, hQV⟩ : ∃ QV, prV q = QV := ⟨_, rfl⟩
  rw [hPV, hQV] at Hw2 ⊢
  clear hw2 hE2 hB2 hR2 hg hp hq he hsa hsb hn hnq hPV hQV
  go_enter Try.func11, Try.ntmps11
  go_upto_region 1 with (fail)
  refine wp_world (w' := w2) Hw2.out ?_
  rw [Hg.out]
  clear Hw2
  go_wp2
  go_loopw [5] (fun i wr => ∃ j : Nat, j ≤ n ∧ i = .int .i64 (j : Int) ∧ Ext w2 wr) (fun i _ => n - (intOf i).toNat)
  case atStart => exact ⟨0, Nat.zero_le _, rfl, Ext.refl _⟩
  case round =>
    obtain ⟨j, hj, rfl, hE⟩ := hrel
    have HEr := Lib.hid hE
    have HBr := Lib.hid (hE.keep HB.out)
    have HRr := Lib.hid (hE.keep HR.out)
    clear hE c1 c2
    have c1 := pr_toks HBr.out
    have c2 := pr_toks HRr.out
    rw [Hn.out] at c1
    rw [Hnq.out] at c2
    by_cases hlt : j < n
    · have x1 : (j : Int) < (n : Int) := by omega
      have x2 : (0 : Int) ≤ (j : Int) := by omega
      have HTr := HT.out.ext (HE.out.trans HEr.out)
      have HUr := HU.out.ext (HE.out.trans HEr.out)
      obtain ⟨bt, offt, hta, hck⟩ := HTr.at_ (by rw [Hn.out]; omega)
      obtain ⟨bu, offu, hua, hcu⟩ := HUr.at_ (by rw [Hnq.out]; omega)
      have hk1 := hck j (by rw [Hn.out]; exact hlt)
      have hk2 := hcu j (by rw [Hnq.out]; exact hlt)
      have htu : ∀ i, i < 16 → (p.ws.getD j fun _ => 0) i = (q.ws.getD j fun _ => 0) i := HEq.out.toks j (by rw [Hn.out]; exact hlt)
      obtain ⟨t, ht⟩ : ∃ t, (p.ws.getD j fun _ => 0) = t := ⟨_, rfl⟩
      obtain ⟨u, hu⟩ : ∃ t, (q.ws.getD j fun _ => 0) = t := ⟨_, rfl⟩
      rw [ht] at hk1 htu
      rw [hu] at hk2 htu
      rw [hta] at c1
      rw [hua] at c2
      obtain ⟨pc, hpc⟩ : ∃ c, p.wc = c := ⟨_, rfl⟩
      obtain ⟨qc, hqc⟩ : ∃ c, q.wc = c := ⟨_, rfl⟩
      rw [hpc] at c1
      rw [hqc] at c2
      have HC1 := Lib.hid (show ∀ w1, Ext wr w1 → w1.cell? ⟨g, 254, none⟩ = some (.slice (some ⟨bt, offt, none⟩) n pc) from fun w1 h1 => by rw [Ext.cell h1 (World.block_lt_of_cell? _ _ c1)]; exact c1)
      have HC2 := Lib.hid (show ∀ w1, Ext wr w1 → w1.cell? ⟨g + 1, 254, none⟩ = some (.slice (some ⟨bu, offu, none⟩) n qc) from fun w1 h1 => by rw [Ext.cell h1 (World.block_lt_of_cell? _ _ c2)]; exact c2)
      have HK1 := Lib.hid (show ∀ w1, Ext wr w1 → ∀ i, i < 16 → w1.cell? ⟨bt, offt + j * 16 + i, none⟩ = some (.int .u8 (t i)) from fun w1 h1 i hi => by rw [Ext.cell h1 (World.block_lt_of_cell? _ _ (hk1 i hi))]; exact hk1 i hi)
      have HK2 := Lib.hid (show ∀ w1, Ext wr w1 → ∀ i, i < 16 → w1.cell? ⟨bu, offu + j * 16 + i, none⟩ = some (.int .u8 (u i)) from fun w1 h1 i hi => by rw [Ext.cell h1 (World.block_lt_of_cell? _ _ (hk2 i hi))]; exact hk2 i hi)
      have hne : ∀ w, (binOp .neq 26 (.agg (rowArr 16 fun j => .int .u8 (t j))) (.agg (rowArr 16 fun j => .int .u8 (u j)))).run Try.prog w = .ok (.bool false) w := fun w => by
        rw [HNe.out w t u, show arrB 16 t u = true from decide_eq_true htu]
        rfl
      have Hj := Lib.hid hlt
      clear HTr HUr hta hck hua hcu hk1 hk2 htu ht hu hpc hqc
      go_upto_region 6 with (fail)
      clear c1 c2
      have HX0 := Lib.hid (show ∀ x, Ext wr.drew x → Ext wr x from fun x hx => Ext.trans (Ext.refl wr).drew hx)
      refine wp_region_lexA (by kernel_rfl) (by kernel_rfl) ?_
      refine lx_e (.pointer (some ⟨g, 254, none⟩)) [] (by kernel_rfl) rfl (by rfl) (fun w1 hw1 => ?_) ?_
      · simp only [pk, lexVals]
        go_simp
        exact ⟨Ext.refl _, rfl⟩
      refine lx_e (.slice (some ⟨bt, offt, none⟩) n pc) [(0, 20)] (by kernel_rfl) rfl (by rfl) (fun w1 hw1 => ?_) ?_
      · simp only [pk, nthSp, lexVals]
        have hc := HC1.out w1 (HX0.out w1 hw1)
        clear hw1
        go_simp
        exact ⟨Ext.refl _, rfl⟩
      refine lx_e (.int .i64 (j : Int)) [] (by kernel_rfl) rfl (by rfl) (fun w1 hw1 => ?_) ?_
      · simp only [pk, lexVals]
        go_simp
        exact ⟨Ext.refl _, rfl⟩
      refine lx_e (.pointer (some ⟨bt, offt + j * 16, none⟩)) [(1, 21), (0, 22)] (by kernel_rfl) rfl (by rfl) (fun w1 hw1 => ?_) ?_
      · simp only [pk, nthSp, lexVals]
        exact lu_idx rfl rfl rfl Hj.out
      refine lx_e (.agg (rowArr 16 fun j => .int .u8 (t j))) [(0, 23)] (by kernel_rfl) rfl (by rfl) (fun w1 hw1 => ?_) ?_
      · simp only [pk, nthSp, lexVals]
        exact lu_sub rfl rfl Try.underlying26 (size_tok w1) (HK1.out w1 (HX0.out w1 hw1))
      refine lx_e (.pointer (some ⟨g + 1, 254, none⟩)) [] (by kernel_rfl) rfl (by rfl) (fun w1 hw1 => ?_) ?_
      · simp only [pk, lexVals]
        go_simp
        exact ⟨Ext.refl _, rfl⟩
      refine lx_e (.slice (some ⟨bu, offu, none⟩) n qc) [(0, 25)] (by kernel_rfl) rfl (by rfl) (fun w1 hw1 => ?_) ?_
      · simp only [pk, nthSp, lexVals]
        have hc := HC2.out w1 (HX0.out w1 hw1)
        clear hw1
        go_simp
        exact ⟨Ext.refl _, rfl⟩
      refine lx_e (.int .i64 (j : Int)) [] (by kernel_rfl) rfl (by rfl) (fun w1 hw1 => ?_) ?_
      · simp only [pk, lexVals]
        go_simp
        exact ⟨Ext.refl _, rfl⟩
      refine lx_e (.pointer (some ⟨bu, offu + j * 16, none⟩)) [(1, 26), (0, 27)] (by kernel_rfl) rfl (by rfl) (fun w1 hw1 => ?_) ?_
      · simp only [pk, nthSp, lexVals]
        exact lu_idx rfl rfl rfl Hj.out
      refine lx_e (.agg (rowArr 16 fun j => .int .u8 (u j))) [(0, 28)] (by kernel_rfl) rfl (by rfl) (fun w1 hw1 => ?_) ?_
      · simp only [pk, nthSp, lexVals]
        exact lu_sub rfl rfl Try.underlying26 (size_tok w1) (HK2.out w1 (HX0.out w1 hw1))
      refine lx_e (.bool false) [(5, 24), (0, 29)] (by kernel_rfl) rfl (by rfl) (fun w1 hw1 => ?_) ?_
      · simp only [pk, nthSp, lexVals]
        go_simp
        exact ⟨Ext.refl _, rfl⟩
      refine lx_stopA (by rfl) fun w5 hw5 => ?_
      have HE5 := Lib.hid (HEr.out.trans (HX0.out w5 hw5))
      clear hw5 HX0
      simp only [rv, pf, lexVals]
      simp only [Act.put, List.setIfInBounds_toArray, List.set_cons_zero, List.set_cons_succ]
      have wJ : IntKind.i64.wrap ((j : Int) + 1) = (j : Int) + 1 := by rw [IntKind.wrap_i64]; omega
      go_wp2
      go_roundw
      case rel => exact ⟨j + 1, by omega, by go_num, HE5.out⟩
      case measure => simp [intOf]; omega
    · obtain rfl : j = n := by omega
      have x1 : ¬ (j : Int) < (j : Int) := by omega
      have HE3 := Lib.hid (HE.out.trans HEr.out)
      have c0 := pr_kind HBr.out
      have d0 := pr_kind HRr.out
      have c251 := pr_writer HBr.out
      have d251 := pr_writer HRr.out
      have c252 := pr_floor HBr.out
      have d252 := pr_floor HRr.out
      have c253 := pr_head HBr.out
      have d253 := pr_head HRr.out
      rw [← HEq.out.kind] at d0
      rw [← HEq.out.writer] at d251
      rw [← HEq.out.floor] at d252
      rw [← HEq.out.head] at d253
      go_wp2_with (first | (refine wp_hmid rfl _ rfl g 1 p.a.1 rfl (pr_ra HBr.out) ?_) | (refine wp_hmid rfl _ rfl (g + 1) 1 q.a.1 rfl (pr_ra HRr.out) ?_) | (refine wp_hmid rfl _ rfl g 126 p.b.1 rfl (pr_rb HBr.out) ?_) | (refine wp_hmid rfl _ rfl (g + 1) 126 q.b.1 rfl (pr_rb HRr.out) ?_))
      refine (HSa.out wr HE3.out).mono ?_
      rintro e w7 ⟨rfl, hE⟩
      have HE3 := Lib.hid (HE3.out.trans hE)
      have HBr := Lib.hid (hE.keep HBr.out)
      have HRr := Lib.hid (hE.keep HRr.out)
      clear hE c0 d0 c251 d251 c252 d252 c253 d253
      have c0 := pr_kind HBr.out
      have d0 := pr_kind HRr.out
      have c251 := pr_writer HBr.out
      have d251 := pr_writer HRr.out
      have c252 := pr_floor HBr.out
      have d252 := pr_floor HRr.out
      have c253 := pr_head HBr.out
      have d253 := pr_head HRr.out
      rw [← HEq.out.kind] at d0
      rw [← HEq.out.writer] at d251
      rw [← HEq.out.floor] at d252
      rw [← HEq.out.head] at d253
      go_wp2_with (first | (refine wp_hmid rfl _ rfl g 1 p.a.1 rfl (pr_ra HBr.out) ?_) | (refine wp_hmid rfl _ rfl (g + 1) 1 q.a.1 rfl (pr_ra HRr.out) ?_) | (refine wp_hmid rfl _ rfl g 126 p.b.1 rfl (pr_rb HBr.out) ?_) | (refine wp_hmid rfl _ rfl (g + 1) 126 q.b.1 rfl (pr_rb HRr.out) ?_))
      refine (HSb.out w7 HE3.out).mono ?_
      rintro e w8 ⟨rfl, hE⟩
      have HE3 := Lib.hid (HE3.out.trans hE)
      have HBr := Lib.hid (hE.keep HBr.out)
      have HRr := Lib.hid (hE.keep HRr.out)
      clear hE c0 d0 c251 d251 c252 d252 c253 d253
      have c0 := pr_kind HBr.out
      have d0 := pr_kind HRr.out
      have c251 := pr_writer HBr.out
      have d251 := pr_writer HRr.out
      have c252 := pr_floor HBr.out
      have d252 := pr_floor HRr.out
      have c253 := pr_head HBr.out
      have d253 := pr_head HRr.out
      rw [← HEq.out.kind] at d0
      rw [← HEq.out.writer] at d251
      rw [← HEq.out.floor] at d252
      rw [← HEq.out.head] at d253
      go_wp2
      go_ret
      exact ⟨by first | rfl | simp, HE3.out⟩

set_option maxHeartbeats 8000000 in
set_option maxRecDepth 100000 in
theorem lawPrBy_any (p : Pr) (w : World) (hp : PrAt w p) : Calls Try.prog 3 #[.agg (prV p)] w fun e w' => e = .returned (.bool true) ∧ Ext w w' := by
  obtain ⟨w2, hw2⟩ : ∃ w2, w.alloc (.cells (prV p) 32) = w2 := ⟨_, rfl⟩
  have hE2 : Ext w w2 := by rw [← hw2]; exact (Ext.refl w).alloc _
  have hB2 : w2.heap[w.heap.size]? = some (.cells (prV p) 32 (0, 0)) := by rw [← hw2]; exact heap_new w _ _ rfl
  obtain ⟨g, hg⟩ : ∃ g, w.heap.size = g := ⟨_, rfl⟩
  rw [hg] at hB2
  have Hg := Lib.hid hg
  have Hw2 := Lib.hid hw2
  have HE := Lib.hid hE2
  have HB := Lib.hid hB2
  have Hp := Lib.hid hp
  have Hsz := Lib.hid (prV_size p)
  have HFw := Lib.hid (fun w9 (h9 : Ext w w9) => few15_any p w9 (hp.ext h9))
  have HPb := Lib.hid (fun w9 (h9 : Ext w w9) => prBytes_any p w9 (hp.ext h9))
  have HFo := Lib.hid (fun w9 (h9 : Ext w w9) => refPrFormed_any p w9 (hp.ext h9))
  have HBy := Lib.hid (fun hf w9 (h9 : Ext w w9) => refPrBytes_any p w9 (hp.ext h9) hf)
  have HFd := Lib.hid (fun hf => pr_fwd hp hf)
  obtain ⟨PV, hPV⟩ : ∃ PV, prV p = PV := ⟨_, rfl⟩
  rw [hPV] at Hw2 HB Hsz HFw HPb HFo HBy ⊢
  have HPV := Lib.hid hPV
  have hzr := zero_ring
  obtain ⟨RV, hRV⟩ : ∃ RV, ringV = RV := ⟨_, rfl⟩
  rw [hRV] at HFw hzr
  clear hw2 hE2 hB2 hg hp hPV hRV
  go_enter Try.func3, Try.ntmps3
  go_upto_region 1 with (fail)
  refine wp_world (w' := w2) Hw2.out ?_
  rw [Hg.out]
  clear Hw2
  go_wp2_with fail
  refine (awake15_any w2).mono ?_
  rintro e w3 ⟨rfl, hE⟩
  have HE := Lib.hid (HE.out.trans hE)
  have HB := Lib.hid (hE.keep HB.out)
  clear hE
  go_wp2_with (refine wpList_load_rowW rfl 32 _ rfl g rfl _ _ _ _ HB.out Try.underlying32 rfl (by rw [Hsz.out]; kernel_rfl) ?_)
  refine (HFw.out w3 HE.out).mono ?_
  rintro e w4 ⟨⟨v, rfl⟩, hE⟩
  have HE := Lib.hid (HE.out.trans hE)
  have HB := Lib.hid (hE.keep HB.out)
  clear hE HFw hzr
  cases v with
  | false =>
    go_wp2_with fail
    refine (awake15_any w4).mono ?_
    rintro e w5 ⟨rfl, hE⟩
    have HE := Lib.hid (HE.out.trans hE)
    clear hE
    go_wp2
    go_ret
    exact ⟨rfl, HE.out⟩
  | true =>
  go_wp2_with (refine wpList_load_rowW rfl 32 _ rfl g rfl _ _ _ _ HB.out Try.underlying32 rfl (by rw [Hsz.out]; kernel_rfl) ?_)
  refine (HPb.out w4 HE.out).mono ?_
  rintro e w5 ⟨a, n, c, rfl, hbs, hE⟩
  have HE := Lib.hid (HE.out.trans hE)
  have HB := Lib.hid (hE.keep HB.out)
  have HBs := Lib.hid hbs
  clear hE hbs HPb
  cases hf : prB p with
  | false =>
    rw [hf] at HFo HBs
    have hn : n = 0 := by have h1 := HBs.out.len; rw [if_neg (by simp)] at h1; exact h1.symm
    subst hn
    simp only [Bool.false_eq_true, if_false]
    clear hf
    go_wp2_with (refine wpList_load_rowW rfl 32 _ rfl g rfl _ _ _ _ HB.out Try.underlying32 rfl (by rw [Hsz.out]; kernel_rfl) ?_)
    refine (HFo.out w5 HE.out).mono ?_
    rintro e w6 ⟨rfl, hE⟩
    have HE := Lib.hid (HE.out.trans hE)
    clear hE
    go_wp2
    go_ret
    exact ⟨rfl, HE.out⟩
  | true =>
    rw [hf] at HFo HBs
    rw [if_pos rfl] at HBs
    simp only [if_true]
    obtain ⟨htk, heq⟩ := HFd.out hf
    have HBy := Lib.hid (HBy.out hf)
    have Hf := Lib.hid hf
    obtain ⟨R, hR⟩ : ∃ R, prL p = R := ⟨_, rfl⟩
    rw [hR] at HBs htk heq HBy
    clear hf hR HFd
    go_wp2_with (refine wpList_load_rowW rfl 32 _ rfl g rfl _ _ _ _ HB.out Try.underlying32 rfl (by rw [Hsz.out]; kernel_rfl) ?_)
    refine (HFo.out w5 HE.out).mono ?_
    rintro e w6 ⟨rfl, hE⟩
    have HE := Lib.hid (HE.out.trans hE)
    have HB := Lib.hid (hE.keep HB.out)
    have HBs := Lib.hid (HBs.out.ext hE)
    have hPa := prParse_any a n c R w6 HBs.out
    have HPa := Lib.hid hPa
    clear hE HFo hPa
    go_wp2_with fail
    refine HPa.out.mono ?_
    rintro e w7 ⟨⟨q, rfl, hC, -⟩, hE⟩
    obtain ⟨hQ, aa, ca, ab, cb, wa, wc, hq⟩ := hC htk
    rw [if_pos htk]
    have hpq : PrEq p q := by
      rw [hq]
      exact ⟨heq.kind.symm, heq.a.symm.trans (reT_eq (prOf R).a aa ca).symm, heq.b.symm.trans (reT_eq (prOf R).b ab cb).symm, heq.writer.symm, heq.floor.symm, heq.head.symm, heq.wn.symm, fun i hi j hj => (heq.toks i (by rw [heq.wn]; exact hi) j hj).symm⟩
    have HE := Lib.hid (HE.out.trans hE)
    have HB := Lib.hid (hE.keep HB.out)
    have HBs := Lib.hid (HBs.out.ext hE)
    have HszQ := Lib.hid (prV_size q)
    have HallQ := Lib.hid (prV_one q)
    have HSm := Lib.hid (show ∀ w9, Ext w7 w9 → Calls Try.prog 11 #[.agg PV, .agg (prV q)] w9 fun e w' => e = .returned (.bool true) ∧ Ext w9 w' from fun w9 h9 => by
      have h1 := prSame_any p q w9 (Hp.out.ext (HE.out.trans h9)) (hQ.ext h9) hpq
      rw [HPV.out] at h1
      exact h1)
    obtain ⟨QV, hQV⟩ : ∃ QV, prV q = QV := ⟨_, rfl⟩
    rw [hQV] at HszQ HallQ HSm ⊢
    have hz := zero_pr
    clear hE hC hQ hq hpq htk heq hQV HPa
    go_upto_region 7 with (refine wpList_store_row rfl 32 _ _ rfl w7.heap.size _ rfl rfl _ _ (heap_new w7 _ _ rfl) (by rw [HszQ.out]; kernel_rfl) (by rw [HszQ.out]; rfl) HallQ.out ?_; rw [setRow_new w7 _ _ _ _ rfl])
    obtain ⟨w8, hw8⟩ : ∃ w8, w7.alloc (.cells QV 32) = w8 := ⟨_, rfl⟩
    have hE8 : Ext w7 w8 := by rw [← hw8]; exact (Ext.refl w7).alloc _
    obtain ⟨r, hr⟩ : ∃ r, w7.heap.size = r := ⟨_, rfl⟩
    have hB8 : w8.heap[r]? = some (.cells QV 32 (0, 0)) := by rw [← hw8]; exact heap_new w7 _ _ hr.symm
    refine wp_world (w' := w8) hw8 ?_
    rw [hr]
    have HE := Lib.hid (HE.out.trans hE8)
    have HB := Lib.hid (hE8.keep HB.out)
    have HBs := Lib.hid (HBs.out.ext hE8)
    have HQ := Lib.hid hB8
    have HSm := Lib.hid (fun w9 (h9 : Ext w8 w9) => HSm.out w9 (hE8.trans h9))
    have HBy := Lib.hid (fun w9 (h9 : Ext w8 w9) => HBy.out w9 (HE.out.trans h9))
    clear hw8 hE8 hr hB8 hz
    have HX0 := Lib.hid (show ∀ x, Ext w8.drew x → Ext w8 x from fun x hx => Ext.trans (Ext.refl w8).drew hx)
    have HX1 := HX0
    refine wp_region_lexA (by kernel_rfl) (by kernel_rfl) ?_
    refine lx_e (.int .i64 0) [] (by kernel_rfl) rfl (by rfl) (fun w1 hw1 => ?_) ?_
    · simp only [pk, lexVals]
      go_simp
      exact ⟨Ext.refl _, rfl⟩
    refine lx_e (.bool true) [(0, 36)] (by kernel_rfl) rfl (by rfl) (fun w1 hw1 => ?_) ?_
    · simp only [pk, nthSp, lexVals]
      go_simp
      exact ⟨Ext.refl _, rfl⟩
    refine lx_e (.bool true) [(0, 37)] (by kernel_rfl) rfl (by rfl) (fun w1 hw1 => ?_) ?_
    · simp only [pk, nthSp, lexVals]
      go_simp
      exact ⟨Ext.refl _, rfl⟩
    refine lx_ge (.int .i64 0) [(0, 38)] 38 (by kernel_rfl) rfl (by kernel_rfl) (by rfl) (fun w1 => ?_) (fun w1 hw1 => ?_) ?_
    · simp only [pk, nthSp, lexVals]
      rfl
    · simp only [pk, nthSp, lexVals]
      go_simp
      exact ⟨Ext.refl _, rfl⟩
    refine lx_ge (.bool true) [(0, 39), (1, 38)] 38 (by kernel_rfl) rfl (by kernel_rfl) (by rfl) (fun w1 => ?_) (fun w1 hw1 => ?_) ?_
    · simp only [pk, nthSp, lexVals]
      rfl
    · simp only [pk, nthSp, lexVals]
      go_simp
      exact ⟨Ext.refl _, rfl⟩
    refine lx_e (.bool true) [(2, 38), (0, 40)] (by kernel_rfl) rfl (by rfl) (fun w1 hw1 => ?_) ?_
    · simp only [pk, nthSp, lexVals]
      go_simp
      exact ⟨Ext.refl _, rfl⟩
    refine lx_e (.bool true) [(0, 41)] (by kernel_rfl) rfl (by rfl) (fun w1 hw1 => ?_) ?_
    · simp only [pk, nthSp, lexVals]
      go_simp
      exact ⟨Ext.refl _, rfl⟩
    refine lx_ge (.slice a n c) [(0, 42)] 42 (by kernel_rfl) rfl (by kernel_rfl) (by rfl) (fun w1 => ?_) (fun w1 hw1 => ?_) ?_
    · simp only [pk, nthSp, lexVals]
      rfl
    · simp only [pk, nthSp, lexVals]
      go_simp
      exact ⟨Ext.refl _, rfl⟩
    refine lx_ge (.string (strOf R)) [(0, 43), (1, 42)] 42 (by kernel_rfl) rfl (by kernel_rfl) (by rfl) (fun w1 => ?_) (fun w1 hw1 => ?_) ?_
    · simp only [pk, nthSp, lexVals]
      rfl
    · simp only [pk, nthSp, lexVals]
      exact lu_str rfl rfl (HBs.out.ext (HX1.out w1 hw1))
    refine lx_ge (.agg PV) [(2, 42)] 42 (by kernel_rfl) rfl (by kernel_rfl) (by rfl) (fun w1 => ?_) (fun w1 hw1 => ?_) ?_
    · simp only [pk, nthSp, lexVals]
      rfl
    · simp only [pk, nthSp, lexVals]
      exact lu_row rfl rfl ((HX0.out w1 hw1).keep HB.out) Try.underlying32 rfl (by rw [Hsz.out]; kernel_rfl)
    refine lx_ga (fun u w => ∃ q n c, u = .slice q n c ∧ BsAt w q n c R) [(0, 45), (3, 42)] 42 (by kernel_rfl) rfl (by kernel_rfl) (by rfl) (fun u w w' he ⟨q, n, c, h1, h2⟩ => ⟨q, n, c, h1, h2.ext he⟩) (fun w1 => ?_) (fun w1 hw1 => ?_) ?_
    · simp only [pk, nthSp, lexVals]
      rfl
    · simp only [pk, nthSp, lexVals]
      have HM := Lib.hid (HBy.out w1 (HX1.out w1 hw1))
      clear hw1
      go_simp
      refine HM.out.mono ?_
      rintro e w2 ⟨v2, rfl, hs, hE2⟩
      exact ⟨_, rfl, hE2, hs⟩
    refine lx_ge (.string (strOf R)) [(0, 46), (4, 42)] 42 (by kernel_rfl) rfl (by kernel_rfl) (by rfl) (fun w1 => ?_) (fun w1 hw1 => ?_) ?_
    · simp only [pk, nthSp, lexVals]
      rintro u46 ⟨q46, n46, c46, rfl, -⟩
      rfl
    · simp only [pk, nthSp, lexVals]
      rintro u46 ⟨q46, n46, c46, rfl, h46⟩
      exact lu_str rfl rfl h46
    refine lx_ge (.bool true) [(3, 44), (0, 47), (5, 42)] 42 (by kernel_rfl) rfl (by kernel_rfl) (by rfl) (fun w1 => ?_) (fun w1 hw1 => ?_) ?_
    · simp only [pk, nthSp, lexVals]
      rfl
    · simp only [pk, nthSp, lexVals]
      go_simp
      exact ⟨Ext.refl _, rfl⟩
    refine lx_e (.bool true) [(6, 42), (0, 48)] (by kernel_rfl) rfl (by rfl) (fun w1 hw1 => ?_) ?_
    · simp only [pk, nthSp, lexVals]
      go_simp
      exact ⟨Ext.refl _, rfl⟩
    refine lx_e (.bool true) [(0, 49)] (by kernel_rfl) rfl (by rfl) (fun w1 hw1 => ?_) ?_
    · simp only [pk, nthSp, lexVals]
      go_simp
      exact ⟨Ext.refl _, rfl⟩
    refine lx_ge (.agg PV) [(0, 50)] 50 (by kernel_rfl) rfl (by kernel_rfl) (by rfl) (fun w1 => ?_) (fun w1 hw1 => ?_) ?_
    · simp only [pk, nthSp, lexVals]
      rfl
    · simp only [pk, nthSp, lexVals]
      exact lu_row rfl rfl ((HX0.out w1 hw1).keep HB.out) Try.underlying32 rfl (by rw [Hsz.out]; kernel_rfl)
    refine lx_ge (.agg QV) [(1, 50)] 50 (by kernel_rfl) rfl (by kernel_rfl) (by rfl) (fun w1 => ?_) (fun w1 hw1 => ?_) ?_
    · simp only [pk, nthSp, lexVals]
      rfl
    · simp only [pk, nthSp, lexVals]
      exact lu_row rfl rfl ((HX0.out w1 hw1).keep HQ.out) Try.underlying32 rfl (by rw [HszQ.out]; kernel_rfl)
    refine lx_ge (.bool true) [(1, 51), (0, 52), (2, 50)] 50 (by kernel_rfl) rfl (by kernel_rfl) (by rfl) (fun w1 => ?_) (fun w1 hw1 => ?_) ?_
    · simp only [pk, nthSp, lexVals]
      rfl
    · simp only [pk, nthSp, lexVals]
      have HM := Lib.hid (HSm.out w1 (HX0.out w1 hw1))
      clear hw1
      go_simp
      refine HM.out.mono ?_
      rintro e w2 ⟨rfl, hE2⟩
      exact ⟨_, rfl, hE2, rfl⟩
    refine lx_e (.bool true) [(3, 50), (0, 53)] (by kernel_rfl) rfl (by rfl) (fun w1 hw1 => ?_) ?_
    · simp only [pk, nthSp, lexVals]
      go_simp
      exact ⟨Ext.refl _, rfl⟩
    refine lx_e (.bool true) [(0, 54)] (by kernel_rfl) rfl (by rfl) (fun w1 hw1 => ?_) ?_
    · simp only [pk, nthSp, lexVals]
      go_simp
      exact ⟨Ext.refl _, rfl⟩
    refine lx_stopA (by rfl) fun w9 hw9 => ?_
    have HE := Lib.hid (HE.out.trans (HX0.out w9 hw9))
    clear hw9
    simp only [rv, pf, lexVals]
    rintro v1 ⟨q1, n1, c1, rfl, -⟩
    simp only [Act.put, List.setIfInBounds_toArray, List.set_cons_zero, List.set_cons_succ]
    go_wp2
    go_ret
    exact ⟨rfl, HE.out⟩

end Go.Proofs.Ytdhbkjajhbfihaa
