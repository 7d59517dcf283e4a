/-
  The walks of jalousielaw15.few and Coded. Asked: the tables lie as the text lays them.
-/
import Derived.Test.YtpiebfhcfkncoaaDoorPrBy
import Derived.Test.YtpiebfhcfkncoaaDoorHdR
import Derived.Test.YtpiebfhcfkncoaaDoorRefHdB
namespace Go.Proofs.YtpiebfhcfkncoaaDoor
open Go.ChangeShapes Go.WideShapes Go.ChangeAt Go.RowKit

def SomeBo (e : Ending) : Prop := ∃ v, e = .returned (.bool v)

set_option maxHeartbeats 4000000 in
set_option maxRecDepth 100000 in
theorem few15r_any (p : Pr) (r : Rg) (w : World) (hp : PrAt w p) (hr : RgAt w r) : Calls Tryd.prog 7 #[.agg (prV p), .agg (rgV r)] w fun e w' => SomeBo e ∧ Ext w w' := by
  obtain ⟨w2, hw2, hE2, hB2, hR2⟩ := tok_box' w (prV p) (rgV r) 35 26
  obtain ⟨g, hg⟩ : ∃ g, w.heap.size = g := ⟨_, rfl⟩
  rw [hg] at hB2 hR2
  have c54 := pr_atoks hB2
  have c179 := pr_btoks hB2
  have c254 := pr_toks hB2
  have c32 := rg_eps hR2
  have hs1 := hp.a.toks.small
  have hs2 := hp.b.toks.small
  have hs3 := hp.toks.small
  have hs4 := hr.eps.small
  have Hg := Lib.hid hg
  have Hw2 := Lib.hid hw2
  have HE := Lib.hid hE2
  obtain ⟨PV, hPV⟩ : ∃ PV, prV p = PV := ⟨_, rfl⟩
  rw [hPV] at Hw2 ⊢
  obtain ⟨RV, hRV⟩ : ∃ RV, rgV r = RV := ⟨_, rfl⟩
  rw [hRV] at Hw2 ⊢
  obtain ⟨n1, e1⟩ : ∃ n, p.a.1.tn = n := ⟨_, rfl⟩
  obtain ⟨n2, e2⟩ : ∃ n, p.b.1.tn = n := ⟨_, rfl⟩
  obtain ⟨n3, e3⟩ : ∃ n, p.wn = n := ⟨_, rfl⟩
  obtain ⟨n4, e4⟩ : ∃ n, r.en = n := ⟨_, rfl⟩
  rw [e1] at c54 hs1
  rw [e2] at c179 hs2
  rw [e3] at c254 hs3
  rw [e4] at c32 hs4
  clear hw2 hE2 hB2 hR2 hg hp hPV hRV e1 e2 e3 e4 hr
  by_cases h1 : n1 ≤ 20
  case neg =>
    have x1 : ¬ (n1 : Int) ≤ 20 := by omega
    have y1 : decide (n1 ≤ 20) = false := decide_eq_false h1
    go_enter Tryd.func7, Tryd.ntmps7
    go_upto_region 1 with (fail)
    refine wp_world (w' := w2) Hw2.out ?_
    rw [Hg.out]
    clear Hw2 Hg
    go_wp2
    go_ret
    exact ⟨⟨_, rfl⟩, HE.out⟩
  have x1 : (n1 : Int) ≤ 20 := by omega
  by_cases h2 : n2 ≤ 20
  case neg =>
    have x2 : ¬ (n2 : Int) ≤ 20 := by omega
    have y2 : decide (n2 ≤ 20) = false := decide_eq_false h2
    go_enter Tryd.func7, Tryd.ntmps7
    go_upto_region 1 with (fail)
    refine wp_world (w' := w2) Hw2.out ?_
    rw [Hg.out]
    clear Hw2 Hg
    go_wp2
    go_ret
    exact ⟨⟨_, rfl⟩, HE.out⟩
  have x2 : (n2 : Int) ≤ 20 := by omega
  by_cases h3 : n3 ≤ 20
  case neg =>
    have x3 : ¬ (n3 : Int) ≤ 20 := by omega
    have y3 : decide (n3 ≤ 20) = false := decide_eq_false h3
    go_enter Tryd.func7, Tryd.ntmps7
    go_upto_region 1 with (fail)
    refine wp_world (w' := w2) Hw2.out ?_
    rw [Hg.out]
    clear Hw2 Hg
    go_wp2
    go_ret
    exact ⟨⟨_, rfl⟩, HE.out⟩
  have x3 : (n3 : Int) ≤ 20 := by omega
  by_cases h4 : n4 ≤ 20
  case neg =>
    have x4 : ¬ (n4 : Int) ≤ 20 := by omega
    have y4 : decide (n4 ≤ 20) = false := decide_eq_false h4
    go_enter Tryd.func7, Tryd.ntmps7
    go_upto_region 1 with (fail)
    refine wp_world (w' := w2) Hw2.out ?_
    rw [Hg.out]
    clear Hw2 Hg
    go_wp2
    go_ret
    exact ⟨⟨_, rfl⟩, HE.out⟩
  have x4 : (n4 : Int) ≤ 20 := by omega
  go_enter Tryd.func7, Tryd.ntmps7
  go_upto_region 1 with (fail)
  refine wp_world (w' := w2) Hw2.out ?_
  rw [Hg.out]
  clear Hw2 Hg
  go_wp2
  go_ret
  exact ⟨⟨_, rfl⟩, HE.out⟩

/-- A header with the code that it should have. -/
def codedH (r : Rg) (x : HT) : HT := match keyO r x.1 with
  | some f => if hdB x.1 x.2 = true then ({ x.1 with code := macF (l32 (codeK f)) (coreL x.1 x.2) }, x.2) else x
  | none => x
theorem codedH_at {w : World} {r : Rg} {x : HT} (h : HtAt w x) : HtAt w (codedH r x) := by
  unfold codedH
  split
  · split
    · exact ⟨⟨h.ok.writer, h.ok.seq, h.ok.prev, h.ok.epoch, h.ok.time, h.ok.item, h.ok.knows, h.ok.sum, h.ok.size, fun j _ => macF_byte _ _ j⟩, h.toks⟩
    · exact h
  · exact h
theorem hdC_code (h : Hd) (F : Nat → Int) : ∀ j, j < 125 → (if 93 ≤ j ∧ j < 93 + 32 then .int .u8 (F (j - 93)) else hdC h j) = hdC { h with code := F } j := by
  intro j hj
  by_cases h1 : 93 ≤ j ∧ j < 93 + 32
  · rw [if_pos h1]
    unfold hdC
    rw [if_neg (by omega), if_neg (by omega), if_neg (by omega), if_neg (by omega), if_neg (by omega), if_neg (by omega), if_neg (by omega), if_neg (by omega), if_neg (by omega), if_neg (by omega), if_neg (by omega)]
  · rw [if_neg h1]
    unfold hdC
    by_cases a1 : j < 1
    · rw [if_pos a1, if_pos a1]
    rw [if_neg a1, if_neg a1]
    by_cases a2 : j < 2
    · rw [if_pos a2, if_pos a2]
    rw [if_neg a2, if_neg a2]
    by_cases a34 : j < 34
    · rw [if_pos a34, if_pos a34]
    rw [if_neg a34, if_neg a34]
    by_cases a35 : j < 35
    · rw [if_pos a35, if_pos a35]
    rw [if_neg a35, if_neg a35]
    by_cases a36 : j < 36
    · rw [if_pos a36, if_pos a36]
    rw [if_neg a36, if_neg a36]
    by_cases a37 : j < 37
    · rw [if_pos a37, if_pos a37]
    rw [if_neg a37, if_neg a37]
    by_cases a53 : j < 53
    · rw [if_pos a53, if_pos a53]
    rw [if_neg a53, if_neg a53]
    by_cases a54 : j < 54
    · rw [if_pos a54, if_pos a54]
    rw [if_neg a54, if_neg a54]
    by_cases a60 : j < 60
    · rw [if_pos a60, if_pos a60]
    rw [if_neg a60, if_neg a60]
    by_cases a92 : j < 92
    · rw [if_pos a92, if_pos a92]
    rw [if_neg a92, if_neg a92]
    by_cases a93 : j < 93
    · rw [if_pos a93, if_pos a93]
    rw [if_neg a93, if_neg a93]
    omega
theorem setCells_other {g k : Nat} (hne : k ≠ g) : ∀ (vs : List Value) (o : Nat) (w : World), (w.setCells g o vs).heap[k]? = w.heap[k]?
  | [], _, _ => rfl
  | v :: r, o, w => (setCells_other hne r (o + 1) (w.setCell ⟨g, o, none⟩ v)).trans (Below.heap_setCell w ⟨g, o, none⟩ v k (fun e => hne e))
theorem hd_storeCode {w : World} {g : Nat} {h : Hd} (hr : w.rowIs g 33 125 (hdC h)) (F : Nat → Int) : w.there g 93 (rowArr 32 fun j => Value.int .u8 (F j)).size ∧ (w.setCells g 93 (rowArr 32 fun j => Value.int .u8 (F j)).toList).rowIs g 33 125 (hdC { h with code := F }) := by
  refine ⟨fun j hj => ?_, ?_⟩
  · rw [rowArr_size] at hj
    exact ⟨by rw [hr.cell (i := 93 + j) (by omega)]; rfl, hr.frozen _⟩
  · refine ((rowIs_setCells _ 93 _ _ hr).congr fun j hj => ?_).congr (hdC_code h F)
    rw [Array.length_toList, rowArr_size]
    by_cases h1 : 93 ≤ j ∧ j < 93 + 32
    · rw [if_pos h1, if_pos h1, List.getD_eq_getElem?_getD, Array.getElem?_toList, rowArr_get _ _ _ (by omega), Option.getD_some]
    · rw [if_neg h1, if_neg h1]
theorem below_setCells {B g : Nat} {a : World} (hg : B ≤ g) : ∀ (vs : List Value) (o : Nat) (w : World), Below B a w → Below B a (w.setCells g o vs)
  | [], _, _, h => h
  | v :: r, o, w, h => below_setCells hg r (o + 1) (w.setCell ⟨g, o, none⟩ v) (h.setCell hg v)

set_option maxHeartbeats 8000000 in
set_option maxRecDepth 100000 in
theorem coded_any (r : Rg) (h : Hd) (ts : List (Nat → Int)) (w : World) (hr : RgAt w r) (ho : HdOk h) (ht : TsAt w h.ta h.tn h.tc ts) (hk : KsAt 1 w) :
    Calls Tryd.prog 9 #[.agg (rgV r), .agg (hdV h)] w fun e w' => e = .returned (.agg (hdV (codedH r (h, ts)).1)) ∧ Ext w w' := by
  obtain ⟨w2, hw2, hE2, hR2, hH2, hZ2⟩ := box3 w (rgV r) (hdV h) (hdV hdN) 26 33 33
  obtain ⟨g, hg⟩ : ∃ g, w.heap.size = g := ⟨_, rfl⟩
  rw [hg] at hR2 hH2 hZ2
  have hzh := zero_hdN
  have hz := zero_set
  have hz3 := zero_h32
  have Hg := Lib.hid hg
  have Hw2 := Lib.hid hw2
  have HE0 := Lib.hid hE2
  have HR2 := Lib.hid hR2
  have HH2 := Lib.hid hH2
  have HZ2 := Lib.hid hZ2
  have Hsz := Lib.hid (hdV_size h)
  have Hzz := Lib.hid (hdV_size hdN)
  have Hsr := Lib.hid (rgV_size r)
  have HN := Lib.hid (boxNew_any (fun _ => 0) (fun _ _ => by show (0 : Int) ≤ 0 ∧ (0 : Int) < 256; omega) w2 (hk.ext' hE2))
  have HKe := Lib.hid (fun x (hx : Ext w2 x) => keys15_any r h x (hr.ext (hE2.trans hx)) (hk.ext' (hE2.trans hx)))
  have HK := Lib.hid (fun x (hx : Ext w2 x) => hk.ext' (hE2.trans hx))
  have HFo := Lib.hid (fun w1 (h1 : Ext w2 w1) => refHd_any h ts w1 ho (ht.ext (hE2.trans h1)))
  have HCo := Lib.hid (show hdB h ts = true → ∀ w1, Ext w2 w1 → Calls Tryd.prog 17 #[.agg (hdV h)] w1 fun e w' => ∃ q n c, e = .returned (.slice q n c) ∧ BsAt w' q n c (coreL h ts) ∧ Ext w1 w' from fun hf w1 h1 =>
    (refCore_any h ts w1 ho (ht.ext (hE2.trans h1)) hf).mono fun e w' ⟨v, he, hown, hE⟩ => by
      obtain ⟨q, c, rfl, h2, h3⟩ := owns_slice hown
      exact ⟨q, _, c, he, owns_bs hown (coreL_byte hf ho ht.len ht.byte) (by unfold maxLen at h3; omega) (by have := coreL_le hf; omega), hE⟩)
  have HXl := Lib.hid (fun hf : hdB h ts = true => coreL_le (h := h) (ts := ts) hf)
  have HVo := Lib.hid (rowArr_one (n := 128) fun i _ => setC_one (keyO r h) i)
  have HVs := Lib.hid (rowArr_size 128 (setC (keyO r h)))
  have HVe := Lib.hid (show ∀ f, keyO r h = some f → ∀ i, i < 32 → setC (keyO r h) (32 + i) = .int .u8 (codeK f i) from fun f hf i hi => by rw [hf]; exact ofV_code f i hi)
  have HHo := Lib.hid (hdV_one h)
  have HHc := Lib.hid (fun F => hdV_one { h with code := F })
  have HHs := Lib.hid (fun F => hdV_size { h with code := F })
  unfold codedH
  obtain ⟨HV, hHV⟩ : ∃ A, hdV h = A := ⟨_, rfl⟩
  have HHV := Lib.hid hHV
  obtain ⟨ZV, hZV⟩ : ∃ A, hdV hdN = A := ⟨_, rfl⟩
  obtain ⟨RV, hRV⟩ : ∃ A, rgV r = A := ⟨_, rfl⟩
  rw [hHV] at HH2 Hsz HFo HCo Hw2 HKe HHo ⊢
  rw [hZV] at HZ2 Hzz Hw2 hzh
  rw [hRV] at HR2 Hsr Hw2 HKe ⊢
  obtain ⟨X, hX⟩ : ∃ X, coreL h ts = X := ⟨_, rfl⟩
  rw [hX] at HCo HXl
  obtain ⟨F, hF⟩ : ∃ F, hdB h ts = F := ⟨_, rfl⟩
  rw [hF] at HCo HXl HFo
  obtain ⟨O, hO⟩ : ∃ O, keyO r h = O := ⟨_, rfl⟩
  rw [hO] at HKe HVo HVs HVe
  dsimp only
  rw [hO]
  simp only [hX, hF]
  clear hw2 hE2 hR2 hH2 hZ2 hg ho ht hr hk hHV hZV hRV hX hF hO
  obtain ⟨SV, hSV⟩ : ∃ A, rowArr 128 (setC O) = A := ⟨_, rfl⟩
  have HSV := Lib.hid hSV
  rw [hSV] at HKe HVo HVs
  clear hSV
  go_enter Tryd.func9, Tryd.ntmps9
  go_upto_region 1 with (fail)
  refine wp_world (w' := w2) Hw2.out ?_
  rw [Hg.out]
  clear Hw2
  go_wp2_with fail
  refine HN.out.mono ?_
  rintro e w3 ⟨gb, rfl, hgb, hE⟩
  have HE3 := Lib.hid hE
  have HGb := Lib.hid hgb
  clear hE hgb HN
  go_wp2_with (first | (refine wpList_load_rowW rfl 26 _ rfl g rfl _ _ _ _ (HE3.out.keep HR2.out) Tryd.underlying26 rfl (by rw [Hsr.out]; kernel_rfl) ?_) | (refine wpList_load_rowW rfl 33 _ rfl (g + 1) rfl _ _ _ _ (HE3.out.keep HH2.out) Tryd.underlying33 rfl (by rw [Hsz.out]; kernel_rfl) ?_))
  refine (HKe.out w3 HE3.out).mono ?_
  rintro e w4 ⟨rfl, hE⟩
  have HE4 := Lib.hid (HE3.out.trans hE)
  have HGb4 := Lib.hid (show w4.cell? ⟨gb, 0, none⟩ = some (.bool false) by rw [Ext.cell hE (World.block_lt_of_cell? w3 _ HGb.out)]; exact HGb.out)
  clear hE HE3 HGb HKe
  go_upto_region 3 with (refine wpList_store_row rfl 48 _ _ rfl w4.heap.size _ rfl rfl _ _ (heap_new w4 _ _ rfl) (by rw [HVs.out]; kernel_rfl) (by rw [HVs.out]; rfl) HVo.out ?_; rw [setRow_new w4 _ _ _ _ rfl])
  obtain ⟨w6, hw6⟩ : ∃ x, w4.alloc (.cells SV 48) = x := ⟨_, rfl⟩
  obtain ⟨z, hz4⟩ : ∃ z, w4.heap.size = z := ⟨_, rfl⟩
  have hS6 : w6.heap[z]? = some (.cells SV 48 (0, 0)) := by rw [← hw6]; exact heap_new w4 _ _ hz4.symm
  have hE46 : Ext w4 w6 := by rw [← hw6]; exact (Ext.refl w4).alloc _
  have HE6 := Lib.hid (HE4.out.trans hE46)
  have HGb6 := Lib.hid (show w6.cell? ⟨gb, 0, none⟩ = some (.bool false) by rw [Ext.cell hE46 (World.block_lt_of_cell? w4 _ HGb4.out)]; exact HGb4.out)
  refine wp_world (w' := w6) hw6 ?_
  rw [hz4]
  have HS6 := Lib.hid hS6
  have HH6 := Lib.hid (HE6.out.keep HH2.out)
  have HZ6 := Lib.hid (HE6.out.keep HZ2.out)
  clear hw6 hz4 hz hE46 HE4 HGb4 hS6
  have hgg := Hg.out
  cases O with
  | none =>
    go_wp2_with (first | (refine wpList_load_rowW rfl 33 _ rfl (g + 1) rfl _ _ _ _ HH6.out Tryd.underlying33 rfl (by rw [Hsz.out]; kernel_rfl) ?_) | (refine wpList_store_row rfl 33 _ _ rfl _ _ rfl rfl _ _ HZ6.out (by rw [Hsz.out]; kernel_rfl) (by rw [Hsz.out, Hzz.out]) HHo.out ?_))
    refine bodyPost_ret (results_cell_row rfl _ _ (g + 1 + 1) _ _ _ _ rfl (setRow_heap w6 (g + 1 + 1) _ _ _ _ HZ6.out) Tryd.underlying33 rfl (by rw [Hsz.out]; kernel_rfl)) rfl ⟨by rw [← HHV.out], below_setRow (HE0.out.trans HE6.out) (by omega) _⟩
  | some f =>
    go_wp2_with (refine wpList_load_rowW rfl 33 _ rfl (g + 1) rfl _ _ _ _ HH6.out Tryd.underlying33 rfl (by rw [Hsz.out]; kernel_rfl) ?_)
    refine (HFo.out w6 HE6.out).mono ?_
    rintro e w7 ⟨rfl, hE⟩
    have HE7 := Lib.hid (HE6.out.trans hE)
    have HH7 := Lib.hid (hE.keep HH6.out)
    have HZ7 := Lib.hid (hE.keep HZ6.out)
    have HS7 := Lib.hid (hE.keep HS6.out)
    have HGb7 := Lib.hid (show w7.cell? ⟨gb, 0, none⟩ = some (.bool false) by rw [Ext.cell hE (World.block_lt_of_cell? w6 _ HGb6.out)]; exact HGb6.out)
    clear hE HE6 HH6 HZ6 HS6 HGb6 HFo
    cases F with
    | false =>
      go_wp2_with (first | (refine wpList_load_rowW rfl 33 _ rfl (g + 1) rfl _ _ _ _ HH7.out Tryd.underlying33 rfl (by rw [Hsz.out]; kernel_rfl) ?_) | (refine wpList_store_row rfl 33 _ _ rfl _ _ rfl rfl _ _ HZ7.out (by rw [Hsz.out]; kernel_rfl) (by rw [Hsz.out, Hzz.out]) HHo.out ?_))
      refine bodyPost_ret (results_cell_row rfl _ _ (g + 1 + 1) _ _ _ _ rfl (setRow_heap w7 (g + 1 + 1) _ _ _ _ HZ7.out) Tryd.underlying33 rfl (by rw [Hsz.out]; kernel_rfl)) rfl ⟨by rw [← HHV.out], below_setRow (HE0.out.trans HE7.out) (by omega) _⟩
    | true =>
      have HXq := Lib.hid (show X.length ≤ 400 from HXl.out (by first | rfl | trivial))
      have HCq := Lib.hid (show ∀ w1, Ext w2 w1 → Calls Tryd.prog 17 #[.agg HV] w1 fun e w' => ∃ q n c, e = .returned (.slice q n c) ∧ BsAt w' q n c X ∧ Ext w1 w' from HCo.out (by first | rfl | trivial))
      have HCd := Lib.hid (show ∀ x, Ext w7 x → ∀ i, i < 32 → x.cell? ⟨z, 32 + i, none⟩ = some (.int .u8 (codeK f i)) from fun x hx i hi => by
        have hh := hx.keep HS7.out
        rw [← HSV.out] at hh
        rw [row_cell hh (32 + i) (by omega), HVe.out f rfl i hi])
      have Hcb := Lib.hid (codeK_byte f)
      obtain ⟨cd, hcd⟩ : ∃ c, codeK f = c := ⟨_, rfl⟩
      rw [hcd] at HCd Hcb
      obtain ⟨M, hM⟩ : ∃ c, macF (l32 cd) X = c := ⟨_, rfl⟩
      have HM0 := Lib.hid hM
      have HMe := Lib.hid (show macF (l32 (codeK f)) X = M by rw [hcd, hM])
      have HMc := Lib.hid (show ∀ x, Ext w7 x → ∀ q n c, BsAt x q n c X → Calls Tryd.prog 16 #[.pointer (some ⟨gb, 0, none⟩), .agg (rowArr 32 fun j => .int .u8 (cd j)), .slice q n c] x fun e w' => e = .returned (.agg (rowArr 32 fun j => .int .u8 (M j))) ∧ Ext x w' from fun x hx q n c hq => by
        have h1 := boxCode_any gb cd Hcb.out q n c X x (by rw [Ext.cell hx (World.block_lt_of_cell? w7 _ HGb7.out)]; exact HGb7.out) hq (by have := hq.len; have := HXq.out; omega) (HK.out x (HE7.out.trans hx))
        rw [HM0.out] at h1
        exact h1)
      have HE6 := HE7
      have HH6 := HH7
      have HX := Lib.hid (show ∀ x, Ext w7.drew x → Ext w7 x from fun x hx => Ext.trans (Ext.refl w7).drew hx)
      clear HXl HCo hcd hM HVe HSV HS7
      go_upto_region 4 with (fail)
      refine wp_region_lexT 7 (by kernel_rfl) (by kernel_rfl) ?_
      simp only [List.take_succ_cons, List.take_zero, List.drop_succ_cons, List.drop_zero]
      refine lx_e (.pointer (some ⟨gb, 0, none⟩)) [] (by kernel_rfl) rfl (by rfl) (fun w1 hw1 => ?_) ?_
      · simp only [pk, lexVals]
        go_simp
        exact ⟨Ext.refl _, rfl⟩
      refine lx_e (.pointer (some ⟨z, 32, none⟩)) [] (by kernel_rfl) rfl (by rfl) (fun w1 hw1 => ?_) ?_
      · simp only [pk, lexVals]
        go_simp
        exact ⟨Ext.refl _, rfl⟩
      refine lx_e (.agg (rowArr 32 fun j => .int .u8 (cd j))) [(0, 22)] (by kernel_rfl) rfl (by rfl) (fun w1 hw1 => ?_) ?_
      · simp only [pk, nthSp, lexVals]
        exact lu_sub rfl rfl Tryd.underlying23 (size_h32 _) (HCd.out w1 (HX.out w1 hw1))
      refine lx_e (.agg HV) [] (by kernel_rfl) rfl (by rfl) (fun w1 hw1 => ?_) ?_
      · simp only [pk, lexVals]
        exact lu_row rfl rfl ((HX.out w1 hw1).keep HH6.out) Tryd.underlying33 rfl (by rw [Hsz.out]; kernel_rfl)
      refine lx_a (fun u w => ∃ q n c, u = .slice q n c ∧ BsAt w q n c X) [(0, 24)] (by kernel_rfl) rfl (by rfl) (fun u w w' he ⟨q, n, c, h1, h2⟩ => ⟨q, n, c, h1, h2.ext he⟩) (fun w1 hw1 => ?_) ?_
      · simp only [pk, nthSp, lexVals]
        have HM := Lib.hid (HCq.out w1 (HE6.out.trans (HX.out w1 hw1)))
        clear hw1
        go_simp
        refine HM.out.mono ?_
        rintro e w2 ⟨q, n, c, rfl, hs, hE2⟩
        exact ⟨_, rfl, hE2, _, _, _, rfl, hs⟩
      refine lx_e (.agg (rowArr 32 fun j => .int .u8 (M j))) [(4, 21), (2, 23), (0, 25)] (by kernel_rfl) rfl (by rfl) (fun w1 hw1 => ?_) ?_
      · simp only [pk, nthSp, lexVals]
        rintro u25 ⟨q25, n25, c25, rfl, h25⟩
        have hm := HMc.out w1 (HX.out w1 hw1) _ _ _ h25
        have HM := Lib.hid hm
        clear hm hw1 h25
        go_simp
        refine HM.out.mono ?_
        rintro e w2 ⟨rfl, hE2⟩
        exact ⟨_, rfl, hE2, rfl⟩
      refine lx_e (.pointer (some ⟨g + 1, 93, none⟩)) [] (by kernel_rfl) rfl (by rfl) (fun w1 hw1 => ?_) ?_
      · simp only [pk, lexVals]
        go_simp
        exact ⟨Ext.refl _, rfl⟩
      refine lx_stopT (by rfl) (by decide) fun w8 hw8 => ?_
      have HE8 := Lib.hid (HE7.out.trans (HX.out w8 hw8))
      have HH8 := Lib.hid ((HX.out w8 hw8).keep HH7.out)
      have HZ8 := Lib.hid ((HX.out w8 hw8).keep HZ7.out)
      clear hw8 HX HE7 HE6 HH7 HH6 HZ7 HMc HCq HCd HGb7
      simp only [rv, pf, lexVals, List.drop_succ_cons, List.drop_zero]
      rintro v1 ⟨q1, n1, c1, rfl, -⟩
      simp only [Act.put, List.setIfInBounds_toArray, List.set_cons_zero, List.set_cons_succ]
      have hst := hd_storeCode (rowIs_of (by have hh := HH8.out; rw [← HHV.out] at hh; exact hh)) M
      have HTh := Lib.hid hst.1
      go_upto_region 5 with (refine wpList_store_mid rfl 23 _ _ rfl (g + 1) 93 (rowArr 32 fun j => .int .u8 (M j)) rfl rfl HTh.out (by rw [rowArr_size]; kernel_rfl) (rowArr_one fun _ _ => rfl) ?_)
      obtain ⟨w9, hw9⟩ : ∃ x, w8.setCells (g + 1) 93 (rowArr 32 fun j => Value.int .u8 (M j)).toList = x := ⟨_, rfl⟩
      have hr9 := hst.2
      rw [hw9] at hr9
      have HH9 := Lib.hid (rowIs_cells hr9)
      have HZ9 := Lib.hid (show w9.heap[g + 1 + 1]? = some (.cells ZV 33 (0, 0)) by
        rw [← hw9, setCells_other (by omega)]
        exact HZ8.out)
      have HE9 := Lib.hid (show Ext w w9 by rw [← hw9]; exact below_setCells (by omega) _ _ _ (HE0.out.trans HE8.out))
      refine wp_world (w' := w9) hw9 ?_
      have Hsz9 := Lib.hid (HHs.out M)
      have Ho9 := Lib.hid (HHc.out M)
      obtain ⟨CV, hCV⟩ : ∃ x, hdV { h with code := M } = x := ⟨_, rfl⟩
      have HCV := Lib.hid hCV
      rw [show rowArr 125 (hdC { h with code := M }) = CV from hCV] at HH9
      rw [hCV] at Hsz9 Ho9
      clear hst hr9 hw9 HTh hCV HE8 HH8 HZ8 HHs HHc
      go_wp2_with (first | (refine wpList_load_rowW rfl 33 _ rfl (g + 1) rfl _ _ _ _ HH9.out Tryd.underlying33 rfl (by rw [Hsz9.out]; kernel_rfl) ?_) | (refine wpList_store_row rfl 33 _ _ rfl _ _ rfl rfl _ _ HZ9.out (by rw [Hsz9.out]; kernel_rfl) (by rw [Hsz9.out, Hzz.out]) Ho9.out ?_))
      refine bodyPost_ret (results_cell_row rfl _ _ (g + 1 + 1) _ _ _ _ rfl (setRow_heap w9 (g + 1 + 1) _ _ _ _ HZ9.out) Tryd.underlying33 rfl (by rw [Hsz9.out]; kernel_rfl)) rfl ⟨by rw [← HCV.out, ← HMe.out], below_setRow HE9.out (by omega) _⟩

end Go.Proofs.YtpiebfhcfkncoaaDoor
