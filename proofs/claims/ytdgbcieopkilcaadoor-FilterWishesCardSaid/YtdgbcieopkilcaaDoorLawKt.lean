/-
  The walk of jalousielaw11.KeysTokens, in either mode: it answers true. Asked: the two tables of 64 words lie as the text lays them.
-/
import Derived.Test.YtdgbcieopkilcaaDoorBoxB
import Derived.Test.YtdgbcieopkilcaaDoorLawKo
import Derived.Test.YtdgbcieopkilcaaDoorRefMac
namespace Go.Proofs.YtdgbcieopkilcaaDoor
open Go.ChangeShapes Go.WideShapes Go.ChangeAt Go.RowKit

set_option maxRecDepth 100000 in
theorem zero_a32 (w : World) : (zeroValue 22).run Tryd.prog w = .ok (.agg (rowArr 32 fun _ => .int .u8 0)) w := by kernel_rfl
theorem inB_of {vs : List (Nat → Int)} {t v : Nat → Int} (hv : v ∈ vs) (he : l16 v = l16 t) : inB vs t = true := by
  unfold inB
  rw [List.any_eq_true]
  exact ⟨v, hv, (eqTok_iff _ _).2 he⟩
/-- Where the loop over the tags stands: the tokens of the first k, and what the box knows. -/
structure KtSt {gb gm top : Nat} {f : Nat → Int} (bl : Blinder gb gm top f) (s1 : bl.St) (w5 y : World) (ts : List Tk) (a : Option Addr) (k c : Nat) : Prop where
  at_ : ∃ s', bl.At s' y ∧ ∀ ys u, bl.tok s1 ys = some u → bl.tok s' ys = some u
  own : y.ownsRow w5.heap.size 35 16 (.slice a k c) k (tkL (ts.take k))
  kp : Kp2 gb gm w5 y
/-- What holds while a token is asked for. -/
def KtC {gb gm top : Nat} {f : Nat → Int} (bl : Blinder gb gm top f) (s1 : bl.St) (y x : World) : Prop := ∃ s', bl.At s' x ∧ (∀ ys u, bl.tok s1 ys = some u → bl.tok s' ys = some u) ∧ Kp2 gb gm y x
theorem KtC.ext {gb gm top : Nat} {f : Nat → Int} {bl : Blinder gb gm top f} {s1 : bl.St} {y x x' : World} (h : KtC bl s1 y x) (he : Ext x x') : KtC bl s1 y x' := by
  obtain ⟨s', h1, h2, h3⟩ := h
  exact ⟨s', bl.kept h1 (Below.mono he (bl.size h1)), h2, h3.trans (Kp2.of_ext he)⟩
def KtE (gb gm : Nat) (ph : Bool) (x x' : World) : Prop := match ph with
  | true => Ext x x'
  | false => Kp2 gb gm x x'
theorem ktE_ext {gb gm : Nat} {ph : Bool} {x x' : World} (h : Ext x x') : KtE gb gm ph x x' := by
  cases ph
  · exact Kp2.of_ext h
  · exact h
theorem tkL_take {ts : List Tk} {k n : Nat} {T : Nat → Int} (hl : ts.length = n) (hk : k < n) (hT : (ts.getD k default).1 = T) : tkL (ts.take (k + 1)) = tkC ((ts.take k).map (·.1) ++ [T]) := by
  unfold tkL
  rw [List.take_add_one, List.getElem?_eq_getElem (by omega), List.map_append, ← hT, List.getD_eq_getElem?_getD, List.getElem?_eq_getElem (by omega)]
  rfl
/-- A token of a row in memory, loaded. -/
theorem take16 {M T : Nat → Int} (h : ∀ j, j < 16 → M j = T j) : ((List.range 32).map M).take 16 = l16 T := by
  refine List.ext_getElem (by simp [l16]) fun i h1 h2 => ?_
  have hi : i < 16 := by simpa [l16] using h2
  simp only [List.getElem_take, List.getElem_map, List.getElem_range, l16]
  exact h i hi

set_option maxHeartbeats 3000000 in
set_option maxRecDepth 100000 in
theorem lawKt_any (K : Bool) (f : Nat → Int) (hf : ∀ j, j < 32 → 0 ≤ f j ∧ f j < 256) (a : Option Addr) (n c : Nat) (ss : List ByteArray) (w : World) (h : SrAt w a n c ss) (hk : KsAt 2 w) (hkw : KsAt 0 w) (hgl : 2 < w.heap.size) :
    Calls Tryd.prog 4 #[.bool K, .agg (rowArr 32 fun j => .int .u8 (f j)), .slice a n c] w fun e w' => e = .returned (.bool true) ∧ Ext w w' := by
  have hcap := h.cap
  have hlim := h.lim
  have H0 := Lib.hid h
  obtain ⟨w2, hw2⟩ : ∃ w2, w.alloc (.cells (rowArr 32 fun j => .int .u8 (f j)) 23) = w2 := ⟨_, rfl⟩
  have hE2 : Ext w w2 := by rw [← hw2]; exact (Ext.refl w).alloc _
  have hR2 : w2.heap[w.heap.size]? = some (.cells (rowArr 32 fun j => .int .u8 (f j)) 23 (0, 0)) := by rw [← hw2]; exact heap_new w _ _ rfl
  have HAw := Lib.hid (awake11_any w2 (hk.ext' hE2))
  have H2 := Lib.hid (h.ext hE2)
  have HE2 := Lib.hid hE2
  have HR2 := Lib.hid hR2
  have Hw2 := Lib.hid hw2
  have HK := Lib.hid hk
  have HKw := Lib.hid hkw
  have Hf := Lib.hid hf
  have Hlen := Lib.hid h.len
  clear h hE2 hR2 hw2 hk hkw hf
  obtain ⟨g, hg⟩ : ∃ g, w.heap.size = g := ⟨_, rfl⟩
  have Hg := Lib.hid hg
  clear hg
  go_enter Tryd.func4, Tryd.ntmps4
  go_upto_region 1 with (fail)
  refine wp_world (w' := w2) Hw2.out ?_
  rw [Hg.out]
  clear Hw2
  go_wp2_with fail
  refine HAw.out.mono ?_
  rintro e w3 ⟨rfl, hE3⟩
  have HE3 := Lib.hid hE3
  have HFew := Lib.hid (fewS_any a n c ss w3 (H2.out.ext hE3))
  clear hE3 HAw
  go_wp2_with fail
  refine HFew.out.mono ?_
  rintro e w4 ⟨R, rfl, hR, hE4⟩
  have HE4 := Lib.hid (HE3.out.trans hE4)
  have HRn := Lib.hid hR
  clear hE4 hR HFew HE3
  have HA4 := Lib.hid (awake11_any w4 (HK.out.ext' (HE2.out.trans HE4.out)))
  cases R with
  | false =>
    go_wp2_with fail
    refine HA4.out.mono ?_
    rintro e w5 ⟨rfl, hE5⟩
    go_wp2
    go_ret
    exact ⟨rfl, HE2.out.trans (HE4.out.trans hE5)⟩
  | true =>
    have hn : n ≤ 30 := HRn.out (by first | rfl | trivial)
    clear HRn HA4
    go_upto_region 3 with (fail)
    obtain ⟨Sz, hSz⟩ : ∃ Sz, w4.heap.size = Sz := ⟨_, rfl⟩
    have HSz := Lib.hid hSz
    have HEw := Lib.hid (HE2.out.trans HE4.out)
    have HX := Lib.hid (show ∀ x, Ext w4.drew x → Ext w4 x from fun x hx => Ext.trans (Ext.refl w4).drew hx)
    have HK4 := Lib.hid (fun x (hx : Ext w4 x) => HK.out.ext' (HEw.out.trans hx))
    have HR4 := Lib.hid (HE4.out.keep HR2.out)
    rw [Hg.out] at HR4
    have hzs := zero_set
    clear hSz
    refine wp_region_lexT 7 (by kernel_rfl) (by kernel_rfl) ?_
    simp only [List.take_succ_cons, List.take_zero, List.drop_succ_cons, List.drop_zero]
    refine lx_e (.bool K) [] (by kernel_rfl) rfl (by rfl) (fun w1 hw1 => ?_) ?_
    · simp only [pk, lexVals]
      go_simp
      exact ⟨Ext.refl _, rfl⟩
    refine lx_e (.agg (rowArr 32 fun j => .int .u8 (f j))) [] (by kernel_rfl) rfl (by rfl) (fun w1 hw1 => ?_) ?_
    · simp only [pk, lexVals]
      exact lu_row rfl rfl ((HX.out w1 hw1).keep HR4.out) Tryd.underlying23 rfl (by kernel_rfl)
    refine lx_a (fun u w => ∃ p, u = .pointer (some ⟨p, 0, none⟩) ∧ BoxIs K Sz p w) [(1, 23), (0, 24)] (by kernel_rfl) rfl (by rfl) (fun u w w' he ⟨p, h1, h2⟩ => ⟨p, h1, h2.ext he⟩) (fun w1 hw1 => ?_) ?_
    · simp only [pk, nthSp, lexVals]
      have hm := boxNew_both K f Hf.out w1 (HK4.out w1 (HX.out w1 hw1))
      have hsz := (HX.out w1 hw1).size
      rw [HSz.out] at hsz
      have HM := Lib.hid hm
      clear hm hw1
      go_simp
      refine HM.out.mono ?_
      rintro e w2 ⟨p, rfl, hc, hE2⟩
      exact ⟨_, rfl, hE2, p, rfl, hc.le hsz⟩
    refine lx_e (.agg (rowArr 32 fun j => .int .u8 (f j))) [] (by kernel_rfl) rfl (by rfl) (fun w1 hw1 => ?_) ?_
    · simp only [pk, lexVals]
      exact lu_row rfl rfl ((HX.out w1 hw1).keep HR4.out) Tryd.underlying23 rfl (by kernel_rfl)
    refine lx_e (.agg (rowArr 128 (ofV f))) [(0, 26)] (by kernel_rfl) rfl (by rfl) (fun w1 hw1 => ?_) ?_
    · simp only [pk, nthSp, lexVals]
      have hm := of_any f Hf.out w1 (HK4.out w1 (HX.out w1 hw1))
      have HM := Lib.hid hm
      clear hm hw1
      go_simp
      refine HM.out.mono ?_
      rintro e w2 ⟨rfl, hE2⟩
      exact ⟨_, rfl, hE2, rfl⟩
    refine lx_a (fun u w => ∃ p, u = .pointer (some ⟨p, 0, none⟩) ∧ w.heap[p]? = some (.cells (rowArr 128 fun _ => .int .u8 0) 30 (0, 0)) ∧ Sz ≤ p) [] (by kernel_rfl) rfl (by rfl) (fun u w w' he ⟨p, h1, h2, h3⟩ => ⟨p, h1, he.keep h2, h3⟩) (fun w1 hw1 => ?_) ?_
    · simp only [pk, lexVals]
      have hsz := (HX.out w1 hw1).size
      rw [HSz.out] at hsz
      clear hw1
      go_simp
      exact ⟨(Ext.refl _).alloc _, _, rfl, heap_new w1 _ _ rfl, hsz⟩
    refine lx_a (fun u w => ∃ p, u = .pointer (some ⟨p, 0, none⟩) ∧ BoxIs K Sz p w) [(3, 25)] (by kernel_rfl) rfl (by rfl) (fun u w w' he ⟨p, h1, h2⟩ => ⟨p, h1, h2.ext he⟩) (fun w1 hw1 => ?_) ?_
    · simp only [pk, nthSp, lexVals]
      rintro u25 ⟨p, rfl, hp25⟩
      clear hw1
      go_simp
      exact ⟨Ext.refl _, p, rfl, hp25⟩
    refine lx_stopT (by rfl) (by decide) fun z hz => ?_
    have HEz := Lib.hid (HX.out z hz)
    clear hz
    simp only [rv, pf, lexVals, List.drop_succ_cons, List.drop_zero]
    rintro u25 - u8 ⟨s0, rfl, hs0, hSs⟩ u7 ⟨p, rfl, hp⟩
    have Hs0 := Lib.hid hs0
    simp only [Act.put, List.setIfInBounds_toArray, List.set_cons_zero, List.set_cons_succ]
    go_upto_region 4 with (refine wpList_store_row rfl 30 (.tmp 8) (.tmp 27) rfl s0 _ rfl rfl _ _ Hs0.out (by kernel_rfl) (by simp [rowArr_size]) (rowArr_one fun j _ => ofV_one f j) ?_)
    obtain ⟨hps, hp1⟩ := hp.row (n := 127) Hs0.out (rowArr 128 (ofV f))
    obtain ⟨z1, hz1⟩ : ∃ z1, z.setRow s0 (rowArr 128 (ofV f)) = z1 := ⟨_, rfl⟩
    rw [hz1] at hp1
    have hE1 : Ext w4 z1 := by rw [← hz1]; exact below_setRow HEz.out (by rw [HSz.out]; exact hSs) _
    have hs1 : z1.heap[s0]? = some (.cells (rowArr 128 (ofV f)) 30 (0, 0)) := by rw [← hz1]; exact setRow_heap z s0 _ _ _ _ Hs0.out
    have hw2l := HE2.out.size
    have hw4l := HE4.out.size
    have hz1l := hE1.size
    have hSz2 := HSz.out
    obtain ⟨gm, hgm, bl, sA, hA1, hreal, hgms⟩ := hp1.blinder (HK4.out z1 hE1) (by omega) (tagK f) (tagK_byte f)
    have hmode : z1.cell? ⟨p, 0, none⟩ = some (.bool K) := hp1.mode
    have hpS := hp1.new
    have hpt := bl.gb_top
    have hgt := bl.gm_top
    have hst1 : s0 < z1.heap.size := (Array.getElem?_eq_some_iff.1 hs1).1
    have hms : gm ≠ s0 := hgms _ _ _ _ hs1 hps
    have hne : 0 < n → ∀ x : Addr, a = some x → x.block ≠ p ∧ x.block ≠ gm := fun h0 x hx => by
      obtain ⟨g0, off, h1, h2⟩ := H0.out.at_ h0
      rw [hx] at h1
      obtain rfl := Option.some.inj h1
      have h3 : g0 < w.heap.size := World.block_lt_of_cell? _ _ (h2 0 h0)
      show g0 ≠ p ∧ g0 ≠ gm
      omega
    have HNe := Lib.hid hne
    have HS1 := Lib.hid (H2.out.ext (HE4.out.trans hE1))
    have HT1 := Lib.hid (tokens_any bl sA z1 hA1 (ofV f) (fun i hi => ofV_tag f i hi) a n c ss HS1.out hne (by omega))
    have Hs1 := Lib.hid hs1
    have HE1 := Lib.hid (HEw.out.trans hE1)
    have Hreal := Lib.hid hreal
    refine wp_world (w' := z1) hz1 ?_
    clear hz1 hp hp1 hs0 hs1 hE1 Hs0 HEz hne hA1 hreal hmode hgms hzs HX HK4 HR4 hSz2
    go_upto_region 4 with (fail)
    go_wp2_with (refine wpList_load_rowW rfl 30 _ rfl s0 rfl _ _ _ _ Hs1.out Tryd.underlying30 rfl (by kernel_rfl) ?_)
    refine HT1.out.mono ?_
    rintro e w5 hTs
    obtain ⟨s1, ts, us, a1, m1, c1, hTo, hSr, hm1, rfl, hown, hA5, hK5⟩ := hTs
    have hset := tokens_set hTo hSr
    obtain ⟨vs, hvs⟩ : ∃ vs, cpt (us.map (·.1)) = vs := ⟨_, rfl⟩
    rw [hvs] at hset hown hm1
    have h5l := hK5.size
    have HB5 := Lib.hid (show z1.heap.size ≤ w5.heap.size from h5l)
    have hpb : p < w5.heap.size := by omega
    have hmb : gm < w5.heap.size := by omega
    have hml : m1 ≤ 30 := by
      have h7 := cptN_le (us.map (·.1)) (us.map (·.1)).length
      have h8 : (us.map (·.1)).length = ss.length := by rw [List.length_map, hSr.perm.length_eq, hTo.len]
      have h9 : vs.length = (cptN (us.map (·.1)) (us.map (·.1)).length).length := by rw [← hvs]; rfl
      have := Hlen.out
      omega
    have hvb : ∀ t ∈ vs, ∀ j, j < 16 → 0 ≤ t j ∧ t j < 256 := fun t ht j hj => by
      obtain ⟨x, _, e⟩ := hset.from_ t ht
      exact bl.byte hA5 e j hj
    have HV := Lib.hid (fun y (hy : Kp2 p gm w5 y) => own_ts1 (own_kp hown hy (by omega) (by omega)) hvb (by omega))
    have HTl := Lib.hid (show ts.length = n by rw [hTo.len, Hlen.out])
    have HTk := Lib.hid (show ∀ i, i < n → bl.tok s1 (strB (ss.getD i ⟨#[]⟩)) = some (ts.getD i default).1 from fun i hi => hTo.tok i (by rw [Hlen.out]; exact hi))
    have Hset := Lib.hid hset
    have HK5 := Lib.hid hK5
    have HS0 := Lib.hid (show KtSt bl s1 w5 w5 ts none 0 0 from ⟨⟨s1, hA5, fun _ _ h => h⟩, ⟨by simp [tkL, tkC], .inl ⟨rfl, rfl⟩⟩, Kp2.refl _ _ _⟩)
    have HOf := Lib.hid (fun i (hi : i < 32) => ofV_tag f i hi)
    have HRs5 := Lib.hid (show ∀ y, Kp2 p gm w5 y → y.heap[s0]? = some (.cells (rowArr 128 (ofV f)) 30 (0, 0)) from fun y hy => ((hK5.trans hy).block s0 hst1 (fun e => hps e.symm) (fun e => hms e.symm)).trans Hs1.out)
    have HS5 := Lib.hid (show ∀ y, Kp2 p gm w5 y → SrAt y a n c ss from fun y hy => HS1.out.kp (hK5.trans hy) HNe.out)
    have HE5 := Lib.hid (show ∀ y, Kp2 p gm w5 y → Ext w y from fun y hy => (hK5.trans hy).ext_of HE1.out (by have := HSz.out; omega) (by have := HSz.out; omega))
    clear hTo hSr hset hown hA5 hK5 hvs hvb HT1 hm1
    go_upto_region 7 with (fail)
    go_wp2
    go_loopw [10, 11] (fun v i y => ∃ (k : Nat) (a' : Option Addr) (c' : Nat), k ≤ n ∧ i = .int .i64 (k : Int) ∧ v = .slice a' k c' ∧ KtSt bl s1 w5 y ts a' k c') (fun _ i _ => n - (intOf i).toNat)
    case atStart => exact ⟨0, none, 0, Nat.zero_le _, rfl, rfl, HS0.out⟩
    case round =>
      obtain ⟨k, a', c', hk, rfl, rfl, hS⟩ := hrel
      have HS := Lib.hid hS
      rename World => y
      clear hS
      by_cases hlt : k < n
      · have x2 : (k : Int) < (n : Int) := by omega
        obtain ⟨g0, off, rfl, hcell⟩ := (HS5.out y HS.out.kp).at_ (by omega)
        obtain ⟨x, hx⟩ : ∃ x, ss.getD k ⟨#[]⟩ = x := ⟨_, rfl⟩
        have hck := hcell k hlt
        rw [hx] at hck
        have Hxs := Lib.hid (show x.size ≤ 140737488351232 by rw [← hx]; exact H0.out.size _ (H0.out.get hlt))
        obtain ⟨T, hT⟩ : ∃ T, (ts.getD k default).1 = T := ⟨_, rfl⟩
        have HTt := Lib.hid hT
        have HT := Lib.hid (show bl.tok s1 (strB x) = some T by rw [← hT, ← hx]; exact HTk.out k hlt)
        have Hin := Lib.hid (show inB vs T = true from by
          obtain ⟨t, ht, v, hv, hl⟩ := Hset.out.has x (by rw [← hx]; exact H0.out.get hlt)
          obtain rfl := Option.some.inj (ht.symm.trans HT.out)
          exact inB_of hv hl)
        have HTb := Lib.hid (show ∀ j, j < 16 → 0 ≤ T j ∧ T j < 256 from by
          obtain ⟨s', h1, h2⟩ := HS.out.at_
          exact bl.byte h1 (h2 _ _ HT.out))
        obtain ⟨Sy, hSy⟩ : ∃ Sy, y.heap.size = Sy := ⟨_, rfl⟩
        have HSy := Lib.hid hSy
        have hSyl : w5.heap.size ≤ Sy := by rw [← hSy]; exact HS.out.kp.size
        have hk6 : k ≤ 1000000 := by omega
        have hg0 : g0 ≠ p ∧ g0 ≠ gm := HNe.out (by omega) _ rfl
        have hg0y : g0 < y.heap.size := World.block_lt_of_cell? _ _ hck
        have HCk := Lib.hid (show ∀ x1, Kp2 p gm y x1 → x1.cell? ⟨g0, off + k, none⟩ = some (.string x) from fun x1 hx1 => (cell_same (hx1.block g0 hg0y hg0.1 hg0.2)).trans hck)
        have HKc := Lib.hid (show ∀ (ph : Bool) x1, KtC bl s1 y x1 → Kp2 p gm y x1 from fun _ x1 ⟨_, _, _, h⟩ => h)
        have HRs := Lib.hid (show ∀ x1, Kp2 p gm y x1 → x1.heap[s0]? = some (.cells (rowArr 128 (ofV f)) 30 (0, 0)) from fun x1 hx1 => HRs5.out x1 (HS.out.kp.trans hx1))
        have HKr := Lib.hid (show ∀ (x1 x2 : World), Kp2 p gm x1 x2 → ∀ r, x1.heap[r]? = some (.cells (rowArr 16 fun _ => .int .u8 0) 35 (0, 0)) → Sy ≤ r → x2.heap[r]? = some (.cells (rowArr 16 fun _ => .int .u8 0) 35 (0, 0)) from fun x1 x2 hx r h1 h2 => (hx.block r (Array.getElem?_eq_some_iff.1 h1).1 (by omega) (by omega)).trans h1)
        have HST := Lib.hid (show ∀ (ph : Bool) (x1 x2 : World), KtC bl s1 y x1 → Ext x1 x2 → KtC bl s1 y x2 ∧ KtE p gm ph x1 x2 from fun ph x1 x2 h1 h2 => ⟨h1.ext h2, ktE_ext h2⟩)
        have hC0 : KtC bl s1 y y.drew := by
          obtain ⟨s', h1, h2⟩ := HS.out.at_
          exact ⟨s', bl.kept h1 (Below.drew (Below.refl _ _)), h2, Kp2.of_ext (Ext.refl y).drew⟩
        clear hcell hck hSy hx hT hg0 hg0y
        go_upto_region 9 with (fail)
        refine lq_start (C := fun _ => KtC bl s1 y) (E := KtE p gm) 8 6 (by omega) (by kernel_rfl) (by kernel_rfl) (fun ph x1 => ktE_ext (Ext.refl _)) (fun x1 x2 h => Kp2.of_ext h) hC0 ?_
        simp only [List.take_succ_cons, List.take_zero]
        refine lq_s (.ex (.pointer (some ⟨p, 0, none⟩))) [] (by decide) (by kernel_rfl) rfl (by rfl) trivial HST.out (fun ph w1 hw1 => ?_) ?_
        · simp only [pk, lexVals]
          clear hw1
          go_simp
          exact ⟨Ext.refl _, rfl⟩
        refine lq_s (.ex (.agg (rowArr 128 (ofV f)))) [] (by decide) (by kernel_rfl) rfl (by rfl) trivial HST.out (fun ph w1 hw1 => ?_) ?_
        · simp only [pk, lexVals]
          exact lu_row rfl rfl (HRs.out w1 (HKc.out ph w1 hw1)) Tryd.underlying30 rfl (by kernel_rfl)
        refine lq_s (.ex (.slice (some ⟨g0, off, none⟩) n c)) [] (by decide) (by kernel_rfl) rfl (by rfl) trivial HST.out (fun ph w1 hw1 => ?_) ?_
        · simp only [pk, lexVals]
          clear hw1
          go_simp
          exact ⟨Ext.refl _, rfl⟩
        refine lq_s (.ex (.int .i64 (k : Int))) [] (by decide) (by kernel_rfl) rfl (by rfl) trivial HST.out (fun ph w1 hw1 => ?_) ?_
        · simp only [pk, lexVals]
          clear hw1
          go_simp
          exact ⟨Ext.refl _, rfl⟩
        refine lq_s (.ex (.pointer (some ⟨g0, off + k, none⟩))) [(1, 40), (0, 41)] (by decide) (by kernel_rfl) rfl (by rfl) trivial HST.out (fun ph w1 hw1 => ?_) ?_
        · simp only [pk, nthSp, lexVals]
          clear hw1
          go_simp
          exact ⟨Ext.refl _, rfl⟩
        refine lq_s (.ex (.string x)) [(0, 42)] (by decide) (by kernel_rfl) rfl (by rfl) trivial HST.out (fun ph w1 hw1 => ?_) ?_
        · simp only [pk, nthSp, lexVals]
          have hc := HCk.out w1 (HKc.out ph w1 hw1)
          clear hw1
          go_simp
          exact ⟨Ext.refl _, rfl⟩
        refine lq_m (.ex (.agg (rowArr 16 fun j => .int .u8 (T j)))) [(5, 38), (4, 39), (0, 43)] rfl (by kernel_rfl) rfl (by rfl) trivial (fun w1 hw1 => ?_) ?_
        · simp only [pk, nthSp, lexVals]
          obtain ⟨s2, hA, hG, hK⟩ := hw1
          have hm := token_any bl s2 w1 hA (ofV f) HOf.out x Hxs.out
          have HM := Lib.hid hm
          have HG := Lib.hid hG
          have HKw := Lib.hid hK
          clear hm hA hG hK
          go_simp
          refine HM.out.mono ?_
          rintro e w2 ⟨s3, t, rfl, hA3, hT3, hG3, hK3⟩
          obtain rfl : t = T := Option.some.inj (hT3.symm.trans (hG3 _ _ (HG.out _ _ HT.out)))
          exact ⟨_, rfl, ⟨s3, hA3, fun ys u hu => hG3 _ _ (HG.out _ _ hu), HKw.out.trans hK3⟩, hK3, rfl⟩
        refine lq_s (.ab (fun u w => ∃ r, u = .pointer (some ⟨r, 0, none⟩) ∧ w.heap[r]? = some (.cells (rowArr 16 fun _ => .int .u8 0) 35 (0, 0)) ∧ Sy ≤ r)) [] (by decide) (by kernel_rfl) rfl (by rfl) (fun u x x' hx ⟨r, h1, h2, h3⟩ => ⟨r, h1, HKr.out x x' hx r h2 h3, h3⟩) HST.out (fun ph w1 hw1 => ?_) ?_
        · simp only [pk, lexVals]
          have hsz := (HKc.out ph w1 hw1).size
          rw [HSy.out] at hsz
          have hz := zero_t16
          clear hw1
          go_simp
          exact ⟨(Ext.refl _).alloc _, _, rfl, heap_new w1 _ _ rfl, hsz⟩
        refine lq_stop (by rfl) (by decide) fun w7 hw7 => ?_
        simp only [rv, pf, lexVals, List.drop_succ_cons, List.drop_zero]
        rintro u12 ⟨r, rfl, hr7, hSr⟩
        have HC7 := Lib.hid hw7
        have Hr7 := Lib.hid hr7
        clear hw7 hr7 HRs HKr HST hC0
        simp only [Act.put, List.setIfInBounds_toArray, List.set_cons_zero, List.set_cons_succ]
        go_upto_region 10 with (refine wpList_store_row rfl 35 (.tmp 12) (.tmp 44) rfl r _ rfl rfl _ _ Hr7.out (by kernel_rfl) (by simp only [rowArr_size]) (rowArr_one fun _ _ => rfl) ?_)
        obtain ⟨w8, hw8⟩ : ∃ x1, w7.setRow r (rowArr 16 fun j => .int .u8 (T j)) = x1 := ⟨_, rfl⟩
        have hB8 : Below Sy w7 w8 := by rw [← hw8]; exact below_setRow (Below.refl _ _) hSr _
        have hK8 : Kp2 p gm y w8 := (HKc.out true w7 HC7.out).new (by rw [HSy.out]; exact Nat.le_refl _) hB8
        have hR8 : w8.heap[r]? = some (.cells (rowArr 16 fun j => .int .u8 (T j)) 35 (0, 0)) := by rw [← hw8]; exact setRow_heap w7 r _ _ _ _ Hr7.out
        have hA8 : ∃ s', bl.At s' w8 ∧ ∀ ys u, bl.tok s1 ys = some u → bl.tok s' ys = some u := by
          obtain ⟨s', h1, h2, _⟩ := HC7.out
          exact ⟨s', bl.kept h1 (Below.mono hB8 (by omega)), h2⟩
        have HK8 := Lib.hid (HS.out.kp.trans hK8)
        have HR8 := Lib.hid hR8
        have HA8 := Lib.hid hA8
        have HKy8 := Lib.hid hK8
        refine wp_world (w' := w8) hw8 ?_
        clear hw8 hB8 hK8 hR8 hA8 HC7 Hr7 HKc
        cases K with
        | true =>
          go_upto_region 14 with (fail)
          have HKy := HK8
          have hKy0 := HKy8.out
          have hRr := HR8.out
          have hAt := HA8.out
          have HRr := Lib.hid hRr
          have hB2 : w5.heap.size ≤ w8.heap.size := HKy.out.size
          have ho2 := own_kp HS.out.own hKy0 hpb hmb
          have HE2 := Lib.hid hAt
          clear hRr hKy0 hAt
          obtain ⟨x2, hx2⟩ : ∃ x2, w8.alloc (.cells (rowArr 16 fun j => .int .u8 (T j)) 35) = x2 := ⟨_, rfl⟩
          obtain ⟨q2, hq2⟩ : ∃ q2, w8.heap.size = q2 := ⟨_, rfl⟩
          have HTq := Lib.hid (show ∀ j, j < 16 → x2.cell? ⟨q2, j, none⟩ = some (.int .u8 (T j)) from fun j hj => by
            rw [← hx2, ← hq2]
            exact (rowIs_of (heap_new w8 _ _ rfl)).cell hj)
          have hEx : Ext w8 x2 := by rw [← hx2]; exact (Ext.refl w8).alloc _
          have HR2 := Lib.hid (hEx.keep HRr.out)
          have HB2 := Lib.hid (show w5.heap.size ≤ x2.heap.size from Nat.le_trans hB2 hEx.size)
          have HO2 := Lib.hid (show x2.ownsRow w5.heap.size 35 16 (.slice a' k c') k (tkC ((ts.take k).map (·.1))) by rw [← hx2]; exact ho2.alloc _)
          have Hx2 := Lib.hid hx2
          have Hq2 := Lib.hid hq2
          have HEx := Lib.hid hEx
          clear hB2 ho2 hx2 hq2 hEx
          obtain ⟨ms, hms⟩ : ∃ ms, (ts.take k).map (·.1) = ms := ⟨_, rfl⟩
          rw [hms] at HO2
          have Hms := Lib.hid hms
          clear hms
          go_upto_region 15 with (first | (refine wpList_load_rowW rfl 35 _ rfl r rfl _ _ _ _ HRr.out Tryd.underlying35 rfl (by kernel_rfl) ?_) | (refine wp_build_tk1 rfl (.tmp 61) rfl T rfl ?_; rw [Hx2.out, Hq2.out]) | (at_builtin; refine append_tk rfl (.tmp 60) (.tmp 62) rfl w5.heap.size (.slice a' k c') k ms rfl HO2.out q2 1 T rfl HTq.out hk6 HB2.out ?_))
          intro v' x3 hown hgr
          obtain ⟨a3, c3, rfl⟩ := own_sl2 hown
          have hne3 : ∀ b, (Value.slice a' k c').ownBlock = some b → w5.heap.size ≤ b ∧ b < Sy := fun b e => ⟨(HS.out.own.lt b e).1, by rw [← HSy.out]; exact (HS.out.own.lt b e).2⟩
          have hsb : Below w5.heap.size x2 x3 := ⟨hgr.os, hgr.tape, hgr.output, hgr.size, fun i hi => hgr.block i (by have := HB2.out; omega) (fun e => by have := (hne3 i e.symm).1; omega)⟩
          have HK3 := Lib.hid (show Kp2 p gm w5 x3 from (HKy.out.trans (Kp2.of_ext HEx.out)).new (Nat.le_refl _) hsb)
          have HR3 := Lib.hid (show x3.heap[r]? = some (.cells (rowArr 16 fun j => .int .u8 (T j)) 35 (0, 0)) from (hgr.block r (Array.getElem?_eq_some_iff.1 HR2.out).1 (fun e => by have := (hne3 r e.symm).2; omega)).trans HR2.out)
          have HA3 := Lib.hid (show ∃ s3, bl.At s3 x3 ∧ ∀ ys u, bl.tok s1 ys = some u → bl.tok s3 ys = some u from by
            obtain ⟨s3, h1, h2⟩ := HE2.out
            exact ⟨s3, bl.kept (bl.kept h1 (Below.mono HEx.out (bl.size h1))) (Below.mono hsb (by have := HB5.out; omega)), h2⟩)
          have HO3 := Lib.hid (show x3.ownsRow w5.heap.size 35 16 (.slice a3 (k + 1) c3) (k + 1) (tkL (ts.take (k + 1))) from by
            rw [← Hms.out] at hown
            rw [tkL_take HTl.out hlt HTt.out]
            exact hown)
          have HIn := Lib.hid (refIn_any a1 m1 c1 vs T x3 (HV.out x3 HK3.out))
          rw [Hin.out] at HIn
          clear hown hgr hsb HTq HO2 hne3
          go_wp2_with (refine wpList_load_rowW rfl 35 _ rfl r rfl _ _ _ _ HR3.out Tryd.underlying35 rfl (by kernel_rfl) ?_)
          refine HIn.out.mono ?_
          rintro e x4 ⟨rfl, hE4⟩
          have HS4 := Lib.hid (show KtSt bl s1 w5 x4 ts a3 (k + 1) c3 from by
            obtain ⟨s3, h1, h2⟩ := HA3.out
            exact ⟨⟨s3, bl.kept h1 (Below.mono hE4 (bl.size h1)), h2⟩, own_kp HO3.out (Kp2.of_ext hE4) hpb hmb, HK3.out.trans (Kp2.of_ext hE4)⟩)
          clear hE4 HIn
          go_wp2
          go_roundw
          case rel => exact ⟨k + 1, a3, c3, by omega, by go_num, rfl, HS4.out⟩
          case measure => simp [intOf]; omega
        | false =>
          obtain ⟨S8, hS8⟩ : ∃ S8, w8.heap.size = S8 := ⟨_, rfl⟩
          have HS8 := Lib.hid hS8
          clear hS8
          have HX8 := Lib.hid (show ∀ x, Ext w8.drew x → Ext w8 x from fun x hx => Ext.trans (Ext.refl w8).drew hx)
          have HC8 := Lib.hid (show ∀ x1, Ext w8 x1 → x1.cell? ⟨g0, off + k, none⟩ = some (.string x) from fun x1 hx1 => HCk.out x1 (HKy8.out.trans (Kp2.of_ext hx1)))
          have HMc := Lib.hid (show ∀ x1, Ext w8 x1 → ∀ q c, BsAt x1 q x.size c (strB x) → Calls Tryd.prog 13 #[.slice (some ⟨s0, 64, none⟩) 32 32, .slice q x.size c] x1 fun e w' => e = .returned (.agg (rowArr 32 fun j => .int .u8 (T j))) ∧ Ext x1 w' from fun x1 hx1 q c hq => by
            have hkp := HK8.out.trans (Kp2.of_ext hx1)
            have hrow := HRs5.out x1 hkp
            have hb := bs_cells (f := tagK f) (n := 32) (off := 64) (g := s0) (w := x1) (fun i hi => by rw [row_cell hrow (64 + i) (by omega), HOf.out i hi]) (tagK_byte f) (by omega)
            have hm := refMac_any _ _ _ _ q x.size c (strB x) x1 hb hq Hxs.out (by omega) (HKw.out.ext' (HE5.out x1 hkp))
            have e := Hreal.out rfl s1 (strB x) T HT.out
            rw [e]
            exact hm)
          have hz32 := zero_a32
          clear HCk
          go_upto_region 11 with (fail)
          refine wp_region_lexT 9 (by kernel_rfl) (by kernel_rfl) ?_
          simp only [List.take_succ_cons, List.take_zero, List.drop_succ_cons, List.drop_zero]
          refine lx_e (.pointer (some ⟨s0, 64, none⟩)) [] (by kernel_rfl) rfl (by rfl) (fun w1 hw1 => ?_) ?_
          · simp only [pk, lexVals]
            go_simp
            exact ⟨Ext.refl _, rfl⟩
          refine lx_e (.slice (some ⟨s0, 64, none⟩) 32 32) [(0, 47)] (by kernel_rfl) rfl (by rfl) (fun w1 hw1 => ?_) ?_
          · simp only [pk, nthSp, lexVals]
            go_simp
            exact ⟨Ext.refl _, rfl⟩
          refine lx_e (.slice (some ⟨g0, off, none⟩) n c) [] (by kernel_rfl) rfl (by rfl) (fun w1 hw1 => ?_) ?_
          · simp only [pk, lexVals]
            go_simp
            exact ⟨Ext.refl _, rfl⟩
          refine lx_e (.int .i64 (k : Int)) [] (by kernel_rfl) rfl (by rfl) (fun w1 hw1 => ?_) ?_
          · simp only [pk, lexVals]
            go_simp
            exact ⟨Ext.refl _, rfl⟩
          refine lx_e (.pointer (some ⟨g0, off + k, none⟩)) [(1, 49), (0, 50)] (by kernel_rfl) rfl (by rfl) (fun w1 hw1 => ?_) ?_
          · simp only [pk, nthSp, lexVals]
            go_simp
            exact ⟨Ext.refl _, rfl⟩
          refine lx_e (.string x) [(0, 51)] (by kernel_rfl) rfl (by rfl) (fun w1 hw1 => ?_) ?_
          · simp only [pk, nthSp, lexVals]
            have hc := HC8.out w1 (HX8.out w1 hw1)
            clear hw1
            go_simp
            exact ⟨Ext.refl _, rfl⟩
          refine lx_a (fun u w => ∃ q c, u = .slice q x.size c ∧ BsAt w q x.size c (strB x)) [(0, 52)] (by kernel_rfl) rfl (by rfl) (fun u w w' he ⟨q, c, h1, h2⟩ => ⟨q, c, h1, h2.ext he⟩) (fun w1 hw1 => ?_) ?_
          · simp only [pk, nthSp, lexVals]
            exact lu_conv rfl x rfl Hxs.out
          refine lx_e (.agg (rowArr 32 fun j => .int .u8 (T j))) [(5, 48), (0, 53)] (by kernel_rfl) rfl (by rfl) (fun w1 hw1 => ?_) ?_
          · simp only [pk, nthSp, lexVals]
            rintro u53 ⟨q53, c53, rfl, h53⟩
            have hm := HMc.out w1 (HX8.out w1 hw1) _ _ h53
            have HM := Lib.hid hm
            clear hm hw1 h53
            go_simp
            refine HM.out.mono ?_
            rintro e w2 ⟨rfl, hE2⟩
            exact ⟨_, rfl, hE2, rfl⟩
          refine lx_a (fun u w => ∃ r, u = .pointer (some ⟨r, 0, none⟩) ∧ w.heap[r]? = some (.cells (rowArr 32 fun _ => .int .u8 0) 22 (0, 0)) ∧ S8 ≤ r) [] (by kernel_rfl) rfl (by rfl) (fun u w w' he ⟨p, h1, h2, h3⟩ => ⟨p, h1, he.keep h2, h3⟩) (fun w1 hw1 => ?_) ?_
          · simp only [pk, lexVals]
            have hsz := (HX8.out w1 hw1).size
            rw [HS8.out] at hsz
            have hz := zero_a32
            clear hw1
            go_simp
            exact ⟨(Ext.refl _).alloc _, _, rfl, heap_new w1 _ _ rfl, hsz⟩
          refine lx_stopT (by rfl) (by decide) fun w9 hw9 => ?_
          have HE9 := Lib.hid (HX8.out w9 hw9)
          clear hw9
          simp only [rv, pf, lexVals, List.drop_succ_cons, List.drop_zero]
          rintro u53 - u13 ⟨r13, rfl, hr13, hS13⟩
          have Hr13 := Lib.hid hr13
          simp only [Act.put, List.setIfInBounds_toArray, List.set_cons_zero, List.set_cons_succ]
          go_upto_region 12 with (refine wpList_store_row rfl 22 (.tmp 13) (.tmp 54) rfl r13 _ rfl rfl _ _ Hr13.out (by kernel_rfl) (by simp only [rowArr_size]) (rowArr_one fun _ _ => rfl) ?_)
          obtain ⟨wA, hwA⟩ : ∃ x1, w9.setRow r13 (rowArr 32 fun j => .int .u8 (T j)) = x1 := ⟨_, rfl⟩
          have hEA : Ext w8 wA := by rw [← hwA]; exact below_setRow HE9.out (by rw [HS8.out]; exact hS13) _
          have hRA : wA.heap[r13]? = some (.cells (rowArr 32 fun j => .int .u8 (T j)) 22 (0, 0)) := by rw [← hwA]; exact setRow_heap w9 r13 _ _ _ _ Hr13.out
          have hTb : ∀ j, j < 32 → 0 ≤ T j ∧ T j < 256 := fun j _ => by
            rw [Hreal.out rfl s1 (strB x) T HT.out]
            exact macF_byte _ _ j
          have HBm := Lib.hid (show BsAt wA (some ⟨r13, 0, none⟩) 16 32 (l16 T) from by
            have h1 := (bs_row (rowIs_of hRA) hTb (by omega)).cut (m := 16) (c' := 32) (by omega) (by omega) (by omega)
            rw [take16 fun _ _ => rfl] at h1
            exact h1)
          have HBt := Lib.hid (show BsAt wA (some ⟨r, 0, none⟩) 16 16 (l16 T) from bs_row (rowIs_of (hEA.keep HR8.out)) HTb.out (by omega))
          have HEA := Lib.hid hEA
          have HX9 := Lib.hid (show ∀ x, Ext wA.drew x → Ext wA x from fun x hx => Ext.trans (Ext.refl wA).drew hx)
          refine wp_world (w' := wA) hwA ?_
          clear hwA hEA hRA hTb hr13 Hr13 HE9 HMc HC8 HX8 hz32
          refine wp_region_lexA (by kernel_rfl) (by kernel_rfl) ?_
          refine lx_e (.slice (some ⟨r, 0, none⟩) 16 16) [] (by kernel_rfl) rfl (by rfl) (fun w1 hw1 => ?_) ?_
          · simp only [pk, lexVals]
            go_simp
            exact ⟨Ext.refl _, rfl⟩
          refine lx_e (.string (strOf (l16 T))) [(0, 55)] (by kernel_rfl) rfl (by rfl) (fun w1 hw1 => ?_) ?_
          · simp only [pk, nthSp, lexVals]
            exact lu_str rfl rfl ((HBt.out).ext (HX9.out w1 hw1))
          refine lx_e (.slice (some ⟨r13, 0, none⟩) 16 32) [] (by kernel_rfl) rfl (by rfl) (fun w1 hw1 => ?_) ?_
          · simp only [pk, lexVals]
            go_simp
            exact ⟨Ext.refl _, rfl⟩
          refine lx_e (.string (strOf (l16 T))) [(0, 57)] (by kernel_rfl) rfl (by rfl) (fun w1 hw1 => ?_) ?_
          · simp only [pk, nthSp, lexVals]
            exact lu_str rfl rfl ((HBm.out).ext (HX9.out w1 hw1))
          refine lx_e (.bool false) [(2, 56), (0, 58)] (by kernel_rfl) rfl (by rfl) (fun w1 hw1 => ?_) ?_
          · simp only [pk, nthSp, lexVals]
            clear hw1
            go_simp
            exact ⟨Ext.refl _, by first | rfl | simp⟩
          refine lx_stopA (by rfl) fun wB hwB => ?_
          have HEB := Lib.hid (HEA.out.trans (HX9.out wB hwB))
          clear hwB HX9 HBm HBt
          simp only [rv, pf, lexVals]
          simp only [Act.put, List.setIfInBounds_toArray, List.set_cons_zero, List.set_cons_succ]
          go_upto_region 14 with (fail)
          have HKy := Lib.hid (HK8.out.trans (Kp2.of_ext HEB.out))
          have hKy0 := HKy8.out.trans (Kp2.of_ext HEB.out)
          have hRr := HEB.out.keep HR8.out
          have hAt : ∃ s', bl.At s' wB ∧ ∀ ys u, bl.tok s1 ys = some u → bl.tok s' ys = some u := by
            obtain ⟨s', h1, h2⟩ := HA8.out
            exact ⟨s', bl.kept h1 (Below.mono HEB.out (bl.size h1)), h2⟩
          have HRr := Lib.hid hRr
          have hB2 : w5.heap.size ≤ wB.heap.size := HKy.out.size
          have ho2 := own_kp HS.out.own hKy0 hpb hmb
          have HE2 := Lib.hid hAt
          clear hRr hKy0 hAt
          obtain ⟨x2, hx2⟩ : ∃ x2, wB.alloc (.cells (rowArr 16 fun j => .int .u8 (T j)) 35) = x2 := ⟨_, rfl⟩
          obtain ⟨q2, hq2⟩ : ∃ q2, wB.heap.size = q2 := ⟨_, rfl⟩
          have HTq := Lib.hid (show ∀ j, j < 16 → x2.cell? ⟨q2, j, none⟩ = some (.int .u8 (T j)) from fun j hj => by
            rw [← hx2, ← hq2]
            exact (rowIs_of (heap_new wB _ _ rfl)).cell hj)
          have hEx : Ext wB x2 := by rw [← hx2]; exact (Ext.refl wB).alloc _
          have HR2 := Lib.hid (hEx.keep HRr.out)
          have HB2 := Lib.hid (show w5.heap.size ≤ x2.heap.size from Nat.le_trans hB2 hEx.size)
          have HO2 := Lib.hid (show x2.ownsRow w5.heap.size 35 16 (.slice a' k c') k (tkC ((ts.take k).map (·.1))) by rw [← hx2]; exact ho2.alloc _)
          have Hx2 := Lib.hid hx2
          have Hq2 := Lib.hid hq2
          have HEx := Lib.hid hEx
          clear hB2 ho2 hx2 hq2 hEx
          obtain ⟨ms, hms⟩ : ∃ ms, (ts.take k).map (·.1) = ms := ⟨_, rfl⟩
          rw [hms] at HO2
          have Hms := Lib.hid hms
          clear hms
          go_upto_region 15 with (first | (refine wpList_load_rowW rfl 35 _ rfl r rfl _ _ _ _ HRr.out Tryd.underlying35 rfl (by kernel_rfl) ?_) | (refine wp_build_tk1 rfl (.tmp 61) rfl T rfl ?_; rw [Hx2.out, Hq2.out]) | (at_builtin; refine append_tk rfl (.tmp 60) (.tmp 62) rfl w5.heap.size (.slice a' k c') k ms rfl HO2.out q2 1 T rfl HTq.out hk6 HB2.out ?_))
          intro v' x3 hown hgr
          obtain ⟨a3, c3, rfl⟩ := own_sl2 hown
          have hne3 : ∀ b, (Value.slice a' k c').ownBlock = some b → w5.heap.size ≤ b ∧ b < Sy := fun b e => ⟨(HS.out.own.lt b e).1, by rw [← HSy.out]; exact (HS.out.own.lt b e).2⟩
          have hsb : Below w5.heap.size x2 x3 := ⟨hgr.os, hgr.tape, hgr.output, hgr.size, fun i hi => hgr.block i (by have := HB2.out; omega) (fun e => by have := (hne3 i e.symm).1; omega)⟩
          have HK3 := Lib.hid (show Kp2 p gm w5 x3 from (HKy.out.trans (Kp2.of_ext HEx.out)).new (Nat.le_refl _) hsb)
          have HR3 := Lib.hid (show x3.heap[r]? = some (.cells (rowArr 16 fun j => .int .u8 (T j)) 35 (0, 0)) from (hgr.block r (Array.getElem?_eq_some_iff.1 HR2.out).1 (fun e => by have := (hne3 r e.symm).2; omega)).trans HR2.out)
          have HA3 := Lib.hid (show ∃ s3, bl.At s3 x3 ∧ ∀ ys u, bl.tok s1 ys = some u → bl.tok s3 ys = some u from by
            obtain ⟨s3, h1, h2⟩ := HE2.out
            exact ⟨s3, bl.kept (bl.kept h1 (Below.mono HEx.out (bl.size h1))) (Below.mono hsb (by have := HB5.out; omega)), h2⟩)
          have HO3 := Lib.hid (show x3.ownsRow w5.heap.size 35 16 (.slice a3 (k + 1) c3) (k + 1) (tkL (ts.take (k + 1))) from by
            rw [← Hms.out] at hown
            rw [tkL_take HTl.out hlt HTt.out]
            exact hown)
          have HIn := Lib.hid (refIn_any a1 m1 c1 vs T x3 (HV.out x3 HK3.out))
          rw [Hin.out] at HIn
          clear hown hgr hsb HTq HO2 hne3
          go_wp2_with (refine wpList_load_rowW rfl 35 _ rfl r rfl _ _ _ _ HR3.out Tryd.underlying35 rfl (by kernel_rfl) ?_)
          refine HIn.out.mono ?_
          rintro e x4 ⟨rfl, hE4⟩
          have HS4 := Lib.hid (show KtSt bl s1 w5 x4 ts a3 (k + 1) c3 from by
            obtain ⟨s3, h1, h2⟩ := HA3.out
            exact ⟨⟨s3, bl.kept h1 (Below.mono hE4 (bl.size h1)), h2⟩, own_kp HO3.out (Kp2.of_ext hE4) hpb hmb, HK3.out.trans (Kp2.of_ext hE4)⟩)
          clear hE4 HIn
          go_wp2
          go_roundw
          case rel => exact ⟨k + 1, a3, c3, by omega, by go_num, rfl, HS4.out⟩
          case measure => simp [intOf]; omega
      · obtain rfl : k = n := by omega
        have x2 : ¬ (k : Int) < (k : Int) := by omega
        have hbt : ∀ t ∈ ts.map (·.1), ∀ j, j < 16 → 0 ≤ t j ∧ t j < 256 := fun t ht j hj => by
          obtain ⟨u, _, rfl⟩ := List.mem_map.1 ht
          exact u.2 j hj
        have hown := HS.out.own
        rw [← HTl.out, List.take_length, HTl.out] at hown
        have HEa := Lib.hid (own_ts1 (show y.ownsRow w5.heap.size 35 16 (.slice a' k c') k (tkC (ts.map (·.1))) from hown) hbt (by omega))
        have HVy := Lib.hid (HV.out y HS.out.kp)
        have HEy := Lib.hid (HE5.out y HS.out.kp)
        have Hup := Lib.hid (rises_pw Hset.out.up)
        have HIs := Lib.hid (show ∀ v ∈ vs, inB (ts.map (·.1)) v = true from fun v hv => by
          obtain ⟨x, hx, e⟩ := Hset.out.from_ v hv
          obtain ⟨i, hi, rfl⟩ := List.mem_iff_getElem.1 hx
          have hi2 : i < k := by rw [← Hlen.out]; exact hi
          have h1 := HTk.out i hi2
          rw [List.getD_eq_getElem?_getD, List.getElem?_eq_getElem hi, List.getD_eq_getElem?_getD, List.getElem?_eq_getElem (by rw [HTl.out]; exact hi2)] at h1
          have h2 : (ts[i]'(by rw [HTl.out]; exact hi2)).1 = v := Option.some.inj (h1.symm.trans e)
          exact inB_of (List.mem_map.2 ⟨_, List.getElem_mem _, h2⟩) rfl)
        clear hown hbt
        go_upto_region 17 with (fail)
        go_wp2
        go_loopw [14] (fun i v => ∃ j : Nat, j ≤ m1 ∧ i = .int .i64 (j : Int) ∧ Ext y v) (fun i _ => m1 - (intOf i).toNat)
        case atStart => exact ⟨0, Nat.zero_le _, rfl, Ext.refl _⟩
        case round =>
          obtain ⟨j, hj, rfl, hE⟩ := hrel
          have HE := Lib.hid hE
          rename World => v
          clear hE
          by_cases hlt2 : j < m1
          · have x4 : (j : Int) < (m1 : Int) := by omega
            obtain ⟨g1, o1, rfl, hc1⟩ := (HVy.out.ext HE.out).at_ (by omega)
            have hl1 := HVy.out.len
            obtain ⟨TV, hTV⟩ : ∃ t, (vs.getD j fun _ => 0) = t := ⟨_, rfl⟩
            have HC1 := Lib.hid (show ∀ q, q < 16 → v.cell? ⟨g1, o1 + j * 16 + q, none⟩ = some (.int .u8 (TV q)) from fun q hq => by rw [← hTV]; exact hc1 j hlt2 q hq)
            have hmem : TV ∈ vs := by
              rw [← hTV, List.getD_eq_getElem?_getD, List.getElem?_eq_getElem (by omega)]
              exact List.getElem_mem _
            have HIn := Lib.hid (refIn_any a' k c' (ts.map (·.1)) TV v (HEa.out.ext HE.out))
            rw [HIs.out TV hmem] at HIn
            clear hc1 hl1 hTV hmem
            go_upto_region 20 with (fail)
            go_wp2_with (first | (refine wp_idx rfl (.tmp 75) (.tmp 76) rfl g1 o1 m1 c1 j rfl rfl hlt2 ?_) | (refine wp_tok rfl (.tmp 77) rfl g1 (o1 + j * 16) TV rfl HC1.out ?_))
            refine HIn.out.mono ?_
            rintro e v2 ⟨rfl, hE2⟩
            have HE2 := Lib.hid (HE.out.trans hE2)
            clear hE2 HIn
            go_wp2
            go_roundw
            case rel => exact ⟨j + 1, by omega, by go_num, HE2.out⟩
            case measure => simp [intOf]; omega
          · obtain rfl : j = m1 := by omega
            have x4 : ¬ (j : Int) < (j : Int) := by omega
            have HSo := Lib.hid (refSorted_any a1 j c1 vs v (HVy.out.ext HE.out))
            rw [Hup.out] at HSo
            go_wp2_with fail
            refine HSo.out.mono ?_
            rintro e v2 ⟨rfl, hE2⟩
            have HE2 := Lib.hid (HE.out.trans hE2)
            have HS2 := Lib.hid (sorted_any a1 j c1 vs v2 (HVy.out.ext (HE.out.trans hE2)))
            rw [Hup.out] at HS2
            clear hE2 HSo
            go_wp2_with fail
            refine HS2.out.mono ?_
            rintro e v3 ⟨rfl, hE3⟩
            go_wp2
            go_ret
            exact ⟨rfl, HEy.out.trans (HE2.out.trans hE3)⟩

end Go.Proofs.YtdgbcieopkilcaaDoor
