/-
  The walks of jalousieref12.Blank and of jalousieref15.blank, Formed. No conditions.
-/
import Derived.Test.YtpiebfhcfkncoaaDoorPr
import Derived.Test.YtpiebfhcfkncoaaDoorRefHdF
import Derived.Deep.DeepCutAuto
namespace Go.Proofs.YtpiebfhcfkncoaaDoor
open Go.ChangeShapes Go.WideShapes Go.ChangeAt Go.RowKit

set_option maxRecDepth 100000 in
theorem zero_k6 (w : World) : (zeroValue 31).run Tryd.prog w = .ok (.agg (rowArr 6 fun _ => .int .u64 0)) w := by kernel_rfl
theorem eql_k6 (w : World) (f : Nat → Int) : (binOp .eql 31 (.agg (rowArr 6 fun j => .int .u64 (f j))) (.agg (rowArr 6 fun _ => .int .u64 0))).run Tryd.prog w = .ok (.bool (zeroB 6 f)) w :=
  run_eql_arr w 31 27 6 .u64 Tryd.underlying31 Tryd.underlying27 size_u64 f (fun _ => 0)

/-- What jalousieref12.Blank tells. -/
def blk12 (h : Hd) : Bool := decide (h.writer = 0) && (decide (h.seq = 0) && (decide (h.epoch = 0) && (decide (h.time = 0) && (decide (h.size = 0) && (decide (h.tn = 0) && zeroB 32 h.code)))))

set_option maxHeartbeats 4000000 in
set_option maxRecDepth 100000 in
theorem refBlk_any (h : Hd) (w : World) : Calls Tryd.prog 60 #[.agg (hdV h)] w fun e w' => e = .returned (.bool (blk12 h)) ∧ Ext w w' := by
  obtain ⟨w2, hw2⟩ : ∃ w2, w.alloc (.cells (hdV h) 33) = w2 := ⟨_, rfl⟩
  have hE2 : Ext w w2 := by rw [← hw2]; exact (Ext.refl w).alloc _
  have hB2 : w2.heap[w.heap.size]? = some (.cells (hdV h) 33 (0, 0)) := by rw [← hw2]; exact heap_new w _ _ rfl
  have Hw2 := Lib.hid hw2
  have HE2 := Lib.hid hE2
  obtain ⟨g, hg⟩ : ∃ g, w.heap.size = g := ⟨_, rfl⟩
  rw [hg] at hB2
  have Hg := Lib.hid hg
  have c0 := hd_writer hB2
  have c1 := hd_seq hB2
  have c34 := hd_epoch hB2
  have c36 := hd_time hB2
  have c92 := hd_size hB2
  have c53 := hd_toks hB2
  have Hc := Lib.hid (hd_code hB2)
  have hz := zero_h32
  have he := fun w => eql_h32 w h.code
  obtain ⟨C, hC⟩ : ∃ C, hdV h = C := ⟨_, rfl⟩
  rw [hC] at Hw2 ⊢
  obtain ⟨R, hR⟩ : ∃ R, blk12 h = R := ⟨_, rfl⟩
  rw [hR]
  unfold blk12 at hR
  obtain ⟨CB, hCB⟩ : ∃ x, zeroB 32 h.code = x := ⟨_, rfl⟩
  rw [hCB] at he hR
  obtain ⟨W, hW⟩ : ∃ x, h.writer = x := ⟨_, rfl⟩
  obtain ⟨Q, hQ⟩ : ∃ x, h.seq = x := ⟨_, rfl⟩
  obtain ⟨E, hE⟩ : ∃ x, h.epoch = x := ⟨_, rfl⟩
  obtain ⟨T, hT⟩ : ∃ x, h.time = x := ⟨_, rfl⟩
  obtain ⟨S, hS⟩ : ∃ x, h.size = x := ⟨_, rfl⟩
  obtain ⟨tn, htn⟩ : ∃ x, h.tn = x := ⟨_, rfl⟩
  rw [hW] at c0
  rw [hQ] at c1
  rw [hE] at c34
  rw [hT] at c36
  rw [hS] at c92
  rw [htn] at c53
  rw [hW, hQ, hE, hT, hS, htn] at hR
  clear hw2 hE2 hB2 hg hC hW hQ hE hT hS htn hCB
  by_cases nW : W = 0
  case neg =>
    have mW : (W == 0) = false := beq_eq_false_iff_ne.2 nW
    have HV := Lib.hid (show R = false from by
      rw [← hR]
      simp (config := { decide := true }) [*])
    clear hR
    go_enter Tryd.func60, Tryd.ntmps60
    go_upto_region 1 with (fail)
    refine wp_world (w' := w2) Hw2.out ?_
    rw [Hg.out]
    clear Hw2 Hg
    go_wp2_with (refine wp_sub rfl 23 _ rfl g 93 32 (fun j => .int .u8 (h.code j)) rfl Tryd.underlying23 (size_h32 _) Hc.out ?_)
    go_ret
    exact ⟨by rw [HV.out]; rfl, HE2.out⟩
  subst nW
  by_cases nQ : Q = 0
  case neg =>
    have mQ : (Q == 0) = false := beq_eq_false_iff_ne.2 nQ
    have HV := Lib.hid (show R = false from by
      rw [← hR]
      simp (config := { decide := true }) [*])
    clear hR
    go_enter Tryd.func60, Tryd.ntmps60
    go_upto_region 1 with (fail)
    refine wp_world (w' := w2) Hw2.out ?_
    rw [Hg.out]
    clear Hw2 Hg
    go_wp2_with (refine wp_sub rfl 23 _ rfl g 93 32 (fun j => .int .u8 (h.code j)) rfl Tryd.underlying23 (size_h32 _) Hc.out ?_)
    go_ret
    exact ⟨by rw [HV.out]; rfl, HE2.out⟩
  subst nQ
  by_cases nE : E = 0
  case neg =>
    have mE : (E == 0) = false := beq_eq_false_iff_ne.2 nE
    have HV := Lib.hid (show R = false from by
      rw [← hR]
      simp (config := { decide := true }) [*])
    clear hR
    go_enter Tryd.func60, Tryd.ntmps60
    go_upto_region 1 with (fail)
    refine wp_world (w' := w2) Hw2.out ?_
    rw [Hg.out]
    clear Hw2 Hg
    go_wp2_with (refine wp_sub rfl 23 _ rfl g 93 32 (fun j => .int .u8 (h.code j)) rfl Tryd.underlying23 (size_h32 _) Hc.out ?_)
    go_ret
    exact ⟨by rw [HV.out]; rfl, HE2.out⟩
  subst nE
  by_cases nT : T = 0
  case neg =>
    have mT : (T == 0) = false := beq_eq_false_iff_ne.2 nT
    have HV := Lib.hid (show R = false from by
      rw [← hR]
      simp (config := { decide := true }) [*])
    clear hR
    go_enter Tryd.func60, Tryd.ntmps60
    go_upto_region 1 with (fail)
    refine wp_world (w' := w2) Hw2.out ?_
    rw [Hg.out]
    clear Hw2 Hg
    go_wp2_with (refine wp_sub rfl 23 _ rfl g 93 32 (fun j => .int .u8 (h.code j)) rfl Tryd.underlying23 (size_h32 _) Hc.out ?_)
    go_ret
    exact ⟨by rw [HV.out]; rfl, HE2.out⟩
  subst nT
  by_cases nS : S = 0
  case neg =>
    have mS : (S == 0) = false := beq_eq_false_iff_ne.2 nS
    have HV := Lib.hid (show R = false from by
      rw [← hR]
      simp (config := { decide := true }) [*])
    clear hR
    go_enter Tryd.func60, Tryd.ntmps60
    go_upto_region 1 with (fail)
    refine wp_world (w' := w2) Hw2.out ?_
    rw [Hg.out]
    clear Hw2 Hg
    go_wp2_with (refine wp_sub rfl 23 _ rfl g 93 32 (fun j => .int .u8 (h.code j)) rfl Tryd.underlying23 (size_h32 _) Hc.out ?_)
    go_ret
    exact ⟨by rw [HV.out]; rfl, HE2.out⟩
  subst nS
  by_cases nt : tn = 0
  case neg =>
    have mt : ((tn : Int) == 0) = false := beq_eq_false_iff_ne.2 (by omega)
    have mt2 : (tn == 0) = false := beq_eq_false_iff_ne.2 nt
    have mt3 : decide (tn = 0) = false := decide_eq_false nt
    have HV := Lib.hid (show R = false from by
      rw [← hR]
      simp (config := { decide := true }) [*])
    clear hR
    go_enter Tryd.func60, Tryd.ntmps60
    go_upto_region 1 with (fail)
    refine wp_world (w' := w2) Hw2.out ?_
    rw [Hg.out]
    clear Hw2 Hg
    go_wp2_with (refine wp_sub rfl 23 _ rfl g 93 32 (fun j => .int .u8 (h.code j)) rfl Tryd.underlying23 (size_h32 _) Hc.out ?_)
    go_ret
    exact ⟨by rw [HV.out]; rfl, HE2.out⟩
  subst nt
  have HV := Lib.hid (show R = CB from by
    rw [← hR]
    simp (config := { decide := true }) [*])
  clear hR
  go_enter Tryd.func60, Tryd.ntmps60
  go_upto_region 1 with (fail)
  refine wp_world (w' := w2) Hw2.out ?_
  rw [Hg.out]
  clear Hw2 Hg
  go_wp2_with (refine wp_sub rfl 23 _ rfl g 93 32 (fun j => .int .u8 (h.code j)) rfl Tryd.underlying23 (size_h32 _) Hc.out ?_)
  go_ret
  exact ⟨by rw [HV.out]; rfl, HE2.out⟩

theorem blk_parts (h : Hd) : blkB h = (zeroB 32 h.prev && (zeroB 16 h.item && (zeroB 32 h.sum && (zeroB 6 h.knows && (blk12 h && !h.ctl))))) := by
  unfold blkB blk12
  simp only [Bool.and_assoc]

set_option maxHeartbeats 4000000 in
set_option maxRecDepth 100000 in
theorem refBlank15_any (h : Hd) (w : World) : Calls Tryd.prog 37 #[.agg (hdV h)] w fun e w' => e = .returned (.bool (blkB h)) ∧ Ext w w' := by
  obtain ⟨w2, hw2⟩ : ∃ w2, w.alloc (.cells (hdV h) 33) = w2 := ⟨_, rfl⟩
  have hE2 : Ext w w2 := by rw [← hw2]; exact (Ext.refl w).alloc _
  have hB2 : w2.heap[w.heap.size]? = some (.cells (hdV h) 33 (0, 0)) := by rw [← hw2]; exact heap_new w _ _ rfl
  have Hw2 := Lib.hid hw2
  have HE := Lib.hid hE2
  obtain ⟨g, hg⟩ : ∃ g, w.heap.size = g := ⟨_, rfl⟩
  rw [hg] at hB2
  have Hg := Lib.hid hg
  have HB := Lib.hid hB2
  have HBC := Lib.hid hB2
  have HBl := Lib.hid (fun w9 => refBlk_any h w9)
  have Hsz := Lib.hid (hdV_size h)
  have hz1 := zero_h32
  have hz2 := zero_t16
  have hz3 := zero_k6
  have he1 := fun w => eql_h32 w h.prev
  have he2 := fun w => eql_t16 w h.item
  have he3 := fun w => eql_h32 w h.sum
  have he4 := fun w => eql_k6 w h.knows
  have c35 := hd_ctl hB2
  obtain ⟨C, hC⟩ : ∃ C, hdV h = C := ⟨_, rfl⟩
  rw [hC] at Hw2 HBC HBl Hsz ⊢
  rw [blk_parts]
  obtain ⟨P1, h1⟩ : ∃ x, zeroB 32 h.prev = x := ⟨_, rfl⟩
  obtain ⟨P2, h2⟩ : ∃ x, zeroB 16 h.item = x := ⟨_, rfl⟩
  obtain ⟨P3, h3⟩ : ∃ x, zeroB 32 h.sum = x := ⟨_, rfl⟩
  obtain ⟨P4, h4⟩ : ∃ x, zeroB 6 h.knows = x := ⟨_, rfl⟩
  obtain ⟨P5, h5⟩ : ∃ x, blk12 h = x := ⟨_, rfl⟩
  obtain ⟨P6, h6⟩ : ∃ x, h.ctl = x := ⟨_, rfl⟩
  rw [h1] at he1 ⊢
  rw [h2] at he2 ⊢
  rw [h3] at he3 ⊢
  rw [h4] at he4 ⊢
  rw [h5] at HBl ⊢
  rw [h6] at c35 ⊢
  have H6 := Lib.hid h6
  clear hw2 hE2 hB2 hg hC h1 h2 h3 h4 h5 h6
  cases P1 with
  | false =>
    go_enter Tryd.func37, Tryd.ntmps37
    go_upto_region 1 with (fail)
    refine wp_world (w' := w2) Hw2.out ?_
    rw [Hg.out]
    clear Hw2
    go_wp2_with (first
      | (refine wp_sub rfl 23 _ rfl g 2 32 (fun j => .int .u8 (h.prev j)) rfl Tryd.underlying23 (size_h32 _) (hd_prev HB.out) ?_)
      | (refine wp_sub rfl 23 _ rfl g 60 32 (fun j => .int .u8 (h.sum j)) rfl Tryd.underlying23 (size_h32 _) (hd_sum HB.out) ?_)
      | (refine wp_sub rfl 29 _ rfl g 37 16 (fun j => .int .u8 (h.item j)) rfl Tryd.underlying29 (size_t16 _) (hd_item HB.out) ?_)
      | (refine wp_sub rfl 31 _ rfl g 54 6 (fun j => .int .u64 (h.knows j)) rfl Tryd.underlying31 (size_k6 _) (hd_knows HB.out) ?_)
      | (refine wpList_load_rowW rfl 33 _ rfl g rfl _ _ _ _ HBC.out Tryd.underlying33 rfl (by rw [Hsz.out]; kernel_rfl) ?_))
    go_ret
    exact ⟨rfl, HE.out⟩
  | true =>
    cases P2 with
    | false =>
      go_enter Tryd.func37, Tryd.ntmps37
      go_upto_region 1 with (fail)
      refine wp_world (w' := w2) Hw2.out ?_
      rw [Hg.out]
      clear Hw2
      go_wp2_with (first
        | (refine wp_sub rfl 23 _ rfl g 2 32 (fun j => .int .u8 (h.prev j)) rfl Tryd.underlying23 (size_h32 _) (hd_prev HB.out) ?_)
        | (refine wp_sub rfl 23 _ rfl g 60 32 (fun j => .int .u8 (h.sum j)) rfl Tryd.underlying23 (size_h32 _) (hd_sum HB.out) ?_)
        | (refine wp_sub rfl 29 _ rfl g 37 16 (fun j => .int .u8 (h.item j)) rfl Tryd.underlying29 (size_t16 _) (hd_item HB.out) ?_)
        | (refine wp_sub rfl 31 _ rfl g 54 6 (fun j => .int .u64 (h.knows j)) rfl Tryd.underlying31 (size_k6 _) (hd_knows HB.out) ?_)
        | (refine wpList_load_rowW rfl 33 _ rfl g rfl _ _ _ _ HBC.out Tryd.underlying33 rfl (by rw [Hsz.out]; kernel_rfl) ?_))
      go_ret
      exact ⟨rfl, HE.out⟩
    | true =>
      cases P3 with
      | false =>
        go_enter Tryd.func37, Tryd.ntmps37
        go_upto_region 1 with (fail)
        refine wp_world (w' := w2) Hw2.out ?_
        rw [Hg.out]
        clear Hw2
        go_wp2_with (first
          | (refine wp_sub rfl 23 _ rfl g 2 32 (fun j => .int .u8 (h.prev j)) rfl Tryd.underlying23 (size_h32 _) (hd_prev HB.out) ?_)
          | (refine wp_sub rfl 23 _ rfl g 60 32 (fun j => .int .u8 (h.sum j)) rfl Tryd.underlying23 (size_h32 _) (hd_sum HB.out) ?_)
          | (refine wp_sub rfl 29 _ rfl g 37 16 (fun j => .int .u8 (h.item j)) rfl Tryd.underlying29 (size_t16 _) (hd_item HB.out) ?_)
          | (refine wp_sub rfl 31 _ rfl g 54 6 (fun j => .int .u64 (h.knows j)) rfl Tryd.underlying31 (size_k6 _) (hd_knows HB.out) ?_)
          | (refine wpList_load_rowW rfl 33 _ rfl g rfl _ _ _ _ HBC.out Tryd.underlying33 rfl (by rw [Hsz.out]; kernel_rfl) ?_))
        go_ret
        exact ⟨rfl, HE.out⟩
      | true =>
        cases P4 with
        | false =>
          go_enter Tryd.func37, Tryd.ntmps37
          go_upto_region 1 with (fail)
          refine wp_world (w' := w2) Hw2.out ?_
          rw [Hg.out]
          clear Hw2
          go_wp2_with (first
            | (refine wp_sub rfl 23 _ rfl g 2 32 (fun j => .int .u8 (h.prev j)) rfl Tryd.underlying23 (size_h32 _) (hd_prev HB.out) ?_)
            | (refine wp_sub rfl 23 _ rfl g 60 32 (fun j => .int .u8 (h.sum j)) rfl Tryd.underlying23 (size_h32 _) (hd_sum HB.out) ?_)
            | (refine wp_sub rfl 29 _ rfl g 37 16 (fun j => .int .u8 (h.item j)) rfl Tryd.underlying29 (size_t16 _) (hd_item HB.out) ?_)
            | (refine wp_sub rfl 31 _ rfl g 54 6 (fun j => .int .u64 (h.knows j)) rfl Tryd.underlying31 (size_k6 _) (hd_knows HB.out) ?_)
            | (refine wpList_load_rowW rfl 33 _ rfl g rfl _ _ _ _ HBC.out Tryd.underlying33 rfl (by rw [Hsz.out]; kernel_rfl) ?_))
          go_ret
          exact ⟨rfl, HE.out⟩
        | true =>
          go_enter Tryd.func37, Tryd.ntmps37
          go_upto_region 1 with (fail)
          refine wp_world (w' := w2) Hw2.out ?_
          rw [Hg.out]
          clear Hw2
          go_wp2_with (first
            | (refine wp_sub rfl 23 _ rfl g 2 32 (fun j => .int .u8 (h.prev j)) rfl Tryd.underlying23 (size_h32 _) (hd_prev HB.out) ?_)
            | (refine wp_sub rfl 23 _ rfl g 60 32 (fun j => .int .u8 (h.sum j)) rfl Tryd.underlying23 (size_h32 _) (hd_sum HB.out) ?_)
            | (refine wp_sub rfl 29 _ rfl g 37 16 (fun j => .int .u8 (h.item j)) rfl Tryd.underlying29 (size_t16 _) (hd_item HB.out) ?_)
            | (refine wp_sub rfl 31 _ rfl g 54 6 (fun j => .int .u64 (h.knows j)) rfl Tryd.underlying31 (size_k6 _) (hd_knows HB.out) ?_)
            | (refine wpList_load_rowW rfl 33 _ rfl g rfl _ _ _ _ HBC.out Tryd.underlying33 rfl (by rw [Hsz.out]; kernel_rfl) ?_))
          refine (HBl.out w2).mono ?_
          rintro e w3 ⟨rfl, hE⟩
          have HE := Lib.hid (HE.out.trans hE)
          have HB := Lib.hid (hE.keep HB.out)
          have c35 := hd_ctl HB.out
          rw [H6.out] at c35
          clear hE
          cases P5 with
          | false =>
            go_wp2
            go_ret
            exact ⟨rfl, HE.out⟩
          | true =>
            go_wp2
            go_ret
            exact ⟨rfl, HE.out⟩

set_option maxHeartbeats 16000000 in
set_option maxRecDepth 100000 in
theorem refPrFormed_any (p : Pr) (w : World) (hp : PrAt w p) :
    Calls Tryd.prog 18 #[.agg (prV p)] w fun e w' => e = .returned (.bool (prB p)) ∧ Ext w w' := by
  obtain ⟨K, a, b, W, F, H, wa, wn, wc, ws⟩ := p
  obtain ⟨w2, hw2⟩ : ∃ w2, w.alloc (.cells (prV ⟨K, a, b, W, F, H, wa, wn, wc, ws⟩) 35) = w2 := ⟨_, rfl⟩
  have hE2 : Ext w w2 := by rw [← hw2]; exact (Ext.refl w).alloc _
  have hB2 : w2.heap[w.heap.size]? = some (.cells (prV ⟨K, a, b, W, F, H, wa, wn, wc, ws⟩) 35 (0, 0)) := by rw [← hw2]; exact heap_new w _ _ rfl
  obtain ⟨g, hg⟩ : ∃ g, w.heap.size = g := ⟨_, rfl⟩
  rw [hg] at hB2
  have Hg := Lib.hid hg
  have Hw2 := Lib.hid hw2
  have HE := Lib.hid hE2
  have HB := Lib.hid hB2
  have hsm : wn ≤ 140737488355328 := hp.toks.small
  have HFa := Lib.hid (fun w9 (h9 : Ext w w9) => refHd_any a.1 a.2 w9 hp.a.ok (hp.a.toks.ext h9))
  have HFb := Lib.hid (fun w9 (h9 : Ext w w9) => refHd_any b.1 b.2 w9 hp.b.ok (hp.b.toks.ext h9))
  have HBa := Lib.hid (fun w9 (h9 : Ext w w9) => refBlank15_any a.1 w9)
  have HBb := Lib.hid (fun w9 (h9 : Ext w w9) => refBlank15_any b.1 w9)
  have HSr := Lib.hid (fun w9 (h9 : Ext w w9) => refSorted_any wa wn wc ws w9 (hp.toks.ext h9))
  clear hw2 hE2 hB2 hg hp
  obtain ⟨R, hR⟩ : ∃ R, prB ⟨K, a, b, W, F, H, wa, wn, wc, ws⟩ = R := ⟨_, rfl⟩
  rw [hR]
  obtain ⟨FA, FAe⟩ : ∃ x, hdB a.1 a.2 = x := ⟨_, rfl⟩
  obtain ⟨FB, FBe⟩ : ∃ x, hdB b.1 b.2 = x := ⟨_, rfl⟩
  obtain ⟨BA, BAe⟩ : ∃ x, blkB a.1 = x := ⟨_, rfl⟩
  obtain ⟨BB, BBe⟩ : ∃ x, blkB b.1 = x := ⟨_, rfl⟩
  obtain ⟨SR, SRe⟩ : ∃ x, risesB ws = x := ⟨_, rfl⟩
  rw [FAe] at HFa
  rw [FBe] at HFb
  rw [BAe] at HBa
  rw [BBe] at HBb
  rw [SRe] at HSr
  have FAh := Lib.hid FAe
  have FBh := Lib.hid FBe
  have BAh := Lib.hid BAe
  have BBh := Lib.hid BBe
  have SRh := Lib.hid SRe
  have HRr := Lib.hid hR
  clear FAe FBe BAe BBe SRe
  clear hR
  go_enter Tryd.func18, Tryd.ntmps18
  go_upto_region 1 with (fail)
  refine wp_world (w' := w2) Hw2.out ?_
  rw [Hg.out]
  clear Hw2
  have c0 := pr_kind' HB.out
  have c251 := pr_writer' HB.out
  have c252 := pr_floor' HB.out
  have c253 := pr_head' HB.out
  have c254 := pr_toks' HB.out
  obtain ⟨TW, hTW⟩ : ∃ x, (FA && FB) = x := ⟨_, rfl⟩
  obtain ⟨NO, hNO⟩ : ∃ x, (decide (W = 0) && (decide (F = 0) && decide (H = 0))) = x := ⟨_, rfl⟩
  have HTW := Lib.hid hTW
  have HNO := Lib.hid hNO
  clear hTW hNO
  have HEx := Lib.hid (Ext.refl w2)
  go_cut [3] (fun v wx => v = .bool TW ∧ Ext w2 wx)
  case first =>
    clear HRr BAh BBh SRh HBa HBb HSr HNO
    go_wp2_with (first | (refine wp_hmid rfl _ rfl g 1 a.1 rfl (pr_ra' HB.out) ?_) | (refine wp_hmid rfl _ rfl g 126 b.1 rfl (pr_rb' HB.out) ?_))
    refine (HFa.out w2 HE.out).mono ?_
    rintro e w3 ⟨rfl, hE⟩
    have HE := Lib.hid (HE.out.trans hE)
    have HEx := Lib.hid (HEx.out.trans hE)
    have HB := Lib.hid (hE.keep HB.out)
    clear hE c0 c251 c252 c253 c254
    have c0 := pr_kind' HB.out
    have c251 := pr_writer' HB.out
    have c252 := pr_floor' HB.out
    have c253 := pr_head' HB.out
    have c254 := pr_toks' HB.out
    cases FA with
    | false =>
      have HV := Lib.hid (show TW = false from by rw [← HTW.out]; rfl)
      go_wp2
      go_meet
      case rel => exact ⟨by rw [HV.out], HEx.out⟩
    | true =>
      go_wp2_with (first | (refine wp_hmid rfl _ rfl g 1 a.1 rfl (pr_ra' HB.out) ?_) | (refine wp_hmid rfl _ rfl g 126 b.1 rfl (pr_rb' HB.out) ?_))
      refine (HFb.out w3 HE.out).mono ?_
      rintro e w4 ⟨rfl, hE⟩
      have HE := Lib.hid (HE.out.trans hE)
      have HEx := Lib.hid (HEx.out.trans hE)
      have HB := Lib.hid (hE.keep HB.out)
      clear hE c0 c251 c252 c253 c254
      have c0 := pr_kind' HB.out
      have c251 := pr_writer' HB.out
      have c252 := pr_floor' HB.out
      have c253 := pr_head' HB.out
      have c254 := pr_toks' HB.out
      have HV := Lib.hid (show TW = FB from by rw [← HTW.out]; simp)
      go_wp2
      go_meet
      case rel => exact ⟨by rw [HV.out], HEx.out⟩
  case rest =>
  obtain ⟨rfl, hEx⟩ := hcut
  rename World => wx
  have HE := Lib.hid (HE.out.trans hEx)
  have HB := Lib.hid (hEx.keep HB.out)
  clear hEx c0 c251 c252 c253 c254
  have c0 := pr_kind' HB.out
  have c251 := pr_writer' HB.out
  have c252 := pr_floor' HB.out
  have c253 := pr_head' HB.out
  have c254 := pr_toks' HB.out
  go_upto_region 2 with (fail)
  go_cut [4] (fun v wy => v = .bool NO ∧ wy = wx)
  case first =>
    clear HRr FAh FBh BAh BBh SRh HBa HBb HSr HFa HFb HTW
    by_cases nW : W = 0
    case neg =>
      have mW : (W == 0) = false := beq_eq_false_iff_ne.2 nW
      have HV := Lib.hid (show NO = false from by rw [← HNO.out]; simp [nW])
      go_wp2
      go_meet
      case rel => exact ⟨by rw [HV.out], by first | rfl | trivial⟩
    subst nW
    by_cases nF : F = 0
    case neg =>
      have mF : (F == 0) = false := beq_eq_false_iff_ne.2 nF
      have HV := Lib.hid (show NO = false from by rw [← HNO.out]; simp [nF])
      go_wp2
      go_meet
      case rel => exact ⟨by rw [HV.out], by first | rfl | trivial⟩
    subst nF
    by_cases nH : H = 0
    case neg =>
      have mH : (H == 0) = false := beq_eq_false_iff_ne.2 nH
      have HV := Lib.hid (show NO = false from by rw [← HNO.out]; simp [nH])
      go_wp2
      go_meet
      case rel => exact ⟨by rw [HV.out], by first | rfl | trivial⟩
    subst nH
    have HV := Lib.hid (show NO = true from by rw [← HNO.out]; simp)
    go_wp2
    go_meet
    case rel => exact ⟨by rw [HV.out], by first | rfl | trivial⟩
  case rest =>
  obtain ⟨rfl, hwy⟩ := hcut
  rw [hwy]
  clear hwy
  by_cases k3 : K = 3
  · subst k3
    go_wp2_with (first | (refine wp_hmid rfl _ rfl g 1 a.1 rfl (pr_ra' HB.out) ?_) | (refine wp_hmid rfl _ rfl g 126 b.1 rfl (pr_rb' HB.out) ?_))
    refine (HBa.out wx HE.out).mono ?_
    rintro e w3 ⟨rfl, hE⟩
    have HE := Lib.hid (HE.out.trans hE)
    have HB := Lib.hid (hE.keep HB.out)
    clear hE c0 c251 c252 c253 c254
    have c0 := pr_kind' HB.out
    have c251 := pr_writer' HB.out
    have c252 := pr_floor' HB.out
    have c253 := pr_head' HB.out
    have c254 := pr_toks' HB.out
    cases BA with
    | false =>
      have HV := Lib.hid (show R = false from by
        have q1 := FAh.out
        have q2 := FBh.out
        have q3 := BAh.out
        have q4 := BBh.out
        have q5 := SRh.out
        have q6 := HTW.out
        have q7 := HNO.out
        rw [← HRr.out]
        unfold prB noneB
        simp (config := { decide := true }) [*])
      go_wp2
      go_ret
      exact ⟨by rw [HV.out]; rfl, HE.out⟩
    | true =>
      go_wp2_with (first | (refine wp_hmid rfl _ rfl g 1 a.1 rfl (pr_ra' HB.out) ?_) | (refine wp_hmid rfl _ rfl g 126 b.1 rfl (pr_rb' HB.out) ?_))
      refine (HBb.out w3 HE.out).mono ?_
      rintro e w4 ⟨rfl, hE⟩
      have HE := Lib.hid (HE.out.trans hE)
      have HB := Lib.hid (hE.keep HB.out)
      clear hE c0 c251 c252 c253 c254
      have c0 := pr_kind' HB.out
      have c251 := pr_writer' HB.out
      have c252 := pr_floor' HB.out
      have c253 := pr_head' HB.out
      have c254 := pr_toks' HB.out
      cases BB with
      | false =>
        have HV := Lib.hid (show R = false from by
          have q1 := FAh.out
          have q2 := FBh.out
          have q3 := BAh.out
          have q4 := BBh.out
          have q5 := SRh.out
          have q6 := HTW.out
          have q7 := HNO.out
          rw [← HRr.out]
          unfold prB noneB
          simp (config := { decide := true }) [*])
        go_wp2
        go_ret
        exact ⟨by rw [HV.out]; rfl, HE.out⟩
      | true =>
        by_cases nw : wn = 0
        case neg =>
          have mw : ((wn : Int) == 0) = false := beq_eq_false_iff_ne.2 (by omega)
          have mw2 : (wn == 0) = false := beq_eq_false_iff_ne.2 nw
          have mw3 : decide (wn = 0) = false := decide_eq_false nw
          have HV := Lib.hid (show R = false from by
            have q1 := FAh.out
            have q2 := FBh.out
            have q3 := BAh.out
            have q4 := BBh.out
            have q5 := SRh.out
            have q6 := HTW.out
            have q7 := HNO.out
            rw [← HRr.out]
            unfold prB noneB
            simp (config := { decide := true }) [*])
          go_wp2
          go_ret
          exact ⟨by rw [HV.out]; rfl, HE.out⟩
        subst nw
        by_cases a1 : 1 ≤ W
        case neg =>
          have d1 : decide (1 ≤ W) = false := decide_eq_false a1
          have HV := Lib.hid (show R = false from by
            have q1 := FAh.out
            have q2 := FBh.out
            have q3 := BAh.out
            have q4 := BBh.out
            have q5 := SRh.out
            have q6 := HTW.out
            have q7 := HNO.out
            rw [← HRr.out]
            unfold prB noneB
            simp (config := { decide := true }) [*])
          go_wp2
          go_ret
          exact ⟨by rw [HV.out]; rfl, HE.out⟩
        by_cases a2 : W ≤ 6
        case neg =>
          have d1 : decide (W ≤ 6) = false := decide_eq_false a2
          have HV := Lib.hid (show R = false from by
            have q1 := FAh.out
            have q2 := FBh.out
            have q3 := BAh.out
            have q4 := BBh.out
            have q5 := SRh.out
            have q6 := HTW.out
            have q7 := HNO.out
            rw [← HRr.out]
            unfold prB noneB
            simp (config := { decide := true }) [*])
          go_wp2
          go_ret
          exact ⟨by rw [HV.out]; rfl, HE.out⟩
        by_cases a3 : H < F
        case neg =>
          have d1 : decide (H < F) = false := decide_eq_false a3
          have HV := Lib.hid (show R = false from by
            have q1 := FAh.out
            have q2 := FBh.out
            have q3 := BAh.out
            have q4 := BBh.out
            have q5 := SRh.out
            have q6 := HTW.out
            have q7 := HNO.out
            rw [← HRr.out]
            unfold prB noneB
            simp (config := { decide := true }) [*])
          go_wp2
          go_ret
          exact ⟨by rw [HV.out]; rfl, HE.out⟩
        by_cases a4 : F ≤ 1048576
        case neg =>
          have d1 : decide (F ≤ 1048576) = false := decide_eq_false a4
          have HV := Lib.hid (show R = false from by
            have q1 := FAh.out
            have q2 := FBh.out
            have q3 := BAh.out
            have q4 := BBh.out
            have q5 := SRh.out
            have q6 := HTW.out
            have q7 := HNO.out
            rw [← HRr.out]
            unfold prB noneB
            simp (config := { decide := true }) [*])
          go_wp2
          go_ret
          exact ⟨by rw [HV.out]; rfl, HE.out⟩
        have HV := Lib.hid (show R = true from by
          have q1 := FAh.out
          have q2 := FBh.out
          have q3 := BAh.out
          have q4 := BBh.out
          have q5 := SRh.out
          have q6 := HTW.out
          have q7 := HNO.out
          rw [← HRr.out]
          unfold prB noneB
          simp (config := { decide := true }) [*])
        go_wp2
        go_ret
        exact ⟨by rw [HV.out]; rfl, HE.out⟩
  by_cases k4 : K = 4
  · subst k4
    go_wp2_with (first | (refine wp_hmid rfl _ rfl g 1 a.1 rfl (pr_ra' HB.out) ?_) | (refine wp_hmid rfl _ rfl g 126 b.1 rfl (pr_rb' HB.out) ?_))
    refine (HFa.out wx HE.out).mono ?_
    rintro e w3 ⟨rfl, hE⟩
    have HE := Lib.hid (HE.out.trans hE)
    have HB := Lib.hid (hE.keep HB.out)
    clear hE c0 c251 c252 c253 c254
    have c0 := pr_kind' HB.out
    have c251 := pr_writer' HB.out
    have c252 := pr_floor' HB.out
    have c253 := pr_head' HB.out
    have c254 := pr_toks' HB.out
    cases FA with
    | false =>
      have HV := Lib.hid (show R = false from by
        have q1 := FAh.out
        have q2 := FBh.out
        have q3 := BAh.out
        have q4 := BBh.out
        have q5 := SRh.out
        have q6 := HTW.out
        have q7 := HNO.out
        rw [← HRr.out]
        unfold prB noneB
        simp (config := { decide := true }) [*])
      go_wp2
      go_ret
      exact ⟨by rw [HV.out]; rfl, HE.out⟩
    | true =>
      go_wp2_with (first | (refine wp_hmid rfl _ rfl g 1 a.1 rfl (pr_ra' HB.out) ?_) | (refine wp_hmid rfl _ rfl g 126 b.1 rfl (pr_rb' HB.out) ?_))
      refine (HBb.out w3 HE.out).mono ?_
      rintro e w4 ⟨rfl, hE⟩
      have HE := Lib.hid (HE.out.trans hE)
      have HB := Lib.hid (hE.keep HB.out)
      clear hE c0 c251 c252 c253 c254
      have c0 := pr_kind' HB.out
      have c251 := pr_writer' HB.out
      have c252 := pr_floor' HB.out
      have c253 := pr_head' HB.out
      have c254 := pr_toks' HB.out
      cases BB with
      | false =>
        have HV := Lib.hid (show R = false from by
          have q1 := FAh.out
          have q2 := FBh.out
          have q3 := BAh.out
          have q4 := BBh.out
          have q5 := SRh.out
          have q6 := HTW.out
          have q7 := HNO.out
          rw [← HRr.out]
          unfold prB noneB
          simp (config := { decide := true }) [*])
        go_wp2
        go_ret
        exact ⟨by rw [HV.out]; rfl, HE.out⟩
      | true =>
        cases NO with
        | false =>
          have HV := Lib.hid (show R = false from by
            have q1 := FAh.out
            have q2 := FBh.out
            have q3 := BAh.out
            have q4 := BBh.out
            have q5 := SRh.out
            have q6 := HTW.out
            have q7 := HNO.out
            rw [← HRr.out]
            unfold prB noneB
            simp (config := { decide := true }) [*])
          go_wp2
          go_ret
          exact ⟨by rw [HV.out]; rfl, HE.out⟩
        | true =>
          by_cases a1 : wn ≤ 8
          case neg =>
            have b1 : ¬ (wn : Int) ≤ 8 := by omega
            have b2 : decide (wn ≤ 8) = false := decide_eq_false a1
            have HV := Lib.hid (show R = false from by
              have q1 := FAh.out
              have q2 := FBh.out
              have q3 := BAh.out
              have q4 := BBh.out
              have q5 := SRh.out
              have q6 := HTW.out
              have q7 := HNO.out
              rw [← HRr.out]
              unfold prB noneB
              simp (config := { decide := true }) [*])
            go_wp2
            go_ret
            exact ⟨by rw [HV.out]; rfl, HE.out⟩
          have b1 : (wn : Int) ≤ 8 := by omega
          go_wp2_with (first | (refine wp_hmid rfl _ rfl g 1 a.1 rfl (pr_ra' HB.out) ?_) | (refine wp_hmid rfl _ rfl g 126 b.1 rfl (pr_rb' HB.out) ?_))
          refine (HSr.out w4 HE.out).mono ?_
          rintro e w5 ⟨rfl, hE⟩
          have HE := Lib.hid (HE.out.trans hE)
          have HB := Lib.hid (hE.keep HB.out)
          clear hE c0 c251 c252 c253 c254
          have c0 := pr_kind' HB.out
          have c251 := pr_writer' HB.out
          have c252 := pr_floor' HB.out
          have c253 := pr_head' HB.out
          have c254 := pr_toks' HB.out
          have HV := Lib.hid (show R = SR from by
            have q1 := FAh.out
            have q2 := FBh.out
            have q3 := BAh.out
            have q4 := BBh.out
            have q5 := SRh.out
            have q6 := HTW.out
            have q7 := HNO.out
            rw [← HRr.out]
            unfold prB noneB
            simp (config := { decide := true }) [*])
          go_wp2
          go_ret
          exact ⟨by rw [HV.out]; rfl, HE.out⟩
  by_cases k1 : K = 1
  · subst k1
    cases TW with
    | false =>
      have HV := Lib.hid (show R = false from by
        have q1 := FAh.out
        have q2 := FBh.out
        have q3 := BAh.out
        have q4 := BBh.out
        have q5 := SRh.out
        have q6 := HTW.out
        have q7 := HNO.out
        rw [← HRr.out]
        unfold prB noneB
        simp (config := { decide := true }) [*])
      go_wp2
      go_ret
      exact ⟨by rw [HV.out]; rfl, HE.out⟩
    | true =>
      cases NO with
      | false =>
        have HV := Lib.hid (show R = false from by
          have q1 := FAh.out
          have q2 := FBh.out
          have q3 := BAh.out
          have q4 := BBh.out
          have q5 := SRh.out
          have q6 := HTW.out
          have q7 := HNO.out
          rw [← HRr.out]
          unfold prB noneB
          simp (config := { decide := true }) [*])
        go_wp2
        go_ret
        exact ⟨by rw [HV.out]; rfl, HE.out⟩
      | true =>
        by_cases nw : wn = 0
        case neg =>
          have mw : ((wn : Int) == 0) = false := beq_eq_false_iff_ne.2 (by omega)
          have mw2 : (wn == 0) = false := beq_eq_false_iff_ne.2 nw
          have mw3 : decide (wn = 0) = false := decide_eq_false nw
          have HV := Lib.hid (show R = false from by
            have q1 := FAh.out
            have q2 := FBh.out
            have q3 := BAh.out
            have q4 := BBh.out
            have q5 := SRh.out
            have q6 := HTW.out
            have q7 := HNO.out
            rw [← HRr.out]
            unfold prB noneB
            simp (config := { decide := true }) [*])
          go_wp2
          go_ret
          exact ⟨by rw [HV.out]; rfl, HE.out⟩
        subst nw
        have HV := Lib.hid (show R = true from by
          have q1 := FAh.out
          have q2 := FBh.out
          have q3 := BAh.out
          have q4 := BBh.out
          have q5 := SRh.out
          have q6 := HTW.out
          have q7 := HNO.out
          rw [← HRr.out]
          unfold prB noneB
          simp (config := { decide := true }) [*])
        go_wp2
        go_ret
        exact ⟨by rw [HV.out]; rfl, HE.out⟩
  by_cases k2 : K = 2
  · subst k2
    cases TW with
    | false =>
      have HV := Lib.hid (show R = false from by
        have q1 := FAh.out
        have q2 := FBh.out
        have q3 := BAh.out
        have q4 := BBh.out
        have q5 := SRh.out
        have q6 := HTW.out
        have q7 := HNO.out
        rw [← HRr.out]
        unfold prB noneB
        simp (config := { decide := true }) [*])
      go_wp2
      go_ret
      exact ⟨by rw [HV.out]; rfl, HE.out⟩
    | true =>
      cases NO with
      | false =>
        have HV := Lib.hid (show R = false from by
          have q1 := FAh.out
          have q2 := FBh.out
          have q3 := BAh.out
          have q4 := BBh.out
          have q5 := SRh.out
          have q6 := HTW.out
          have q7 := HNO.out
          rw [← HRr.out]
          unfold prB noneB
          simp (config := { decide := true }) [*])
        go_wp2
        go_ret
        exact ⟨by rw [HV.out]; rfl, HE.out⟩
      | true =>
        by_cases nw : wn = 0
        case neg =>
          have mw : ((wn : Int) == 0) = false := beq_eq_false_iff_ne.2 (by omega)
          have mw2 : (wn == 0) = false := beq_eq_false_iff_ne.2 nw
          have mw3 : decide (wn = 0) = false := decide_eq_false nw
          have HV := Lib.hid (show R = false from by
            have q1 := FAh.out
            have q2 := FBh.out
            have q3 := BAh.out
            have q4 := BBh.out
            have q5 := SRh.out
            have q6 := HTW.out
            have q7 := HNO.out
            rw [← HRr.out]
            unfold prB noneB
            simp (config := { decide := true }) [*])
          go_wp2
          go_ret
          exact ⟨by rw [HV.out]; rfl, HE.out⟩
        subst nw
        have HV := Lib.hid (show R = true from by
          have q1 := FAh.out
          have q2 := FBh.out
          have q3 := BAh.out
          have q4 := BBh.out
          have q5 := SRh.out
          have q6 := HTW.out
          have q7 := HNO.out
          rw [← HRr.out]
          unfold prB noneB
          simp (config := { decide := true }) [*])
        go_wp2
        go_ret
        exact ⟨by rw [HV.out]; rfl, HE.out⟩
  have q1 : (K == 1) = false := beq_eq_false_iff_ne.2 k1
  have q2 : (K == 2) = false := beq_eq_false_iff_ne.2 k2
  have q3 : (K == 3) = false := beq_eq_false_iff_ne.2 k3
  have q4 : (K == 4) = false := beq_eq_false_iff_ne.2 k4
  have HV := Lib.hid (show R = false from by
    have q1 := FAh.out
    have q2 := FBh.out
    have q3 := BAh.out
    have q4 := BBh.out
    have q5 := SRh.out
    have q6 := HTW.out
    have q7 := HNO.out
    rw [← HRr.out]
    unfold prB noneB
    simp (config := { decide := true }) [*])
  go_wp2
  go_ret
  exact ⟨by rw [HV.out]; rfl, HE.out⟩

end Go.Proofs.YtpiebfhcfkncoaaDoor
