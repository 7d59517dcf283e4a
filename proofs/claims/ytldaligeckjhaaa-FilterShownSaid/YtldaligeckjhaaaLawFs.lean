/-
  The walk of jalousielaw19.FilterShown: it answers true. No conditions.
-/
import Derived.Test.YtldaligeckjhaaaFaP
import Derived.Test.YtldaligeckjhaaaWid
import Derived.Test.YtldaligeckjhaaaRefTok
namespace Go.Proofs.Ytldaligeckjhaaa
open Go.ChangeShapes Go.WideShapes Go.ChangeAt Go.RowKit

def tkAt (ts : List (Nat → Int)) (i : Nat) : Nat → Int := ts.getD i fun _ => 0
/-- What the reference tells of a token is the item of the fold. -/
theorem shown_at {cs : List Rw} {its : List It} {ts : List (Nat → Int)} (hf : FoldIs cs its) (hk : TkIs cs ts) : ts.length = its.length ∧ ∀ i, i < its.length → ∀ t, Was (tkAt ts i) (ofTok (tkAt ts i) cs) t →
    (itAt its i).kn = t.kn ∧ (itAt its i).al = t.al ∧ (itAt its i).tags = t.tags ∧ ∀ B, SmR (itAt its i) t (bytesL (itAt its i).hd.1 (itAt its i).hd.2) (bytesL t.hd.1 t.hd.2) B → B = true := by
  have e := hk.fold hf
  have hl : ts.length = its.length := by
    have := congrArg List.length e
    simpa using this
  refine ⟨hl, fun i hi t ht => ?_⟩
  have e1 := congrArg (fun l => l[i]?) e
  simp only [List.getElem?_map, List.getElem?_eq_getElem hi, List.getElem?_eq_getElem (show i < ts.length by omega), Option.map_some, Option.some.injEq] at e1
  have gx : itAt its i = its[i] := by unfold itAt; rw [List.getD_eq_getElem?_getD, List.getElem?_eq_getElem hi]; rfl
  have gt : tkAt ts i = ts[i] := by unfold tkAt; rw [List.getD_eq_getElem?_getD, List.getElem?_eq_getElem (show i < ts.length by omega)]; rfl
  rw [gt] at ht
  rw [gx]
  have hq : arrB 16 its[i].tok ts[i] = true := (tkK_iff _ _).2 e1.symm
  obtain ⟨m1, m2⟩ := hf.made its[i] (List.getElem_mem _)
  rw [ofTok_congr hq cs] at m1 m2
  unfold Was at ht
  rw [if_neg m2] at ht
  have hm := same_made m1 ht
  refine ⟨hm.1, hm.2.1, hm.2.2.2.1, fun B hB => ?_⟩
  exact hB.2.2.2 (by rw [ht.tok]; exact hq) hm.1 hm.2.1 hm.2.2.1 hm.2.2.2.1 hm.2.2.2.2.1 hm.2.2.2.2.2.1
/-- A token in a row of tokens of a call's own. -/
theorem own_tk {w : World} {B n c : Nat} {a : Option Addr} {ts : List (Nat → Int)} (h : w.ownsRow B 27 16 (.slice a n c) n (tkC ts)) : n ≤ 9223372036854775807 ∧ (0 < n → ∃ g, a = some ⟨g, 0, none⟩ ∧ ∀ i, i < n → w.rangeAt g (i * 16) (tokL (tkAt ts i))) := by
  have hl : ts.length = n := by
    have := h.1
    rw [tkC_length] at this
    omega
  refine ⟨?_, fun h0 => ?_⟩
  · rcases h.2 with ⟨_, e⟩ | ⟨g, cap, cur, e, _, _, k1, k2, _⟩
    · omega
    · unfold maxLen at k2
      omega
  rcases h.2 with ⟨_, e⟩ | ⟨g, cap, cur, e, _⟩
  · omega
  · simp only [Value.slice.injEq] at e
    obtain ⟨rfl, _⟩ := e
    refine ⟨g, rfl, fun i hi j u hu => ?_⟩
    have hj : j < 16 := by
      have := (List.getElem?_eq_some_iff.1 hu).1
      simpa [tokL] using this
    unfold tokL at hu
    rw [List.getElem?_map, List.getElem?_range hj] at hu
    obtain rfl := Option.some.inj hu
    have h2 := h.cells (g := g) rfl (i * 16 + j) _ (tkC_get ts i j (by omega) hj)
    rw [addr_add, Nat.zero_add] at h2
    exact h2
set_option maxRecDepth 100000 in
theorem size_tkF (w : World) : (sizeOf 27).run Try.prog w = .ok 16 w := by kernel_rfl
theorem wp_tidx {ops : Array Oper} {Q : Exit → Act → World → Prop} {rest : List Oper} {o : Oper} {a : Act} {w : World} (hw : Region.wanted o (yielded ops a.tmps) = true) (x y : Operand) (ho : o.op = .indexAddr 28 x y)
    (b off n c k : Nat) (hx : a.eval x = .slice (some ⟨b, off, none⟩) n c) (hy : a.eval y = .int .i64 (k : Int)) (hk : k < n)
    (h : wpList Try.prog ops Q rest (a.put o.dst (.pointer (some ⟨b, off + k * 16, none⟩))) w) : wpList Try.prog ops Q (o :: rest) a w := by
  refine wpList_want hw fun K hK => ?_
  have hr : (Instr.indexAt 28 (.slice (some ⟨b, off, none⟩) n c) (.int .i64 (k : Int))).run Try.prog w = .ok (.pointer (some ⟨b, off + k * 16, none⟩)) w := by
    have hb : (0 : Int) ≤ (k : Int) ∧ (k : Int) < (n : Int) := by omega
    simp only [Instr.indexAt, asIntOf, Sem.run_bind, Sem.run_pure, Result.andThen_ok, run_underlying Try.underlying28, hb, and_self, if_true, size_tkF, Int.toNat_natCast, add_none]
  unfold Oper.wp execOp
  simp only [ho, hx, hy, Sem.run_bind, hr, Result.andThen_ok, Sem.run_pure]
  exact hK _ _ h

set_option maxHeartbeats 8000000 in
set_option maxRecDepth 100000 in
theorem lawFs_any (al : Bool) (sa : Option Addr) (sm sd : Nat) (ss : List ByteArray) (a : Option Addr) (n c : Nat) (l : List Rw) (w : World) (hs : SrAt w sa sm sd ss) (h : RwsAt w a n c l) :
    Calls Try.prog 8 #[.agg (fltV al (.slice sa sm sd)), .slice a n c] w fun e w' => e = .returned (.bool true) ∧ Ext w w' := by
  have hcap := h.cap
  have hlim := h.lim
  have HLen := Lib.hid h.len
  obtain ⟨w2, hw2⟩ : ∃ z, w.alloc (.cells (fltV al (.slice sa sm sd)) 55) = z := ⟨_, rfl⟩
  have hE2 : Ext w w2 := by rw [← hw2]; exact (Ext.refl w).alloc _
  have hB2 : w2.heap[w.heap.size]? = some (.cells (fltV al (.slice sa sm sd)) 55 (0, 0)) := by rw [← hw2]; exact heap_new w _ _ rfl
  obtain ⟨g, hg⟩ : ∃ g, w.heap.size = g := ⟨_, rfl⟩
  rw [hg] at hB2
  have H := Lib.hid (h.ext hE2)
  have HS := Lib.hid (hs.ext hE2)
  have HFew1 := Lib.hid (fun u (hu : Ext w2 u) => few19_any al sa sm sd ss u (HS.out.ext hu))
  have HFewR := Lib.hid (fun u (hu : Ext w2 u) => fewR_any a n c l 30 u (H.out.ext hu))
  have HSh := Lib.hid (fun (hn : n ≤ 100000) u (hu : Ext w2 u) => shown_any al sa sm sd ss a n c l u (H.out.ext hu) hn (HS.out.ext hu))
  have HCn := Lib.hid (fun (hn : n ≤ 100000) u (hu : Ext w2 u) => refCnt_any a n c l u (H.out.ext hu) hn)
  have HP1 := Lib.hid (fun (t : It) u (hu : Ext w2 u) (ht : ItAt u t) => show Calls Try.prog 26 #[.agg (fltV al (.slice sa sm sd)), .agg (itV t)] u fun e w' => e = .returned (.bool (shP al ss t)) ∧ Ext u w' from shows_any al sa sm sd ss (itC t) t.kn t.al t.ta t.tags.length t.tc t.tags u rfl rfl rfl ht.tags (HS.out.ext hu))
  have HP2 := Lib.hid (fun (t : It) u (hu : Ext w2 u) (ht : ItAt u t) => show Calls Try.prog 27 #[.agg (fltV al (.slice sa sm sd)), .agg (itV t)] u fun e w' => e = .returned (.bool (shP al ss t)) ∧ Ext u w' from refShows_any al sa sm sd ss (itC t) t.kn t.al t.ta t.tags.length t.tc t.tags u rfl rfl rfl ht.tags (HS.out.ext hu))
  have HA := Lib.hid awake19_any
  obtain ⟨FA, hFA⟩ : ∃ z, fltV al (.slice sa sm sd) = z := ⟨_, rfl⟩
  have HFs := Lib.hid (show FA.size = 2 by rw [← hFA]; rfl)
  rw [hFA] at HFew1 HSh HP1 HP2 hw2 hB2 ⊢
  have HBx := Lib.hid (show ∀ u, Ext w2 u → u.heap[g]? = some (.cells FA 55 (0, 0)) from fun u hu => hu.keep hB2)
  have HE2 := Lib.hid hE2
  have Hw2 := Lib.hid hw2
  have Hg := Lib.hid hg
  clear h hs hw2 hE2 hB2 hg hFA
  go_enter Try.func8, Try.ntmps8
  go_upto_region 1 with (fail)
  refine wp_world (w' := w2) Hw2.out ?_
  rw [Hg.out]
  clear Hw2 Hg
  go_wp2_with fail
  refine (HA.out w2).mono ?_
  rintro e w3 ⟨rfl, hE3⟩
  have HE3 := Lib.hid hE3
  clear hE3
  go_wp2_with (refine wpList_load_rowW rfl 55 (.tmp 2) rfl g rfl _ _ _ _ (HBx.out _ (HE3.out)) Try.underlying55 rfl (by rw [HFs.out]; kernel_rfl) ?_; simp only [Act.put, List.setIfInBounds_toArray, List.set_cons_zero, List.set_cons_succ])
  refine (HFew1.out w3 HE3.out).mono ?_
  rintro e w4 ⟨R1, rfl, -, hE4⟩
  have HE4 := Lib.hid (HE3.out.trans hE4)
  clear hE4
  cases R1 with
  | false =>
    go_wp2_with fail
    refine (HA.out _).mono ?_
    rintro e w9 ⟨rfl, hE9⟩
    go_wp2
    go_ret
    exact ⟨rfl, HE2.out.trans (HE4.out.trans hE9)⟩
  | true =>
    go_wp2_with fail
    refine (HFewR.out w4 HE4.out).mono ?_
    rintro e w6 ⟨R3, rfl, hR3, hE6⟩
    have HE6 := Lib.hid (HE4.out.trans hE6)
    have HRn := Lib.hid hR3
    clear hE6 hR3
    cases R3 with
    | false =>
      go_wp2_with fail
      refine (HA.out _).mono ?_
      rintro e w9 ⟨rfl, hE9⟩
      go_wp2
      go_ret
      exact ⟨rfl, HE2.out.trans (HE6.out.trans hE9)⟩
    | true =>
      have hn : n ≤ 30 := by
        have := HRn.out rfl
        omega
      have Hn := Lib.hid (show n ≤ 100000 by omega)
      clear HRn hn
      go_upto_region 3 with (fail)
      go_wp2_with (refine wpList_load_rowW rfl 55 (.tmp 2) rfl g rfl _ _ _ _ (HBx.out _ (HE6.out)) Try.underlying55 rfl (by rw [HFs.out]; kernel_rfl) ?_; simp only [Act.put, List.setIfInBounds_toArray, List.set_cons_zero, List.set_cons_succ])
      refine (HSh.out Hn.out w6 HE6.out).mono ?_
      rintro e y1 ⟨gv, its, rfl, hE, ho, hat, hfi⟩
      obtain ⟨ga, gc, hgv⟩ := own_itsl ho
      subst hgv
      obtain ⟨k1, k2⟩ := own_its ho
      have HE1 := Lib.hid (HE6.out.trans hE)
      have HGk := Lib.hid k2
      have HIts := Lib.hid hat
      have HFi := Lib.hid hfi
      obtain ⟨gs, hgs⟩ : ∃ z, its.filter (shP al ss) = z := ⟨_, rfl⟩
      have Hgs := Lib.hid hgs
      rw [hgs] at HGk k1 ⊢
      obtain ⟨N, hN⟩ : ∃ z, gs.length = z := ⟨_, rfl⟩
      have HN := Lib.hid hN
      rw [hN] at HGk k1 ⊢
      clear hE ho hat hfi k2 hgs hN
      go_upto_region 4 with (fail)
      go_wp2_with fail
      refine (HCn.out Hn.out y1 HE1.out).mono ?_
      rintro e y2 ⟨v, rfl, hE5, hown⟩
      obtain ⟨ca, cc, hsl⟩ := own_rwsl hown
      subst hsl
      have HE5 := Lib.hid (HE1.out.trans hE5)
      have HOwn := Lib.hid hown
      have HIts2 := Lib.hid (fun t ht => (HIts.out t ht).ext hE5)
      have HGk2 := Lib.hid (show 0 < N → ∃ g, ga = some ⟨g, 0, none⟩ ∧ ∀ i, i < N → y2.rangeAt g (i * 146) (itL (itAt gs i)) from fun h0 => by
        obtain ⟨q, e, hq⟩ := HGk.out h0
        refine ⟨q, e, fun i hi p v hv => ?_⟩
        have h1 := hq i hi p v hv
        rw [hE5.cell (World.block_lt_of_cell? _ _ h1)]
        exact h1)
      obtain ⟨cs, hcs⟩ : ∃ z, cntN l n = z := ⟨_, rfl⟩
      have HCs := Lib.hid hcs
      rw [hcs] at HOwn HFi ⊢
      have hMn : cs.length ≤ n := by rw [← hcs]; exact cntN_le l n
      have HRc := Lib.hid (own_rws HOwn.out (fun q hq => (H.out.each q (by rw [← hcs] at hq; exact (cntN_mem l n (by rw [HLen.out]; exact Nat.le_refl _) q hq).1)).ext HE5.out) (by have := Hn.out; omega))
      obtain ⟨M, hM⟩ : ∃ z, cs.length = z := ⟨_, rfl⟩
      rw [hM] at HRc HOwn hMn ⊢
      have HMs := Lib.hid (show M ≤ 100000 by have := Hn.out; omega)
      clear hcs hM hE5 hown HGk HIts hMn HOwn
      go_upto_region 5 with (fail)
      go_wp2_with fail
      refine (refTokens_any ca M cc cs y2 HRc.out HMs.out).mono ?_
      rintro e y ⟨v, ts, rfl, hE, ho, hti⟩
      obtain ⟨ta, tc, hv⟩ : ∃ p q, v = .slice p ts.length q := by
        rcases ho.2 with ⟨h1, h2⟩ | ⟨g', cap', cur', h1, _⟩
        · exact ⟨none, 0, by rw [h1, h2]⟩
        · exact ⟨_, _, h1⟩
      subst hv
      obtain ⟨hT1, hT2⟩ := own_tk ho
      have HEy := Lib.hid (HE5.out.trans hE)
      have HTk := Lib.hid hT2
      have HAt := Lib.hid (shown_at HFi.out hti)
      have HRc2 := Lib.hid (HRc.out.ext hE)
      have HIts3 := Lib.hid (fun t ht => (HIts2.out t ht).ext hE)
      have HGk3 := Lib.hid (show 0 < N → ∃ g, ga = some ⟨g, 0, none⟩ ∧ ∀ i, i < N → y.rangeAt g (i * 146) (itL (itAt gs i)) from fun h0 => by
        obtain ⟨q, e, hq⟩ := HGk2.out h0
        refine ⟨q, e, fun i hi p v hv => ?_⟩
        have h1 := hq i hi p v hv
        rw [hE.cell (World.block_lt_of_cell? _ _ h1)]
        exact h1)
      obtain ⟨m, hm⟩ : ∃ z, ts.length = z := ⟨_, rfl⟩
      have HIl := Lib.hid (show its.length = m by rw [← HAt.out.1, hm])
      rw [hm] at HTk hT1 ⊢
      have HNm := Lib.hid (show cntI (shP al ss) its m = N by rw [← HIl.out, cntI_all, Hgs.out, HN.out])
      clear hE ho hti hT2 hm HRc HIts2 HGk2
      go_wp2_with fail
      go_loopw [8, 9] (fun v i z => ∃ (j kk : Nat), j ≤ m ∧ cntI (shP al ss) its j = kk ∧ v = .int .i64 (kk : Int) ∧ i = .int .i64 (j : Int) ∧ Ext y z) (fun _ i _ => m - (intOf i).toNat)
      case atStart => exact ⟨0, 0, by omega, cntI_zero _ _, rfl, rfl, Ext.refl _⟩
      case round =>
        obtain ⟨j, kk, hj, hkk, rfl, rfl, hE⟩ := hrel
        rename World => z
        have HEz := Lib.hid hE
        have Hkk := Lib.hid hkk
        have hkj : kk ≤ j := by rw [← hkk]; exact cntI_le _ _ _
        clear hE hkk
        by_cases hjm : j < m
        · have x2 : (j : Int) < (m : Int) := by omega
          obtain ⟨g2, e2, hx2⟩ := HTk.out (by omega)
          subst e2
          have hx2' := hx2 j hjm
          obtain ⟨x, hx⟩ : ∃ r, tkAt ts j = r := ⟨_, rfl⟩
          have hat := HAt.out.2 j (by rw [HIl.out]; exact hjm)
          rw [hx] at hx2' hat
          obtain ⟨X, hX⟩ : ∃ q, (rowArr 16 fun j => Value.int .u8 (x j)) = q := ⟨_, rfl⟩
          obtain ⟨LI, hLI⟩ : ∃ q, tokL x = q := ⟨_, rfl⟩
          have HLa := Lib.hid (show LI.toArray = X ∧ LI.length = 16 by rw [← hLI, ← hX]; exact ⟨rfl, tokL_length _⟩)
          have HRi := Lib.hid (show z.rangeAt g2 (0 + j * 16) LI from fun p v hv => by
            rw [← hLI] at hv
            have h1 := hx2' p v hv
            rw [Nat.zero_add, HEz.out.cell (World.block_lt_of_cell? _ _ h1)]
            exact h1)
          have HOf := Lib.hid (show Calls Try.prog 17 #[.slice ca M cc, .agg X] z fun e w' => ∃ (t : It) (OK : Bool), e = .returned (.tuple #[.agg (itV t), .bool OK]) ∧ Ext z w' ∧ ItAt w' t ∧ Was x (ofTok x cs) t from by
            have h := refOf_any x ca M cc cs z (HRc2.out.ext HEz.out) HMs.out
            rw [hX] at h
            refine h.mono ?_
            rintro e w' ⟨t, rfl, h1, h2, h3⟩
            exact ⟨t, _, rfl, h1, h2, h3⟩)
          have HAj := Lib.hid hat
          obtain ⟨p, hp⟩ : ∃ r, itAt its j = r := ⟨_, rfl⟩
          have Hp := Lib.hid hp
          rw [hp] at HAj
          have HAp := Lib.hid (show ItAt y p by rw [← hp]; exact HIts3.out _ (itAt_mem (by rw [HIl.out]; exact hjm)))
          have hzi := it_zero
          obtain ⟨ZI, hZI⟩ : ∃ z, itV itN = z := ⟨_, rfl⟩
          have HZs := Lib.hid (show ZI.size = 146 by rw [← hZI]; exact itV_size _)
          rw [hZI] at hzi
          clear hZI hx2 hx2' hx hX hLI hat hp
          go_upto_region 11 with (first | (refine wp_tidx rfl (.tmp 40) (.tmp 41) rfl g2 0 m tc j rfl rfl hjm ?_) | (refine wpList_load_mid rfl 27 (.tmp 42) rfl g2 _ rfl LI _ HRi.out Try.underlying27 rfl (by rw [HLa.out.2]; kernel_rfl) ?_; rw [HLa.out.1]; simp only [Act.put, List.setIfInBounds_toArray, List.set_cons_zero, List.set_cons_succ]) | (go_at_call 17; refine HOf.out.mono ?_; rintro e u1 ⟨t, OK, rfl, hE, hA, hW⟩; obtain ⟨J, hJ⟩ : ∃ z, itV t = z := ⟨_, rfl⟩; have HJ := Lib.hid hJ; have HTs := Lib.hid (show J.size = 146 ∧ J.all (·.oneCell') = true by rw [← hJ]; exact ⟨itV_size _, itV_one _⟩); have HU1 := Lib.hid hE; have HAt1 := Lib.hid hA; have HWt := Lib.hid (HAj.out t hW); rw [hJ]; clear hE hA hW hJ) | (refine wpList_store_row rfl 41 _ _ rfl u1.heap.size _ rfl rfl _ _ (heap_new u1 _ _ rfl) (by rw [HTs.out.1]; kernel_rfl) (by rw [HTs.out.1, HZs.out]) HTs.out.2 ?_; rw [setRow_new u1 _ _ _ _ rfl]))
          obtain ⟨v1, hv1⟩ : ∃ z, u1.alloc (.cells J 41) = z := ⟨_, rfl⟩
          obtain ⟨t6, ht6⟩ : ∃ z, u1.heap.size = z := ⟨_, rfl⟩
          have HV1 := Lib.hid (show Ext z v1 by rw [← hv1]; exact HU1.out.alloc _)
          have hT6 : v1.heap[t6]? = some (.cells J 41 (0, 0)) := by rw [← hv1]; exact heap_new u1 _ _ ht6.symm
          have HT6 := Lib.hid (show ∀ u, Ext v1 u → u.heap[t6]? = some (.cells J 41 (0, 0)) from fun u hu => hu.keep hT6)
          have HAt2 := Lib.hid (show ItAt v1 t by rw [← hv1]; exact HAt1.out.ext ((Ext.refl u1).alloc _))
          rw [ht6]
          refine wp_world (w' := v1) hv1 ?_
          have HW := Lib.hid (show ∀ u, Ext v1 u → Ext w2 u from fun u hu => HEy.out.trans (HEz.out.trans (HV1.out.trans hu)))
          clear hv1 ht6 hT6 hzi
          obtain ⟨PB, hPB⟩ : ∃ q, shP al ss t = q := ⟨_, rfl⟩
          have HPp := Lib.hid (show shP al ss p = PB by
            rw [← hPB]
            unfold shP
            rw [HWt.out.1, HWt.out.2.1, HWt.out.2.2.1])
          have HC1 := Lib.hid (fun u (hu : Ext v1 u) => HP1.out t u (HW.out u hu) (HAt2.out.ext hu))
          have HC2 := Lib.hid (fun u (hu : Ext v1 u) => HP2.out t u (HW.out u hu) (HAt2.out.ext hu))
          rw [hPB, HJ.out] at HC1 HC2
          clear hPB
          have hne : (PB != PB) = false := by cases PB <;> rfl
          have HNo := Lib.hid (show PB = false → cntI (shP al ss) its (j + 1) = kk from fun e => by rw [cntI_no (by rw [HIl.out]; exact hjm) (by rw [Hp.out, HPp.out, e]), Hkk.out])
          have HYs := Lib.hid (show PB = true → cntI (shP al ss) its (j + 1) = kk + 1 ∧ kk < N ∧ itAt gs kk = p from fun e => by
            have hpt : shP al ss (itAt its j) = true := by rw [Hp.out, HPp.out, e]
            have h1 := cntI_at (by rw [HIl.out]; exact hjm) hpt
            rw [Hkk.out, Hgs.out, HN.out, Hp.out] at h1
            exact ⟨by rw [cntI_yes (by rw [HIl.out]; exact hjm) hpt, Hkk.out], h1⟩)
          have HY := Lib.hid (show ∀ u, Ext v1.drew u → Ext v1 u from fun u hu => Ext.trans (Ext.refl v1).drew hu)
          refine wp_region_lexA (by kernel_rfl) (by kernel_rfl) ?_
          refine lx_e (.agg FA) [] (by kernel_rfl) rfl (by rfl) (fun w1 hw1 => ?_) ?_
          · simp only [pk, lexVals]
            exact lu_row rfl rfl (HBx.out _ (HW.out w1 (HY.out w1 hw1))) Try.underlying55 rfl (by rw [HFs.out]; kernel_rfl)
          refine lx_e (.agg J) [] (by kernel_rfl) rfl (by rfl) (fun w1 hw1 => ?_) ?_
          · simp only [pk, lexVals]
            exact lu_row rfl rfl (HT6.out w1 (HY.out w1 hw1)) Try.underlying41 rfl (by rw [HTs.out.1]; kernel_rfl)
          refine lx_e (.bool PB) [(1, 47), (0, 48)] (by kernel_rfl) rfl (by rfl) (fun w1 hw1 => ?_) ?_
          · simp only [pk, nthSp, lexVals]
            have HM := Lib.hid (HC1.out w1 (HY.out w1 hw1))
            clear hw1
            go_simp
            refine HM.out.mono ?_
            rintro e w9 ⟨rfl, hE9⟩
            exact ⟨_, rfl, hE9, rfl⟩
          refine lx_e (.agg FA) [] (by kernel_rfl) rfl (by rfl) (fun w1 hw1 => ?_) ?_
          · simp only [pk, lexVals]
            exact lu_row rfl rfl (HBx.out _ (HW.out w1 (HY.out w1 hw1))) Try.underlying55 rfl (by rw [HFs.out]; kernel_rfl)
          refine lx_e (.agg J) [] (by kernel_rfl) rfl (by rfl) (fun w1 hw1 => ?_) ?_
          · simp only [pk, lexVals]
            exact lu_row rfl rfl (HT6.out w1 (HY.out w1 hw1)) Try.underlying41 rfl (by rw [HTs.out.1]; kernel_rfl)
          refine lx_e (.bool PB) [(1, 50), (0, 51)] (by kernel_rfl) rfl (by rfl) (fun w1 hw1 => ?_) ?_
          · simp only [pk, nthSp, lexVals]
            have HM := Lib.hid (HC2.out w1 (HY.out w1 hw1))
            clear hw1
            go_simp
            refine HM.out.mono ?_
            rintro e w9 ⟨rfl, hE9⟩
            exact ⟨_, rfl, hE9, rfl⟩
          refine lx_e (.bool false) [(3, 49), (0, 52)] (by kernel_rfl) rfl (by rfl) (fun w1 hw1 => ?_) ?_
          · simp only [pk, nthSp, lexVals]
            clear hw1
            go_simp
            exact ⟨Ext.refl _, by first | rfl | (show Value.bool (PB != PB) = .bool false; rw [hne]) | simp⟩
          refine lx_stopA (by rfl) fun v2 hv2 => ?_
          have HV2 := Lib.hid (HY.out v2 hv2)
          clear hv2 HY hne
          simp only [rv, pf, lexVals]
          simp only [Act.put, List.setIfInBounds_toArray, List.set_cons_zero, List.set_cons_succ]
          have HM3 := Lib.hid (HC2.out v2 HV2.out)
          go_upto_region 13 with (fail)
          go_wp2_with (first | (refine wpList_load_rowW rfl 55 (.tmp 2) rfl g rfl _ _ _ _ (HBx.out _ (HW.out _ HV2.out)) Try.underlying55 rfl (by rw [HFs.out]; kernel_rfl) ?_; simp only [Act.put, List.setIfInBounds_toArray, List.set_cons_zero, List.set_cons_succ]) | (refine wpList_load_rowW rfl 41 (.tmp 10) rfl t6 rfl _ _ _ _ (HT6.out _ (HV2.out)) Try.underlying41 rfl (by rw [HTs.out.1]; kernel_rfl) ?_; simp only [Act.put, List.setIfInBounds_toArray, List.set_cons_zero, List.set_cons_succ]))
          refine HM3.out.mono ?_
          rintro e v3 ⟨rfl, hE3⟩
          have HV3 := Lib.hid (HV2.out.trans hE3)
          have HZ3 := Lib.hid (HEz.out.trans (HV1.out.trans HV3.out))
          clear hE3 HM3
          cases PB with
          | false =>
            go_wp2_with fail
            go_roundw
            case rel => exact ⟨j + 1, kk, by omega, HNo.out (by first | rfl | trivial), rfl, by go_num, HZ3.out⟩
            case measure => simp [intOf]; omega
          | true =>
            obtain ⟨hk1, hk2, hk3⟩ := HYs.out (by first | rfl | trivial)
            have Hk1 := Lib.hid hk1
            have Hk2 := Lib.hid hk2
            obtain ⟨g1, e1, hx1⟩ := HGk3.out (by omega)
            subst e1
            have hx1' := hx1 kk hk2
            rw [hk3] at hx1'
            have HX1 := Lib.hid (show ∀ u, Ext y u → u.rangeAt g1 (0 + kk * 146) (itL p) from fun u hu i v hv => by
              have h1 := hx1' i v hv
              rw [Nat.zero_add, hu.cell (World.block_lt_of_cell? _ _ h1)]
              exact h1)
            obtain ⟨PV, hPV⟩ : ∃ q, itV p = q := ⟨_, rfl⟩
            have HPa := Lib.hid (show (itL p).toArray = PV by rw [itL_arr, hPV])
            have HSm := Lib.hid (show ∀ u, Ext y u → Ext v1 u → Calls Try.prog 18 #[.agg PV, .agg J] u fun e w' => e = .returned (.bool true) ∧ Ext u w' from fun u hu hv => by
              have h := refSameW_any p t u (HAp.out.ext hu) (HAt2.out.ext hv)
              rw [hPV, HJ.out] at h
              refine h.mono ?_
              rintro e w' ⟨B, rfl, hE, hB⟩
              exact ⟨by rw [HWt.out.2.2.2 B hB], hE⟩)
            have x3 : ¬ (N : Int) ≤ (kk : Int) := by omega
            clear hk1 hk3 hx1 hx1' HNo HYs hPV
            go_upto_region 14 with (fail)
            have HY := Lib.hid (show ∀ u, Ext v3.drew u → Ext y u ∧ Ext v1 u from fun u hu => by
              have h1 := Ext.trans (Ext.refl v3).drew hu
              exact ⟨HZ3.out.trans h1, HV3.out.trans h1⟩)
            refine wp_region_lexA (by kernel_rfl) (by kernel_rfl) ?_
            refine lx_e (.int .i64 (kk : Int)) [] (by kernel_rfl) rfl (by rfl) (fun w1 hw1 => ?_) ?_
            · simp only [pk, lexVals]
              go_simp
              exact ⟨Ext.refl _, rfl⟩
            refine lx_e (.slice (some ⟨g1, 0, none⟩) N gc) [] (by kernel_rfl) rfl (by rfl) (fun w1 hw1 => ?_) ?_
            · simp only [pk, lexVals]
              go_simp
              exact ⟨Ext.refl _, rfl⟩
            refine lx_e (.int .i64 (N : Int)) [(0, 59)] (by kernel_rfl) rfl (by rfl) (fun w1 hw1 => ?_) ?_
            · simp only [pk, nthSp, lexVals]
              go_simp
              exact ⟨Ext.refl _, rfl⟩
            refine lx_e (.bool false) [(2, 58), (0, 60)] (by kernel_rfl) rfl (by rfl) (fun w1 hw1 => ?_) ?_
            · simp only [pk, nthSp, lexVals]
              have x9 : ¬ (N : Int) ≤ (kk : Int) := by have := Hk2.out; omega
              clear hw1
              go_simp
              exact ⟨Ext.refl _, by first | rfl | (simp [x9]; done) | (show Value.bool (decide ((N : Int) ≤ (kk : Int))) = .bool false; rw [decide_eq_false x9])⟩
            refine lx_e (.bool false) [(0, 61)] (by kernel_rfl) rfl (by rfl) (fun w1 hw1 => ?_) ?_
            · simp only [pk, nthSp, lexVals]
              go_simp
              exact ⟨Ext.refl _, rfl⟩
            refine lx_ge (.slice (some ⟨g1, 0, none⟩) N gc) [(0, 62)] 62 (by kernel_rfl) rfl (by kernel_rfl) (by rfl) (fun w1 => ?_) (fun w1 hw1 => ?_) ?_
            · simp only [pk, nthSp, lexVals]
              rfl
            · simp only [pk, nthSp, lexVals]
              go_simp
              exact ⟨Ext.refl _, rfl⟩
            refine lx_ge (.int .i64 (kk : Int)) [(1, 62)] 62 (by kernel_rfl) rfl (by kernel_rfl) (by rfl) (fun w1 => ?_) (fun w1 hw1 => ?_) ?_
            · simp only [pk, nthSp, lexVals]
              rfl
            · simp only [pk, nthSp, lexVals]
              go_simp
              exact ⟨Ext.refl _, rfl⟩
            refine lx_ge (.pointer (some ⟨g1, 0 + kk * 146, none⟩)) [(1, 63), (0, 64), (2, 62)] 62 (by kernel_rfl) rfl (by kernel_rfl) (by rfl) (fun w1 => ?_) (fun w1 hw1 => ?_) ?_
            · simp only [pk, nthSp, lexVals]
              rfl
            · simp only [pk, nthSp, lexVals]
              exact lu_iidx rfl rfl rfl hk2
            refine lx_ge (.agg PV) [(0, 65), (3, 62)] 62 (by kernel_rfl) rfl (by kernel_rfl) (by rfl) (fun w1 => ?_) (fun w1 hw1 => ?_) ?_
            · simp only [pk, nthSp, lexVals]
              rfl
            · simp only [pk, nthSp, lexVals]
              exact lu_mid rfl rfl (itL p) (HX1.out w1 (HY.out w1 hw1).1) Try.underlying41 rfl (by rw [itL_length]; kernel_rfl) PV HPa.out
            refine lx_ge (.agg J) [(4, 62)] 62 (by kernel_rfl) rfl (by kernel_rfl) (by rfl) (fun w1 => ?_) (fun w1 hw1 => ?_) ?_
            · simp only [pk, nthSp, lexVals]
              rfl
            · simp only [pk, nthSp, lexVals]
              exact lu_row rfl rfl (HT6.out w1 (HY.out w1 hw1).2) Try.underlying41 rfl (by rw [HTs.out.1]; kernel_rfl)
            refine lx_ge (.bool true) [(1, 66), (0, 67), (5, 62)] 62 (by kernel_rfl) rfl (by kernel_rfl) (by rfl) (fun w1 => ?_) (fun w1 hw1 => ?_) ?_
            · simp only [pk, nthSp, lexVals]
              rfl
            · simp only [pk, nthSp, lexVals]
              have HM := Lib.hid (HSm.out w1 (HY.out w1 hw1).1 (HY.out w1 hw1).2)
              clear hw1
              go_simp
              refine HM.out.mono ?_
              rintro e w9 ⟨rfl, hE9⟩
              exact ⟨_, rfl, hE9, rfl⟩
            refine lx_ge (.bool false) [(0, 68), (6, 62)] 62 (by kernel_rfl) rfl (by kernel_rfl) (by rfl) (fun w1 => ?_) (fun w1 hw1 => ?_) ?_
            · simp only [pk, nthSp, lexVals]
              rfl
            · simp only [pk, nthSp, lexVals]
              clear hw1
              go_simp
              exact ⟨Ext.refl _, by first | rfl | simp | (simp; omega)⟩
            refine lx_e (.bool false) [(7, 62), (0, 69)] (by kernel_rfl) rfl (by rfl) (fun w1 hw1 => ?_) ?_
            · simp only [pk, nthSp, lexVals]
              go_simp
              exact ⟨Ext.refl _, rfl⟩
            refine lx_stopA (by rfl) fun v4 hv4 => ?_
            have HZ4 := Lib.hid (HY.out v4 hv4).1
            clear hv4
            simp only [rv, pf, lexVals]
            simp only [Act.put, List.setIfInBounds_toArray, List.set_cons_zero, List.set_cons_succ]
            go_wp2
            go_roundw
            case rel => exact ⟨j + 1, kk + 1, by omega, Hk1.out, by go_num, by go_num, HZ4.out⟩
            case measure => simp [intOf]; omega
        · obtain rfl : j = m := by omega
          have x2 : ¬ (j : Int) < (j : Int) := by omega
          obtain rfl : kk = N := by rw [← Hkk.out, HNm.out]
          go_wp2
          go_ret
          exact ⟨rfl, HE2.out.trans (HEy.out.trans HEz.out)⟩

end Go.Proofs.Ytldaligeckjhaaa
