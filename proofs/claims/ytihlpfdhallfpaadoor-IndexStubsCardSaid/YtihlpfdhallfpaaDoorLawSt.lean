/-
  THE WALK OF THE STATEMENT IndexStubs: of one cursor, whatever is wished, the same headers come; with their bodies just where they meet the wish. Asked: the two tables.
-/
import Derived.Test.YtihlpfdhallfpaaDoorBatP
import Derived.Test.YtihlpfdhallfpaaDoorPiOne
namespace Go.Proofs.YtihlpfdhallfpaaDoor
open Go.ChangeShapes Go.WideShapes Go.ChangeAt Go.RowKit

theorem wholeB_eq {p q : Pc} (h : PcEq p q) : wholeB p = wholeB q := by
  unfold wholeB
  rw [h.bd, h.hd.size]
  congr 1
  unfold arrB
  exact decide_eq_decide.2 ⟨fun k j hj => (k j hj).trans (h.hd.sum j hj), fun k j hj => (k j hj).trans (h.hd.sum j hj).symm⟩
theorem cutP_all (p : Pc) : cutP true [] p = p := by
  unfold cutP meetsB
  simp
theorem isGot_eq {S : Nat → CSt} {q : Nat × Nat} {p p' : Pc} (h : IsGot S q p) (k : IsGot S q p') : PcEq p p' := by
  obtain ⟨a', c', a, c, rfl⟩ := h
  obtain ⟨b', d', b, d, rfl⟩ := k
  exact ⟨rfl, (reT_eq _ a' c').trans (reT_eq _ b' d').symm⟩
theorem isGot_len {w y : World} {gx : Nat} {G : Nat → Nat} {S : Nat → CSt} {gr : Nat} {R : Nat → Option Addr × Nat} {L : Nat → List Pc} {cnt : Nat} (hM : XMem w y gx G S gr R L cnt) {q : Nat × Nat} (hq1 : q.1 < 6) (hq2 : q.2 < (S q.1).l.length) {p : Pc} (h : IsGot S q p) : p.hd.2.length = p.hd.1.tn := by
  obtain ⟨a', c', a, c, rfl⟩ := h
  exact ((hM.ix.ch q.1 hq1).each _ (getD_mem htN hq2)).toks.len
/-- Two batches of one cursor, piece by piece. -/
theorem stubs_eq {w y : World} {gx : Nat} {G : Nat → Nat} {S : Nat → CSt} {gr : Nat} {R : Nat → Option Addr × Nat} {L : Nat → List Pc} {cnt : Nat} (hM : XMem w y gx G S gr R L cnt) (hR : XRel S L cnt) {cu : Nat → Nat} {al : Bool} {ts : List (Nat → Int)} {T : Nat} {ps qs : List Pc}
    (h2 : ∀ j, j < ((allB (lenS S) cu).take T).length → CutIs S al ts (((allB (lenS S) cu).take T).getD j (0, 0)) (ps.getD j pcZ)) (k2 : ∀ j, j < ((allB (lenS S) cu).take T).length → CutIs S true [] (((allB (lenS S) cu).take T).getD j (0, 0)) (qs.getD j pcZ)) :
    ∀ j, j < ((allB (lenS S) cu).take T).length → wholeB (qs.getD j pcZ) = true ∧ PcEq (ps.getD j pcZ) (cutP al ts (qs.getD j pcZ)) := by
  intro j hj
  obtain ⟨p0, hg, hc⟩ := h2 j hj
  obtain ⟨q0, kg, kc⟩ := k2 j hj
  obtain ⟨q, hq⟩ : ∃ z, ((allB (lenS S) cu).take T).getD j (0, 0) = z := ⟨_, rfl⟩
  rw [hq] at hg kg
  have hm : q ∈ allB (lenS S) cu := List.mem_of_mem_take (by rw [← hq]; exact getD_mem _ hj)
  obtain ⟨hq1, hq2⟩ := allB_mem hm
  have hq3 : q.2 < (L q.1).length := by rw [← hR.ll q.1 hq1]; exact hq2
  rw [hc, kc, cutP_all]
  exact ⟨by rw [wholeB_eq (got_eq hR hq1 hq3 kg)]; exact (hR.good q.1 hq1 q.2 hq3).1, cut_eq (isGot_eq hg kg) (isGot_len hM hq1 hq2 hg) (isGot_len hM hq1 hq2 kg) al ts⟩
theorem getD_n {l : List Pc} {j : Nat} (h : j < l.length) : l.getD j pcN = l.getD j pcZ := by
  rw [List.getD_eq_getElem?_getD, List.getD_eq_getElem?_getD, List.getElem?_eq_getElem h]
  rfl
set_option maxRecDepth 100000 in
theorem build_vec0 (w : World) : (Instr.build 48 #[]).run Tryd.prog w = .ok (.agg (curV fun _ => 0)) w := by kernel_rfl
set_option maxRecDepth 100000 in
theorem build_wiA (w : World) : (Instr.build 58 #[(0, .bool true)]).run Tryd.prog w = .ok (.agg (fltV true (.slice none 0 0))) w := by kernel_rfl
theorem wp_build_vec0 {ops : Array Oper} {Q : Exit → Act → World → Prop} {rest : List Oper} {o : Oper} {a : Act} {w : World} (hw : Region.wanted o (yielded ops a.tmps) = true) (ho : o.op = .build 48 #[]) (A : Array Value) (hA : (curV fun _ => 0) = A)
    (h : wpList Tryd.prog ops Q rest (a.put o.dst (.agg A)) w) : wpList Tryd.prog ops Q (o :: rest) a w := by
  subst hA
  refine wpList_want hw fun K hK => ?_
  unfold Oper.wp execOp
  simp only [ho, List.map_toArray, List.map_nil, Sem.run_bind, build_vec0, Result.andThen_ok, Sem.run_pure]
  exact hK _ _ h
theorem wp_build_wiA {ops : Array Oper} {Q : Exit → Act → World → Prop} {rest : List Oper} {o : Oper} {a : Act} {w : World} (hw : Region.wanted o (yielded ops a.tmps) = true) (ho : o.op = .build 58 #[(0, .const (.bool true))]) (A : Array Value) (hA : fltV true (.slice none 0 0) = A)
    (h : wpList Tryd.prog ops Q rest (a.put o.dst (.agg A)) w) : wpList Tryd.prog ops Q (o :: rest) a w := by
  subst hA
  refine wpList_want hw fun K hK => ?_
  unfold Oper.wp execOp
  simp only [ho, List.map_toArray, List.map_cons, List.map_nil, Act.eval, Sem.run_bind, build_wiA, Result.andThen_ok, Sem.run_pure]
  exact hK _ _ h
theorem ts_nil (w : World) : TsAt w none 0 0 [] := ⟨rfl, Nat.le_refl _, by omega, by omega, (fun t ht => by cases ht), (fun h => absurd h (Nat.lt_irrefl 0)), fun _ => rfl⟩
theorem wp_pidxS {ops : Array Oper} {Q : Exit → Act → World → Prop} {rest : List Oper} {o : Oper} {a : Act} {w : World} (hw : Region.wanted o (yielded ops a.tmps) = true) (x y : Operand) (ho : o.op = .indexAddr 24 x y)
    (b off n c k : Nat) (hx : a.eval x = .slice (some ⟨b, off, none⟩) n c) (hy : a.eval y = .int .i64 (k : Int)) (hk : k < n)
    (h : wpList Tryd.prog ops Q rest (a.put o.dst (.pointer (some ⟨b, off + k * 126, none⟩))) w) : wpList Tryd.prog ops Q (o :: rest) a w := by
  refine wpList_want hw fun K hK => ?_
  have hr : (Instr.indexAt 24 (.slice (some ⟨b, off, none⟩) n c) (.int .i64 (k : Int))).run Tryd.prog w = .ok (.pointer (some ⟨b, off + k * 126, none⟩)) w := by
    have hb : (0 : Int) ≤ (k : Int) ∧ (k : Int) < (n : Int) := by omega
    simp only [Instr.indexAt, asIntOf, Sem.run_bind, Sem.run_pure, Result.andThen_ok, run_underlying Tryd.underlying24, hb, and_self, if_true, size_pcR, Int.toNat_natCast, add_none]
  unfold Oper.wp execOp
  simp only [ho, hx, hy, Sem.run_bind, hr, Result.andThen_ok, Sem.run_pure]
  exact hK _ _ h
theorem lu_pidxS {w : World} {o : Oper} {ev : Operand → Value} {x y : Operand} {b off n c k : Nat} (ho : o.op = .indexAddr 24 x y) (hx : ev x = .slice (some ⟨b, off, none⟩) n c) (hy : ev y = .int .i64 (k : Int)) (hk : k < n) :
    lexUpon Tryd.prog w (.ex (.pointer (some ⟨b, off + k * 126, none⟩))) ((execOp ev o).run Tryd.prog w) := by
  have hr : (Instr.indexAt 24 (.slice (some ⟨b, off, none⟩) n c) (.int .i64 (k : Int))).run Tryd.prog w = .ok (.pointer (some ⟨b, off + k * 126, none⟩)) w := by
    have hb : (0 : Int) ≤ (k : Int) ∧ (k : Int) < (n : Int) := by omega
    simp only [Instr.indexAt, asIntOf, Sem.run_bind, Sem.run_pure, Result.andThen_ok, run_underlying Tryd.underlying24, hb, and_self, if_true, size_pcR, Int.toNat_natCast, add_none]
  simp only [execOp, ho, hx, hy, Sem.run_bind, hr, Result.andThen_ok, Sem.run_pure]
  exact ⟨Ext.refl _, rfl⟩
theorem pis_rg {w : World} {b off n c : Nat} {l : List Pc} (h : PisAt w (some ⟨b, off, none⟩) n c l) (k : Nat) (hk : k < n) : w.rangeAt b (off + k * 126) (pcL (l.getD k pcN)) := pis_rp h k hk
/-- One piece of a row of pieces as a slice. -/
def OneV (p : Pc) (u : Value) (w : World) : Prop := ∃ a c, u = .slice a 1 c ∧ PisAt w a 1 c [p]
theorem OneV.ext {p : Pc} {u : Value} {w w' : World} (he : Ext w w') (h : OneV p u w) : OneV p u w' := by
  obtain ⟨a, c, h1, h2⟩ := h
  exact ⟨a, c, h1, h2.ext he⟩
set_option maxRecDepth 100000 in
theorem lu_build_pc1 {w : World} {o : Oper} {ev : Operand → Value} {x : Operand} (ho : o.op = .buildSlice 24 1 #[(0, x)]) (p : Pc) (hx : ev x = .agg (pcV p)) (hp : PcAt w p) : lexUpon Tryd.prog w (.ab (OneV p)) ((execOp ev o).run Tryd.prog w) := by
  simp only [execOp, ho, List.map_toArray, List.map_cons, List.map_nil, hx, Sem.run_bind, build_pc1, Result.andThen_ok, Sem.run_pure]
  have hE : Ext w (w.alloc (.cells (pcV p) 37)) := (Ext.refl w).alloc _
  exact ⟨hE, _, _, rfl, pis_one (heap_new w _ _ rfl) (hp.ext hE)⟩

set_option maxHeartbeats 8000000 in
set_option maxRecDepth 100000 in
theorem lawSt_any (a : Option Addr) (n c : Nat) (l : List Pc) (ra : Option Addr) (rn rc : Nat) (rs : List Int) (al : Bool) (ta : Option Addr) (tn tc : Nat) (ts : List (Nat → Int)) (w : World) (h : PisR w a n c l) (hb : BsAt w ra rn rc rs) (hts : TsAt w ta tn tc ts) (hk : KsAt 1 w) (hkw : KsAt 0 w) :
    Calls Tryd.prog 5 #[.slice a n c, .slice ra rn rc, .agg (fltV al (.slice ta tn tc))] w fun e w' => e = .returned (.bool true) ∧ Ext w w' := by
  obtain ⟨FV, hFV⟩ : ∃ z, fltV al (.slice ta tn tc) = z := ⟨_, rfl⟩
  have HFs := Lib.hid (show FV.size = 2 by rw [← hFV]; rfl)
  obtain ⟨w1, hw1⟩ : ∃ z, w.alloc (.cells FV 58) = z := ⟨_, rfl⟩
  have hE1 : Ext w w1 := by rw [← hw1]; exact (Ext.refl w).alloc _
  obtain ⟨g, hg⟩ : ∃ z, w.heap.size = z := ⟨_, rfl⟩
  have hB1 : w1.heap[g]? = some (.cells FV 58 (0, 0)) := by rw [← hw1]; exact heap_new w _ _ hg.symm
  have HCl := Lib.hid (show ∀ z, Ext w1 z → z.heap[g]? = some (.cells FV 58 (0, 0)) ∧ z.cell? ⟨g, 1, none⟩ = some (.slice ta tn tc) from fun z hz => ⟨hz.keep hB1, (flt_cell (by rw [hFV]; exact hz.keep hB1)).2⟩)
  have H := Lib.hid (show ∀ x, Ext w1 x → PisR x a n c l from fun x hx => h.ext (hE1.trans hx))
  have HB := Lib.hid (show ∀ x, Ext w1 x → BsAt x ra rn rc rs from fun x hx => hb.ext (hE1.trans hx))
  have HRg := Lib.hid (show ∀ x, Ext w1 x → KsAt 1 x from fun x hx => hdKs_ext hk (hE1.trans hx))
  have HRw := Lib.hid (show ∀ x, Ext w1 x → KsAt 0 x from fun x hx => hdKs_ext hkw (hE1.trans hx))
  have HAw := Lib.hid (show ∀ x, Ext w1 x → Calls Tryd.prog 9 #[] x fun e w' => e = .returned (.bool true) ∧ Ext x w' from fun x hx => awake20_any x (hdKs_ext hk (hE1.trans hx)) (hdKs_ext hkw (hE1.trans hx)))
  have HTs := Lib.hid (show ∀ x, Ext w1 x → TsAt x ta tn tc ts from fun x hx => hts.ext (hE1.trans hx))
  have HFV := Lib.hid hFV
  have HE1 := Lib.hid hE1
  have Hw1 := Lib.hid hw1
  have Hg := Lib.hid hg
  rw [hFV]
  clear h hb hk hkw hts hE1 hw1 hg hFV hB1
  go_enter Tryd.func5, Tryd.ntmps5
  go_upto_region 1 with (fail)
  refine wp_world (w' := w1) Hw1.out ?_
  rw [Hg.out]
  clear Hw1 Hg
  go_wp2_with fail
  refine (HAw.out w1 (Ext.refl w1)).mono ?_
  rintro e w2 ⟨rfl, hE2⟩
  have HE2 := Lib.hid hE2
  have HFw := Lib.hid (few20_any a n c l 30 w2 (H.out w2 hE2))
  clear hE2
  go_wp2_with fail
  refine HFw.out.mono ?_
  rintro e w3 ⟨v, rfl, ⟨B, rfl, hB⟩, hE⟩
  have HE3 := Lib.hid (HE2.out.trans hE)
  have HBf := Lib.hid hB
  clear hE hB HFw
  cases B with
  | false =>
    go_wp2_with fail
    refine (HAw.out w3 HE3.out).mono ?_
    rintro e w4 ⟨rfl, hE⟩
    have HE4 := Lib.hid (HE3.out.trans hE)
    clear hE
    go_wp2
    go_ret
    exact ⟨rfl, HE1.out.trans HE4.out⟩
  | true =>
    have c1 := (HCl.out w3 HE3.out).2
    by_cases ht : tn ≤ 20
    · have xt : ¬ (20 : Int) < (tn : Int) := by omega
      obtain ⟨hn, htn⟩ := HBf.out rfl
      have hn30 : n ≤ 30 := by omega
      have HP0 := Lib.hid ((H.out w3 HE3.out).full fun j hj => (htn j hj (by omega)).2)
      have HFl := Lib.hid (filled_any a n c l ra rn rc rs w3 HP0.out hn30 (fun j hj => htn j hj (by omega)) (HB.out w3 HE3.out) (HRg.out w3 HE3.out) (HRw.out w3 HE3.out))
      clear hn htn HBf HAw
      go_wp2_with fail
      refine HFl.out.mono ?_
      rintro e w4 ⟨gx, G, S, gr, R, L, cnt, rfl, hM, hR, hcn⟩
      have HM := Lib.hid hM
      have HR := Lib.hid hR
      have Hcn := Lib.hid (show cnt ≤ 400 by omega)
      have HE4 := Lib.hid (HE3.out.trans hM.ext)
      have HMo := Lib.hid (hR.modest (by omega))
      have HEv := Lib.hid hR.even
      have H4 := Lib.hid (xrel_400 hR (show cnt ≤ 400 by omega))
      clear hM hR hcn HFl c1 xt
      have HBa := Lib.hid (show ∀ z, Ext w4 z → Calls Tryd.prog 19 #[.pointer (some ⟨gx, 0, none⟩), .agg (curV fun _ => 0), .agg (fltV al (.slice ta tn tc)), .int .i64 8] z (BatchSays S (fun _ => 0) al ts 8 z) from fun z hz =>
        batch_any HMo.out HEv.out (fun i hi => (H4.out i hi).1) (fun i _ => by show (0 : Nat) < _; omega) al ta tn tc ts 8 (by omega) z (HM.out.ix.ext hz) (HTs.out z (HE4.out.trans hz)))
      have HBb := Lib.hid (show ∀ z, Ext w4 z → Calls Tryd.prog 19 #[.pointer (some ⟨gx, 0, none⟩), .agg (curV fun _ => 0), .agg (fltV true (.slice none 0 0)), .int .i64 8] z (BatchSays S (fun _ => 0) true [] 8 z) from fun z hz =>
        batch_any HMo.out HEv.out (fun i hi => (H4.out i hi).1) (fun i _ => by show (0 : Nat) < _; omega) true none 0 0 [] 8 (by omega) z (HM.out.ix.ext hz) (ts_nil z))
      obtain ⟨CV, hCV⟩ : ∃ z, (curV fun _ => 0) = z := ⟨_, rfl⟩
      obtain ⟨FA, hFA⟩ : ∃ z, fltV true (.slice none 0 0) = z := ⟨_, rfl⟩
      have HCV := Lib.hid hCV
      have HFA := Lib.hid hFA
      rw [hCV, HFV.out] at HBa
      rw [hCV, hFA] at HBb
      clear hCV hFA
      go_upto_region 6 with (fail)
      go_wp2_with (first | (refine wp_build_vec0 rfl rfl CV HCV.out ?_) | (refine wpList_load_rowW rfl 58 (.tmp 5) rfl g rfl _ _ _ _ (HCl.out _ (HE4.out)).1 Tryd.underlying58 rfl (by rw [HFs.out]; kernel_rfl) ?_; simp only [Act.put, List.setIfInBounds_toArray, List.set_cons_zero, List.set_cons_succ]))
      refine (HBa.out w4 (Ext.refl w4)).mono ?_
      rintro e w5 ⟨va, ps, rfl, hE5, ho5, hp5, hl5, hc5⟩
      obtain ⟨pa, pc, hva⟩ := own_pisl ho5
      subst hva
      have HE5 := Lib.hid hE5
      have HO5 := Lib.hid ho5
      have HP5 := Lib.hid hp5
      have HL5 := Lib.hid hl5
      have HC5 := Lib.hid hc5
      obtain ⟨N, hN⟩ : ∃ z, ((allB (lenS S) fun _ => 0).take (min (8 : Int) 8).toNat).length = z := ⟨_, rfl⟩
      rw [hN] at HC5
      have hl5' : ps.length = N := hl5.trans hN
      rw [hl5'] at HO5 ⊢
      have HLp := Lib.hid hl5'
      have HNn := Lib.hid hN
      clear hE5 ho5 hp5 hl5 hc5 hl5' hN HL5
      go_wp2_with (first | (refine wp_build_vec0 rfl rfl CV HCV.out ?_) | (refine wp_build_wiA rfl rfl FA HFA.out ?_))
      refine (HBb.out w5 HE5.out).mono ?_
      rintro e y ⟨vb, qs, rfl, hE6, ho6, hp6, hl6, hc6⟩
      obtain ⟨qa, qc, hvb⟩ := own_pisl ho6
      subst hvb
      have HE6 := Lib.hid hE6
      have HEy := Lib.hid (HE5.out.trans hE6)
      have hl6' : qs.length = N := hl6.trans HNn.out
      rw [hl6'] at ho6 ⊢
      rw [HNn.out] at hc6
      have HSt := Lib.hid (stubs_eq HM.out HR.out (by rw [HNn.out]; exact HC5.out) (by rw [HNn.out]; exact hc6))
      rw [HNn.out] at HSt
      have hN8 : N ≤ 8 := by
        rw [← HNn.out, List.length_take]
        omega
      have HPa := Lib.hid ((own_pis HO5.out HP5.out (by omega)).ext hE6)
      have HPb := Lib.hid (own_pis ho6 hp6 (by omega))
      have HLq := Lib.hid hl6'
      have HOb := Lib.hid ho6
      have HOa := Lib.hid HO5.out
      clear hE6 ho6 hp6 hl6 hc6 hl6' HC5 HO5 HP5
      go_upto_region 9 with (fail)
      go_wp2_with fail
      go_loopw [12] (fun iv z => ∃ j : Nat, j ≤ N ∧ iv = .int .i64 (j : Int) ∧ Ext y z) (fun iv _ => N - (intOf iv).toNat)
      case atStart => exact ⟨0, Nat.zero_le _, rfl, Ext.refl y⟩
      case round =>
        obtain ⟨j, hj, rfl, hE⟩ := hrel
        rename World => z
        have HEz := Lib.hid hE
        clear hE
        by_cases hjN : j < N
        · have x1 : (j : Int) < (N : Int) := by omega
          obtain ⟨bg, ebg⟩ : ∃ b, qa = some ⟨b, 0, none⟩ := by
            rcases HOb.out.2 with ⟨h1, h2⟩ | ⟨b, cap, cur, h1, _⟩
            · omega
            · simp only [Value.slice.injEq] at h1
              exact ⟨b, h1.1⟩
          obtain ⟨ag, eag⟩ : ∃ b, pa = some ⟨b, 0, none⟩ := by
            rcases HOa.out.2 with ⟨h1, h2⟩ | ⟨b, cap, cur, h1, _⟩
            · omega
            · simp only [Value.slice.injEq] at h1
              exact ⟨b, h1.1⟩
          subst ebg eag
          have hst := HSt.out j hjN
          obtain ⟨q, hq⟩ : ∃ r, qs.getD j pcZ = r := ⟨_, rfl⟩
          obtain ⟨p, hp⟩ : ∃ r, ps.getD j pcZ = r := ⟨_, rfl⟩
          rw [hq, hp] at hst
          have hqn : qs.getD j pcN = q := by rw [getD_n (by rw [HLq.out]; exact hjN)]; exact hq
          have hpn : ps.getD j pcN = p := by rw [getD_n (by rw [HLp.out]; exact hjN)]; exact hp
          have HQa := Lib.hid (show PcAt y q by rw [← hqn]; exact HPb.out.get j hjN)
          have HRq := Lib.hid (show ∀ u, Ext y u → u.rangeAt bg (0 + j * 126) (pcL q) from fun u hu => by
            rw [← hqn]
            exact pis_rg (HPb.out.ext hu) j hjN)
          have HOne := Lib.hid (show ∀ u, Ext y u → OneV p (.slice (some ⟨ag, 0 + j * 126, none⟩) 1 (pc - j)) u from fun u hu => ⟨_, _, rfl, by
            have h1 := (HPa.out.ext hu).one j hjN
            rw [hpn] at h1
            exact h1⟩)
          have HWh := Lib.hid hst.1
          have HEq := Lib.hid hst.2
          obtain ⟨QV, hQV⟩ : ∃ r, pcV q = r := ⟨_, rfl⟩
          have HQV := Lib.hid hQV
          have HQs := Lib.hid (show QV.size = 126 ∧ QV.all (·.oneCell') = true by rw [← hQV]; exact ⟨pcV_size _, pcV_one _⟩)
          have HQr := Lib.hid (show (pcL q).toArray = QV by rw [← hQV]; rfl)
          have hzp := pcZ0
          obtain ⟨ZP, hZP⟩ : ∃ r, pcV pcZ = r := ⟨_, rfl⟩
          have HZs := Lib.hid (show ZP.size = 126 by rw [← hZP]; exact pcV_size _)
          have HRz := Lib.hid (HRq.out z HEz.out)
          have hcq : N ≤ qc := HPb.out.cap
          rw [hZP] at hzp
          clear hst hq hp hqn hpn hQV hZP
          go_upto_region 13 with (first | (refine wp_pidxS rfl (.tmp 56) (.tmp 57) rfl bg 0 N qc j rfl rfl hjN ?_) | (refine wpList_load_mid rfl 37 (.tmp 58) rfl bg _ rfl (pcL q) _ HRz.out Tryd.underlying37 rfl (by rw [pcL_length]; kernel_rfl) ?_; rw [HQr.out]; simp only [Act.put, List.setIfInBounds_toArray, List.set_cons_zero, List.set_cons_succ]) | (refine wpList_store_row rfl 37 _ _ rfl z.heap.size _ rfl rfl _ _ (heap_new z _ _ rfl) (by rw [HQs.out.1]; kernel_rfl) (by rw [HQs.out.1, HZs.out]) HQs.out.2 ?_; rw [setRow_new z _ _ _ _ rfl]))
          obtain ⟨z1, hz1⟩ : ∃ u, z.alloc (.cells QV 37) = u := ⟨_, rfl⟩
          obtain ⟨g1, hg1⟩ : ∃ u, z.heap.size = u := ⟨_, rfl⟩
          have HZ1 := Lib.hid (show Ext y z1 by rw [← hz1]; exact HEz.out.alloc _)
          have HEz1 := Lib.hid (show Ext z z1 by rw [← hz1]; exact (Ext.refl z).alloc _)
          have HB1 := Lib.hid (show z1.heap[g1]? = some (.cells QV 37 (0, 0)) by rw [← hz1]; exact heap_new z _ _ hg1.symm)
          have Hg1 := Lib.hid hg1
          rw [hg1]
          refine wp_world (w' := z1) hz1 ?_
          clear hz1 hg1 hzp
          have HW := Lib.hid (show ∀ u, Ext y u → Ext w1 u from fun u hu => HE4.out.trans (HEy.out.trans hu))
          have HMe := Lib.hid (meets_any al ta tn tc ts q.hd.1 q.hd.2 z1 (HTs.out z1 (HW.out z1 HZ1.out)) (HQa.out.ext HZ1.out).hd.toks)
          rw [HFV.out] at HMe
          obtain ⟨HV, hHV⟩ : ∃ r, hdV q.hd.1 = r := ⟨_, rfl⟩
          have HHa := Lib.hid (show (hdL q.hd.1).toArray = HV by rw [hdL_arr, hHV])
          have HRh := Lib.hid (show z1.rangeAt g1 0 (hdL q.hd.1) from pc_rh (p := q) (by rw [HQV.out]; exact HB1.out))
          rw [hHV] at HMe
          obtain ⟨mb, hmb⟩ : ∃ r, meetsB al ts q.hd.2 q.hd.1.ctl = r := ⟨_, rfl⟩
          have Hmb := Lib.hid hmb
          rw [hmb] at HMe
          clear hHV hmb
          go_wp2_with (first | (refine wpList_load_rowW rfl 58 (.tmp 5) rfl g rfl _ _ _ _ (HCl.out _ (HW.out _ HZ1.out)).1 Tryd.underlying58 rfl (by rw [HFs.out]; kernel_rfl) ?_; simp only [Act.put, List.setIfInBounds_toArray, List.set_cons_zero, List.set_cons_succ]) | (refine wpList_load_mid rfl 34 (.tmp 61) rfl g1 _ rfl (hdL q.hd.1) _ HRh.out Tryd.underlying34 rfl (by rw [hdL_length]; kernel_rfl) ?_; rw [HHa.out]))
          refine HMe.out.mono ?_
          rintro e z2 ⟨rfl, hE7⟩
          have HZ2 := Lib.hid (HZ1.out.trans hE7)
          have HB2 := Lib.hid (hE7.keep HB1.out)
          have HEz2 := Lib.hid (HEz1.out.trans hE7)
          clear hE7 HMe
          obtain ⟨q', hq'⟩ : ∃ r, cutP al ts q = r := ⟨_, rfl⟩
          have Hq' := Lib.hid hq'
          rw [hq'] at HEq
          clear hq'
          obtain ⟨PV', hPV'⟩ : ∃ r, pcV q' = r := ⟨_, rfl⟩
          have HPV' := Lib.hid hPV'
          have HPs' := Lib.hid (show PV'.size = 126 by rw [← hPV']; exact pcV_size _)
          clear hPV'
          cases mb with
          | true =>
            have HCut := Lib.hid (show q' = q by rw [← Hq'.out]; unfold cutP; rw [if_pos Hmb.out])
            have HBz := Lib.hid (show z2.heap[g1]? = some (.cells PV' 37 (0, 0)) by
              rw [← HPV'.out, HCut.out, HQV.out]
              exact HB2.out)
            have hpc : N ≤ pc := HPa.out.cap
            go_upto_region 15 with (fail)
            have HY := Lib.hid (show ∀ u, Ext z2.drew u → Ext z2 u from fun u hu => Ext.trans (Ext.refl z2).drew hu)
            have HYy := Lib.hid (show ∀ u, Ext z2 u → Ext y u from fun u hu => HZ2.out.trans hu)
            have HWq := Lib.hid (show ∀ u, Ext z2 u → Calls Tryd.prog 21 #[.agg QV] u fun e w' => e = .returned (.bool true) ∧ Ext u w' from fun u hu => by
              have h := whole_any q u (HQa.out.ext (HYy.out u hu)) (HRg.out u (HW.out u (HYy.out u hu)))
              rw [HQV.out, HWh.out] at h
              exact h)
            have HQc := Lib.hid (show ∀ u, Ext z2 u → PcAt u q' from fun u hu => by
              rw [← Hq'.out]
              exact cutP_at (HQa.out.ext (HYy.out u hu)) al ts)
            have HSm := Lib.hid (show ∀ (u : World) (v1 v2 : Value), OneV p v1 u → OneV q' v2 u → Calls Tryd.prog 18 #[v1, v2] u fun e w' => e = .returned (.bool true) ∧ Ext u w' from by
              rintro u v1 v2 ⟨a1, d1, rfl, k1⟩ ⟨a2, d2, rfl, k2⟩
              exact refSame_any a1 1 d1 [p] a2 d2 [q'] u k1 k2 fun k hk => by
                obtain rfl : k = 0 := by omega
                exact HEq.out)
            refine wp_region_lexA (by kernel_rfl) (by kernel_rfl) ?_
            refine lx_e (.slice (some ⟨bg, 0, none⟩) N qc) [] (by kernel_rfl) rfl (by rfl) (fun w1 hw1 => ?_) ?_
            · simp only [pk, lexVals]
              go_simp
              exact ⟨Ext.refl _, rfl⟩
            refine lx_e (.int .i64 (j : Int)) [] (by kernel_rfl) rfl (by rfl) (fun w1 hw1 => ?_) ?_
            · simp only [pk, lexVals]
              go_simp
              exact ⟨Ext.refl _, rfl⟩
            refine lx_e (.pointer (some ⟨bg, 0 + j * 126, none⟩)) [(1, 66), (0, 67)] (by kernel_rfl) rfl (by rfl) (fun w1 hw1 => ?_) ?_
            · simp only [pk, nthSp, lexVals]
              exact lu_pidxS rfl rfl rfl hjN
            refine lx_e (.agg QV) [(0, 68)] (by kernel_rfl) rfl (by rfl) (fun w1 hw1 => ?_) ?_
            · simp only [pk, nthSp, lexVals]
              exact lu_midP rfl rfl (pcL q) (HRq.out w1 (HYy.out w1 (HY.out w1 hw1))) Tryd.underlying37 rfl (by rw [pcL_length]; kernel_rfl) QV HQr.out
            refine lx_e (.bool true) [(0, 69)] (by kernel_rfl) rfl (by rfl) (fun w1 hw1 => ?_) ?_
            · simp only [pk, nthSp, lexVals]
              have HC := Lib.hid (HWq.out w1 (HY.out w1 hw1))
              clear hw1
              go_simp
              refine HC.out.mono ?_
              rintro e w9 ⟨rfl, hE9⟩
              exact ⟨_, rfl, hE9, rfl⟩
            refine lx_e (.bool false) [(0, 70)] (by kernel_rfl) rfl (by rfl) (fun w1 hw1 => ?_) ?_
            · simp only [pk, nthSp, lexVals]
              clear hw1
              go_simp
              exact ⟨Ext.refl _, by first | rfl | simp⟩
            refine lx_e (.bool false) [(0, 71)] (by kernel_rfl) rfl (by rfl) (fun w1 hw1 => ?_) ?_
            · simp only [pk, nthSp, lexVals]
              go_simp
              exact ⟨Ext.refl _, rfl⟩
            refine lx_ge (.slice (some ⟨ag, 0, none⟩) N pc) [(0, 72)] 72 (by kernel_rfl) rfl (by kernel_rfl) (by rfl) (fun w1 => ?_) (fun w1 hw1 => ?_) ?_
            · simp only [pk, nthSp, lexVals]
              rfl
            · simp only [pk, nthSp, lexVals]
              go_simp
              exact ⟨Ext.refl _, rfl⟩
            refine lx_ge (.int .i64 (j : Int)) [(1, 72)] 72 (by kernel_rfl) rfl (by kernel_rfl) (by rfl) (fun w1 => ?_) (fun w1 hw1 => ?_) ?_
            · simp only [pk, nthSp, lexVals]
              rfl
            · simp only [pk, nthSp, lexVals]
              go_simp
              exact ⟨Ext.refl _, rfl⟩
            refine lx_ge (.int .i64 (j : Int)) [(2, 72)] 72 (by kernel_rfl) rfl (by kernel_rfl) (by rfl) (fun w1 => ?_) (fun w1 hw1 => ?_) ?_
            · simp only [pk, nthSp, lexVals]
              rfl
            · simp only [pk, nthSp, lexVals]
              go_simp
              exact ⟨Ext.refl _, rfl⟩
            refine lx_ge (.int .i64 ((j : Int) + 1)) [(0, 75), (3, 72)] 72 (by kernel_rfl) rfl (by kernel_rfl) (by rfl) (fun w1 => ?_) (fun w1 hw1 => ?_) ?_
            · simp only [pk, nthSp, lexVals]
              rfl
            · simp only [pk, nthSp, lexVals]
              clear hw1
              go_simp
              exact ⟨Ext.refl _, by first | rfl | (show Value.int .i64 _ = Value.int .i64 _; congr 1; first | omega | (rw [IntKind.wrap_i64]; omega))⟩
            refine lx_ga (OneV p) [(3, 73), (2, 74), (0, 76), (4, 72)] 72 (by kernel_rfl) rfl (by kernel_rfl) (by rfl) (fun u z z' he h => OneV.ext he h) (fun w1 => ?_) (fun w1 hw1 => ?_) ?_
            · simp only [pk, nthSp, lexVals]
              rfl
            · simp only [pk, nthSp, lexVals]
              exact lu_oneP rfl rfl rfl rfl hjN hpc (HOne.out w1 (HYy.out w1 (HY.out w1 hw1)))
            refine lx_ge (.agg PV') [(5, 72)] 72 (by kernel_rfl) rfl (by kernel_rfl) (by rfl) (fun w1 => ?_) (fun w1 hw1 => ?_) ?_
            · simp only [pk, nthSp, lexVals]
              rfl
            · simp only [pk, nthSp, lexVals]
              exact lu_row rfl rfl ((HY.out w1 hw1).keep HBz.out) Tryd.underlying37 rfl (by rw [HPs'.out]; kernel_rfl)
            refine lx_ga (OneV q') [(0, 78), (6, 72)] 72 (by kernel_rfl) rfl (by kernel_rfl) (by rfl) (fun u z z' he h => OneV.ext he h) (fun w1 => ?_) (fun w1 hw1 => ?_) ?_
            · simp only [pk, nthSp, lexVals]
              rfl
            · simp only [pk, nthSp, lexVals]
              exact lu_build_pc1 rfl q' (by rw [HPV'.out]; rfl) (HQc.out w1 (HY.out w1 hw1))
            refine lx_ge (.bool true) [(2, 77), (0, 79), (7, 72)] 72 (by kernel_rfl) rfl (by kernel_rfl) (by rfl) (fun w1 => ?_) (fun w1 hw1 => ?_) ?_
            · simp only [pk, nthSp, lexVals]
              rintro u77 h77
              rintro u79 h79
              rfl
            · simp only [pk, nthSp, lexVals]
              rintro u77 h77
              rintro u79 h79
              have HC := Lib.hid (HSm.out w1 u77 u79 h77 h79)
              clear hw1
              go_simp
              refine HC.out.mono ?_
              rintro e w9 ⟨rfl, hE9⟩
              exact ⟨_, rfl, hE9, rfl⟩
            refine lx_ge (.bool false) [(0, 80), (8, 72)] 72 (by kernel_rfl) rfl (by kernel_rfl) (by rfl) (fun w1 => ?_) (fun w1 hw1 => ?_) ?_
            · simp only [pk, nthSp, lexVals]
              rfl
            · simp only [pk, nthSp, lexVals]
              clear hw1
              go_simp
              exact ⟨Ext.refl _, by first | rfl | simp⟩
            refine lx_e (.bool false) [(9, 72), (0, 81)] (by kernel_rfl) rfl (by rfl) (fun w1 hw1 => ?_) ?_
            · simp only [pk, nthSp, lexVals]
              go_simp
              exact ⟨Ext.refl _, rfl⟩
            refine lx_stopA (by rfl) fun u hu => ?_
            have HF := Lib.hid (HYy.out u (HY.out u hu))
            clear hu HY
            simp only [rv, pf, lexVals]
            rintro v77 - v79 -
            simp only [Act.put, List.setIfInBounds_toArray, List.set_cons_zero, List.set_cons_succ]
            go_wp2_with fail
            go_roundw
            case rel => exact ⟨j + 1, by omega, by go_num, HF.out⟩
            case measure => simp [intOf]; omega
          | false =>
            have HCut := Lib.hid (show q' = ⟨q.hd, none, 0, []⟩ by rw [← Hq'.out]; unfold cutP; rw [if_neg (by rw [Hmb.out]; exact Bool.false_ne_true)])
            have HR5 := Lib.hid (rowIs_of (f := pcC q) (show z2.heap[g1]? = some (.cells (rowArr 126 (pcC q)) 37 (0, 0)) by rw [show rowArr 126 (pcC q) = QV from HQV.out]; exact HB2.out))
            have x125 := HR5.out.cell (i := 125) (by omega)
            have f125 := HR5.out.frozen 125
            have hpc : N ≤ pc := HPa.out.cap
            go_upto_region 15 with (fail)
            have hg6 : z2.grownBy (z2.setCell ⟨g1, 125, none⟩ (.slice none 0 0)) (some g1) := grown_setCell (World.grownBy.refl z2 _) rfl _
            have HB3 := Lib.hid (show (z2.setCell ⟨g1, 125, none⟩ (.slice none 0 0)).heap[g1]? = some (.cells PV' 37 (0, 0)) from by
              rw [← HPV'.out, HCut.out]
              exact rowIs_cells ((HR5.out.set 125 (.slice none 0 0)).congr (g := pcC ⟨q.hd, none, 0, []⟩) fun j hj => by
                unfold pcC
                by_cases e : j = 125
                · rw [if_pos e, if_neg (by omega)]
                  rfl
                · rw [if_neg e, if_pos (by omega), if_pos (by omega)]))
            have HZ3 := Lib.hid (show Ext y (z2.setCell ⟨g1, 125, none⟩ (.slice none 0 0)) from Below.trans HZ2.out ((Below.refl y.heap.size z2).grown hg6 (Below.size HZ2.out) (fun b e => by
              cases e
              have h1 := Hg1.out
              have h2 := Below.size HEz.out
              omega)))
            obtain ⟨z3, hz3⟩ : ∃ x, z2.setCell ⟨g1, 125, none⟩ (.slice none 0 0) = x := ⟨_, rfl⟩
            rw [hz3] at HB3 HZ3
            refine wp_world (w' := z3) hz3 ?_
            clear hz3 hg6 x125 f125 HR5
            go_upto_region 15 with (fail)
            have HY := Lib.hid (show ∀ u, Ext z3.drew u → Ext z3 u from fun u hu => Ext.trans (Ext.refl z3).drew hu)
            have HYy := Lib.hid (show ∀ u, Ext z3 u → Ext y u from fun u hu => HZ3.out.trans hu)
            have HWq := Lib.hid (show ∀ u, Ext z3 u → Calls Tryd.prog 21 #[.agg QV] u fun e w' => e = .returned (.bool true) ∧ Ext u w' from fun u hu => by
              have h := whole_any q u (HQa.out.ext (HYy.out u hu)) (HRg.out u (HW.out u (HYy.out u hu)))
              rw [HQV.out, HWh.out] at h
              exact h)
            have HQc := Lib.hid (show ∀ u, Ext z3 u → PcAt u q' from fun u hu => by
              rw [← Hq'.out]
              exact cutP_at (HQa.out.ext (HYy.out u hu)) al ts)
            have HSm := Lib.hid (show ∀ (u : World) (v1 v2 : Value), OneV p v1 u → OneV q' v2 u → Calls Tryd.prog 18 #[v1, v2] u fun e w' => e = .returned (.bool true) ∧ Ext u w' from by
              rintro u v1 v2 ⟨a1, d1, rfl, k1⟩ ⟨a2, d2, rfl, k2⟩
              exact refSame_any a1 1 d1 [p] a2 d2 [q'] u k1 k2 fun k hk => by
                obtain rfl : k = 0 := by omega
                exact HEq.out)
            refine wp_region_lexA (by kernel_rfl) (by kernel_rfl) ?_
            refine lx_e (.slice (some ⟨bg, 0, none⟩) N qc) [] (by kernel_rfl) rfl (by rfl) (fun w1 hw1 => ?_) ?_
            · simp only [pk, lexVals]
              go_simp
              exact ⟨Ext.refl _, rfl⟩
            refine lx_e (.int .i64 (j : Int)) [] (by kernel_rfl) rfl (by rfl) (fun w1 hw1 => ?_) ?_
            · simp only [pk, lexVals]
              go_simp
              exact ⟨Ext.refl _, rfl⟩
            refine lx_e (.pointer (some ⟨bg, 0 + j * 126, none⟩)) [(1, 66), (0, 67)] (by kernel_rfl) rfl (by rfl) (fun w1 hw1 => ?_) ?_
            · simp only [pk, nthSp, lexVals]
              exact lu_pidxS rfl rfl rfl hjN
            refine lx_e (.agg QV) [(0, 68)] (by kernel_rfl) rfl (by rfl) (fun w1 hw1 => ?_) ?_
            · simp only [pk, nthSp, lexVals]
              exact lu_midP rfl rfl (pcL q) (HRq.out w1 (HYy.out w1 (HY.out w1 hw1))) Tryd.underlying37 rfl (by rw [pcL_length]; kernel_rfl) QV HQr.out
            refine lx_e (.bool true) [(0, 69)] (by kernel_rfl) rfl (by rfl) (fun w1 hw1 => ?_) ?_
            · simp only [pk, nthSp, lexVals]
              have HC := Lib.hid (HWq.out w1 (HY.out w1 hw1))
              clear hw1
              go_simp
              refine HC.out.mono ?_
              rintro e w9 ⟨rfl, hE9⟩
              exact ⟨_, rfl, hE9, rfl⟩
            refine lx_e (.bool false) [(0, 70)] (by kernel_rfl) rfl (by rfl) (fun w1 hw1 => ?_) ?_
            · simp only [pk, nthSp, lexVals]
              clear hw1
              go_simp
              exact ⟨Ext.refl _, by first | rfl | simp⟩
            refine lx_e (.bool false) [(0, 71)] (by kernel_rfl) rfl (by rfl) (fun w1 hw1 => ?_) ?_
            · simp only [pk, nthSp, lexVals]
              go_simp
              exact ⟨Ext.refl _, rfl⟩
            refine lx_ge (.slice (some ⟨ag, 0, none⟩) N pc) [(0, 72)] 72 (by kernel_rfl) rfl (by kernel_rfl) (by rfl) (fun w1 => ?_) (fun w1 hw1 => ?_) ?_
            · simp only [pk, nthSp, lexVals]
              rfl
            · simp only [pk, nthSp, lexVals]
              go_simp
              exact ⟨Ext.refl _, rfl⟩
            refine lx_ge (.int .i64 (j : Int)) [(1, 72)] 72 (by kernel_rfl) rfl (by kernel_rfl) (by rfl) (fun w1 => ?_) (fun w1 hw1 => ?_) ?_
            · simp only [pk, nthSp, lexVals]
              rfl
            · simp only [pk, nthSp, lexVals]
              go_simp
              exact ⟨Ext.refl _, rfl⟩
            refine lx_ge (.int .i64 (j : Int)) [(2, 72)] 72 (by kernel_rfl) rfl (by kernel_rfl) (by rfl) (fun w1 => ?_) (fun w1 hw1 => ?_) ?_
            · simp only [pk, nthSp, lexVals]
              rfl
            · simp only [pk, nthSp, lexVals]
              go_simp
              exact ⟨Ext.refl _, rfl⟩
            refine lx_ge (.int .i64 ((j : Int) + 1)) [(0, 75), (3, 72)] 72 (by kernel_rfl) rfl (by kernel_rfl) (by rfl) (fun w1 => ?_) (fun w1 hw1 => ?_) ?_
            · simp only [pk, nthSp, lexVals]
              rfl
            · simp only [pk, nthSp, lexVals]
              clear hw1
              go_simp
              exact ⟨Ext.refl _, by first | rfl | (show Value.int .i64 _ = Value.int .i64 _; congr 1; first | omega | (rw [IntKind.wrap_i64]; omega))⟩
            refine lx_ga (OneV p) [(3, 73), (2, 74), (0, 76), (4, 72)] 72 (by kernel_rfl) rfl (by kernel_rfl) (by rfl) (fun u z z' he h => OneV.ext he h) (fun w1 => ?_) (fun w1 hw1 => ?_) ?_
            · simp only [pk, nthSp, lexVals]
              rfl
            · simp only [pk, nthSp, lexVals]
              exact lu_oneP rfl rfl rfl rfl hjN hpc (HOne.out w1 (HYy.out w1 (HY.out w1 hw1)))
            refine lx_ge (.agg PV') [(5, 72)] 72 (by kernel_rfl) rfl (by kernel_rfl) (by rfl) (fun w1 => ?_) (fun w1 hw1 => ?_) ?_
            · simp only [pk, nthSp, lexVals]
              rfl
            · simp only [pk, nthSp, lexVals]
              exact lu_row rfl rfl ((HY.out w1 hw1).keep HB3.out) Tryd.underlying37 rfl (by rw [HPs'.out]; kernel_rfl)
            refine lx_ga (OneV q') [(0, 78), (6, 72)] 72 (by kernel_rfl) rfl (by kernel_rfl) (by rfl) (fun u z z' he h => OneV.ext he h) (fun w1 => ?_) (fun w1 hw1 => ?_) ?_
            · simp only [pk, nthSp, lexVals]
              rfl
            · simp only [pk, nthSp, lexVals]
              exact lu_build_pc1 rfl q' (by rw [HPV'.out]; rfl) (HQc.out w1 (HY.out w1 hw1))
            refine lx_ge (.bool true) [(2, 77), (0, 79), (7, 72)] 72 (by kernel_rfl) rfl (by kernel_rfl) (by rfl) (fun w1 => ?_) (fun w1 hw1 => ?_) ?_
            · simp only [pk, nthSp, lexVals]
              rintro u77 h77
              rintro u79 h79
              rfl
            · simp only [pk, nthSp, lexVals]
              rintro u77 h77
              rintro u79 h79
              have HC := Lib.hid (HSm.out w1 u77 u79 h77 h79)
              clear hw1
              go_simp
              refine HC.out.mono ?_
              rintro e w9 ⟨rfl, hE9⟩
              exact ⟨_, rfl, hE9, rfl⟩
            refine lx_ge (.bool false) [(0, 80), (8, 72)] 72 (by kernel_rfl) rfl (by kernel_rfl) (by rfl) (fun w1 => ?_) (fun w1 hw1 => ?_) ?_
            · simp only [pk, nthSp, lexVals]
              rfl
            · simp only [pk, nthSp, lexVals]
              clear hw1
              go_simp
              exact ⟨Ext.refl _, by first | rfl | simp⟩
            refine lx_e (.bool false) [(9, 72), (0, 81)] (by kernel_rfl) rfl (by rfl) (fun w1 hw1 => ?_) ?_
            · simp only [pk, nthSp, lexVals]
              go_simp
              exact ⟨Ext.refl _, rfl⟩
            refine lx_stopA (by rfl) fun u hu => ?_
            have HF := Lib.hid (HYy.out u (HY.out u hu))
            clear hu HY
            simp only [rv, pf, lexVals]
            rintro v77 - v79 -
            simp only [Act.put, List.setIfInBounds_toArray, List.set_cons_zero, List.set_cons_succ]
            go_wp2_with fail
            go_roundw
            case rel => exact ⟨j + 1, by omega, by go_num, HF.out⟩
            case measure => simp [intOf]; omega
        · obtain rfl : j = N := by omega
          have x1 : ¬ (j : Int) < (j : Int) := by omega
          go_wp2_with fail
          go_ret
          exact ⟨rfl, HE1.out.trans (HE4.out.trans (HEy.out.trans HEz.out))⟩
    · have xt : (20 : Int) < (tn : Int) := by omega
      go_wp2_with fail
      refine (HAw.out w3 HE3.out).mono ?_
      rintro e w4 ⟨rfl, hE⟩
      have HE4 := Lib.hid (HE3.out.trans hE)
      clear hE
      go_wp2
      go_ret
      exact ⟨rfl, HE1.out.trans HE4.out⟩

end Go.Proofs.YtihlpfdhallfpaaDoor
