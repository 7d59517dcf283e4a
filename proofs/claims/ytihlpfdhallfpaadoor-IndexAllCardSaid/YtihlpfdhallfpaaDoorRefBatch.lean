/-
  The walk of the reference index's Batch: the first pieces behind a cursor, cut as a wish has it. Asked: at most 400 pieces of each writer.
-/
import Derived.Test.YtihlpfdhallfpaaDoorBatch
import Derived.Test.YtihlpfdhallfpaaDoorRxP
import Derived.BigQuiet
import Derived.Deep.QuietTactic
namespace Go.Proofs.YtihlpfdhallfpaaDoor
open Go.ChangeShapes Go.WideShapes Go.ChangeAt Go.RowKit

theorem takeX {α : Type} {s : List α} {T : Nat} (h : T ≤ (s.take T).length) (r : List α) : (s ++ r).take T = s.take T := by
  rw [List.length_take] at h
  rw [List.take_append_of_le_length (by omega)]
theorem takeY {α : Type} {s : List α} {T : Nat} (h : (s.take T).length < T) (x : α) : (s ++ [x]).take T = s.take T ++ [x] := by
  rw [List.length_take] at h
  rw [List.take_of_length_le (by rw [List.length_append, List.length_singleton]; omega), List.take_of_length_le (by omega)]
def lenL (L : Nat → List Pc) (i : Nat) : Nat := (L i).length
/-- The reference's piece at a place, cut. -/
def refP (L : Nat → List Pc) (al : Bool) (ts : List (Nat → Int)) (q : Nat × Nat) : Pc := cutP al ts ((L q.1).getD q.2 pcN)
set_option maxRecDepth 100000 in
theorem size_pcR (w : World) : (sizeOf 37).run Tryd.prog w = .ok 126 w := by kernel_rfl
theorem lu_pidxU {w : World} {o : Oper} {ev : Operand → Value} {x y : Operand} {b off n c k : Nat} (ho : o.op = .indexAddr 24 x y) (hx : ev x = .slice (some ⟨b, off, none⟩) n c) (hy : ev y = .int .u64 (k : Int)) (hk : k < n) :
    lexUpon Tryd.prog w (.ex (.pointer (some ⟨b, off + k * 126, none⟩))) ((execOp ev o).run Tryd.prog w) := by
  have hr : (Instr.indexAt 24 (.slice (some ⟨b, off, none⟩) n c) (.int .u64 (k : Int))).run Tryd.prog w = .ok (.pointer (some ⟨b, off + k * 126, none⟩)) w := by
    have hb : (0 : Int) ≤ (k : Int) ∧ (k : Int) < (n : Int) := by omega
    simp only [Instr.indexAt, asIntOf, Sem.run_bind, Sem.run_pure, Result.andThen_ok, run_underlying Tryd.underlying24, hb, and_self, if_true, size_pcR, Int.toNat_natCast, add_none]
  simp only [execOp, ho, hx, hy, Sem.run_bind, hr, Result.andThen_ok, Sem.run_pure]
  exact ⟨Ext.refl _, rfl⟩
theorem lu_midP {P : Program} {w : World} {o : Oper} {ev : Operand → Value} {x : Operand} {T : TypeId} {b off : Nat} {d : TypeDesc} (ho : o.op = .load T x) (hx : ev x = .pointer (some ⟨b, off, none⟩)) (cs : List Value) (hr : w.rangeAt b off cs) (hu : P.underlying T = some d) (hd : d.isRow = true) (hi : (P.info? T).map (·.size) = some cs.length) (A : Array Value) (hA : cs.toArray = A) :
    lexUpon P w (.ex (.agg A)) ((execOp ev o).run P w) := by
  subst hA
  simp only [execOp, ho, hx, Instr.loadAt, Instr.sureAddr, Sem.run_bind, Sem.run_pure, Result.andThen_ok, run_loadVar_mid w b off T cs d hr hu hd hi]
  exact ⟨Ext.refl _, rfl⟩
theorem cutP_at {w : World} {p : Pc} (h : PcAt w p) (al : Bool) (ts : List (Nat → Int)) : PcAt w (cutP al ts p) := by
  unfold cutP
  split
  · exact h
  · exact ⟨h.hd, ⟨rfl, Nat.le_refl _, by show (0 : Nat) ≤ _; omega, by show (0 : Nat) ≤ _; omega, (fun x hx => by cases hx), (fun h => absurd h (Nat.lt_irrefl 0)), fun _ => rfl⟩, by show (0 : Nat) ≤ _; omega⟩
/-- What the reference's Batch answers. -/
def RefBatchSays (L : Nat → List Pc) (cu : Nat → Nat) (al : Bool) (ts : List (Nat → Int)) (most : Int) (w : World) (e : Ending) (w' : World) : Prop :=
  ∃ (v : Value) (ps : List Pc), e = .returned v ∧ Ext w w' ∧ w'.ownsRow w.heap.size 37 126 v ps.length (pisC ps) ∧ ps = ((allB (lenL L) cu).take (min most 8).toNat).map (refP L al ts)

set_option maxHeartbeats 8000000 in
set_option maxRecDepth 100000 in
theorem refBatch_any {B gr : Nat} {R : Nat → Option Addr × Nat} {L : Nat → List Pc} {cu : Nat → Nat} (hl : ∀ i, i < 6 → (L i).length ≤ 400) (hcu : ∀ i, i < 6 → cu i < 18446744073709551616)
    (al : Bool) (a : Option Addr) (n c : Nat) (ts : List (Nat → Int)) (most : Int) (w : World) (h0 : RIx w B gr R L) (hts : TsAt w a n c ts) :
    Calls Tryd.prog 22 #[.pointer (some ⟨gr, 0, none⟩), .agg (curV cu), .agg (fltV al (.slice a n c)), .int .i64 most] w (RefBatchSays L cu al ts most w) := by
  obtain ⟨CV, hCV⟩ : ∃ z, curV cu = z := ⟨_, rfl⟩
  have HCi := Lib.hid (show ∀ i, i < 6 → CV[i]? = some (.int .u64 (cu i : Int)) from fun i hi => by rw [← hCV]; exact rowArr_get _ _ _ hi)
  obtain ⟨FV, hFV⟩ : ∃ z, fltV al (.slice a n c) = z := ⟨_, rfl⟩
  have HFV := Lib.hid hFV
  have HFs := Lib.hid (show FV.size = 2 by rw [← hFV]; rfl)
  obtain ⟨w2, hw2⟩ : ∃ z, ((w.alloc (.cells CV 48)).alloc (.cells FV 58)) = z := ⟨_, rfl⟩
  have HE2 := Lib.hid (show Ext w w2 by rw [← hw2]; exact ((Ext.refl w).alloc _).alloc _)
  obtain ⟨s, hs⟩ : ∃ z, w.heap.size = z := ⟨_, rfl⟩
  have HB0 := Lib.hid (show w2.heap[s]? = some (.cells CV 48 (0, 0)) by
    rw [← hw2]
    exact Ext.keep ((Ext.refl _).alloc _) (heap_new w _ _ hs.symm))
  have HB1 := Lib.hid (show w2.heap[s + 1]? = some (.cells FV 58 (0, 0)) by
    rw [← hw2]
    exact heap_new _ _ _ (by simp [hs]))
  have HSz := Lib.hid (show w2.heap.size = s + 2 by rw [← hw2]; simp [hs])
  have HR := Lib.hid (h0.ext HE2.out)
  have HTs := Lib.hid (hts.ext HE2.out)
  have Hl := Lib.hid hl
  have Hcu := Lib.hid hcu
  obtain ⟨T, hT⟩ : ∃ z, (min most 8).toNat = z := ⟨_, rfl⟩
  have HT := Lib.hid hT
  have Hw2 := Lib.hid hw2
  have Hs := Lib.hid hs
  obtain ⟨F, hF⟩ : ∃ z, refP L al ts = z := ⟨_, rfl⟩
  have HF := Lib.hid hF
  have HFin := Lib.hid (show ∀ e w', (∃ (v : Value) (ps : List Pc), e = .returned v ∧ Ext w w' ∧ w'.ownsRow s 37 126 v ps.length (pisC ps) ∧ ps = ((allB (lenL L) cu).take T).map F) → RefBatchSays L cu al ts most w e w' from fun e w' h => by
    unfold RefBatchSays
    rw [hT, hF, hs]
    exact h)
  rw [hCV, hFV]
  clear hCV hFV hw2 hs hl hcu hT h0 hts hF
  go_enter Tryd.func22, Tryd.ntmps22
  go_upto_region 1 with (fail)
  refine wp_world (w' := w2) Hw2.out ?_
  rw [Hs.out]
  clear Hw2
  go_wp2_with fail
  go_loopw [9, 10] (fun o nv y => ∃ (k N : Nat) (oa : Option Addr) (oc : Nat) (ps : List Pc), k ≤ 401 ∧ nv = .int .u64 (k : Int) ∧ o = .slice oa N oc ∧ Ext w2 y ∧ y.ownsRow (s + 2) 37 126 (.slice oa N oc) N (pisC ps) ∧ ps.length = N ∧ ps = ((preB (lenL L) cu k).take T).map F) (fun _ nv _ => 402 - (intOf nv).toNat)
  case atStart => exact ⟨0, 0, none, 0, [], by omega, rfl, rfl, Ext.refl w2, World.ownsRow_nil _ _ _ _, rfl, by rw [show preB (lenL L) cu 0 = [] from rfl, List.take_nil]; rfl⟩
  case round =>
    obtain ⟨k, N, oa, oc, ps, hk, rfl, rfl, hE, hown, hpl, hps⟩ := hrel
    rename World => y0
    have HE0 := Lib.hid hE
    have HO0 := Lib.hid hown
    have HP0 := Lib.hid hps
    have HL0 := Lib.hid hpl
    clear hE hown hps hpl
    by_cases hk4 : k ≤ 400
    · have x0 : (k : Int) ≤ 400 := by omega
      have Hk := Lib.hid hk4
      go_wp2_with fail
      go_loopw [9, 11] (fun o iv y => ∃ (i N : Nat) (oa : Option Addr) (oc : Nat) (ps : List Pc), i ≤ 6 ∧ iv = .int .i64 (i : Int) ∧ o = .slice oa N oc ∧ Ext w2 y ∧ y.ownsRow (s + 2) 37 126 (.slice oa N oc) N (pisC ps) ∧ ps.length = N ∧ ps = ((preB (lenL L) cu k ++ lvlTo (lenL L) cu (k + 1) i).take T).map F) (fun _ iv _ => 6 - (intOf iv).toNat)
      case atStart => exact ⟨0, N, oa, oc, ps, by omega, rfl, rfl, HE0.out, HO0.out, HL0.out, by rw [lvlTo_zero, List.append_nil]; exact HP0.out⟩
      case round =>
        obtain ⟨i, N, oa, oc, ps, hi, rfl, rfl, hE, hown, hpl, hps⟩ := hrel
        rename World => y
        have HE := Lib.hid hE
        have HO := Lib.hid hown
        have HP := Lib.hid hps
        have HL := Lib.hid hpl
        have HNt := Lib.hid (show ((preB (lenL L) cu k ++ lvlTo (lenL L) cu (k + 1) i).take T).length = N by
          have h1 := congrArg List.length hps
          rw [List.length_map, hpl] at h1
          exact h1.symm)
        have HNs := Lib.hid (show N ≤ T by
          have h1 := HNt.out
          rw [List.length_take] at h1
          omega)
        clear hE hown hps hpl
        by_cases hi6 : i < 6
        · have x1 : (i : Int) < 6 := by omega
          have x2 : (0 : Int) ≤ (i : Int) := by omega
          have Hi := Lib.hid hi6
          obtain ⟨ci, hci⟩ : ∃ z, cu i = z := ⟨_, rfl⟩
          obtain ⟨la, hla⟩ : ∃ z, (R i).1 = z := ⟨_, rfl⟩
          obtain ⟨lc, hlc⟩ : ∃ z, (R i).2 = z := ⟨_, rfl⟩
          obtain ⟨li, hli⟩ : ∃ z, (L i).length = z := ⟨_, rfl⟩
          have HCell := Lib.hid (show ∀ z, Ext y z → z.cell? ⟨s, i, none⟩ = some (.int .u64 (ci : Int)) ∧ z.cell? ⟨gr, i, none⟩ = some (.slice la li lc) from fun z hz => by
            have hz2 := HE.out.trans hz
            refine ⟨?_, ?_⟩
            · rw [← hci]
              exact row_cellK (hz2.keep HB0.out) (HCi.out i hi6)
            · have h1 := (HR.out.ext hz2).row.cell (i := i) hi6
              rw [h1, ← hla, ← hlc, ← hli]
              rfl)
          have hl4 : li ≤ 400 := by rw [← hli]; exact Hl.out i hi6
          have hc64 : ci < 18446744073709551616 := by rw [← hci]; exact Hcu.out i hi6
          have Hl4 := Lib.hid hl4
          have wL : IntKind.u64.wrap (li : Int) = (li : Int) := by rw [IntKind.wrap_u64]; omega
          have HCon := Lib.hid (show cu i + (k + 1) ≤ lenL L i ↔ ci + k < li by
            show cu i + (k + 1) ≤ (L i).length ↔ _
            rw [hci, hli]
            omega)
          have HSkip := Lib.hid (show (T ≤ N ∨ ¬ ci + k < li) → ps = ((preB (lenL L) cu k ++ lvlTo (lenL L) cu (k + 1) (i + 1)).take T).map F from fun h => by
            by_cases hcon : ci + k < li
            · rw [lvlTo_yes (HCon.out.2 hcon), ← List.append_assoc, takeX (by rw [HNt.out]; omega)]
              exact HP.out
            · rw [lvlTo_no (fun h2 => hcon (HCon.out.1 h2))]
              exact HP.out)
          obtain ⟨c0, c1⟩ := HCell.out y (Ext.refl y)
          clear hci hla hlc
          go_upto_region 8 with (fail)
          by_cases hA : most ≤ (N : Int)
          · have HTN := Lib.hid (show T ≤ N by rw [← HT.out]; omega)
            go_quiet (fail)
            go_wp2_with fail
            go_roundw
            case rel => exact ⟨i + 1, N, oa, oc, ps, by omega, by go_num, rfl, HE.out.drewN' _, HO.out, HL.out, HSkip.out (.inl HTN.out)⟩
            case measure => simp [intOf]; omega
          · by_cases hB : (8 : Int) ≤ (N : Int)
            · have HTN := Lib.hid (show T ≤ N by rw [← HT.out]; omega)
              go_quiet (fail)
              go_wp2_with fail
              go_roundw
              case rel => exact ⟨i + 1, N, oa, oc, ps, by omega, by go_num, rfl, HE.out.drewN' _, HO.out, HL.out, HSkip.out (.inl HTN.out)⟩
              case measure => simp [intOf]; omega
            · by_cases hC : (li : Int) ≤ (ci : Int)
              · have HNo := Lib.hid (show ¬ ci + k < li by omega)
                go_quiet (fail)
                go_wp2_with fail
                go_roundw
                case rel => exact ⟨i + 1, N, oa, oc, ps, by omega, by go_num, rfl, HE.out.drewN' _, HO.out, HL.out, HSkip.out (.inr HNo.out)⟩
                case measure => simp [intOf]; omega
              · have wA : IntKind.u64.wrap ((ci : Int) + (k : Int)) = (ci : Int) + (k : Int) := by rw [IntKind.wrap_u64]; omega
                by_cases hD : (li : Int) ≤ (ci : Int) + (k : Int)
                · have HNo := Lib.hid (show ¬ ci + k < li by omega)
                  go_quiet (fail)
                  go_wp2_with fail
                  go_roundw
                  case rel => exact ⟨i + 1, N, oa, oc, ps, by omega, by go_num, rfl, HE.out.drewN' _, HO.out, HL.out, HSkip.out (.inr HNo.out)⟩
                  case measure => simp [intOf]; omega
                · have hlt : ci + k < li := by omega
                  have Hlt := Lib.hid hlt
                  have HTN := Lib.hid (show N < T by rw [← HT.out]; omega)
                  have HNs8 := Lib.hid (show N ≤ 8 by omega)
                  have HPs := Lib.hid (HR.out.pis i hi6 (by have := Hl.out i hi6; omega))
                  obtain ⟨b, off, hlaE, hcell⟩ := HPs.out.at_ (by omega)
                  have hla2 : la = some ⟨b, off, none⟩ := by
                    have h1 := (HR.out.row.cell (i := i) hi6)
                    have h2 := (HCell.out y (Ext.refl y)).2
                    have h3 := ((HR.out.ext HE.out).row.cell (i := i) hi6)
                    rw [h2] at h3
                    have h4 := Option.some.inj h3
                    unfold rsl at h4
                    simp only [Value.slice.injEq] at h4
                    rw [h4.1]
                    exact hlaE
                  subst hla2
                  obtain ⟨p, hp⟩ : ∃ z, (L i).getD (ci + k) pcN = z := ⟨_, rfl⟩
                  have HPa := Lib.hid (show PcAt w2 p by rw [← hp]; exact HPs.out.get (ci + k) (by omega))
                  have HRg := Lib.hid (show ∀ z, Ext y z → z.rangeAt b (off + (ci + k) * 126) (pcL p) from fun z hz j v hv => by
                    have hj : j < 126 := by
                      have := (List.getElem?_eq_some_iff.1 hv).1
                      rwa [pcL_length] at this
                    have h1 := hcell (ci + k) (by omega) j hj
                    rw [hp] at h1
                    have h2 : (pcL p)[j]? = some (pcC p j) := pcL_get p j hj
                    rw [h2] at hv
                    obtain rfl := Option.some.inj hv
                    exact ((HE.out.trans hz).cell (World.block_lt_of_cell? _ _ h1)).trans h1)
                  have HNew := Lib.hid (show ps ++ [cutP al ts p] = ((preB (lenL L) cu k ++ lvlTo (lenL L) cu (k + 1) (i + 1)).take T).map F by
                    rw [lvlTo_yes (HCon.out.2 hlt), ← List.append_assoc, takeY (by rw [HNt.out]; exact HTN.out), List.map_append, ← HP.out]
                    congr 1
                    rw [← HF.out]
                    unfold refP
                    have hq : cu i + (k + 1) - 1 = ci + k := by
                      have h1 := HCi.out i hi6
                      have h2 := (HCell.out y (Ext.refl y)).1
                      have h3 := row_cellK (HE.out.keep HB0.out) h1
                      rw [h2] at h3
                      have h4 := Option.some.inj h3
                      simp only [Value.int.injEq, true_and] at h4
                      omega
                    simp only [List.map_cons, List.map_nil]
                    rw [hq, hp])
                  obtain ⟨PV, hPV⟩ : ∃ z, pcV p = z := ⟨_, rfl⟩
                  have HPV := Lib.hid hPV
                  have HPVs := Lib.hid (show PV.size = 126 ∧ PV.all (·.oneCell') = true by rw [← hPV]; exact ⟨pcV_size _, pcV_one _⟩)
                  have HPVa := Lib.hid (show (pcL p).toArray = PV by rw [← hPV]; rfl)
                  clear hlaE hcell hp hPV hlt
                  go_quiet (fail)
                  clear hA hB hC hD hli c0 c1 hl4 hc64
                  go_upto_region 9 with (fail)
                  rename_i nq _ _
                  have HE1 := Lib.hid (show Ext y (y.drewN nq) from (Ext.refl y).drewN' nq)
                  obtain ⟨y1, hy1⟩ : ∃ z, y.drewN nq = z := ⟨_, rfl⟩
                  rw [hy1] at HE1
                  refine wp_world (w' := y1) hy1 ?_
                  clear hy1
                  have HX := Lib.hid (show ∀ u, Ext y1.drew u → Ext y u from fun u hu => HE1.out.trans (Ext.trans (Ext.refl y1).drew hu))
                  have HSy := Lib.hid (show y.heap.size ≤ y1.heap.size from Below.size HE1.out)
                  refine wp_region_lexT 14 (by kernel_rfl) (by kernel_rfl) ?_
                  simp only [List.take_succ_cons, List.take_zero, List.drop_succ_cons, List.drop_zero]
                  refine lx_e (.pointer (some ⟨gr, 0, none⟩)) [] (by kernel_rfl) rfl (by rfl) (fun w1 hw1 => ?_) ?_
                  · simp only [pk, lexVals]
                    clear hw1
                    go_simp
                    exact ⟨Ext.refl _, by first | rfl | simp⟩
                  refine lx_e (.int .i64 (i : Int)) [] (by kernel_rfl) rfl (by rfl) (fun w1 hw1 => ?_) ?_
                  · simp only [pk, lexVals]
                    clear hw1
                    go_simp
                    exact ⟨Ext.refl _, by first | rfl | simp⟩
                  refine lx_e (.pointer (some ⟨gr, 0, none⟩)) [(1, 60)] (by kernel_rfl) rfl (by rfl) (fun w1 hw1 => ?_) ?_
                  · simp only [pk, nthSp, lexVals]
                    clear hw1
                    go_simp
                    exact ⟨Ext.refl _, by first | rfl | simp⟩
                  refine lx_e (.pointer (some ⟨gr, 0, none⟩)) [(0, 62)] (by kernel_rfl) rfl (by rfl) (fun w1 hw1 => ?_) ?_
                  · simp only [pk, nthSp, lexVals]
                    clear hw1
                    go_simp
                    exact ⟨Ext.refl _, by first | rfl | simp⟩
                  refine lx_e (.pointer (some ⟨gr, i, none⟩)) [(0, 63), (2, 61)] (by kernel_rfl) rfl (by rfl) (fun w1 hw1 => ?_) ?_
                  · simp only [pk, nthSp, lexVals]
                    have hi := Hi.out
                    clear hw1
                    go_simp
                    exact ⟨Ext.refl _, by first | rfl | simp⟩
                  refine lx_e (.slice (some ⟨b, off, none⟩) li lc) [(0, 64)] (by kernel_rfl) rfl (by rfl) (fun w1 hw1 => ?_) ?_
                  · simp only [pk, nthSp, lexVals]
                    have hc := (HCell.out w1 (HX.out w1 hw1)).2
                    clear hw1
                    go_simp
                    exact ⟨Ext.refl _, rfl⟩
                  refine lx_e (.int .i64 (i : Int)) [] (by kernel_rfl) rfl (by rfl) (fun w1 hw1 => ?_) ?_
                  · simp only [pk, lexVals]
                    clear hw1
                    go_simp
                    exact ⟨Ext.refl _, by first | rfl | simp⟩
                  refine lx_e (.pointer (some ⟨s, i, none⟩)) [(0, 66)] (by kernel_rfl) rfl (by rfl) (fun w1 hw1 => ?_) ?_
                  · simp only [pk, nthSp, lexVals]
                    have hi := Hi.out
                    clear hw1
                    go_simp
                    exact ⟨Ext.refl _, by first | rfl | simp⟩
                  refine lx_e (.int .u64 (ci : Int)) [(0, 67)] (by kernel_rfl) rfl (by rfl) (fun w1 hw1 => ?_) ?_
                  · simp only [pk, nthSp, lexVals]
                    have hc := (HCell.out w1 (HX.out w1 hw1)).1
                    clear hw1
                    go_simp
                    exact ⟨Ext.refl _, rfl⟩
                  refine lx_e (.int .u64 (k : Int)) [] (by kernel_rfl) rfl (by rfl) (fun w1 hw1 => ?_) ?_
                  · simp only [pk, lexVals]
                    clear hw1
                    go_simp
                    exact ⟨Ext.refl _, by first | rfl | simp⟩
                  refine lx_e (.int .u64 ((ci + k : Nat) : Int)) [(1, 68), (0, 69)] (by kernel_rfl) rfl (by rfl) (fun w1 hw1 => ?_) ?_
                  · simp only [pk, nthSp, lexVals]
                    have hm := Hlt.out
                    have hk := Hl4.out
                    clear hw1
                    go_simp
                    exact ⟨Ext.refl _, by first | rfl | (show Value.int .u64 _ = Value.int .u64 _; congr 1; first | omega | (rw [IntKind.wrap_u64]; omega))⟩
                  refine lx_e (.pointer (some ⟨b, off + (ci + k) * 126, none⟩)) [(5, 65), (0, 70)] (by kernel_rfl) rfl (by rfl) (fun w1 hw1 => ?_) ?_
                  · simp only [pk, nthSp, lexVals]
                    exact lu_pidxU rfl rfl rfl Hlt.out
                  refine lx_e (.agg PV) [(0, 71)] (by kernel_rfl) rfl (by rfl) (fun w1 hw1 => ?_) ?_
                  · simp only [pk, nthSp, lexVals]
                    exact lu_midP rfl rfl (pcL p) (HRg.out w1 (HX.out w1 hw1)) Tryd.underlying37 rfl (by rw [pcL_length]; kernel_rfl) PV HPVa.out
                  refine lx_a (PgB y.heap.size) [] (by kernel_rfl) rfl (by rfl) (fun u z z' he h => h.pg (PgE.ext (ph := false) he)) (fun w1 hw1 => ?_) ?_
                  · simp only [pk, lexVals]
                    exact lu_newP rfl (Below.size (HX.out w1 hw1))
                  refine lx_stopT (by rfl) (by decide) fun z hz => ?_
                  have HEz := Lib.hid (HX.out z hz)
                  clear hz HX
                  simp only [rv, pf, lexVals, List.drop_succ_cons, List.drop_zero]
                  rintro u12 ⟨g, cs, rfl, hg, hc, hs⟩
                  simp only [Act.put, List.setIfInBounds_toArray, List.set_cons_zero, List.set_cons_succ]
                  have Hcs := Lib.hid hs
                  have HC := Lib.hid hc
                  have Hg := Lib.hid hg
                  clear hs hc hg
                  go_upto_region 10 with (refine wpList_store_row rfl 37 _ _ rfl g _ rfl rfl _ _ HC.out (by rw [HPVs.out.1]; kernel_rfl) (by rw [HPVs.out.1, Hcs.out]) HPVs.out.2 ?_)
                  have HZ1 := Lib.hid (show Ext y (z.setRow g PV) from below_setRow HEz.out Hg.out _)
                  have HPz := Lib.hid (setRow_heap z g cs PV _ _ HC.out)
                  obtain ⟨z1, hz1⟩ : ∃ x, z.setRow g PV = x := ⟨_, rfl⟩
                  rw [hz1] at HZ1 HPz
                  refine wp_world (w' := z1) hz1 ?_
                  clear hz1
                  have HW1 := Lib.hid (HE.out.trans HZ1.out)
                  have HMe := Lib.hid (refMeets_any al a n c ts p.hd.1 p.hd.2 z1 (HTs.out.ext HW1.out) (HPa.out.ext HW1.out).hd.toks)
                  rw [HFV.out] at HMe
                  obtain ⟨HV, hHV⟩ : ∃ q, hdV p.hd.1 = q := ⟨_, rfl⟩
                  have HHa := Lib.hid (show (hdL p.hd.1).toArray = HV by rw [hdL_arr, hHV])
                  have HRh := Lib.hid (show z1.rangeAt g 0 (hdL p.hd.1) from pc_rh (p := p) (by rw [HPV.out]; exact HPz.out))
                  rw [hHV] at HMe
                  obtain ⟨mb, hmb⟩ : ∃ q, meetsB al ts p.hd.2 p.hd.1.ctl = q := ⟨_, rfl⟩
                  have Hmb := Lib.hid hmb
                  rw [hmb] at HMe
                  have HB1' := Lib.hid (HW1.out.keep HB1.out)
                  clear hHV hmb
                  go_wp2_with (first | (refine wpList_load_rowW rfl 58 (.tmp 6) rfl (s + 1) rfl _ _ _ _ HB1'.out Tryd.underlying58 rfl (by rw [HFs.out]; kernel_rfl) ?_) | (refine wpList_load_mid rfl 34 (.tmp 74) rfl g _ rfl (hdL p.hd.1) _ HRh.out Tryd.underlying34 rfl (by rw [hdL_length]; kernel_rfl) ?_; rw [HHa.out]))
                  refine HMe.out.mono ?_
                  rintro e z2 ⟨rfl, hE5⟩
                  have HE5 := Lib.hid hE5
                  have HW2 := Lib.hid (HW1.out.trans hE5)
                  have HP2 := Lib.hid (hE5.keep HPz.out)
                  have HO2 := Lib.hid (own_ext9 HO.out (HZ1.out.trans hE5))
                  clear hE5 HMe
                  have HNb := Lib.hid (show (Value.slice oa N oc).ownBlock ≠ some g from fun e => by
                    have h1 := (HO.out.lt _ e).2
                    have h2 := Hg.out
                    omega)
                  cases mb with
                  | true =>
                    have HCut := Lib.hid (show cutP al ts p = p by unfold cutP; rw [if_pos Hmb.out])
                    have HSz2 := Lib.hid (show s + 2 ≤ z2.heap.size by rw [← HSz.out]; exact Below.size HW2.out)
                    go_upto_region 12 with (fail)
                    go_upto_region 7 with (first | (refine wpList_load_rowW rfl 37 (.tmp 12) rfl g rfl _ _ _ _ HP2.out Tryd.underlying37 rfl (by rw [HPVs.out.1]; kernel_rfl) ?_; simp only [Act.put, List.setIfInBounds_toArray, List.set_cons_zero, List.set_cons_succ]; refine wp_build_pc1 rfl (.tmp 80) rfl p PV HPV.out rfl ?_; simp only [Act.put, List.setIfInBounds_toArray, List.set_cons_zero, List.set_cons_succ]; refine append_pc rfl (.tmp 79) (.tmp 81) rfl (s + 2) _ N ps rfl (own_ext9 HO2.out ((Ext.refl z2).alloc _)) z2.heap.size 1 p rfl (fun j hj => row_cell (show (z2.alloc (.cells PV 37)).heap[z2.heap.size]? = some (.cells (pcV p) 37 (0, 0)) by rw [HPV.out]; exact heap_new z2 _ _ rfl) j hj) (by have := HNs8.out; omega) (Nat.le_trans HSz2.out (by simp)) ?_; intro v5 y5 ho5 hg5 _; obtain ⟨va5, vc5, hv5⟩ := own_pisl ho5; subst hv5; have HO5 := Lib.hid ho5; have HG5 := Lib.hid hg5; clear ho5 hg5; simp only [Act.put, List.setIfInBounds_toArray, List.set_cons_zero, List.set_cons_succ]))
                    have HE6 := Lib.hid (show Ext w2 y5 from by
                      have h1 : Ext w2 (z2.alloc (.cells PV 37)) := (HW2.out).trans ((Ext.refl _).alloc _)
                      have h2 : Below (s + 2) (z2.alloc (.cells PV 37)) y5 := (Below.refl (s + 2) _).grown HG5.out (Nat.le_trans HSz2.out (by simp)) (fun b hb => (HO.out.lt b hb).1)
                      rw [← HSz.out] at h2
                      exact Below.trans h1 h2)
                    go_wp2_with fail
                    go_roundw
                    case rel => exact ⟨i + 1, N + 1, va5, vc5, ps ++ [p], by omega, by go_num, rfl, HE6.out, HO5.out, by rw [List.length_append, HL.out]; rfl, by rw [← HNew.out, HCut.out]⟩
                    case measure => simp [intOf]; omega
                  | false =>
                    have HCut := Lib.hid (show cutP al ts p = ⟨p.hd, none, 0, []⟩ by unfold cutP; rw [if_neg (by rw [Hmb.out]; exact Bool.false_ne_true)])
                    obtain ⟨PV', hPV'⟩ : ∃ q, pcV ⟨p.hd, none, 0, []⟩ = q := ⟨_, rfl⟩
                    have HPV' := Lib.hid hPV'
                    have HPVs' := Lib.hid (show PV'.size = 126 by rw [← hPV']; exact pcV_size _)
                    have HR5 := Lib.hid (rowIs_of (f := pcC p) (show z2.heap[g]? = some (.cells (rowArr 126 (pcC p)) 37 (0, 0)) by rw [show rowArr 126 (pcC p) = PV from HPV.out]; exact HP2.out))
                    have x125 := HR5.out.cell (i := 125) (by omega)
                    have f125 := HR5.out.frozen 125
                    clear hPV'
                    go_upto_region 12 with (fail)
                    have hg6 : z2.grownBy (z2.setCell ⟨g, 125, none⟩ (.slice none 0 0)) (some g) := grown_setCell (World.grownBy.refl z2 _) rfl _
                    have HP3 := Lib.hid (show (z2.setCell ⟨g, 125, none⟩ (.slice none 0 0)).heap[g]? = some (.cells PV' 37 (0, 0)) from by
                      rw [← HPV'.out]
                      exact rowIs_cells ((HR5.out.set 125 (.slice none 0 0)).congr (g := pcC ⟨p.hd, none, 0, []⟩) fun j hj => by
                        unfold pcC
                        by_cases e : j = 125
                        · rw [if_pos e, if_neg (by omega)]
                          rfl
                        · rw [if_neg e, if_pos (by omega), if_pos (by omega)]))
                    have HO3 := Lib.hid (HO2.out.kept hg6 (Or.inr HNb.out))
                    have HW3 := Lib.hid (show Ext w2 (z2.setCell ⟨g, 125, none⟩ (.slice none 0 0)) from Below.trans HW2.out ((Below.refl w2.heap.size z2).grown hg6 (Below.size HW2.out) (fun b e => by
                      cases e
                      have h1 := Hg.out
                      have h2 := Below.size HE.out
                      omega)))
                    obtain ⟨z3, hz3⟩ : ∃ x, z2.setCell ⟨g, 125, none⟩ (.slice none 0 0) = x := ⟨_, rfl⟩
                    rw [hz3] at HP3 HO3 HW3
                    refine wp_world (w' := z3) hz3 ?_
                    clear hz3 hg6 x125 f125 HR5
                    have HSz2 := Lib.hid (show s + 2 ≤ z3.heap.size by rw [← HSz.out]; exact Below.size HW3.out)
                    go_upto_region 12 with (fail)
                    go_upto_region 7 with (first | (refine wpList_load_rowW rfl 37 (.tmp 12) rfl g rfl _ _ _ _ HP3.out Tryd.underlying37 rfl (by rw [HPVs'.out]; kernel_rfl) ?_; simp only [Act.put, List.setIfInBounds_toArray, List.set_cons_zero, List.set_cons_succ]; refine wp_build_pc1 rfl (.tmp 80) rfl ⟨p.hd, none, 0, []⟩ PV' HPV'.out rfl ?_; simp only [Act.put, List.setIfInBounds_toArray, List.set_cons_zero, List.set_cons_succ]; refine append_pc rfl (.tmp 79) (.tmp 81) rfl (s + 2) _ N ps rfl (own_ext9 HO3.out ((Ext.refl z3).alloc _)) z3.heap.size 1 ⟨p.hd, none, 0, []⟩ rfl (fun j hj => row_cell (show (z3.alloc (.cells PV' 37)).heap[z3.heap.size]? = some (.cells (pcV ⟨p.hd, none, 0, []⟩) 37 (0, 0)) by rw [HPV'.out]; exact heap_new z3 _ _ rfl) j hj) (by have := HNs8.out; omega) (Nat.le_trans HSz2.out (by simp)) ?_; intro v5 y5 ho5 hg5 _; obtain ⟨va5, vc5, hv5⟩ := own_pisl ho5; subst hv5; have HO5 := Lib.hid ho5; have HG5 := Lib.hid hg5; clear ho5 hg5; simp only [Act.put, List.setIfInBounds_toArray, List.set_cons_zero, List.set_cons_succ]))
                    have HE6 := Lib.hid (show Ext w2 y5 from by
                      have h1 : Ext w2 (z3.alloc (.cells PV' 37)) := (HW3.out).trans ((Ext.refl _).alloc _)
                      have h2 : Below (s + 2) (z3.alloc (.cells PV' 37)) y5 := (Below.refl (s + 2) _).grown HG5.out (Nat.le_trans HSz2.out (by simp)) (fun b hb => (HO.out.lt b hb).1)
                      rw [← HSz.out] at h2
                      exact Below.trans h1 h2)
                    go_wp2_with fail
                    go_roundw
                    case rel => exact ⟨i + 1, N + 1, va5, vc5, ps ++ [⟨p.hd, none, 0, []⟩], by omega, by go_num, rfl, HE6.out, HO5.out, by rw [List.length_append, HL.out]; rfl, by rw [← HNew.out, HCut.out]⟩
                    case measure => simp [intOf]; omega
        · obtain rfl : i = 6 := by omega
          have x1 : ¬ ((6 : Nat) : Int) < 6 := by omega
          go_wp2_with fail
          go_roundw
          case rel => exact ⟨k + 1, N, oa, oc, ps, by have := Hk.out; omega, by go_num, rfl, HE.out, HO.out, HL.out, by rw [preB_succ]; exact HP.out⟩
          case measure => simp [intOf]; omega
    · obtain rfl : k = 401 := by omega
      have x0 : ¬ ((401 : Nat) : Int) ≤ 400 := by omega
      go_wp2_with fail
      go_ret
      exact HFin.out _ _ ⟨_, ps, rfl, HE2.out.trans HE0.out, by rw [HL0.out]; exact own_mono HO0.out (Nat.le_add_right _ _), HP0.out⟩

end Go.Proofs.YtihlpfdhallfpaaDoor
