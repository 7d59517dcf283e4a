/-
  THE WALK OF THE STATEMENT IndexPuts: whatever pieces come, each answer, the heads, and each piece are the chapter's. Asked: the two tables.
-/
import Derived.Test.YtihlpfdhallfpaaDoorFilled
import Derived.Test.YtihlpfdhallfpaaDoorIxH
namespace Go.Proofs.YtihlpfdhallfpaaDoor
open Go.ChangeShapes Go.WideShapes Go.ChangeAt Go.RowKit

theorem pis_one {w : World} {g : Nat} {p : Pc} {T : TypeId} {fr : Nat × Nat} (hb : w.heap[g]? = some (.cells (pcV p) T fr)) (h : PcAt w p) : PisAt w (some ⟨g, 0, none⟩) 1 1 [p] := by
  refine ⟨rfl, Nat.le_refl _, by omega, by omega, fun x hx => ?_, fun _ => ⟨g, 0, rfl, fun i hi j hj => ?_⟩, fun h => by cases h⟩
  · obtain rfl := List.mem_singleton.1 hx
    exact h
  · obtain rfl : i = 0 := by omega
    rw [Nat.zero_mul, Nat.zero_add]
    exact row_cell hb j hj
theorem PisAt.one {w : World} {b off n c : Nat} {l : List Pc} (h : PisAt w (some ⟨b, off, none⟩) n c l) (k : Nat) (hk : k < n) : PisAt w (some ⟨b, off + k * 126, none⟩) 1 (c - k) [l.getD k pcN] := by
  obtain ⟨b', off', ha, hc⟩ := h.at_ (by omega)
  simp only [Option.some.injEq, Addr.mk.injEq, and_true] at ha
  obtain ⟨rfl, rfl⟩ := ha
  have hcap := h.cap
  have hlim := h.lim
  refine ⟨rfl, by omega, by omega, by omega, fun x hx => ?_, fun _ => ⟨b, off + k * 126, rfl, fun i hi j hj => ?_⟩, fun h => by cases h⟩
  · obtain rfl := List.mem_singleton.1 hx
    exact h.get k hk
  · obtain rfl : i = 0 := by omega
    rw [Nat.zero_mul, Nat.add_zero]
    exact hc k hk j hj
set_option maxRecDepth 100000 in
theorem lu_oneP {w : World} {o : Oper} {ev : Operand → Value} {x y z : Operand} {b n c k : Nat} {F : Value → World → Prop} (ho : o.op = .slice 24 x (some y) (some z) none) (hx : ev x = .slice (some ⟨b, 0, none⟩) n c) (hy : ev y = .int .i64 (k : Int)) (hz : ev z = .int .i64 ((k : Int) + 1)) (hk : k < n) (hc : n ≤ c)
    (hf : F (.slice (some ⟨b, 0 + k * 126, none⟩) 1 (c - k)) w) : lexUpon Tryd.prog w (.ab F) ((execOp ev o).run Tryd.prog w) := by
  have hs := run_slice_lh (P := Tryd.prog) (w := w) 24 (some ⟨b, 0, none⟩) n c Tryd.underlying24 .i64 .i64 (k : Int) ((k : Int) + 1) (by omega) (by omega) (by omega)
  have hz2 : ∀ w, (sizeOf (Tryd.prog.elem 24)).run Tryd.prog w = .ok 126 w := fun _ => by kernel_rfl
  have hr : (Instr.sliceAt 24 (.slice (some ⟨b, 0, none⟩) n c) (some (.int .i64 (k : Int))) (some (.int .i64 ((k : Int) + 1))) none).run Tryd.prog w = .ok (.slice (some ⟨b, 0 + k * 126, none⟩) 1 (c - k)) w := by
    rw [run_sliceAt_slice w _ _ _ _ _ Tryd.underlying24, hs, hz2]
    simp only [Result.andThen_ok]
    unfold sliced
    rw [show ((k : Int)).toNat = k by omega, show ((k : Int) + 1).toNat = k + 1 by omega, show k + 1 - k = 1 by omega, if_neg (show ¬ c = k by omega)]
    simp only [Option.map_some, addr_add]
  simp only [execOp, ho, hx, hy, hz, Option.map_some, Option.map_none, Sem.run_bind, hr, Result.andThen_ok, Sem.run_pure]
  exact ⟨Ext.refl _, hf⟩
theorem pcEq_got {x' : HT} {a' : Option Addr} {c' : Nat} {a : Option Addr} {c : Nat} {xs : List Int} {x : Pc} (h : HdEq x'.1 x.hd.1 x'.2 x.hd.2) (hb : xs = x.bd) : PcEq (gotP x' a' c' a c xs) x := ⟨hb, (reT_eq x' a' c').trans h⟩
def vecRow (S : Nat → CSt) (i : Nat) : Value := .int .u64 ((S i).l.length : Int)

set_option maxHeartbeats 32000000 in
set_option maxRecDepth 100000 in
theorem lawPuts_any (a : Option Addr) (n c : Nat) (l : List Pc) (ra : Option Addr) (rn rc : Nat) (rs : List Int) (w : World) (h : PisR w a n c l) (hb : BsAt w ra rn rc rs) (hk : KsAt 1 w) (hkw : KsAt 0 w) :
    Calls Tryd.prog 4 #[.slice a n c, .slice ra rn rc] w fun e w' => e = .returned (.bool true) ∧ Ext w w' := by
  have H := Lib.hid h
  have HB := Lib.hid hb
  have HRg := Lib.hid (show ∀ x, Ext w x → KsAt 1 x from fun x hx => hdKs_ext hk hx)
  have HRw := Lib.hid (show ∀ x, Ext w x → KsAt 0 x from fun x hx => hdKs_ext hkw hx)
  have hz := pcZ0
  have HAw := Lib.hid (show ∀ x, Ext w x → Calls Tryd.prog 9 #[] x fun e w' => e = .returned (.bool true) ∧ Ext x w' from fun x hx => awake20_any x (hdKs_ext hk hx) (hdKs_ext hkw hx))
  clear h hb hk hkw
  go_enter Tryd.func4, Tryd.ntmps4
  go_wp2_with fail
  refine (HAw.out w (Ext.refl w)).mono ?_
  rintro e w1 ⟨rfl, hE1⟩
  have HE1 := Lib.hid hE1
  have HFw := Lib.hid (few20_any a n c l 30 w1 (H.out.ext hE1))
  clear hE1
  go_wp2_with fail
  refine HFw.out.mono ?_
  rintro e w2 ⟨v, rfl, ⟨B, rfl, hB⟩, hE⟩
  have HE2 := Lib.hid (HE1.out.trans hE)
  have HBf := Lib.hid hB
  clear hE hB HFw
  cases B with
  | false =>
    go_wp2_with fail
    refine (HAw.out w2 HE2.out).mono ?_
    rintro e w3 ⟨rfl, hE⟩
    have HE3 := Lib.hid (HE2.out.trans hE)
    clear hE
    go_wp2
    go_ret
    exact ⟨rfl, HE3.out⟩
  | true =>
    obtain ⟨hn, htn⟩ := HBf.out rfl
    have hn30 : n ≤ 30 := by omega
    have HP0 := Lib.hid (H.out.full fun j hj => (htn j hj (by omega)).2)
    have HFl := Lib.hid (filled_any a n c l ra rn rc rs w2 (HP0.out.ext HE2.out) hn30 (fun j hj => htn j hj (by omega)) (HB.out.ext HE2.out) (HRg.out w2 HE2.out) (HRw.out w2 HE2.out))
    clear hn htn HBf HAw
    go_wp2_with fail
    refine HFl.out.mono ?_
    rintro e w3 ⟨gx, G, S, gr, R, L, cnt, rfl, hM, hR, hcn⟩
    have HM := Lib.hid hM
    have HR := Lib.hid hR
    have Hcn := Lib.hid (show cnt ≤ 30 by omega)
    have HHd := Lib.hid (ixHeads_any hM.ix (hR.modest (by omega)))
    have HE3 := Lib.hid (HE2.out.trans hM.ext)
    clear hM hR hcn HFl
    go_wp2_with fail
    refine HHd.out.mono ?_
    rintro e w4 ⟨rfl, hE⟩
    obtain ⟨VV, hVV⟩ : ∃ A, (rowArr 6 fun j => Value.int .u64 ((S j).l.length : Int)) = A := ⟨_, rfl⟩
    have HVs := Lib.hid (show VV.size = 6 by rw [← hVV]; exact rowArr_size _ _)
    have HVo := Lib.hid (show VV.all (·.oneCell') = true by rw [← hVV]; exact rowArr_one fun _ _ => rfl)
    rw [hVV]
    obtain ⟨gh, hgh⟩ : ∃ g, w4.heap.size = g := ⟨_, rfl⟩
    obtain ⟨w5, hw5⟩ : ∃ x, w4.alloc (.cells VV 48) = x := ⟨_, rfl⟩
    have hE5 : Ext w4 w5 := by rw [← hw5]; exact (Ext.refl w4).alloc _
    have hR5 : w5.rowIs gh 48 6 (vecRow S) := by
      rw [← hw5]
      refine rowIs_of ((heap_new w4 _ _ hgh.symm).trans ?_)
      rw [← hVV]
      rfl
    have hM5 := HM.out.more (hE.trans hE5)
    have HM5 := Lib.hid hM5
    have HE5 := Lib.hid (HE3.out.trans (hE.trans hE5))
    have HR5 := Lib.hid hR5
    have Hw5 := Lib.hid hw5
    have Hgh := Lib.hid hgh
    clear hVV hgh hw5 hE5 hR5 hM5 hE HM HHd HE3
    go_upto_region 7 with (refine wpList_store_row rfl 48 _ _ rfl _ _ rfl rfl _ _ (heap_new _ _ w4.heap.size rfl) (by rw [HVs.out]; kernel_rfl) (by rw [HVs.out]; rfl) HVo.out ?_; rw [setRow_new _ _ _ _ _ rfl])
    simp only [Act.put]
    refine wp_world (w' := w5) Hw5.out ?_
    rw [Hgh.out]
    clear Hw5
    go_wp2
    go_loopw [9] (fun i y => ∃ m : Nat, m ≤ 10 ∧ i = .int .i64 ((m : Int) - 1) ∧ Ext w5 y) (fun i _ => 10 - ((intOf i) + 1).toNat)
    case atStart => exact ⟨0, by omega, rfl, Ext.refl _⟩
    case round =>
      obtain ⟨m, hm, rfl, hE⟩ := hrel
      have HEy := Lib.hid hE
      rename World => y
      clear hE
      obtain ⟨nI, hnI⟩ : ∃ nI : Int, (m : Int) - 1 = nI := ⟨_, rfl⟩
      have HnM := Lib.hid hnI
      rw [hnI]
      by_cases hlt : nI ≤ 8
      · have HnB := Lib.hid (show -1 ≤ nI ∧ nI ≤ 8 by omega)
        clear hm hnI
        go_wp2
        go_loopw [10] (fun i z => ∃ t : Nat, t ≤ 32 ∧ i = .int .i64 (t : Int) ∧ Ext w5 z) (fun i _ => 32 - (intOf i).toNat)
        case atStart => exact ⟨0, by omega, rfl, HEy.out⟩
        case round =>
          obtain ⟨t, ht, rfl, hE⟩ := hrel
          have HEz := Lib.hid hE
          rename World => z
          clear hE
          by_cases hlt2 : t ≤ 31
          · have x1 : (t : Int) ≤ 31 := by omega
            have hMz := HM5.out.more HEz.out
            have HGt := Lib.hid (ixGet_any hMz.ix (HR.out.modest (by have := Hcn.out; omega)) HR.out.even nI (t : Int) (by have := HnB.out; omega) (by omega))
            have wT : IntKind.u64.wrap (t : Int) = (t : Int) := by rw [IntKind.wrap_u64]; omega
            have HMz := Lib.hid hMz
            clear hMz
            go_wp2_with fail
            refine HGt.out.mono ?_
            rintro e z2 hsay
            have HEz2 := Lib.hid (HEz.out.trans hsay.2.2)
            obtain ⟨gp, hgp⟩ : ∃ g, z2.heap.size = g := ⟨_, rfl⟩
            have Hgp := Lib.hid hgp
            have HMz2 := Lib.hid (HMz.out.more hsay.2.2)
            clear HGt wT
            by_cases hin : 1 ≤ nI ∧ nI ≤ 6 ∧ 1 ≤ (t : Int) ∧ (t : Int) ≤ ((S (nI - 1).toNat).l.length : Int)
            · obtain ⟨a', c', pa, pc, rfl, hat⟩ := hsay.2.1 hin
              obtain ⟨i, hnI, hi⟩ : ∃ i : Nat, nI = (i : Int) + 1 ∧ i < 6 := ⟨(nI - 1).toNat, by omega, by omega⟩
              obtain ⟨k, hk⟩ : ∃ k : Nat, (t : Int) = (k : Int) + 1 := ⟨t - 1, by omega⟩
              have e1 : (nI - 1).toNat = i := by omega
              have e2 : ((t : Int)).toNat - 1 = k := by omega
              rw [e1, e2] at hat
              rw [e1] at hin
              rw [e1, e2]
              have hkl : k < (L i).length := by
                rw [← HR.out.ll i hi]
                omega
              have heq := HR.out.eq i hi k hkl
              obtain ⟨p2, hp2⟩ : ∃ p2, gotP ((S i).l.getD k htN) a' c' pa pc ((S i).bl.getD k bdN).1 = p2 := ⟨_, rfl⟩
              obtain ⟨x, hx⟩ : ∃ x, (L i).getD k pcN = x := ⟨_, rfl⟩
              have hpe : PcEq p2 x := by
                rw [← hp2, ← hx]
                exact pcEq_got heq.1 heq.2
              rw [hp2] at hat ⊢
              obtain ⟨PV, hPV⟩ : ∃ A, pcV p2 = A := ⟨_, rfl⟩
              rw [hPV]
              obtain ⟨z3, hz3⟩ : ∃ q, z2.alloc (.cells PV 37) = q := ⟨_, rfl⟩
              have hE3 : Ext z2 z3 := by rw [← hz3]; exact (Ext.refl z2).alloc _
              have hM3 := HMz2.out.more hE3
              have hpis := hM3.ri.pis i hi (by have := HR.out.small (by have := Hcn.out; omega) i hi; omega)
              have hrow := hM3.ri.row.cell (i := i) hi
              unfold rsl at hrow
              obtain ⟨N, hN⟩ : ∃ N, (L i).length = N := ⟨_, rfl⟩
              obtain ⟨sa, hsa⟩ : ∃ N, (R i).1 = N := ⟨_, rfl⟩
              obtain ⟨sc, hsc⟩ : ∃ N, (R i).2 = N := ⟨_, rfl⟩
              have hlen := HR.out.ll i hi
              rw [hN] at hkl hpis hrow hlen
              rw [hsa, hsc] at hrow hpis
              have hsm := hpis.small
              obtain ⟨sb, hsb⟩ : ∃ sb, sa = some ⟨sb, 0, none⟩ := by
                have ho := hM3.ri.own i hi
                unfold rsl at ho
                rw [hsa, hsc, hN] at ho
                rcases ho.2 with ⟨h1, h3⟩ | ⟨gg, cap, cur, h1, _⟩
                · omega
                · simp only [Value.slice.injEq] at h1
                  exact ⟨gg, h1.1⟩
              rw [hsb] at hpis hrow
              have hone := hpis.one k hkl
              rw [hx] at hone
              have Hlx := Lib.hid (show ∀ y, Ext z3 y → PisAt y (some ⟨sb, 0 + k * 126, none⟩) 1 (sc - k) [x] from fun y hy => hone.ext hy)
              have HCr := Lib.hid (show ∀ y, Ext z3 y → y.cell? ⟨gr, i, none⟩ = some (.slice (some ⟨sb, 0, none⟩) N sc) from fun y hy => by rw [Ext.cell hy (World.block_lt_of_cell? _ _ hrow)]; exact hrow)
              have Hat := Lib.hid (show ∀ y, Ext z3 y → PcAt y p2 from fun y hy => hat.ext (hE3.trans hy))
              have HEq := Lib.hid (show ∀ j, j < 1 → PcEq ([p2].getD j pcN) ([x].getD j pcN) from fun j hj => by
                obtain rfl : j = 0 := by omega
                exact hpe)
              have HkN := Lib.hid hkl
              have HNc := Lib.hid hpis.cap
              have HPV := Lib.hid hPV
              have HPs := Lib.hid (show PV.size = 126 by rw [← hPV]; exact pcV_size _)
              have HPo := Lib.hid (show PV.all (·.oneCell') = true by rw [← hPV]; exact pcV_one _)
              have HBp := Lib.hid (show z3.heap[gp]? = some (.cells PV 37 (0, 0)) by rw [← hz3]; exact heap_new z2 _ _ hgp.symm)
              have Hz3 := Lib.hid hz3
              have HE3 := Lib.hid (HEz2.out.trans hE3)
              have Hi := Lib.hid hi
              have HnI := Lib.hid hnI
              have Hk32 := Lib.hid (show (k : Int) ≤ 32 by omega)
              have Ht := Lib.hid (show t ≤ 31 from hlt2)
              have f1 : 1 ≤ nI := hin.1
              have f2 : nI ≤ 6 := hin.2.1
              have f3 : (1 : Int) ≤ (k : Int) + 1 := by omega
              have f4 : (k : Int) + 1 ≤ (N : Int) := by omega
              have f5 : min nI 6 = nI := by omega
              have f6 : max nI 1 = nI := by omega
              have f7 : IntKind.i64.wrap (nI - 1) = (i : Int) := by rw [IntKind.wrap_i64]; omega
              have f8 : (i : Int) < 6 := by omega
              rw [hk]
              have Htk := Lib.hid hk
              clear hsay hin hat hnI hk e1 e2 heq hp2 hx hpe hPV hz3 hE3 hM3 hpis hrow hN hsa hsc hlen hsb hone hgp hi hkl hlt2 x1 hlt
              go_upto_region 14 with (refine wpList_store_row rfl 37 _ _ rfl _ _ rfl rfl _ _ (heap_new _ _ z2.heap.size rfl) (by rw [HPs.out]; kernel_rfl) (by rw [HPs.out, pcV_size]) HPo.out ?_; rw [setRow_new _ _ _ _ _ rfl])
              refine wp_world (w' := z3) Hz3.out ?_
              rw [Hgp.out]
              clear Hz3
              have hcr := HCr.out z3 (Ext.refl z3)
              go_upto_region 15 with (fail)
              clear f1 f2 f3 f4 f5 f6 f7 f8 hcr
              have HX := Lib.hid (show ∀ x, Ext z3.drew x → Ext z3 x from fun x hx => Ext.trans (Ext.refl z3).drew hx)
              refine wp_region_lexA (by kernel_rfl) (by kernel_rfl) ?_
              refine lx_e (.bool true) [] (by kernel_rfl) rfl (by rfl) (fun w1 hw1 => ?_) ?_
              · simp only [pk, lexVals]
                clear hw1
                go_simp
                exact ⟨Ext.refl _, by first | rfl | simp⟩
              refine lx_e (.bool false) [(0, 73)] (by kernel_rfl) rfl (by rfl) (fun w1 hw1 => ?_) ?_
              · simp only [pk, nthSp, lexVals]
                clear hw1
                go_simp
                exact ⟨Ext.refl _, by first | rfl | simp⟩
              refine lx_e (.bool false) [(0, 74)] (by kernel_rfl) rfl (by rfl) (fun w1 hw1 => ?_) ?_
              · simp only [pk, nthSp, lexVals]
                clear hw1
                go_simp
                exact ⟨Ext.refl _, by first | rfl | simp⟩
              refine lx_no [(0, 75)] 75 (by kernel_rfl) rfl (by kernel_rfl) (by rfl) (fun w1 => ?_) ?_
              · simp only [pk, nthSp, lexVals]
                first | (go_simp; done) | (go_simp; exact fun h => by cases h)
              refine lx_no [(0, 76), (1, 75)] 75 (by kernel_rfl) rfl (by kernel_rfl) (by rfl) (fun w1 => ?_) ?_
              · simp only [pk, nthSp, lexVals]
                first | (go_simp; done) | (go_simp; exact fun h => by cases h)
              refine lx_no [(0, 77), (2, 75)] 75 (by kernel_rfl) rfl (by kernel_rfl) (by rfl) (fun w1 => ?_) ?_
              · simp only [pk, nthSp, lexVals]
                first | (go_simp; done) | (go_simp; exact fun h => by cases h)
              refine lx_no [(0, 78)] 78 (by kernel_rfl) rfl (by kernel_rfl) (by rfl) (fun w1 => ?_) ?_
              · simp only [pk, nthSp, lexVals]
                first | (go_simp; done) | (go_simp; exact fun h => by cases h)
              refine lx_no [(0, 79), (1, 78)] 78 (by kernel_rfl) rfl (by kernel_rfl) (by rfl) (fun w1 => ?_) ?_
              · simp only [pk, nthSp, lexVals]
                first | (go_simp; done) | (go_simp; exact fun h => by cases h)
              refine lx_no [(0, 80), (2, 78)] 78 (by kernel_rfl) rfl (by kernel_rfl) (by rfl) (fun w1 => ?_) ?_
              · simp only [pk, nthSp, lexVals]
                first | (go_simp; done) | (go_simp; exact fun h => by cases h)
              refine lx_no [(0, 81), (3, 78)] 78 (by kernel_rfl) rfl (by kernel_rfl) (by rfl) (fun w1 => ?_) ?_
              · simp only [pk, nthSp, lexVals]
                first | (go_simp; done) | (go_simp; exact fun h => by cases h)
              refine lx_no [(4, 78), (0, 82), (7, 75)] 75 (by kernel_rfl) rfl (by kernel_rfl) (by rfl) (fun w1 => ?_) ?_
              · simp only [pk, nthSp, lexVals]
                first | (go_simp; done) | (go_simp; exact fun h => by cases h)
              refine lx_e (.bool false) [(8, 75), (0, 83)] (by kernel_rfl) rfl (by rfl) (fun w1 hw1 => ?_) ?_
              · simp only [pk, nthSp, lexVals]
                clear hw1
                go_simp
                exact ⟨Ext.refl _, by first | rfl | simp⟩
              refine lx_e (.bool false) [(0, 84)] (by kernel_rfl) rfl (by rfl) (fun w1 hw1 => ?_) ?_
              · simp only [pk, nthSp, lexVals]
                clear hw1
                go_simp
                exact ⟨Ext.refl _, by first | rfl | simp⟩
              refine lx_ge (.bool true) [(0, 85)] 85 (by kernel_rfl) rfl (by kernel_rfl) (by rfl) (fun w1 => ?_) (fun w1 hw1 => ?_) ?_
              · simp only [pk, nthSp, lexVals]
                rfl
              · simp only [pk, nthSp, lexVals]
                clear hw1
                go_simp
                exact ⟨Ext.refl _, by first | rfl | simp⟩
              refine lx_ge (.bool true) [(0, 86), (1, 85)] 85 (by kernel_rfl) rfl (by kernel_rfl) (by rfl) (fun w1 => ?_) (fun w1 hw1 => ?_) ?_
              · simp only [pk, nthSp, lexVals]
                rfl
              · simp only [pk, nthSp, lexVals]
                clear hw1
                go_simp
                exact ⟨Ext.refl _, by first | rfl | simp⟩
              refine lx_ge (.int .i64 0) [(0, 87)] 87 (by kernel_rfl) rfl (by kernel_rfl) (by rfl) (fun w1 => ?_) (fun w1 hw1 => ?_) ?_
              · simp only [pk, nthSp, lexVals]
                rfl
              · simp only [pk, nthSp, lexVals]
                clear hw1
                go_simp
                exact ⟨Ext.refl _, by first | rfl | simp⟩
              refine lx_ge (.bool false) [(0, 88), (1, 87)] 87 (by kernel_rfl) rfl (by kernel_rfl) (by rfl) (fun w1 => ?_) (fun w1 hw1 => ?_) ?_
              · simp only [pk, nthSp, lexVals]
                rfl
              · simp only [pk, nthSp, lexVals]
                clear hw1
                go_simp
                exact ⟨Ext.refl _, by first | rfl | simp⟩
              refine lx_ge (.bool false) [(0, 89), (2, 87)] 87 (by kernel_rfl) rfl (by kernel_rfl) (by rfl) (fun w1 => ?_) (fun w1 hw1 => ?_) ?_
              · simp only [pk, nthSp, lexVals]
                rfl
              · simp only [pk, nthSp, lexVals]
                clear hw1
                go_simp
                exact ⟨Ext.refl _, by first | rfl | simp⟩
              refine lx_ge (.agg PV) [(0, 90)] 90 (by kernel_rfl) rfl (by kernel_rfl) (by rfl) (fun w1 => ?_) (fun w1 hw1 => ?_) ?_
              · simp only [pk, nthSp, lexVals]
                rfl
              · simp only [pk, nthSp, lexVals]
                exact lu_row rfl rfl ((HX.out w1 hw1).keep HBp.out) Tryd.underlying37 rfl (by rw [HPs.out]; kernel_rfl)
              refine lx_ga (fun u w => ∃ z, u = .slice (some ⟨z, 0, none⟩) 1 1 ∧ PisAt w (some ⟨z, 0, none⟩) 1 1 [p2]) [(0, 91), (1, 90)] 90 (by kernel_rfl) rfl (by kernel_rfl) (by rfl) (fun u w w' he ⟨z, h1, h2⟩ => ⟨z, h1, h2.ext he⟩) (fun w1 => ?_) (fun w1 hw1 => ?_) ?_
              · simp only [pk, nthSp, lexVals]
                rfl
              · simp only [pk, nthSp, lexVals]
                have hat := Hat.out w1 (HX.out w1 hw1)
                have hpve := HPV.out
                clear hw1
                rw [← hpve]
                exact lu_pc1 rfl rfl ⟨w1.heap.size, rfl, pis_one (heap_new w1 _ _ rfl) (hat.ext ((Ext.refl w1).alloc _))⟩
              refine lx_ge (.pointer (some ⟨gr, 0, none⟩)) [(2, 90)] 90 (by kernel_rfl) rfl (by kernel_rfl) (by rfl) (fun w1 => ?_) (fun w1 hw1 => ?_) ?_
              · simp only [pk, nthSp, lexVals]
                rfl
              · simp only [pk, nthSp, lexVals]
                clear hw1
                go_simp
                exact ⟨Ext.refl _, by first | rfl | simp⟩
              refine lx_ge (.int .i64 nI) [(3, 90)] 90 (by kernel_rfl) rfl (by kernel_rfl) (by rfl) (fun w1 => ?_) (fun w1 hw1 => ?_) ?_
              · simp only [pk, nthSp, lexVals]
                rfl
              · simp only [pk, nthSp, lexVals]
                clear hw1
                go_simp
                exact ⟨Ext.refl _, by first | rfl | simp⟩
              refine lx_ge (.int .i64 (i : Int)) [(0, 94), (4, 90)] 90 (by kernel_rfl) rfl (by kernel_rfl) (by rfl) (fun w1 => ?_) (fun w1 hw1 => ?_) ?_
              · simp only [pk, nthSp, lexVals]
                rfl
              · simp only [pk, nthSp, lexVals]
                have hi := HnI.out
                have hi2 := Hi.out
                clear hw1
                go_simp
                exact ⟨Ext.refl _, by first | rfl | (show Value.int .i64 _ = Value.int .i64 _; congr 1; first | omega | (rw [IntKind.wrap_i64]; omega))⟩
              refine lx_ge (.pointer (some ⟨gr, 0, none⟩)) [(2, 93), (5, 90)] 90 (by kernel_rfl) rfl (by kernel_rfl) (by rfl) (fun w1 => ?_) (fun w1 hw1 => ?_) ?_
              · simp only [pk, nthSp, lexVals]
                rfl
              · simp only [pk, nthSp, lexVals]
                clear hw1
                go_simp
                exact ⟨Ext.refl _, by first | rfl | simp⟩
              refine lx_ge (.pointer (some ⟨gr, 0, none⟩)) [(0, 96), (6, 90)] 90 (by kernel_rfl) rfl (by kernel_rfl) (by rfl) (fun w1 => ?_) (fun w1 hw1 => ?_) ?_
              · simp only [pk, nthSp, lexVals]
                rfl
              · simp only [pk, nthSp, lexVals]
                clear hw1
                go_simp
                exact ⟨Ext.refl _, by first | rfl | simp⟩
              refine lx_ge (.pointer (some ⟨gr, i, none⟩)) [(2, 95), (0, 97), (7, 90)] 90 (by kernel_rfl) rfl (by kernel_rfl) (by rfl) (fun w1 => ?_) (fun w1 hw1 => ?_) ?_
              · simp only [pk, nthSp, lexVals]
                rfl
              · simp only [pk, nthSp, lexVals]
                have hi : (i : Int) < 6 := by have := Hi.out; omega
                clear hw1
                go_simp
                exact ⟨Ext.refl _, by first | rfl | simp⟩
              refine lx_ge (.slice (some ⟨sb, 0, none⟩) N sc) [(0, 98), (8, 90)] 90 (by kernel_rfl) rfl (by kernel_rfl) (by rfl) (fun w1 => ?_) (fun w1 hw1 => ?_) ?_
              · simp only [pk, nthSp, lexVals]
                rfl
              · simp only [pk, nthSp, lexVals]
                have hc := HCr.out w1 (HX.out w1 hw1)
                clear hw1
                go_simp
                exact ⟨Ext.refl _, by first | rfl | simp⟩
              refine lx_ge (.int .i64 ((k : Int) + 1)) [(9, 90)] 90 (by kernel_rfl) rfl (by kernel_rfl) (by rfl) (fun w1 => ?_) (fun w1 hw1 => ?_) ?_
              · simp only [pk, nthSp, lexVals]
                rfl
              · simp only [pk, nthSp, lexVals]
                clear hw1
                go_simp
                exact ⟨Ext.refl _, by first | rfl | simp⟩
              refine lx_ge (.int .i64 (k : Int)) [(0, 100), (10, 90)] 90 (by kernel_rfl) rfl (by kernel_rfl) (by rfl) (fun w1 => ?_) (fun w1 hw1 => ?_) ?_
              · simp only [pk, nthSp, lexVals]
                rfl
              · simp only [pk, nthSp, lexVals]
                have hi := Hk32.out
                clear hw1
                go_simp
                exact ⟨Ext.refl _, by first | rfl | (show Value.int .i64 _ = Value.int .i64 _; congr 1; first | omega | (rw [IntKind.wrap_i64]; omega))⟩
              refine lx_ge (.int .i64 ((k : Int) + 1)) [(11, 90)] 90 (by kernel_rfl) rfl (by kernel_rfl) (by rfl) (fun w1 => ?_) (fun w1 hw1 => ?_) ?_
              · simp only [pk, nthSp, lexVals]
                rfl
              · simp only [pk, nthSp, lexVals]
                clear hw1
                go_simp
                exact ⟨Ext.refl _, by first | rfl | simp⟩
              refine lx_ga (fun u w => ∃ q d, u = .slice q 1 d ∧ PisAt w q 1 d [x]) [(3, 99), (1, 101), (0, 102), (12, 90)] 90 (by kernel_rfl) rfl (by kernel_rfl) (by rfl) (fun u w w' he ⟨q, d, h1, h2⟩ => ⟨q, d, h1, h2.ext he⟩) (fun w1 => ?_) (fun w1 hw1 => ?_) ?_
              · simp only [pk, nthSp, lexVals]
                rfl
              · simp only [pk, nthSp, lexVals]
                have hat := Hlx.out w1 (HX.out w1 hw1)
                exact lu_oneP rfl rfl rfl rfl HkN.out HNc.out ⟨_, _, rfl, hat⟩
              refine lx_ge (.bool true) [(11, 92), (0, 103), (13, 90)] 90 (by kernel_rfl) rfl (by kernel_rfl) (by rfl) (fun w1 => ?_) (fun w1 hw1 => ?_) ?_
              · simp only [pk, nthSp, lexVals]
                rintro u92 ⟨z92, rfl, -⟩
                rintro u103 ⟨q103, d103, rfl, -⟩
                rfl
              · simp only [pk, nthSp, lexVals]
                rintro u92 ⟨z92, rfl, h92⟩
                rintro u103 ⟨q103, d103, rfl, h103⟩
                have hm := refSame_any _ 1 _ [p2] _ _ [x] w1 h92 h103 HEq.out
                have HM := Lib.hid hm
                clear hm hw1 h92 h103
                go_simp
                refine HM.out.mono ?_
                rintro e w3 ⟨rfl, hE3⟩
                exact ⟨_, rfl, hE3, rfl⟩
              refine lx_ge (.bool false) [(0, 104), (14, 90)] 90 (by kernel_rfl) rfl (by kernel_rfl) (by rfl) (fun w1 => ?_) (fun w1 hw1 => ?_) ?_
              · simp only [pk, nthSp, lexVals]
                rfl
              · simp only [pk, nthSp, lexVals]
                clear hw1
                go_simp
                exact ⟨Ext.refl _, by first | rfl | simp⟩
              refine lx_ge (.bool false) [(15, 90), (0, 105), (18, 87)] 87 (by kernel_rfl) rfl (by kernel_rfl) (by rfl) (fun w1 => ?_) (fun w1 hw1 => ?_) ?_
              · simp only [pk, nthSp, lexVals]
                rfl
              · simp only [pk, nthSp, lexVals]
                clear hw1
                go_simp
                exact ⟨Ext.refl _, by first | rfl | simp⟩
              refine lx_ge (.bool false) [(19, 87), (0, 106), (21, 85)] 85 (by kernel_rfl) rfl (by kernel_rfl) (by rfl) (fun w1 => ?_) (fun w1 hw1 => ?_) ?_
              · simp only [pk, nthSp, lexVals]
                rfl
              · simp only [pk, nthSp, lexVals]
                clear hw1
                go_simp
                exact ⟨Ext.refl _, by first | rfl | simp⟩
              refine lx_e (.bool false) [(22, 85), (0, 107)] (by kernel_rfl) rfl (by rfl) (fun w1 hw1 => ?_) ?_
              · simp only [pk, nthSp, lexVals]
                clear hw1
                go_simp
                exact ⟨Ext.refl _, by first | rfl | simp⟩
              refine lx_stopA (by rfl) fun z4 hz4 => ?_
              have HE4 := Lib.hid (HE3.out.trans (HX.out z4 hz4))
              clear hz4 HX Hlx HCr Hat HBp
              simp only [rv, pf, lexVals]
              rintro u92 ⟨z92, rfl, -⟩ u103 ⟨q103, d103, rfl, -⟩
              simp only [Act.put, List.setIfInBounds_toArray, List.set_cons_zero, List.set_cons_succ]
              have wK : IntKind.i64.wrap ((k : Int) + 1 + 1) = (k : Int) + 1 + 1 := by have := Hk32.out; rw [IntKind.wrap_i64]; omega
              go_wp2
              go_roundw
              case rel => exact ⟨t + 1, by have := Ht.out; omega, by have := Htk.out; first | (congr 1; omega) | go_num, HE4.out⟩
              case measure => have := Ht.out; have := Htk.out; simp [intOf]; omega
            · obtain rfl := hsay.1 hin
              obtain ⟨PV, hPV⟩ : ∃ A, pcV pcZ = A := ⟨_, rfl⟩
              rw [hPV]
              obtain ⟨z3, hz3⟩ : ∃ q, z2.alloc (.cells PV 37) = q := ⟨_, rfl⟩
              have hE3 : Ext z2 z3 := by rw [← hz3]; exact (Ext.refl z2).alloc _
              have HPs := Lib.hid (show PV.size = 126 by rw [← hPV]; exact pcV_size _)
              have HPo := Lib.hid (show PV.all (·.oneCell') = true by rw [← hPV]; exact pcV_one _)
              have hbp : z3.heap[gp]? = some (.cells (pcV pcZ) 37 (0, 0)) := by rw [← hz3, ← hPV]; exact heap_new z2 _ _ hgp.symm
              have HCp := Lib.hid (show ∀ y, Ext z3 y → y.cell? ⟨gp, 125, none⟩ = some (.slice none 0 0) from fun y hy => pc_body (hy.keep hbp))
              have Hz3 := Lib.hid hz3
              have HE3 := Lib.hid (HEz2.out.trans hE3)
              have Hin := Lib.hid hin
              have Ht := Lib.hid (show t ≤ 31 from hlt2)
              have HM3 := Lib.hid (HMz2.out.more hE3)
              clear hsay hin hPV hz3 hE3 hbp hgp hlt2 x1 hlt
              go_upto_region 14 with (refine wpList_store_row rfl 37 _ _ rfl _ _ rfl rfl _ _ (heap_new _ _ z2.heap.size rfl) (by rw [HPs.out]; kernel_rfl) (by rw [HPs.out, pcV_size]) HPo.out ?_; rw [setRow_new _ _ _ _ _ rfl])
              refine wp_world (w' := z3) Hz3.out ?_
              rw [Hgp.out]
              clear Hz3
              go_cut [13] (fun v zc => v = .bool false ∧ zc = z3)
              case first =>
                by_cases f1 : 1 ≤ nI
                · by_cases f2 : nI ≤ 6
                  · by_cases f3 : (1 : Int) ≤ (t : Int)
                    · obtain ⟨i, hnI, hi⟩ : ∃ i : Nat, nI = (i : Int) + 1 ∧ i < 6 := ⟨(nI - 1).toNat, by omega, by omega⟩
                      have hrow := HM3.out.ri.row.cell (i := i) hi
                      unfold rsl at hrow
                      obtain ⟨N, hN⟩ : ∃ N, (L i).length = N := ⟨_, rfl⟩
                      rw [hN] at hrow
                      have f4 : ¬ (t : Int) ≤ (N : Int) := fun h4 => Hin.out ⟨f1, f2, f3, by
                        have e1 : (nI - 1).toNat = i := by omega
                        rw [e1, HR.out.ll i hi, hN]
                        exact h4⟩
                      have f5 : min nI 6 = nI := by omega
                      have f6 : max nI 1 = nI := by omega
                      have f7 : IntKind.i64.wrap (nI - 1) = (i : Int) := by rw [IntKind.wrap_i64]; omega
                      have f8 : (i : Int) < 6 := by omega
                      clear hnI hi hN
                      go_wp2
                      go_meet
                      case rel => exact ⟨rfl, rfl⟩
                    · go_wp2
                      go_meet
                      case rel => exact ⟨rfl, rfl⟩
                  · go_wp2
                    go_meet
                    case rel => exact ⟨rfl, rfl⟩
                · go_wp2
                  go_meet
                  case rel => exact ⟨rfl, rfl⟩
              case rest =>
                obtain ⟨rfl, hwc⟩ := hcut
                subst hwc
                go_upto_region 15 with (fail)
                have HX := Lib.hid (show ∀ x, Ext wc.drew x → Ext wc x from fun x hx => Ext.trans (Ext.refl wc).drew hx)
                refine wp_region_lexA (by kernel_rfl) (by kernel_rfl) ?_
                refine lx_e (.bool false) [] (by kernel_rfl) rfl (by rfl) (fun w1 hw1 => ?_) ?_
                · simp only [pk, lexVals]
                  clear hw1
                  go_simp
                  exact ⟨Ext.refl _, by first | rfl | simp⟩
                refine lx_e (.bool true) [(0, 73)] (by kernel_rfl) rfl (by rfl) (fun w1 hw1 => ?_) ?_
                · simp only [pk, nthSp, lexVals]
                  clear hw1
                  go_simp
                  exact ⟨Ext.refl _, by first | rfl | simp⟩
                refine lx_e (.bool true) [(0, 74)] (by kernel_rfl) rfl (by rfl) (fun w1 hw1 => ?_) ?_
                · simp only [pk, nthSp, lexVals]
                  clear hw1
                  go_simp
                  exact ⟨Ext.refl _, by first | rfl | simp⟩
                refine lx_ge (.int .i64 11) [(0, 75)] 75 (by kernel_rfl) rfl (by kernel_rfl) (by rfl) (fun w1 => ?_) (fun w1 hw1 => ?_) ?_
                · simp only [pk, nthSp, lexVals]
                  rfl
                · simp only [pk, nthSp, lexVals]
                  clear hw1
                  go_simp
                  exact ⟨Ext.refl _, by first | rfl | simp⟩
                refine lx_ge (.bool false) [(0, 76), (1, 75)] 75 (by kernel_rfl) rfl (by kernel_rfl) (by rfl) (fun w1 => ?_) (fun w1 hw1 => ?_) ?_
                · simp only [pk, nthSp, lexVals]
                  rfl
                · simp only [pk, nthSp, lexVals]
                  clear hw1
                  go_simp
                  exact ⟨Ext.refl _, by first | rfl | simp⟩
                refine lx_ge (.bool false) [(0, 77), (2, 75)] 75 (by kernel_rfl) rfl (by kernel_rfl) (by rfl) (fun w1 => ?_) (fun w1 hw1 => ?_) ?_
                · simp only [pk, nthSp, lexVals]
                  rfl
                · simp only [pk, nthSp, lexVals]
                  clear hw1
                  go_simp
                  exact ⟨Ext.refl _, by first | rfl | simp⟩
                refine lx_ge (.pointer (some ⟨gp, 125, none⟩)) [(0, 78)] 78 (by kernel_rfl) rfl (by kernel_rfl) (by rfl) (fun w1 => ?_) (fun w1 hw1 => ?_) ?_
                · simp only [pk, nthSp, lexVals]
                  rfl
                · simp only [pk, nthSp, lexVals]
                  clear hw1
                  go_simp
                  exact ⟨Ext.refl _, by first | rfl | simp⟩
                refine lx_ge (.slice none 0 0) [(0, 79), (1, 78)] 78 (by kernel_rfl) rfl (by kernel_rfl) (by rfl) (fun w1 => ?_) (fun w1 hw1 => ?_) ?_
                · simp only [pk, nthSp, lexVals]
                  rfl
                · simp only [pk, nthSp, lexVals]
                  have hc := HCp.out w1 (HX.out w1 hw1)
                  clear hw1
                  go_simp
                  exact ⟨Ext.refl _, by first | rfl | simp⟩
                refine lx_ge (.int .i64 0) [(0, 80), (2, 78)] 78 (by kernel_rfl) rfl (by kernel_rfl) (by rfl) (fun w1 => ?_) (fun w1 hw1 => ?_) ?_
                · simp only [pk, nthSp, lexVals]
                  rfl
                · simp only [pk, nthSp, lexVals]
                  clear hw1
                  go_simp
                  exact ⟨Ext.refl _, by first | rfl | simp⟩
                refine lx_ge (.bool false) [(0, 81), (3, 78)] 78 (by kernel_rfl) rfl (by kernel_rfl) (by rfl) (fun w1 => ?_) (fun w1 hw1 => ?_) ?_
                · simp only [pk, nthSp, lexVals]
                  rfl
                · simp only [pk, nthSp, lexVals]
                  clear hw1
                  go_simp
                  exact ⟨Ext.refl _, by first | rfl | simp⟩
                refine lx_ge (.bool false) [(4, 78), (0, 82), (7, 75)] 75 (by kernel_rfl) rfl (by kernel_rfl) (by rfl) (fun w1 => ?_) (fun w1 hw1 => ?_) ?_
                · simp only [pk, nthSp, lexVals]
                  rfl
                · simp only [pk, nthSp, lexVals]
                  clear hw1
                  go_simp
                  exact ⟨Ext.refl _, by first | rfl | simp⟩
                refine lx_e (.bool false) [(8, 75), (0, 83)] (by kernel_rfl) rfl (by rfl) (fun w1 hw1 => ?_) ?_
                · simp only [pk, nthSp, lexVals]
                  clear hw1
                  go_simp
                  exact ⟨Ext.refl _, by first | rfl | simp⟩
                refine lx_e (.bool false) [(0, 84)] (by kernel_rfl) rfl (by rfl) (fun w1 hw1 => ?_) ?_
                · simp only [pk, nthSp, lexVals]
                  clear hw1
                  go_simp
                  exact ⟨Ext.refl _, by first | rfl | simp⟩
                refine lx_ge (.bool false) [(0, 85)] 85 (by kernel_rfl) rfl (by kernel_rfl) (by rfl) (fun w1 => ?_) (fun w1 hw1 => ?_) ?_
                · simp only [pk, nthSp, lexVals]
                  rfl
                · simp only [pk, nthSp, lexVals]
                  clear hw1
                  go_simp
                  exact ⟨Ext.refl _, by first | rfl | simp⟩
                refine lx_ge (.bool false) [(0, 86), (1, 85)] 85 (by kernel_rfl) rfl (by kernel_rfl) (by rfl) (fun w1 => ?_) (fun w1 hw1 => ?_) ?_
                · simp only [pk, nthSp, lexVals]
                  rfl
                · simp only [pk, nthSp, lexVals]
                  clear hw1
                  go_simp
                  exact ⟨Ext.refl _, by first | rfl | simp⟩
                refine lx_no [(0, 87)] 87 (by kernel_rfl) rfl (by kernel_rfl) (by rfl) (fun w1 => ?_) ?_
                · simp only [pk, nthSp, lexVals]
                  first | (go_simp; done) | (go_simp; exact fun h => by cases h)
                refine lx_no [(0, 88), (1, 87)] 87 (by kernel_rfl) rfl (by kernel_rfl) (by rfl) (fun w1 => ?_) ?_
                · simp only [pk, nthSp, lexVals]
                  first | (go_simp; done) | (go_simp; exact fun h => by cases h)
                refine lx_no [(0, 89), (2, 87)] 87 (by kernel_rfl) rfl (by kernel_rfl) (by rfl) (fun w1 => ?_) ?_
                · simp only [pk, nthSp, lexVals]
                  first | (go_simp; done) | (go_simp; exact fun h => by cases h)
                refine lx_no [(0, 90)] 90 (by kernel_rfl) rfl (by kernel_rfl) (by rfl) (fun w1 => ?_) ?_
                · simp only [pk, nthSp, lexVals]
                  first | (go_simp; done) | (go_simp; exact fun h => by cases h)
                refine lx_no [(0, 91), (1, 90)] 90 (by kernel_rfl) rfl (by kernel_rfl) (by rfl) (fun w1 => ?_) ?_
                · simp only [pk, nthSp, lexVals]
                  first | (go_simp; done) | (go_simp; exact fun h => by cases h)
                refine lx_no [(2, 90)] 90 (by kernel_rfl) rfl (by kernel_rfl) (by rfl) (fun w1 => ?_) ?_
                · simp only [pk, nthSp, lexVals]
                  first | (go_simp; done) | (go_simp; exact fun h => by cases h)
                refine lx_no [(3, 90)] 90 (by kernel_rfl) rfl (by kernel_rfl) (by rfl) (fun w1 => ?_) ?_
                · simp only [pk, nthSp, lexVals]
                  first | (go_simp; done) | (go_simp; exact fun h => by cases h)
                refine lx_no [(0, 94), (4, 90)] 90 (by kernel_rfl) rfl (by kernel_rfl) (by rfl) (fun w1 => ?_) ?_
                · simp only [pk, nthSp, lexVals]
                  first | (go_simp; done) | (go_simp; exact fun h => by cases h)
                refine lx_no [(2, 93), (5, 90)] 90 (by kernel_rfl) rfl (by kernel_rfl) (by rfl) (fun w1 => ?_) ?_
                · simp only [pk, nthSp, lexVals]
                  first | (go_simp; done) | (go_simp; exact fun h => by cases h)
                refine lx_no [(0, 96), (6, 90)] 90 (by kernel_rfl) rfl (by kernel_rfl) (by rfl) (fun w1 => ?_) ?_
                · simp only [pk, nthSp, lexVals]
                  first | (go_simp; done) | (go_simp; exact fun h => by cases h)
                refine lx_no [(2, 95), (0, 97), (7, 90)] 90 (by kernel_rfl) rfl (by kernel_rfl) (by rfl) (fun w1 => ?_) ?_
                · simp only [pk, nthSp, lexVals]
                  first | (go_simp; done) | (go_simp; exact fun h => by cases h)
                refine lx_no [(0, 98), (8, 90)] 90 (by kernel_rfl) rfl (by kernel_rfl) (by rfl) (fun w1 => ?_) ?_
                · simp only [pk, nthSp, lexVals]
                  first | (go_simp; done) | (go_simp; exact fun h => by cases h)
                refine lx_no [(9, 90)] 90 (by kernel_rfl) rfl (by kernel_rfl) (by rfl) (fun w1 => ?_) ?_
                · simp only [pk, nthSp, lexVals]
                  first | (go_simp; done) | (go_simp; exact fun h => by cases h)
                refine lx_no [(0, 100), (10, 90)] 90 (by kernel_rfl) rfl (by kernel_rfl) (by rfl) (fun w1 => ?_) ?_
                · simp only [pk, nthSp, lexVals]
                  first | (go_simp; done) | (go_simp; exact fun h => by cases h)
                refine lx_no [(11, 90)] 90 (by kernel_rfl) rfl (by kernel_rfl) (by rfl) (fun w1 => ?_) ?_
                · simp only [pk, nthSp, lexVals]
                  first | (go_simp; done) | (go_simp; exact fun h => by cases h)
                refine lx_no [(3, 99), (1, 101), (0, 102), (12, 90)] 90 (by kernel_rfl) rfl (by kernel_rfl) (by rfl) (fun w1 => ?_) ?_
                · simp only [pk, nthSp, lexVals]
                  first | (go_simp; done) | (go_simp; exact fun h => by cases h)
                refine lx_no [(11, 92), (0, 103), (13, 90)] 90 (by kernel_rfl) rfl (by kernel_rfl) (by rfl) (fun w1 => ?_) ?_
                · simp only [pk, nthSp, lexVals]
                  first | (go_simp; done) | (go_simp; exact fun h => by cases h)
                refine lx_no [(0, 104), (14, 90)] 90 (by kernel_rfl) rfl (by kernel_rfl) (by rfl) (fun w1 => ?_) ?_
                · simp only [pk, nthSp, lexVals]
                  first | (go_simp; done) | (go_simp; exact fun h => by cases h)
                refine lx_no [(15, 90), (0, 105), (18, 87)] 87 (by kernel_rfl) rfl (by kernel_rfl) (by rfl) (fun w1 => ?_) ?_
                · simp only [pk, nthSp, lexVals]
                  first | (go_simp; done) | (go_simp; exact fun h => by cases h)
                refine lx_ge (.bool false) [(19, 87), (0, 106), (21, 85)] 85 (by kernel_rfl) rfl (by kernel_rfl) (by rfl) (fun w1 => ?_) (fun w1 hw1 => ?_) ?_
                · simp only [pk, nthSp, lexVals]
                  rfl
                · simp only [pk, nthSp, lexVals]
                  clear hw1
                  go_simp
                  exact ⟨Ext.refl _, by first | rfl | simp⟩
                refine lx_e (.bool false) [(22, 85), (0, 107)] (by kernel_rfl) rfl (by rfl) (fun w1 hw1 => ?_) ?_
                · simp only [pk, nthSp, lexVals]
                  clear hw1
                  go_simp
                  exact ⟨Ext.refl _, by first | rfl | simp⟩
                refine lx_stopA (by rfl) fun z4 hz4 => ?_
                have HE4 := Lib.hid (HE3.out.trans (HX.out z4 hz4))
                clear hz4 HX HCp
                simp only [rv, pf, lexVals]
                simp only [Act.put, List.setIfInBounds_toArray, List.set_cons_zero, List.set_cons_succ]
                go_wp2
                go_roundw
                case rel => exact ⟨t + 1, by have := Ht.out; omega, by go_num, HE4.out⟩
                case measure => have := Ht.out; simp [intOf]; omega
          · obtain rfl : t = 32 := by omega
            have x1 : ¬ ((32 : Nat) : Int) ≤ 31 := by omega
            have HX0 := Lib.hid (show ∀ x, Ext z.drew x → Ext z x from fun x hx => Ext.trans (Ext.refl z).drew hx)
            have HX := HX0
            by_cases f1 : 1 ≤ nI
            · have HF1 := Lib.hid f1
              by_cases f2 : nI ≤ 6
              · have HF2 := Lib.hid f2
                obtain ⟨i, hnI, hi⟩ : ∃ i : Nat, nI = (i : Int) + 1 ∧ i < 6 := ⟨(nI - 1).toNat, by omega, by omega⟩
                have hMz := HM5.out.more HEz.out
                have hrow := hMz.ri.row.cell (i := i) hi
                unfold rsl at hrow
                have hhd := (HR5.out.of_block (HEz.out.block HR5.out.lt)).cell (i := i) hi
                unfold vecRow at hhd
                rw [HR.out.ll i hi] at hhd
                have hns := HR.out.small (by have := Hcn.out; omega) i hi
                obtain ⟨N, hN⟩ : ∃ N, (L i).length = N := ⟨_, rfl⟩
                obtain ⟨sa, hsa⟩ : ∃ N, (R i).1 = N := ⟨_, rfl⟩
                obtain ⟨sc, hsc⟩ : ∃ N, (R i).2 = N := ⟨_, rfl⟩
                rw [hN] at hhd hrow hns
                rw [hsa, hsc] at hrow
                have HCh := Lib.hid (show ∀ y, Ext z y → y.cell? ⟨gh, i, none⟩ = some (.int .u64 (N : Int)) ∧ y.cell? ⟨gr, i, none⟩ = some (.slice sa N sc) from fun y hy => ⟨by rw [Ext.cell hy (World.block_lt_of_cell? _ _ hhd)]; exact hhd, by rw [Ext.cell hy (World.block_lt_of_cell? _ _ hrow)]; exact hrow⟩)
                have HN3 := Lib.hid hns
                have Hi := Lib.hid hi
                have HnI := Lib.hid hnI
                clear f1 f2 hnI hi hMz hrow hhd hns hN hsa hsc hlt hlt2
                go_upto_region 17 with (fail)
                refine wp_region_lexA (by kernel_rfl) (by kernel_rfl) ?_
                refine lx_e (.int .i64 nI) [] (by kernel_rfl) rfl (by rfl) (fun w1 hw1 => ?_) ?_
                · simp only [pk, lexVals]
                  clear hw1
                  go_simp
                  exact ⟨Ext.refl _, by first | rfl | simp⟩
                refine lx_e (.bool true) [(0, 109)] (by kernel_rfl) rfl (by rfl) (fun w1 hw1 => ?_) ?_
                · simp only [pk, nthSp, lexVals]
                  have hf := HF1.out
                  clear hw1
                  go_simp
                  exact ⟨Ext.refl _, by first | rfl | simp⟩
                refine lx_e (.bool true) [(0, 110)] (by kernel_rfl) rfl (by rfl) (fun w1 hw1 => ?_) ?_
                · simp only [pk, nthSp, lexVals]
                  clear hw1
                  go_simp
                  exact ⟨Ext.refl _, by first | rfl | simp⟩
                refine lx_ge (.int .i64 nI) [(0, 111)] 111 (by kernel_rfl) rfl (by kernel_rfl) (by rfl) (fun w1 => ?_) (fun w1 hw1 => ?_) ?_
                · simp only [pk, nthSp, lexVals]
                  rfl
                · simp only [pk, nthSp, lexVals]
                  clear hw1
                  go_simp
                  exact ⟨Ext.refl _, by first | rfl | simp⟩
                refine lx_ge (.bool true) [(0, 112), (1, 111)] 111 (by kernel_rfl) rfl (by kernel_rfl) (by rfl) (fun w1 => ?_) (fun w1 hw1 => ?_) ?_
                · simp only [pk, nthSp, lexVals]
                  rfl
                · simp only [pk, nthSp, lexVals]
                  have hf := HF2.out
                  clear hw1
                  go_simp
                  exact ⟨Ext.refl _, by first | rfl | simp⟩
                refine lx_e (.bool true) [(2, 111), (0, 113)] (by kernel_rfl) rfl (by rfl) (fun w1 hw1 => ?_) ?_
                · simp only [pk, nthSp, lexVals]
                  clear hw1
                  go_simp
                  exact ⟨Ext.refl _, by first | rfl | simp⟩
                refine lx_e (.bool true) [(0, 114)] (by kernel_rfl) rfl (by rfl) (fun w1 hw1 => ?_) ?_
                · simp only [pk, nthSp, lexVals]
                  clear hw1
                  go_simp
                  exact ⟨Ext.refl _, by first | rfl | simp⟩
                refine lx_ge (.int .i64 nI) [(0, 115)] 115 (by kernel_rfl) rfl (by kernel_rfl) (by rfl) (fun w1 => ?_) (fun w1 hw1 => ?_) ?_
                · simp only [pk, nthSp, lexVals]
                  rfl
                · simp only [pk, nthSp, lexVals]
                  clear hw1
                  go_simp
                  exact ⟨Ext.refl _, by first | rfl | simp⟩
                refine lx_ge (.int .i64 (i : Int)) [(0, 116), (1, 115)] 115 (by kernel_rfl) rfl (by kernel_rfl) (by rfl) (fun w1 => ?_) (fun w1 hw1 => ?_) ?_
                · simp only [pk, nthSp, lexVals]
                  rfl
                · simp only [pk, nthSp, lexVals]
                  have hi := HnI.out
                  have hi2 := Hi.out
                  clear hw1
                  go_simp
                  exact ⟨Ext.refl _, by first | rfl | (show Value.int .i64 _ = Value.int .i64 _; congr 1; first | omega | (rw [IntKind.wrap_i64]; omega))⟩
                refine lx_ge (.pointer (some ⟨gh, i, none⟩)) [(0, 117), (2, 115)] 115 (by kernel_rfl) rfl (by kernel_rfl) (by rfl) (fun w1 => ?_) (fun w1 hw1 => ?_) ?_
                · simp only [pk, nthSp, lexVals]
                  rfl
                · simp only [pk, nthSp, lexVals]
                  have hi : (i : Int) < 6 := by have := Hi.out; omega
                  clear hw1
                  go_simp
                  exact ⟨Ext.refl _, by first | rfl | simp⟩
                refine lx_ge (.int .u64 (N : Int)) [(0, 118), (3, 115)] 115 (by kernel_rfl) rfl (by kernel_rfl) (by rfl) (fun w1 => ?_) (fun w1 hw1 => ?_) ?_
                · simp only [pk, nthSp, lexVals]
                  rfl
                · simp only [pk, nthSp, lexVals]
                  have hc := (HCh.out w1 (HX.out w1 hw1)).1
                  clear hw1
                  go_simp
                  exact ⟨Ext.refl _, by first | rfl | simp⟩
                refine lx_ge (.pointer (some ⟨gr, 0, none⟩)) [(4, 115)] 115 (by kernel_rfl) rfl (by kernel_rfl) (by rfl) (fun w1 => ?_) (fun w1 hw1 => ?_) ?_
                · simp only [pk, nthSp, lexVals]
                  rfl
                · simp only [pk, nthSp, lexVals]
                  clear hw1
                  go_simp
                  exact ⟨Ext.refl _, by first | rfl | simp⟩
                refine lx_ge (.int .i64 nI) [(5, 115)] 115 (by kernel_rfl) rfl (by kernel_rfl) (by rfl) (fun w1 => ?_) (fun w1 hw1 => ?_) ?_
                · simp only [pk, nthSp, lexVals]
                  rfl
                · simp only [pk, nthSp, lexVals]
                  clear hw1
                  go_simp
                  exact ⟨Ext.refl _, by first | rfl | simp⟩
                refine lx_ge (.int .i64 (i : Int)) [(0, 121), (6, 115)] 115 (by kernel_rfl) rfl (by kernel_rfl) (by rfl) (fun w1 => ?_) (fun w1 hw1 => ?_) ?_
                · simp only [pk, nthSp, lexVals]
                  rfl
                · simp only [pk, nthSp, lexVals]
                  have hi := HnI.out
                  have hi2 := Hi.out
                  clear hw1
                  go_simp
                  exact ⟨Ext.refl _, by first | rfl | (show Value.int .i64 _ = Value.int .i64 _; congr 1; first | omega | (rw [IntKind.wrap_i64]; omega))⟩
                refine lx_ge (.pointer (some ⟨gr, 0, none⟩)) [(2, 120), (7, 115)] 115 (by kernel_rfl) rfl (by kernel_rfl) (by rfl) (fun w1 => ?_) (fun w1 hw1 => ?_) ?_
                · simp only [pk, nthSp, lexVals]
                  rfl
                · simp only [pk, nthSp, lexVals]
                  clear hw1
                  go_simp
                  exact ⟨Ext.refl _, by first | rfl | simp⟩
                refine lx_ge (.pointer (some ⟨gr, 0, none⟩)) [(0, 123), (8, 115)] 115 (by kernel_rfl) rfl (by kernel_rfl) (by rfl) (fun w1 => ?_) (fun w1 hw1 => ?_) ?_
                · simp only [pk, nthSp, lexVals]
                  rfl
                · simp only [pk, nthSp, lexVals]
                  clear hw1
                  go_simp
                  exact ⟨Ext.refl _, by first | rfl | simp⟩
                refine lx_ge (.pointer (some ⟨gr, i, none⟩)) [(2, 122), (0, 124), (9, 115)] 115 (by kernel_rfl) rfl (by kernel_rfl) (by rfl) (fun w1 => ?_) (fun w1 hw1 => ?_) ?_
                · simp only [pk, nthSp, lexVals]
                  rfl
                · simp only [pk, nthSp, lexVals]
                  have hi : (i : Int) < 6 := by have := Hi.out; omega
                  clear hw1
                  go_simp
                  exact ⟨Ext.refl _, by first | rfl | simp⟩
                refine lx_ge (.slice sa N sc) [(0, 125), (10, 115)] 115 (by kernel_rfl) rfl (by kernel_rfl) (by rfl) (fun w1 => ?_) (fun w1 hw1 => ?_) ?_
                · simp only [pk, nthSp, lexVals]
                  rfl
                · simp only [pk, nthSp, lexVals]
                  have hc := (HCh.out w1 (HX.out w1 hw1)).2
                  clear hw1
                  go_simp
                  exact ⟨Ext.refl _, by first | rfl | simp⟩
                refine lx_ge (.int .i64 (N : Int)) [(0, 126), (11, 115)] 115 (by kernel_rfl) rfl (by kernel_rfl) (by rfl) (fun w1 => ?_) (fun w1 hw1 => ?_) ?_
                · simp only [pk, nthSp, lexVals]
                  rfl
                · simp only [pk, nthSp, lexVals]
                  clear hw1
                  go_simp
                  exact ⟨Ext.refl _, by first | rfl | simp⟩
                refine lx_ge (.int .u64 (N : Int)) [(0, 127), (12, 115)] 115 (by kernel_rfl) rfl (by kernel_rfl) (by rfl) (fun w1 => ?_) (fun w1 hw1 => ?_) ?_
                · simp only [pk, nthSp, lexVals]
                  rfl
                · simp only [pk, nthSp, lexVals]
                  have hn := HN3.out
                  clear hw1
                  go_simp
                  exact ⟨Ext.refl _, by first | rfl | (show Value.int .u64 _ = Value.int .u64 _; congr 1; first | omega | (rw [IntKind.wrap_u64]; omega))⟩
                refine lx_ge (.bool false) [(9, 119), (0, 128), (13, 115)] 115 (by kernel_rfl) rfl (by kernel_rfl) (by rfl) (fun w1 => ?_) (fun w1 hw1 => ?_) ?_
                · simp only [pk, nthSp, lexVals]
                  rfl
                · simp only [pk, nthSp, lexVals]
                  clear hw1
                  go_simp
                  exact ⟨Ext.refl _, by first | rfl | simp⟩
                refine lx_e (.bool false) [(14, 115), (0, 129)] (by kernel_rfl) rfl (by rfl) (fun w1 hw1 => ?_) ?_
                · simp only [pk, nthSp, lexVals]
                  clear hw1
                  go_simp
                  exact ⟨Ext.refl _, by first | rfl | simp⟩
                refine lx_stopA (by rfl) fun z4 hz4 => ?_
                have HE4 := Lib.hid (HEz.out.trans (HX.out z4 hz4))
                clear hz4 HX HX0
                simp only [rv, pf, lexVals]
                simp only [Act.put, List.setIfInBounds_toArray, List.set_cons_zero, List.set_cons_succ]
                have wM : IntKind.i64.wrap (nI + 1) = nI + 1 := by have := HnB.out; rw [IntKind.wrap_i64]; omega
                go_wp2
                go_roundw
                case rel => exact ⟨m + 1, by have := HnB.out; have := HnM.out; omega, by have := HnM.out; first | (congr 1; omega) | go_num, HE4.out⟩
                case measure => have := HnB.out; have := HnM.out; simp [intOf]; omega
              · have HF2 := Lib.hid f2
                clear f1 f2 hlt hlt2
                go_upto_region 17 with (fail)
                refine wp_region_lexA (by kernel_rfl) (by kernel_rfl) ?_
                refine lx_e (.int .i64 nI) [] (by kernel_rfl) rfl (by rfl) (fun w1 hw1 => ?_) ?_
                · simp only [pk, lexVals]
                  clear hw1
                  go_simp
                  exact ⟨Ext.refl _, by first | rfl | simp⟩
                refine lx_e (.bool true) [(0, 109)] (by kernel_rfl) rfl (by rfl) (fun w1 hw1 => ?_) ?_
                · simp only [pk, nthSp, lexVals]
                  have hf := HF1.out
                  clear hw1
                  go_simp
                  exact ⟨Ext.refl _, by first | rfl | simp⟩
                refine lx_e (.bool true) [(0, 110)] (by kernel_rfl) rfl (by rfl) (fun w1 hw1 => ?_) ?_
                · simp only [pk, nthSp, lexVals]
                  clear hw1
                  go_simp
                  exact ⟨Ext.refl _, by first | rfl | simp⟩
                refine lx_ge (.int .i64 nI) [(0, 111)] 111 (by kernel_rfl) rfl (by kernel_rfl) (by rfl) (fun w1 => ?_) (fun w1 hw1 => ?_) ?_
                · simp only [pk, nthSp, lexVals]
                  rfl
                · simp only [pk, nthSp, lexVals]
                  clear hw1
                  go_simp
                  exact ⟨Ext.refl _, by first | rfl | simp⟩
                refine lx_ge (.bool false) [(0, 112), (1, 111)] 111 (by kernel_rfl) rfl (by kernel_rfl) (by rfl) (fun w1 => ?_) (fun w1 hw1 => ?_) ?_
                · simp only [pk, nthSp, lexVals]
                  rfl
                · simp only [pk, nthSp, lexVals]
                  have hf := HF2.out
                  clear hw1
                  go_simp
                  exact ⟨Ext.refl _, by first | rfl | simp⟩
                refine lx_e (.bool false) [(2, 111), (0, 113)] (by kernel_rfl) rfl (by rfl) (fun w1 hw1 => ?_) ?_
                · simp only [pk, nthSp, lexVals]
                  clear hw1
                  go_simp
                  exact ⟨Ext.refl _, by first | rfl | simp⟩
                refine lx_e (.bool false) [(0, 114)] (by kernel_rfl) rfl (by rfl) (fun w1 hw1 => ?_) ?_
                · simp only [pk, nthSp, lexVals]
                  clear hw1
                  go_simp
                  exact ⟨Ext.refl _, by first | rfl | simp⟩
                refine lx_no [(0, 115)] 115 (by kernel_rfl) rfl (by kernel_rfl) (by rfl) (fun w1 => ?_) ?_
                · simp only [pk, nthSp, lexVals]
                  first | (go_simp; done) | (go_simp; exact fun h => by cases h)
                refine lx_no [(0, 116), (1, 115)] 115 (by kernel_rfl) rfl (by kernel_rfl) (by rfl) (fun w1 => ?_) ?_
                · simp only [pk, nthSp, lexVals]
                  first | (go_simp; done) | (go_simp; exact fun h => by cases h)
                refine lx_no [(0, 117), (2, 115)] 115 (by kernel_rfl) rfl (by kernel_rfl) (by rfl) (fun w1 => ?_) ?_
                · simp only [pk, nthSp, lexVals]
                  first | (go_simp; done) | (go_simp; exact fun h => by cases h)
                refine lx_no [(0, 118), (3, 115)] 115 (by kernel_rfl) rfl (by kernel_rfl) (by rfl) (fun w1 => ?_) ?_
                · simp only [pk, nthSp, lexVals]
                  first | (go_simp; done) | (go_simp; exact fun h => by cases h)
                refine lx_no [(4, 115)] 115 (by kernel_rfl) rfl (by kernel_rfl) (by rfl) (fun w1 => ?_) ?_
                · simp only [pk, nthSp, lexVals]
                  first | (go_simp; done) | (go_simp; exact fun h => by cases h)
                refine lx_no [(5, 115)] 115 (by kernel_rfl) rfl (by kernel_rfl) (by rfl) (fun w1 => ?_) ?_
                · simp only [pk, nthSp, lexVals]
                  first | (go_simp; done) | (go_simp; exact fun h => by cases h)
                refine lx_no [(0, 121), (6, 115)] 115 (by kernel_rfl) rfl (by kernel_rfl) (by rfl) (fun w1 => ?_) ?_
                · simp only [pk, nthSp, lexVals]
                  first | (go_simp; done) | (go_simp; exact fun h => by cases h)
                refine lx_no [(2, 120), (7, 115)] 115 (by kernel_rfl) rfl (by kernel_rfl) (by rfl) (fun w1 => ?_) ?_
                · simp only [pk, nthSp, lexVals]
                  first | (go_simp; done) | (go_simp; exact fun h => by cases h)
                refine lx_no [(0, 123), (8, 115)] 115 (by kernel_rfl) rfl (by kernel_rfl) (by rfl) (fun w1 => ?_) ?_
                · simp only [pk, nthSp, lexVals]
                  first | (go_simp; done) | (go_simp; exact fun h => by cases h)
                refine lx_no [(2, 122), (0, 124), (9, 115)] 115 (by kernel_rfl) rfl (by kernel_rfl) (by rfl) (fun w1 => ?_) ?_
                · simp only [pk, nthSp, lexVals]
                  first | (go_simp; done) | (go_simp; exact fun h => by cases h)
                refine lx_no [(0, 125), (10, 115)] 115 (by kernel_rfl) rfl (by kernel_rfl) (by rfl) (fun w1 => ?_) ?_
                · simp only [pk, nthSp, lexVals]
                  first | (go_simp; done) | (go_simp; exact fun h => by cases h)
                refine lx_no [(0, 126), (11, 115)] 115 (by kernel_rfl) rfl (by kernel_rfl) (by rfl) (fun w1 => ?_) ?_
                · simp only [pk, nthSp, lexVals]
                  first | (go_simp; done) | (go_simp; exact fun h => by cases h)
                refine lx_no [(0, 127), (12, 115)] 115 (by kernel_rfl) rfl (by kernel_rfl) (by rfl) (fun w1 => ?_) ?_
                · simp only [pk, nthSp, lexVals]
                  first | (go_simp; done) | (go_simp; exact fun h => by cases h)
                refine lx_no [(9, 119), (0, 128), (13, 115)] 115 (by kernel_rfl) rfl (by kernel_rfl) (by rfl) (fun w1 => ?_) ?_
                · simp only [pk, nthSp, lexVals]
                  first | (go_simp; done) | (go_simp; exact fun h => by cases h)
                refine lx_e (.bool false) [(14, 115), (0, 129)] (by kernel_rfl) rfl (by rfl) (fun w1 hw1 => ?_) ?_
                · simp only [pk, nthSp, lexVals]
                  clear hw1
                  go_simp
                  exact ⟨Ext.refl _, by first | rfl | simp⟩
                refine lx_stopA (by rfl) fun z4 hz4 => ?_
                have HE4 := Lib.hid (HEz.out.trans (HX.out z4 hz4))
                clear hz4 HX HX0
                simp only [rv, pf, lexVals]
                simp only [Act.put, List.setIfInBounds_toArray, List.set_cons_zero, List.set_cons_succ]
                have wM : IntKind.i64.wrap (nI + 1) = nI + 1 := by have := HnB.out; rw [IntKind.wrap_i64]; omega
                go_wp2
                go_roundw
                case rel => exact ⟨m + 1, by have := HnB.out; have := HnM.out; omega, by have := HnM.out; first | (congr 1; omega) | go_num, HE4.out⟩
                case measure => have := HnB.out; have := HnM.out; simp [intOf]; omega
            · have HF1 := Lib.hid f1
              clear f1 hlt hlt2
              go_upto_region 17 with (fail)
              refine wp_region_lexA (by kernel_rfl) (by kernel_rfl) ?_
              refine lx_e (.int .i64 nI) [] (by kernel_rfl) rfl (by rfl) (fun w1 hw1 => ?_) ?_
              · simp only [pk, lexVals]
                clear hw1
                go_simp
                exact ⟨Ext.refl _, by first | rfl | simp⟩
              refine lx_e (.bool false) [(0, 109)] (by kernel_rfl) rfl (by rfl) (fun w1 hw1 => ?_) ?_
              · simp only [pk, nthSp, lexVals]
                have hf := HF1.out
                clear hw1
                go_simp
                exact ⟨Ext.refl _, by first | rfl | simp⟩
              refine lx_e (.bool false) [(0, 110)] (by kernel_rfl) rfl (by rfl) (fun w1 hw1 => ?_) ?_
              · simp only [pk, nthSp, lexVals]
                clear hw1
                go_simp
                exact ⟨Ext.refl _, by first | rfl | simp⟩
              refine lx_no [(0, 111)] 111 (by kernel_rfl) rfl (by kernel_rfl) (by rfl) (fun w1 => ?_) ?_
              · simp only [pk, nthSp, lexVals]
                first | (go_simp; done) | (go_simp; exact fun h => by cases h)
              refine lx_no [(0, 112), (1, 111)] 111 (by kernel_rfl) rfl (by kernel_rfl) (by rfl) (fun w1 => ?_) ?_
              · simp only [pk, nthSp, lexVals]
                first | (go_simp; done) | (go_simp; exact fun h => by cases h)
              refine lx_e (.bool false) [(2, 111), (0, 113)] (by kernel_rfl) rfl (by rfl) (fun w1 hw1 => ?_) ?_
              · simp only [pk, nthSp, lexVals]
                clear hw1
                go_simp
                exact ⟨Ext.refl _, by first | rfl | simp⟩
              refine lx_e (.bool false) [(0, 114)] (by kernel_rfl) rfl (by rfl) (fun w1 hw1 => ?_) ?_
              · simp only [pk, nthSp, lexVals]
                clear hw1
                go_simp
                exact ⟨Ext.refl _, by first | rfl | simp⟩
              refine lx_no [(0, 115)] 115 (by kernel_rfl) rfl (by kernel_rfl) (by rfl) (fun w1 => ?_) ?_
              · simp only [pk, nthSp, lexVals]
                first | (go_simp; done) | (go_simp; exact fun h => by cases h)
              refine lx_no [(0, 116), (1, 115)] 115 (by kernel_rfl) rfl (by kernel_rfl) (by rfl) (fun w1 => ?_) ?_
              · simp only [pk, nthSp, lexVals]
                first | (go_simp; done) | (go_simp; exact fun h => by cases h)
              refine lx_no [(0, 117), (2, 115)] 115 (by kernel_rfl) rfl (by kernel_rfl) (by rfl) (fun w1 => ?_) ?_
              · simp only [pk, nthSp, lexVals]
                first | (go_simp; done) | (go_simp; exact fun h => by cases h)
              refine lx_no [(0, 118), (3, 115)] 115 (by kernel_rfl) rfl (by kernel_rfl) (by rfl) (fun w1 => ?_) ?_
              · simp only [pk, nthSp, lexVals]
                first | (go_simp; done) | (go_simp; exact fun h => by cases h)
              refine lx_no [(4, 115)] 115 (by kernel_rfl) rfl (by kernel_rfl) (by rfl) (fun w1 => ?_) ?_
              · simp only [pk, nthSp, lexVals]
                first | (go_simp; done) | (go_simp; exact fun h => by cases h)
              refine lx_no [(5, 115)] 115 (by kernel_rfl) rfl (by kernel_rfl) (by rfl) (fun w1 => ?_) ?_
              · simp only [pk, nthSp, lexVals]
                first | (go_simp; done) | (go_simp; exact fun h => by cases h)
              refine lx_no [(0, 121), (6, 115)] 115 (by kernel_rfl) rfl (by kernel_rfl) (by rfl) (fun w1 => ?_) ?_
              · simp only [pk, nthSp, lexVals]
                first | (go_simp; done) | (go_simp; exact fun h => by cases h)
              refine lx_no [(2, 120), (7, 115)] 115 (by kernel_rfl) rfl (by kernel_rfl) (by rfl) (fun w1 => ?_) ?_
              · simp only [pk, nthSp, lexVals]
                first | (go_simp; done) | (go_simp; exact fun h => by cases h)
              refine lx_no [(0, 123), (8, 115)] 115 (by kernel_rfl) rfl (by kernel_rfl) (by rfl) (fun w1 => ?_) ?_
              · simp only [pk, nthSp, lexVals]
                first | (go_simp; done) | (go_simp; exact fun h => by cases h)
              refine lx_no [(2, 122), (0, 124), (9, 115)] 115 (by kernel_rfl) rfl (by kernel_rfl) (by rfl) (fun w1 => ?_) ?_
              · simp only [pk, nthSp, lexVals]
                first | (go_simp; done) | (go_simp; exact fun h => by cases h)
              refine lx_no [(0, 125), (10, 115)] 115 (by kernel_rfl) rfl (by kernel_rfl) (by rfl) (fun w1 => ?_) ?_
              · simp only [pk, nthSp, lexVals]
                first | (go_simp; done) | (go_simp; exact fun h => by cases h)
              refine lx_no [(0, 126), (11, 115)] 115 (by kernel_rfl) rfl (by kernel_rfl) (by rfl) (fun w1 => ?_) ?_
              · simp only [pk, nthSp, lexVals]
                first | (go_simp; done) | (go_simp; exact fun h => by cases h)
              refine lx_no [(0, 127), (12, 115)] 115 (by kernel_rfl) rfl (by kernel_rfl) (by rfl) (fun w1 => ?_) ?_
              · simp only [pk, nthSp, lexVals]
                first | (go_simp; done) | (go_simp; exact fun h => by cases h)
              refine lx_no [(9, 119), (0, 128), (13, 115)] 115 (by kernel_rfl) rfl (by kernel_rfl) (by rfl) (fun w1 => ?_) ?_
              · simp only [pk, nthSp, lexVals]
                first | (go_simp; done) | (go_simp; exact fun h => by cases h)
              refine lx_e (.bool false) [(14, 115), (0, 129)] (by kernel_rfl) rfl (by rfl) (fun w1 hw1 => ?_) ?_
              · simp only [pk, nthSp, lexVals]
                clear hw1
                go_simp
                exact ⟨Ext.refl _, by first | rfl | simp⟩
              refine lx_stopA (by rfl) fun z4 hz4 => ?_
              have HE4 := Lib.hid (HEz.out.trans (HX.out z4 hz4))
              clear hz4 HX HX0
              simp only [rv, pf, lexVals]
              simp only [Act.put, List.setIfInBounds_toArray, List.set_cons_zero, List.set_cons_succ]
              have wM : IntKind.i64.wrap (nI + 1) = nI + 1 := by have := HnB.out; rw [IntKind.wrap_i64]; omega
              go_wp2
              go_roundw
              case rel => exact ⟨m + 1, by have := HnB.out; have := HnM.out; omega, by have := HnM.out; first | (congr 1; omega) | go_num, HE4.out⟩
              case measure => have := HnB.out; have := HnM.out; simp [intOf]; omega
      · clear hm hnI
        go_wp2
        go_ret
        exact ⟨rfl, HE5.out.trans HEy.out⟩

end Go.Proofs.YtihlpfdhallfpaaDoor
