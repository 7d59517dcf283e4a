/-
  THE WALK OF THE STATEMENT IndexFull: with as many as it may have an index takes none more, and what it has stays. Asked: the two tables.
-/
import Derived.Test.YtihlpfdhallfpaaDoorFullP
namespace Go.Proofs.YtihlpfdhallfpaaDoor
open Go.ChangeShapes Go.WideShapes Go.ChangeAt Go.RowKit

theorem pis_rh {w : World} {a : Option Addr} {n c : Nat} {l : List Pc} (h : PisAt w a n c l) (k : Nat) (hk : k < n) : ∃ b off, a = some ⟨b, off, none⟩ ∧ w.rangeAt b (off + k * 126) (hdL (l.getD k pcN).hd.1) ∧ w.rangeAt b (off + k * 126) (pcL (l.getD k pcN)) := by
  obtain ⟨b, off, ha, hc⟩ := h.at_ (by omega)
  refine ⟨b, off, ha, range_hd fun j hj => ?_, fun j v hv => ?_⟩
  · rw [hc k hk j (by omega), pcC_lt _ j hj]
  · have hj : j < 126 := by
      have := (List.getElem?_eq_some_iff.1 hv).1
      rwa [pcL_length] at this
    rw [pcL_get _ j hj] at hv
    rw [← Option.some.inj hv]
    exact hc k hk j hj
/-- The k-th piece, its predecessor's hash in it. -/
def pcP (k : Int) (P : Nat → Int) (q : Nat) : Pc := ⟨({ hdW 1 (k + 1) with prev := P }, []), some ⟨q, 0, none⟩, 80, rep80 0⟩
def pcN2 (k : Int) (P : Nat → Int) (q : Nat) : Pc := ⟨({ hdW 1 (k + 1) with prev := P, knows := fun i => if i = 0 then k else 0 }, []), some ⟨q, 0, none⟩, 80, rep80 0⟩
theorem info_pc126 : (Tryd.prog.info? 37).map (·.size) = some 126 := by kernel_rfl
theorem pcL_arr (p : Pc) : (pcL p).toArray = pcV p := rfl
theorem wp_pmid {ops : Array Oper} {Q : Exit → Act → World → Prop} {rest : List Oper} {o : Oper} {a : Act} {w : World} (hw : Region.wanted o (yielded ops a.tmps) = true) (x : Operand) (ho : o.op = .load 37 x)
    (b off : Nat) (p : Pc) (hx : a.eval x = .pointer (some ⟨b, off, none⟩)) (hr : w.rangeAt b off (pcL p)) (k : wpList Tryd.prog ops Q rest (a.put o.dst (.agg (pcV p))) w) : wpList Tryd.prog ops Q (o :: rest) a w := by
  refine wpList_want hw fun K hK => ?_
  unfold Oper.wp execOp
  simp only [ho, hx, Instr.loadAt, Instr.sureAddr, Sem.run_bind, Sem.run_pure, Result.andThen_ok, run_loadVar_mid w b off 37 (pcL p) _ hr Tryd.underlying37 rfl (by rw [pcL_length]; exact info_pc126)]
  exact hK _ _ k

set_option maxHeartbeats 16000000 in
set_option maxRecDepth 100000 in
theorem lawFull_any (kk : Int) (w : World) (hkk : 0 ≤ kk ∧ kk ≤ 255) (hk : KsAt 1 w) (hkw : KsAt 0 w) :
    Calls Tryd.prog 3 #[.int .u8 kk] w fun e w' => e = .returned (.bool true) ∧ Ext w w' := by
  have hg0 : 1 < w.heap.size := World.block_lt_of_cell? w _ (hk 0 (by omega))
  have HK := Lib.hid hk
  have HKw := Lib.hid hkw
  have Hg0 := Lib.hid hg0
  have Hkk := Lib.hid hkk
  have hz := pcZ0
  have HRg := Lib.hid (show ∀ x, Ext w x → KsAt 1 x from fun x hx => hdKs_ext hk hx)
  have HRw := Lib.hid (show ∀ x, Ext w x → KsAt 0 x from fun x hx => hdKs_ext hkw hx)
  have HZv := Lib.hid pcZ_cells
  clear hk hg0 hkw hkk
  go_enter Tryd.func3, Tryd.ntmps3
  go_wp2_with fail
  refine (ixNew_any w.heap.size w (Nat.le_refl _)).mono ?_
  rintro e w1 ⟨gx, G, rfl, hI, hE⟩
  have HF := Lib.hid (FSt.begin hI hE)
  have HA := Lib.hid (awake20_any w1 (HRg.out w1 hE) (HRw.out w1 hE))
  clear hI hE
  go_wp2_with fail
  refine HA.out.mono ?_
  rintro e w2 ⟨rfl, hE⟩
  have HF2 := Lib.hid (HF.out.more hE)
  clear hE HA HF
  go_wp2
  go_loopw [4, 5] (fun v i y => ∃ (k : Nat) (ah : Option Addr) (ch : Nat) (l : List Pc) (S : Nat → CSt), k ≤ 400 ∧ v = .slice ah k ch ∧ i = .int .i64 (k : Int) ∧ FSt w y gx G S k ah ch l) (fun _ i _ => 400 - (intOf i).toNat)
  case atStart => exact ⟨0, none, 0, [], _, by omega, rfl, rfl, HF2.out⟩
  case round =>
    obtain ⟨k, ah, ch, l, S, hk, rfl, rfl, hF⟩ := hrel
    have HF := Lib.hid hF
    rename World => y
    clear hF HF2
    by_cases hlt : k < 400
    · have x1 : (k : Int) < 400 := by omega
      have wK : IntKind.i64.wrap ((k : Int) + 1) = (k : Int) + 1 := by rw [IntKind.wrap_i64]; omega
      have wK2 : IntKind.u64.wrap ((k : Int) + 1) = (k : Int) + 1 := by rw [IntKind.wrap_u64]; omega
      have wK3 : IntKind.u64.wrap (k : Int) = (k : Int) := by rw [IntKind.wrap_u64]; omega
      obtain ⟨q, hq⟩ : ∃ q, y.heap.size = q := ⟨_, rfl⟩
      obtain ⟨H0, hH0⟩ : ∃ A, hdV (hdW 1 ((k : Int) + 1)) = A := ⟨_, rfl⟩
      obtain ⟨P0, hP0⟩ : ∃ A, pcV (pcB 1 ((k : Int) + 1) q) = A := ⟨_, rfl⟩
      obtain ⟨y3, hy3⟩ : ∃ x, ((y.alloc (.cells (rowArr 80 fun _ => .int .u8 0) 5)).alloc (.cells P0 37)) = x := ⟨_, rfl⟩
      obtain ⟨HL, hHL⟩ : ∃ x, l.map (·.hd) = x := ⟨_, rfl⟩
      have hE3 : Ext y y3 := by rw [← hy3]; exact ((Ext.refl y).alloc _).alloc _
      have hQ3 : y3.rowIs q 5 80 (fun _ => .int .u8 0) := by
        rw [← hy3]
        exact rowIs_of (Ext.keep ((Ext.refl (y.alloc (.cells (rowArr 80 fun _ => .int .u8 0) 5))).alloc _) (heap_new y _ _ hq.symm))
      have hR3 : y3.rowIs (q + 1) 37 126 (pcC (pcB 1 ((k : Int) + 1) q)) := by
        rw [← hy3]
        refine rowIs_of (heap_new _ _ _ (by simp; omega) |>.trans ?_)
        rw [← hP0]
        rfl
      have HR3 := Lib.hid hR3
      have HQ3 := Lib.hid hQ3
      have HE3 := Lib.hid hE3
      have Hy3 := Lib.hid hy3
      have HH0 := Lib.hid hH0
      have HP0 := Lib.hid hP0
      have HHL := Lib.hid hHL
      have Hq := Lib.hid hq
      have Hlt := Lib.hid hlt
      have HPs := Lib.hid (show P0.size = 126 by rw [← hP0]; exact pcV_size _)
      have HPo := Lib.hid (show P0.all (·.oneCell') = true by rw [← hP0]; exact pcV_one _)
      clear hR3 hQ3 hE3 hy3 hH0 hP0 hHL hq
      go_upto_region 9 with (first
        | (refine wp_build_hdW rfl _ _ _ rfl 1 ((k : Int) + 1) rfl rfl rfl H0 HH0.out ?_)
        | (refine wp_mk80 rfl _ _ rfl rfl rfl ?_; rw [Hq.out])
        | (refine wp_build_pcW rfl _ _ rfl (pcB 1 ((k : Int) + 1) q) H0 HH0.out 80 (rep80_length 0) rfl rfl P0 HP0.out ?_)
        | (refine wpList_store_row rfl 37 _ _ rfl _ _ rfl rfl _ _ (heap_new _ _ (y.heap.size + 1) (by simp)) (by rw [HPs.out]; kernel_rfl) (by rw [HPs.out, pcV_size]) HPo.out ?_; rw [setRow_new _ _ _ _ _ (by simp)]))
      refine wp_world (w' := y3) Hy3.out ?_
      rw [Hq.out]
      clear Hy3
      have hEc := HE3.out
      have hF3 := HF.out.more hEc
      go_upto_if 23 with (fail)
      go_cut [5] (fun v yc => v = .int .i64 (k : Int) ∧ yc.rowIs (q + 1) 37 126 (pcC (pcP (k : Int) (tipF HL) q)) ∧ yc.rowIs q 5 80 (fun _ => .int .u8 0) ∧ Ext y yc)
      case first =>
        by_cases h0 : 0 < k
        · obtain ⟨m, hm⟩ : ∃ m : Nat, k = m + 1 := ⟨k - 1, by omega⟩
          have hpis := own_pis hF3.own hF3.pcs (by omega)
          obtain ⟨b, off, hb, hr, -⟩ := pis_rh hpis m (by omega)
          have hpa := hF3.pcs (l.getD m pcN) (by
            rw [List.getD_eq_getElem?_getD, List.getElem?_eq_getElem (by rw [hF3.len]; omega)]
            exact List.getElem_mem _)
          obtain ⟨x, hx⟩ : ∃ x, l.getD m pcN = x := ⟨_, rfl⟩
          rw [hx] at hpa hr
          have Ht := Lib.hid (show tipF HL = shaF (bytesL x.hd.1 x.hd.2) from by
            have hl : HL.length = k := by rw [← HHL.out, List.length_map, hF3.len]
            have hg : HL.getD (k - 1) htN = x.hd := by
              rw [← HHL.out, List.getD_eq_getElem?_getD, List.getElem?_map, show k - 1 = m by omega, List.getElem?_eq_getElem (by rw [hF3.len]; omega)]
              rw [List.getD_eq_getElem?_getD, List.getElem?_eq_getElem (by rw [hF3.len]; omega)] at hx
              rw [← hx]
              rfl
            unfold tipF
            rw [if_neg (by omega), hl, hg])
          have HHs := Lib.hid (hdHash_any x.hd.1 x.hd.2 y3 hpa.hd.ok hpa.hd.toks (HRg.out y3 hF3.ext))
          obtain ⟨F, hFF⟩ : ∃ F, shaF (bytesL x.hd.1 x.hd.2) = F := ⟨_, rfl⟩
          rw [hFF] at HHs Ht
          obtain ⟨h, hh⟩ : ∃ h, x.hd.1 = h := ⟨_, rfl⟩
          rw [hh] at HHs hr
          have Hr := Lib.hid hr
          have x2 : (0 : Int) < (k : Int) := by omega
          have x3 : IntKind.i64.wrap ((k : Int) - 1) = (m : Int) := by rw [IntKind.wrap_i64]; omega
          have x4 : (m : Int) < (k : Int) := by omega
          have x5 : (0 : Int) ≤ (m : Int) := by omega
          rw [hb]
          have Hb := Lib.hid hb
          have x6 : decide (0 < k) = true := decide_eq_true h0
          clear hpis hb hr hpa hx hFF hh hm hF3 h0
          go_wp2_with (refine wp_hmidI rfl _ rfl b (off + m * 126) h rfl Hr.out ?_)
          refine HHs.out.mono ?_
          rintro e y4 ⟨rfl, hE4⟩
          have hR4 := HR3.out.of_block (hE4.block HR3.out.lt)
          have hQ4 := HQ3.out.of_block (hE4.block HQ3.out.lt)
          have HTh := Lib.hid (show y4.there (q + 1) 2 (rowArr 32 fun j => Value.int .u8 (F j)).size from fun j hj => by
            rw [rowArr_size] at hj
            refine ⟨?_, hR4.frozen _⟩
            rw [hR4.cell (i := 2 + j) (by omega)]
            rfl)
          have HR4 := Lib.hid hR4
          have HQ4 := Lib.hid hQ4
          have HE4 := Lib.hid (HE3.out.trans hE4)
          clear hE4 hR4 hQ4 HHs Hr
          go_wp2_with (refine wpList_store_mid rfl 28 _ _ rfl (q + 1) 2 (rowArr 32 fun j => .int .u8 (F j)) rfl rfl HTh.out (by rw [rowArr_size]; kernel_rfl) (rowArr_one fun _ _ => rfl) ?_)
          obtain ⟨y5, hy5⟩ : ∃ z, y4.setCells (q + 1) 2 (rowArr 32 fun j => Value.int .u8 (F j)).toList = z := ⟨_, rfl⟩
          have hG5 : y4.grownBy y5 (some (q + 1)) := by rw [← hy5]; exact grown_setCells _ _ _ (World.grownBy.refl y4 _)
          have hR5 : y5.rowIs (q + 1) 37 126 (pcC (pcP (k : Int) (tipF HL) q)) := by
            rw [← hy5]
            refine ((rowIs_setCells _ 2 _ _ HR4.out).congr fun j hj => ?_).congr (pcC_hset (pcB 1 ((k : Int) + 1) q) { hdW 1 ((k : Int) + 1) with prev := tipF HL } (fun j => if 2 ≤ j ∧ j < 34 then .int .u8 (F (j - 2)) else pcC (pcB 1 ((k : Int) + 1) q) j) (fun j hj => ?_) rfl)
            · rw [Array.length_toList, rowArr_size]
              by_cases h1 : 2 ≤ j ∧ j < 34
              · have h2 : 2 ≤ j ∧ j < 2 + 32 := h1
                rw [if_pos h1, if_pos h2, List.getD_eq_getElem?_getD, Array.getElem?_toList, rowArr_get _ _ _ (by omega)]
                rfl
              · have h2 : ¬ (2 ≤ j ∧ j < 2 + 32) := h1
                rw [if_neg h1, if_neg h2]
            · rw [Ht.out, pcC_lt _ j hj]
              exact hdC_setP (hdW 1 ((k : Int) + 1)) F j hj
          have hqq := Hq.out
          have HREL := Lib.hid (show y5.rowIs (q + 1) 37 126 (pcC (pcP (k : Int) (tipF HL) q)) ∧ y5.rowIs q 5 80 (fun _ => .int .u8 0) ∧ Ext y y5 from
            ⟨hR5, HQ4.out.of_block (hG5.block q HQ4.out.lt (fun e => by have := Option.some.inj e; omega)), HE4.out.grown hG5 (Below.size HE4.out) (fun b e => by have := Option.some.inj e; omega)⟩)
          rw [hy5, ← Hb.out]
          simp only [Act.put]
          clear hG5 hR5 hqq HTh HR4 HQ4 HE4 hy5
          go_meet
          case rel => exact ⟨rfl, HREL.out⟩
        · obtain rfl : k = 0 := by omega
          have hl0 : HL = [] := by
            rw [← HHL.out]
            have := hF3.len
            rw [List.eq_nil_of_length_eq_zero this]
            rfl
          have HREL := Lib.hid (show y3.rowIs (q + 1) 37 126 (pcC (pcP ((0 : Nat) : Int) (tipF HL) q)) ∧ y3.rowIs q 5 80 (fun _ => .int .u8 0) ∧ Ext y y3 from by
            rw [hl0]
            exact ⟨HR3.out, HQ3.out, HE3.out⟩)
          have x2 : ¬ (0 : Int) < ((0 : Nat) : Int) := by omega
          clear hF3 hl0
          go_wp2
          go_meet
          case rel => exact ⟨rfl, HREL.out⟩
      case rest =>
        obtain ⟨rfl, hR, hQ, hE⟩ := hcut
        have hR5 : (wc.setCell ⟨q + 1, 54, none⟩ (.int .u64 (k : Int))).rowIs (q + 1) 37 126 (pcC (pcN2 (k : Int) (tipF HL) q)) :=
          (hR.set 54 _).congr (pcC_hset (pcP (k : Int) (tipF HL) q) { hdW 1 ((k : Int) + 1) with prev := tipF HL, knows := fun i => if i = 0 then (k : Int) else 0 } (fun j => if j = 54 then .int .u64 (k : Int) else pcC (pcP (k : Int) (tipF HL) q) j) (fun j hj => by
            rw [pcC_lt _ j hj]
            exact hdC_setK1 { hdW 1 ((k : Int) + 1) with prev := tipF HL } 0 (by omega) (k : Int) j hj) rfl)
        have c54 := hR.cell (i := 54) (by omega)
        have f54 := hR.frozen 54
        obtain ⟨y5, hy5⟩ : ∃ x, wc.setCell ⟨q + 1, 54, none⟩ (.int .u64 (k : Int)) = x := ⟨_, rfl⟩
        have hqq := Hq.out
        rw [hy5] at hR5
        have hQ5 : y5.rowIs q 5 80 (fun _ => .int .u8 0) := by rw [← hy5]; exact hQ.setOther (show q ≠ q + 1 by omega) _
        have hE5 : Ext y y5 := by rw [← hy5]; exact hE.setCell (show y.heap.size ≤ q + 1 by omega) _
        have hF5 := HF.out.more hE5
        have hc54 : pcC (pcP (k : Int) (tipF HL) q) 54 = .int .u64 0 := rfl
        rw [hc54] at c54
        have c125 := hR5.cell (i := 125) (by omega)
        have hc125 : pcC (pcN2 (k : Int) (tipF HL) q) 125 = .slice (some ⟨q, 0, none⟩) 80 80 := by rw [pcC_125]; show Value.slice (some ⟨q, 0, none⟩) (rep80 0).length 80 = _; rw [rep80_length]
        rw [hc125] at c125
        have HSu := Lib.hid (refSum_any (some ⟨q, 0, none⟩) 80 80 (rep80 0) y5 (bs_cells (f := fun _ => 0) (fun i hi => by rw [Nat.zero_add]; exact hQ5.cell hi) (fun _ _ => ⟨by omega, by omega⟩) (by omega)) (by omega) (HRw.out y5 hF5.ext))
        obtain ⟨F, hF⟩ : ∃ F, shaF (rep80 0) = F := ⟨_, rfl⟩
        rw [hF] at HSu
        have HFe := Lib.hid hF
        have HR5 := Lib.hid hR5
        have HQ5 := Lib.hid hQ5
        have HE5 := Lib.hid hE5
        have Hy5 := Lib.hid hy5
        clear hR hQ hE hR5 hQ5 hE5 hF5 hy5 hF hc54 hc125 hqq HR3 HQ3 HE3 hEc hF3
        go_upto_region 12 with (fail)
        refine wp_world (w' := y5) Hy5.out ?_
        clear Hy5 c54 f54
        go_wp2_with fail
        refine HSu.out.mono ?_
        rintro e y6 ⟨rfl, hE6⟩
        have hR6 := HR5.out.of_block (hE6.block HR5.out.lt)
        have HTh := Lib.hid (show y6.there (q + 1) 60 (rowArr 32 fun j => Value.int .u8 (F j)).size from fun j hj => by
          rw [rowArr_size] at hj
          refine ⟨?_, hR6.frozen _⟩
          rw [hR6.cell (i := 60 + j) (by omega)]
          rfl)
        have HR6 := Lib.hid hR6
        have HQ6 := Lib.hid (HQ5.out.of_block (hE6.block HQ5.out.lt))
        have HE6 := Lib.hid (HE5.out.trans hE6)
        clear hE6 hR6 HSu c125 HR5 HQ5 HE5
        go_upto_region 13 with (refine wpList_store_mid rfl 28 _ _ rfl (q + 1) 60 (rowArr 32 fun j => .int .u8 (F j)) rfl rfl HTh.out (by rw [rowArr_size]; kernel_rfl) (rowArr_one fun _ _ => rfl) ?_)
        obtain ⟨y7, hy7⟩ : ∃ z, y6.setCells (q + 1) 60 (rowArr 32 fun j => Value.int .u8 (F j)).toList = z := ⟨_, rfl⟩
        have hG7 : y6.grownBy y7 (some (q + 1)) := by rw [← hy7]; exact grown_setCells _ _ _ (World.grownBy.refl y6 _)
        have hR7 : y7.rowIs (q + 1) 37 126 (pcC (pcK (k : Int) (tipF HL) q)) := by
          rw [← hy7]
          refine ((rowIs_setCells _ 60 _ _ HR6.out).congr fun j hj => ?_).congr (pcC_hset (pcN2 (k : Int) (tipF HL) q) (pcK (k : Int) (tipF HL) q).hd.1 (fun j => if 60 ≤ j ∧ j < 92 then .int .u8 (F (j - 60)) else pcC (pcN2 (k : Int) (tipF HL) q) j) (fun j hj => ?_) rfl)
          · rw [Array.length_toList, rowArr_size]
            by_cases h1 : 60 ≤ j ∧ j < 92
            · have h2 : 60 ≤ j ∧ j < 60 + 32 := h1
              rw [if_pos h1, if_pos h2, List.getD_eq_getElem?_getD, Array.getElem?_toList, rowArr_get _ _ _ (by omega)]
              rfl
            · have h2 : ¬ (60 ≤ j ∧ j < 60 + 32) := h1
              rw [if_neg h1, if_neg h2]
          · rw [← HFe.out, pcC_lt _ j hj]
            exact hdC_setS (pcN2 (k : Int) (tipF HL) q).hd.1 (shaF (rep80 0)) j hj
        have hqq := Hq.out
        have hQ7 : y7.rowIs q 5 80 (fun _ => .int .u8 0) := HQ6.out.of_block (hG7.block q HQ6.out.lt (fun e => by have := Option.some.inj e; omega))
        have hE7 : Ext y y7 := HE6.out.grown hG7 (Below.size HE6.out) (fun b e => by have := Option.some.inj e; omega)
        have hF7 := HF.out.more hE7
        have hb7 : BsAt y7 (some ⟨q, 0, none⟩) 80 80 (rep80 0) := bs_cells (f := fun _ => 0) (fun i hi => by rw [Nat.zero_add]; exact hQ7.cell hi) (fun _ _ => ⟨by omega, by omega⟩) (by omega)
        have hpk : PcAt y7 (pcK (k : Int) (tipF HL) q) := pcK_at (by omega) (tipF_by HL) hb7
        have nq : ∀ b, y.heap.size ≤ b → ¬ IxOwns gx G S b := fun b hb ho => by
          have := IxOwns.lt HF.out.ix ho
          omega
        have hask : ixAsk S (k : Int) (pcK (k : Int) (tipF HL) q) = 0 := by rw [← HHL.out]; exact HF.out.ask Hlt.out q
        have HPu := Lib.hid ((ixPut_any hF7.ix (hF7.modest (by omega)) (by omega) (pcK (k : Int) (tipF HL) q) hpk (HRg.out y7 hF7.ext) Hg0.out (Below.size hF7.ext) (fun h0 => absurd h0 (by show ¬ 0 < 0; omega)) (fun _ b off e => IxOwns.far (nq b (by
            have e' : (some ⟨q, 0, none⟩ : Option Addr) = some ⟨b, off, none⟩ := e
            simp only [Option.some.injEq, Addr.mk.injEq, and_true] at e'
            omega)))).mono (R' := fun e y' => e = .returned (.int .i64 0) ∧ ∃ S2 i ta tc qa qc, PutIn y7 y' w.heap.size gx G S S2 (k : Int) (pcK (k : Int) (tipF HL) q) i ta tc qa qc) fun e y' ⟨h1, _, h3⟩ => ⟨by rw [h1, hask], (h3 hask).open⟩)
        refine wp_world (w' := y7) hy7 ?_
        obtain ⟨A, hA⟩ : ∃ A, pcV (pcK (k : Int) (tipF HL) q) = A := ⟨_, rfl⟩
        have HAe := Lib.hid hA
        have hB7 := rowIs_cells hR7
        have hAd : rowArr 126 (pcC (pcK (k : Int) (tipF HL) q)) = A := hA
        rw [hAd] at hB7
        rw [hA] at HPu
        have HB7 := Lib.hid hB7
        have HAs := Lib.hid (show A.size = 126 by rw [← hA]; exact pcV_size _)
        have HF7 := Lib.hid hF7
        have HPk := Lib.hid hpk
        have HNq := Lib.hid nq
        have HQ7 := Lib.hid hQ7.lt
        have HE7 := Lib.hid hE7
        clear hy7 hG7 hR7 hQ7 hE7 hF7 hb7 hpk nq hask hA hB7 hAd hqq HTh HR6 HQ6 HE6
        go_wp2_with (refine wpList_load_rowW rfl 37 _ rfl (q + 1) rfl _ _ _ _ HB7.out Tryd.underlying37 rfl (by rw [HAs.out]; kernel_rfl) ?_)
        refine HPu.out.mono ?_
        rintro e y8 ⟨rfl, S2, i, ta, tc, qa, qc, hin⟩
        have hqq := Hq.out
        have HB8 := Lib.hid (show y8.heap[q + 1]? = some (.cells A 37 (0, 0)) by
          rw [hin.kp.block (q + 1) ((Array.getElem?_eq_some_iff.1 HB7.out).1) (IxOwns.far (HNq.out (q + 1) (by omega)))]
          exact HB7.out)
        have HO8 := Lib.hid (show y8.ownsRow w.heap.size 37 126 (.slice ah k ch) k (pisC l) from own_keep HF7.out.own fun b e => hin.kp.block b (HF7.out.own.lt b e).2 (IxOwns.far (HF7.out.no b e)))
        have HQ8 := Lib.hid (show ∀ j, j < 126 → (y8.alloc (.cells A 37)).cell? ⟨y8.heap.size, j, none⟩ = some (pcC (pcK (k : Int) (tipF HL) q) j) from fun j hj => by
          rw [← HAe.out]
          exact row_cell (heap_new y8 _ _ rfl) j hj)
        have HO9 := Lib.hid (own_ext9 HO8.out ((Ext.refl y8).alloc (.cells A 37)))
        have HB9 := Lib.hid (show w.heap.size ≤ (y8.alloc (.cells A 37)).heap.size from by
          have h1 := hin.kp.size
          have h2 := Below.size HF7.out.ext
          simp
          omega)
        have Hin := Lib.hid hin
        obtain ⟨Bw, hBw⟩ : ∃ x, w.heap.size = x := ⟨_, rfl⟩
        have HBw := Lib.hid hBw
        rw [hBw] at HO9 HB9
        clear hin hqq HPu hBw
        go_wp2_with (first
          | (refine wpList_load_rowW rfl 37 _ rfl (q + 1) rfl _ _ _ _ HB8.out Tryd.underlying37 rfl (by rw [HAs.out]; kernel_rfl) ?_)
          | (refine wp_build_pc1 rfl _ rfl (pcK (k : Int) (tipF HL) q) A HAe.out rfl ?_)
          | (refine append_pc rfl _ _ rfl Bw (.slice ah k ch) k l rfl HO9.out y8.heap.size 1 (pcK (k : Int) (tipF HL) q) rfl HQ8.out (by omega) HB9.out ?_))
        intro v' y10 hown10 hG10 hw10
        obtain ⟨a3, c3, rfl⟩ := own_pisl hown10
        have hqq := Hq.out
        have HFn := Lib.hid (HF7.out.push Hlt.out Hin.out (fun h0 j => by
            unfold tipF
            rw [if_pos (by rw [← HHL.out, List.length_map, HF.out.len]; omega)]) ((Ext.refl y8).alloc _) HPk.out (HNq.out q (by omega)) (fun e => by
            have := (HF.out.own.lt q e.symm).2
            omega) HQ7.out (by rw [HBw.out]; exact hown10) hG10 (by first | exact hw10 | (simpa using hw10)))
        clear hown10 hG10 hw10 hqq
        go_wp2
        go_roundw
        case rel => exact ⟨k + 1, a3, c3, _, S2, by omega, rfl, by go_num, HFn.out⟩
        case measure => simp [intOf]; omega
    · obtain rfl : k = 400 := by omega
      have x1 : ¬ ((400 : Nat) : Int) < 400 := by omega
      obtain ⟨q, hq⟩ : ∃ q, y.heap.size = q := ⟨_, rfl⟩
      obtain ⟨H0, hH0⟩ : ∃ A, hdV (hdW 2 1) = A := ⟨_, rfl⟩
      obtain ⟨P0, hP0⟩ : ∃ A, pcV (pcB 2 1 q) = A := ⟨_, rfl⟩
      obtain ⟨y3, hy3⟩ : ∃ x, ((y.alloc (.cells (rowArr 80 fun _ => .int .u8 0) 5)).alloc (.cells P0 37)) = x := ⟨_, rfl⟩
      have hE3 : Ext y y3 := by rw [← hy3]; exact ((Ext.refl y).alloc _).alloc _
      have hQ3 : y3.rowIs q 5 80 (fun _ => .int .u8 0) := by
        rw [← hy3]
        exact rowIs_of (Ext.keep ((Ext.refl (y.alloc (.cells (rowArr 80 fun _ => .int .u8 0) 5))).alloc _) (heap_new y _ _ hq.symm))
      have hR3 : y3.rowIs (q + 1) 37 126 (pcC (pcB 2 1 q)) := by
        rw [← hy3]
        refine rowIs_of (heap_new _ _ _ (by simp; omega) |>.trans ?_)
        rw [← hP0]
        rfl
      have c125 := hR3.cell (i := 125) (by omega)
      have hc125 : pcC (pcB 2 1 q) 125 = .slice (some ⟨q, 0, none⟩) 80 80 := by rw [pcC_125]; show Value.slice (some ⟨q, 0, none⟩) (rep80 0).length 80 = _; rw [rep80_length]
      rw [hc125] at c125
      have hF3 := HF.out.more hE3
      have HSu := Lib.hid (refSum_any (some ⟨q, 0, none⟩) 80 80 (rep80 0) y3 (bs_cells (f := fun _ => 0) (fun i hi => by rw [Nat.zero_add]; exact hQ3.cell hi) (fun _ _ => ⟨by omega, by omega⟩) (by omega)) (by omega) (HRw.out y3 hF3.ext))
      obtain ⟨F, hFF⟩ : ∃ F, shaF (rep80 0) = F := ⟨_, rfl⟩
      rw [hFF] at HSu
      have HFe := Lib.hid hFF
      have HR3 := Lib.hid hR3
      have HQ3 := Lib.hid hQ3
      have HE3 := Lib.hid hE3
      have Hy3 := Lib.hid hy3
      have HH0 := Lib.hid hH0
      have HP0 := Lib.hid hP0
      have Hq := Lib.hid hq
      have HPs := Lib.hid (show P0.size = 126 by rw [← hP0]; exact pcV_size _)
      have HPo := Lib.hid (show P0.all (·.oneCell') = true by rw [← hP0]; exact pcV_one _)
      clear hR3 hQ3 hE3 hy3 hH0 hP0 hq hc125 hF3 hFF
      go_upto_region 17 with (first
        | (refine wp_build_hdW rfl _ _ _ rfl 2 1 rfl rfl rfl H0 HH0.out ?_)
        | (refine wp_mk80 rfl _ _ rfl rfl rfl ?_; rw [Hq.out])
        | (refine wp_build_pcW rfl _ _ rfl (pcB 2 1 q) H0 HH0.out 80 (rep80_length 0) rfl rfl P0 HP0.out ?_)
        | (refine wpList_store_row rfl 37 _ _ rfl _ _ rfl rfl _ _ (heap_new _ _ (y.heap.size + 1) (by simp)) (by rw [HPs.out]; kernel_rfl) (by rw [HPs.out, pcV_size]) HPo.out ?_; rw [setRow_new _ _ _ _ _ (by simp)]))
      refine wp_world (w' := y3) Hy3.out ?_
      rw [Hq.out]
      clear Hy3
      go_wp2_with fail
      refine HSu.out.mono ?_
      rintro e y6 ⟨rfl, hE6⟩
      have hR6 := HR3.out.of_block (hE6.block HR3.out.lt)
      have HTh := Lib.hid (show y6.there (q + 1) 60 (rowArr 32 fun j => Value.int .u8 (F j)).size from fun j hj => by
        rw [rowArr_size] at hj
        refine ⟨?_, hR6.frozen _⟩
        rw [hR6.cell (i := 60 + j) (by omega)]
        rfl)
      have HR6 := Lib.hid hR6
      have HQ6 := Lib.hid (HQ3.out.of_block (hE6.block HQ3.out.lt))
      have HE6 := Lib.hid (HE3.out.trans hE6)
      clear hE6 hR6 HSu c125 HR3 HQ3 HE3
      go_upto_region 18 with (refine wpList_store_mid rfl 28 _ _ rfl (q + 1) 60 (rowArr 32 fun j => .int .u8 (F j)) rfl rfl HTh.out (by rw [rowArr_size]; kernel_rfl) (rowArr_one fun _ _ => rfl) ?_)
      obtain ⟨y7, hy7⟩ : ∃ z, y6.setCells (q + 1) 60 (rowArr 32 fun j => Value.int .u8 (F j)).toList = z := ⟨_, rfl⟩
      have hG7 : y6.grownBy y7 (some (q + 1)) := by rw [← hy7]; exact grown_setCells _ _ _ (World.grownBy.refl y6 _)
      have hR7 : y7.rowIs (q + 1) 37 126 (pcC (pcQ q)) := by
        rw [← hy7]
        refine ((rowIs_setCells _ 60 _ _ HR6.out).congr fun j hj => ?_).congr (pcC_hset (pcB 2 1 q) (pcQ q).hd.1 (fun j => if 60 ≤ j ∧ j < 92 then .int .u8 (F (j - 60)) else pcC (pcB 2 1 q) j) (fun j hj => ?_) rfl)
        · rw [Array.length_toList, rowArr_size]
          by_cases h1 : 60 ≤ j ∧ j < 92
          · have h2 : 60 ≤ j ∧ j < 60 + 32 := h1
            rw [if_pos h1, if_pos h2, List.getD_eq_getElem?_getD, Array.getElem?_toList, rowArr_get _ _ _ (by omega)]
            rfl
          · have h2 : ¬ (60 ≤ j ∧ j < 60 + 32) := h1
            rw [if_neg h1, if_neg h2]
        · rw [← HFe.out, pcC_lt _ j hj]
          exact hdC_setS (hdW 2 1) (shaF (rep80 0)) j hj
      have hqq := Hq.out
      have hQ7 : y7.rowIs q 5 80 (fun _ => .int .u8 0) := HQ6.out.of_block (hG7.block q HQ6.out.lt (fun e => by have := Option.some.inj e; omega))
      have hE7 : Ext y y7 := HE6.out.grown hG7 (Below.size HE6.out) (fun b e => by have := Option.some.inj e; omega)
      refine wp_world (w' := y7) hy7 ?_
      obtain ⟨A, hA⟩ : ∃ A, pcV (pcQ q) = A := ⟨_, rfl⟩
      have hB7 := rowIs_cells hR7
      have hAd : rowArr 126 (pcC (pcQ q)) = A := hA
      rw [hAd] at hB7
      obtain ⟨g, hg⟩ : ∃ g, y7.heap.size = g := ⟨_, rfl⟩
      obtain ⟨y9, hy9⟩ : ∃ x, (y7.alloc (.cells A 37)).setCell ⟨g, 125, none⟩ (.slice none 0 0) = x := ⟨_, rfl⟩
      have hR8 : (y7.alloc (.cells A 37)).rowIs g 37 126 (pcC (pcQ q)) := by
        refine rowIs_of ((heap_new y7 _ _ hg.symm).trans ?_)
        rw [hAd]
      have hR9 : y9.rowIs g 37 126 (pcC pcX) := by
        rw [← hy9]
        refine (hR8.set 125 _).congr fun j hj => ?_
        by_cases h1 : j = 125
        · rw [if_pos h1, h1]
          rfl
        · rw [if_neg h1, pcC_lt _ j (by omega), pcC_lt _ j (by omega)]
          rfl
      have hE9 : Ext y7 y9 := by
        rw [← hy9]
        exact ((Ext.refl y7).alloc _).setCell (show y7.heap.size ≤ g by omega) _
      have c125 := hR8.cell (i := 125) (by omega)
      have f125 := hR8.frozen 125
      have hc125 : pcC (pcQ q) 125 = .slice (some ⟨q, 0, none⟩) 80 80 := by rw [pcC_125]; show Value.slice (some ⟨q, 0, none⟩) (rep80 0).length 80 = _; rw [rep80_length]
      rw [hc125] at c125
      have hb9 : BsAt y9 (some ⟨q, 0, none⟩) 80 80 (rep80 0) := (bs_cells (f := fun _ => 0) (fun i hi => by rw [Nat.zero_add]; exact hQ7.cell hi) (fun _ _ => ⟨by omega, by omega⟩) (by omega)).ext hE9
      have hF9 := HF.out.more (hE7.trans hE9)
      obtain ⟨A3, hA3⟩ : ∃ A, pcV pcX = A := ⟨_, rfl⟩
      have hB9 := rowIs_cells hR9
      have hAd3 : rowArr 126 (pcC pcX) = A3 := hA3
      rw [hAd3] at hB9
      have nq : ∀ b, y.heap.size ≤ b → ¬ IxOwns gx G S b := fun b hb ho => by
        have := IxOwns.lt HF.out.ix ho
        omega
      have hfr : ∀ b off, (some ⟨q, 0, none⟩ : Option Addr) = some ⟨b, off, none⟩ → IxFar gx G S b := fun b off e => IxOwns.far (nq b (by
        simp only [Option.some.injEq, Addr.mk.injEq, and_true] at e
        omega))
      have HPu1 := Lib.hid ((ixPut_any hF9.ix (hF9.modest (by omega)) (by omega) (pcQ q) (pcQ_at hb9) (HRg.out y9 hF9.ext) Hg0.out (Below.size hF9.ext) (fun h0 => absurd h0 (by show ¬ 0 < 0; omega)) (fun _ b off e => hfr b off e)).mono (R' := fun e y' => e = .returned (.int .i64 4) ∧ Ext y9 y') fun e y' ⟨h1, h2, _⟩ => by
        have h4 : ixAsk S ((400 : Nat) : Int) (pcQ q) = 4 := (hF9.askQ q).1
        rw [h4] at h1 h2
        exact ⟨h1, h2 (by omega)⟩)
      have HPu2 := Lib.hid (show ∀ x, Ext y9 x → Calls Tryd.prog 12 #[.pointer (some ⟨gx, 0, none⟩), .agg (pcV pcX)] x fun e y' => e = .returned (.int .i64 2) ∧ Ext x y' from fun x hx =>
        (ixPut_any (hF9.more hx).ix (hF9.modest (by omega)) (by omega) pcX (pcX_at x) (HRg.out x (hF9.ext.trans hx)) Hg0.out (Below.size (hF9.ext.trans hx)) (fun h0 => absurd h0 (by show ¬ 0 < 0; omega)) (fun h0 => absurd h0 (by show ¬ 0 < 0; omega))).mono fun e y' ⟨h1, h2, _⟩ => by
          have h4 : ixAsk S ((400 : Nat) : Int) pcX = 2 := (hF9.askQ q).2
          rw [h4] at h1 h2
          exact ⟨h1, h2 (by omega)⟩)
      have hkl : kk.toNat < 400 := by have := Hkk.out; omega
      obtain ⟨j, hj⟩ : ∃ j, kk.toNat = j := ⟨_, rfl⟩
      have hkj : kk = (j : Int) := by have := Hkk.out; omega
      rw [hj] at hkl
      obtain ⟨x, hx⟩ : ∃ x, l.getD j pcN = x := ⟨_, rfl⟩
      have hxm : x ∈ l := by
        rw [← hx, List.getD_eq_getElem?_getD, List.getElem?_eq_getElem (by rw [hF9.len]; exact hkl)]
        exact List.getElem_mem _
      have HPu3 := Lib.hid (show ∀ y, Ext y9 y → Calls Tryd.prog 12 #[.pointer (some ⟨gx, 0, none⟩), .agg (pcV x)] y fun e y' => e = .returned (.int .i64 13) ∧ Ext y y' from fun y hy =>
        (ixPut_any (hF9.more hy).ix (hF9.modest (by omega)) (by omega) x ((hF9.pcs x hxm).ext hy) (HRg.out y (hF9.ext.trans hy)) Hg0.out (Below.size (hF9.ext.trans hy)) (fun h0 b off e => by
          obtain ⟨P, q', hp, _⟩ := hF9.form j hkl
          rw [hx] at hp
          rw [hp] at h0
          exact absurd h0 (by show ¬ 0 < 0; omega)) (fun _ b off e => IxOwns.far (hF9.nob x hxm b off e).1)).mono fun e y' ⟨h1, h2, _⟩ => by
          have h4 : ixAsk S ((400 : Nat) : Int) x = 13 := by rw [← hx]; exact hF9.askOld j hkl
          rw [h4] at h1 h2
          exact ⟨h1, h2 (by omega)⟩)
      have HCo := Lib.hid (show ∀ x, Ext y9 x → Calls Tryd.prog 13 #[.pointer (some ⟨gx, 0, none⟩)] x fun e w' => e = .returned (.int .i64 400) ∧ Ext x w' from fun x hx => ixCount_any (hF9.more hx).ix)
      have hpis := own_pis hF9.own hF9.pcs (by omega)
      obtain ⟨b, off, hb, -, hr⟩ := pis_rh hpis j hkl
      rw [hx] at hr
      have Hr := Lib.hid (show ∀ z, Ext y9 z → z.rangeAt b (off + j * 126) (pcL x) from fun z hz i v hv => by
        have h1 := hr i v hv
        rw [Ext.cell hz (World.block_lt_of_cell? _ _ h1)]
        exact h1)
      obtain ⟨A4, hA4⟩ : ∃ A, pcV x = A := ⟨_, rfl⟩
      rw [hA3] at HPu2
      rw [hA4] at HPu3
      rw [hA] at HPu1
      have HA4 := Lib.hid hA4
      have HAs := Lib.hid (show A.size = 126 by rw [← hA]; exact pcV_size _)
      have HAo := Lib.hid (show A.all (·.oneCell') = true by rw [← hA]; exact pcV_one _)
      have HAs3 := Lib.hid (show A3.size = 126 by rw [← hA3]; exact pcV_size _)
      have HB7 := Lib.hid hB7
      have HB9 := Lib.hid hB9
      have HB79 := Lib.hid (hE9.keep hB7)
      have HE9 := Lib.hid hF9.ext
      have Hy9 := Lib.hid hy9
      have Hg := Lib.hid hg
      have x2 : (j : Int) < 400 := by omega
      have x3 : (0 : Int) ≤ (j : Int) := by omega
      have wJ : IntKind.i64.wrap (j : Int) = (j : Int) := by rw [IntKind.wrap_i64]; omega
      rw [hb, hkj]
      clear hy7 hG7 hR7 hQ7 hE7 hA hB7 hAd hqq HTh HR6 HQ6 HE6 hR8 hR9 hE9 hc125 hb9 hF9 hA3 hB9 hAd3 nq hfr hkl hj hkj hxm hx hpis hb hr hA4 hy9 hg Hkk
      go_upto_region 19 with (first
        | (refine wpList_load_rowW rfl 37 _ rfl (q + 1) rfl _ _ _ _ HB7.out Tryd.underlying37 rfl (by rw [HAs.out]; kernel_rfl) ?_)
        | (refine wpList_store_row rfl 37 _ _ rfl _ _ rfl rfl _ _ (heap_new _ _ y7.heap.size rfl) (by rw [HAs.out]; kernel_rfl) (by rw [HAs.out, pcV_size]) HAo.out ?_; rw [setRow_new _ _ _ _ _ rfl]))
      rw [Hg.out]
      go_upto_region 20 with (fail)
      refine wp_world (w' := y9) Hy9.out ?_
      clear Hy9 c125 f125 HB7
      go_wp2_with (refine wpList_load_rowW rfl 37 _ rfl (q + 1) rfl _ _ _ _ HB79.out Tryd.underlying37 rfl (by rw [HAs.out]; kernel_rfl) ?_)
      refine HPu1.out.mono ?_
      rintro e z1 ⟨rfl, hz1⟩
      have HB91 := Lib.hid (hz1.keep HB9.out)
      have HP2 := Lib.hid (HPu2.out z1 hz1)
      have HZ1 := Lib.hid hz1
      clear hz1 HPu1 HPu2
      go_wp2_with (refine wpList_load_rowW rfl 37 _ rfl g rfl _ _ _ _ HB91.out Tryd.underlying37 rfl (by rw [HAs3.out]; kernel_rfl) ?_)
      refine HP2.out.mono ?_
      rintro e z2 ⟨rfl, hz2⟩
      have Hr2 := Lib.hid (Hr.out z2 (HZ1.out.trans hz2))
      have HP3 := Lib.hid (HPu3.out z2 (HZ1.out.trans hz2))
      have HZ2 := Lib.hid (HZ1.out.trans hz2)
      clear hz2 HP2 HPu3 Hr
      go_wp2_with (refine wp_pmid rfl _ rfl b (off + j * 126) x rfl Hr2.out ?_; rw [HA4.out])
      refine HP3.out.mono ?_
      rintro e z3 ⟨rfl, hz3⟩
      have HC := Lib.hid (HCo.out z3 (HZ2.out.trans hz3))
      have HZ3 := Lib.hid (HZ2.out.trans hz3)
      clear hz3 HP3 HCo
      go_wp2_with fail
      refine HC.out.mono ?_
      rintro e z4 ⟨rfl, hz4⟩
      have HZ4 := Lib.hid (HE9.out.trans (HZ3.out.trans hz4))
      clear hz4 HC
      go_wp2
      go_ret
      exact ⟨rfl, HZ4.out⟩

end Go.Proofs.YtihlpfdhallfpaaDoor
