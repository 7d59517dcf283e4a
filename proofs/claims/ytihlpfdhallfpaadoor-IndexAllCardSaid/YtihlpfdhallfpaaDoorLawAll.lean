/-
  THE WALK OF THE STATEMENT IndexAll: batch after batch, all that an index has comes, each writer's in its order. Asked: the two tables.
-/
import Derived.Test.YtihlpfdhallfpaaDoorBatP
import Derived.Test.YtihlpfdhallfpaaDoorAllM
import Derived.Test.YtihlpfdhallfpaaDoorIxA
import Derived.Test.YtihlpfdhallfpaaDoorPiOne
namespace Go.Proofs.YtihlpfdhallfpaaDoor
open Go.ChangeShapes Go.WideShapes Go.ChangeAt Go.RowKit

def vec0s : Array Value := #[.int .u64 0, .int .u64 0, .int .u64 0, .int .u64 0, .int .u64 0, .int .u64 0]
theorem AllI.begin (w : World) : AllI w w.heap.size (w.heap.size + 1) ((w.alloc (.cells vec0s 48)).alloc (.cells zero6s 52)) (fun _ => 0) (fun _ => (none, 0)) (fun _ => []) := by
  refine ⟨((Ext.refl w).alloc _).alloc _, rowIs_of (((Ext.refl _).alloc _).keep (heap_new w _ _ rfl)), ⟨rowIs_of (heap_new _ _ _ (by simp)), fun i _ => World.ownsRow_nil _ _ _ _, (fun i _ x hx => by cases hx), Nat.le_refl _, (fun i _ e => by cases e), (fun i j _ _ _ k e => by cases e), (fun i _ x hx => by cases hx)⟩, Nat.le_refl _, Nat.lt_succ_self _, fun i _ x hx => by cases hx⟩
theorem getD_nz {l : List Pc} {j : Nat} (h : j < l.length) : l.getD j pcN = l.getD j pcZ := by
  rw [List.getD_eq_getElem?_getD, List.getD_eq_getElem?_getD, List.getElem?_eq_getElem h]
  rfl
theorem run_eql_vec (w : World) (cu : Nat → Nat) : (binOp .eql 48 (.agg (curV cu)) (.agg (curV cu))).run Tryd.prog w = .ok (.bool true) w :=
  (run_eql_arr w 48 26 6 .u64 Tryd.underlying48 Tryd.underlying26 size_u64 (fun j => (cu j : Int)) (fun j => (cu j : Int))).trans (by rw [decide_eq_true (fun _ _ => rfl)])
theorem heads_curV {S : Nat → CSt} {cu : Nat → Nat} (h : ∀ i, i < 6 → cu i = lenS S i) : (rowArr 6 fun j => Value.int .u64 ((S j).l.length : Int)) = curV cu := by
  unfold curV rowArr
  congr 1
  refine List.map_congr_left fun j hj => ?_
  rw [h j (List.mem_range.1 hj)]
  rfl

set_option maxHeartbeats 8000000 in
set_option maxRecDepth 100000 in
theorem lawAll_any (a : Option Addr) (n c : Nat) (l : List Pc) (ra : Option Addr) (rn rc : Nat) (rs : List Int) (m : Int) (w : World) (h : PisR w a n c l) (hb : BsAt w ra rn rc rs) (hm : 0 ≤ m ∧ m ≤ 255) (hk : KsAt 1 w) (hkw : KsAt 0 w) :
    Calls Tryd.prog 7 #[.slice a n c, .slice ra rn rc, .int .u8 m] w fun e w' => e = .returned (.bool true) ∧ Ext w w' := by
  have H := Lib.hid (show ∀ x, Ext w x → PisR x a n c l from fun x hx => h.ext hx)
  have HB := Lib.hid (show ∀ x, Ext w x → BsAt x ra rn rc rs from fun x hx => hb.ext hx)
  have HRg := Lib.hid (show ∀ x, Ext w x → KsAt 1 x from fun x hx => hdKs_ext hk hx)
  have HRw := Lib.hid (show ∀ x, Ext w x → KsAt 0 x from fun x hx => hdKs_ext hkw hx)
  have HAw := Lib.hid (show ∀ x, Ext w x → Calls Tryd.prog 9 #[] x fun e w' => e = .returned (.bool true) ∧ Ext x w' from fun x hx => awake20_any x (hdKs_ext hk hx) (hdKs_ext hkw hx))
  have Hm := Lib.hid hm
  clear h hb hk hkw hm
  go_enter Tryd.func7, Tryd.ntmps7
  go_wp2_with fail
  refine (HAw.out w (Ext.refl w)).mono ?_
  rintro e w2 ⟨rfl, hE2⟩
  have HE2 := Lib.hid hE2
  have HFw := Lib.hid (few20_any a n c l 30 w2 (H.out w2 hE2))
  clear hE2
  go_wp2_with fail
  refine HFw.out.mono ?_
  rintro e w3 ⟨v, rfl, ⟨B, rfl, hB⟩, hE⟩
  have HE3 := Lib.hid (HE2.out.trans hE)
  have HBf := Lib.hid hB
  clear hE hB HFw
  cases B with
  | false =>
    go_wp2_with fail
    refine (HAw.out w3 HE3.out).mono ?_
    rintro e w4 ⟨rfl, hE⟩
    have HE4 := Lib.hid (HE3.out.trans hE)
    clear hE
    go_wp2
    go_ret
    exact ⟨rfl, HE4.out⟩
  | true =>
    obtain ⟨hn, htn⟩ := HBf.out rfl
    have hn30 : n ≤ 30 := by omega
    have HP0 := Lib.hid ((H.out w3 HE3.out).full fun j hj => (htn j hj (by omega)).2)
    have HFl := Lib.hid (filled_any a n c l ra rn rc rs w3 HP0.out hn30 (fun j hj => htn j hj (by omega)) (HB.out w3 HE3.out) (HRg.out w3 HE3.out) (HRw.out w3 HE3.out))
    clear hn htn HBf HAw
    go_wp2_with fail
    refine HFl.out.mono ?_
    rintro e w4 ⟨gx, G, S, gr, R, L, cnt, rfl, hM, hR, hcn⟩
    have HM := Lib.hid hM
    have HR := Lib.hid hR
    have Hcn := Lib.hid (show cnt ≤ 30 by omega)
    have HE4 := Lib.hid (HE3.out.trans hM.ext)
    have HMo := Lib.hid (hR.modest (by omega))
    have HEv := Lib.hid hR.even
    have H4 := Lib.hid (xrel_400 hR (show cnt ≤ 400 by omega))
    clear hM hR hcn HFl
    obtain ⟨r, hr⟩ : ∃ r, m.tmod 8 = r := ⟨_, rfl⟩
    have hr8 : 0 ≤ r ∧ r < 8 := by
      have := Hm.out
      rw [← hr, Int.tmod_eq_emod_of_nonneg (by omega)]
      omega
    have Hr := Lib.hid hr
    have Hr8 := Lib.hid hr8
    obtain ⟨T, hT⟩ : ∃ T, (min ((1 : Int) + r) 8).toNat = T := ⟨_, rfl⟩
    have HT1 := Lib.hid (show 1 ≤ T ∧ T ≤ 8 by omega)
    have HTT := Lib.hid hT
    have HBa := Lib.hid (show ∀ cu : Nat → Nat, (∀ i, i < 6 → cu i < 18446744073709551616) → ∀ z, Ext w4 z → Calls Tryd.prog 19 #[.pointer (some ⟨gx, 0, none⟩), .agg (curV cu), .agg (fltV true (.slice none 0 0)), .int .i64 (1 + r)] z (BatchSaysO S cu true [] (1 + r) z) from fun cu hcu z hz =>
      batchO_any HMo.out HEv.out (fun i hi => (H4.out i hi).1) hcu true none 0 0 [] (1 + r) (by have := Hr8.out; omega) z (HM.out.ix.ext hz) (ts_nil z))
    obtain ⟨FA, hFA⟩ : ∃ z, fltV true (.slice none 0 0) = z := ⟨_, rfl⟩
    have HFA := Lib.hid hFA
    rw [hFA] at HBa
    clear hFA hr hr8 hT
    have hA0 := AllI.begin w4
    obtain ⟨vg, hvg⟩ : ∃ z, w4.heap.size = z := ⟨_, rfl⟩
    obtain ⟨gt, hgt⟩ : ∃ z, vg + 1 = z := ⟨_, rfl⟩
    obtain ⟨y, hy⟩ : ∃ z, (w4.alloc (.cells vec0s 48)).alloc (.cells zero6s 52) = z := ⟨_, rfl⟩
    rw [hvg, hgt, hy] at hA0
    have HA0 := Lib.hid hA0
    have Hvg := Lib.hid hvg
    have Hgt := Lib.hid hgt
    have Hy := Lib.hid hy
    clear hA0 hvg hgt hy
    go_upto_region 8 with (fail)
    refine wp_world (w' := y) Hy.out ?_
    simp only [Hvg.out, Hgt.out]
    clear Hy
    go_wp2_with fail
    go_loopw [12] (fun iv z => ∃ (k : Nat) (cu : Nat → Nat) (R1 : Nat → Option Addr × Nat) (L1 : Nat → List Pc), k ≤ 32 ∧ iv = .int .i64 (k : Int) ∧ AllI w4 vg gt z cu R1 L1 ∧ GotR L L1 cu ∧ (∀ j, j < 6 → cu j ≤ lenS S j) ∧ remQ (lenS S) cu ≤ 30 - k) (fun iv _ => 32 - (intOf iv).toNat)
    case atStart => exact ⟨0, _, _, _, Nat.zero_le _, rfl, HA0.out, ⟨fun _ _ => rfl, fun _ _ t ht => absurd ht (Nat.not_lt_zero t)⟩, fun _ _ => Nat.zero_le _, by rw [remQ_zero HR.out]; exact Hcn.out⟩
    case round =>
      obtain ⟨k, cu, R1, L1, hk, rfl, hA, hG, hle, hrem⟩ := hrel
      rename World => z
      have HA := Lib.hid hA
      have HG := Lib.hid hG
      have HLe := Lib.hid hle
      have HRem := Lib.hid hrem
      clear hA hG hle hrem HA0
      by_cases hlt : k < 32
      · have x1 : (k : Int) ≤ 31 := by omega
        have Hk := Lib.hid hlt
        have HCu := Lib.hid (show ∀ i, i < 6 → cu i < 18446744073709551616 from fun i hi => by
          have h1 := HLe.out i hi
          have h2 := (H4.out i hi).1
          unfold lenS at h1
          omega)
        have HB1 := Lib.hid (HBa.out cu HCu.out z HA.out.ext)
        obtain ⟨CV, hCV⟩ : ∃ A, curV cu = A := ⟨_, rfl⟩
        have HCs := Lib.hid (show CV.size = 6 by rw [← hCV]; exact rowArr_size _ _)
        have HCv := Lib.hid (show z.heap[vg]? = some (.cells CV 48 (0, 0)) by rw [← hCV]; exact rowIs_cells HA.out.vec)
        rw [hCV] at HB1
        have wr0 := Hr.out
        have wr1 : IntKind.u8.wrap r = r := by have := Hr8.out; rw [IntKind.wrap_u8]; omega
        have wr2 : IntKind.i64.wrap r = r := by have := Hr8.out; rw [IntKind.wrap_i64]; omega
        have wr3 : IntKind.i64.wrap (1 + r) = 1 + r := by have := Hr8.out; rw [IntKind.wrap_i64]; omega
        clear hCV hlt hk
        go_wp2_with (first | (refine wpList_load_rowW rfl 48 (.tmp 10) rfl vg rfl _ _ _ _ HCv.out Tryd.underlying48 rfl (by rw [HCs.out]; kernel_rfl) ?_; simp only [Act.put, List.setIfInBounds_toArray, List.set_cons_zero, List.set_cons_succ]) | (refine wp_build_wiA rfl rfl FA HFA.out ?_))
        clear wr0 wr1 wr2 wr3
        refine HB1.out.mono ?_
        rintro e z0 ⟨va, ps, rfl, hE0, ho0, hp0, hl0, hc0⟩
        obtain ⟨pa, pc, hva⟩ := own_pisl ho0
        subst hva
        rw [HTT.out] at hl0 hc0
        obtain ⟨s, hs⟩ : ∃ s, (allB (lenS S) cu).take T = s := ⟨_, rfl⟩
        rw [hs] at hl0 hc0
        obtain ⟨N, hN⟩ : ∃ N, s.length = N := ⟨_, rfl⟩
        rw [hN] at hl0 hc0
        have HBk := Lib.hid (show ∀ j, j < N → ∃ i, BatK L (cuA cu (s.take j)) (cuA cu (s.take (j + 1))) (ps.getD j pcZ) i from fun j hj => bat_piece HR.out hs (by omega) (hc0 j hj))
        rw [hl0] at ho0 ⊢
        have hN8 : N ≤ 8 := by
          have := HT1.out
          rw [← hN, ← hs, List.length_take]
          omega
        have HA1 := Lib.hid (HA.out.more hE0)
        have hvv := rowIs_cells HA1.out.vec
        have HPs := Lib.hid (show ∀ j, j < N → PcAt z0 (ps.getD j pcZ) ∧ ∀ b, PcBlk (ps.getD j pcZ) b → b ≠ vg ∧ ¬ ROwns gt R1 L1 b from fun j hj => by
          have h1 := hp0 _ (getD_mem pcZ (show j < ps.length by omega))
          exact ⟨h1.at_, fun b hb => ⟨blk_ne h1 hb hvv (by decide) (by decide), far_own HA1.out.gix h1 b hb⟩⟩)
        have HPi := Lib.hid (own_pis ho0 (fun p hp => (hp0 p hp).at_) (by omega))
        have HPb := Lib.hid (show ∀ b, pa = some ⟨b, 0, none⟩ → b < z0.heap.size ∧ b ≠ vg ∧ ¬ ROwns gt R1 L1 b from fun b hb => by
          have h1 := ho0.lt b (by rw [hb]; rfl)
          refine ⟨h1.2, fun e => ?_, fun e => ?_⟩
          · have := HA.out.vec.lt
            omega
          · have := (HA.out.gix.lt e).2
            omega)
        have HO0 := Lib.hid ho0
        have Hl0 := Lib.hid hl0
        have Hs := Lib.hid hs
        have HN := Lib.hid hN
        have HN8 := Lib.hid hN8
        clear hE0 ho0 hp0 hl0 hc0 hs hN hvv hN8
        go_wp2_with fail
        go_loopw [14] (fun iv z => ∃ (j : Nat) (R2 : Nat → Option Addr × Nat) (L2 : Nat → List Pc), j ≤ N ∧ iv = .int .i64 (j : Int) ∧ AllI w4 vg gt z (cuA cu (s.take j)) R2 L2 ∧ GotR L L2 (cuA cu (s.take j)) ∧ InnI z0 vg gt R1 L1 z R2 L2) (fun iv _ => N - (intOf iv).toNat)
        case atStart => exact ⟨0, R1, L1, Nat.zero_le _, rfl, HA1.out, HG.out, InnI.refl _ _ _ _ _⟩
        case round =>
          obtain ⟨j, R2, L2, hj, rfl, hA, hG, hI⟩ := hrel
          rename World => x
          have HA2 := Lib.hid hA
          have HG2 := Lib.hid hG
          have HI2 := Lib.hid hI
          clear hA hG hI
          have HN8' := HN8.out
          by_cases hjN : j < N
          · have x2 : (j : Int) < (N : Int) := by omega
            obtain ⟨pb, epb⟩ : ∃ b, pa = some ⟨b, 0, none⟩ := by
              rcases HO0.out.2 with ⟨h1, h2⟩ | ⟨b, cap, cur, h1, _⟩
              · omega
              · simp only [Value.slice.injEq] at h1
                exact ⟨b, h1.1⟩
            subst epb
            obtain ⟨hb1, hb2, hb3⟩ := HPb.out pb rfl
            obtain ⟨i, hB⟩ := HBk.out j hjN
            have hz := getD_nz (show j < ps.length by rw [Hl0.out]; exact hjN)
            have hrg := pis_rp HPi.out j hjN
            rw [hz] at hrg
            obtain ⟨hpa, hpf⟩ := HPs.out j hjN
            obtain ⟨p, hp⟩ : ∃ p, ps.getD j pcZ = p := ⟨_, rfl⟩
            rw [hp] at hB hrg hpa hpf
            obtain ⟨ci, hci⟩ : ∃ q, cuA cu (s.take j) i = q := ⟨_, rfl⟩
            obtain ⟨o, ho⟩ : ∃ o, 0 + j * 126 = o := ⟨_, rfl⟩
            rw [ho] at hrg
            have hrx := HI2.out.rg hrg hb1 hb2 hb3
            have c0 : x.cell? ⟨pb, o, none⟩ = some (.int .i64 ((i : Int) + 1)) := by
              have h1 := hrx 0 _ (pcL_get p 0 (by omega))
              rw [Nat.add_zero] at h1
              rw [h1, ← hB.wr]
              rfl
            have c1 : x.cell? ⟨pb, o + 1, none⟩ = some (.int .u64 ((ci : Int) + 1)) := by
              have h1 := hrx 1 _ (pcL_get p 1 (by omega))
              rw [h1, ← hci, ← hB.sq]
              rfl
            obtain ⟨q1, q2, q3, q4⟩ := HA2.out.bump hB.hi
            rw [hci] at q1 q3 q4
            have hci4 : ci < 400 := by
              have h1 := hB.lt
              have h2 := (H4.out i hB.hi).2
              rw [hci] at h1
              omega
            have hi6 := hB.hi
            obtain ⟨PV, hPV⟩ : ∃ A, (pcL p).toArray = A := ⟨_, rfl⟩
            have HPV := Lib.hid hPV
            have HPq := Lib.hid (show pcV p = PV by rw [← hPV]; rfl)
            have HBK := Lib.hid hB
            have Hci := Lib.hid hci
            have HPa := Lib.hid hpa
            have HPf := Lib.hid hpf
            have Hrg := Lib.hid hrg
            have Hpb := Lib.hid (And.intro hb1 (And.intro hb2 hb3))
            have Ho := Lib.hid ho
            have Hi6 := Lib.hid hi6
            have Q2 := Lib.hid q2
            have Q3 := Lib.hid q3
            have Q4 := Lib.hid q4
            have HjN := Lib.hid hjN
            obtain ⟨nw, hnw⟩ : ∃ q : Int, (i : Int) + 1 = q := ⟨_, rfl⟩
            rw [hnw] at c0
            have f1 : ¬ nw < 1 := by omega
            have f2 : ¬ 6 < nw := by omega
            have f3 : IntKind.i64.wrap (nw - 1) = (i : Int) := by rw [IntKind.wrap_i64]; omega
            have f4 : (i : Int) < 6 := by omega
            have f5 : IntKind.u64.wrap ((ci : Int) + 1) = (ci : Int) + 1 := by rw [IntKind.wrap_u64]; omega
            have hix : ∀ w, (Instr.indexAt 24 (.slice (some ⟨pb, 0, none⟩) N pc) (.int .i64 (j : Int))).run Tryd.prog w = .ok (.pointer (some ⟨pb, o, none⟩)) w := fun w => by
              rw [← ho]
              have hb : (0 : Int) ≤ (j : Int) ∧ (j : Int) < (N : Int) := by omega
              simp only [Instr.indexAt, asIntOf, Sem.run_bind, Sem.run_pure, Result.andThen_ok, run_underlying Tryd.underlying24, hb, and_self, if_true, size_pcR, Int.toNat_natCast, add_none]
            clear hB hz hrg hpa hpf hp hci ho hrx q2 q3 q4 hb1 hb2 hb3 hPV hnw hi6 HN8'
            go_upto_region 16 with (fail)
            go_quiet (fail)
            go_upto_region 18 with (fail)
            rename Nat => nq
            obtain ⟨y1, hy1⟩ : ∃ z, x.drewN nq = z := ⟨_, rfl⟩
            have hEx : Ext x y1 := by rw [← hy1]; exact (Ext.refl x).drewN' nq
            refine wp_world (w' := y1) hy1 ?_
            have HA3 := Lib.hid (HA2.out.more hEx)
            have HI3 := Lib.hid (HI2.out.ext hEx)
            obtain ⟨r1, r2, r3, r4⟩ := HA3.out.bump Hi6.out
            rw [Hci.out] at r1 r3 r4
            have HI4 := Lib.hid (HI3.out.bump r4)
            have HA4 := Lib.hid r3
            clear hy1 hEx q1 c0 c1 r3 r4 Q2 Q3 Q4 f1 f2
            go_upto_region 19 with (fail)
            obtain ⟨y2, hy2⟩ : ∃ z, y1.setCell ⟨vg, i, none⟩ (.int .u64 ((ci : Int) + 1)) = z := ⟨_, rfl⟩
            rw [hy2] at HI4 HA4
            refine wp_world (w' := y2) hy2 ?_
            clear hy2 r1 r2
            obtain ⟨la, hla⟩ : ∃ q, (R2 i).1 = q := ⟨_, rfl⟩
            obtain ⟨lc, hlc⟩ : ∃ q, (R2 i).2 = q := ⟨_, rfl⟩
            have hlen : (L2 i).length = ci := by rw [HG2.out.len i Hi6.out, Hci.out]
            have hrs : rsl R2 L2 i = .slice la ci lc := by unfold rsl; rw [hla, hlc, hlen]
            have ho := HA4.out.gix.own i Hi6.out
            obtain ⟨LI, hLI⟩ : ∃ q, L2 i = q := ⟨_, rfl⟩
            rw [hrs, hlen, hLI] at ho
            have hlt4 := HA4.out.gix.row.lt
            have hne := HA4.out.gix.ne i Hi6.out
            have hcg := HA4.out.gix.row.cell (i := i) Hi6.out
            rw [hrs] at hne hcg
            obtain ⟨hb1, hb2, hb3⟩ := Hpb.out
            have hrgy := HI4.out.rg Hrg.out hb1 hb2 hb3
            have hnb : (Value.slice la ci lc).ownBlock ≠ some pb := fun e => by
              rcases HI4.out.new pb (.inr ⟨i, Hi6.out, by rw [hrs]; exact e⟩) with q | q
              · exact hb3 q
              · omega
            have hbs : pb < y2.heap.size := Nat.lt_of_lt_of_le hb1 HI4.out.kp.size
            have HRL := Lib.hid (show ∀ b, (Value.slice la ci lc).ownBlock = some b → b < y2.heap.size from fun b e => (ho.lt b e).2)
            have H8c := Lib.hid (show ∀ u, y2.grownBy u (Value.slice la ci lc).ownBlock → u.cell? ⟨gt, i, none⟩ = some (.slice la ci lc) ∧ u.rangeAt pb o (pcL p) from fun u hu =>
              ⟨(cell_blk (hu.block gt hlt4 fun e => hne e.symm)).trans hcg, range_blk hrgy (hu.block pb hbs fun e => hnb e.symm)⟩)
            have HOw := Lib.hid ho
            have HLt := Lib.hid (show gt ≤ y2.heap.size by omega)
            have HLa := Lib.hid hla
            have HLc := Lib.hid hlc
            have HLn := Lib.hid hlen
            have HLI := Lib.hid hLI
            have Hci4 := Lib.hid hci4
            clear hla hlc hlen hrs ho hLI hlt4 hne hcg hb1 hb2 hb3 hrgy hnb hbs hci4
            have HST := Lib.hid (show ∀ (ph : Bool) (w1 w' : World), (y2.grownBy w1 (Value.slice la ci lc).ownBlock ∧ (ph = false → Ext y2 w1)) → Ext w1 w' → (y2.grownBy w' (Value.slice la ci lc).ownBlock ∧ (ph = false → Ext y2 w')) ∧ (if ph = true then Ext w1 w' else w1.grownBy w' (Value.slice la ci lc).ownBlock) from fun ph w1 w' h1 h2 => ⟨⟨grown_trans h1.1 (grown_ext h2 _), fun e => (h1.2 e).trans h2⟩, by
              cases ph
              · exact grown_ext h2 _
              · exact h2⟩)
            refine lq_start (C := fun ph w => y2.grownBy w (Value.slice la ci lc).ownBlock ∧ (ph = false → Ext y2 w)) (E := fun ph w w' => if ph = true then Ext w w' else w.grownBy w' (Value.slice la ci lc).ownBlock) 13 11 (by omega) (by kernel_rfl) (by kernel_rfl) (fun ph w => by cases ph; exact World.grownBy.refl w _; exact Ext.refl w) (fun w w' h => grown_ext h _) ⟨grown_drewN (World.grownBy.refl y2 _) 1, fun _ => (Ext.refl y2).drew⟩ ?_
            simp only [List.take_succ_cons, List.take_zero]
            refine lq_s (.ex (.int .i64 nw)) [] (by omega) (by kernel_rfl) rfl (by rfl) trivial HST.out (fun ph w1 hw1 => ?_) ?_
            · simp only [pk, lexVals]
              clear hw1
              go_simp
              exact ⟨Ext.refl _, by first | rfl | simp⟩
            refine lq_s (.ex (.int .i64 (i : Int))) [(0, 84)] (by omega) (by kernel_rfl) rfl (by rfl) trivial HST.out (fun ph w1 hw1 => ?_) ?_
            · simp only [pk, nthSp, lexVals]
              clear hw1
              go_simp
              exact ⟨Ext.refl _, by first | rfl | simp⟩
            refine lq_s (.ex (.int .i64 nw)) [] (by omega) (by kernel_rfl) rfl (by rfl) trivial HST.out (fun ph w1 hw1 => ?_) ?_
            · simp only [pk, lexVals]
              clear hw1
              go_simp
              exact ⟨Ext.refl _, by first | rfl | simp⟩
            refine lq_s (.ex (.int .i64 (i : Int))) [(0, 86)] (by omega) (by kernel_rfl) rfl (by rfl) trivial HST.out (fun ph w1 hw1 => ?_) ?_
            · simp only [pk, nthSp, lexVals]
              clear hw1
              go_simp
              exact ⟨Ext.refl _, by first | rfl | simp⟩
            refine lq_s (.ex (.pointer (some ⟨gt, i, none⟩))) [(0, 87)] (by omega) (by kernel_rfl) rfl (by rfl) trivial HST.out (fun ph w1 hw1 => ?_) ?_
            · simp only [pk, nthSp, lexVals]
              clear hw1
              go_simp
              exact ⟨Ext.refl _, by first | rfl | simp⟩
            refine lq_s (.ex (.slice la ci lc)) [(0, 88)] (by omega) (by kernel_rfl) rfl (by rfl) trivial HST.out (fun ph w1 hw1 => ?_) ?_
            · simp only [pk, nthSp, lexVals]
              have hc := (H8c.out w1 hw1.1).1
              clear hw1
              go_simp
              exact ⟨Ext.refl _, by first | rfl | simp⟩
            refine lq_s (.ex (.slice (some ⟨pb, 0, none⟩) N pc)) [] (by omega) (by kernel_rfl) rfl (by rfl) trivial HST.out (fun ph w1 hw1 => ?_) ?_
            · simp only [pk, lexVals]
              clear hw1
              go_simp
              exact ⟨Ext.refl _, by first | rfl | simp⟩
            refine lq_s (.ex (.int .i64 (j : Int))) [] (by omega) (by kernel_rfl) rfl (by rfl) trivial HST.out (fun ph w1 hw1 => ?_) ?_
            · simp only [pk, lexVals]
              clear hw1
              go_simp
              exact ⟨Ext.refl _, by first | rfl | simp⟩
            refine lq_s (.ex (.pointer (some ⟨pb, o, none⟩))) [(1, 90), (0, 91)] (by omega) (by kernel_rfl) rfl (by rfl) trivial HST.out (fun ph w1 hw1 => ?_) ?_
            · simp only [pk, nthSp, lexVals]
              clear hw1
              go_simp
              exact ⟨Ext.refl _, by first | rfl | simp⟩
            refine lq_s (.ex (.agg PV)) [(0, 92)] (by omega) (by kernel_rfl) rfl (by rfl) trivial HST.out (fun ph w1 hw1 => ?_) ?_
            · simp only [pk, nthSp, lexVals]
              exact lu_midP rfl rfl (pcL p) (H8c.out w1 hw1.1).2 Tryd.underlying37 rfl (by rw [pcL_length]; kernel_rfl) PV HPV.out
            refine lq_s (.ab (fun u w9 => ∃ z, u = .slice (some ⟨z, 0, none⟩) 1 1 ∧ y2.heap.size ≤ z ∧ ∀ j, j < 126 → w9.cell? ⟨z, j, none⟩ = some (pcC p j))) [(0, 93)] (by omega) (by kernel_rfl) rfl (by rfl) (fun u w w' he ⟨z, h1, h4, h3⟩ => ⟨z, h1, h4, fun j hj => World.grownBy.cell he (h3 j hj) (fun e => by have := HRL.out z e.symm; omega)⟩) HST.out (fun ph w1 hw1 => ?_) ?_
            · simp only [pk, nthSp, lexVals]
              have hsz1 := hw1.1.size
              clear hw1
              rw [← HPq.out]
              exact lu_pc1 rfl rfl ⟨w1.heap.size, rfl, hsz1, fun j hj => row_cell (heap_new w1 _ _ rfl) j hj⟩
            refine lq_m (.ab (fun u w9 => ∃ w5 w6 a3 c3, u = .slice a3 (ci + 1) c3 ∧ Ext y2 w5 ∧ w5.grownBy w6 (Value.slice la ci lc).ownBlock ∧ w6.ownsRow gt 37 126 (.slice a3 (ci + 1) c3) (ci + 1) (pisC (LI ++ [p])) ∧ ((Value.slice a3 (ci + 1) c3).ownBlock = (Value.slice la ci lc).ownBlock ∨ (Value.slice a3 (ci + 1) c3).ownBlock = some w5.heap.size) ∧ Ext w6 w9)) [(5, 89), (0, 94)] rfl (by kernel_rfl) rfl (by rfl) (fun u w w' he ⟨w5, w6, a3, c3, h1, h2, h3, h4, h5, h7⟩ => ⟨w5, w6, a3, c3, h1, h2, h3, h4, h5, h7.trans he⟩) (fun w1 hw1 => ?_) ?_
            · simp only [pk, nthSp, lexVals]
              rintro u94 ⟨z, rfl, hz, hcz⟩
              have hE1 := hw1.2 rfl
              exact luc_append_pc (.tmp 89) (.tmp 94) rfl gt (.slice la ci lc) ci LI rfl (own_ext9 HOw.out hE1) z 1 p rfl hcz (by have := Hci4.out; omega) (by have h1 := HLt.out; have h2 := Below.size hE1; omega) (fun v' w' h1 h2 h3 => by
                obtain ⟨a3, c3, rfl⟩ := own_pisl h1
                exact ⟨⟨grown_trans hw1.1 h2, fun e => by cases e⟩, h2, w1, w', a3, c3, rfl, hE1, h2, h1, h3, Ext.refl _⟩)
            refine lq_s (.ex (.pointer (some ⟨gt, i, none⟩))) [(10, 85)] (by omega) (by kernel_rfl) rfl (by rfl) trivial HST.out (fun ph w1 hw1 => ?_) ?_
            · simp only [pk, nthSp, lexVals]
              clear hw1
              go_simp
              exact ⟨Ext.refl _, by first | rfl | simp⟩
            refine lq_stop (by rfl) (by decide) fun w9 hw9 => ?_
            clear hw9 HST H8c HRL
            simp only [rv, pf, lexVals, List.drop_succ_cons, List.drop_zero]
            rintro v94 ⟨z94, rfl, -⟩ v95 ⟨w10, w11, a3, c3, rfl, hE10, hG11, ho11, hwh, hE11⟩
            have hG9 := grown_trans hG11 (grown_ext hE11 (Value.slice la ci lc).ownBlock)
            obtain ⟨hp1, hp2⟩ := HI4.out.pc HPa.out HPf.out
            obtain ⟨d1, d2, d3, d4, d5⟩ := HA4.out.push Hi6.out HLa.out HLc.out HLn.out hp1 hp2 hE10 (by rw [HLI.out]; exact own_ext9 ho11 hE11) hG9 hwh
            have HA5 := Lib.hid d3
            have HI5 := Lib.hid (HI4.out.push d5 d4)
            have HG5 := Lib.hid (show GotR L (upL L2 i (L2 i ++ [p])) (cuA cu (s.take (j + 1))) from by
              rw [HBK.out.up]
              exact HG2.out.push Hi6.out HBK.out.eq)
            have hup := HBK.out.up
            rw [← hup] at HA5
            clear hE10 hG11 ho11 hwh hE11 hG9 hp1 hp2 d3 d4 d5 hup
            simp only [Act.put, List.setIfInBounds_toArray, List.set_cons_zero, List.set_cons_succ]
            have wJ : IntKind.i64.wrap ((j : Int) + 1) = (j : Int) + 1 := by have h1 := HN8.out; have h2 := HjN.out; rw [IntKind.wrap_i64]; omega
            go_wp2
            go_roundw
            case rel => exact ⟨j + 1, _, _, by have := HjN.out; omega, by go_num, HA5.out, HG5.out, HI5.out⟩
            case measure => have := HjN.out; simp [intOf]; omega
          · obtain rfl : j = N := by omega
            have x2 : ¬ (j : Int) < (j : Int) := by omega
            have hst : s.take j = s := List.take_of_length_le (by rw [HN.out]; exact Nat.le_refl _)
            rw [hst] at HA2 HG2
            have HLe2 := Lib.hid (show ∀ q, q < 6 → cuA cu s q ≤ lenS S q from by
              rw [← Hs.out]
              exact cuA_le HLe.out T)
            have HRm2 := Lib.hid (show remQ (lenS S) (cuA cu s) ≤ 30 - (k + 1) from by
              rw [← Hs.out]
              exact rem_next HLe.out HT1.out.1 HRem.out)
            have wK : IntKind.i64.wrap ((k : Int) + 1) = (k : Int) + 1 := by have h1 := Hk.out; rw [IntKind.wrap_i64]; omega
            clear hst
            go_wp2_with fail
            go_roundw
            case rel => exact ⟨k + 1, cuA cu s, R2, L2, by have := Hk.out; omega, by go_num, HA2.out, HG2.out, HLe2.out, HRm2.out⟩
            case measure => have := Hk.out; simp [intOf]; omega
      · obtain rfl : k = 32 := by omega
        have hrem := HRem.out
        have HEnd := Lib.hid (show ∀ q, q < 6 → cu q = lenS S q from rem_done HLe.out (by omega))
        have x1 : ¬ ((32 : Nat) : Int) ≤ 31 := by omega
        clear hrem hlt hk
        go_wp2_with fail
        go_loopw [16] (fun iv x => ∃ i : Nat, i ≤ 6 ∧ iv = .int .i64 (i : Int) ∧ Ext z x) (fun iv _ => 6 - (intOf iv).toNat)
        case atStart => exact ⟨0, by omega, rfl, Ext.refl z⟩
        case round =>
          obtain ⟨i, hi, rfl, hE⟩ := hrel
          rename World => x
          have HEx := Lib.hid hE
          have HAx := Lib.hid (HA.out.more hE)
          have HMx := Lib.hid (HM.out.more (HA.out.ext.trans hE))
          clear hE
          by_cases hi6 : i < 6
          · have x2 : (i : Int) < 6 := by omega
            have Hi := Lib.hid hi6
            obtain ⟨ga, hga⟩ : ∃ q, (R1 i).1 = q := ⟨_, rfl⟩
            obtain ⟨gc, hgc⟩ : ∃ q, (R1 i).2 = q := ⟨_, rfl⟩
            obtain ⟨la, hla⟩ : ∃ q, (R i).1 = q := ⟨_, rfl⟩
            obtain ⟨lc, hlc⟩ : ∃ q, (R i).2 = q := ⟨_, rfl⟩
            have e1 := HG.out.len i hi6
            have e2 := HEnd.out i hi6
            have e3 : (L i).length = cu i := by rw [e2, ← HR.out.ll i hi6]; rfl
            have hl4 : cu i ≤ 400 := by rw [← e3]; exact (H4.out i hi6).2
            obtain ⟨K, hK⟩ : ∃ q, cu i = q := ⟨_, rfl⟩
            have hcg := HAx.out.gix.row.cell (i := i) hi6
            have hcr := HMx.out.ri.row.cell (i := i) hi6
            have hpg := HAx.out.gix.pis i hi6 (by omega)
            have hpr := HMx.out.ri.pis i hi6 (by omega)
            have heq := HG.out.eq i hi6
            unfold rsl at hcg hcr
            rw [hK] at e1 e3 heq hl4
            rw [hga, hgc, e1] at hcg hpg
            rw [hla, hlc, e3] at hcr hpr
            have HCg := Lib.hid (show ∀ u, Ext x u → u.cell? ⟨gt, i, none⟩ = some (.slice ga K gc) from fun u hu => by rw [hu.cell (World.block_lt_of_cell? _ _ hcg)]; exact hcg)
            have HCr := Lib.hid (show ∀ u, Ext x u → u.cell? ⟨gr, i, none⟩ = some (.slice la K lc) from fun u hu => by rw [hu.cell (World.block_lt_of_cell? _ _ hcr)]; exact hcr)
            have HSm := Lib.hid (show ∀ u, Ext x u → Calls Tryd.prog 18 #[.slice ga K gc, .slice la K lc] u fun e w' => e = .returned (.bool true) ∧ Ext u w' from fun u hu => refSame_any ga K gc (L1 i) la lc (L i) u (hpg.ext hu) (hpr.ext hu) heq)
            have HX := Lib.hid (show ∀ u, Ext x.drew u → Ext x u from fun u hu => Ext.trans (Ext.refl x).drew hu)
            clear hga hgc hla hlc e1 e2 e3 hl4 hK hcg hcr hpg hpr heq hi6
            go_upto_region 23 with (fail)
            refine wp_region_lexA (by kernel_rfl) (by kernel_rfl) ?_
            refine lx_e (.int .i64 (i : Int)) [] (by kernel_rfl) rfl (by rfl) (fun w1 hw1 => ?_) ?_
            · simp only [pk, lexVals]
              clear hw1
              go_simp
              exact ⟨Ext.refl _, by first | rfl | simp⟩
            refine lx_e (.pointer (some ⟨gt, i, none⟩)) [(0, 101)] (by kernel_rfl) rfl (by rfl) (fun w1 hw1 => ?_) ?_
            · simp only [pk, nthSp, lexVals]
              have hi1 : (i : Int) < 6 := by have := Hi.out; omega
              clear hw1
              go_simp
              exact ⟨Ext.refl _, by first | rfl | simp⟩
            refine lx_e (.slice ga K gc) [(0, 102)] (by kernel_rfl) rfl (by rfl) (fun w1 hw1 => ?_) ?_
            · simp only [pk, nthSp, lexVals]
              have hc := HCg.out w1 (HX.out w1 hw1)
              clear hw1
              go_simp
              exact ⟨Ext.refl _, by first | rfl | simp⟩
            refine lx_e (.pointer (some ⟨gr, 0, none⟩)) [] (by kernel_rfl) rfl (by rfl) (fun w1 hw1 => ?_) ?_
            · simp only [pk, lexVals]
              clear hw1
              go_simp
              exact ⟨Ext.refl _, by first | rfl | simp⟩
            refine lx_e (.int .i64 (i : Int)) [] (by kernel_rfl) rfl (by rfl) (fun w1 hw1 => ?_) ?_
            · simp only [pk, lexVals]
              clear hw1
              go_simp
              exact ⟨Ext.refl _, by first | rfl | simp⟩
            refine lx_e (.pointer (some ⟨gr, 0, none⟩)) [(1, 104)] (by kernel_rfl) rfl (by rfl) (fun w1 hw1 => ?_) ?_
            · simp only [pk, nthSp, lexVals]
              clear hw1
              go_simp
              exact ⟨Ext.refl _, by first | rfl | simp⟩
            refine lx_e (.pointer (some ⟨gr, 0, none⟩)) [(0, 106)] (by kernel_rfl) rfl (by rfl) (fun w1 hw1 => ?_) ?_
            · simp only [pk, nthSp, lexVals]
              clear hw1
              go_simp
              exact ⟨Ext.refl _, by first | rfl | simp⟩
            refine lx_e (.pointer (some ⟨gr, i, none⟩)) [(0, 107), (2, 105)] (by kernel_rfl) rfl (by rfl) (fun w1 hw1 => ?_) ?_
            · simp only [pk, nthSp, lexVals]
              have hi1 : (i : Int) < 6 := by have := Hi.out; omega
              clear hw1
              go_simp
              exact ⟨Ext.refl _, by first | rfl | simp⟩
            refine lx_e (.slice la K lc) [(0, 108)] (by kernel_rfl) rfl (by rfl) (fun w1 hw1 => ?_) ?_
            · simp only [pk, nthSp, lexVals]
              have hc := HCr.out w1 (HX.out w1 hw1)
              clear hw1
              go_simp
              exact ⟨Ext.refl _, by first | rfl | simp⟩
            refine lx_e (.bool true) [(6, 103), (0, 109)] (by kernel_rfl) rfl (by rfl) (fun w1 hw1 => ?_) ?_
            · simp only [pk, nthSp, lexVals]
              have HC := Lib.hid (HSm.out w1 (HX.out w1 hw1))
              clear hw1
              go_simp
              refine HC.out.mono ?_
              rintro e w9 ⟨rfl, hE9⟩
              exact ⟨_, rfl, hE9, rfl⟩
            refine lx_e (.bool false) [(0, 110)] (by kernel_rfl) rfl (by rfl) (fun w1 hw1 => ?_) ?_
            · simp only [pk, nthSp, lexVals]
              clear hw1
              go_simp
              exact ⟨Ext.refl _, by first | rfl | simp⟩
            refine lx_stopA (by rfl) fun u hu => ?_
            have HEu := Lib.hid (HEx.out.trans (HX.out u hu))
            clear hu HX
            simp only [rv, pf, lexVals]
            simp only [Act.put, List.setIfInBounds_toArray, List.set_cons_zero, List.set_cons_succ]
            have wI : IntKind.i64.wrap ((i : Int) + 1) = (i : Int) + 1 := by have h1 := Hi.out; rw [IntKind.wrap_i64]; omega
            go_wp2_with fail
            go_roundw
            case rel => exact ⟨i + 1, by have := Hi.out; omega, by go_num, HEu.out⟩
            case measure => have := Hi.out; simp [intOf]; omega
          · obtain rfl : i = 6 := by omega
            have x2 : ¬ ((6 : Nat) : Int) < 6 := by omega
            have HHd := Lib.hid (show ∀ u, Ext x u → Calls Tryd.prog 16 #[.pointer (some ⟨gx, 0, none⟩)] u fun e w' => e = .returned (.agg (curV cu)) ∧ Ext u w' from fun u hu => by
              have h1 := ixHeads_any (HMx.out.ix.ext hu) HMo.out
              rw [heads_curV HEnd.out] at h1
              exact h1)
            have hev := fun w => run_eql_vec w cu
            obtain ⟨CV, hCV⟩ : ∃ A, curV cu = A := ⟨_, rfl⟩
            have HCs := Lib.hid (show CV.size = 6 by rw [← hCV]; exact rowArr_size _ _)
            have HCv := Lib.hid (show x.heap[vg]? = some (.cells CV 48 (0, 0)) by rw [← hCV]; exact rowIs_cells HAx.out.vec)
            rw [hCV] at HHd hev
            have HEv2 := Lib.hid hev
            have HX := Lib.hid (show ∀ u, Ext x.drew u → Ext x u from fun u hu => Ext.trans (Ext.refl x).drew hu)
            clear hCV hev
            go_upto_region 25 with (fail)
            refine wp_region_lexA (by kernel_rfl) (by kernel_rfl) ?_
            refine lx_e (.agg CV) [] (by kernel_rfl) rfl (by rfl) (fun w1 hw1 => ?_) ?_
            · simp only [pk, lexVals]
              exact lu_row rfl rfl ((HX.out w1 hw1).keep HCv.out) Tryd.underlying48 rfl (by rw [HCs.out]; kernel_rfl)
            refine lx_e (.pointer (some ⟨gx, 0, none⟩)) [] (by kernel_rfl) rfl (by rfl) (fun w1 hw1 => ?_) ?_
            · simp only [pk, lexVals]
              clear hw1
              go_simp
              exact ⟨Ext.refl _, by first | rfl | simp⟩
            refine lx_e (.agg CV) [(0, 113)] (by kernel_rfl) rfl (by rfl) (fun w1 hw1 => ?_) ?_
            · simp only [pk, nthSp, lexVals]
              have HC := Lib.hid (HHd.out w1 (HX.out w1 hw1))
              clear hw1
              go_simp
              refine HC.out.mono ?_
              rintro e w9 ⟨rfl, hE9⟩
              exact ⟨_, rfl, hE9, rfl⟩
            refine lx_e (.bool true) [(2, 112), (0, 114)] (by kernel_rfl) rfl (by rfl) (fun w1 hw1 => ?_) ?_
            · simp only [pk, nthSp, lexVals]
              have hev := HEv2.out
              clear hw1
              go_simp
              exact ⟨Ext.refl _, by first | rfl | simp⟩
            refine lx_e (.bool true) [(0, 115)] (by kernel_rfl) rfl (by rfl) (fun w1 hw1 => ?_) ?_
            · simp only [pk, nthSp, lexVals]
              clear hw1
              go_simp
              exact ⟨Ext.refl _, by first | rfl | simp⟩
            refine lx_stopA (by rfl) fun u hu => ?_
            have HEu := Lib.hid (HEx.out.trans (HX.out u hu))
            clear hu HX
            simp only [rv, pf, lexVals]
            simp only [Act.put, List.setIfInBounds_toArray, List.set_cons_zero, List.set_cons_succ]
            go_wp2_with fail
            go_ret
            exact ⟨rfl, HE4.out.trans (HA.out.ext.trans HEu.out)⟩

end Go.Proofs.YtihlpfdhallfpaaDoor
