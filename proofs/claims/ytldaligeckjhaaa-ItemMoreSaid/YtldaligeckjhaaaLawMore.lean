/-
  The walk of jalousielaw18.ItemMore: it answers true. No conditions.
-/
import Derived.Test.YtldaligeckjhaaaMoreA
import Derived.Test.YtldaligeckjhaaaLater
import Derived.Test.YtldaligeckjhaaaRwFew
namespace Go.Proofs.Ytldaligeckjhaaa
open Go.ChangeShapes Go.WideShapes Go.ChangeAt Go.RowKit

theorem rws_new (w : World) (r : Rw) {w' : World} (hE : Ext (w.alloc (.cells (rwV r) 36)) w') (hr : RwAt w' r) : RwsAt w' (some ⟨w.heap.size, 0, none⟩) 1 1 [r] := by
  refine ⟨rfl, Nat.le_refl _, by omega, by omega, fun x hx => ?_, fun _ => ⟨w.heap.size, 0, rfl, fun i hi j hj => ?_⟩, fun e => by cases e⟩
  · obtain rfl := List.mem_singleton.1 hx
    exact hr
  · obtain rfl : i = 0 := by omega
    rw [show 0 + 0 * 130 + j = j by omega]
    exact row_cell (hE.keep (heap_new w _ _ rfl)) j hj
theorem hdC_item (h : Hd) (j : Nat) (hj : j < 16) : some (hdC h (37 + j)) = some (.int .u8 (h.item j)) := by
  unfold hdC
  rw [if_neg (by omega), if_neg (by omega), if_neg (by omega), if_neg (by omega), if_neg (by omega), if_neg (by omega), if_pos (by omega), show 37 + j - 37 = j by omega]
theorem it_cells {w : World} {g : Nat} {t : It} {T : TypeId} {fr : Nat × Nat} (hb : w.heap[g]? = some (.cells (itV t) T fr)) :
    w.rangeAt g 16 (hdL t.hd.1) ∧ w.cell? ⟨g, 141, none⟩ = some (.bool t.kn) ∧ w.cell? ⟨g, 142, none⟩ = some (.bool t.al) ∧ w.cell? ⟨g, 143, none⟩ = some (.string t.name) ∧ w.cell? ⟨g, 145, none⟩ = some (.string t.val) := by
  refine ⟨range_hd (fun j hj => ?_), row_cell hb 141 (by omega), row_cell hb 142 (by omega), row_cell hb 143 (by omega), row_cell hb 145 (by omega)⟩
  rw [row_cell hb (16 + j) (by omega)]
  unfold itC
  rw [if_neg (by omega), if_pos (by omega), show 16 + j - 16 = j by omega]
theorem hdAtI (t : It) : HdAt (hdV t.hd.1) t.hd.1.time t.hd.1.writer t.hd.1.seq := ⟨hdV_size _, rowArr_get 125 _ 36 (by omega), rowArr_get 125 _ 0 (by omega), rowArr_get 125 _ 1 (by omega)⟩
theorem itN_own (B : Nat) (w : World) : ItOwn B w itN := ⟨World.ownsRow_nil _ _ _ _, World.ownsRow_nil _ _ _ _, hdN_ok, (fun u hu => by cases hu), (by show (0 : Nat) ≤ _; omega), (fun s hs => by cases hs), (by show (0 : Nat) ≤ _; omega), (by show (0 : Nat) ≤ _; omega)⟩
/-- What item.Of answers, in one. -/
theorem of_was (x : Nat → Int) (a : Option Addr) (n c : Nat) (l : List Rw) (w : World) (h : RwsAt w a n c l) (hs : n ≤ 100000) (L : List Rw) (hL : ofTok x (cntN l n) = L) :
    Calls Try.prog 13 #[.slice a n c, .agg (rowArr 16 fun j => .int .u8 (x j))] w fun e w' => ∃ t : It, e = .returned (.tuple #[.agg (itV t), .bool (decide (L ≠ []))]) ∧ Ext w w' ∧ ItOwn w.heap.size w' t ∧ Was x L t := by
  subst hL
  refine (of_any x a n c l w h hs).mono ?_
  rintro e w' ⟨hE, h⟩
  split at h
  · next e0 => exact ⟨itN, by rw [h, decide_eq_false (fun k => k e0)], hE, itN_own _ w', by unfold Was; rw [if_pos e0]⟩
  · next e0 =>
    obtain ⟨t, rfl, h1, h2⟩ := h
    exact ⟨t, by rw [decide_eq_true e0], hE, h1, by unfold Was; rw [if_neg e0]; exact h2⟩
set_option maxHeartbeats 4000000 in
set_option maxRecDepth 100000 in
theorem lawMore_any (a : Option Addr) (n c : Nat) (l : List Rw) (r : Rw) (w : World) (h : RwsAt w a n c l) (hr : RwAt w r) :
    Calls Try.prog 3 #[.slice a n c, .agg (rwV r)] w fun e w' => e = .returned (.bool true) ∧ Ext w w' := by
  have hcap := h.cap
  have hlim := h.lim
  obtain ⟨RV, hRV⟩ : ∃ z, rwV r = z := ⟨_, rfl⟩
  have HRV := Lib.hid hRV
  have HRs := Lib.hid (show RV.size = 130 ∧ RV.all (·.oneCell') = true by rw [← hRV]; exact ⟨rwV_size _, rwV_one _⟩)
  rw [hRV]
  obtain ⟨S, hS⟩ : ∃ z, w.heap.size = z := ⟨_, rfl⟩
  have HS := Lib.hid hS
  obtain ⟨w2, hw2⟩ : ∃ z, w.alloc (.cells RV 36) = z := ⟨_, rfl⟩
  have HE2 := Lib.hid (show Ext w w2 by rw [← hw2]; exact (Ext.refl w).alloc _)
  have HB2 := Lib.hid (show w2.heap[S]? = some (.cells RV 36 (0, 0)) by rw [← hw2]; exact heap_new w _ _ hS.symm)
  have HAw := Lib.hid (awake18_any w2)
  have HL := Lib.hid h
  have HR := Lib.hid hr
  have Hw2 := Lib.hid hw2
  clear h hr hRV hS hw2
  go_enter Try.func3, Try.ntmps3
  go_upto_region 1 with (fail)
  refine wp_world (w' := w2) Hw2.out ?_
  rw [HS.out]
  clear Hw2
  go_wp2_with fail
  refine HAw.out.mono ?_
  rintro e w3 ⟨rfl, hE3⟩
  have HE3 := Lib.hid hE3
  have HFew := Lib.hid (fewR_any a n c l 25 w3 (HL.out.ext (HE2.out.trans hE3)))
  clear hE3 HAw
  go_wp2_with fail
  refine HFew.out.mono ?_
  rintro e w4 ⟨R, rfl, hR, hE4⟩
  have HE4 := Lib.hid (HE3.out.trans hE4)
  have HRn := Lib.hid hR
  clear hE4 hR HFew HE3
  have HA4 := Lib.hid (awake18_any w4)
  cases R with
  | false =>
    go_wp2_with fail
    refine HA4.out.mono ?_
    rintro e w5 ⟨rfl, hE5⟩
    go_wp2
    go_ret
    exact ⟨rfl, HE2.out.trans (HE4.out.trans hE5)⟩
  | true =>
    have hn : n ≤ 25 := by
      have := HRn.out rfl
      omega
    have HB4 := Lib.hid (HE4.out.keep HB2.out)
    obtain ⟨S4, hS4⟩ : ∃ z, w4.heap.size = z := ⟨_, rfl⟩
    have HS4 := Lib.hid hS4
    obtain ⟨w5, hw5⟩ : ∃ z, w4.alloc (.cells RV 36) = z := ⟨_, rfl⟩
    have HE5 := Lib.hid (show Ext w4 w5 by rw [← hw5]; exact (Ext.refl w4).alloc _)
    have HR5 := Lib.hid (HR.out.ext (HE2.out.trans (HE4.out.trans HE5.out)))
    have HF1 := Lib.hid (fewR_any (some ⟨S4, 0, none⟩) 1 1 [r] 1 w5 (by rw [← hS4]; exact rws_new w4 r (by rw [HRV.out, hw5]; exact Ext.refl _) HR5.out))
    have Hw5 := Lib.hid hw5
    clear hS4 hw5 HRn HA4
    go_wp2_with (first | (refine wpList_load_rowW rfl 36 (.tmp 3) rfl S rfl _ _ _ _ HB4.out Try.underlying36 rfl (by rw [HRs.out.1]; kernel_rfl) ?_; simp only [Act.put, List.setIfInBounds_toArray, List.set_cons_zero, List.set_cons_succ]; refine wp_build_rw1 rfl (.tmp 18) rfl r RV HRV.out rfl ?_; rw [HS4.out, Hw5.out]; simp only [Act.put, List.setIfInBounds_toArray, List.set_cons_zero, List.set_cons_succ]))
    refine HF1.out.mono ?_
    rintro e w6 ⟨R, rfl, -, hE6⟩
    have HE6 := Lib.hid (HE2.out.trans (HE4.out.trans (HE5.out.trans hE6)))
    have HA6 := Lib.hid (awake18_any w6)
    have HB6 := Lib.hid ((HE5.out.trans hE6).keep HB4.out)
    clear hE6 HF1 HR5 HB4 Hw5 HE5 HS4
    cases R with
    | false =>
      go_wp2_with fail
      refine HA6.out.mono ?_
      rintro e w7 ⟨rfl, hE7⟩
      go_wp2
      go_ret
      exact ⟨rfl, HE6.out.trans hE7⟩
    | true =>
      have HFm := Lib.hid (refRow_any r w6 (HR.out.ext HE6.out))
      rw [HRV.out] at HFm
      go_wp2_with (first | (refine wpList_load_rowW rfl 36 (.tmp 3) rfl S rfl _ _ _ _ HB6.out Try.underlying36 rfl (by rw [HRs.out.1]; kernel_rfl) ?_; simp only [Act.put, List.setIfInBounds_toArray, List.set_cons_zero, List.set_cons_succ]))
      refine HFm.out.mono ?_
      rintro e w7 ⟨rfl, hE7⟩
      have HE7 := Lib.hid (HE6.out.trans hE7)
      have HB7 := Lib.hid (hE7.keep HB6.out)
      have HA7 := Lib.hid (awake18_any w7)
      clear hE7 HFm HB6 HA6 HE6
      obtain ⟨FB, hFB⟩ : ∃ z, rowB r = z := ⟨_, rfl⟩
      have HFB := Lib.hid hFB
      rw [hFB]
      clear hFB
      cases FB with
      | false =>
        go_wp2_with fail
        refine HA7.out.mono ?_
        rintro e w8 ⟨rfl, hE8⟩
        go_wp2
        go_ret
        exact ⟨rfl, HE7.out.trans hE8⟩
      | true =>
        go_wp2_with fail
        have hrb : w7.heap[S]? = some (.cells (rwV r) 36 (0, 0)) := by rw [HRV.out]; exact HB7.out
        obtain ⟨R1, hR1⟩ : ∃ z, r.hd.1.writer = z := ⟨_, rfl⟩
        obtain ⟨R2, hR2⟩ : ∃ z, r.hd.1.seq = z := ⟨_, rfl⟩
        have HC1 := Lib.hid (show w7.cell? ⟨S, 0, none⟩ = some (.int .i64 R1) by rw [← hR1]; exact rw_hd hrb 0 (by omega))
        have HC2 := Lib.hid (show w7.cell? ⟨S, 1, none⟩ = some (.int .u64 R2) by rw [← hR2]; exact rw_hd hrb 1 (by omega))
        have HR1 := Lib.hid hR1
        have HR2 := Lib.hid hR2
        have HSl := Lib.hid (show S < w7.heap.size from (Array.getElem?_eq_some_iff.1 HB7.out).1)
        clear hrb hR1 hR2
        go_loopw [5] (fun i y => ∃ k : Nat, k ≤ n ∧ i = .int .i64 (k : Int) ∧ Ext w7 y ∧ ∀ i, i < k → ¬ ((rwAt l i).hd.1.writer = R1 ∧ (rwAt l i).hd.1.seq = R2)) (fun i _ => n - (intOf i).toNat)
        case atStart => exact ⟨0, by omega, rfl, Ext.refl _, fun i h => by omega⟩
        case round =>
          obtain ⟨k, hk, rfl, hE, hNo⟩ := hrel
          have HE := Lib.hid hE
          have HNo := Lib.hid hNo
          rename World => y
          clear hE hNo
          by_cases hlt : k < n
          · have x1 : (k : Int) < (n : Int) := by omega
            obtain ⟨b, off, rfl, hcell⟩ := (HL.out.ext (HE7.out.trans HE.out)).at_ (by omega)
            obtain ⟨x, hx⟩ : ∃ x, l.getD k rwN = x := ⟨_, rfl⟩
            have hck := hcell k hlt
            rw [hx] at hck
            obtain ⟨X1, hX1⟩ : ∃ z, x.hd.1.writer = z := ⟨_, rfl⟩
            obtain ⟨X2, hX2⟩ : ∃ z, x.hd.1.seq = z := ⟨_, rfl⟩
            have hc1 : y.cell? ⟨b, off + k * 130, none⟩ = some (.int .i64 X1) := by rw [← hX1]; exact hck 0 (by omega)
            have hc2 : y.cell? ⟨b, off + k * 130 + 1, none⟩ = some (.int .u64 X2) := by rw [← hX2]; exact hck 1 (by omega)
            have hd1 : y.cell? ⟨S, 0, none⟩ = some (.int .i64 R1) := by rw [HE.out.cell HSl.out]; exact HC1.out
            have hd2 : y.cell? ⟨S, 1, none⟩ = some (.int .u64 R2) := by rw [HE.out.cell HSl.out]; exact HC2.out
            have HX := Lib.hid (show rwAt l k = x from hx)
            have HX1 := Lib.hid hX1
            have HX2 := Lib.hid hX2
            clear hcell hck hx hX1 hX2
            go_upto_region 6 with (fail)
            by_cases e1 : X1 = R1
            · subst e1
              by_cases e2 : X2 = R2
              · subst e2
                go_quiet (first | (refine wp_ridx rfl _ _ rfl b off n c k rfl (by first | rfl | simp [Act.eval]) hlt ?_))
                go_wp2
                go_ret
                exact ⟨rfl, HE7.out.trans (HE.out.drewN' _)⟩
              · have e2' : decide (X2 = R2) = false := decide_eq_false e2
                go_quiet (first | (refine wp_ridx rfl _ _ rfl b off n c k rfl (by first | rfl | simp [Act.eval]) hlt ?_))
                go_wp2
                go_roundw
                case rel =>
                  refine ⟨k + 1, by omega, by go_num, HE.out.drewN' _, fun i hi => ?_⟩
                  rcases Nat.lt_or_ge i k with q | q
                  · exact HNo.out i q
                  · obtain rfl : i = k := by omega
                    rw [HX.out]
                    exact fun h => e2 (HX2.out.symm.trans h.2)
                case measure => simp [intOf]; omega
            · have e1' : decide (X1 = R1) = false := decide_eq_false e1
              go_quiet (first | (refine wp_ridx rfl _ _ rfl b off n c k rfl (by first | rfl | simp [Act.eval]) hlt ?_))
              go_wp2
              go_roundw
              case rel =>
                refine ⟨k + 1, by omega, by go_num, HE.out.drewN' _, fun i hi => ?_⟩
                rcases Nat.lt_or_ge i k with q | q
                · exact HNo.out i q
                · obtain rfl : i = k := by omega
                  rw [HX.out]
                  exact fun h => e1 (HX1.out.symm.trans h.1)
              case measure => simp [intOf]; omega
          · obtain rfl : k = n := by omega
            have x1 : ¬ (k : Int) < (k : Int) := by omega
            clear hlt
            have hHR := HR1.out
            have hHR2 := HR2.out
            have HLen := Lib.hid HL.out.len
            have HCnt := Lib.hid (cntN_snoc (l := l) (r := r) HFB.out (fun q hq => by
              obtain ⟨i, hi, rfl⟩ := List.getElem_of_mem hq
              have h1 := HNo.out i (by rw [← HLen.out]; exact hi)
              have e : rwAt l i = l[i] := by
                unfold rwAt
                rw [List.getD_eq_getElem?_getD, List.getElem?_eq_getElem hi]
                rfl
              rw [e] at h1
              rw [hHR, hHR2]
              exact h1))
            clear hHR hHR2
            obtain ⟨L, hL⟩ : ∃ z, ofTok r.hd.1.item (cntN l k) = z := ⟨_, rfl⟩
            have HL1 := Lib.hid hL
            have HL2 := Lib.hid (show ofTok r.hd.1.item (cntN (l ++ [r]) (k + 1)) = L ++ [r] by
              have h := HCnt.out
              rw [HLen.out] at h
              rw [h, ofTok_snoc, hL])
            have HEy := Lib.hid (HE7.out.trans HE.out)
            have HBy := Lib.hid (HE.out.keep HB7.out)
            obtain ⟨X, hX⟩ : ∃ z, (rowArr 16 fun j => Value.int .u8 (r.hd.1.item j)) = z := ⟨_, rfl⟩
            have HX := Lib.hid hX
            have HXs := Lib.hid (show X.size = 16 ∧ X.all (·.oneCell') = true by rw [← hX]; exact ⟨rowArr_size _ _, rowArr_one fun _ _ => rfl⟩)
            have hrb : y.heap[S]? = some (.cells (rwV r) 36 (0, 0)) := by rw [HRV.out]; exact HBy.out
            obtain ⟨LI, hLI⟩ : ∃ z, (List.range 16).map (fun j => Value.int .u8 (r.hd.1.item j)) = z := ⟨_, rfl⟩
            have HLa := Lib.hid (show LI.toArray = X by rw [← hLI, ← hX]; rfl)
            have HLl := Lib.hid (show LI.length = 16 by rw [← hLI]; simp)
            have HRi := Lib.hid (show y.rangeAt S 37 LI from fun j v hv => by
              rw [← hLI] at hv
              have hj : j < 16 := by
                have := (List.getElem?_eq_some_iff.1 hv).1
                simpa using this
              rw [List.getElem?_map, List.getElem?_range hj] at hv
              obtain rfl := Option.some.inj hv
              rw [rw_hd hrb (37 + j) (by omega)]
              exact hdC_item r.hd.1 j hj)
            have HOf := Lib.hid (of_was r.hd.1.item a k c l y (HL.out.ext HEy.out) (by omega) L hL)
            rw [hX] at HOf
            clear hL hX hrb hLI HE HC1 HC2
            go_upto_region 8 with (fail)
            have hzi := it_zero
            obtain ⟨ZI, hZI⟩ : ∃ z, itV itN = z := ⟨_, rfl⟩
            have HZs := Lib.hid (show ZI.size = 146 by rw [← hZI]; exact itV_size _)
            rw [hZI] at hzi
            have HZI := Lib.hid hZI
            clear hZI
            go_upto_region 9 with (first | (refine wpList_load_mid rfl 27 (.tmp 60) rfl S _ rfl LI _ HRi.out Try.underlying27 rfl (by rw [HLl.out]; kernel_rfl) ?_; rw [HLa.out]; simp only [Act.put, List.setIfInBounds_toArray, List.set_cons_zero, List.set_cons_succ]) | (go_at_call 13; refine HOf.out.mono ?_; rintro e u1 ⟨was, rfl, hE, hA, hW⟩; obtain ⟨J, hJ⟩ : ∃ z, itV was = z := ⟨_, rfl⟩; have HJ := Lib.hid hJ; have HJs := Lib.hid (show J.size = 146 ∧ J.all (·.oneCell') = true by rw [← hJ]; exact ⟨itV_size _, itV_one _⟩); have HEu := Lib.hid hE; have HAu := Lib.hid hA; have HWas := Lib.hid hW; rw [hJ]; clear hE hA hW hJ) | (refine wpList_store_row rfl 41 _ _ rfl u1.heap.size _ rfl rfl _ _ (heap_new u1 _ _ rfl) (by rw [HJs.out.1]; kernel_rfl) (by rw [HJs.out.1, HZs.out]) HJs.out.2 ?_; rw [setRow_new u1 _ _ _ _ rfl]))
            obtain ⟨v1, hv1⟩ : ∃ z, u1.alloc (.cells J 41) = z := ⟨_, rfl⟩
            obtain ⟨t6, ht6⟩ : ∃ z, u1.heap.size = z := ⟨_, rfl⟩
            have HV1 := Lib.hid (show Ext w v1 by rw [← hv1]; exact HEy.out.trans (HEu.out.alloc _))
            have HT6 := Lib.hid (show v1.heap[t6]? = some (.cells J 41 (0, 0)) by rw [← hv1]; exact heap_new u1 _ _ ht6.symm)
            have HA6 := Lib.hid (show ItAt v1 was by rw [← hv1]; exact (HAu.out.ext ((Ext.refl u1).alloc _)).at)
            have HBv := Lib.hid (show v1.heap[S]? = some (.cells RV 36 (0, 0)) by rw [← hv1]; exact (HEu.out.alloc _).keep HBy.out)
            have HRv := Lib.hid (show v1.rangeAt S 37 LI by
              intro j u hu
              have h1 := HRi.out j u hu
              rw [← hv1, (HEu.out.alloc _).cell (World.block_lt_of_cell? _ _ h1)]
              exact h1)
            rw [ht6]
            refine wp_world (w' := v1) hv1 ?_
            clear hv1 ht6 hzi
            have HCr := Lib.hid (show ∀ z, Ext v1 z → RwsAt z a k c l from fun z hz => HL.out.ext (HV1.out.trans hz))
            have HOf2 := Lib.hid (show ∀ (z : World) (b : Option Addr) (d : Nat), Ext v1 z → v1.heap.size ≤ z.heap.size → OwnR v1.heap.size (k + 1) (l ++ [r]) (.slice b (k + 1) d) z → Calls Try.prog 13 #[.slice b (k + 1) d, .agg X] z fun e w' => ∃ t : It, e = .returned (.tuple #[.agg (itV t), .bool true]) ∧ Ext z w' ∧ ItOwn v1.heap.size w' t ∧ IsMade r.hd.1.item (L ++ [r]) t from fun z b d hz hs ho => by
              have hr' := own_rws ho.1 (fun x hx => by
                rcases List.mem_append.1 hx with h1 | h1
                · exact (HL.out.each x h1).ext (HV1.out.trans hz)
                · obtain rfl := List.mem_singleton.1 h1
                  exact HR.out.ext (HV1.out.trans hz)) (by omega)
              have h2 := of_was r.hd.1.item b (k + 1) d (l ++ [r]) z hr' (by omega) (L ++ [r]) HL2.out
              rw [HX.out] at h2
              refine h2.mono ?_
              rintro e w' ⟨t, rfl, h3, h4, h5⟩
              unfold Was at h5
              rw [if_neg (by simp)] at h5
              exact ⟨t, by rw [decide_eq_true (by simp)], h3, h4.mono hs, h5⟩)
            obtain ⟨G, hG⟩ : ∃ z : Value → World → Prop, (fun (v : Value) (z : World) => ∃ (g : Nat) (t : It), v = .pointer (some ⟨g, 0, none⟩) ∧ v1.heap.size ≤ g ∧ z.heap[g]? = some (.cells (itV t) 41 (0, 0)) ∧ ItOwn v1.heap.size z t ∧ IsMade r.hd.1.item (L ++ [r]) t) = z := ⟨_, rfl⟩
            have HG := Lib.hid hG
            clear hG
            refine lh_start (C := fun _ => Ext v1) (E := McE v1.heap.size k (k + 1) (l ++ [r])) 16 14 13 8 _ [13, 11] G (by omega) (by kernel_rfl) (by kernel_rfl) (by decide) (by kernel_rfl) rfl rfl (by kernel_rfl) (by kernel_rfl) (fun v z z' he h => by rw [← HG.out] at h ⊢; obtain ⟨g, t, h1, h2, h3, h4, h5⟩ := h; exact ⟨g, t, h1, h2, he.said rfl _ _ h3, he.its _ h4, h5⟩) (fun _ z => McE.ext (Ext.refl z)) (fun _ _ h => h.le) (Ext.refl v1).drew ?_
            simp only [List.take_succ_cons, List.take_zero]
            have HST := Lib.hid (show ∀ (ph : Bool) (z z' : World), Ext v1 z → Ext z z' → Ext v1 z' ∧ McE v1.heap.size k (k + 1) (l ++ [r]) ph z z' from fun ph z z' h he => ⟨h.trans he, McE.ext he⟩)
            refine lq_s (.ab (OwnR v1.heap.size 0 [])) [] (by omega) (by kernel_rfl) rfl (by rfl) (fun u z z' he h => he.own 0 [] u (Or.inl (Nat.zero_le _)) h) HST.out (fun ph w1 hw1 => ?_) ?_
            · simp only [pk, lexVals]
              exact lu_rw0 rfl (own_rw0 (Below.size hw1))
            refine lq_s (.ex (.slice a k c)) [] (by omega) (by kernel_rfl) rfl (by rfl) trivial HST.out (fun ph w1 hw1 => ?_) ?_
            · simp only [pk, lexVals]
              clear hw1
              go_simp
              exact ⟨Ext.refl _, by first | rfl | simp⟩
            refine lq_s (.ab (OwnR v1.heap.size k l)) [(1, 66), (0, 67)] (by omega) (by kernel_rfl) rfl (by rfl) (fun u z z' he h => he.own k l u (Or.inl (Nat.le_refl _)) h) HST.out (fun ph w1 hw1 => ?_) ?_
            · simp only [pk, nthSp, lexVals]
              intro u66 h66
              exact lu_app (.tmp 66) (.tmp 67) rfl rfl h66 rfl ⟨a, c, rfl, HCr.out w1 hw1⟩ (by omega) (Below.size hw1) (fun v' w' h => h)
            refine lq_s (.ex (.agg RV)) [] (by omega) (by kernel_rfl) rfl (by rfl) trivial HST.out (fun ph w1 hw1 => ?_) ?_
            · simp only [pk, lexVals]
              exact lu_row rfl rfl (hw1.keep HBv.out) Try.underlying36 rfl (by rw [HRs.out.1]; kernel_rfl)
            refine lq_s (.ab (OwnR v1.heap.size 1 [r])) [(0, 69)] (by omega) (by kernel_rfl) rfl (by rfl) (fun u z z' he h => he.own 1 [r] u (by
              by_cases q : 1 ≤ k
              · exact Or.inl q
              · have hk0 : k = 0 := by omega
                refine Or.inr ⟨by omega, ?_⟩
                rw [List.eq_nil_of_length_eq_zero (HLen.out.trans hk0)]
                rfl) h) HST.out (fun ph w1 hw1 => ?_) ?_
            · simp only [pk, nthSp, lexVals]
              exact lu_rw1 rfl (by rw [HRV.out]; rfl) (own_rw1 (Below.size hw1) r)
            refine lq_g (.ab (OwnR v1.heap.size (k + 1) (l ++ [r]))) [(2, 68), (0, 70)] (by omega) (by kernel_rfl) rfl (by rfl) (fun u z z' he h => he.own (k + 1) (l ++ [r]) u (Or.inr ⟨rfl, rfl⟩) h) (fun ph w1 hw1 => ?_) ?_
            · simp only [pk, nthSp, lexVals]
              intro u68 h68 u70 h70
              obtain ⟨a7, c7, rfl⟩ := own_t h70
              refine luc_app (w0 := v1) (.tmp 68) (.tmp 70) rfl rfl h68 rfl ⟨a7, c7, rfl, own_rws h70.1 (fun x hx => by
                obtain rfl := List.mem_singleton.1 hx
                exact HR.out.ext (HV1.out.trans hw1)) (by omega)⟩ (by omega) hw1 (Or.inr ⟨rfl, rfl, rfl⟩) (fun v' w' h _ => h)
            refine lq_s (.ex (.pointer (some ⟨S, 0, none⟩))) [] (by omega) (by kernel_rfl) rfl (by rfl) trivial HST.out (fun ph w1 hw1 => ?_) ?_
            · simp only [pk, lexVals]
              clear hw1
              go_simp
              exact ⟨Ext.refl _, by first | rfl | simp⟩
            refine lq_s (.ex (.pointer (some ⟨S, 37, none⟩))) [(0, 72)] (by omega) (by kernel_rfl) rfl (by rfl) trivial HST.out (fun ph w1 hw1 => ?_) ?_
            · simp only [pk, nthSp, lexVals]
              clear hw1
              go_simp
              exact ⟨Ext.refl _, by first | rfl | simp⟩
            refine lq_s (.ex (.agg X)) [(0, 73)] (by omega) (by kernel_rfl) rfl (by rfl) trivial HST.out (fun ph w1 hw1 => ?_) ?_
            · simp only [pk, nthSp, lexVals]
              exact lu_mid rfl rfl LI (fun j u hu => by
                have h1 := HRv.out j u hu
                rw [hw1.cell (World.block_lt_of_cell? _ _ h1)]
                exact h1) Try.underlying27 rfl (by rw [HLl.out]; kernel_rfl) X HLa.out
            refine lq_s (.ab (fun u z => ∃ t : It, u = .tuple #[.agg (itV t), .bool true] ∧ ItOwn v1.heap.size z t ∧ IsMade r.hd.1.item (L ++ [r]) t)) [(3, 71), (0, 74)] (by omega) (by kernel_rfl) rfl (by rfl) (fun u z z' he ⟨t, h1, h2, h3⟩ => ⟨t, h1, he.its _ h2, h3⟩) HST.out (fun ph w1 hw1 => ?_) ?_
            · simp only [pk, nthSp, lexVals]
              intro u71 h71
              obtain ⟨a8, c8, rfl⟩ := own_t h71
              have HC := Lib.hid (HOf2.out w1 a8 c8 hw1 (Below.size hw1) h71)
              clear hw1 h71
              go_simp
              refine HC.out.mono ?_
              rintro e w3 ⟨t, rfl, h1, h2, h3⟩
              exact ⟨_, rfl, h1, t, rfl, h2, h3⟩
            refine lq_s (.ab (fun u z => ∃ t : It, u = .tuple #[.agg (itV t), .bool true] ∧ ItOwn v1.heap.size z t ∧ IsMade r.hd.1.item (L ++ [r]) t)) [(0, 75)] (by omega) (by kernel_rfl) rfl (by rfl) (fun u z z' he ⟨t, h1, h2, h3⟩ => ⟨t, h1, he.its _ h2, h3⟩) HST.out (fun ph w1 hw1 => ?_) ?_
            · simp only [pk, nthSp, lexVals]
              intro u75 h75
              clear hw1
              go_simp
              exact ⟨Ext.refl _, h75⟩
            refine lq_s (.ab (fun u z => ∃ t : It, u = .agg (itV t) ∧ ItOwn v1.heap.size z t ∧ IsMade r.hd.1.item (L ++ [r]) t)) [(0, 65)] (by omega) (by kernel_rfl) rfl (by rfl) (fun u z z' he ⟨t, h1, h2, h3⟩ => ⟨t, h1, he.its _ h2, h3⟩) HST.out (fun ph w1 hw1 => ?_) ?_
            · simp only [pk, nthSp, lexVals]
              rintro u65 ⟨t, rfl, h2, h3⟩
              exact lu_ext rfl rfl rfl ⟨t, rfl, h2, h3⟩
            refine lq_s (.ex (.bool true)) [(1, 65)] (by omega) (by kernel_rfl) rfl (by rfl) trivial HST.out (fun ph w1 hw1 => ?_) ?_
            · simp only [pk, nthSp, lexVals]
              rintro u65 ⟨t, rfl, h2, h3⟩
              exact lu_ext rfl rfl rfl rfl
            refine lq_s (.ab (ItB v1.heap.size)) [] (by omega) (by kernel_rfl) rfl (by rfl) (fun u z z' he h => he.blk u h) HST.out (fun ph w1 hw1 => ?_) ?_
            · simp only [pk, lexVals]
              exact lu_new rfl (Below.size hw1)
            refine lq_m (.ab fun _ _ => True) [(0, 8), (2, 76)] rfl (by kernel_rfl) rfl (by rfl) (fun _ _ _ _ _ => trivial) (fun w1 hw1 => ?_) ?_
            · simp only [pk, nthSp, lexVals]
              rintro u8 h8 u76 ⟨t, rfl, h2, h3⟩
              exact (luc_store (w0 := v1) rfl rfl h8 rfl hw1).1
            refine lq_s (.ex (.bool true)) [(2, 77)] (by omega) (by kernel_rfl) rfl (by rfl) trivial HST.out (fun ph w1 hw1 => ?_) ?_
            · simp only [pk, nthSp, lexVals]
              clear hw1
              go_simp
              exact ⟨Ext.refl _, by first | rfl | simp⟩
            refine lh_stop (t := 8) (G := G) [(2, 8), (4, 76)] (by rfl) (by decide) (by rfl) (by kernel_rfl) rfl (fun w1 hw1 => ?_) (fun v2 hv2 => ?_)
            · simp only [pk, nthSp, lexVals]
              rintro u8 h8 u76 ⟨t, rfl, h2, h3⟩
              simp only [Act.put, List.setIfInBounds_toArray, List.set_cons_zero, List.set_cons_succ]
              rw [← HG.out]
              exact luc_storeG (v := u8) (w0 := v1) rfl rfl h8 rfl hw1 (fun w' g k1 k2 k3 k4 => ⟨g, t, k1, k2, k3, k4 t h2, h3⟩)
            · have HE2v := Lib.hid hv2
              clear hv2
              simp only [rv, pf, lexVals, List.drop_succ_cons, List.drop_zero]
              rintro u66 - u68 - u70 - u71 - u75 - u65 - u76 - u8 - u0 -
              simp only [Act.put, List.setIfInBounds_toArray, List.set_cons_zero, List.set_cons_succ]
              intro hg
              have hg8 : G u8 v2 := hg
              clear hg
              rw [← HG.out] at hg8
              obtain ⟨t8, now, rfl, hS8, hT8, hO8, hI8⟩ := hg8
              have HS8 := Lib.hid hS8
              have HT8 := Lib.hid hT8
              have HA8 := Lib.hid hO8.at
              have HI8 := Lib.hid hI8
              clear hS8 hT8 hO8 hI8 HST HG
              have HBw := Lib.hid (HE2v.out.keep HBv.out)
              have HTw := Lib.hid (HE2v.out.keep HT6.out)
              have HAw6 := Lib.hid (HA6.out.ext HE2v.out)
              obtain ⟨HNV, hHNV⟩ : ∃ z, hdV now.hd.1 = z := ⟨_, rfl⟩
              obtain ⟨HRV', hHRV⟩ : ∃ z, hdV r.hd.1 = z := ⟨_, rfl⟩
              obtain ⟨HWV, hHWV⟩ : ∃ z, hdV was.hd.1 = z := ⟨_, rfl⟩
              have HHn := Lib.hid hHNV
              have HHr := Lib.hid hHRV
              have HHw := Lib.hid hHWV
              obtain ⟨LN, hLN⟩ : ∃ z, hdL now.hd.1 = z := ⟨_, rfl⟩
              obtain ⟨LR, hLR⟩ : ∃ z, hdL r.hd.1 = z := ⟨_, rfl⟩
              obtain ⟨LW, hLW⟩ : ∃ z, hdL was.hd.1 = z := ⟨_, rfl⟩
              have HLn := Lib.hid (show LN.toArray = HNV ∧ LN.length = 125 by rw [← hLN, ← hHNV]; exact ⟨rfl, hdL_length _⟩)
              have HLr := Lib.hid (show LR.toArray = HRV' ∧ LR.length = 125 by rw [← hLR, ← hHRV]; exact ⟨rfl, hdL_length _⟩)
              have HLw := Lib.hid (show LW.toArray = HWV ∧ LW.length = 125 by rw [← hLW, ← hHWV]; exact ⟨rfl, hdL_length _⟩)
              have HKr0 := Lib.hid (show ∀ z, Ext v2 z → z.rangeAt S 0 LR ∧ z.cell? ⟨S, 125, none⟩ = some (.bool r.kn) ∧ z.cell? ⟨S, 126, none⟩ = some (.int .i64 r.op) ∧ z.cell? ⟨S, 127, none⟩ = some (.string r.name) ∧ z.cell? ⟨S, 129, none⟩ = some (.string r.val) from fun z hz => by
                have hb : z.heap[S]? = some (.cells (rwV r) 36 (0, 0)) := by rw [HRV.out]; exact hz.keep HBw.out
                rw [← hLR]
                exact ⟨rw_rh hb, rw_kn hb, rw_op hb, rw_name hb, rw_val hb⟩)
              have HK80 := Lib.hid (show ∀ z, Ext v2 z → z.rangeAt t8 16 LN ∧ z.cell? ⟨t8, 141, none⟩ = some (.bool now.kn) ∧ z.cell? ⟨t8, 142, none⟩ = some (.bool now.al) ∧ z.cell? ⟨t8, 143, none⟩ = some (.string now.name) ∧ z.cell? ⟨t8, 145, none⟩ = some (.string now.val) from fun z hz => by
                have hb := it_cells (hz.keep HT8.out)
                rw [← hLN]
                exact hb)
              have HK60 := Lib.hid (show ∀ z, Ext v2 z → z.rangeAt t6 16 LW ∧ z.cell? ⟨t6, 141, none⟩ = some (.bool was.kn) ∧ z.cell? ⟨t6, 142, none⟩ = some (.bool was.al) ∧ z.cell? ⟨t6, 143, none⟩ = some (.string was.name) ∧ z.cell? ⟨t6, 145, none⟩ = some (.string was.val) from fun z hz => by
                have hb0 : z.heap[t6]? = some (.cells (itV was) 41 (0, 0)) := by rw [HJ.out]; exact hz.keep HTw.out
                have hb := it_cells hb0
                rw [← hLW]
                exact hb)
              clear hHNV hHRV hHWV hLN hLR hLW
              by_cases hL0 : L = []
              · have hL0' : decide (L = []) = true := decide_eq_true hL0
                have HNew : Newer L r := Or.inl hL0
                have HEv := Lib.hid (Ext.refl v2)
                have hq := more_newer HWas.out HI8.out HFB.out HNew
                have HSm := Lib.hid (sameHd_any now.hd.1 r.hd.1 now.hd.2 r.hd.2 v2 (HA8.out.ext HEv.out).hd.toks (HR.out.ext (HV1.out.trans (HE2v.out.trans HEv.out))).hd.toks)
                rw [HHn.out, HHr.out, hq.1] at HSm
                have HKn := Lib.hid hq.2.1
                have HQ := Lib.hid hq.2.2
                clear hq
                have HKr := Lib.hid (HKr0.out v2 HEv.out)
                have HK6 := Lib.hid (HK60.out v2 HEv.out)
                have HK8 := Lib.hid (HK80.out v2 HEv.out)
                go_upto_region 14 with (fail)
                go_upto_region 16 with (first | (refine wpList_load_mid rfl 31 (.tmp 101) rfl t8 _ rfl LN _ HK8.out.1 Try.underlying31 rfl (by rw [HLn.out.2]; kernel_rfl) ?_; rw [HLn.out.1]; simp only [Act.put, List.setIfInBounds_toArray, List.set_cons_zero, List.set_cons_succ]) | (refine wpList_load_mid rfl 31 (.tmp 103) rfl S _ rfl LR _ HKr.out.1 Try.underlying31 rfl (by rw [HLr.out.2]; kernel_rfl) ?_; rw [HLr.out.1]; simp only [Act.put, List.setIfInBounds_toArray, List.set_cons_zero, List.set_cons_succ]) | (go_at_call 15; refine HSm.out.mono ?_; rintro e v4 ⟨rfl, hE⟩; have HE4v := Lib.hid (HEv.out.trans hE); have HKr4 := Lib.hid (HKr0.out v4 HE4v.out); have HK84 := Lib.hid (HK80.out v4 HE4v.out); have HK64 := Lib.hid (HK60.out v4 HE4v.out); have hk1 := HKr4.out.2.1; have hk2 := HK84.out.2.1; rw [HKn.out] at hk2; clear hE))
                obtain ⟨KB, hKB⟩ : ∃ z, r.kn = z := ⟨_, rfl⟩
                have HKB := Lib.hid hKB
                rw [hKB] at hk1
                clear hk2 hKB
                cases KB with
                | false =>
                  have hq := HQ.out.1 HKB.out
                  obtain ⟨AL, hAL⟩ : ∃ z, was.al = z := ⟨_, rfl⟩
                  obtain ⟨VL, hVL⟩ : ∃ z, was.val = z := ⟨_, rfl⟩
                  have hn1 := HK84.out.2.2.1
                  have hn2 := HK84.out.2.2.2.2
                  have ho1 := HK64.out.2.2.1
                  have ho2 := HK64.out.2.2.2.2
                  rw [hq.1, hAL] at hn1
                  rw [hq.2, hVL] at hn2
                  rw [hAL] at ho1
                  rw [hVL] at ho2
                  clear hq hAL hVL
                  cases AL <;>
                  · go_wp2_with fail
                    go_ret
                    exact ⟨rfl, HV1.out.trans (HE2v.out.trans HE4v.out)⟩
                | true =>
                  obtain ⟨OP, hOP⟩ : ∃ z, r.op = z := ⟨_, rfl⟩
                  have HOP := Lib.hid hOP
                  have hk3 := HKr4.out.2.2.1
                  rw [hOP] at hk3
                  clear hOP
                  by_cases h3 : OP = 3
                  · have hq := HQ.out.2.1 HKB.out (HOP.out.trans h3)
                    subst h3
                    obtain ⟨AL, hAL⟩ : ∃ z, was.al = z := ⟨_, rfl⟩
                    obtain ⟨NL, hNL⟩ : ∃ z, r.name = z := ⟨_, rfl⟩
                    have hn1 := HK84.out.2.2.1
                    have hn2 := HK84.out.2.2.2.1
                    have ho1 := HK64.out.2.2.1
                    have ho2 := HKr4.out.2.2.2.1
                    rw [hq.1, hAL] at hn1
                    rw [hq.2, hNL] at hn2
                    rw [hAL] at ho1
                    rw [hNL] at ho2
                    clear hq hAL hNL
                    cases AL <;>
                    · go_wp2_with fail
                      go_ret
                      exact ⟨rfl, HV1.out.trans (HE2v.out.trans HE4v.out)⟩
                  · have hq := HQ.out.2.2 HKB.out (fun h => h3 (HOP.out.symm.trans h))
                    obtain ⟨NL, hNL⟩ : ∃ z, r.name = z := ⟨_, rfl⟩
                    obtain ⟨VL, hVL⟩ : ∃ z, r.val = z := ⟨_, rfl⟩
                    have hn1 := HK84.out.2.2.1
                    have hn2 := HK84.out.2.2.2.1
                    have hn3 := HK84.out.2.2.2.2
                    have ho2 := HKr4.out.2.2.2.1
                    have ho3 := HKr4.out.2.2.2.2
                    rw [hq.1, HOP.out] at hn1
                    rw [hq.2.1, hVL] at hn3
                    rw [hq.2.2, hNL] at hn2
                    rw [hVL] at ho3
                    rw [hNL] at ho2
                    clear hq hVL hNL
                    have h3' : decide (OP = 3) = false := decide_eq_false h3
                    by_cases h1 : OP = 1
                    · subst h1
                      go_wp2_with fail
                      go_ret
                      exact ⟨rfl, HV1.out.trans (HE2v.out.trans HE4v.out)⟩
                    · have h1' : (OP == 1) = false := beq_eq_false_iff_ne.2 h1
                      rw [h1'] at hn1
                      go_wp2_with fail
                      go_ret
                      exact ⟨rfl, HV1.out.trans (HE2v.out.trans HE4v.out)⟩
              · have hL0' : decide (L = []) = false := decide_eq_false hL0
                have HLt := Lib.hid (later_any (hdV r.hd.1) (hdV was.hd.1) _ _ _ _ _ _ v2 (hdAtR r) (hdAtI was))
                have hlt : laterB r.hd.1.time r.hd.1.writer r.hd.1.seq was.hd.1.time was.hd.1.writer was.hd.1.seq = latB r (topR (fun _ => true) L) := by
                  have h := HWas.out
                  unfold Was at h
                  rw [if_neg hL0] at h
                  obtain ⟨ta, tc, e⟩ := h.hd
                  rw [e]
                  rfl
                obtain ⟨LT, hLT⟩ : ∃ z, latB r (topR (fun _ => true) L) = z := ⟨_, rfl⟩
                rw [hlt, hLT, HHr.out, HHw.out] at HLt
                have HLT := Lib.hid hLT
                clear hlt hLT
                have HKr1 := Lib.hid (HKr0.out v2 (Ext.refl _))
                have HK61 := Lib.hid (HK60.out v2 (Ext.refl _))
                go_upto_region 12 with (fail)
                cases LT with
                | false =>
                  go_upto_region 13 with (first | (refine wpList_load_midW rfl 31 (.tmp 82) rfl S _ rfl LR _ HKr1.out.1 Try.underlying31 rfl (by rw [HLr.out.2]; kernel_rfl) ?_; rw [HLr.out.1]; simp only [Act.put, List.setIfInBounds_toArray, List.set_cons_zero, List.set_cons_succ]) | (refine wpList_load_midW rfl 31 (.tmp 84) rfl t6 _ rfl LW _ HK61.out.1 Try.underlying31 rfl (by rw [HLw.out.2]; kernel_rfl) ?_; rw [HLw.out.1]; simp only [Act.put, List.setIfInBounds_toArray, List.set_cons_zero, List.set_cons_succ]) | (go_at_call 14; refine HLt.out.mono ?_; rintro e v3 ⟨rfl, hE⟩; have HEv := Lib.hid hE; clear hE))
                  have hq := more_older HWas.out HI8.out hL0 HLT.out
                  have HSm := Lib.hid (sameHd_any now.hd.1 was.hd.1 now.hd.2 was.hd.2 v3 (HA8.out.ext HEv.out).hd.toks (HAw6.out.ext HEv.out).hd.toks)
                  rw [HHn.out, HHw.out, hq.1] at HSm
                  have HK8 := Lib.hid (HK80.out v3 HEv.out)
                  have HK6 := Lib.hid (HK60.out v3 HEv.out)
                  obtain ⟨KB, hKB⟩ : ∃ z, was.kn = z := ⟨_, rfl⟩
                  have HKn := Lib.hid (hq.2.trans hKB)
                  have HKb := Lib.hid hKB
                  clear hq hKB
                  go_wp2_with (first | (refine wpList_load_mid rfl 31 (.tmp 89) rfl t8 _ rfl LN _ HK8.out.1 Try.underlying31 rfl (by rw [HLn.out.2]; kernel_rfl) ?_; rw [HLn.out.1]; simp only [Act.put, List.setIfInBounds_toArray, List.set_cons_zero, List.set_cons_succ]) | (refine wpList_load_mid rfl 31 (.tmp 91) rfl t6 _ rfl LW _ HK6.out.1 Try.underlying31 rfl (by rw [HLw.out.2]; kernel_rfl) ?_; rw [HLw.out.1]; simp only [Act.put, List.setIfInBounds_toArray, List.set_cons_zero, List.set_cons_succ]) | (go_at_call 15; refine HSm.out.mono ?_; rintro e v4 ⟨rfl, hE⟩; have HE4v := Lib.hid (HEv.out.trans hE); have hk8 := (HK80.out v4 HE4v.out).2.1; have hk6 := (HK60.out v4 HE4v.out).2.1; rw [HKn.out] at hk8; rw [HKb.out] at hk6; clear hE; cases KB))
                  all_goals
                    go_ret
                    exact ⟨rfl, HV1.out.trans (HE2v.out.trans HE4v.out)⟩
                | true =>
                  have HNew : Newer L r := Or.inr HLT.out
                  go_upto_region 14 with (first | (refine wpList_load_midW rfl 31 (.tmp 82) rfl S _ rfl LR _ HKr1.out.1 Try.underlying31 rfl (by rw [HLr.out.2]; kernel_rfl) ?_; rw [HLr.out.1]; simp only [Act.put, List.setIfInBounds_toArray, List.set_cons_zero, List.set_cons_succ]) | (refine wpList_load_midW rfl 31 (.tmp 84) rfl t6 _ rfl LW _ HK61.out.1 Try.underlying31 rfl (by rw [HLw.out.2]; kernel_rfl) ?_; rw [HLw.out.1]; simp only [Act.put, List.setIfInBounds_toArray, List.set_cons_zero, List.set_cons_succ]) | (go_at_call 14; refine HLt.out.mono ?_; rintro e v3 ⟨rfl, hE⟩; have HEv := Lib.hid hE; clear hE))
                  have hq := more_newer HWas.out HI8.out HFB.out HNew
                  have HSm := Lib.hid (sameHd_any now.hd.1 r.hd.1 now.hd.2 r.hd.2 v3 (HA8.out.ext HEv.out).hd.toks (HR.out.ext (HV1.out.trans (HE2v.out.trans HEv.out))).hd.toks)
                  rw [HHn.out, HHr.out, hq.1] at HSm
                  have HKn := Lib.hid hq.2.1
                  have HQ := Lib.hid hq.2.2
                  clear hq
                  have HKr := Lib.hid (HKr0.out v3 HEv.out)
                  have HK6 := Lib.hid (HK60.out v3 HEv.out)
                  have HK8 := Lib.hid (HK80.out v3 HEv.out)
                  go_upto_region 16 with (first | (refine wpList_load_mid rfl 31 (.tmp 101) rfl t8 _ rfl LN _ HK8.out.1 Try.underlying31 rfl (by rw [HLn.out.2]; kernel_rfl) ?_; rw [HLn.out.1]; simp only [Act.put, List.setIfInBounds_toArray, List.set_cons_zero, List.set_cons_succ]) | (refine wpList_load_mid rfl 31 (.tmp 103) rfl S _ rfl LR _ HKr.out.1 Try.underlying31 rfl (by rw [HLr.out.2]; kernel_rfl) ?_; rw [HLr.out.1]; simp only [Act.put, List.setIfInBounds_toArray, List.set_cons_zero, List.set_cons_succ]) | (go_at_call 15; refine HSm.out.mono ?_; rintro e v4 ⟨rfl, hE⟩; have HE4v := Lib.hid (HEv.out.trans hE); have HKr4 := Lib.hid (HKr0.out v4 HE4v.out); have HK84 := Lib.hid (HK80.out v4 HE4v.out); have HK64 := Lib.hid (HK60.out v4 HE4v.out); have hk1 := HKr4.out.2.1; have hk2 := HK84.out.2.1; rw [HKn.out] at hk2; clear hE))
                  obtain ⟨KB, hKB⟩ : ∃ z, r.kn = z := ⟨_, rfl⟩
                  have HKB := Lib.hid hKB
                  rw [hKB] at hk1
                  clear hk2 hKB
                  cases KB with
                  | false =>
                    have hq := HQ.out.1 HKB.out
                    obtain ⟨AL, hAL⟩ : ∃ z, was.al = z := ⟨_, rfl⟩
                    obtain ⟨VL, hVL⟩ : ∃ z, was.val = z := ⟨_, rfl⟩
                    have hn1 := HK84.out.2.2.1
                    have hn2 := HK84.out.2.2.2.2
                    have ho1 := HK64.out.2.2.1
                    have ho2 := HK64.out.2.2.2.2
                    rw [hq.1, hAL] at hn1
                    rw [hq.2, hVL] at hn2
                    rw [hAL] at ho1
                    rw [hVL] at ho2
                    clear hq hAL hVL
                    cases AL <;>
                    · go_wp2_with fail
                      go_ret
                      exact ⟨rfl, HV1.out.trans (HE2v.out.trans HE4v.out)⟩
                  | true =>
                    obtain ⟨OP, hOP⟩ : ∃ z, r.op = z := ⟨_, rfl⟩
                    have HOP := Lib.hid hOP
                    have hk3 := HKr4.out.2.2.1
                    rw [hOP] at hk3
                    clear hOP
                    by_cases h3 : OP = 3
                    · have hq := HQ.out.2.1 HKB.out (HOP.out.trans h3)
                      subst h3
                      obtain ⟨AL, hAL⟩ : ∃ z, was.al = z := ⟨_, rfl⟩
                      obtain ⟨NL, hNL⟩ : ∃ z, r.name = z := ⟨_, rfl⟩
                      have hn1 := HK84.out.2.2.1
                      have hn2 := HK84.out.2.2.2.1
                      have ho1 := HK64.out.2.2.1
                      have ho2 := HKr4.out.2.2.2.1
                      rw [hq.1, hAL] at hn1
                      rw [hq.2, hNL] at hn2
                      rw [hAL] at ho1
                      rw [hNL] at ho2
                      clear hq hAL hNL
                      cases AL <;>
                      · go_wp2_with fail
                        go_ret
                        exact ⟨rfl, HV1.out.trans (HE2v.out.trans HE4v.out)⟩
                    · have hq := HQ.out.2.2 HKB.out (fun h => h3 (HOP.out.symm.trans h))
                      obtain ⟨NL, hNL⟩ : ∃ z, r.name = z := ⟨_, rfl⟩
                      obtain ⟨VL, hVL⟩ : ∃ z, r.val = z := ⟨_, rfl⟩
                      have hn1 := HK84.out.2.2.1
                      have hn2 := HK84.out.2.2.2.1
                      have hn3 := HK84.out.2.2.2.2
                      have ho2 := HKr4.out.2.2.2.1
                      have ho3 := HKr4.out.2.2.2.2
                      rw [hq.1, HOP.out] at hn1
                      rw [hq.2.1, hVL] at hn3
                      rw [hq.2.2, hNL] at hn2
                      rw [hVL] at ho3
                      rw [hNL] at ho2
                      clear hq hVL hNL
                      have h3' : decide (OP = 3) = false := decide_eq_false h3
                      by_cases h1 : OP = 1
                      · subst h1
                        go_wp2_with fail
                        go_ret
                        exact ⟨rfl, HV1.out.trans (HE2v.out.trans HE4v.out)⟩
                      · have h1' : (OP == 1) = false := beq_eq_false_iff_ne.2 h1
                        rw [h1'] at hn1
                        go_wp2_with fail
                        go_ret
                        exact ⟨rfl, HV1.out.trans (HE2v.out.trans HE4v.out)⟩

end Go.Proofs.Ytldaligeckjhaaa
