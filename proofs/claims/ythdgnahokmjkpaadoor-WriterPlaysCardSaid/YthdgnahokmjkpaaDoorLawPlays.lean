/-
  The walk of jalousielaw13.WriterPlays: it answers true. Asked: the tables lie as the text lays them.
-/
import Derived.Test.YthdgnahokmjkpaaDoorRefAsk
import Derived.Test.YthdgnahokmjkpaaDoorRefBlk
import Derived.Test.YthdgnahokmjkpaaDoorFrom
import Derived.Test.YthdgnahokmjkpaaDoorLawLinked
import Derived.Test.YthdgnahokmjkpaaDoorLawFrom
namespace Go.Proofs.YthdgnahokmjkpaaDoor
open Go.ChangeShapes Go.WideShapes Go.ChangeAt Go.RowKit

theorem LkS.formed {wv : Int} {lh : List HT} (h : LkS wv lh) : ∀ y ∈ lh, hdB y.1 y.2 = true := fun y hy => by
  obtain ⟨i, hi, rfl⟩ := List.getElem_of_mem hy
  have h1 := (h i hi).1
  rw [List.getD_eq_getElem?_getD, List.getElem?_eq_getElem hi] at h1
  exact h1
theorem askV_congr {wv : Int} {lc lh : List HT} {T : Nat → Int} {y : HT} (hl : lc.length = lh.length) (he : ∀ i, i < lc.length → HdEq (lc.getD i htN).1 (lh.getD i htN).1 (lc.getD i htN).2 (lh.getD i htN).2)
    (h1 : ∀ z ∈ lc, z.2.length = z.1.tn) (h2 : ∀ z ∈ lh, z.2.length = z.1.tn) (hy : y.2.length = y.1.tn) : askV wv lc T y = askV wv lh T y := by
  unfold askV
  rw [hl]
  by_cases hin : 1 ≤ y.1.seq ∧ y.1.seq ≤ (lh.length : Int)
  · have mem : ∀ (l : List HT) i, i < l.length → l.getD i htN ∈ l := fun l i hi => by
      rw [List.getD_eq_getElem?_getD, List.getElem?_eq_getElem hi]
      exact List.getElem_mem _
    have hi : y.1.seq.toNat - 1 < lc.length := by omega
    have e1 := he _ hi
    have hs : sameB (lc.getD (y.1.seq.toNat - 1) htN).1 y.1 (lc.getD (y.1.seq.toNat - 1) htN).2 y.2 = sameB (lh.getD (y.1.seq.toNat - 1) htN).1 y.1 (lh.getD (y.1.seq.toNat - 1) htN).2 y.2 := by
      rw [Bool.eq_iff_iff, sameB_iff (h1 _ (mem lc _ hi)) hy, sameB_iff (h2 _ (mem lh _ (by omega))) hy]
      exact ⟨fun q => e1.symm.trans q, fun q => e1.trans q⟩
    rw [hs]
  · rw [if_neg hin, if_neg hin]

set_option maxHeartbeats 16000000 in
set_option maxRecDepth 100000 in
theorem lawPlays_any (u : Int) (a : Option Addr) (n c : Nat) (l : List HT) (ra : Option Addr) (rn rc : Nat) (w : World) (hu : 0 ≤ u ∧ u ≤ 255) (h : HsAt w a n c l) (hb : BlAt w ra rn rc) (hk : KsAt 1 w) (hk2 : KsAt 0 w) :
    Calls Tryd.prog 4 #[.int .u8 u, .slice a n c, .slice ra rn rc] w fun e w' => e = .returned (.bool true) ∧ Ext w w' := by
  have HB := Lib.hid hb
  have hrs := hb.small
  have hg0 : 1 < w.heap.size := World.block_lt_of_cell? w _ (hk 0 (by omega))
  have H := Lib.hid h
  have HK := Lib.hid hk
  have HK2 := Lib.hid hk2
  have Hg0 := Lib.hid hg0
  have HKne := Lib.hid neq_h
  clear h hk hk2 hg0 hb
  go_enter Tryd.func4, Tryd.ntmps4
  go_wp2_with fail
  refine (awake13_any w HK.out).mono ?_
  rintro e w1 ⟨rfl, hE⟩
  have HE1 := Lib.hid hE
  clear hE
  go_wp2_with fail
  refine (few13_any a n c l 25 w1 (H.out.ext HE1.out)).mono ?_
  rintro e w2 ⟨v, rfl, ⟨b, rfl, hb⟩, hE⟩
  have HE2 := Lib.hid (HE1.out.trans hE)
  have Hb := Lib.hid hb
  clear hE hb
  cases b with
  | false =>
    go_wp2_with fail
    refine (awake13_any w2 (hdKs_ext HK.out HE2.out)).mono ?_
    rintro e w3 ⟨rfl, hE⟩
    have HE3 := Lib.hid (HE2.out.trans hE)
    clear hE
    go_wp2
    go_ret
    exact ⟨rfl, HE3.out⟩
  | true =>
    obtain ⟨hn, htn⟩ := Hb.out rfl
    have Htn := Lib.hid htn
    have hn25 : n ≤ 25 := by omega
    clear hn htn Hb
    obtain ⟨r6, hr6, hr0, hr5⟩ : ∃ r, u.tmod 6 = r ∧ 0 ≤ r ∧ r < 6 := ⟨_, rfl, by rw [Int.tmod_eq_emod_of_nonneg hu.1]; omega, by rw [Int.tmod_eq_emod_of_nonneg hu.1]; omega⟩
    have hr6' : u % 6 = r6 := by rw [← hr6, Int.tmod_eq_emod_of_nonneg hu.1]
    have wR8 : IntKind.u8.wrap r6 = r6 := by rw [IntKind.wrap_u8]; omega
    have wR : IntKind.i64.wrap r6 = r6 := by rw [IntKind.wrap_i64]; omega
    have wR1 : IntKind.i64.wrap (1 + r6) = 1 + r6 := by rw [IntKind.wrap_i64]; omega
    obtain ⟨wv, hwv⟩ : ∃ wv, 1 + r6 = wv := ⟨_, rfl⟩
    have Hwv := Lib.hid (show 1 ≤ wv ∧ wv ≤ 6 by omega)
    have Hne := Lib.hid (new_any wv w2)
    have hwvn : (wv != wv) = false := by simp
    go_wp2_with fail
    refine Hne.out.mono ?_
    rintro e w3 ⟨g, rfl, hC, hE⟩
    obtain ⟨B, hB⟩ : ∃ B, w2.heap.size = B := ⟨_, rfl⟩
    rw [hB] at hC
    have HW := Lib.hid (WSt.begin hC (HE2.out.trans hE) (by rw [← hB]; exact Below.size HE2.out) (by rw [← hB]; exact Below.size hE))
    have HwB := Lib.hid (show w.heap.size ≤ B by rw [← hB]; exact Below.size HE2.out)
    clear hC hE hB hr6 hr6' wR8 wR wR1 hwv hr0 hr5 Hne
    go_wp2
    go_loopw [9, 10] (fun v i wr => ∃ (k : Nat) (lc lh : List HT) (ac : Option Addr) (cc : Nat) (ah : Option Addr) (ch : Nat), k ≤ n ∧ i = .int .i64 (k : Int) ∧ v = .slice ah lh.length ch ∧ lh.length ≤ k ∧ WSt w wr B g wv lc lh ac cc ah ch ∧ LkS wv lh) (fun _ i _ => n - (intOf i).toNat)
    case atStart => exact ⟨0, [], [], none, 0, none, 0, Nat.zero_le _, rfl, rfl, Nat.le_refl _, HW.out, LkS.nil wv⟩
    case round =>
      obtain ⟨k, lc, lh, ac, cc, ah, ch, hk, rfl, rfl, hlk, hst, hLk⟩ := hrel
      have HLk := Lib.hid hLk
      have HS := Lib.hid hst
      have HE := Lib.hid hst.ext
      obtain ⟨N, hN⟩ : ∃ N, lh.length = N := ⟨_, rfl⟩
      have HN := Lib.hid hN
      rw [hN] at hlk ⊢
      clear hst HW hN hLk
      by_cases hlt : k < n
      case neg =>
        obtain rfl : k = n := by omega
        have x1 : ¬ (k : Int) < (k : Int) := by omega
        have HSn := Lib.hid HS.out
        have hHs := HS.out.hs (by have := HN.out; omega)
        rw [HN.out] at hHs
        have HHs := Lib.hid hHs
        have hn25' := hn25
        have HNn := Lib.hid hlk
        have wNN : IntKind.i64.wrap ((N : Int) + 1) = (N : Int) + 1 := by rw [IntKind.wrap_i64]; omega
        clear hHs HS
        go_wp2
        go_loopw [13] (fun i wr2 => ∃ j : Nat, j ≤ N + 2 ∧ i = .int .i64 (j : Int) ∧ Ext wr wr2) (fun i _ => N + 2 - (intOf i).toNat)
        case atStart => exact ⟨0, Nat.zero_le _, rfl, Ext.refl _⟩
        case round =>
          obtain ⟨j, hj, rfl, hE⟩ := hrel
          rename_i wr2 _ _
          have HE2 := Lib.hid hE
          have HSr := Lib.hid (HSn.out.more hE)
          clear hE
          by_cases hlt2 : j ≤ N + 1
          case neg =>
            obtain rfl : j = N + 2 := by omega
            have x3 : ¬ ((N + 2 : Nat) : Int) ≤ (N : Int) + 1 := by omega
            go_wp2
            go_ret
            exact ⟨rfl, HSr.out.ext⟩
          have x3 : (j : Int) ≤ (N : Int) + 1 := by omega
          have wJ0 : IntKind.u64.wrap (j : Int) = (j : Int) := by rw [IntKind.wrap_u64]; omega
          have hAt := at_any HSr.out.chn (by have := HSr.out.len; have := HN.out; omega) HSr.out.tnc (j : Int) (by omega) (by omega)
          rw [HSr.out.len, HN.out] at hAt
          have HAt := Lib.hid hAt
          clear hAt
          go_wp2_with fail
          refine HAt.out.mono ?_
          rintro e w4 ⟨hno, hyes, hE⟩
          have HE4 := Lib.hid (HE2.out.trans hE)
          by_cases hin : 1 ≤ (j : Int) ∧ (j : Int) ≤ (N : Int)
          · obtain ⟨a', c', rfl, hown⟩ := hyes hin
            obtain ⟨m, hm⟩ : ∃ m, j = m + 1 := ⟨j - 1, by omega⟩
            have hmN : m < N := by omega
            rw [show (j : Int).toNat - 1 = m by omega] at hown ⊢
            have hcm : lc.getD m htN ∈ lc := by
              have h1 := HSr.out.len
              have h2 := HN.out
              rw [List.getD_eq_getElem?_getD, List.getElem?_eq_getElem (by omega)]
              exact List.getElem_mem _
            have hKt := HSr.out.chn.each _ hcm
            have hKn := HSr.out.tnc _ hcm
            have heq := HSr.out.eq m (by have h1 := HSr.out.len; have h2 := HN.out; omega)
            obtain ⟨K, hK⟩ : ∃ K, lc.getD m htN = K := ⟨_, rfl⟩
            rw [hK] at hown hKt hKn heq ⊢
            have hRt := reT_at hKt.ok hKt.toks.byte hKn hown
            obtain ⟨b3, off3, rfl, hr3⟩ := HHs.out.range m hmN
            have HYt := Lib.hid (HHs.out.get m hmN)
            obtain ⟨Y, hY⟩ : ∃ Y, lh.getD m htN = Y := ⟨_, rfl⟩
            rw [hY] at hr3 HYt heq
            have hsm : sameB (reT K a' c').1 Y.1 K.2 Y.2 = true := (sameB_iff (h := (reT K a' c').1) hKt.toks.len HYt.out.toks.len).2 ((reT_eq K a' c').trans heq)
            have HX9 := Lib.hid (show ∀ w9, Ext w4 w9 → Calls Tryd.prog 20 #[.agg (hdV (reT K a' c').1), .agg (hdV Y.1)] w9 fun e w' => e = .returned (.bool true) ∧ Ext w9 w' from fun w9 h9 => by
              have h1 := sameHd_any (reT K a' c').1 Y.1 K.2 Y.2 w9 (hRt.toks.ext h9) ((HYt.out.ext (HE4.out.trans h9)).toks)
              rw [hsm] at h1
              exact h1)
            have Hsz := Lib.hid (hdV_size (reT K a' c').1)
            have Hall := Lib.hid (hdV_one (reT K a' c').1)
            obtain ⟨A, hA⟩ : ∃ A, hdV (reT K a' c').1 = A := ⟨_, rfl⟩
            obtain ⟨C, hC⟩ : ∃ C, hdV Y.1 = C := ⟨_, rfl⟩
            rw [hA] at Hsz Hall HX9 ⊢
            rw [hC] at HX9
            have HCe := Lib.hid hC
            have Hm := Lib.hid hmN
            have y1 : (1 : Int) ≤ (j : Int) := hin.1
            have y2 : (j : Int) ≤ (N : Int) := hin.2
            have y3 : ((1 : Int) ≤ (j : Int)) = True := eq_true hin.1
            have wS : IntKind.i64.wrap ((j : Int) - 1) = (m : Int) := by rw [IntKind.wrap_i64]; omega
            have HR3 := Lib.hid (fun w1 h1 => range_ext (w1 := w1) hr3 h1)
            clear hno hyes hE hown hcm hKt hKn heq hK hRt hr3 hY hsm hA hC hm
            go_upto_region 23 with (refine wpList_store_row rfl 35 _ _ rfl w4.heap.size _ rfl rfl _ _ (heap_new w4 _ _ rfl) (by rw [Hsz.out]; kernel_rfl) (by rw [Hsz.out]; rfl) Hall.out ?_; rw [setRow_new w4 _ _ _ _ rfl])
            obtain ⟨w5, hw5⟩ : ∃ w5, w4.alloc (.cells A 35) = w5 := ⟨_, rfl⟩
            have hE5 : Ext w4 w5 := by rw [← hw5]; exact (Ext.refl w4).alloc _
            obtain ⟨p, hp⟩ : ∃ p, w4.heap.size = p := ⟨_, rfl⟩
            have hB5 : w5.heap[p]? = some (.cells A 35 (0, 0)) := by rw [← hw5]; exact heap_new w4 _ _ hp.symm
            refine wp_world (w' := w5) hw5 ?_
            rw [hp]
            have HE45 := Lib.hid hE5
            have HPB := Lib.hid hB5
            have HE5 := Lib.hid (HE4.out.trans hE5)
            clear hw5 hE5 hp hB5
            have HX0 := Lib.hid (show ∀ x, Ext w5.drew x → Ext w5 x from fun x hx => Ext.trans (Ext.refl w5).drew hx)
            refine wp_region_lexA (by kernel_rfl) (by kernel_rfl) ?_
            have HSm := Lib.hid (fun w1 (h1 : Ext w5 w1) => HX9.out w1 (HE45.out.trans h1))
            have HYr := Lib.hid (fun w1 (h1 : Ext w5 w1) => HR3.out w1 (HE5.out.trans h1))
            refine lx_e (.bool true) [] (by kernel_rfl) rfl (by rfl) (fun w1 hw1 => ?_) ?_
            · simp only [pk, lexVals]
              go_simp
              exact ⟨Ext.refl _, rfl⟩
            refine lx_e (.int .i64 (j : Int)) [] (by kernel_rfl) rfl (by rfl) (fun w1 hw1 => ?_) ?_
            · simp only [pk, lexVals]
              go_simp
              exact ⟨Ext.refl _, rfl⟩
            refine lx_e (.bool true) [(0, 118)] (by kernel_rfl) rfl (by rfl) (fun w1 hw1 => ?_) ?_
            · simp only [pk, nthSp, lexVals]
              go_simp
              exact ⟨Ext.refl _, rfl⟩
            refine lx_e (.bool true) [(0, 119)] (by kernel_rfl) rfl (by rfl) (fun w1 hw1 => ?_) ?_
            · simp only [pk, nthSp, lexVals]
              go_simp
              exact ⟨Ext.refl _, rfl⟩
            refine lx_ge (.int .i64 (j : Int)) [(0, 120)] 120 (by kernel_rfl) rfl (by kernel_rfl) (by rfl) (fun w1 => ?_) (fun w1 hw1 => ?_) ?_
            · simp only [pk, nthSp, lexVals]
              rfl
            · simp only [pk, nthSp, lexVals]
              go_simp
              exact ⟨Ext.refl _, rfl⟩
            refine lx_ge (.slice (some ⟨b3, off3, none⟩) N ch) [(1, 120)] 120 (by kernel_rfl) rfl (by kernel_rfl) (by rfl) (fun w1 => ?_) (fun w1 hw1 => ?_) ?_
            · simp only [pk, nthSp, lexVals]
              rfl
            · simp only [pk, nthSp, lexVals]
              go_simp
              exact ⟨Ext.refl _, rfl⟩
            refine lx_ge (.int .i64 (N : Int)) [(0, 122), (2, 120)] 120 (by kernel_rfl) rfl (by kernel_rfl) (by rfl) (fun w1 => ?_) (fun w1 hw1 => ?_) ?_
            · simp only [pk, nthSp, lexVals]
              rfl
            · simp only [pk, nthSp, lexVals]
              go_simp
              exact ⟨Ext.refl _, rfl⟩
            refine lx_ge (.bool true) [(2, 121), (0, 123), (3, 120)] 120 (by kernel_rfl) rfl (by kernel_rfl) (by rfl) (fun w1 => ?_) (fun w1 hw1 => ?_) ?_
            · simp only [pk, nthSp, lexVals]
              rfl
            · simp only [pk, nthSp, lexVals]
              go_simp
              exact ⟨Ext.refl _, rfl⟩
            refine lx_e (.bool true) [(4, 120), (0, 124)] (by kernel_rfl) rfl (by rfl) (fun w1 hw1 => ?_) ?_
            · simp only [pk, nthSp, lexVals]
              go_simp
              exact ⟨Ext.refl _, rfl⟩
            refine lx_e (.bool false) [(8, 117), (0, 125)] (by kernel_rfl) rfl (by rfl) (fun w1 hw1 => ?_) ?_
            · simp only [pk, nthSp, lexVals]
              go_simp
              exact ⟨Ext.refl _, rfl⟩
            refine lx_e (.bool false) [(0, 126)] (by kernel_rfl) rfl (by rfl) (fun w1 hw1 => ?_) ?_
            · simp only [pk, nthSp, lexVals]
              go_simp
              exact ⟨Ext.refl _, rfl⟩
            refine lx_ge (.bool true) [(0, 127)] 127 (by kernel_rfl) rfl (by kernel_rfl) (by rfl) (fun w1 => ?_) (fun w1 hw1 => ?_) ?_
            · simp only [pk, nthSp, lexVals]
              rfl
            · simp only [pk, nthSp, lexVals]
              go_simp
              exact ⟨Ext.refl _, rfl⟩
            refine lx_ge (.bool true) [(0, 128), (1, 127)] 127 (by kernel_rfl) rfl (by kernel_rfl) (by rfl) (fun w1 => ?_) (fun w1 hw1 => ?_) ?_
            · simp only [pk, nthSp, lexVals]
              rfl
            · simp only [pk, nthSp, lexVals]
              go_simp
              exact ⟨Ext.refl _, rfl⟩
            refine lx_ge (.agg A) [(0, 129)] 129 (by kernel_rfl) rfl (by kernel_rfl) (by rfl) (fun w1 => ?_) (fun w1 hw1 => ?_) ?_
            · simp only [pk, nthSp, lexVals]
              rfl
            · simp only [pk, nthSp, lexVals]
              exact lu_row rfl rfl ((HX0.out w1 hw1).keep HPB.out) Tryd.underlying35 rfl (by rw [Hsz.out]; kernel_rfl)
            refine lx_ge (.slice (some ⟨b3, off3, none⟩) N ch) [(1, 129)] 129 (by kernel_rfl) rfl (by kernel_rfl) (by rfl) (fun w1 => ?_) (fun w1 hw1 => ?_) ?_
            · simp only [pk, nthSp, lexVals]
              rfl
            · simp only [pk, nthSp, lexVals]
              go_simp
              exact ⟨Ext.refl _, rfl⟩
            refine lx_ge (.int .i64 (j : Int)) [(2, 129)] 129 (by kernel_rfl) rfl (by kernel_rfl) (by rfl) (fun w1 => ?_) (fun w1 hw1 => ?_) ?_
            · simp only [pk, nthSp, lexVals]
              rfl
            · simp only [pk, nthSp, lexVals]
              go_simp
              exact ⟨Ext.refl _, rfl⟩
            refine lx_ge (.int .i64 (m : Int)) [(0, 132), (3, 129)] 129 (by kernel_rfl) rfl (by kernel_rfl) (by rfl) (fun w1 => ?_) (fun w1 hw1 => ?_) ?_
            · simp only [pk, nthSp, lexVals]
              rfl
            · simp only [pk, nthSp, lexVals]
              go_simp
              exact ⟨Ext.refl _, rfl⟩
            refine lx_ge (.pointer (some ⟨b3, off3 + m * 125, none⟩)) [(2, 131), (0, 133), (4, 129)] 129 (by kernel_rfl) rfl (by kernel_rfl) (by rfl) (fun w1 => ?_) (fun w1 hw1 => ?_) ?_
            · simp only [pk, nthSp, lexVals]
              rfl
            · simp only [pk, nthSp, lexVals]
              exact lu_hidx rfl rfl rfl Hm.out
            refine lx_ge (.agg C) [(0, 134), (5, 129)] 129 (by kernel_rfl) rfl (by kernel_rfl) (by rfl) (fun w1 => ?_) (fun w1 hw1 => ?_) ?_
            · simp only [pk, nthSp, lexVals]
              rfl
            · simp only [pk, nthSp, lexVals]
              rw [← HCe.out]
              exact lu_hmid rfl rfl (HYr.out w1 (HX0.out w1 hw1))
            refine lx_ge (.bool true) [(5, 130), (0, 135), (6, 129)] 129 (by kernel_rfl) rfl (by kernel_rfl) (by rfl) (fun w1 => ?_) (fun w1 hw1 => ?_) ?_
            · simp only [pk, nthSp, lexVals]
              rfl
            · simp only [pk, nthSp, lexVals]
              have HM := Lib.hid (HSm.out w1 (HX0.out w1 hw1))
              clear hw1
              go_simp
              refine HM.out.mono ?_
              rintro e w2 ⟨rfl, hE2⟩
              exact ⟨_, rfl, hE2, rfl⟩
            refine lx_ge (.bool false) [(0, 136), (7, 129)] 129 (by kernel_rfl) rfl (by kernel_rfl) (by rfl) (fun w1 => ?_) (fun w1 hw1 => ?_) ?_
            · simp only [pk, nthSp, lexVals]
              rfl
            · simp only [pk, nthSp, lexVals]
              go_simp
              exact ⟨Ext.refl _, rfl⟩
            refine lx_ge (.bool false) [(8, 129), (0, 137), (10, 127)] 127 (by kernel_rfl) rfl (by kernel_rfl) (by rfl) (fun w1 => ?_) (fun w1 hw1 => ?_) ?_
            · simp only [pk, nthSp, lexVals]
              rfl
            · simp only [pk, nthSp, lexVals]
              go_simp
              exact ⟨Ext.refl _, rfl⟩
            refine lx_e (.bool false) [(11, 127), (0, 138)] (by kernel_rfl) rfl (by rfl) (fun w1 hw1 => ?_) ?_
            · simp only [pk, nthSp, lexVals]
              go_simp
              exact ⟨Ext.refl _, rfl⟩
            refine lx_e (.bool false) [(0, 139)] (by kernel_rfl) rfl (by rfl) (fun w1 hw1 => ?_) ?_
            · simp only [pk, nthSp, lexVals]
              go_simp
              exact ⟨Ext.refl _, rfl⟩
            refine lx_ge (.bool true) [(0, 140)] 140 (by kernel_rfl) rfl (by kernel_rfl) (by rfl) (fun w1 => ?_) (fun w1 hw1 => ?_) ?_
            · simp only [pk, nthSp, lexVals]
              rfl
            · simp only [pk, nthSp, lexVals]
              go_simp
              exact ⟨Ext.refl _, rfl⟩
            refine lx_ge (.bool false) [(0, 141), (1, 140)] 140 (by kernel_rfl) rfl (by kernel_rfl) (by rfl) (fun w1 => ?_) (fun w1 hw1 => ?_) ?_
            · simp only [pk, nthSp, lexVals]
              rfl
            · simp only [pk, nthSp, lexVals]
              go_simp
              exact ⟨Ext.refl _, rfl⟩
            refine lx_ge (.bool false) [(0, 142), (2, 140)] 140 (by kernel_rfl) rfl (by kernel_rfl) (by rfl) (fun w1 => ?_) (fun w1 hw1 => ?_) ?_
            · simp only [pk, nthSp, lexVals]
              rfl
            · simp only [pk, nthSp, lexVals]
              go_simp
              exact ⟨Ext.refl _, rfl⟩
            refine lx_no [(0, 143)] 143 (by kernel_rfl) rfl (by kernel_rfl) (by rfl) (fun w1 => ?_) ?_
            · simp only [pk, nthSp, lexVals]
              first | (go_simp; done) | (go_simp; exact fun h => by cases h)
            refine lx_no [(0, 144), (1, 143)] 143 (by kernel_rfl) rfl (by kernel_rfl) (by rfl) (fun w1 => ?_) ?_
            · simp only [pk, nthSp, lexVals]
              first | (go_simp; done) | (go_simp; exact fun h => by cases h)
            refine lx_no [(0, 145), (2, 143)] 143 (by kernel_rfl) rfl (by kernel_rfl) (by rfl) (fun w1 => ?_) ?_
            · simp only [pk, nthSp, lexVals]
              first | (go_simp; done) | (go_simp; exact fun h => by cases h)
            refine lx_ge (.bool false) [(3, 143), (0, 146), (6, 140)] 140 (by kernel_rfl) rfl (by kernel_rfl) (by rfl) (fun w1 => ?_) (fun w1 hw1 => ?_) ?_
            · simp only [pk, nthSp, lexVals]
              rfl
            · simp only [pk, nthSp, lexVals]
              go_simp
              exact ⟨Ext.refl _, rfl⟩
            refine lx_e (.bool false) [(7, 140), (0, 147)] (by kernel_rfl) rfl (by rfl) (fun w1 hw1 => ?_) ?_
            · simp only [pk, nthSp, lexVals]
              go_simp
              exact ⟨Ext.refl _, rfl⟩
            refine lx_stopA (by rfl) fun w6 hw6 => ?_
            have HE6 := Lib.hid (HE5.out.trans (HX0.out w6 hw6))
            clear hw6 HX0
            simp only [rv, pf, lexVals]
            simp only [Act.put, List.setIfInBounds_toArray, List.set_cons_zero, List.set_cons_succ]
            have wJ : IntKind.i64.wrap ((j : Int) + 1) = (j : Int) + 1 := by rw [IntKind.wrap_i64]; omega
            go_wp2
            go_roundw
            case rel => exact ⟨j + 1, by omega, by go_num, HE6.out⟩
            case measure => simp [intOf]; omega
          · obtain rfl := hno hin
            have Hsz := Lib.hid (hdV_size hdN)
            have Hall := Lib.hid (hdV_one hdN)
            obtain ⟨A, hA⟩ : ∃ A, hdV hdN = A := ⟨_, rfl⟩
            have HAe := Lib.hid hA
            rw [hA] at Hsz Hall ⊢
            clear hno hyes hE hA
            by_cases hj0 : j = 0
            · have y1 : ¬ (1 : Int) ≤ (j : Int) := by omega
              go_upto_region 23 with (refine wpList_store_row rfl 35 _ _ rfl w4.heap.size _ rfl rfl _ _ (heap_new w4 _ _ rfl) (by rw [Hsz.out]; kernel_rfl) (by rw [Hsz.out]; rfl) Hall.out ?_; rw [setRow_new w4 _ _ _ _ rfl])
              obtain ⟨w5, hw5⟩ : ∃ w5, w4.alloc (.cells A 35) = w5 := ⟨_, rfl⟩
              have hE5 : Ext w4 w5 := by rw [← hw5]; exact (Ext.refl w4).alloc _
              obtain ⟨p, hp⟩ : ∃ p, w4.heap.size = p := ⟨_, rfl⟩
              have hB5 : w5.heap[p]? = some (.cells A 35 (0, 0)) := by rw [← hw5]; exact heap_new w4 _ _ hp.symm
              refine wp_world (w' := w5) hw5 ?_
              rw [hp]
              have HPB := Lib.hid hB5
              have HE5 := Lib.hid (HE4.out.trans hE5)
              clear hw5 hE5 hp hB5
              have HX0 := Lib.hid (show ∀ x, Ext w5.drew x → Ext w5 x from fun x hx => Ext.trans (Ext.refl w5).drew hx)
              refine wp_region_lexA (by kernel_rfl) (by kernel_rfl) ?_
              refine lx_e (.bool false) [] (by kernel_rfl) rfl (by rfl) (fun w1 hw1 => ?_) ?_
              · simp only [pk, lexVals]
                go_simp
                exact ⟨Ext.refl _, rfl⟩
              refine lx_e (.int .i64 (j : Int)) [] (by kernel_rfl) rfl (by rfl) (fun w1 hw1 => ?_) ?_
              · simp only [pk, lexVals]
                go_simp
                exact ⟨Ext.refl _, rfl⟩
              refine lx_e (.bool false) [(0, 118)] (by kernel_rfl) rfl (by rfl) (fun w1 hw1 => ?_) ?_
              · simp only [pk, nthSp, lexVals]
                go_simp
                exact ⟨Ext.refl _, rfl⟩
              refine lx_e (.bool false) [(0, 119)] (by kernel_rfl) rfl (by rfl) (fun w1 hw1 => ?_) ?_
              · simp only [pk, nthSp, lexVals]
                go_simp
                exact ⟨Ext.refl _, rfl⟩
              refine lx_no [(0, 120)] 120 (by kernel_rfl) rfl (by kernel_rfl) (by rfl) (fun w1 => ?_) ?_
              · simp only [pk, nthSp, lexVals]
                first | (go_simp; done) | (go_simp; exact fun h => by cases h)
              refine lx_no [(1, 120)] 120 (by kernel_rfl) rfl (by kernel_rfl) (by rfl) (fun w1 => ?_) ?_
              · simp only [pk, nthSp, lexVals]
                first | (go_simp; done) | (go_simp; exact fun h => by cases h)
              refine lx_no [(0, 122), (2, 120)] 120 (by kernel_rfl) rfl (by kernel_rfl) (by rfl) (fun w1 => ?_) ?_
              · simp only [pk, nthSp, lexVals]
                first | (go_simp; done) | (go_simp; exact fun h => by cases h)
              refine lx_no [(2, 121), (0, 123), (3, 120)] 120 (by kernel_rfl) rfl (by kernel_rfl) (by rfl) (fun w1 => ?_) ?_
              · simp only [pk, nthSp, lexVals]
                first | (go_simp; done) | (go_simp; exact fun h => by cases h)
              refine lx_e (.bool false) [(4, 120), (0, 124)] (by kernel_rfl) rfl (by rfl) (fun w1 hw1 => ?_) ?_
              · simp only [pk, nthSp, lexVals]
                go_simp
                exact ⟨Ext.refl _, rfl⟩
              refine lx_e (.bool false) [(8, 117), (0, 125)] (by kernel_rfl) rfl (by rfl) (fun w1 hw1 => ?_) ?_
              · simp only [pk, nthSp, lexVals]
                go_simp
                exact ⟨Ext.refl _, rfl⟩
              refine lx_e (.bool false) [(0, 126)] (by kernel_rfl) rfl (by rfl) (fun w1 hw1 => ?_) ?_
              · simp only [pk, nthSp, lexVals]
                go_simp
                exact ⟨Ext.refl _, rfl⟩
              refine lx_ge (.bool false) [(0, 127)] 127 (by kernel_rfl) rfl (by kernel_rfl) (by rfl) (fun w1 => ?_) (fun w1 hw1 => ?_) ?_
              · simp only [pk, nthSp, lexVals]
                rfl
              · simp only [pk, nthSp, lexVals]
                go_simp
                exact ⟨Ext.refl _, rfl⟩
              refine lx_ge (.bool false) [(0, 128), (1, 127)] 127 (by kernel_rfl) rfl (by kernel_rfl) (by rfl) (fun w1 => ?_) (fun w1 hw1 => ?_) ?_
              · simp only [pk, nthSp, lexVals]
                rfl
              · simp only [pk, nthSp, lexVals]
                go_simp
                exact ⟨Ext.refl _, rfl⟩
              refine lx_no [(0, 129)] 129 (by kernel_rfl) rfl (by kernel_rfl) (by rfl) (fun w1 => ?_) ?_
              · simp only [pk, nthSp, lexVals]
                first | (go_simp; done) | (go_simp; exact fun h => by cases h)
              refine lx_no [(1, 129)] 129 (by kernel_rfl) rfl (by kernel_rfl) (by rfl) (fun w1 => ?_) ?_
              · simp only [pk, nthSp, lexVals]
                first | (go_simp; done) | (go_simp; exact fun h => by cases h)
              refine lx_no [(2, 129)] 129 (by kernel_rfl) rfl (by kernel_rfl) (by rfl) (fun w1 => ?_) ?_
              · simp only [pk, nthSp, lexVals]
                first | (go_simp; done) | (go_simp; exact fun h => by cases h)
              refine lx_no [(0, 132), (3, 129)] 129 (by kernel_rfl) rfl (by kernel_rfl) (by rfl) (fun w1 => ?_) ?_
              · simp only [pk, nthSp, lexVals]
                first | (go_simp; done) | (go_simp; exact fun h => by cases h)
              refine lx_no [(2, 131), (0, 133), (4, 129)] 129 (by kernel_rfl) rfl (by kernel_rfl) (by rfl) (fun w1 => ?_) ?_
              · simp only [pk, nthSp, lexVals]
                first | (go_simp; done) | (go_simp; exact fun h => by cases h)
              refine lx_no [(0, 134), (5, 129)] 129 (by kernel_rfl) rfl (by kernel_rfl) (by rfl) (fun w1 => ?_) ?_
              · simp only [pk, nthSp, lexVals]
                first | (go_simp; done) | (go_simp; exact fun h => by cases h)
              refine lx_no [(5, 130), (0, 135), (6, 129)] 129 (by kernel_rfl) rfl (by kernel_rfl) (by rfl) (fun w1 => ?_) ?_
              · simp only [pk, nthSp, lexVals]
                first | (go_simp; done) | (go_simp; exact fun h => by cases h)
              refine lx_no [(0, 136), (7, 129)] 129 (by kernel_rfl) rfl (by kernel_rfl) (by rfl) (fun w1 => ?_) ?_
              · simp only [pk, nthSp, lexVals]
                first | (go_simp; done) | (go_simp; exact fun h => by cases h)
              refine lx_ge (.bool false) [(8, 129), (0, 137), (10, 127)] 127 (by kernel_rfl) rfl (by kernel_rfl) (by rfl) (fun w1 => ?_) (fun w1 hw1 => ?_) ?_
              · simp only [pk, nthSp, lexVals]
                rfl
              · simp only [pk, nthSp, lexVals]
                go_simp
                exact ⟨Ext.refl _, rfl⟩
              refine lx_e (.bool false) [(11, 127), (0, 138)] (by kernel_rfl) rfl (by rfl) (fun w1 hw1 => ?_) ?_
              · simp only [pk, nthSp, lexVals]
                go_simp
                exact ⟨Ext.refl _, rfl⟩
              refine lx_e (.bool false) [(0, 139)] (by kernel_rfl) rfl (by rfl) (fun w1 hw1 => ?_) ?_
              · simp only [pk, nthSp, lexVals]
                go_simp
                exact ⟨Ext.refl _, rfl⟩
              refine lx_ge (.bool false) [(0, 140)] 140 (by kernel_rfl) rfl (by kernel_rfl) (by rfl) (fun w1 => ?_) (fun w1 hw1 => ?_) ?_
              · simp only [pk, nthSp, lexVals]
                rfl
              · simp only [pk, nthSp, lexVals]
                go_simp
                exact ⟨Ext.refl _, rfl⟩
              refine lx_ge (.bool true) [(0, 141), (1, 140)] 140 (by kernel_rfl) rfl (by kernel_rfl) (by rfl) (fun w1 => ?_) (fun w1 hw1 => ?_) ?_
              · simp only [pk, nthSp, lexVals]
                rfl
              · simp only [pk, nthSp, lexVals]
                go_simp
                exact ⟨Ext.refl _, rfl⟩
              refine lx_ge (.bool true) [(0, 142), (2, 140)] 140 (by kernel_rfl) rfl (by kernel_rfl) (by rfl) (fun w1 => ?_) (fun w1 hw1 => ?_) ?_
              · simp only [pk, nthSp, lexVals]
                rfl
              · simp only [pk, nthSp, lexVals]
                go_simp
                exact ⟨Ext.refl _, rfl⟩
              refine lx_ge (.agg A) [(0, 143)] 143 (by kernel_rfl) rfl (by kernel_rfl) (by rfl) (fun w1 => ?_) (fun w1 hw1 => ?_) ?_
              · simp only [pk, nthSp, lexVals]
                rfl
              · simp only [pk, nthSp, lexVals]
                exact lu_row rfl rfl ((HX0.out w1 hw1).keep HPB.out) Tryd.underlying35 rfl (by rw [Hsz.out]; kernel_rfl)
              refine lx_ge (.bool true) [(0, 144), (1, 143)] 143 (by kernel_rfl) rfl (by kernel_rfl) (by rfl) (fun w1 => ?_) (fun w1 hw1 => ?_) ?_
              · simp only [pk, nthSp, lexVals]
                rfl
              · simp only [pk, nthSp, lexVals]
                have hm := refBlank_any w1
                rw [show hdV hdZ = A from HAe.out] at hm
                have HM := Lib.hid (hm)
                clear hw1
                go_simp
                refine HM.out.mono ?_
                rintro e w2 ⟨rfl, hE2⟩
                exact ⟨_, rfl, hE2, rfl⟩
              refine lx_ge (.bool false) [(0, 145), (2, 143)] 143 (by kernel_rfl) rfl (by kernel_rfl) (by rfl) (fun w1 => ?_) (fun w1 hw1 => ?_) ?_
              · simp only [pk, nthSp, lexVals]
                rfl
              · simp only [pk, nthSp, lexVals]
                go_simp
                exact ⟨Ext.refl _, rfl⟩
              refine lx_ge (.bool false) [(3, 143), (0, 146), (6, 140)] 140 (by kernel_rfl) rfl (by kernel_rfl) (by rfl) (fun w1 => ?_) (fun w1 hw1 => ?_) ?_
              · simp only [pk, nthSp, lexVals]
                rfl
              · simp only [pk, nthSp, lexVals]
                go_simp
                exact ⟨Ext.refl _, rfl⟩
              refine lx_e (.bool false) [(7, 140), (0, 147)] (by kernel_rfl) rfl (by rfl) (fun w1 hw1 => ?_) ?_
              · simp only [pk, nthSp, lexVals]
                go_simp
                exact ⟨Ext.refl _, rfl⟩
              refine lx_stopA (by rfl) fun w6 hw6 => ?_
              have HE6 := Lib.hid (HE5.out.trans (HX0.out w6 hw6))
              clear hw6 HX0
              simp only [rv, pf, lexVals]
              simp only [Act.put, List.setIfInBounds_toArray, List.set_cons_zero, List.set_cons_succ]
              have wJ : IntKind.i64.wrap ((j : Int) + 1) = (j : Int) + 1 := by rw [IntKind.wrap_i64]; omega
              go_wp2
              go_roundw
              case rel => exact ⟨j + 1, by omega, by go_num, HE6.out⟩
              case measure => simp [intOf]; omega
            · have y1 : (1 : Int) ≤ (j : Int) := by omega
              have y2 : ¬ (j : Int) ≤ (N : Int) := fun q => hin ⟨y1, q⟩
              have y4 : ¬ j ≤ N := fun q => y2 (by omega)
              have y5 : decide (j ≤ N) = false := decide_eq_false y4
              go_upto_region 23 with (refine wpList_store_row rfl 35 _ _ rfl w4.heap.size _ rfl rfl _ _ (heap_new w4 _ _ rfl) (by rw [Hsz.out]; kernel_rfl) (by rw [Hsz.out]; rfl) Hall.out ?_; rw [setRow_new w4 _ _ _ _ rfl])
              obtain ⟨w5, hw5⟩ : ∃ w5, w4.alloc (.cells A 35) = w5 := ⟨_, rfl⟩
              have hE5 : Ext w4 w5 := by rw [← hw5]; exact (Ext.refl w4).alloc _
              obtain ⟨p, hp⟩ : ∃ p, w4.heap.size = p := ⟨_, rfl⟩
              have hB5 : w5.heap[p]? = some (.cells A 35 (0, 0)) := by rw [← hw5]; exact heap_new w4 _ _ hp.symm
              refine wp_world (w' := w5) hw5 ?_
              rw [hp]
              have HPB := Lib.hid hB5
              have HE5 := Lib.hid (HE4.out.trans hE5)
              clear hw5 hE5 hp hB5
              have HX0 := Lib.hid (show ∀ x, Ext w5.drew x → Ext w5 x from fun x hx => Ext.trans (Ext.refl w5).drew hx)
              refine wp_region_lexA (by kernel_rfl) (by kernel_rfl) ?_
              refine lx_e (.bool false) [] (by kernel_rfl) rfl (by rfl) (fun w1 hw1 => ?_) ?_
              · simp only [pk, lexVals]
                go_simp
                exact ⟨Ext.refl _, rfl⟩
              refine lx_e (.int .i64 (j : Int)) [] (by kernel_rfl) rfl (by rfl) (fun w1 hw1 => ?_) ?_
              · simp only [pk, lexVals]
                go_simp
                exact ⟨Ext.refl _, rfl⟩
              refine lx_e (.bool true) [(0, 118)] (by kernel_rfl) rfl (by rfl) (fun w1 hw1 => ?_) ?_
              · simp only [pk, nthSp, lexVals]
                go_simp
                exact ⟨Ext.refl _, rfl⟩
              refine lx_e (.bool true) [(0, 119)] (by kernel_rfl) rfl (by rfl) (fun w1 hw1 => ?_) ?_
              · simp only [pk, nthSp, lexVals]
                go_simp
                exact ⟨Ext.refl _, rfl⟩
              refine lx_ge (.int .i64 (j : Int)) [(0, 120)] 120 (by kernel_rfl) rfl (by kernel_rfl) (by rfl) (fun w1 => ?_) (fun w1 hw1 => ?_) ?_
              · simp only [pk, nthSp, lexVals]
                rfl
              · simp only [pk, nthSp, lexVals]
                go_simp
                exact ⟨Ext.refl _, rfl⟩
              refine lx_ge (.slice ah N ch) [(1, 120)] 120 (by kernel_rfl) rfl (by kernel_rfl) (by rfl) (fun w1 => ?_) (fun w1 hw1 => ?_) ?_
              · simp only [pk, nthSp, lexVals]
                rfl
              · simp only [pk, nthSp, lexVals]
                go_simp
                exact ⟨Ext.refl _, rfl⟩
              refine lx_ge (.int .i64 (N : Int)) [(0, 122), (2, 120)] 120 (by kernel_rfl) rfl (by kernel_rfl) (by rfl) (fun w1 => ?_) (fun w1 hw1 => ?_) ?_
              · simp only [pk, nthSp, lexVals]
                rfl
              · simp only [pk, nthSp, lexVals]
                go_simp
                exact ⟨Ext.refl _, rfl⟩
              refine lx_ge (.bool false) [(2, 121), (0, 123), (3, 120)] 120 (by kernel_rfl) rfl (by kernel_rfl) (by rfl) (fun w1 => ?_) (fun w1 hw1 => ?_) ?_
              · simp only [pk, nthSp, lexVals]
                rfl
              · simp only [pk, nthSp, lexVals]
                go_simp
                exact ⟨Ext.refl _, rfl⟩
              refine lx_e (.bool false) [(4, 120), (0, 124)] (by kernel_rfl) rfl (by rfl) (fun w1 hw1 => ?_) ?_
              · simp only [pk, nthSp, lexVals]
                go_simp
                exact ⟨Ext.refl _, rfl⟩
              refine lx_e (.bool false) [(8, 117), (0, 125)] (by kernel_rfl) rfl (by rfl) (fun w1 hw1 => ?_) ?_
              · simp only [pk, nthSp, lexVals]
                go_simp
                exact ⟨Ext.refl _, rfl⟩
              refine lx_e (.bool false) [(0, 126)] (by kernel_rfl) rfl (by rfl) (fun w1 hw1 => ?_) ?_
              · simp only [pk, nthSp, lexVals]
                go_simp
                exact ⟨Ext.refl _, rfl⟩
              refine lx_ge (.bool false) [(0, 127)] 127 (by kernel_rfl) rfl (by kernel_rfl) (by rfl) (fun w1 => ?_) (fun w1 hw1 => ?_) ?_
              · simp only [pk, nthSp, lexVals]
                rfl
              · simp only [pk, nthSp, lexVals]
                go_simp
                exact ⟨Ext.refl _, rfl⟩
              refine lx_ge (.bool false) [(0, 128), (1, 127)] 127 (by kernel_rfl) rfl (by kernel_rfl) (by rfl) (fun w1 => ?_) (fun w1 hw1 => ?_) ?_
              · simp only [pk, nthSp, lexVals]
                rfl
              · simp only [pk, nthSp, lexVals]
                go_simp
                exact ⟨Ext.refl _, rfl⟩
              refine lx_no [(0, 129)] 129 (by kernel_rfl) rfl (by kernel_rfl) (by rfl) (fun w1 => ?_) ?_
              · simp only [pk, nthSp, lexVals]
                first | (go_simp; done) | (go_simp; exact fun h => by cases h)
              refine lx_no [(1, 129)] 129 (by kernel_rfl) rfl (by kernel_rfl) (by rfl) (fun w1 => ?_) ?_
              · simp only [pk, nthSp, lexVals]
                first | (go_simp; done) | (go_simp; exact fun h => by cases h)
              refine lx_no [(2, 129)] 129 (by kernel_rfl) rfl (by kernel_rfl) (by rfl) (fun w1 => ?_) ?_
              · simp only [pk, nthSp, lexVals]
                first | (go_simp; done) | (go_simp; exact fun h => by cases h)
              refine lx_no [(0, 132), (3, 129)] 129 (by kernel_rfl) rfl (by kernel_rfl) (by rfl) (fun w1 => ?_) ?_
              · simp only [pk, nthSp, lexVals]
                first | (go_simp; done) | (go_simp; exact fun h => by cases h)
              refine lx_no [(2, 131), (0, 133), (4, 129)] 129 (by kernel_rfl) rfl (by kernel_rfl) (by rfl) (fun w1 => ?_) ?_
              · simp only [pk, nthSp, lexVals]
                first | (go_simp; done) | (go_simp; exact fun h => by cases h)
              refine lx_no [(0, 134), (5, 129)] 129 (by kernel_rfl) rfl (by kernel_rfl) (by rfl) (fun w1 => ?_) ?_
              · simp only [pk, nthSp, lexVals]
                first | (go_simp; done) | (go_simp; exact fun h => by cases h)
              refine lx_no [(5, 130), (0, 135), (6, 129)] 129 (by kernel_rfl) rfl (by kernel_rfl) (by rfl) (fun w1 => ?_) ?_
              · simp only [pk, nthSp, lexVals]
                first | (go_simp; done) | (go_simp; exact fun h => by cases h)
              refine lx_no [(0, 136), (7, 129)] 129 (by kernel_rfl) rfl (by kernel_rfl) (by rfl) (fun w1 => ?_) ?_
              · simp only [pk, nthSp, lexVals]
                first | (go_simp; done) | (go_simp; exact fun h => by cases h)
              refine lx_ge (.bool false) [(8, 129), (0, 137), (10, 127)] 127 (by kernel_rfl) rfl (by kernel_rfl) (by rfl) (fun w1 => ?_) (fun w1 hw1 => ?_) ?_
              · simp only [pk, nthSp, lexVals]
                rfl
              · simp only [pk, nthSp, lexVals]
                go_simp
                exact ⟨Ext.refl _, rfl⟩
              refine lx_e (.bool false) [(11, 127), (0, 138)] (by kernel_rfl) rfl (by rfl) (fun w1 hw1 => ?_) ?_
              · simp only [pk, nthSp, lexVals]
                go_simp
                exact ⟨Ext.refl _, rfl⟩
              refine lx_e (.bool false) [(0, 139)] (by kernel_rfl) rfl (by rfl) (fun w1 hw1 => ?_) ?_
              · simp only [pk, nthSp, lexVals]
                go_simp
                exact ⟨Ext.refl _, rfl⟩
              refine lx_ge (.bool false) [(0, 140)] 140 (by kernel_rfl) rfl (by kernel_rfl) (by rfl) (fun w1 => ?_) (fun w1 hw1 => ?_) ?_
              · simp only [pk, nthSp, lexVals]
                rfl
              · simp only [pk, nthSp, lexVals]
                go_simp
                exact ⟨Ext.refl _, rfl⟩
              refine lx_ge (.bool true) [(0, 141), (1, 140)] 140 (by kernel_rfl) rfl (by kernel_rfl) (by rfl) (fun w1 => ?_) (fun w1 hw1 => ?_) ?_
              · simp only [pk, nthSp, lexVals]
                rfl
              · simp only [pk, nthSp, lexVals]
                go_simp
                exact ⟨Ext.refl _, rfl⟩
              refine lx_ge (.bool true) [(0, 142), (2, 140)] 140 (by kernel_rfl) rfl (by kernel_rfl) (by rfl) (fun w1 => ?_) (fun w1 hw1 => ?_) ?_
              · simp only [pk, nthSp, lexVals]
                rfl
              · simp only [pk, nthSp, lexVals]
                go_simp
                exact ⟨Ext.refl _, rfl⟩
              refine lx_ge (.agg A) [(0, 143)] 143 (by kernel_rfl) rfl (by kernel_rfl) (by rfl) (fun w1 => ?_) (fun w1 hw1 => ?_) ?_
              · simp only [pk, nthSp, lexVals]
                rfl
              · simp only [pk, nthSp, lexVals]
                exact lu_row rfl rfl ((HX0.out w1 hw1).keep HPB.out) Tryd.underlying35 rfl (by rw [Hsz.out]; kernel_rfl)
              refine lx_ge (.bool true) [(0, 144), (1, 143)] 143 (by kernel_rfl) rfl (by kernel_rfl) (by rfl) (fun w1 => ?_) (fun w1 hw1 => ?_) ?_
              · simp only [pk, nthSp, lexVals]
                rfl
              · simp only [pk, nthSp, lexVals]
                have hm := refBlank_any w1
                rw [show hdV hdZ = A from HAe.out] at hm
                have HM := Lib.hid (hm)
                clear hw1
                go_simp
                refine HM.out.mono ?_
                rintro e w2 ⟨rfl, hE2⟩
                exact ⟨_, rfl, hE2, rfl⟩
              refine lx_ge (.bool false) [(0, 145), (2, 143)] 143 (by kernel_rfl) rfl (by kernel_rfl) (by rfl) (fun w1 => ?_) (fun w1 hw1 => ?_) ?_
              · simp only [pk, nthSp, lexVals]
                rfl
              · simp only [pk, nthSp, lexVals]
                go_simp
                exact ⟨Ext.refl _, rfl⟩
              refine lx_ge (.bool false) [(3, 143), (0, 146), (6, 140)] 140 (by kernel_rfl) rfl (by kernel_rfl) (by rfl) (fun w1 => ?_) (fun w1 hw1 => ?_) ?_
              · simp only [pk, nthSp, lexVals]
                rfl
              · simp only [pk, nthSp, lexVals]
                go_simp
                exact ⟨Ext.refl _, rfl⟩
              refine lx_e (.bool false) [(7, 140), (0, 147)] (by kernel_rfl) rfl (by rfl) (fun w1 hw1 => ?_) ?_
              · simp only [pk, nthSp, lexVals]
                go_simp
                exact ⟨Ext.refl _, rfl⟩
              refine lx_stopA (by rfl) fun w6 hw6 => ?_
              have HE6 := Lib.hid (HE5.out.trans (HX0.out w6 hw6))
              clear hw6 HX0
              simp only [rv, pf, lexVals]
              simp only [Act.put, List.setIfInBounds_toArray, List.set_cons_zero, List.set_cons_succ]
              have wJ : IntKind.i64.wrap ((j : Int) + 1) = (j : Int) + 1 := by rw [IntKind.wrap_i64]; omega
              go_wp2
              go_roundw
              case rel => exact ⟨j + 1, by omega, by go_num, HE6.out⟩
              case measure => simp [intOf]; omega
      have x1 : (k : Int) < (n : Int) := by omega
      have x2 : (0 : Int) ≤ (k : Int) := by omega
      obtain ⟨b, off, rfl, hr⟩ := (H.out.ext HE.out).range k hlt
      obtain ⟨x, hx⟩ : ∃ x, l.getD k htN = x := ⟨_, rfl⟩
      rw [hx] at hr
      have Hr := Lib.hid hr
      have HX := Lib.hid (show HtAt w x by rw [← hx]; exact H.out.get k hlt)
      have HXn := Lib.hid (show x.1.tn ≤ 20 by rw [← hx]; exact Htn.out k hlt (by omega))
      have HszX := Lib.hid (hdV_size x.1)
      have HallX := Lib.hid (hdV_one x.1)
      have hdl : (hdL x.1).toArray = hdV x.1 := hdL_arr _
      obtain ⟨AX, hAX⟩ : ∃ A, hdV x.1 = A := ⟨_, rfl⟩
      have HAX := Lib.hid hAX
      rw [hAX] at HszX HallX hdl
      have Hdl := Lib.hid hdl
      clear hr hx hAX hdl
      go_upto_region 10 with (first | (refine wpList_load_mid rfl 35 _ rfl b (off + k * 125) rfl (hdL x.1) _ Hr.out Tryd.underlying35 rfl (by rw [hdL_length]; kernel_rfl) ?_; rw [Hdl.out]) | (refine wpList_store_row rfl 35 _ _ rfl wr.heap.size _ rfl rfl _ _ (heap_new wr _ _ rfl) (by rw [HszX.out]; kernel_rfl) (by rw [HszX.out]; rfl) HallX.out ?_; rw [setRow_new wr _ _ _ _ rfl]))
      obtain ⟨w4, hw4⟩ : ∃ w4, wr.alloc (.cells AX 35) = w4 := ⟨_, rfl⟩
      have hE4 : Ext wr w4 := by rw [← hw4]; exact (Ext.refl wr).alloc _
      obtain ⟨p, hp⟩ : ∃ p, wr.heap.size = p := ⟨_, rfl⟩
      have hB4 : w4.heap[p]? = some (.cells AX 35 (0, 0)) := by rw [← hw4]; exact heap_new wr _ _ hp.symm
      refine wp_world (w' := w4) hw4 ?_
      rw [hp]
      have HS4 := Lib.hid (HS.out.more hE4)
      have HSr := Lib.hid HS.out
      have HEr := Lib.hid hE4
      have Hpp := Lib.hid hp
      have HPg := Lib.hid (show p ≠ g ∧ some p ≠ (Value.slice ac lc.length cc).ownBlock ∧ some p ≠ (Value.slice ah lh.length ch).ownBlock from by
        have h1 := HS.out.chn.row.lt
        refine ⟨by omega, fun e => ?_, fun e => ?_⟩
        · have := (HS.out.chn.own.lt p e.symm).2
          omega
        · have := (HS.out.own.lt p e.symm).2
          omega)
      have HPB := Lib.hid hB4
      have hbl := HB.out.ext HS4.out.ext
      clear hw4 hE4 hp hB4 HS HE Hr
      by_cases hkr : k < rn
      case neg =>
        have x6 : ¬ (k : Int) < (rn : Int) := by omega
        clear hbl
        go_upto_region 12 with (fail)
        have HY := Lib.hid HX.out
        have HYn := Lib.hid (show x.1.tn ≤ 1000000 by have := HXn.out; omega)
        obtain ⟨y, hy⟩ : ∃ y, x = y := ⟨_, rfl⟩
        have Hsz := Lib.hid HszX.out
        obtain ⟨A, hA⟩ : ∃ A, AX = A := ⟨_, rfl⟩
        have HAe := Lib.hid (show hdV y.1 = A by rw [← hy, ← hA]; exact HAX.out)
        rw [hy] at HY HYn
        rw [hA] at HPB Hsz
        clear hy hA HX HXn HszX HallX HAX Hdl HSr HEr
        have HS6 := Lib.hid HS4.out
        clear HS4
        have hHs := HS6.out.hs (by have := HN.out; omega)
        rw [HN.out] at hHs
        have HRA := Lib.hid (refAsk_any wv ah N ch lh y w4 hHs (by omega) HLk.out.formed (HY.out.ext HS6.out.ext) (hdKs_ext HK2.out HS6.out.ext))
        have HCg := Lib.hid (askV_congr (wv := wv) (T := tipF lh) (y := y) HS6.out.len HS6.out.eq (fun z hz => (HS6.out.chn.each z hz).toks.len) (fun z hz => (HS6.out.src z hz).toks.len) HY.out.toks.len)
        obtain ⟨V, hV⟩ : ∃ V, askV wv lh (tipF lh) y = V := ⟨_, rfl⟩
        rw [hV] at HRA HCg
        rw [HAe.out] at HRA
        have HV := Lib.hid HCg.out
        have hVn : (V != V) = false := by simp
        clear hHs hV HCg
        go_wp2_with (refine wpList_load_rowW rfl 35 _ rfl p rfl _ _ _ _ HPB.out Tryd.underlying35 rfl (by rw [Hsz.out]; kernel_rfl) ?_)
        refine HRA.out.mono ?_
        rintro e w7 ⟨rfl, hE⟩
        have HS7 := Lib.hid (HS6.out.more hE)
        have HPB := Lib.hid (hE.keep HPB.out)
        have HAs := Lib.hid (ask_any HS7.out.chn (by have := HS7.out.len; have := HN.out; omega) HS7.out.tnc y (HY.out.ext HS7.out.ext))
        rw [HV.out, HAe.out] at HAs
        clear hE HRA HS6
        go_wp2_with (refine wpList_load_rowW rfl 35 _ rfl p rfl _ _ _ _ HPB.out Tryd.underlying35 rfl (by rw [Hsz.out]; kernel_rfl) ?_)
        refine HAs.out.mono ?_
        rintro e w8 ⟨rfl, hE⟩
        have HS8 := Lib.hid (HS7.out.more hE)
        have HPB := Lib.hid (hE.keep HPB.out)
        have hHd := head_any HS8.out.chn (by have := HS8.out.len; have := HN.out; omega)
        rw [HS8.out.len, HN.out] at hHd
        have HHd := Lib.hid hHd
        have wN3 : IntKind.u64.wrap (N : Int) = (N : Int) := by rw [IntKind.wrap_u64]; omega
        clear hE HAs HS7 hHd
        go_wp2_with fail
        refine HHd.out.mono ?_
        rintro e w9 ⟨rfl, hE⟩
        have HS9 := Lib.hid (HS8.out.more hE)
        have HPB := Lib.hid (hE.keep HPB.out)
        clear hE HHd HS8
        have HAd := Lib.hid (add_any HS9.out.chn (by have := HS9.out.len; have := HN.out; omega) HS9.out.tnc y (HY.out.ext HS9.out.ext) HYn.out (fun h0 b off hta => by
          have h1 := HY.out.lt h0 hta
          have h2 := HS9.out.low
          have h3 := HS9.out.chn.low
          refine ⟨by omega, fun e => ?_⟩
          have h4 := (HS9.out.chn.own.lt b e.symm).1
          omega) (hdKs_ext HK.out HS9.out.ext) (by have := HwB.out; have := Hg0.out; omega) HS9.out.hi)
        rw [HV.out, HAe.out] at HAd
        go_wp2_with (refine wpList_load_rowW rfl 35 _ rfl p rfl _ _ _ _ HPB.out Tryd.underlying35 rfl (by rw [Hsz.out]; kernel_rfl) ?_)
        refine HAd.out.mono ?_
        rintro e w10 ⟨rfl, hno, hyes⟩
        by_cases hV0 : V = 0
        · obtain ⟨a2, c2, ta, tc, had⟩ := hyes hV0
          have HM := Lib.hid (HS9.out.put HY.out HYn.out had)
          have hst := had.step
          have HPB := Lib.hid (show w10.heap[p]? = some (.cells A 35 (0, 0)) by
            rw [hst.block p (Array.getElem?_eq_some_iff.1 HPB.out).1 HPg.out.1 HPg.out.2.1]
            exact HPB.out)
          have HVl := Lib.hid (show askV wv lc (tipF lh) y = 0 by rw [HV.out, hV0])
          have HS12l := Lib.hid HS9.out.len
          subst hV0
          have HM11 := Lib.hid (HM.out.more ((Ext.refl w10).alloc (.cells A 35)))
          have ho11 := HM11.out.own
          rw [HN.out] at ho11
          have HO11 := Lib.hid ho11
          have HQ11 := Lib.hid (show ∀ j, j < 125 → (w10.alloc (.cells A 35)).cell? ⟨w10.heap.size, j, none⟩ = some (hdC y.1 j) from fun j hj => by
            rw [← HAe.out]
            exact row_cell (heap_new w10 _ _ rfl) j hj)
          have HB11 := Lib.hid HM11.out.hi
          clear hno hyes had hst ho11 HAd HS9
          go_wp2_with (first | (refine wpList_load_rowW rfl 35 _ rfl p rfl _ _ _ _ HPB.out Tryd.underlying35 rfl (by rw [Hsz.out]; kernel_rfl) ?_) | (refine wp_build_hd1 rfl _ rfl y.1 A HAe.out rfl ?_) | (at_builtin; refine append_hd rfl _ _ rfl B (.slice ah N ch) N lh rfl HO11.out w10.heap.size 1 y rfl HQ11.out (by omega) HB11.out ?_))
          intro v' w12 hown12 hG12 hwh12
          obtain ⟨a3, c3, rfl⟩ := own_hsl hown12
          have hl1 : (lh ++ [y]).length = N + 1 := by rw [List.length_append, HN.out]; rfl
          rw [← HN.out] at hown12 hG12 hwh12
          have HS12 := Lib.hid (HM11.out.push hown12 hG12 (by rw [show (w10.alloc (.cells A 35)).heap.size = w10.heap.size + 1 by simp]; exact hwh12))
          have HHl := Lib.hid hl1
          have hN100 : N + 1 ≤ 100000 := by omega
          clear hown12 hG12 hwh12 hl1 HM11 HO11 HQ11 HM
          have hHd := head_any HS12.out.chn (by have := HS12.out.len; have := HHl.out; omega)
          rw [HS12.out.len, HHl.out] at hHd
          have HHd2 := Lib.hid hHd
          clear hHd
          go_wp2_with fail
          refine HHd2.out.mono ?_
          rintro e w17 ⟨rfl, hE⟩
          have HS17 := Lib.hid (HS12.out.more hE)
          have wN2 : IntKind.u64.wrap ((N + 1 : Nat) : Int) = ((N + 1 : Nat) : Int) := by rw [IntKind.wrap_u64]; have := hN100; omega
          clear hE HHd2 HS12
          go_wp2_with fail
          refine (chTip_any HS17.out.chn).mono ?_
          rintro e w18 ⟨rfl, hE⟩
          have HS18 := Lib.hid (HS17.out.more hE)
          clear hE HS17
          have hHs := HS18.out.hs (by have := HHl.out; omega)
          rw [HHl.out] at hHs
          have HRt := Lib.hid (refTip_any _ _ _ _ w18 hHs (hdKs_ext HK2.out HS18.out.ext))
          obtain ⟨T, hT⟩ : ∃ T, tipF (lh ++ [y]) = T := ⟨_, rfl⟩
          rw [hT] at HRt ⊢
          have kne2 : ∀ w, (binOp .neq 29 (.agg (rowArr 32 fun j => .int .u8 (T j))) (.agg (rowArr 32 fun j => .int .u8 (T j)))).run Tryd.prog w = .ok (.bool false) w := fun w => by
            rw [HKne.out w T T, show arrB 32 T T = true from decide_eq_true fun _ _ => rfl]
            rfl
          clear hHs hT
          go_wp2_with fail
          refine HRt.out.mono ?_
          rintro e w19 ⟨rfl, hE⟩
          have HS19 := Lib.hid (HS18.out.more hE)
          clear hE HS18 HRt
          go_wp2_with fail
          refine (whose_any HS19.out.chn).mono ?_
          rintro e w20 ⟨rfl, hE⟩
          have HS20 := Lib.hid (HS19.out.more hE)
          clear hE HS19
          go_wp2
          go_roundw
          case rel => exact ⟨k + 1, lc ++ [reT y ta tc], lh ++ [y], a2, c2, a3, c3, by omega, by go_num, by rw [HHl.out], by have := HHl.out; omega, HS20.out, HLk.out.push HS12l.out (by rw [HVl.out])⟩
          case measure => simp [intOf]; omega
        · have HS10 := Lib.hid (HS9.out.more (hno hV0))
          have hV1 : (V == 0) = false := beq_eq_false_iff_ne.2 hV0
          have hV2 : (V != 0) = true := bne_iff_ne.2 hV0
          have hN100 : N ≤ 100000 := by omega
          clear hno hyes HAd HS9
          have hHd := head_any HS10.out.chn (by have := HS10.out.len; have := HN.out; omega)
          rw [HS10.out.len, HN.out] at hHd
          have HHd2 := Lib.hid hHd
          clear hHd
          go_wp2_with fail
          refine HHd2.out.mono ?_
          rintro e w17 ⟨rfl, hE⟩
          have HS17 := Lib.hid (HS10.out.more hE)
          have wN2 : IntKind.u64.wrap ((N : Nat) : Int) = ((N : Nat) : Int) := by rw [IntKind.wrap_u64]; have := hN100; omega
          clear hE HHd2 HS10
          go_wp2_with fail
          refine (chTip_any HS17.out.chn).mono ?_
          rintro e w18 ⟨rfl, hE⟩
          have HS18 := Lib.hid (HS17.out.more hE)
          clear hE HS17
          have hHs := HS18.out.hs (by have := HN.out; omega)
          rw [HN.out] at hHs
          have HRt := Lib.hid (refTip_any _ _ _ _ w18 hHs (hdKs_ext HK2.out HS18.out.ext))
          obtain ⟨T, hT⟩ : ∃ T, tipF (lh) = T := ⟨_, rfl⟩
          rw [hT] at HRt ⊢
          have kne2 : ∀ w, (binOp .neq 29 (.agg (rowArr 32 fun j => .int .u8 (T j))) (.agg (rowArr 32 fun j => .int .u8 (T j)))).run Tryd.prog w = .ok (.bool false) w := fun w => by
            rw [HKne.out w T T, show arrB 32 T T = true from decide_eq_true fun _ _ => rfl]
            rfl
          clear hHs hT
          go_wp2_with fail
          refine HRt.out.mono ?_
          rintro e w19 ⟨rfl, hE⟩
          have HS19 := Lib.hid (HS18.out.more hE)
          clear hE HS18 HRt
          go_wp2_with fail
          refine (whose_any HS19.out.chn).mono ?_
          rintro e w20 ⟨rfl, hE⟩
          have HS20 := Lib.hid (HS19.out.more hE)
          clear hE HS19
          go_wp2
          go_roundw
          case rel => exact ⟨k + 1, lc, lh, ac, cc, ah, ch, by omega, by go_num, by rw [HN.out], by have := HN.out; omega, HS20.out, HLk.out⟩
          case measure => simp [intOf]; omega
      have x6 : (k : Int) < (rn : Int) := by omega
      obtain ⟨rb, roff, rfl, hrc⟩ := hbl.at_ (by omega)
      obtain ⟨rv, hrv⟩ := hrc k hkr
      clear hrc hbl
      cases rv with
      | false =>
        go_upto_region 12 with (fail)
        clear hrv
        have HY := Lib.hid HX.out
        have HYn := Lib.hid (show x.1.tn ≤ 1000000 by have := HXn.out; omega)
        obtain ⟨y, hy⟩ : ∃ y, x = y := ⟨_, rfl⟩
        have Hsz := Lib.hid HszX.out
        obtain ⟨A, hA⟩ : ∃ A, AX = A := ⟨_, rfl⟩
        have HAe := Lib.hid (show hdV y.1 = A by rw [← hy, ← hA]; exact HAX.out)
        rw [hy] at HY HYn
        rw [hA] at HPB Hsz
        clear hy hA HX HXn HszX HallX HAX Hdl HSr HEr
        have HS6 := Lib.hid HS4.out
        clear HS4
        have hHs := HS6.out.hs (by have := HN.out; omega)
        rw [HN.out] at hHs
        have HRA := Lib.hid (refAsk_any wv ah N ch lh y w4 hHs (by omega) HLk.out.formed (HY.out.ext HS6.out.ext) (hdKs_ext HK2.out HS6.out.ext))
        have HCg := Lib.hid (askV_congr (wv := wv) (T := tipF lh) (y := y) HS6.out.len HS6.out.eq (fun z hz => (HS6.out.chn.each z hz).toks.len) (fun z hz => (HS6.out.src z hz).toks.len) HY.out.toks.len)
        obtain ⟨V, hV⟩ : ∃ V, askV wv lh (tipF lh) y = V := ⟨_, rfl⟩
        rw [hV] at HRA HCg
        rw [HAe.out] at HRA
        have HV := Lib.hid HCg.out
        have hVn : (V != V) = false := by simp
        clear hHs hV HCg
        go_wp2_with (refine wpList_load_rowW rfl 35 _ rfl p rfl _ _ _ _ HPB.out Tryd.underlying35 rfl (by rw [Hsz.out]; kernel_rfl) ?_)
        refine HRA.out.mono ?_
        rintro e w7 ⟨rfl, hE⟩
        have HS7 := Lib.hid (HS6.out.more hE)
        have HPB := Lib.hid (hE.keep HPB.out)
        have HAs := Lib.hid (ask_any HS7.out.chn (by have := HS7.out.len; have := HN.out; omega) HS7.out.tnc y (HY.out.ext HS7.out.ext))
        rw [HV.out, HAe.out] at HAs
        clear hE HRA HS6
        go_wp2_with (refine wpList_load_rowW rfl 35 _ rfl p rfl _ _ _ _ HPB.out Tryd.underlying35 rfl (by rw [Hsz.out]; kernel_rfl) ?_)
        refine HAs.out.mono ?_
        rintro e w8 ⟨rfl, hE⟩
        have HS8 := Lib.hid (HS7.out.more hE)
        have HPB := Lib.hid (hE.keep HPB.out)
        have hHd := head_any HS8.out.chn (by have := HS8.out.len; have := HN.out; omega)
        rw [HS8.out.len, HN.out] at hHd
        have HHd := Lib.hid hHd
        have wN3 : IntKind.u64.wrap (N : Int) = (N : Int) := by rw [IntKind.wrap_u64]; omega
        clear hE HAs HS7 hHd
        go_wp2_with fail
        refine HHd.out.mono ?_
        rintro e w9 ⟨rfl, hE⟩
        have HS9 := Lib.hid (HS8.out.more hE)
        have HPB := Lib.hid (hE.keep HPB.out)
        clear hE HHd HS8
        have HAd := Lib.hid (add_any HS9.out.chn (by have := HS9.out.len; have := HN.out; omega) HS9.out.tnc y (HY.out.ext HS9.out.ext) HYn.out (fun h0 b off hta => by
          have h1 := HY.out.lt h0 hta
          have h2 := HS9.out.low
          have h3 := HS9.out.chn.low
          refine ⟨by omega, fun e => ?_⟩
          have h4 := (HS9.out.chn.own.lt b e.symm).1
          omega) (hdKs_ext HK.out HS9.out.ext) (by have := HwB.out; have := Hg0.out; omega) HS9.out.hi)
        rw [HV.out, HAe.out] at HAd
        go_wp2_with (refine wpList_load_rowW rfl 35 _ rfl p rfl _ _ _ _ HPB.out Tryd.underlying35 rfl (by rw [Hsz.out]; kernel_rfl) ?_)
        refine HAd.out.mono ?_
        rintro e w10 ⟨rfl, hno, hyes⟩
        by_cases hV0 : V = 0
        · obtain ⟨a2, c2, ta, tc, had⟩ := hyes hV0
          have HM := Lib.hid (HS9.out.put HY.out HYn.out had)
          have hst := had.step
          have HPB := Lib.hid (show w10.heap[p]? = some (.cells A 35 (0, 0)) by
            rw [hst.block p (Array.getElem?_eq_some_iff.1 HPB.out).1 HPg.out.1 HPg.out.2.1]
            exact HPB.out)
          have HVl := Lib.hid (show askV wv lc (tipF lh) y = 0 by rw [HV.out, hV0])
          have HS12l := Lib.hid HS9.out.len
          subst hV0
          have HM11 := Lib.hid (HM.out.more ((Ext.refl w10).alloc (.cells A 35)))
          have ho11 := HM11.out.own
          rw [HN.out] at ho11
          have HO11 := Lib.hid ho11
          have HQ11 := Lib.hid (show ∀ j, j < 125 → (w10.alloc (.cells A 35)).cell? ⟨w10.heap.size, j, none⟩ = some (hdC y.1 j) from fun j hj => by
            rw [← HAe.out]
            exact row_cell (heap_new w10 _ _ rfl) j hj)
          have HB11 := Lib.hid HM11.out.hi
          clear hno hyes had hst ho11 HAd HS9
          go_wp2_with (first | (refine wpList_load_rowW rfl 35 _ rfl p rfl _ _ _ _ HPB.out Tryd.underlying35 rfl (by rw [Hsz.out]; kernel_rfl) ?_) | (refine wp_build_hd1 rfl _ rfl y.1 A HAe.out rfl ?_) | (at_builtin; refine append_hd rfl _ _ rfl B (.slice ah N ch) N lh rfl HO11.out w10.heap.size 1 y rfl HQ11.out (by omega) HB11.out ?_))
          intro v' w12 hown12 hG12 hwh12
          obtain ⟨a3, c3, rfl⟩ := own_hsl hown12
          have hl1 : (lh ++ [y]).length = N + 1 := by rw [List.length_append, HN.out]; rfl
          rw [← HN.out] at hown12 hG12 hwh12
          have HS12 := Lib.hid (HM11.out.push hown12 hG12 (by rw [show (w10.alloc (.cells A 35)).heap.size = w10.heap.size + 1 by simp]; exact hwh12))
          have HHl := Lib.hid hl1
          have hN100 : N + 1 ≤ 100000 := by omega
          clear hown12 hG12 hwh12 hl1 HM11 HO11 HQ11 HM
          have hHd := head_any HS12.out.chn (by have := HS12.out.len; have := HHl.out; omega)
          rw [HS12.out.len, HHl.out] at hHd
          have HHd2 := Lib.hid hHd
          clear hHd
          go_wp2_with fail
          refine HHd2.out.mono ?_
          rintro e w17 ⟨rfl, hE⟩
          have HS17 := Lib.hid (HS12.out.more hE)
          have wN2 : IntKind.u64.wrap ((N + 1 : Nat) : Int) = ((N + 1 : Nat) : Int) := by rw [IntKind.wrap_u64]; have := hN100; omega
          clear hE HHd2 HS12
          go_wp2_with fail
          refine (chTip_any HS17.out.chn).mono ?_
          rintro e w18 ⟨rfl, hE⟩
          have HS18 := Lib.hid (HS17.out.more hE)
          clear hE HS17
          have hHs := HS18.out.hs (by have := HHl.out; omega)
          rw [HHl.out] at hHs
          have HRt := Lib.hid (refTip_any _ _ _ _ w18 hHs (hdKs_ext HK2.out HS18.out.ext))
          obtain ⟨T, hT⟩ : ∃ T, tipF (lh ++ [y]) = T := ⟨_, rfl⟩
          rw [hT] at HRt ⊢
          have kne2 : ∀ w, (binOp .neq 29 (.agg (rowArr 32 fun j => .int .u8 (T j))) (.agg (rowArr 32 fun j => .int .u8 (T j)))).run Tryd.prog w = .ok (.bool false) w := fun w => by
            rw [HKne.out w T T, show arrB 32 T T = true from decide_eq_true fun _ _ => rfl]
            rfl
          clear hHs hT
          go_wp2_with fail
          refine HRt.out.mono ?_
          rintro e w19 ⟨rfl, hE⟩
          have HS19 := Lib.hid (HS18.out.more hE)
          clear hE HS18 HRt
          go_wp2_with fail
          refine (whose_any HS19.out.chn).mono ?_
          rintro e w20 ⟨rfl, hE⟩
          have HS20 := Lib.hid (HS19.out.more hE)
          clear hE HS19
          go_wp2
          go_roundw
          case rel => exact ⟨k + 1, lc ++ [reT y ta tc], lh ++ [y], a2, c2, a3, c3, by omega, by go_num, by rw [HHl.out], by have := HHl.out; omega, HS20.out, HLk.out.push HS12l.out (by rw [HVl.out])⟩
          case measure => simp [intOf]; omega
        · have HS10 := Lib.hid (HS9.out.more (hno hV0))
          have hV1 : (V == 0) = false := beq_eq_false_iff_ne.2 hV0
          have hV2 : (V != 0) = true := bne_iff_ne.2 hV0
          have hN100 : N ≤ 100000 := by omega
          clear hno hyes HAd HS9
          have hHd := head_any HS10.out.chn (by have := HS10.out.len; have := HN.out; omega)
          rw [HS10.out.len, HN.out] at hHd
          have HHd2 := Lib.hid hHd
          clear hHd
          go_wp2_with fail
          refine HHd2.out.mono ?_
          rintro e w17 ⟨rfl, hE⟩
          have HS17 := Lib.hid (HS10.out.more hE)
          have wN2 : IntKind.u64.wrap ((N : Nat) : Int) = ((N : Nat) : Int) := by rw [IntKind.wrap_u64]; have := hN100; omega
          clear hE HHd2 HS10
          go_wp2_with fail
          refine (chTip_any HS17.out.chn).mono ?_
          rintro e w18 ⟨rfl, hE⟩
          have HS18 := Lib.hid (HS17.out.more hE)
          clear hE HS17
          have hHs := HS18.out.hs (by have := HN.out; omega)
          rw [HN.out] at hHs
          have HRt := Lib.hid (refTip_any _ _ _ _ w18 hHs (hdKs_ext HK2.out HS18.out.ext))
          obtain ⟨T, hT⟩ : ∃ T, tipF (lh) = T := ⟨_, rfl⟩
          rw [hT] at HRt ⊢
          have kne2 : ∀ w, (binOp .neq 29 (.agg (rowArr 32 fun j => .int .u8 (T j))) (.agg (rowArr 32 fun j => .int .u8 (T j)))).run Tryd.prog w = .ok (.bool false) w := fun w => by
            rw [HKne.out w T T, show arrB 32 T T = true from decide_eq_true fun _ _ => rfl]
            rfl
          clear hHs hT
          go_wp2_with fail
          refine HRt.out.mono ?_
          rintro e w19 ⟨rfl, hE⟩
          have HS19 := Lib.hid (HS18.out.more hE)
          clear hE HS18 HRt
          go_wp2_with fail
          refine (whose_any HS19.out.chn).mono ?_
          rintro e w20 ⟨rfl, hE⟩
          have HS20 := Lib.hid (HS19.out.more hE)
          clear hE HS19
          go_wp2
          go_roundw
          case rel => exact ⟨k + 1, lc, lh, ac, cc, ah, ch, by omega, by go_num, by rw [HN.out], by have := HN.out; omega, HS20.out, HLk.out⟩
          case measure => simp [intOf]; omega
      | true =>
      have hHs := HS4.out.hs (by have := HN.out; omega)
      rw [HN.out] at hHs
      have HBe := Lib.hid (behind_any ah N ch lh wv x w4 hHs (by omega) Hwv.out (hdKs_ext HK2.out HS4.out.ext))
      have HY := Lib.hid (bhd_at (wr := wv) HX.out (show lh.length ≤ 100000 by have := HN.out; omega) Hwv.out)
      have HYn := Lib.hid (show (bhd lh wv x).1.tn ≤ 1000000 by have := HXn.out; show x.1.tn ≤ _; omega)
      rw [HAX.out] at HBe
      obtain ⟨y, hy⟩ : ∃ y, bhd lh wv x = y := ⟨_, rfl⟩
      rw [hy] at HBe HY HYn
      have Hsz := Lib.hid (hdV_size y.1)
      have Hall := Lib.hid (hdV_one y.1)
      obtain ⟨A, hA⟩ : ∃ A, hdV y.1 = A := ⟨_, rfl⟩
      have HAe := Lib.hid hA
      rw [hA] at Hsz Hall HBe
      clear hHs hy hA HX HXn
      go_upto_region 11 with (fail)
      clear hrv
      go_wp2_with (refine wpList_load_rowW rfl 35 _ rfl p rfl _ _ _ _ HPB.out Tryd.underlying35 rfl (by rw [HszX.out]; kernel_rfl) ?_)
      refine HBe.out.mono ?_
      rintro e w5 ⟨rfl, hE⟩
      have HP5 := Lib.hid (hE.keep HPB.out)
      have HE5 := Lib.hid (HEr.out.trans hE)
      clear hE HBe HPB HS4 HEr
      go_upto_region 12 with (refine wpList_store_row rfl 35 _ _ rfl _ _ rfl rfl _ _ HP5.out (by rw [Hsz.out]; kernel_rfl) (by rw [Hsz.out, HszX.out]) Hall.out ?_)
      obtain ⟨w6, hw6⟩ : ∃ w6, w5.setRow p A = w6 := ⟨_, rfl⟩
      have hB6 : w6.heap[p]? = some (.cells A 35 (0, 0)) := by rw [← hw6]; exact setRow_heap w5 p _ _ _ _ HP5.out
      have hE6 : Ext wr w6 := by rw [← hw6]; exact below_setRow HE5.out (by have := Hpp.out; omega) _
      refine wp_world (w' := w6) hw6 ?_
      have HS6 := Lib.hid (HSr.out.more hE6)
      have HPB := Lib.hid hB6
      clear hw6 hB6 hE6 HP5 HE5 HSr HszX HallX HAX Hdl Hall
      have hHs := HS6.out.hs (by have := HN.out; omega)
      rw [HN.out] at hHs
      have HRA := Lib.hid (refAsk_any wv ah N ch lh y w6 hHs (by omega) HLk.out.formed (HY.out.ext HS6.out.ext) (hdKs_ext HK2.out HS6.out.ext))
      have HCg := Lib.hid (askV_congr (wv := wv) (T := tipF lh) (y := y) HS6.out.len HS6.out.eq (fun z hz => (HS6.out.chn.each z hz).toks.len) (fun z hz => (HS6.out.src z hz).toks.len) HY.out.toks.len)
      obtain ⟨V, hV⟩ : ∃ V, askV wv lh (tipF lh) y = V := ⟨_, rfl⟩
      rw [hV] at HRA HCg
      rw [HAe.out] at HRA
      have HV := Lib.hid HCg.out
      have hVn : (V != V) = false := by simp
      clear hHs hV HCg
      go_wp2_with (refine wpList_load_rowW rfl 35 _ rfl p rfl _ _ _ _ HPB.out Tryd.underlying35 rfl (by rw [Hsz.out]; kernel_rfl) ?_)
      refine HRA.out.mono ?_
      rintro e w7 ⟨rfl, hE⟩
      have HS7 := Lib.hid (HS6.out.more hE)
      have HPB := Lib.hid (hE.keep HPB.out)
      have HAs := Lib.hid (ask_any HS7.out.chn (by have := HS7.out.len; have := HN.out; omega) HS7.out.tnc y (HY.out.ext HS7.out.ext))
      rw [HV.out, HAe.out] at HAs
      clear hE HRA HS6
      go_wp2_with (refine wpList_load_rowW rfl 35 _ rfl p rfl _ _ _ _ HPB.out Tryd.underlying35 rfl (by rw [Hsz.out]; kernel_rfl) ?_)
      refine HAs.out.mono ?_
      rintro e w8 ⟨rfl, hE⟩
      have HS8 := Lib.hid (HS7.out.more hE)
      have HPB := Lib.hid (hE.keep HPB.out)
      have hHd := head_any HS8.out.chn (by have := HS8.out.len; have := HN.out; omega)
      rw [HS8.out.len, HN.out] at hHd
      have HHd := Lib.hid hHd
      have wN3 : IntKind.u64.wrap (N : Int) = (N : Int) := by rw [IntKind.wrap_u64]; omega
      clear hE HAs HS7 hHd
      go_wp2_with fail
      refine HHd.out.mono ?_
      rintro e w9 ⟨rfl, hE⟩
      have HS9 := Lib.hid (HS8.out.more hE)
      have HPB := Lib.hid (hE.keep HPB.out)
      clear hE HHd HS8
      have HAd := Lib.hid (add_any HS9.out.chn (by have := HS9.out.len; have := HN.out; omega) HS9.out.tnc y (HY.out.ext HS9.out.ext) HYn.out (fun h0 b off hta => by
        have h1 := HY.out.lt h0 hta
        have h2 := HS9.out.low
        have h3 := HS9.out.chn.low
        refine ⟨by omega, fun e => ?_⟩
        have h4 := (HS9.out.chn.own.lt b e.symm).1
        omega) (hdKs_ext HK.out HS9.out.ext) (by have := HwB.out; have := Hg0.out; omega) HS9.out.hi)
      rw [HV.out, HAe.out] at HAd
      go_wp2_with (refine wpList_load_rowW rfl 35 _ rfl p rfl _ _ _ _ HPB.out Tryd.underlying35 rfl (by rw [Hsz.out]; kernel_rfl) ?_)
      refine HAd.out.mono ?_
      rintro e w10 ⟨rfl, hno, hyes⟩
      by_cases hV0 : V = 0
      · obtain ⟨a2, c2, ta, tc, had⟩ := hyes hV0
        have HM := Lib.hid (HS9.out.put HY.out HYn.out had)
        have hst := had.step
        have HPB := Lib.hid (show w10.heap[p]? = some (.cells A 35 (0, 0)) by
          rw [hst.block p (Array.getElem?_eq_some_iff.1 HPB.out).1 HPg.out.1 HPg.out.2.1]
          exact HPB.out)
        have HVl := Lib.hid (show askV wv lc (tipF lh) y = 0 by rw [HV.out, hV0])
        have HS12l := Lib.hid HS9.out.len
        subst hV0
        have HM11 := Lib.hid (HM.out.more ((Ext.refl w10).alloc (.cells A 35)))
        have ho11 := HM11.out.own
        rw [HN.out] at ho11
        have HO11 := Lib.hid ho11
        have HQ11 := Lib.hid (show ∀ j, j < 125 → (w10.alloc (.cells A 35)).cell? ⟨w10.heap.size, j, none⟩ = some (hdC y.1 j) from fun j hj => by
          rw [← HAe.out]
          exact row_cell (heap_new w10 _ _ rfl) j hj)
        have HB11 := Lib.hid HM11.out.hi
        clear hno hyes had hst ho11 HAd HS9
        go_wp2_with (first | (refine wpList_load_rowW rfl 35 _ rfl p rfl _ _ _ _ HPB.out Tryd.underlying35 rfl (by rw [Hsz.out]; kernel_rfl) ?_) | (refine wp_build_hd1 rfl _ rfl y.1 A HAe.out rfl ?_) | (at_builtin; refine append_hd rfl _ _ rfl B (.slice ah N ch) N lh rfl HO11.out w10.heap.size 1 y rfl HQ11.out (by omega) HB11.out ?_))
        intro v' w12 hown12 hG12 hwh12
        obtain ⟨a3, c3, rfl⟩ := own_hsl hown12
        have hl1 : (lh ++ [y]).length = N + 1 := by rw [List.length_append, HN.out]; rfl
        rw [← HN.out] at hown12 hG12 hwh12
        have HS12 := Lib.hid (HM11.out.push hown12 hG12 (by rw [show (w10.alloc (.cells A 35)).heap.size = w10.heap.size + 1 by simp]; exact hwh12))
        have HHl := Lib.hid hl1
        have hN100 : N + 1 ≤ 100000 := by omega
        clear hown12 hG12 hwh12 hl1 HM11 HO11 HQ11 HM
        have hHd := head_any HS12.out.chn (by have := HS12.out.len; have := HHl.out; omega)
        rw [HS12.out.len, HHl.out] at hHd
        have HHd2 := Lib.hid hHd
        clear hHd
        go_wp2_with fail
        refine HHd2.out.mono ?_
        rintro e w17 ⟨rfl, hE⟩
        have HS17 := Lib.hid (HS12.out.more hE)
        have wN2 : IntKind.u64.wrap ((N + 1 : Nat) : Int) = ((N + 1 : Nat) : Int) := by rw [IntKind.wrap_u64]; have := hN100; omega
        clear hE HHd2 HS12
        go_wp2_with fail
        refine (chTip_any HS17.out.chn).mono ?_
        rintro e w18 ⟨rfl, hE⟩
        have HS18 := Lib.hid (HS17.out.more hE)
        clear hE HS17
        have hHs := HS18.out.hs (by have := HHl.out; omega)
        rw [HHl.out] at hHs
        have HRt := Lib.hid (refTip_any _ _ _ _ w18 hHs (hdKs_ext HK2.out HS18.out.ext))
        obtain ⟨T, hT⟩ : ∃ T, tipF (lh ++ [y]) = T := ⟨_, rfl⟩
        rw [hT] at HRt ⊢
        have kne2 : ∀ w, (binOp .neq 29 (.agg (rowArr 32 fun j => .int .u8 (T j))) (.agg (rowArr 32 fun j => .int .u8 (T j)))).run Tryd.prog w = .ok (.bool false) w := fun w => by
          rw [HKne.out w T T, show arrB 32 T T = true from decide_eq_true fun _ _ => rfl]
          rfl
        clear hHs hT
        go_wp2_with fail
        refine HRt.out.mono ?_
        rintro e w19 ⟨rfl, hE⟩
        have HS19 := Lib.hid (HS18.out.more hE)
        clear hE HS18 HRt
        go_wp2_with fail
        refine (whose_any HS19.out.chn).mono ?_
        rintro e w20 ⟨rfl, hE⟩
        have HS20 := Lib.hid (HS19.out.more hE)
        clear hE HS19
        go_wp2
        go_roundw
        case rel => exact ⟨k + 1, lc ++ [reT y ta tc], lh ++ [y], a2, c2, a3, c3, by omega, by go_num, by rw [HHl.out], by have := HHl.out; omega, HS20.out, HLk.out.push HS12l.out (by rw [HVl.out])⟩
        case measure => simp [intOf]; omega
      · have HS10 := Lib.hid (HS9.out.more (hno hV0))
        have hV1 : (V == 0) = false := beq_eq_false_iff_ne.2 hV0
        have hV2 : (V != 0) = true := bne_iff_ne.2 hV0
        have hN100 : N ≤ 100000 := by omega
        clear hno hyes HAd HS9
        have hHd := head_any HS10.out.chn (by have := HS10.out.len; have := HN.out; omega)
        rw [HS10.out.len, HN.out] at hHd
        have HHd2 := Lib.hid hHd
        clear hHd
        go_wp2_with fail
        refine HHd2.out.mono ?_
        rintro e w17 ⟨rfl, hE⟩
        have HS17 := Lib.hid (HS10.out.more hE)
        have wN2 : IntKind.u64.wrap ((N : Nat) : Int) = ((N : Nat) : Int) := by rw [IntKind.wrap_u64]; have := hN100; omega
        clear hE HHd2 HS10
        go_wp2_with fail
        refine (chTip_any HS17.out.chn).mono ?_
        rintro e w18 ⟨rfl, hE⟩
        have HS18 := Lib.hid (HS17.out.more hE)
        clear hE HS17
        have hHs := HS18.out.hs (by have := HN.out; omega)
        rw [HN.out] at hHs
        have HRt := Lib.hid (refTip_any _ _ _ _ w18 hHs (hdKs_ext HK2.out HS18.out.ext))
        obtain ⟨T, hT⟩ : ∃ T, tipF (lh) = T := ⟨_, rfl⟩
        rw [hT] at HRt ⊢
        have kne2 : ∀ w, (binOp .neq 29 (.agg (rowArr 32 fun j => .int .u8 (T j))) (.agg (rowArr 32 fun j => .int .u8 (T j)))).run Tryd.prog w = .ok (.bool false) w := fun w => by
          rw [HKne.out w T T, show arrB 32 T T = true from decide_eq_true fun _ _ => rfl]
          rfl
        clear hHs hT
        go_wp2_with fail
        refine HRt.out.mono ?_
        rintro e w19 ⟨rfl, hE⟩
        have HS19 := Lib.hid (HS18.out.more hE)
        clear hE HS18 HRt
        go_wp2_with fail
        refine (whose_any HS19.out.chn).mono ?_
        rintro e w20 ⟨rfl, hE⟩
        have HS20 := Lib.hid (HS19.out.more hE)
        clear hE HS19
        go_wp2
        go_roundw
        case rel => exact ⟨k + 1, lc, lh, ac, cc, ah, ch, by omega, by go_num, by rw [HN.out], by have := HN.out; omega, HS20.out, HLk.out⟩
        case measure => simp [intOf]; omega

end Go.Proofs.YthdgnahokmjkpaaDoor
