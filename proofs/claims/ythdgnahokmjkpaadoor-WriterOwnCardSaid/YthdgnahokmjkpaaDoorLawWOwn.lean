/-
  The walk of jalousielaw13.WriterOwn: it answers true. Asked: the tables lie as the text lays them.
-/
import Derived.Test.YthdgnahokmjkpaaDoorWrO
import Derived.Test.YthdgnahokmjkpaaDoorLawFrom
namespace Go.Proofs.YthdgnahokmjkpaaDoor
open Go.ChangeShapes Go.WideShapes Go.ChangeAt Go.RowKit

theorem lu_atO {w : World} {o : Oper} {ev : Operand → Value} {x y : Operand} {g q k : Nat} (ho : o.op = .indexAddr 31 x y) (hx : ev x = .pointer (some ⟨g, q, none⟩)) (hy : ev y = .int .i64 (k : Int)) (hk : k < 16) :
    lexUpon Tryd.prog w (.ex (.pointer (some ⟨g, q + k, none⟩))) ((execOp ev o).run Tryd.prog w) := by
  have hr : (Instr.indexAt 31 (.pointer (some ⟨g, q, none⟩)) (.int .i64 (k : Int))).run Tryd.prog w = .ok (.pointer (some ⟨g, q + k, none⟩)) w := by
    have hb : (0 : Int) ≤ (k : Int) ∧ (k : Int) < ((16 : Nat) : Int) := by omega
    simp only [Instr.indexAt, asIntOf, Instr.sureAddr, Sem.run_bind, Sem.run_pure, Result.andThen_ok, run_underlying Tryd.underlying31, hb, and_self, if_true, size_byte11, Int.toNat_natCast, add_none, Nat.mul_one]
  simp only [execOp, ho, hx, hy, Sem.run_bind, hr, Result.andThen_ok, Sem.run_pure]
  exact ⟨Ext.refl _, rfl⟩

/-- What From handed back while its tokens are written through. -/
structure GoRows (w wr : World) (lo : List HT) (ao : Option Addr) (co : Nat) : Prop where
  own : wr.ownsRow w.heap.size 35 125 (.slice ao lo.length co) lo.length (hsC lo)
  ext : Ext w wr
  each : ∀ i, i < lo.length → 0 < (lo.getD i htN).1.tn → ∃ b, (lo.getD i htN).1.ta = some ⟨b, 0, none⟩ ∧ w.heap.size ≤ b ∧ TkRow wr b (lo.getD i htN).1.tn ∧ (Value.slice ao lo.length co).ownBlock ≠ some b
theorem GoRows.more {w wr w' : World} {lo : List HT} {ao : Option Addr} {co : Nat} (h : GoRows w wr lo ao co) (he : Ext wr w') : GoRows w w' lo ao co :=
  ⟨own_ext9 h.own he, h.ext.trans he, fun i hi h0 => by
    obtain ⟨b, h1, h2, h3, h4⟩ := h.each i hi h0
    exact ⟨b, h1, h2, h3.of_block (he.block h3.lt), h4⟩⟩
theorem GoRows.set {w wr : World} {lo : List HT} {ao : Option Addr} {co : Nat} (h : GoRows w wr lo ao co) {b : Nat} (hb : w.heap.size ≤ b) (hne : (Value.slice ao lo.length co).ownBlock ≠ some b) (i : Nat) (z : Int) : GoRows w (wr.setCell ⟨b, i, none⟩ (.int .u8 z)) lo ao co := by
  have hG : wr.grownBy (wr.setCell ⟨b, i, none⟩ (.int .u8 z)) (some b) := grown_setCell (World.grownBy.refl wr _) rfl _
  refine ⟨h.own.kept hG (Or.inr fun e => hne e), Below.grown h.ext hG (Below.size h.ext) (fun k e => by have := Option.some.inj e; omega), fun q hq h0 => ?_⟩
  obtain ⟨b', h1, h2, h3, h4⟩ := h.each q hq h0
  refine ⟨b', h1, h2, ?_, h4⟩
  by_cases e : b' = b
  · subst e
    exact h3.set i z
  · exact h3.of_block (hG.block b' h3.lt (fun e2 => e (Option.some.inj e2)))
theorem FrAt.rows {w wr : World} {l : List HT} {q : Nat} {lo : List HT} {ao : Option Addr} {co : Nat} (h : FrAt w wr l q lo ao co) : GoRows w wr lo ao co := by
  refine ⟨h.own, h.ext, fun i hi h0 => ?_⟩
  obtain ⟨ta, tc, h1, h2, h3⟩ := h.each i hi
  rw [h1] at h0 ⊢
  rcases h2.2 with ⟨e, e2⟩ | ⟨b, cap, cur, e, e2, e3, _⟩
  · have h4 : 0 < (l.getD (q + i) htN).1.tn := h0
    omega
  · simp only [Value.slice.injEq] at e
    obtain ⟨rfl, _, rfl⟩ := e
    exact ⟨b, rfl, e2, TkRow.of h2 rfl, h3 b rfl⟩

set_option maxHeartbeats 16000000 in
set_option maxRecDepth 100000 in
theorem lawWOwn_any (a : Option Addr) (n c : Nat) (l : List HT) (w : World) (h : HsAt w a n c l) (hk : KsAt 1 w) (hk2 : KsAt 0 w) :
    Calls Tryd.prog 5 #[.slice a n c] w fun e w' => e = .returned (.bool true) ∧ Ext w w' := by
  have hg0 : 1 < w.heap.size := World.block_lt_of_cell? w _ (hk 0 (by omega))
  have H := Lib.hid h
  have HK := Lib.hid hk
  have HK2 := Lib.hid hk2
  have Hg0 := Lib.hid hg0
  have HKne := Lib.hid neq_h
  clear h hk hk2 hg0
  go_enter Tryd.func5, Tryd.ntmps5
  go_wp2_with fail
  refine (awake13_any w HK.out).mono ?_
  rintro e w1 ⟨rfl, hE⟩
  have HE1 := Lib.hid hE
  clear hE
  go_wp2_with fail
  refine (few13_any a n c l 25 w1 (H.out.ext HE1.out)).mono ?_
  rintro e w2 ⟨v, rfl, ⟨b, rfl, hb⟩, hE⟩
  have HE2 := Lib.hid (HE1.out.trans hE)
  have Hb := Lib.hid hb
  clear hE hb
  cases b with
  | false =>
    go_wp2_with fail
    refine (awake13_any w2 (hdKs_ext HK.out HE2.out)).mono ?_
    rintro e w3 ⟨rfl, hE⟩
    have HE3 := Lib.hid (HE2.out.trans hE)
    clear hE
    go_wp2
    go_ret
    exact ⟨rfl, HE3.out⟩
  | true =>
    obtain ⟨hn, htn⟩ := Hb.out rfl
    have Htn := Lib.hid htn
    have hn25 : n ≤ 25 := by omega
    clear hn htn Hb
    go_wp2_with fail
    refine (new_any 3 w2).mono ?_
    rintro e w3 ⟨g, rfl, hC, hE⟩
    obtain ⟨B, hB⟩ : ∃ B, w2.heap.size = B := ⟨_, rfl⟩
    rw [hB] at hC
    have HW := Lib.hid (WSo.begin hC (HE2.out.trans hE) (by rw [← hB]; exact Below.size HE2.out) (by rw [← hB]; exact Below.size hE))
    have HwB := Lib.hid (show w.heap.size ≤ B by rw [← hB]; exact Below.size HE2.out)
    clear hC hE hB
    go_wp2
    go_loopw [4, 5] (fun v i wr => ∃ (k : Nat) (lc lh : List HT) (ac : Option Addr) (cc : Nat) (ah : Option Addr) (ch : Nat), k ≤ n ∧ i = .int .i64 (k : Int) ∧ v = .slice ah lh.length ch ∧ lh.length ≤ k ∧ WSo w wr B g 3 lc lh ac cc ah ch) (fun _ i _ => n - (intOf i).toNat)
    case atStart => exact ⟨0, [], [], none, 0, none, 0, Nat.zero_le _, rfl, rfl, Nat.le_refl _, HW.out⟩
    case round =>
      obtain ⟨k, lc, lh, ac, cc, ah, ch, hk, rfl, rfl, hlk, hst⟩ := hrel
      have HS := Lib.hid hst
      have HE := Lib.hid hst.ext
      obtain ⟨N, hN⟩ : ∃ N, lh.length = N := ⟨_, rfl⟩
      have HN := Lib.hid hN
      rw [hN] at hlk ⊢
      clear hst HW hN
      by_cases hlt : k < n
      case neg =>
        obtain rfl : k = n := by omega
        have x1 : ¬ (k : Int) < (k : Int) := by omega
        obtain ⟨WA, hWA⟩ : ∃ W : World, W = wr := ⟨_, rfl⟩
        have HWA := Lib.hid hWA
        have HSl := Lib.hid (show lc.length ≤ 90000 by have := HS.out.len; have := HN.out; omega)
        have HFr := Lib.hid (from_any HS.out.chn HSl.out HS.out.tnc 1 100 (by omega) (by omega))
        have HNk := Lib.hid hlk
        go_wp2_with fail
        refine HFr.out.mono ?_
        rintro e w4 ⟨lo, ao, co, rfl, hfr, hb1, hb2, hb3⟩
        rw [HS.out.len, HN.out] at hb1 hb2
        rw [show (max (1 : Int) 1) = 1 from rfl] at hb1 hb2
        have hM : lo.length = N := by omega
        have HS4 := Lib.hid (HS.out.more hfr.ext)
        have HG4 := Lib.hid (show GoRows WA w4 lo ao co by rw [HWA.out]; exact hfr.rows)
        have HM := Lib.hid hM
        have hlist : HsAt w4 ao lo.length co lo := hfr.hs (fun x hx => HS.out.chn.each x hx) (by rw [HS.out.len, HN.out]; rw [show (max (1 : Int) 1).toNat - 1 = 0 from rfl]; omega) HS.out.tnc
        have HTnl := Lib.hid (show ∀ x ∈ lo, x.1.tn ≤ 1000000 from fun x hx => by
          obtain ⟨i, hi, rfl⟩ := List.getElem_of_mem hx
          obtain ⟨ta, tc, h1, h2, _⟩ := hfr.each i hi
          rw [List.getD_eq_getElem?_getD, List.getElem?_eq_getElem hi] at h1
          have h1' : lo[i] = reT (lc.getD ((max (1 : Int) 1).toNat - 1 + i) htN) ta tc := h1
          rw [h1']
          have hm : lc.getD ((max (1 : Int) 1).toNat - 1 + i) htN ∈ lc := by
            have := HS.out.len
            have := HN.out
            rw [show (max (1 : Int) 1).toNat - 1 = 0 from rfl, List.getD_eq_getElem?_getD, List.getElem?_eq_getElem (by omega)]
            exact List.getElem_mem _
          have h9 := HS.out.tnc _ hm
          exact h9)
        rw [hM]
        obtain ⟨M, hMN⟩ : ∃ M, N = M := ⟨_, rfl⟩
        have HMM := Lib.hid (show lo.length = M by rw [hM, hMN])
        have HMN := Lib.hid hMN
        have HWr := Lib.hid (show WSo w WA B g 3 lc lh ac cc ah ch by rw [HWA.out]; exact HS.out)
        have HNk25 := Lib.hid (show N ≤ 25 by omega)
        clear hfr hb1 hb2 hb3 hM HFr HS hlist hMN hWA HWA
        go_wp2
        go_loopw [11] (fun iv wr2 => ∃ i : Nat, i ≤ N ∧ iv = .int .i64 (i : Int) ∧ GoRows WA wr2 lo ao co) (fun iv _ => N - (intOf iv).toNat)
        case atStart => exact ⟨0, Nat.zero_le _, rfl, HG4.out⟩
        case round =>
          obtain ⟨i, hi, rfl, hGo⟩ := hrel
          have HGo := Lib.hid hGo
          clear hGo HG4
          by_cases hin : i < N
          case neg =>
            obtain rfl : i = N := by omega
            have x3 : ¬ (i : Int) < (i : Int) := by omega
            have HSe := Lib.hid (HWr.out.more HGo.out.ext)
            have hHs := HSe.out.hs (by have := HN.out; omega)
            rw [HN.out] at hHs
            have HHs := Lib.hid hHs
            obtain ⟨WB, hWB⟩ : ∃ W : World, W = wr := ⟨_, rfl⟩
            have HWB := Lib.hid hWB
            rw [← hWB] at HHs HSe
            clear hWB
            clear hHs HWr HS4
            go_wp2
            go_loopw [13] (fun mv wr5 => ∃ m : Nat, m ≤ i ∧ mv = .int .i64 (m : Int) ∧ Ext WB wr5) (fun mv _ => i - (intOf mv).toNat)
            case atStart => exact ⟨0, Nat.zero_le _, rfl, by rw [HWB.out]; exact Ext.refl _⟩
            case round =>
              obtain ⟨m, hm, rfl, hE⟩ := hrel
              have HSr := Lib.hid (HSe.out.more hE)
              have HE2 := Lib.hid hE
              clear hE
              by_cases hmi : m < i
              case neg =>
                obtain rfl : m = i := by omega
                have x4 : ¬ (m : Int) < (m : Int) := by omega
                go_wp2
                go_ret
                exact ⟨rfl, HSr.out.ext⟩
              have x4 : (m : Int) < (i : Int) := by omega
              have x5 : (0 : Int) ≤ (m : Int) := by omega
              have wM1 : IntKind.i64.wrap ((m : Int) + 1) = (m : Int) + 1 := by rw [IntKind.wrap_i64]; have := HNk25.out; omega
              have wM2 : IntKind.u64.wrap ((m : Int) + 1) = (m : Int) + 1 := by rw [IntKind.wrap_u64]; have := HNk25.out; omega
              have hAt := at_any HSr.out.chn (by have := HSr.out.len; have := HN.out; omega) HSr.out.tnc ((m : Int) + 1) (by omega) (by have := HNk25.out; omega)
              rw [HSr.out.len, HN.out] at hAt
              have HAt := Lib.hid hAt
              clear hAt
              go_wp2_with fail
              refine HAt.out.mono ?_
              rintro e w4 ⟨-, hyes, hE⟩
              have HE4 := Lib.hid (HE2.out.trans hE)
              obtain ⟨a', c', rfl, hown⟩ := hyes ⟨by omega, by omega⟩
              rw [show ((m : Int) + 1).toNat - 1 = m by omega] at hown ⊢
              have hcm : lc.getD m htN ∈ lc := by
                have h1 := HSr.out.len
                have h2 := HN.out
                rw [List.getD_eq_getElem?_getD, List.getElem?_eq_getElem (by omega)]
                exact List.getElem_mem _
              have hKt := HSr.out.chn.each _ hcm
              have hKn := HSr.out.tnc _ hcm
              have heq := HSr.out.eq m (by have h1 := HSr.out.len; have h2 := HN.out; omega)
              obtain ⟨K, hK⟩ : ∃ K, lc.getD m htN = K := ⟨_, rfl⟩
              rw [hK] at hown hKt hKn heq ⊢
              have hRt := reT_at hKt.ok hKt.toks.byte hKn hown
              obtain ⟨b3, off3, rfl, hr3⟩ := HHs.out.range m hmi
              have HYt := Lib.hid (HHs.out.get m hmi)
              obtain ⟨Y, hY⟩ : ∃ Y, lh.getD m htN = Y := ⟨_, rfl⟩
              rw [hY] at hr3 HYt heq
              have hsm : sameB (reT K a' c').1 Y.1 K.2 Y.2 = true := (sameB_iff (h := (reT K a' c').1) hKt.toks.len HYt.out.toks.len).2 ((reT_eq K a' c').trans heq)
              have HX9 := Lib.hid (show ∀ w9, Ext w4 w9 → Calls Tryd.prog 20 #[.agg (hdV (reT K a' c').1), .agg (hdV Y.1)] w9 fun e w' => e = .returned (.bool true) ∧ Ext w9 w' from fun w9 h9 => by
                have h1 := sameHd_any (reT K a' c').1 Y.1 K.2 Y.2 w9 (hRt.toks.ext h9) ((HYt.out.ext (HE4.out.trans h9)).toks)
                rw [hsm] at h1
                exact h1)
              have Hsz := Lib.hid (hdV_size (reT K a' c').1)
              have Hall := Lib.hid (hdV_one (reT K a' c').1)
              obtain ⟨A, hA⟩ : ∃ A, hdV (reT K a' c').1 = A := ⟨_, rfl⟩
              obtain ⟨C, hC⟩ : ∃ C, hdV Y.1 = C := ⟨_, rfl⟩
              rw [hA] at Hsz Hall HX9 ⊢
              rw [hC] at HX9
              have HCe := Lib.hid hC
              have Hm := Lib.hid hmi
              have HR3 := Lib.hid (fun w1 h1 => range_ext (w1 := w1) hr3 h1)
              clear hyes hE hown hcm hKt hKn heq hK hRt hr3 hY hsm hA hC
              go_upto_region 31 with (refine wpList_store_row rfl 35 _ _ rfl w4.heap.size _ rfl rfl _ _ (heap_new w4 _ _ rfl) (by rw [Hsz.out]; kernel_rfl) (by rw [Hsz.out]; rfl) Hall.out ?_; rw [setRow_new w4 _ _ _ _ rfl])
              obtain ⟨w5, hw5⟩ : ∃ w5, w4.alloc (.cells A 35) = w5 := ⟨_, rfl⟩
              have hE5 : Ext w4 w5 := by rw [← hw5]; exact (Ext.refl w4).alloc _
              obtain ⟨p, hp⟩ : ∃ p, w4.heap.size = p := ⟨_, rfl⟩
              have hB5 : w5.heap[p]? = some (.cells A 35 (0, 0)) := by rw [← hw5]; exact heap_new w4 _ _ hp.symm
              refine wp_world (w' := w5) hw5 ?_
              rw [hp]
              have HE45 := Lib.hid hE5
              have HPB := Lib.hid hB5
              have HE5 := Lib.hid (HE4.out.trans hE5)
              clear hw5 hE5 hp hB5
              have HSm := Lib.hid (fun w1 (h1 : Ext w5 w1) => HX9.out w1 (HE45.out.trans h1))
              have HYr := Lib.hid (fun w1 (h1 : Ext w5 w1) => HR3.out w1 (HE5.out.trans h1))
              have HX0 := Lib.hid (show ∀ x, Ext w5.drew x → Ext w5 x from fun x hx => Ext.trans (Ext.refl w5).drew hx)
              refine wp_region_lexA (by kernel_rfl) (by kernel_rfl) ?_
              refine lx_e (.bool true) [] (by kernel_rfl) rfl (by rfl) (fun w1 hw1 => ?_) ?_
              · simp only [pk, lexVals]
                go_simp
                exact ⟨Ext.refl _, rfl⟩
              refine lx_e (.bool false) [(0, 117)] (by kernel_rfl) rfl (by rfl) (fun w1 hw1 => ?_) ?_
              · simp only [pk, nthSp, lexVals]
                go_simp
                exact ⟨Ext.refl _, rfl⟩
              refine lx_e (.bool false) [(0, 118)] (by kernel_rfl) rfl (by rfl) (fun w1 hw1 => ?_) ?_
              · simp only [pk, nthSp, lexVals]
                go_simp
                exact ⟨Ext.refl _, rfl⟩
              refine lx_ge (.agg A) [(0, 119)] 119 (by kernel_rfl) rfl (by kernel_rfl) (by rfl) (fun w1 => ?_) (fun w1 hw1 => ?_) ?_
              · simp only [pk, nthSp, lexVals]
                rfl
              · simp only [pk, nthSp, lexVals]
                exact lu_row rfl rfl ((HX0.out w1 hw1).keep HPB.out) Tryd.underlying35 rfl (by rw [Hsz.out]; kernel_rfl)
              refine lx_ge (.slice (some ⟨b3, off3, none⟩) i ch) [(1, 119)] 119 (by kernel_rfl) rfl (by kernel_rfl) (by rfl) (fun w1 => ?_) (fun w1 hw1 => ?_) ?_
              · simp only [pk, nthSp, lexVals]
                rfl
              · simp only [pk, nthSp, lexVals]
                go_simp
                exact ⟨Ext.refl _, rfl⟩
              refine lx_ge (.int .i64 (m : Int)) [(2, 119)] 119 (by kernel_rfl) rfl (by kernel_rfl) (by rfl) (fun w1 => ?_) (fun w1 hw1 => ?_) ?_
              · simp only [pk, nthSp, lexVals]
                rfl
              · simp only [pk, nthSp, lexVals]
                go_simp
                exact ⟨Ext.refl _, rfl⟩
              refine lx_ge (.pointer (some ⟨b3, off3 + m * 125, none⟩)) [(1, 121), (0, 122), (3, 119)] 119 (by kernel_rfl) rfl (by kernel_rfl) (by rfl) (fun w1 => ?_) (fun w1 hw1 => ?_) ?_
              · simp only [pk, nthSp, lexVals]
                rfl
              · simp only [pk, nthSp, lexVals]
                exact lu_hidx rfl rfl rfl Hm.out
              refine lx_ge (.agg C) [(0, 123), (4, 119)] 119 (by kernel_rfl) rfl (by kernel_rfl) (by rfl) (fun w1 => ?_) (fun w1 hw1 => ?_) ?_
              · simp only [pk, nthSp, lexVals]
                rfl
              · simp only [pk, nthSp, lexVals]
                rw [← HCe.out]
                exact lu_hmid rfl rfl (HYr.out w1 (HX0.out w1 hw1))
              refine lx_ge (.bool true) [(4, 120), (0, 124), (5, 119)] 119 (by kernel_rfl) rfl (by kernel_rfl) (by rfl) (fun w1 => ?_) (fun w1 hw1 => ?_) ?_
              · simp only [pk, nthSp, lexVals]
                rfl
              · simp only [pk, nthSp, lexVals]
                have HM := Lib.hid (HSm.out w1 (HX0.out w1 hw1))
                clear hw1
                go_simp
                refine HM.out.mono ?_
                rintro e w2 ⟨rfl, hE2⟩
                exact ⟨_, rfl, hE2, rfl⟩
              refine lx_ge (.bool false) [(0, 125), (6, 119)] 119 (by kernel_rfl) rfl (by kernel_rfl) (by rfl) (fun w1 => ?_) (fun w1 hw1 => ?_) ?_
              · simp only [pk, nthSp, lexVals]
                rfl
              · simp only [pk, nthSp, lexVals]
                go_simp
                exact ⟨Ext.refl _, rfl⟩
              refine lx_e (.bool false) [(7, 119), (0, 126)] (by kernel_rfl) rfl (by rfl) (fun w1 hw1 => ?_) ?_
              · simp only [pk, nthSp, lexVals]
                go_simp
                exact ⟨Ext.refl _, rfl⟩
              refine lx_stopA (by rfl) fun w6 hw6 => ?_
              have HE6 := Lib.hid (HE5.out.trans (HX0.out w6 hw6))
              clear hw6 HX0
              simp only [rv, pf, lexVals]
              simp only [Act.put, List.setIfInBounds_toArray, List.set_cons_zero, List.set_cons_succ]
              go_wp2
              go_roundw
              case rel => exact ⟨m + 1, by omega, by go_num, HE6.out⟩
              case measure => simp [intOf]; omega
          have x3 : (i : Int) < (N : Int) := by omega
          have y3 : (0 : Int) ≤ (i : Int) := by omega
          go_wp2
          go_loopw [12] (fun jv wr3 => ∃ j : Nat, j ≤ (lo.getD i htN).1.tn ∧ jv = .int .i64 (j : Int) ∧ GoRows WA wr3 lo ao co) (fun jv _ => (lo.getD i htN).1.tn - (intOf jv).toNat)
          case atStart => exact ⟨0, Nat.zero_le _, rfl, HGo.out⟩
          case round =>
            obtain ⟨j, hj, rfl, hGo⟩ := hrel
            have HGj := Lib.hid hGo
            have hcl : ∃ b2 off2, ao = some ⟨b2, off2, none⟩ ∧ ∀ w1, Ext wr w1 → w1.cell? ⟨b2, off2 + i * 125 + 53, none⟩ = some (.slice (lo.getD i htN).1.ta (lo.getD i htN).1.tn (lo.getD i htN).1.tc) := by
              rcases hGo.own.2 with ⟨h1, h2⟩ | ⟨q, cap, cur, h1, _⟩
              · have := HMM.out; have := HMN.out; omega
              · have hq : ao = some ⟨q, 0, none⟩ := by simp only [Value.slice.injEq] at h1; exact h1.1
                refine ⟨q, 0, hq, fun w1 h9 => ?_⟩
                have h2 := hGo.own.cells (g := q) (by rw [hq]; rfl) (i * 125 + 53) _ (hsC_get lo i 53 (by have := HMM.out; have := HMN.out; omega) (by omega))
                rw [addr_add] at h2
                rw [Ext.cell h9 (World.block_lt_of_cell? _ _ (by rw [show 0 + i * 125 + 53 = 0 + (i * 125 + 53) by omega]; exact h2)), show 0 + i * 125 + 53 = 0 + (i * 125 + 53) by omega]
                exact h2
            obtain ⟨b2, off2, rfl, hc53⟩ := hcl
            have HEa := Lib.hid (hGo.each i (by have := HMM.out; have := HMN.out; omega))
            have HTn := Lib.hid (show (lo.getD i htN).1.tn ≤ 1000000 from HTnl.out _ (by rw [List.getD_eq_getElem?_getD, List.getElem?_eq_getElem (by have := HMM.out; have := HMN.out; omega)]; exact List.getElem_mem _))
            obtain ⟨X, hX⟩ : ∃ X, lo.getD i htN = X := ⟨_, rfl⟩
            rw [hX] at hj hc53 HEa HTn ⊢
            have HC53 := Lib.hid hc53
            have c53 := hc53 wr (Ext.refl _)
            have Hi := Lib.hid hin
            clear hGo hX hc53
            by_cases hjt : j < X.1.tn
            case neg =>
              obtain rfl : j = X.1.tn := by omega
              obtain ⟨tn, htn⟩ : ∃ t, X.1.tn = t := ⟨_, rfl⟩
              rw [htn] at c53
              rw [htn]
              have x6 : ¬ (tn : Int) < (tn : Int) := by omega
              clear htn hj
              go_wp2
              go_roundw
              case rel => exact ⟨i + 1, by omega, by go_num, HGj.out⟩
              case measure => simp [intOf]; omega
            obtain ⟨K, hta, hKl, hTk, hKn⟩ := HEa.out (by omega)
            obtain ⟨⟨z, hz⟩, hfr⟩ := hTk.cell (i := j * 16 + 1) (by omega)
            rw [hta] at c53 HC53
            have HZc := Lib.hid (show ∀ w1, Ext wr w1 → w1.cell? ⟨K, 0 + j * 16 + 1, none⟩ = some (.int .u8 z) from fun w1 h1 => by
              rw [Nat.zero_add, Ext.cell h1 (World.block_lt_of_cell? _ _ hz)]
              exact hz)
            have HTk9 := Lib.hid hTk
            have HKl := Lib.hid hKl
            have HKn := Lib.hid hKn
            obtain ⟨Z, hZ⟩ : ∃ Z, IntKind.u8.wrap (z + 1) = Z := ⟨_, rfl⟩
            have Hj := Lib.hid hjt
            obtain ⟨tn, htn⟩ : ∃ t, X.1.tn = t := ⟨_, rfl⟩
            have HtnE := Lib.hid htn
            have x6 : (j : Int) < (tn : Int) := by omega
            rw [htn] at c53 Hj HC53
            clear hta hKl hTk hKn hz hfr htn
            go_upto_region 26 with (fail)
            clear c53
            have HX0 := Lib.hid (show ∀ x, Ext wr.drew x → Ext wr x from fun x hx => Ext.trans (Ext.refl wr).drew hx)
            refine wp_region_lexT 12 (by kernel_rfl) (by kernel_rfl) ?_
            simp only [List.take_succ_cons, List.take_zero, List.drop_succ_cons, List.drop_zero]
            refine lx_e (.slice (some ⟨b2, off2, none⟩) N co) [] (by kernel_rfl) rfl (by rfl) (fun w1 hw1 => ?_) ?_
            · simp only [pk, lexVals]
              go_simp
              exact ⟨Ext.refl _, rfl⟩
            refine lx_e (.int .i64 (i : Int)) [] (by kernel_rfl) rfl (by rfl) (fun w1 hw1 => ?_) ?_
            · simp only [pk, lexVals]
              go_simp
              exact ⟨Ext.refl _, rfl⟩
            refine lx_e (.pointer (some ⟨b2, off2 + i * 125, none⟩)) [(1, 91), (0, 92)] (by kernel_rfl) rfl (by rfl) (fun w1 hw1 => ?_) ?_
            · simp only [pk, nthSp, lexVals]
              exact lu_hidx rfl rfl rfl Hi.out
            refine lx_e (.pointer (some ⟨b2, off2 + i * 125 + 53, none⟩)) [(0, 93)] (by kernel_rfl) rfl (by rfl) (fun w1 hw1 => ?_) ?_
            · simp only [pk, nthSp, lexVals]
              go_simp
              exact ⟨Ext.refl _, rfl⟩
            refine lx_e (.slice (some ⟨K, 0, none⟩) tn X.1.tc) [(0, 94)] (by kernel_rfl) rfl (by rfl) (fun w1 hw1 => ?_) ?_
            · simp only [pk, nthSp, lexVals]
              have hc := HC53.out w1 (HX0.out w1 hw1)
              clear hw1
              go_simp
              exact ⟨Ext.refl _, rfl⟩
            refine lx_e (.int .i64 (j : Int)) [] (by kernel_rfl) rfl (by rfl) (fun w1 hw1 => ?_) ?_
            · simp only [pk, lexVals]
              go_simp
              exact ⟨Ext.refl _, rfl⟩
            refine lx_e (.pointer (some ⟨K, 0 + j * 16, none⟩)) [(1, 95), (0, 96)] (by kernel_rfl) rfl (by rfl) (fun w1 hw1 => ?_) ?_
            · simp only [pk, nthSp, lexVals]
              exact lu_idx rfl rfl rfl Hj.out
            refine lx_e (.pointer (some ⟨K, 0 + j * 16 + 1, none⟩)) [(0, 97)] (by kernel_rfl) rfl (by rfl) (fun w1 hw1 => ?_) ?_
            · simp only [pk, nthSp, lexVals]
              exact lu_atO rfl rfl rfl (by omega)
            refine lx_e (.int .u8 z) [(0, 98)] (by kernel_rfl) rfl (by rfl) (fun w1 hw1 => ?_) ?_
            · simp only [pk, nthSp, lexVals]
              have hc := (HZc.out w1 (HX0.out w1 hw1))
              rw [Nat.zero_add] at hc
              clear hw1
              go_simp
              exact ⟨Ext.refl _, rfl⟩
            refine lx_e (.int .u8 Z) [(0, 99)] (by kernel_rfl) rfl (by rfl) (fun w1 hw1 => ?_) ?_
            · simp only [pk, nthSp, lexVals]
              go_simp
              exact ⟨Ext.refl _, rfl⟩
            refine lx_e (.pointer (some ⟨K, 0 + j * 16, none⟩)) [(5, 95), (4, 96)] (by kernel_rfl) rfl (by rfl) (fun w1 hw1 => ?_) ?_
            · simp only [pk, nthSp, lexVals]
              exact lu_idx rfl rfl rfl Hj.out
            refine lx_e (.pointer (some ⟨K, 0 + j * 16 + 1, none⟩)) [(0, 101)] (by kernel_rfl) rfl (by rfl) (fun w1 hw1 => ?_) ?_
            · simp only [pk, nthSp, lexVals]
              exact lu_atO rfl rfl rfl (by omega)
            refine lx_stopT (by rfl) (by decide) fun w7 hw7 => ?_
            have HE7 := Lib.hid (HX0.out w7 hw7)
            clear hw7 HX0
            simp only [rv, pf, lexVals, List.drop_succ_cons, List.drop_zero]
            simp only [Act.put, List.setIfInBounds_toArray, List.set_cons_zero, List.set_cons_succ]
            have ht7 := HTk9.out.of_block (HE7.out.block HTk9.out.lt)
            obtain ⟨⟨z7, hz7⟩, hf7⟩ := ht7.cell (i := j * 16 + 1) (by have := Hj.out; have := HtnE.out; omega)
            have c7 : w7.cell? ⟨K, j * 16 + 1, none⟩ = some (.int .u8 z7) := hz7
            have f7 : w7.frozen? ⟨K, j * 16 + 1, none⟩ = false := hf7
            have HG7 := Lib.hid ((HGj.out.more HE7.out).set HKl.out HKn.out (j * 16 + 1) Z)
            clear ht7 hz7 hf7 hZ
            have wJ : IntKind.i64.wrap ((j : Int) + 1) = (j : Int) + 1 := by rw [IntKind.wrap_i64]; have := Hj.out; have := HtnE.out; have := HTn.out; omega
            go_wp2
            go_roundw
            case rel => exact ⟨j + 1, by have := Hj.out; have := HtnE.out; omega, by go_num, HG7.out⟩
            case measure => have := Hj.out; have := HtnE.out; simp [intOf]; omega
      have x1 : (k : Int) < (n : Int) := by omega
      have x2 : (0 : Int) ≤ (k : Int) := by omega
      obtain ⟨b, off, rfl, hr⟩ := (H.out.ext HE.out).range k hlt
      obtain ⟨x, hx⟩ : ∃ x, l.getD k htN = x := ⟨_, rfl⟩
      rw [hx] at hr
      have Hr := Lib.hid hr
      have HX := Lib.hid (show HtAt w x by rw [← hx]; exact H.out.get k hlt)
      have HXn := Lib.hid (show x.1.tn ≤ 20 by rw [← hx]; exact Htn.out k hlt (by omega))
      have hHs := HS.out.hs (by have := HN.out; omega)
      rw [HN.out] at hHs
      have HBe := Lib.hid (behind_any ah N ch lh 3 x wr hHs (by omega) (by omega) (hdKs_ext HK2.out HE.out))
      have HY := Lib.hid (bhd_at (wr := 3) HX.out (show lh.length ≤ 100000 by have := HN.out; omega) (by omega))
      have HYn := Lib.hid (show (bhd lh 3 x).1.tn ≤ 1000000 by have := HXn.out; show x.1.tn ≤ _; omega)
      obtain ⟨y, hy⟩ : ∃ y, bhd lh 3 x = y := ⟨_, rfl⟩
      rw [hy] at HBe HY HYn
      clear hr hx hHs hy HX HXn
      go_wp2_with (refine wpList_load_mid rfl 35 _ rfl b (off + k * 125) rfl (hdL x.1) _ Hr.out Tryd.underlying35 rfl (by rw [hdL_length]; kernel_rfl) ?_; rw [hdL_arr])
      refine HBe.out.mono ?_
      rintro e w4 ⟨rfl, hE⟩
      have HS4 := Lib.hid (HS.out.more hE)
      have Hsz := Lib.hid (hdV_size y.1)
      have Hall := Lib.hid (hdV_one y.1)
      obtain ⟨A, hA⟩ : ∃ A, hdV y.1 = A := ⟨_, rfl⟩
      have HAe := Lib.hid hA
      rw [hA] at Hsz Hall ⊢
      clear hE hA HBe HS Hr HE
      go_upto_region 9 with (refine wpList_store_row rfl 35 _ _ rfl w4.heap.size _ rfl rfl _ _ (heap_new w4 _ _ rfl) (by rw [Hsz.out]; kernel_rfl) (by rw [Hsz.out]; rfl) Hall.out ?_; rw [setRow_new w4 _ _ _ _ rfl])
      obtain ⟨w5, hw5⟩ : ∃ w5, w4.alloc (.cells A 35) = w5 := ⟨_, rfl⟩
      have hE5 : Ext w4 w5 := by rw [← hw5]; exact (Ext.refl w4).alloc _
      obtain ⟨p6, hp⟩ : ∃ p, w4.heap.size = p := ⟨_, rfl⟩
      have hB5 : w5.heap[p6]? = some (.cells A 35 (0, 0)) := by rw [← hw5]; exact heap_new w4 _ _ hp.symm
      refine wp_world (w' := w5) hw5 ?_
      rw [hp]
      have HS5 := Lib.hid (HS4.out.more hE5)
      have HPB6 := Lib.hid hB5
      have HEw := Lib.hid HS5.out.ext
      have HQ0 := Lib.hid (show B ≤ w5.heap.size from HS5.out.hi)
      clear hw5 hE5 hp hB5 HS4
      go_upto_region 10 with (first | (refine wpList_load_rowW rfl 35 _ rfl p6 rfl _ _ _ _ HPB6.out Tryd.underlying35 rfl (by rw [Hsz.out]; kernel_rfl) ?_) | (refine wpList_store_row rfl 35 _ _ rfl w5.heap.size _ rfl rfl _ _ (heap_new w5 _ _ rfl) (by rw [Hsz.out]; kernel_rfl) (by rw [Hsz.out]; rfl) Hall.out ?_; rw [setRow_new w5 _ _ _ _ rfl]))
      obtain ⟨u1, hu1⟩ : ∃ w', w5.alloc (.cells A 35) = w' := ⟨_, rfl⟩
      have hE1 : Ext w5 u1 := by rw [← hu1]; exact (Ext.refl _).alloc _
      obtain ⟨p7, hp⟩ : ∃ p, w5.heap.size = p := ⟨_, rfl⟩
      have hB1 : u1.heap[p7]? = some (.cells A 35 (0, 0)) := by rw [← hu1]; exact heap_new _ _ _ hp.symm
      have hs1 : u1.heap.size = p7 + 1 := by rw [← hu1, ← hp]; simp
      refine wp_world (w' := u1) hu1 ?_
      rw [hp]
      have hr1 : u1.rowIs p7 35 125 (hdC y.1) := rowIs_of (by rw [show rowArr 125 (hdC y.1) = A from HAe.out]; exact hB1)
      have hT1 := (HY.out.ext (HEw.out.trans hE1)).toks
      have hP6 := hE1.keep HPB6.out
      have hMade : (u1.alloc (.cells #[] 31)).ownsRow u1.heap.size 31 16 (.slice (some ⟨u1.heap.size, 0, none⟩) 0 0) 0 [] := World.ownsRow_made u1 #[] 0 (Nat.le_refl _) (by unfold maxLen; omega) rfl
      have hTA := hT1.ext ((Ext.refl u1).alloc (.cells #[] 31))
      have hP6A : (u1.alloc (.cells #[] 31)).heap[p6]? = some (.cells (hdV y.1) 35 (0, 0)) := by rw [HAe.out]; exact ((Ext.refl u1).alloc (.cells #[] 31)).keep hP6
      have c53 := hd_toks hP6A
      have HE1 := Lib.hid hE1
      have HMade := Lib.hid hMade
      have HTA := Lib.hid hTA
      have HR1 := Lib.hid hr1
      have HS1 := Lib.hid hs1
      have HP6b := Lib.hid hP6
      have HPp := Lib.hid hp
      have hSz : u1.heap.size ≤ (u1.alloc (.cells #[] 31)).heap.size := by simp
      have HSz := Lib.hid hSz
      clear hu1 hE1 hp hB1 hs1 hr1 hT1 hP6 hMade hTA hP6A hSz
      go_wp2_with (at_builtin; refine append_tkG rfl _ _ rfl u1.heap.size _ rfl HMade.out y.1.ta y.1.tn y.1.tc y.2 rfl HTA.out HYn.out HSz.out ?_)
      intro v' u2 hown hG
      obtain ⟨qu, hq⟩ : ∃ q, u1.heap.size = q := ⟨_, rfl⟩
      have HQ1 := Lib.hid hq
      rw [hq] at hown hG ⊢
      obtain ⟨r1, c1, rfl⟩ := own_slT hown
      have hE2 : Ext u1 u2 := ((Below.refl _ _).alloc (Nat.le_refl _) _).grown hG (by simp) (fun k hk => by simp [Value.ownBlock] at hk; have := HQ1.out; omega)
      have hr2 := HR1.out.of_block (hE2.block HR1.out.lt)
      have hce := hr2.cell (i := 53) (by omega)
      have hfz := hr2.frozen 53
      have HO2 := Lib.hid hown
      have HE2 := Lib.hid hE2
      have HR2 := Lib.hid hr2
      clear hown hG hE2 hr2 c53 hq
      go_upto_region 11 with (fail)
      obtain ⟨u3, h3⟩ : ∃ w', u2.setCell ⟨p7, 53, none⟩ (.slice r1 y.1.tn c1) = w' := ⟨_, rfl⟩
      have hG3 : u2.grownBy u3 (some p7) := by rw [← h3]; exact grown_setCell (World.grownBy.refl _ _) rfl _
      have hr3 : u3.rowIs p7 35 125 (hdC (reT y r1 c1).1) := by rw [← h3]; exact (HR2.out.set 53 _).congr (hdC_setT y.1 r1 y.1.tn c1)
      refine wp_world (w' := u3) h3 ?_
      have h12 := HE1.out.trans HE2.out
      have hE3 : Ext w5 u3 := h12.grown hG3 (Below.size h12) (fun k e => by have := Option.some.inj e; have := HPp.out; omega)
      have HEap7 := Lib.hid hE3
      have HOp7 := Lib.hid (show u3.ownsRow qu 31 16 (.slice r1 y.1.tn c1) y.1.tn (tkC y.2) from HO2.out.kept hG3 (Or.inr fun e => by have := (HO2.out.lt p7 e).1; have := HS1.out; have := HQ1.out; omega))
      have HRowp7 := Lib.hid (show u3.heap[p7]? = some (.cells (hdV (reT y r1 c1).1) 35 (0, 0)) from rowIs_cells hr3)
      have HLop7 := Lib.hid (show w5.heap.size = p7 ∧ p7 + 1 = qu ∧ qu ≤ u3.heap.size from ⟨HPp.out, by have := HS1.out; have := HQ1.out; omega, by have := HQ1.out; have := Below.size HE2.out; have := hG3.size; omega⟩)
      have HPu6 := Lib.hid (show u3.heap[p6]? = some (.cells A 35 (0, 0)) from hE3.keep HPB6.out)
      have HEw := Lib.hid (HEw.out.trans hE3)
      clear h3 hG3 hr3 h12 hE3 hce hfz HE1 HMade HTA HR1 HS1 HQ1 HP6b HPp HSz HO2 HE2 HR2
      go_upto_region 12 with (first | (refine wpList_load_rowW rfl 35 _ rfl p6 rfl _ _ _ _ HPu6.out Tryd.underlying35 rfl (by rw [Hsz.out]; kernel_rfl) ?_) | (refine wpList_store_row rfl 35 _ _ rfl u3.heap.size _ rfl rfl _ _ (heap_new u3 _ _ rfl) (by rw [Hsz.out]; kernel_rfl) (by rw [Hsz.out]; rfl) Hall.out ?_; rw [setRow_new u3 _ _ _ _ rfl]))
      obtain ⟨v1, hv1⟩ : ∃ w', u3.alloc (.cells A 35) = w' := ⟨_, rfl⟩
      have hE1 : Ext u3 v1 := by rw [← hv1]; exact (Ext.refl _).alloc _
      obtain ⟨p8, hp⟩ : ∃ p, u3.heap.size = p := ⟨_, rfl⟩
      have hB1 : v1.heap[p8]? = some (.cells A 35 (0, 0)) := by rw [← hv1]; exact heap_new _ _ _ hp.symm
      have hs1 : v1.heap.size = p8 + 1 := by rw [← hv1, ← hp]; simp
      refine wp_world (w' := v1) hv1 ?_
      rw [hp]
      have hr1 : v1.rowIs p8 35 125 (hdC y.1) := rowIs_of (by rw [show rowArr 125 (hdC y.1) = A from HAe.out]; exact hB1)
      have hT1 := (HY.out.ext (HEw.out.trans hE1)).toks
      have hP6 := hE1.keep HPu6.out
      have hMade : (v1.alloc (.cells #[] 31)).ownsRow v1.heap.size 31 16 (.slice (some ⟨v1.heap.size, 0, none⟩) 0 0) 0 [] := World.ownsRow_made v1 #[] 0 (Nat.le_refl _) (by unfold maxLen; omega) rfl
      have hTA := hT1.ext ((Ext.refl v1).alloc (.cells #[] 31))
      have hP6A : (v1.alloc (.cells #[] 31)).heap[p6]? = some (.cells (hdV y.1) 35 (0, 0)) := by rw [HAe.out]; exact ((Ext.refl v1).alloc (.cells #[] 31)).keep hP6
      have c53 := hd_toks hP6A
      have HE1 := Lib.hid hE1
      have HMade := Lib.hid hMade
      have HTA := Lib.hid hTA
      have HR1 := Lib.hid hr1
      have HS1 := Lib.hid hs1
      have HP6b := Lib.hid hP6
      have HPp := Lib.hid hp
      have hSz : v1.heap.size ≤ (v1.alloc (.cells #[] 31)).heap.size := by simp
      have HSz := Lib.hid hSz
      clear hv1 hE1 hp hB1 hs1 hr1 hT1 hP6 hMade hTA hP6A hSz
      go_wp2_with (at_builtin; refine append_tkG rfl _ _ rfl v1.heap.size _ rfl HMade.out y.1.ta y.1.tn y.1.tc y.2 rfl HTA.out HYn.out HSz.out ?_)
      intro v' v2 hown hG
      obtain ⟨qv, hq⟩ : ∃ q, v1.heap.size = q := ⟨_, rfl⟩
      have HQ1 := Lib.hid hq
      rw [hq] at hown hG ⊢
      obtain ⟨r2, c2, rfl⟩ := own_slT hown
      have hE2 : Ext v1 v2 := ((Below.refl _ _).alloc (Nat.le_refl _) _).grown hG (by simp) (fun k hk => by simp [Value.ownBlock] at hk; have := HQ1.out; omega)
      have hr2 := HR1.out.of_block (hE2.block HR1.out.lt)
      have hce := hr2.cell (i := 53) (by omega)
      have hfz := hr2.frozen 53
      have HO2 := Lib.hid hown
      have HE2 := Lib.hid hE2
      have HR2 := Lib.hid hr2
      clear hown hG hE2 hr2 c53 hq
      go_upto_region 13 with (fail)
      obtain ⟨v3, h3⟩ : ∃ w', v2.setCell ⟨p8, 53, none⟩ (.slice r2 y.1.tn c2) = w' := ⟨_, rfl⟩
      have hG3 : v2.grownBy v3 (some p8) := by rw [← h3]; exact grown_setCell (World.grownBy.refl _ _) rfl _
      have hr3 : v3.rowIs p8 35 125 (hdC (reT y r2 c2).1) := by rw [← h3]; exact (HR2.out.set 53 _).congr (hdC_setT y.1 r2 y.1.tn c2)
      refine wp_world (w' := v3) h3 ?_
      have h12 := HE1.out.trans HE2.out
      have hE3 : Ext u3 v3 := h12.grown hG3 (Below.size h12) (fun k e => by have := Option.some.inj e; have := HPp.out; omega)
      have HEap8 := Lib.hid hE3
      have HOp8 := Lib.hid (show v3.ownsRow qv 31 16 (.slice r2 y.1.tn c2) y.1.tn (tkC y.2) from HO2.out.kept hG3 (Or.inr fun e => by have := (HO2.out.lt p8 e).1; have := HS1.out; have := HQ1.out; omega))
      have HRowp8 := Lib.hid (show v3.heap[p8]? = some (.cells (hdV (reT y r2 c2).1) 35 (0, 0)) from rowIs_cells hr3)
      have HLop8 := Lib.hid (show u3.heap.size = p8 ∧ p8 + 1 = qv ∧ qv ≤ v3.heap.size from ⟨HPp.out, by have := HS1.out; have := HQ1.out; omega, by have := HQ1.out; have := Below.size HE2.out; have := hG3.size; omega⟩)
      clear h3 hG3 hr3 h12 hE3 hce hfz HE1 HMade HTA HR1 HS1 HQ1 HP6b HPp HSz HO2 HE2 HR2
      have h57 := HEap7.out
      have hSu := Below.size HEap7.out
      have hSv := Below.size HEap8.out
      have HS8 := Lib.hid (HS5.out.more (HEap7.out.trans HEap8.out))
      have HO7 := Lib.hid (own_ext9 HOp7.out HEap8.out)
      have HOr1 := Lib.hid (fun b (e : (Value.slice r1 y.1.tn c1).ownBlock = some b) => show b < qv from by have := (HOp7.out.lt b e).2; have := HLop8.out; omega)
      have HRow7 := Lib.hid (HEap8.out.keep HRowp7.out)
      have HRow8 := Lib.hid HRowp8.out
      have H7 := Lib.hid (reT_at HY.out.ok HY.out.toks.byte HYn.out HO7.out)
      have H8 := Lib.hid (reT_at HY.out.ok HY.out.toks.byte HYn.out HOp8.out)
      have HFr := Lib.hid (fun k (hk : w5.heap.size ≤ k) => HS5.out.fresh hk)
      have l7 := HLop7.out
      have l8 := HLop8.out
      have HL := Lib.hid (show w5.heap.size ≤ p7 ∧ p7 < qu ∧ qu ≤ p8 ∧ p8 < qv ∧ qv ≤ v3.heap.size from ⟨by omega, by omega, by omega, by omega, by omega⟩)
      -- given's tokens' block, or a stand-in
      obtain ⟨K2, hK2⟩ : ∃ K2, w5.heap.size ≤ K2 ∧ K2 < v3.heap.size ∧ K2 ≠ p8 ∧ (0 < y.1.tn → r2 = some ⟨K2, 0, none⟩ ∧ qv ≤ K2) ∧ (0 < y.1.tn → TkRow v3 K2 y.1.tn) := by
        have hl := HL.out
        rcases HOp8.out.2 with ⟨e, e2⟩ | ⟨q, cap, cur, e, e2, e3, _⟩
        · exact ⟨p7, hl.1, by omega, by omega, fun h0 => by omega, fun h0 => by omega⟩
        · have hq := (Array.getElem?_eq_some_iff.1 e3).1
          have he : r2 = some ⟨q, 0, none⟩ := by simp only [Value.slice.injEq] at e; exact e.1
          exact ⟨q, by omega, hq, by omega, fun _ => ⟨he, e2⟩, fun _ => TkRow.of HOp8.out (by rw [he]; rfl)⟩
      have HK2 := Lib.hid (show w5.heap.size ≤ K2 ∧ K2 < v3.heap.size ∧ K2 ≠ p8 ∧ (0 < y.1.tn → r2 = some ⟨K2, 0, none⟩ ∧ qv ≤ K2) from ⟨hK2.1, hK2.2.1, hK2.2.2.1, hK2.2.2.2.1⟩)
      have HTk0 := Lib.hid hK2.2.2.2.2
      have HF8 := Lib.hid (HFr.out K2 hK2.1)
      have HP7f := Lib.hid (HFr.out p7 HL.out.1)
      have HP8f := Lib.hid (HFr.out p8 (by have := HL.out; omega))
      have HAd := Lib.hid (add_any HS8.out.chn (by have := HS8.out.len; have := HN.out; omega) HS8.out.tnc (reT y r2 c2) H8.out (show (reT y r2 c2).1.tn ≤ 1000000 from HYn.out) (fun h0 b off hta => by
        have h1 := (HOp8.out.lt b (by rw [show r2 = some ⟨b, off, none⟩ from hta]; rfl)).1
        have hl := HL.out
        have h2 := HFr.out b (by omega)
        exact ⟨h2.n1, h2.n2⟩) (hdKs_ext HK.out HS8.out.ext) (by have := HwB.out; have := Hg0.out; omega) HS8.out.hi)
      obtain ⟨V, hV⟩ : ∃ V, askV 3 lc (tipF lh) (reT y r2 c2) = V := ⟨_, rfl⟩
      rw [hV] at HAd
      have HszB := Lib.hid (hdV_size (reT y r2 c2).1)
      obtain ⟨A8, hA8⟩ : ∃ A, hdV (reT y r2 c2).1 = A := ⟨_, rfl⟩
      have HA8 := Lib.hid hA8
      have hrow8 := HRow8.out
      rw [hA8] at HAd HszB hrow8
      have HR8 := Lib.hid hrow8
      clear hV hA8 hrow8 h57 hSu hSv l7 l8 hK2 HAe Hall HPB6 HPu6 HEap7 HEap8 HOp7 HRowp7 HRowp8 HS5
      go_wp2_with (refine wpList_load_rowW rfl 35 _ rfl p8 rfl _ _ _ _ HR8.out Tryd.underlying35 rfl (by rw [HszB.out]; kernel_rfl) ?_)
      refine HAd.out.mono ?_
      rintro e w10 ⟨rfl, hno, hyes⟩
      by_cases hV0 : V = 0
      · obtain ⟨a2, c2', ta, tc, had⟩ := hyes hV0
        subst hV0
        have hst := had.step
        have hkp : ∀ q, w5.heap.size ≤ q → q < v3.heap.size → w10.heap[q]? = v3.heap[q]? := fun q h1 h2 => hst.block q h2 (HFr.out q h1).n1 (HFr.out q h1).n2
        have hb7 : w10.heap[p7]? = some (.cells (hdV (reT y r1 c1).1) 35 (0, 0)) := by rw [hkp p7 HL.out.1 (by have := HL.out; omega)]; exact HRow7.out
        have hb8 : w10.heap[p8]? = some (.cells (hdV (reT y r2 c2).1) 35 (0, 0)) := by rw [hkp p8 (by have := HL.out; omega) (by have := HL.out; omega)]; exact HRow8.out
        have hbK : 0 < y.1.tn → TkRow w10 K2 y.1.tn := fun h0 => (HTk0.out h0).of_block (hkp K2 HK2.out.1 HK2.out.2.1)
        have Hsz7 := Lib.hid (hdV_size (reT y r1 c1).1)
        obtain ⟨A7, hA7⟩ : ∃ A, hdV (reT y r1 c1).1 = A := ⟨_, rfl⟩
        have HA7 := Lib.hid hA7
        rw [hA7] at hb7 Hsz7
        have HB7 := Lib.hid hb7
        have HB8 := Lib.hid hb8
        have HBK := Lib.hid hbK
        have Had := Lib.hid had
        have HO11 := Lib.hid (show (w10.alloc (.cells A7 35)).ownsRow B 35 125 (.slice ah N ch) N (hsC lh) from by
          have h1 := own_ext9 (HS8.out.listRow hst) ((Ext.refl w10).alloc (.cells A7 35))
          rw [HN.out] at h1
          exact h1)
        have HQ11 := Lib.hid (show ∀ j, j < 125 → (w10.alloc (.cells A7 35)).cell? ⟨w10.heap.size, j, none⟩ = some (hdC (reT y r1 c1).1 j) from fun j hj => by
          rw [← HA7.out]
          exact row_cell (heap_new w10 _ _ rfl) j hj)
        have HB11 := Lib.hid (show B ≤ (w10.alloc (.cells A7 35)).heap.size by have := hst.size; have := HS8.out.hi; simp; omega)
        clear hno hyes had hst hkp hb7 hb8 hbK hA7 HAd
        go_wp2_with (first | (refine wpList_load_rowW rfl 35 _ rfl p7 rfl _ _ _ _ HB7.out Tryd.underlying35 rfl (by rw [Hsz7.out]; kernel_rfl) ?_) | (refine wp_build_hd1 rfl _ rfl (reT y r1 c1).1 A7 HA7.out rfl ?_) | (at_builtin; refine append_hd rfl _ _ rfl B (.slice ah N ch) N lh rfl HO11.out w10.heap.size 1 (reT y r1 c1) rfl HQ11.out (by omega) HB11.out ?_))
        intro v' w12 hown12 hG12 hwh12
        obtain ⟨a3, c3, rfl⟩ := own_hsl hown12
        have hl1 : (lh ++ [reT y r1 c1]).length = N + 1 := by rw [List.length_append, HN.out]; rfl
        have hE11 : Ext w10 (w10.alloc (.cells A7 35)) := (Ext.refl w10).alloc _
        rw [← HN.out] at hown12 hG12 hwh12
        rw [show w10.heap.size + 1 = (w10.alloc (.cells A7 35)).heap.size by simp] at hwh12
        have hx7 : 0 < (reT y r1 c1).1.tn → ∀ b off, (reT y r1 c1).1.ta = some ⟨b, off, none⟩ → qu ≤ b ∧ b < qv := fun h0 b off hta => by
          have h1 := (HO7.out.lt b (by rw [show r1 = some ⟨b, off, none⟩ from hta]; rfl)).1
          have h2 := (HOr1.out b (by rw [show r1 = some ⟨b, off, none⟩ from hta]; rfl))
          exact ⟨h1, h2⟩
        have HS12 := Lib.hid (HS8.out.put (show (reT y r2 c2).1.tn ≤ 1000000 from HYn.out) H8.out Had.out H7.out (fun h0 b off hta => by
          have h1 := hx7 h0 b off hta
          have hl := HL.out
          have h2 := HFr.out b (by omega)
          exact ⟨h2.n1, h2.n2, h2.n3⟩) ((reT_eq y r2 c2).trans (reT_eq y r1 c1).symm) hE11 hown12 hG12 hwh12)
        have HF12 := Lib.hid (HF8.out.put Had.out HK2.out.2.1 hE11 (z := reT y r1 c1) (fun h0 b off hta => by
          have h1 := hx7 h0 b off hta
          have h2 := HK2.out.2.2.2 h0
          omega) hwh12)
        have hkq : ∀ q, w5.heap.size ≤ q → q < w10.heap.size → w12.heap[q]? = w10.heap[q]? := fun q h1 h2 => by
          rw [hG12.block q (by simp; omega) (HFr.out q h1).n3]
          exact hE11.block h2
        have HRow8 := Lib.hid (show w12.heap[p8]? = some (.cells (hdV (reT y r2 c2).1) 35 (0, 0)) by
          rw [hkq p8 (by have := HL.out; omega) (Array.getElem?_eq_some_iff.1 HB8.out).1]
          exact HB8.out)
        have HTk := Lib.hid (show 0 < y.1.tn → TkRow w12 K2 y.1.tn from fun h0 => (HBK.out h0).of_block (hkq K2 HK2.out.1 (HBK.out h0).lt))
        have HHl := Lib.hid hl1
        clear hown12 hG12 hwh12 hl1 hE11 hx7 hkq HO11 HQ11 HB11 HB7 HB8 HBK Had HF8 HS8
        have HSx := Lib.hid HS12.out
        have HFx := Lib.hid HF12.out
        clear HS12 HF12
        go_wp2
        go_loopw [9] (fun kv wr2 => ∃ j : Nat, j ≤ y.1.tn ∧ kv = .int .i64 (j : Int) ∧ w12.grownBy wr2 (some K2) ∧ (0 < y.1.tn → TkRow wr2 K2 y.1.tn)) (fun kv _ => y.1.tn - (intOf kv).toNat)
        case atStart => exact ⟨0, Nat.zero_le _, rfl, World.grownBy.refl _ _, HTk.out⟩
        case round =>
          obtain ⟨j, hj, rfl, hG, hTk⟩ := hrel
          have hrp : wr.heap[p8]? = some (.cells (hdV (reT y r2 c2).1) 35 (0, 0)) := by
            rw [hG.block p8 (Array.getElem?_eq_some_iff.1 HRow8.out).1 (fun e => HK2.out.2.2.1 (Option.some.inj e).symm)]
            exact HRow8.out
          have c53 : wr.cell? ⟨p8, 53, none⟩ = some (.slice r2 y.1.tn c2) := hd_toks hrp
          have HRp8 := Lib.hid hrp
          have HG := Lib.hid hG
          have HTj := Lib.hid hTk
          have HY20 := Lib.hid HYn.out
          by_cases hlj : j < y.1.tn
          case neg =>
            obtain rfl : j = y.1.tn := by omega
            obtain ⟨tn, htn⟩ : ∃ t, y.1.tn = t := ⟨_, rfl⟩
            rw [htn] at c53
            rw [htn]
            have x3 : ¬ (tn : Int) < (tn : Int) := by omega
            clear hG hTk hrp htn
            go_wp2
            have HSo := Lib.hid (HSx.out.other HG.out HFx.out (by have := HK2.out.1; have := HwB.out; have := HQ0.out; omega))
            go_roundw
            case rel => exact ⟨k + 1, lc ++ [reT (reT y r2 c2) ta tc], lh ++ [reT y r1 c1], a2, c2', a3, c3, by omega, by go_num, by rw [HHl.out], by have := HHl.out; omega, HSo.out⟩
            case measure => simp [intOf]; omega
          obtain ⟨hr2', htk0⟩ := HK2.out.2.2.2 (by omega)
          subst hr2'
          have htk := hTk (by omega)
          obtain ⟨⟨z, hz⟩, hfr⟩ := htk.cell (i := j * 16) (by omega)
          have HZc := Lib.hid (show ∀ w1, Ext wr w1 → w1.cell? ⟨K2, 0 + j * 16 + 0, none⟩ = some (.int .u8 z) from fun w1 h1 => by
            rw [Nat.add_zero, Nat.zero_add, Ext.cell h1 (World.block_lt_of_cell? _ _ hz)]
            exact hz)
          have HTk9 := Lib.hid htk
          obtain ⟨Z, hZ⟩ : ∃ Z, IntKind.u8.wrap (z + 1) = Z := ⟨_, rfl⟩
          have Hj := Lib.hid hlj
          obtain ⟨tn, htn⟩ : ∃ t, y.1.tn = t := ⟨_, rfl⟩
          have HtnE := Lib.hid htn
          have x3 : (j : Int) < (tn : Int) := by omega
          rw [htn] at c53
          clear hG hTk hrp htk hz hfr htk0
          rw [htn] at Hj
          clear htn
          go_upto_region 18 with (fail)
          clear c53
          have HX0 := Lib.hid (show ∀ x, Ext wr.drew x → Ext wr x from fun x hx => Ext.trans (Ext.refl wr).drew hx)
          refine wp_region_lexT 9 (by kernel_rfl) (by kernel_rfl) ?_
          simp only [List.take_succ_cons, List.take_zero, List.drop_succ_cons, List.drop_zero]
          refine lx_e (.pointer (some ⟨p8, 53, none⟩)) [] (by kernel_rfl) rfl (by rfl) (fun w1 hw1 => ?_) ?_
          · simp only [pk, lexVals]
            go_simp
            exact ⟨Ext.refl _, rfl⟩
          refine lx_e (.slice (some ⟨K2, 0, none⟩) tn c2) [(0, 64)] (by kernel_rfl) rfl (by rfl) (fun w1 hw1 => ?_) ?_
          · simp only [pk, nthSp, lexVals]
            have hc : w1.cell? ⟨p8, 53, none⟩ = some (.slice (some ⟨K2, 0, none⟩) y.1.tn c2) := hd_toks ((HX0.out w1 hw1).keep HRp8.out)
            rw [HtnE.out] at hc
            clear hw1
            go_simp
            exact ⟨Ext.refl _, rfl⟩
          refine lx_e (.int .i64 (j : Int)) [] (by kernel_rfl) rfl (by rfl) (fun w1 hw1 => ?_) ?_
          · simp only [pk, lexVals]
            go_simp
            exact ⟨Ext.refl _, rfl⟩
          refine lx_e (.pointer (some ⟨K2, 0 + j * 16, none⟩)) [(1, 65), (0, 66)] (by kernel_rfl) rfl (by rfl) (fun w1 hw1 => ?_) ?_
          · simp only [pk, nthSp, lexVals]
            exact lu_idx rfl rfl rfl Hj.out
          refine lx_e (.pointer (some ⟨K2, 0 + j * 16 + 0, none⟩)) [(0, 67)] (by kernel_rfl) rfl (by rfl) (fun w1 hw1 => ?_) ?_
          · simp only [pk, nthSp, lexVals]
            exact lu_atO rfl rfl rfl (by omega)
          refine lx_e (.int .u8 z) [(0, 68)] (by kernel_rfl) rfl (by rfl) (fun w1 hw1 => ?_) ?_
          · simp only [pk, nthSp, lexVals]
            have hc := (HZc.out w1 (HX0.out w1 hw1))
            rw [Nat.add_zero, Nat.zero_add] at hc
            clear hw1
            go_simp
            exact ⟨Ext.refl _, rfl⟩
          refine lx_e (.int .u8 Z) [(0, 69)] (by kernel_rfl) rfl (by rfl) (fun w1 hw1 => ?_) ?_
          · simp only [pk, nthSp, lexVals]
            go_simp
            exact ⟨Ext.refl _, rfl⟩
          refine lx_e (.pointer (some ⟨K2, 0 + j * 16, none⟩)) [(5, 65), (4, 66)] (by kernel_rfl) rfl (by rfl) (fun w1 hw1 => ?_) ?_
          · simp only [pk, nthSp, lexVals]
            exact lu_idx rfl rfl rfl Hj.out
          refine lx_e (.pointer (some ⟨K2, 0 + j * 16 + 0, none⟩)) [(0, 71)] (by kernel_rfl) rfl (by rfl) (fun w1 hw1 => ?_) ?_
          · simp only [pk, nthSp, lexVals]
            exact lu_atO rfl rfl rfl (by omega)
          refine lx_stopT (by rfl) (by decide) fun w7 hw7 => ?_
          have HE7 := Lib.hid (HX0.out w7 hw7)
          clear hw7 HX0
          simp only [rv, pf, lexVals, List.drop_succ_cons, List.drop_zero]
          simp only [Act.put, List.setIfInBounds_toArray, List.set_cons_zero, List.set_cons_succ]
          have ht7 := HTk9.out.of_block (HE7.out.block HTk9.out.lt)
          obtain ⟨⟨z7, hz7⟩, hf7⟩ := ht7.cell (i := j * 16) (by have := Hj.out; have := HtnE.out; omega)
          have c7 : w7.cell? ⟨K2, j * 16, none⟩ = some (.int .u8 z7) := hz7
          have f7 : w7.frozen? ⟨K2, j * 16, none⟩ = false := hf7
          have HT7 := Lib.hid ht7
          have HG7 := Lib.hid (grown_trans HG.out (grown_ext HE7.out _))
          clear ht7 hz7 hf7 hZ
          have wJ : IntKind.i64.wrap ((j : Int) + 1) = (j : Int) + 1 := by rw [IntKind.wrap_i64]; have := Hj.out; have := HtnE.out; have := HY20.out; omega
          go_wp2
          go_roundw
          case rel => exact ⟨j + 1, by have := Hj.out; have := HtnE.out; omega, by go_num, grown_setCell HG7.out rfl _, fun _ => HT7.out.set _ _⟩
          case measure => have := Hj.out; have := HtnE.out; simp [intOf]; omega
      · have hE10 := hno hV0
        have HS10 := Lib.hid (HS8.out.more hE10)
        have HRow8 := Lib.hid (hE10.keep HRow8.out)
        have HTk := Lib.hid (show 0 < y.1.tn → TkRow w10 K2 y.1.tn from fun h0 => (HTk0.out h0).of_block (hE10.block HK2.out.2.1))
        have hV1 : (V == 0) = false := beq_eq_false_iff_ne.2 hV0
        have hV2 : (V != 0) = true := bne_iff_ne.2 hV0
        have HF10 := Lib.hid HF8.out
        clear hno hyes HAd HS8 hE10 HF8
        have HSx := Lib.hid HS10.out
        have HFx := Lib.hid HF10.out
        clear HS10 HF10
        go_wp2
        go_loopw [9] (fun kv wr2 => ∃ j : Nat, j ≤ y.1.tn ∧ kv = .int .i64 (j : Int) ∧ w10.grownBy wr2 (some K2) ∧ (0 < y.1.tn → TkRow wr2 K2 y.1.tn)) (fun kv _ => y.1.tn - (intOf kv).toNat)
        case atStart => exact ⟨0, Nat.zero_le _, rfl, World.grownBy.refl _ _, HTk.out⟩
        case round =>
          obtain ⟨j, hj, rfl, hG, hTk⟩ := hrel
          have hrp : wr.heap[p8]? = some (.cells (hdV (reT y r2 c2).1) 35 (0, 0)) := by
            rw [hG.block p8 (Array.getElem?_eq_some_iff.1 HRow8.out).1 (fun e => HK2.out.2.2.1 (Option.some.inj e).symm)]
            exact HRow8.out
          have c53 : wr.cell? ⟨p8, 53, none⟩ = some (.slice r2 y.1.tn c2) := hd_toks hrp
          have HRp8 := Lib.hid hrp
          have HG := Lib.hid hG
          have HTj := Lib.hid hTk
          have HY20 := Lib.hid HYn.out
          by_cases hlj : j < y.1.tn
          case neg =>
            obtain rfl : j = y.1.tn := by omega
            obtain ⟨tn, htn⟩ : ∃ t, y.1.tn = t := ⟨_, rfl⟩
            rw [htn] at c53
            rw [htn]
            have x3 : ¬ (tn : Int) < (tn : Int) := by omega
            clear hG hTk hrp htn
            go_wp2
            have HSo := Lib.hid (HSx.out.other HG.out HFx.out (by have := HK2.out.1; have := HwB.out; have := HQ0.out; omega))
            go_roundw
            case rel => exact ⟨k + 1, lc, lh, ac, cc, ah, ch, by omega, by go_num, by rw [HN.out], by have := HN.out; omega, HSo.out⟩
            case measure => simp [intOf]; omega
          obtain ⟨hr2', htk0⟩ := HK2.out.2.2.2 (by omega)
          subst hr2'
          have htk := hTk (by omega)
          obtain ⟨⟨z, hz⟩, hfr⟩ := htk.cell (i := j * 16) (by omega)
          have HZc := Lib.hid (show ∀ w1, Ext wr w1 → w1.cell? ⟨K2, 0 + j * 16 + 0, none⟩ = some (.int .u8 z) from fun w1 h1 => by
            rw [Nat.add_zero, Nat.zero_add, Ext.cell h1 (World.block_lt_of_cell? _ _ hz)]
            exact hz)
          have HTk9 := Lib.hid htk
          obtain ⟨Z, hZ⟩ : ∃ Z, IntKind.u8.wrap (z + 1) = Z := ⟨_, rfl⟩
          have Hj := Lib.hid hlj
          obtain ⟨tn, htn⟩ : ∃ t, y.1.tn = t := ⟨_, rfl⟩
          have HtnE := Lib.hid htn
          have x3 : (j : Int) < (tn : Int) := by omega
          rw [htn] at c53
          clear hG hTk hrp htk hz hfr htk0
          rw [htn] at Hj
          clear htn
          go_upto_region 18 with (fail)
          clear c53
          have HX0 := Lib.hid (show ∀ x, Ext wr.drew x → Ext wr x from fun x hx => Ext.trans (Ext.refl wr).drew hx)
          refine wp_region_lexT 9 (by kernel_rfl) (by kernel_rfl) ?_
          simp only [List.take_succ_cons, List.take_zero, List.drop_succ_cons, List.drop_zero]
          refine lx_e (.pointer (some ⟨p8, 53, none⟩)) [] (by kernel_rfl) rfl (by rfl) (fun w1 hw1 => ?_) ?_
          · simp only [pk, lexVals]
            go_simp
            exact ⟨Ext.refl _, rfl⟩
          refine lx_e (.slice (some ⟨K2, 0, none⟩) tn c2) [(0, 64)] (by kernel_rfl) rfl (by rfl) (fun w1 hw1 => ?_) ?_
          · simp only [pk, nthSp, lexVals]
            have hc : w1.cell? ⟨p8, 53, none⟩ = some (.slice (some ⟨K2, 0, none⟩) y.1.tn c2) := hd_toks ((HX0.out w1 hw1).keep HRp8.out)
            rw [HtnE.out] at hc
            clear hw1
            go_simp
            exact ⟨Ext.refl _, rfl⟩
          refine lx_e (.int .i64 (j : Int)) [] (by kernel_rfl) rfl (by rfl) (fun w1 hw1 => ?_) ?_
          · simp only [pk, lexVals]
            go_simp
            exact ⟨Ext.refl _, rfl⟩
          refine lx_e (.pointer (some ⟨K2, 0 + j * 16, none⟩)) [(1, 65), (0, 66)] (by kernel_rfl) rfl (by rfl) (fun w1 hw1 => ?_) ?_
          · simp only [pk, nthSp, lexVals]
            exact lu_idx rfl rfl rfl Hj.out
          refine lx_e (.pointer (some ⟨K2, 0 + j * 16 + 0, none⟩)) [(0, 67)] (by kernel_rfl) rfl (by rfl) (fun w1 hw1 => ?_) ?_
          · simp only [pk, nthSp, lexVals]
            exact lu_atO rfl rfl rfl (by omega)
          refine lx_e (.int .u8 z) [(0, 68)] (by kernel_rfl) rfl (by rfl) (fun w1 hw1 => ?_) ?_
          · simp only [pk, nthSp, lexVals]
            have hc := (HZc.out w1 (HX0.out w1 hw1))
            rw [Nat.add_zero, Nat.zero_add] at hc
            clear hw1
            go_simp
            exact ⟨Ext.refl _, rfl⟩
          refine lx_e (.int .u8 Z) [(0, 69)] (by kernel_rfl) rfl (by rfl) (fun w1 hw1 => ?_) ?_
          · simp only [pk, nthSp, lexVals]
            go_simp
            exact ⟨Ext.refl _, rfl⟩
          refine lx_e (.pointer (some ⟨K2, 0 + j * 16, none⟩)) [(5, 65), (4, 66)] (by kernel_rfl) rfl (by rfl) (fun w1 hw1 => ?_) ?_
          · simp only [pk, nthSp, lexVals]
            exact lu_idx rfl rfl rfl Hj.out
          refine lx_e (.pointer (some ⟨K2, 0 + j * 16 + 0, none⟩)) [(0, 71)] (by kernel_rfl) rfl (by rfl) (fun w1 hw1 => ?_) ?_
          · simp only [pk, nthSp, lexVals]
            exact lu_atO rfl rfl rfl (by omega)
          refine lx_stopT (by rfl) (by decide) fun w7 hw7 => ?_
          have HE7 := Lib.hid (HX0.out w7 hw7)
          clear hw7 HX0
          simp only [rv, pf, lexVals, List.drop_succ_cons, List.drop_zero]
          simp only [Act.put, List.setIfInBounds_toArray, List.set_cons_zero, List.set_cons_succ]
          have ht7 := HTk9.out.of_block (HE7.out.block HTk9.out.lt)
          obtain ⟨⟨z7, hz7⟩, hf7⟩ := ht7.cell (i := j * 16) (by have := Hj.out; have := HtnE.out; omega)
          have c7 : w7.cell? ⟨K2, j * 16, none⟩ = some (.int .u8 z7) := hz7
          have f7 : w7.frozen? ⟨K2, j * 16, none⟩ = false := hf7
          have HT7 := Lib.hid ht7
          have HG7 := Lib.hid (grown_trans HG.out (grown_ext HE7.out _))
          clear ht7 hz7 hf7 hZ
          have wJ : IntKind.i64.wrap ((j : Int) + 1) = (j : Int) + 1 := by rw [IntKind.wrap_i64]; have := Hj.out; have := HtnE.out; have := HY20.out; omega
          go_wp2
          go_roundw
          case rel => exact ⟨j + 1, by have := Hj.out; have := HtnE.out; omega, by go_num, grown_setCell HG7.out rfl _, fun _ => HT7.out.set _ _⟩
          case measure => have := Hj.out; have := HtnE.out; simp [intOf]; omega

end Go.Proofs.YthdgnahokmjkpaaDoor
