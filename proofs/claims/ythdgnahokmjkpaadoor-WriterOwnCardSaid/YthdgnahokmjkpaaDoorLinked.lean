/-
  The walks of writer.Linked and jalousieref13.Linked. Asked: the tables lie as the text lays them.
-/
import Derived.Test.YthdgnahokmjkpaaDoorWrS
namespace Go.Proofs.YthdgnahokmjkpaaDoor
open Go.ChangeShapes Go.WideShapes Go.ChangeAt Go.RowKit

/-- Whether the m-th header is formed and stands behind the one ahead. -/
def lkJ (l : List HT) (m : Nat) : Bool := hdB (l.getD m htN).1 (l.getD m htN).2 && (decide (m = 0) || (((l.getD m htN).1.writer == (l.getD (m - 1) htN).1.writer) && (((l.getD m htN).1.seq == IntKind.u64.wrap ((l.getD (m - 1) htN).1.seq + 1)) && arrB 32 (l.getD m htN).1.prev (shaF (bytesL (l.getD (m - 1) htN).1 (l.getD (m - 1) htN).2)))))
def lkFrom (l : List HT) (n m : Nat) : Bool := (List.range n).all fun i => decide (i < m) || lkJ l i
theorem lkFrom_iff (l : List HT) (n m : Nat) : lkFrom l n m = true ↔ ∀ i, i < n → m ≤ i → lkJ l i = true := by
  unfold lkFrom
  rw [List.all_eq_true]
  constructor
  · intro q i h1 h2
    have := q i (List.mem_range.2 h1)
    rw [decide_eq_false (by omega)] at this
    exact this
  · intro q i hi
    by_cases h : i < m
    · rw [decide_eq_true h]; rfl
    · rw [q i (List.mem_range.1 hi) (by omega)]; simp
theorem lkFrom_step (l : List HT) (n m : Nat) (h : m < n) : lkFrom l n m = (lkJ l m && lkFrom l n (m + 1)) := by
  rw [Bool.eq_iff_iff, Bool.and_eq_true, lkFrom_iff, lkFrom_iff]
  constructor
  · exact fun q => ⟨q m h (Nat.le_refl _), fun i h1 h2 => q i h1 (by omega)⟩
  · rintro ⟨q1, q2⟩ i h1 h2
    by_cases hi : i = m
    · subst hi; exact q1
    · exact q2 i h1 (by omega)
theorem lkFrom_end (l : List HT) (n : Nat) : lkFrom l n n = true := (lkFrom_iff l n n).2 (fun i h1 h2 => by omega)

set_option maxRecDepth 100000 in
theorem size_hd (w : World) : (sizeOf 35).run Tryd.prog w = .ok 125 w := by kernel_rfl
/-- A header's place in a slice. -/
theorem lu_hidx {w : World} {o : Oper} {ev : Operand → Value} {x y : Operand} {b off n c k : Nat} (ho : o.op = .indexAddr 22 x y) (hx : ev x = .slice (some ⟨b, off, none⟩) n c) (hy : ev y = .int .i64 (k : Int)) (hk : k < n) :
    lexUpon Tryd.prog w (.ex (.pointer (some ⟨b, off + k * 125, none⟩))) ((execOp ev o).run Tryd.prog w) := by
  have hr : (Instr.indexAt 22 (.slice (some ⟨b, off, none⟩) n c) (.int .i64 (k : Int))).run Tryd.prog w = .ok (.pointer (some ⟨b, off + k * 125, none⟩)) w := by
    have hb : (0 : Int) ≤ (k : Int) ∧ (k : Int) < (n : Int) := by omega
    simp only [Instr.indexAt, asIntOf, Sem.run_bind, Sem.run_pure, Result.andThen_ok, run_underlying Tryd.underlying22, hb, and_self, if_true, size_hd, Int.toNat_natCast, add_none]
  simp only [execOp, ho, hx, hy, Sem.run_bind, hr, Result.andThen_ok, Sem.run_pure]
  exact ⟨Ext.refl _, rfl⟩
theorem info_hd125 : (Tryd.prog.info? 35).map (·.size) = some 125 := by kernel_rfl
theorem lu_hmid {w : World} {o : Oper} {ev : Operand → Value} {x : Operand} {b off : Nat} {h : Hd} (ho : o.op = .load 35 x) (hx : ev x = .pointer (some ⟨b, off, none⟩)) (hr : w.rangeAt b off (hdL h)) :
    lexUpon Tryd.prog w (.ex (.agg (hdV h))) ((execOp ev o).run Tryd.prog w) := by
  simp only [execOp, ho, hx, Instr.loadAt, Instr.sureAddr, Sem.run_bind, Sem.run_pure, Result.andThen_ok, run_loadVar_mid w b off 35 (hdL h) _ hr Tryd.underlying35 rfl (by rw [hdL_length]; exact info_hd125)]
  exact ⟨Ext.refl _, rfl⟩
theorem hd_mid_prev {w : World} {b off : Nat} {h : Hd} (hc : ∀ j, j < 125 → w.cell? ⟨b, off + j, none⟩ = some (hdC h j)) (j : Nat) (hj : j < 32) : w.cell? ⟨b, off + 2 + j, none⟩ = some (.int .u8 (h.prev j)) := by
  rw [Nat.add_assoc, hc (2 + j) (by omega)]
  unfold hdC
  rw [if_neg (by omega), if_neg (by omega), if_pos (by omega), show 2 + j - 2 = j by omega]

set_option maxHeartbeats 8000000 in
set_option maxRecDepth 100000 in
theorem linked_any (a : Option Addr) (n c : Nat) (l : List HT) (w : World) (h : HsAt w a n c l) (hk : KsAt 1 w) :
    Calls Tryd.prog 24 #[.slice a n c] w fun e w' => e = .returned (.bool (lkFrom l n 0)) ∧ Ext w w' := by
  have hsm := h.small
  have hl := h.len
  have H := Lib.hid h
  have HK := Lib.hid hk
  have kne := neq_h
  have Hst := Lib.hid (fun k hk => lkFrom_step l n k hk)
  have Hen := Lib.hid (lkFrom_end l n)
  obtain ⟨F, hF⟩ : ∃ F, lkFrom l n = F := ⟨_, rfl⟩
  rw [hF] at Hst Hen ⊢
  obtain ⟨R, hR⟩ : ∃ R, F 0 = R := ⟨_, rfl⟩
  have H0 := Lib.hid hR
  rw [hR]
  clear h hk hF hR hl
  go_enter Tryd.func24, Tryd.ntmps24
  go_wp2
  go_loopw [7] (fun i wr => ∃ m : Nat, m ≤ n ∧ i = .int .i64 (m : Int) ∧ F m = R ∧ Ext w wr) (fun i _ => n - (intOf i).toNat)
  case atStart => exact ⟨0, Nat.zero_le _, rfl, H0.out, Ext.refl _⟩
  case round =>
    obtain ⟨m, hm, rfl, hr, hE⟩ := hrel
    have HE := Lib.hid hE
    by_cases hlt : m < n
    case neg =>
      obtain rfl : m = n := by omega
      have x1 : ¬ (m : Int) < (m : Int) := by omega
      have hR : R = true := by rw [← hr]; exact Hen.out
      clear hE
      go_wp2
      go_ret
      exact ⟨by first | rfl | (rw [hR]; rfl), HE.out⟩
    have x1 : (m : Int) < (n : Int) := by omega
    have x2 : (0 : Int) ≤ (m : Int) := by omega
    have hs := Hst.out m hlt
    rw [hr] at hs
    obtain ⟨b, off, rfl, hcell⟩ := H.out.at_ (by omega)
    obtain ⟨x, hx⟩ : ∃ x, l.getD m htN = x := ⟨_, rfl⟩
    have HXt := Lib.hid (show HtAt w x by rw [← hx]; exact H.out.get m hlt)
    have HXc := Lib.hid (show ∀ w1, Ext w w1 → ∀ j, j < 125 → w1.cell? ⟨b, off + m * 125 + j, none⟩ = some (hdC x.1 j) from fun w1 h1 j hj => by
      have h2 := hcell m hlt j hj
      rw [hx] at h2
      rw [Ext.cell h1 (World.block_lt_of_cell? w _ h2)]
      exact h2)
    have HFo := Lib.hid (fun w9 (h9 : Ext w w9) => formedHd_any x.1 x.2 w9 HXt.out.ok (HXt.out.toks.ext h9))
    unfold lkJ at hs
    rw [hx] at hs
    have Hr := Lib.hid (range_hd (HXc.out wr hE))
    obtain ⟨Fm, hFm⟩ : ∃ f, hdB x.1 x.2 = f := ⟨_, rfl⟩
    rw [hFm] at hs HFo
    obtain ⟨AX, hAX⟩ : ∃ AX, hdV x.1 = AX := ⟨_, rfl⟩
    have HAX := Lib.hid hAX
    have Hsz := Lib.hid (hdV_size x.1)
    have Hall := Lib.hid (hdV_one x.1)
    rw [hAX] at HFo Hsz Hall
    have hdl : (hdL x.1).toArray = AX := by rw [hdL_arr, hAX]
    have Hdl := Lib.hid hdl
    clear hx hFm hAX hdl hr
    clear hE
    go_upto_region 4 with (first | (refine wpList_load_mid rfl 35 _ rfl b (off + m * 125) rfl (hdL x.1) _ Hr.out Tryd.underlying35 rfl (by rw [hdL_length]; kernel_rfl) ?_; rw [Hdl.out]) | (refine wpList_store_row rfl 35 _ _ rfl wr.heap.size _ rfl rfl _ _ (heap_new wr _ _ rfl) (by rw [Hsz.out]; kernel_rfl) (by rw [Hsz.out]; rfl) Hall.out ?_; rw [setRow_new wr _ _ _ _ rfl]))
    obtain ⟨w3, hw3⟩ : ∃ w3, wr.alloc (.cells AX 35) = w3 := ⟨_, rfl⟩
    have hE3 : Ext wr w3 := by rw [← hw3]; exact (Ext.refl wr).alloc _
    obtain ⟨p, hp⟩ : ∃ p, wr.heap.size = p := ⟨_, rfl⟩
    have hB3 : w3.heap[p]? = some (.cells AX 35 (0, 0)) := by rw [← hw3]; exact heap_new wr _ _ hp.symm
    refine wp_world (w' := w3) hw3 ?_
    rw [hp]
    have HE3 := Lib.hid (HE.out.trans hE3)
    have HPB := Lib.hid hB3
    clear hw3 hE3 hp hB3
    go_wp2_with (refine wpList_load_rowW rfl 35 _ rfl p rfl _ _ _ _ HPB.out Tryd.underlying35 rfl (by rw [Hsz.out]; kernel_rfl) ?_)
    refine (HFo.out w3 HE3.out).mono ?_
    rintro e w4 ⟨rfl, hE⟩
    have HE4 := Lib.hid (HE3.out.trans hE)
    have HPB := Lib.hid (hE.keep HPB.out)
    clear hE
    cases Fm with
    | false =>
      have hR : R = false := by rw [hs]; rfl
      clear hs
      go_wp2
      go_ret
      exact ⟨by first | rfl | (rw [hR]; rfl), HE4.out⟩
    | true =>
    rw [Bool.true_and] at hs
    by_cases hz : m = 0
    · have HR := Lib.hid (show R = F (m + 1) by rw [hs, decide_eq_true hz]; simp)
      have x3 : ¬ (0 : Int) < (m : Int) := by omega
      have x4 : ¬ 0 < m := by omega
      have x5 : decide (0 < m) = false := decide_eq_false x4
      clear hs
      go_upto_region 6 with (fail)
      have HX0 := Lib.hid (show ∀ x, Ext w4.drew x → Ext w4 x from fun x hx => Ext.trans (Ext.refl w4).drew hx)
      have HX1 := Lib.hid (show ∀ x, Ext w4.drew x → Ext w x from fun x hx => HE4.out.trans (HX0.out x hx))
      refine wp_region_lexA (by kernel_rfl) (by kernel_rfl) ?_
      refine lx_e (.int .i64 (m : Int)) [] (by kernel_rfl) rfl (by rfl) (fun w1 hw1 => ?_) ?_
      · simp only [pk, lexVals]
        go_simp
        exact ⟨Ext.refl _, rfl⟩
      refine lx_e (.bool false) [(0, 15)] (by kernel_rfl) rfl (by rfl) (fun w1 hw1 => ?_) ?_
      · simp only [pk, nthSp, lexVals]
        go_simp
        exact ⟨Ext.refl _, rfl⟩
      refine lx_e (.bool false) [(0, 16)] (by kernel_rfl) rfl (by rfl) (fun w1 hw1 => ?_) ?_
      · simp only [pk, nthSp, lexVals]
        go_simp
        exact ⟨Ext.refl _, rfl⟩
      refine lx_no [(0, 17)] 17 (by kernel_rfl) rfl (by kernel_rfl) (by rfl) (fun w1 => ?_) ?_
      · simp only [pk, nthSp, lexVals]
        first | (go_simp; done) | (go_simp; exact fun h => by cases h)
      refine lx_no [(0, 18), (1, 17)] 17 (by kernel_rfl) rfl (by kernel_rfl) (by rfl) (fun w1 => ?_) ?_
      · simp only [pk, nthSp, lexVals]
        first | (go_simp; done) | (go_simp; exact fun h => by cases h)
      refine lx_no [(2, 17)] 17 (by kernel_rfl) rfl (by kernel_rfl) (by rfl) (fun w1 => ?_) ?_
      · simp only [pk, nthSp, lexVals]
        first | (go_simp; done) | (go_simp; exact fun h => by cases h)
      refine lx_no [(3, 17)] 17 (by kernel_rfl) rfl (by kernel_rfl) (by rfl) (fun w1 => ?_) ?_
      · simp only [pk, nthSp, lexVals]
        first | (go_simp; done) | (go_simp; exact fun h => by cases h)
      refine lx_no [(0, 21), (4, 17)] 17 (by kernel_rfl) rfl (by kernel_rfl) (by rfl) (fun w1 => ?_) ?_
      · simp only [pk, nthSp, lexVals]
        first | (go_simp; done) | (go_simp; exact fun h => by cases h)
      refine lx_no [(2, 20), (0, 22), (5, 17)] 17 (by kernel_rfl) rfl (by kernel_rfl) (by rfl) (fun w1 => ?_) ?_
      · simp only [pk, nthSp, lexVals]
        first | (go_simp; done) | (go_simp; exact fun h => by cases h)
      refine lx_no [(0, 23), (6, 17)] 17 (by kernel_rfl) rfl (by kernel_rfl) (by rfl) (fun w1 => ?_) ?_
      · simp only [pk, nthSp, lexVals]
        first | (go_simp; done) | (go_simp; exact fun h => by cases h)
      refine lx_no [(0, 24), (7, 17)] 17 (by kernel_rfl) rfl (by kernel_rfl) (by rfl) (fun w1 => ?_) ?_
      · simp only [pk, nthSp, lexVals]
        first | (go_simp; done) | (go_simp; exact fun h => by cases h)
      refine lx_no [(6, 19), (0, 25), (8, 17)] 17 (by kernel_rfl) rfl (by kernel_rfl) (by rfl) (fun w1 => ?_) ?_
      · simp only [pk, nthSp, lexVals]
        first | (go_simp; done) | (go_simp; exact fun h => by cases h)
      refine lx_no [(0, 26), (9, 17)] 17 (by kernel_rfl) rfl (by kernel_rfl) (by rfl) (fun w1 => ?_) ?_
      · simp only [pk, nthSp, lexVals]
        first | (go_simp; done) | (go_simp; exact fun h => by cases h)
      refine lx_no [(0, 27)] 27 (by kernel_rfl) rfl (by kernel_rfl) (by rfl) (fun w1 => ?_) ?_
      · simp only [pk, nthSp, lexVals]
        first | (go_simp; done) | (go_simp; exact fun h => by cases h)
      refine lx_no [(0, 28), (1, 27)] 27 (by kernel_rfl) rfl (by kernel_rfl) (by rfl) (fun w1 => ?_) ?_
      · simp only [pk, nthSp, lexVals]
        first | (go_simp; done) | (go_simp; exact fun h => by cases h)
      refine lx_no [(2, 27)] 27 (by kernel_rfl) rfl (by kernel_rfl) (by rfl) (fun w1 => ?_) ?_
      · simp only [pk, nthSp, lexVals]
        first | (go_simp; done) | (go_simp; exact fun h => by cases h)
      refine lx_no [(3, 27)] 27 (by kernel_rfl) rfl (by kernel_rfl) (by rfl) (fun w1 => ?_) ?_
      · simp only [pk, nthSp, lexVals]
        first | (go_simp; done) | (go_simp; exact fun h => by cases h)
      refine lx_no [(0, 31), (4, 27)] 27 (by kernel_rfl) rfl (by kernel_rfl) (by rfl) (fun w1 => ?_) ?_
      · simp only [pk, nthSp, lexVals]
        first | (go_simp; done) | (go_simp; exact fun h => by cases h)
      refine lx_no [(2, 30), (0, 32), (5, 27)] 27 (by kernel_rfl) rfl (by kernel_rfl) (by rfl) (fun w1 => ?_) ?_
      · simp only [pk, nthSp, lexVals]
        first | (go_simp; done) | (go_simp; exact fun h => by cases h)
      refine lx_no [(0, 33), (6, 27)] 27 (by kernel_rfl) rfl (by kernel_rfl) (by rfl) (fun w1 => ?_) ?_
      · simp only [pk, nthSp, lexVals]
        first | (go_simp; done) | (go_simp; exact fun h => by cases h)
      refine lx_no [(0, 34), (7, 27)] 27 (by kernel_rfl) rfl (by kernel_rfl) (by rfl) (fun w1 => ?_) ?_
      · simp only [pk, nthSp, lexVals]
        first | (go_simp; done) | (go_simp; exact fun h => by cases h)
      refine lx_no [(0, 35), (8, 27)] 27 (by kernel_rfl) rfl (by kernel_rfl) (by rfl) (fun w1 => ?_) ?_
      · simp only [pk, nthSp, lexVals]
        first | (go_simp; done) | (go_simp; exact fun h => by cases h)
      refine lx_no [(7, 29), (0, 36), (9, 27)] 27 (by kernel_rfl) rfl (by kernel_rfl) (by rfl) (fun w1 => ?_) ?_
      · simp only [pk, nthSp, lexVals]
        first | (go_simp; done) | (go_simp; exact fun h => by cases h)
      refine lx_no [(10, 27), (0, 37), (20, 17)] 17 (by kernel_rfl) rfl (by kernel_rfl) (by rfl) (fun w1 => ?_) ?_
      · simp only [pk, nthSp, lexVals]
        first | (go_simp; done) | (go_simp; exact fun h => by cases h)
      refine lx_no [(0, 38), (21, 17)] 17 (by kernel_rfl) rfl (by kernel_rfl) (by rfl) (fun w1 => ?_) ?_
      · simp only [pk, nthSp, lexVals]
        first | (go_simp; done) | (go_simp; exact fun h => by cases h)
      refine lx_no [(0, 39)] 39 (by kernel_rfl) rfl (by kernel_rfl) (by rfl) (fun w1 => ?_) ?_
      · simp only [pk, nthSp, lexVals]
        first | (go_simp; done) | (go_simp; exact fun h => by cases h)
      refine lx_no [(0, 40), (1, 39)] 39 (by kernel_rfl) rfl (by kernel_rfl) (by rfl) (fun w1 => ?_) ?_
      · simp only [pk, nthSp, lexVals]
        first | (go_simp; done) | (go_simp; exact fun h => by cases h)
      refine lx_no [(2, 39)] 39 (by kernel_rfl) rfl (by kernel_rfl) (by rfl) (fun w1 => ?_) ?_
      · simp only [pk, nthSp, lexVals]
        first | (go_simp; done) | (go_simp; exact fun h => by cases h)
      refine lx_no [(3, 39)] 39 (by kernel_rfl) rfl (by kernel_rfl) (by rfl) (fun w1 => ?_) ?_
      · simp only [pk, nthSp, lexVals]
        first | (go_simp; done) | (go_simp; exact fun h => by cases h)
      refine lx_no [(0, 43), (4, 39)] 39 (by kernel_rfl) rfl (by kernel_rfl) (by rfl) (fun w1 => ?_) ?_
      · simp only [pk, nthSp, lexVals]
        first | (go_simp; done) | (go_simp; exact fun h => by cases h)
      refine lx_no [(2, 42), (0, 44), (5, 39)] 39 (by kernel_rfl) rfl (by kernel_rfl) (by rfl) (fun w1 => ?_) ?_
      · simp only [pk, nthSp, lexVals]
        first | (go_simp; done) | (go_simp; exact fun h => by cases h)
      refine lx_no [(0, 45), (6, 39)] 39 (by kernel_rfl) rfl (by kernel_rfl) (by rfl) (fun w1 => ?_) ?_
      · simp only [pk, nthSp, lexVals]
        first | (go_simp; done) | (go_simp; exact fun h => by cases h)
      refine lx_no [(0, 46), (7, 39)] 39 (by kernel_rfl) rfl (by kernel_rfl) (by rfl) (fun w1 => ?_) ?_
      · simp only [pk, nthSp, lexVals]
        first | (go_simp; done) | (go_simp; exact fun h => by cases h)
      refine lx_no [(6, 41), (0, 47), (8, 39)] 39 (by kernel_rfl) rfl (by kernel_rfl) (by rfl) (fun w1 => ?_) ?_
      · simp only [pk, nthSp, lexVals]
        first | (go_simp; done) | (go_simp; exact fun h => by cases h)
      refine lx_no [(9, 39), (0, 48), (31, 17)] 17 (by kernel_rfl) rfl (by kernel_rfl) (by rfl) (fun w1 => ?_) ?_
      · simp only [pk, nthSp, lexVals]
        first | (go_simp; done) | (go_simp; exact fun h => by cases h)
      refine lx_e (.bool false) [(32, 17), (0, 49)] (by kernel_rfl) rfl (by rfl) (fun w1 hw1 => ?_) ?_
      · simp only [pk, nthSp, lexVals]
        go_simp
        exact ⟨Ext.refl _, rfl⟩
      refine lx_stopA (by rfl) fun w5 hw5 => ?_
      have HE5 := Lib.hid (HX1.out w5 hw5)
      clear hw5 HX0 HX1
      simp only [rv, pf, lexVals]
      simp only [Act.put, List.setIfInBounds_toArray, List.set_cons_zero, List.set_cons_succ]
      go_wp2_with fail
      go_roundw
      case rel => exact ⟨m + 1, by omega, by go_num, HR.out.symm, HE5.out⟩
      case measure => simp [intOf]; omega
    obtain ⟨q, hq⟩ : ∃ q, m = q + 1 := ⟨m - 1, by omega⟩
    have hqn : q < n := by omega
    have Hq := Lib.hid hqn
    have Hm := Lib.hid hlt
    have x3 : (0 : Int) < (m : Int) := by omega
    have x4 : 0 < m := by omega
    have x5 : decide (0 < m) = true := decide_eq_true x4
    have wQ : IntKind.i64.wrap ((m : Int) - 1) = (q : Int) := by rw [IntKind.wrap_i64]; omega
    obtain ⟨y, hy⟩ : ∃ y, l.getD q htN = y := ⟨_, rfl⟩
    have HYt := Lib.hid (show HtAt w y by rw [← hy]; exact H.out.get q hqn)
    have HYc := Lib.hid (show ∀ w1, Ext w w1 → ∀ j, j < 125 → w1.cell? ⟨b, off + q * 125 + j, none⟩ = some (hdC y.1 j) from fun w1 h1 j hj => by
      have h2 := hcell q hqn j hj
      rw [hy] at h2
      rw [Ext.cell h1 (World.block_lt_of_cell? w _ h2)]
      exact h2)
    have HYr := Lib.hid (fun w1 (h1 : Ext w w1) => range_hd (HYc.out w1 h1))
    have HHs := Lib.hid (fun w9 (h9 : Ext w w9) => hdHash_any y.1 y.2 w9 HYt.out.ok (HYt.out.toks.ext h9) (hdKs_ext HK.out h9))
    rw [decide_eq_false hz, Bool.false_or, show m - 1 = q by omega, hy] at hs
    obtain ⟨A, hA⟩ : ∃ A, hdV y.1 = A := ⟨_, rfl⟩
    have HAe := Lib.hid hA
    rw [hA] at HHs
    obtain ⟨PY, hPY⟩ : ∃ P, shaF (bytesL y.1 y.2) = P := ⟨_, rfl⟩
    rw [hPY] at HHs hs
    obtain ⟨PX, hPX⟩ : ∃ P, x.1.prev = P := ⟨_, rfl⟩
    obtain ⟨xw, hxw⟩ : ∃ v, x.1.writer = v := ⟨_, rfl⟩
    obtain ⟨yw, hyw⟩ : ∃ v, y.1.writer = v := ⟨_, rfl⟩
    obtain ⟨xs, hxs⟩ : ∃ v, x.1.seq = v := ⟨_, rfl⟩
    obtain ⟨ys, hys⟩ : ∃ v, y.1.seq = v := ⟨_, rfl⟩
    obtain ⟨zs, hzs⟩ : ∃ v, IntKind.u64.wrap (ys + 1) = v := ⟨_, rfl⟩
    have Hzs := Lib.hid hzs
    have HPH := Lib.hid (show w4.heap[p]? = some (.cells (hdV x.1) 35 (0, 0)) by rw [HAX.out]; exact HPB.out)
    have HXw := Lib.hid (show ∀ w1, Ext w4 w1 → w1.cell? ⟨p, 0, none⟩ = some (.int .i64 xw) from fun w1 h1 => by rw [← hxw]; exact hd_writer (h1.keep HPH.out))
    have HXs := Lib.hid (show ∀ w1, Ext w4 w1 → w1.cell? ⟨p, 1, none⟩ = some (.int .u64 xs) from fun w1 h1 => by rw [← hxs]; exact hd_seq (h1.keep HPH.out))
    have HXp := Lib.hid (show ∀ w1, Ext w4 w1 → ∀ j, j < 32 → w1.cell? ⟨p, 2 + j, none⟩ = some (.int .u8 (PX j)) from fun w1 h1 j hj => by rw [← hPX]; exact hd_prev (h1.keep HPH.out) j hj)
    have HYw := Lib.hid (show ∀ w1, Ext w w1 → w1.cell? ⟨b, off + q * 125, none⟩ = some (.int .i64 yw) from fun w1 h1 => by rw [← hyw]; exact HYc.out w1 h1 0 (by omega))
    have HYs := Lib.hid (show ∀ w1, Ext w w1 → w1.cell? ⟨b, off + q * 125 + 1, none⟩ = some (.int .u64 ys) from fun w1 h1 => by rw [← hys]; exact HYc.out w1 h1 1 (by omega))
    rw [hxw, hyw, hxs, hys, hzs, hPX] at hs
    have kne2 := fun w => kne w PX PY
    clear hcell hy hA hPY hPX hxw hyw hxs hys hq hqn kne
    by_cases hW : xw = yw
    case neg =>
      have e1 : (xw == yw) = false := beq_eq_false_iff_ne.2 hW
      have e2 : (xw != yw) = true := bne_iff_ne.2 hW
      rw [e1] at hs
      have hR : R = false := by rw [hs]; rfl
      clear hs
      go_upto_region 6 with (fail)
      have HX0 := Lib.hid (show ∀ x, Ext w4.drew x → Ext w4 x from fun x hx => Ext.trans (Ext.refl w4).drew hx)
      have HX1 := Lib.hid (show ∀ x, Ext w4.drew x → Ext w x from fun x hx => HE4.out.trans (HX0.out x hx))
      refine wp_region_lexA (by kernel_rfl) (by kernel_rfl) ?_
      refine lx_e (.int .i64 (m : Int)) [] (by kernel_rfl) rfl (by rfl) (fun w1 hw1 => ?_) ?_
      · simp only [pk, lexVals]
        go_simp
        exact ⟨Ext.refl _, rfl⟩
      refine lx_e (.bool true) [(0, 15)] (by kernel_rfl) rfl (by rfl) (fun w1 hw1 => ?_) ?_
      · simp only [pk, nthSp, lexVals]
        go_simp
        exact ⟨Ext.refl _, rfl⟩
      refine lx_e (.bool true) [(0, 16)] (by kernel_rfl) rfl (by rfl) (fun w1 hw1 => ?_) ?_
      · simp only [pk, nthSp, lexVals]
        go_simp
        exact ⟨Ext.refl _, rfl⟩
      refine lx_ge (.pointer (some ⟨p, 0, none⟩)) [(0, 17)] 17 (by kernel_rfl) rfl (by kernel_rfl) (by rfl) (fun w1 => ?_) (fun w1 hw1 => ?_) ?_
      · simp only [pk, nthSp, lexVals]
        rfl
      · simp only [pk, nthSp, lexVals]
        go_simp
        exact ⟨Ext.refl _, rfl⟩
      refine lx_ge (.int .i64 xw) [(0, 18), (1, 17)] 17 (by kernel_rfl) rfl (by kernel_rfl) (by rfl) (fun w1 => ?_) (fun w1 hw1 => ?_) ?_
      · simp only [pk, nthSp, lexVals]
        rfl
      · simp only [pk, nthSp, lexVals]
        have hc := HXw.out w1 (HX0.out w1 hw1)
        clear hw1
        go_simp
        exact ⟨Ext.refl _, rfl⟩
      refine lx_ge (.slice (some ⟨b, off, none⟩) n c) [(2, 17)] 17 (by kernel_rfl) rfl (by kernel_rfl) (by rfl) (fun w1 => ?_) (fun w1 hw1 => ?_) ?_
      · simp only [pk, nthSp, lexVals]
        rfl
      · simp only [pk, nthSp, lexVals]
        go_simp
        exact ⟨Ext.refl _, rfl⟩
      refine lx_ge (.int .i64 (m : Int)) [(3, 17)] 17 (by kernel_rfl) rfl (by kernel_rfl) (by rfl) (fun w1 => ?_) (fun w1 hw1 => ?_) ?_
      · simp only [pk, nthSp, lexVals]
        rfl
      · simp only [pk, nthSp, lexVals]
        go_simp
        exact ⟨Ext.refl _, rfl⟩
      refine lx_ge (.int .i64 (q : Int)) [(0, 21), (4, 17)] 17 (by kernel_rfl) rfl (by kernel_rfl) (by rfl) (fun w1 => ?_) (fun w1 hw1 => ?_) ?_
      · simp only [pk, nthSp, lexVals]
        rfl
      · simp only [pk, nthSp, lexVals]
        go_simp
        exact ⟨Ext.refl _, rfl⟩
      refine lx_ge (.pointer (some ⟨b, off + q * 125, none⟩)) [(2, 20), (0, 22), (5, 17)] 17 (by kernel_rfl) rfl (by kernel_rfl) (by rfl) (fun w1 => ?_) (fun w1 hw1 => ?_) ?_
      · simp only [pk, nthSp, lexVals]
        rfl
      · simp only [pk, nthSp, lexVals]
        exact lu_hidx rfl rfl rfl Hq.out
      refine lx_ge (.pointer (some ⟨b, off + q * 125, none⟩)) [(0, 23), (6, 17)] 17 (by kernel_rfl) rfl (by kernel_rfl) (by rfl) (fun w1 => ?_) (fun w1 hw1 => ?_) ?_
      · simp only [pk, nthSp, lexVals]
        rfl
      · simp only [pk, nthSp, lexVals]
        go_simp
        exact ⟨Ext.refl _, rfl⟩
      refine lx_ge (.int .i64 yw) [(0, 24), (7, 17)] 17 (by kernel_rfl) rfl (by kernel_rfl) (by rfl) (fun w1 => ?_) (fun w1 hw1 => ?_) ?_
      · simp only [pk, nthSp, lexVals]
        rfl
      · simp only [pk, nthSp, lexVals]
        have hc := HYw.out w1 (HX1.out w1 hw1)
        clear hw1
        go_simp
        exact ⟨Ext.refl _, rfl⟩
      refine lx_ge (.bool true) [(6, 19), (0, 25), (8, 17)] 17 (by kernel_rfl) rfl (by kernel_rfl) (by rfl) (fun w1 => ?_) (fun w1 hw1 => ?_) ?_
      · simp only [pk, nthSp, lexVals]
        rfl
      · simp only [pk, nthSp, lexVals]
        go_simp
        exact ⟨Ext.refl _, rfl⟩
      refine lx_ge (.bool true) [(0, 26), (9, 17)] 17 (by kernel_rfl) rfl (by kernel_rfl) (by rfl) (fun w1 => ?_) (fun w1 hw1 => ?_) ?_
      · simp only [pk, nthSp, lexVals]
        rfl
      · simp only [pk, nthSp, lexVals]
        go_simp
        exact ⟨Ext.refl _, rfl⟩
      refine lx_no [(0, 27)] 27 (by kernel_rfl) rfl (by kernel_rfl) (by rfl) (fun w1 => ?_) ?_
      · simp only [pk, nthSp, lexVals]
        first | (go_simp; done) | (go_simp; exact fun h => by cases h)
      refine lx_no [(0, 28), (1, 27)] 27 (by kernel_rfl) rfl (by kernel_rfl) (by rfl) (fun w1 => ?_) ?_
      · simp only [pk, nthSp, lexVals]
        first | (go_simp; done) | (go_simp; exact fun h => by cases h)
      refine lx_no [(2, 27)] 27 (by kernel_rfl) rfl (by kernel_rfl) (by rfl) (fun w1 => ?_) ?_
      · simp only [pk, nthSp, lexVals]
        first | (go_simp; done) | (go_simp; exact fun h => by cases h)
      refine lx_no [(3, 27)] 27 (by kernel_rfl) rfl (by kernel_rfl) (by rfl) (fun w1 => ?_) ?_
      · simp only [pk, nthSp, lexVals]
        first | (go_simp; done) | (go_simp; exact fun h => by cases h)
      refine lx_no [(0, 31), (4, 27)] 27 (by kernel_rfl) rfl (by kernel_rfl) (by rfl) (fun w1 => ?_) ?_
      · simp only [pk, nthSp, lexVals]
        first | (go_simp; done) | (go_simp; exact fun h => by cases h)
      refine lx_no [(2, 30), (0, 32), (5, 27)] 27 (by kernel_rfl) rfl (by kernel_rfl) (by rfl) (fun w1 => ?_) ?_
      · simp only [pk, nthSp, lexVals]
        first | (go_simp; done) | (go_simp; exact fun h => by cases h)
      refine lx_no [(0, 33), (6, 27)] 27 (by kernel_rfl) rfl (by kernel_rfl) (by rfl) (fun w1 => ?_) ?_
      · simp only [pk, nthSp, lexVals]
        first | (go_simp; done) | (go_simp; exact fun h => by cases h)
      refine lx_no [(0, 34), (7, 27)] 27 (by kernel_rfl) rfl (by kernel_rfl) (by rfl) (fun w1 => ?_) ?_
      · simp only [pk, nthSp, lexVals]
        first | (go_simp; done) | (go_simp; exact fun h => by cases h)
      refine lx_no [(0, 35), (8, 27)] 27 (by kernel_rfl) rfl (by kernel_rfl) (by rfl) (fun w1 => ?_) ?_
      · simp only [pk, nthSp, lexVals]
        first | (go_simp; done) | (go_simp; exact fun h => by cases h)
      refine lx_no [(7, 29), (0, 36), (9, 27)] 27 (by kernel_rfl) rfl (by kernel_rfl) (by rfl) (fun w1 => ?_) ?_
      · simp only [pk, nthSp, lexVals]
        first | (go_simp; done) | (go_simp; exact fun h => by cases h)
      refine lx_ge (.bool true) [(10, 27), (0, 37), (20, 17)] 17 (by kernel_rfl) rfl (by kernel_rfl) (by rfl) (fun w1 => ?_) (fun w1 hw1 => ?_) ?_
      · simp only [pk, nthSp, lexVals]
        rfl
      · simp only [pk, nthSp, lexVals]
        go_simp
        exact ⟨Ext.refl _, rfl⟩
      refine lx_ge (.bool true) [(0, 38), (21, 17)] 17 (by kernel_rfl) rfl (by kernel_rfl) (by rfl) (fun w1 => ?_) (fun w1 hw1 => ?_) ?_
      · simp only [pk, nthSp, lexVals]
        rfl
      · simp only [pk, nthSp, lexVals]
        go_simp
        exact ⟨Ext.refl _, rfl⟩
      refine lx_no [(0, 39)] 39 (by kernel_rfl) rfl (by kernel_rfl) (by rfl) (fun w1 => ?_) ?_
      · simp only [pk, nthSp, lexVals]
        first | (go_simp; done) | (go_simp; exact fun h => by cases h)
      refine lx_no [(0, 40), (1, 39)] 39 (by kernel_rfl) rfl (by kernel_rfl) (by rfl) (fun w1 => ?_) ?_
      · simp only [pk, nthSp, lexVals]
        first | (go_simp; done) | (go_simp; exact fun h => by cases h)
      refine lx_no [(2, 39)] 39 (by kernel_rfl) rfl (by kernel_rfl) (by rfl) (fun w1 => ?_) ?_
      · simp only [pk, nthSp, lexVals]
        first | (go_simp; done) | (go_simp; exact fun h => by cases h)
      refine lx_no [(3, 39)] 39 (by kernel_rfl) rfl (by kernel_rfl) (by rfl) (fun w1 => ?_) ?_
      · simp only [pk, nthSp, lexVals]
        first | (go_simp; done) | (go_simp; exact fun h => by cases h)
      refine lx_no [(0, 43), (4, 39)] 39 (by kernel_rfl) rfl (by kernel_rfl) (by rfl) (fun w1 => ?_) ?_
      · simp only [pk, nthSp, lexVals]
        first | (go_simp; done) | (go_simp; exact fun h => by cases h)
      refine lx_no [(2, 42), (0, 44), (5, 39)] 39 (by kernel_rfl) rfl (by kernel_rfl) (by rfl) (fun w1 => ?_) ?_
      · simp only [pk, nthSp, lexVals]
        first | (go_simp; done) | (go_simp; exact fun h => by cases h)
      refine lx_no [(0, 45), (6, 39)] 39 (by kernel_rfl) rfl (by kernel_rfl) (by rfl) (fun w1 => ?_) ?_
      · simp only [pk, nthSp, lexVals]
        first | (go_simp; done) | (go_simp; exact fun h => by cases h)
      refine lx_no [(0, 46), (7, 39)] 39 (by kernel_rfl) rfl (by kernel_rfl) (by rfl) (fun w1 => ?_) ?_
      · simp only [pk, nthSp, lexVals]
        first | (go_simp; done) | (go_simp; exact fun h => by cases h)
      refine lx_no [(6, 41), (0, 47), (8, 39)] 39 (by kernel_rfl) rfl (by kernel_rfl) (by rfl) (fun w1 => ?_) ?_
      · simp only [pk, nthSp, lexVals]
        first | (go_simp; done) | (go_simp; exact fun h => by cases h)
      refine lx_ge (.bool true) [(9, 39), (0, 48), (31, 17)] 17 (by kernel_rfl) rfl (by kernel_rfl) (by rfl) (fun w1 => ?_) (fun w1 hw1 => ?_) ?_
      · simp only [pk, nthSp, lexVals]
        rfl
      · simp only [pk, nthSp, lexVals]
        go_simp
        exact ⟨Ext.refl _, rfl⟩
      refine lx_e (.bool true) [(32, 17), (0, 49)] (by kernel_rfl) rfl (by rfl) (fun w1 hw1 => ?_) ?_
      · simp only [pk, nthSp, lexVals]
        go_simp
        exact ⟨Ext.refl _, rfl⟩
      refine lx_stopA (by rfl) fun w5 hw5 => ?_
      have HE5 := Lib.hid (HX1.out w5 hw5)
      clear hw5 HX0 HX1
      simp only [rv, pf, lexVals]
      simp only [Act.put, List.setIfInBounds_toArray, List.set_cons_zero, List.set_cons_succ]
      go_wp2_with fail
      go_ret
      exact ⟨by first | rfl | (rw [hR]; rfl), HE5.out⟩
    subst hW
    rw [beq_self_eq_true, Bool.true_and] at hs
    by_cases hS : xs = zs
    case neg =>
      have e1 : (xs == zs) = false := beq_eq_false_iff_ne.2 hS
      have e2 : (xs != zs) = true := bne_iff_ne.2 hS
      rw [e1] at hs
      have hR : R = false := by rw [hs]; rfl
      clear hs
      go_upto_region 6 with (fail)
      have HX0 := Lib.hid (show ∀ x, Ext w4.drew x → Ext w4 x from fun x hx => Ext.trans (Ext.refl w4).drew hx)
      have HX1 := Lib.hid (show ∀ x, Ext w4.drew x → Ext w x from fun x hx => HE4.out.trans (HX0.out x hx))
      refine wp_region_lexA (by kernel_rfl) (by kernel_rfl) ?_
      refine lx_e (.int .i64 (m : Int)) [] (by kernel_rfl) rfl (by rfl) (fun w1 hw1 => ?_) ?_
      · simp only [pk, lexVals]
        go_simp
        exact ⟨Ext.refl _, rfl⟩
      refine lx_e (.bool true) [(0, 15)] (by kernel_rfl) rfl (by rfl) (fun w1 hw1 => ?_) ?_
      · simp only [pk, nthSp, lexVals]
        go_simp
        exact ⟨Ext.refl _, rfl⟩
      refine lx_e (.bool true) [(0, 16)] (by kernel_rfl) rfl (by rfl) (fun w1 hw1 => ?_) ?_
      · simp only [pk, nthSp, lexVals]
        go_simp
        exact ⟨Ext.refl _, rfl⟩
      refine lx_ge (.pointer (some ⟨p, 0, none⟩)) [(0, 17)] 17 (by kernel_rfl) rfl (by kernel_rfl) (by rfl) (fun w1 => ?_) (fun w1 hw1 => ?_) ?_
      · simp only [pk, nthSp, lexVals]
        rfl
      · simp only [pk, nthSp, lexVals]
        go_simp
        exact ⟨Ext.refl _, rfl⟩
      refine lx_ge (.int .i64 xw) [(0, 18), (1, 17)] 17 (by kernel_rfl) rfl (by kernel_rfl) (by rfl) (fun w1 => ?_) (fun w1 hw1 => ?_) ?_
      · simp only [pk, nthSp, lexVals]
        rfl
      · simp only [pk, nthSp, lexVals]
        have hc := HXw.out w1 (HX0.out w1 hw1)
        clear hw1
        go_simp
        exact ⟨Ext.refl _, rfl⟩
      refine lx_ge (.slice (some ⟨b, off, none⟩) n c) [(2, 17)] 17 (by kernel_rfl) rfl (by kernel_rfl) (by rfl) (fun w1 => ?_) (fun w1 hw1 => ?_) ?_
      · simp only [pk, nthSp, lexVals]
        rfl
      · simp only [pk, nthSp, lexVals]
        go_simp
        exact ⟨Ext.refl _, rfl⟩
      refine lx_ge (.int .i64 (m : Int)) [(3, 17)] 17 (by kernel_rfl) rfl (by kernel_rfl) (by rfl) (fun w1 => ?_) (fun w1 hw1 => ?_) ?_
      · simp only [pk, nthSp, lexVals]
        rfl
      · simp only [pk, nthSp, lexVals]
        go_simp
        exact ⟨Ext.refl _, rfl⟩
      refine lx_ge (.int .i64 (q : Int)) [(0, 21), (4, 17)] 17 (by kernel_rfl) rfl (by kernel_rfl) (by rfl) (fun w1 => ?_) (fun w1 hw1 => ?_) ?_
      · simp only [pk, nthSp, lexVals]
        rfl
      · simp only [pk, nthSp, lexVals]
        go_simp
        exact ⟨Ext.refl _, rfl⟩
      refine lx_ge (.pointer (some ⟨b, off + q * 125, none⟩)) [(2, 20), (0, 22), (5, 17)] 17 (by kernel_rfl) rfl (by kernel_rfl) (by rfl) (fun w1 => ?_) (fun w1 hw1 => ?_) ?_
      · simp only [pk, nthSp, lexVals]
        rfl
      · simp only [pk, nthSp, lexVals]
        exact lu_hidx rfl rfl rfl Hq.out
      refine lx_ge (.pointer (some ⟨b, off + q * 125, none⟩)) [(0, 23), (6, 17)] 17 (by kernel_rfl) rfl (by kernel_rfl) (by rfl) (fun w1 => ?_) (fun w1 hw1 => ?_) ?_
      · simp only [pk, nthSp, lexVals]
        rfl
      · simp only [pk, nthSp, lexVals]
        go_simp
        exact ⟨Ext.refl _, rfl⟩
      refine lx_ge (.int .i64 xw) [(0, 24), (7, 17)] 17 (by kernel_rfl) rfl (by kernel_rfl) (by rfl) (fun w1 => ?_) (fun w1 hw1 => ?_) ?_
      · simp only [pk, nthSp, lexVals]
        rfl
      · simp only [pk, nthSp, lexVals]
        have hc := HYw.out w1 (HX1.out w1 hw1)
        clear hw1
        go_simp
        exact ⟨Ext.refl _, rfl⟩
      refine lx_ge (.bool false) [(6, 19), (0, 25), (8, 17)] 17 (by kernel_rfl) rfl (by kernel_rfl) (by rfl) (fun w1 => ?_) (fun w1 hw1 => ?_) ?_
      · simp only [pk, nthSp, lexVals]
        rfl
      · simp only [pk, nthSp, lexVals]
        go_simp
        exact ⟨Ext.refl _, rfl⟩
      refine lx_ge (.bool false) [(0, 26), (9, 17)] 17 (by kernel_rfl) rfl (by kernel_rfl) (by rfl) (fun w1 => ?_) (fun w1 hw1 => ?_) ?_
      · simp only [pk, nthSp, lexVals]
        rfl
      · simp only [pk, nthSp, lexVals]
        go_simp
        exact ⟨Ext.refl _, rfl⟩
      refine lx_ge (.pointer (some ⟨p, 1, none⟩)) [(0, 27)] 27 (by kernel_rfl) rfl (by kernel_rfl) (by rfl) (fun w1 => ?_) (fun w1 hw1 => ?_) ?_
      · simp only [pk, nthSp, lexVals]
        rfl
      · simp only [pk, nthSp, lexVals]
        go_simp
        exact ⟨Ext.refl _, rfl⟩
      refine lx_ge (.int .u64 xs) [(0, 28), (1, 27)] 27 (by kernel_rfl) rfl (by kernel_rfl) (by rfl) (fun w1 => ?_) (fun w1 hw1 => ?_) ?_
      · simp only [pk, nthSp, lexVals]
        rfl
      · simp only [pk, nthSp, lexVals]
        have hc := HXs.out w1 (HX0.out w1 hw1)
        clear hw1
        go_simp
        exact ⟨Ext.refl _, rfl⟩
      refine lx_ge (.slice (some ⟨b, off, none⟩) n c) [(2, 27)] 27 (by kernel_rfl) rfl (by kernel_rfl) (by rfl) (fun w1 => ?_) (fun w1 hw1 => ?_) ?_
      · simp only [pk, nthSp, lexVals]
        rfl
      · simp only [pk, nthSp, lexVals]
        go_simp
        exact ⟨Ext.refl _, rfl⟩
      refine lx_ge (.int .i64 (m : Int)) [(3, 27)] 27 (by kernel_rfl) rfl (by kernel_rfl) (by rfl) (fun w1 => ?_) (fun w1 hw1 => ?_) ?_
      · simp only [pk, nthSp, lexVals]
        rfl
      · simp only [pk, nthSp, lexVals]
        go_simp
        exact ⟨Ext.refl _, rfl⟩
      refine lx_ge (.int .i64 (q : Int)) [(0, 31), (4, 27)] 27 (by kernel_rfl) rfl (by kernel_rfl) (by rfl) (fun w1 => ?_) (fun w1 hw1 => ?_) ?_
      · simp only [pk, nthSp, lexVals]
        rfl
      · simp only [pk, nthSp, lexVals]
        go_simp
        exact ⟨Ext.refl _, rfl⟩
      refine lx_ge (.pointer (some ⟨b, off + q * 125, none⟩)) [(2, 30), (0, 32), (5, 27)] 27 (by kernel_rfl) rfl (by kernel_rfl) (by rfl) (fun w1 => ?_) (fun w1 hw1 => ?_) ?_
      · simp only [pk, nthSp, lexVals]
        rfl
      · simp only [pk, nthSp, lexVals]
        exact lu_hidx rfl rfl rfl Hq.out
      refine lx_ge (.pointer (some ⟨b, off + q * 125 + 1, none⟩)) [(0, 33), (6, 27)] 27 (by kernel_rfl) rfl (by kernel_rfl) (by rfl) (fun w1 => ?_) (fun w1 hw1 => ?_) ?_
      · simp only [pk, nthSp, lexVals]
        rfl
      · simp only [pk, nthSp, lexVals]
        go_simp
        exact ⟨Ext.refl _, rfl⟩
      refine lx_ge (.int .u64 ys) [(0, 34), (7, 27)] 27 (by kernel_rfl) rfl (by kernel_rfl) (by rfl) (fun w1 => ?_) (fun w1 hw1 => ?_) ?_
      · simp only [pk, nthSp, lexVals]
        rfl
      · simp only [pk, nthSp, lexVals]
        have hc := HYs.out w1 (HX1.out w1 hw1)
        clear hw1
        go_simp
        exact ⟨Ext.refl _, rfl⟩
      refine lx_ge (.int .u64 zs) [(0, 35), (8, 27)] 27 (by kernel_rfl) rfl (by kernel_rfl) (by rfl) (fun w1 => ?_) (fun w1 hw1 => ?_) ?_
      · simp only [pk, nthSp, lexVals]
        rfl
      · simp only [pk, nthSp, lexVals]
        go_simp
        exact ⟨Ext.refl _, rfl⟩
      refine lx_ge (.bool true) [(7, 29), (0, 36), (9, 27)] 27 (by kernel_rfl) rfl (by kernel_rfl) (by rfl) (fun w1 => ?_) (fun w1 hw1 => ?_) ?_
      · simp only [pk, nthSp, lexVals]
        rfl
      · simp only [pk, nthSp, lexVals]
        go_simp
        exact ⟨Ext.refl _, rfl⟩
      refine lx_ge (.bool true) [(10, 27), (0, 37), (20, 17)] 17 (by kernel_rfl) rfl (by kernel_rfl) (by rfl) (fun w1 => ?_) (fun w1 hw1 => ?_) ?_
      · simp only [pk, nthSp, lexVals]
        rfl
      · simp only [pk, nthSp, lexVals]
        go_simp
        exact ⟨Ext.refl _, rfl⟩
      refine lx_ge (.bool true) [(0, 38), (21, 17)] 17 (by kernel_rfl) rfl (by kernel_rfl) (by rfl) (fun w1 => ?_) (fun w1 hw1 => ?_) ?_
      · simp only [pk, nthSp, lexVals]
        rfl
      · simp only [pk, nthSp, lexVals]
        go_simp
        exact ⟨Ext.refl _, rfl⟩
      refine lx_no [(0, 39)] 39 (by kernel_rfl) rfl (by kernel_rfl) (by rfl) (fun w1 => ?_) ?_
      · simp only [pk, nthSp, lexVals]
        first | (go_simp; done) | (go_simp; exact fun h => by cases h)
      refine lx_no [(0, 40), (1, 39)] 39 (by kernel_rfl) rfl (by kernel_rfl) (by rfl) (fun w1 => ?_) ?_
      · simp only [pk, nthSp, lexVals]
        first | (go_simp; done) | (go_simp; exact fun h => by cases h)
      refine lx_no [(2, 39)] 39 (by kernel_rfl) rfl (by kernel_rfl) (by rfl) (fun w1 => ?_) ?_
      · simp only [pk, nthSp, lexVals]
        first | (go_simp; done) | (go_simp; exact fun h => by cases h)
      refine lx_no [(3, 39)] 39 (by kernel_rfl) rfl (by kernel_rfl) (by rfl) (fun w1 => ?_) ?_
      · simp only [pk, nthSp, lexVals]
        first | (go_simp; done) | (go_simp; exact fun h => by cases h)
      refine lx_no [(0, 43), (4, 39)] 39 (by kernel_rfl) rfl (by kernel_rfl) (by rfl) (fun w1 => ?_) ?_
      · simp only [pk, nthSp, lexVals]
        first | (go_simp; done) | (go_simp; exact fun h => by cases h)
      refine lx_no [(2, 42), (0, 44), (5, 39)] 39 (by kernel_rfl) rfl (by kernel_rfl) (by rfl) (fun w1 => ?_) ?_
      · simp only [pk, nthSp, lexVals]
        first | (go_simp; done) | (go_simp; exact fun h => by cases h)
      refine lx_no [(0, 45), (6, 39)] 39 (by kernel_rfl) rfl (by kernel_rfl) (by rfl) (fun w1 => ?_) ?_
      · simp only [pk, nthSp, lexVals]
        first | (go_simp; done) | (go_simp; exact fun h => by cases h)
      refine lx_no [(0, 46), (7, 39)] 39 (by kernel_rfl) rfl (by kernel_rfl) (by rfl) (fun w1 => ?_) ?_
      · simp only [pk, nthSp, lexVals]
        first | (go_simp; done) | (go_simp; exact fun h => by cases h)
      refine lx_no [(6, 41), (0, 47), (8, 39)] 39 (by kernel_rfl) rfl (by kernel_rfl) (by rfl) (fun w1 => ?_) ?_
      · simp only [pk, nthSp, lexVals]
        first | (go_simp; done) | (go_simp; exact fun h => by cases h)
      refine lx_ge (.bool true) [(9, 39), (0, 48), (31, 17)] 17 (by kernel_rfl) rfl (by kernel_rfl) (by rfl) (fun w1 => ?_) (fun w1 hw1 => ?_) ?_
      · simp only [pk, nthSp, lexVals]
        rfl
      · simp only [pk, nthSp, lexVals]
        go_simp
        exact ⟨Ext.refl _, rfl⟩
      refine lx_e (.bool true) [(32, 17), (0, 49)] (by kernel_rfl) rfl (by rfl) (fun w1 hw1 => ?_) ?_
      · simp only [pk, nthSp, lexVals]
        go_simp
        exact ⟨Ext.refl _, rfl⟩
      refine lx_stopA (by rfl) fun w5 hw5 => ?_
      have HE5 := Lib.hid (HX1.out w5 hw5)
      clear hw5 HX0 HX1
      simp only [rv, pf, lexVals]
      simp only [Act.put, List.setIfInBounds_toArray, List.set_cons_zero, List.set_cons_succ]
      go_wp2_with fail
      go_ret
      exact ⟨by first | rfl | (rw [hR]; rfl), HE5.out⟩
    subst hS
    rw [beq_self_eq_true, Bool.true_and] at hs
    obtain ⟨PB, hPB⟩ : ∃ P, arrB 32 PX PY = P := ⟨_, rfl⟩
    rw [hPB] at hs kne2
    clear hPB
    cases PB with
    | false =>
      have hR : R = false := by rw [hs]; rfl
      clear hs
      go_upto_region 6 with (fail)
      have HX0 := Lib.hid (show ∀ x, Ext w4.drew x → Ext w4 x from fun x hx => Ext.trans (Ext.refl w4).drew hx)
      have HX1 := Lib.hid (show ∀ x, Ext w4.drew x → Ext w x from fun x hx => HE4.out.trans (HX0.out x hx))
      refine wp_region_lexA (by kernel_rfl) (by kernel_rfl) ?_
      refine lx_e (.int .i64 (m : Int)) [] (by kernel_rfl) rfl (by rfl) (fun w1 hw1 => ?_) ?_
      · simp only [pk, lexVals]
        go_simp
        exact ⟨Ext.refl _, rfl⟩
      refine lx_e (.bool true) [(0, 15)] (by kernel_rfl) rfl (by rfl) (fun w1 hw1 => ?_) ?_
      · simp only [pk, nthSp, lexVals]
        go_simp
        exact ⟨Ext.refl _, rfl⟩
      refine lx_e (.bool true) [(0, 16)] (by kernel_rfl) rfl (by rfl) (fun w1 hw1 => ?_) ?_
      · simp only [pk, nthSp, lexVals]
        go_simp
        exact ⟨Ext.refl _, rfl⟩
      refine lx_ge (.pointer (some ⟨p, 0, none⟩)) [(0, 17)] 17 (by kernel_rfl) rfl (by kernel_rfl) (by rfl) (fun w1 => ?_) (fun w1 hw1 => ?_) ?_
      · simp only [pk, nthSp, lexVals]
        rfl
      · simp only [pk, nthSp, lexVals]
        go_simp
        exact ⟨Ext.refl _, rfl⟩
      refine lx_ge (.int .i64 xw) [(0, 18), (1, 17)] 17 (by kernel_rfl) rfl (by kernel_rfl) (by rfl) (fun w1 => ?_) (fun w1 hw1 => ?_) ?_
      · simp only [pk, nthSp, lexVals]
        rfl
      · simp only [pk, nthSp, lexVals]
        have hc := HXw.out w1 (HX0.out w1 hw1)
        clear hw1
        go_simp
        exact ⟨Ext.refl _, rfl⟩
      refine lx_ge (.slice (some ⟨b, off, none⟩) n c) [(2, 17)] 17 (by kernel_rfl) rfl (by kernel_rfl) (by rfl) (fun w1 => ?_) (fun w1 hw1 => ?_) ?_
      · simp only [pk, nthSp, lexVals]
        rfl
      · simp only [pk, nthSp, lexVals]
        go_simp
        exact ⟨Ext.refl _, rfl⟩
      refine lx_ge (.int .i64 (m : Int)) [(3, 17)] 17 (by kernel_rfl) rfl (by kernel_rfl) (by rfl) (fun w1 => ?_) (fun w1 hw1 => ?_) ?_
      · simp only [pk, nthSp, lexVals]
        rfl
      · simp only [pk, nthSp, lexVals]
        go_simp
        exact ⟨Ext.refl _, rfl⟩
      refine lx_ge (.int .i64 (q : Int)) [(0, 21), (4, 17)] 17 (by kernel_rfl) rfl (by kernel_rfl) (by rfl) (fun w1 => ?_) (fun w1 hw1 => ?_) ?_
      · simp only [pk, nthSp, lexVals]
        rfl
      · simp only [pk, nthSp, lexVals]
        go_simp
        exact ⟨Ext.refl _, rfl⟩
      refine lx_ge (.pointer (some ⟨b, off + q * 125, none⟩)) [(2, 20), (0, 22), (5, 17)] 17 (by kernel_rfl) rfl (by kernel_rfl) (by rfl) (fun w1 => ?_) (fun w1 hw1 => ?_) ?_
      · simp only [pk, nthSp, lexVals]
        rfl
      · simp only [pk, nthSp, lexVals]
        exact lu_hidx rfl rfl rfl Hq.out
      refine lx_ge (.pointer (some ⟨b, off + q * 125, none⟩)) [(0, 23), (6, 17)] 17 (by kernel_rfl) rfl (by kernel_rfl) (by rfl) (fun w1 => ?_) (fun w1 hw1 => ?_) ?_
      · simp only [pk, nthSp, lexVals]
        rfl
      · simp only [pk, nthSp, lexVals]
        go_simp
        exact ⟨Ext.refl _, rfl⟩
      refine lx_ge (.int .i64 xw) [(0, 24), (7, 17)] 17 (by kernel_rfl) rfl (by kernel_rfl) (by rfl) (fun w1 => ?_) (fun w1 hw1 => ?_) ?_
      · simp only [pk, nthSp, lexVals]
        rfl
      · simp only [pk, nthSp, lexVals]
        have hc := HYw.out w1 (HX1.out w1 hw1)
        clear hw1
        go_simp
        exact ⟨Ext.refl _, rfl⟩
      refine lx_ge (.bool false) [(6, 19), (0, 25), (8, 17)] 17 (by kernel_rfl) rfl (by kernel_rfl) (by rfl) (fun w1 => ?_) (fun w1 hw1 => ?_) ?_
      · simp only [pk, nthSp, lexVals]
        rfl
      · simp only [pk, nthSp, lexVals]
        go_simp
        exact ⟨Ext.refl _, rfl⟩
      refine lx_ge (.bool false) [(0, 26), (9, 17)] 17 (by kernel_rfl) rfl (by kernel_rfl) (by rfl) (fun w1 => ?_) (fun w1 hw1 => ?_) ?_
      · simp only [pk, nthSp, lexVals]
        rfl
      · simp only [pk, nthSp, lexVals]
        go_simp
        exact ⟨Ext.refl _, rfl⟩
      refine lx_ge (.pointer (some ⟨p, 1, none⟩)) [(0, 27)] 27 (by kernel_rfl) rfl (by kernel_rfl) (by rfl) (fun w1 => ?_) (fun w1 hw1 => ?_) ?_
      · simp only [pk, nthSp, lexVals]
        rfl
      · simp only [pk, nthSp, lexVals]
        go_simp
        exact ⟨Ext.refl _, rfl⟩
      refine lx_ge (.int .u64 xs) [(0, 28), (1, 27)] 27 (by kernel_rfl) rfl (by kernel_rfl) (by rfl) (fun w1 => ?_) (fun w1 hw1 => ?_) ?_
      · simp only [pk, nthSp, lexVals]
        rfl
      · simp only [pk, nthSp, lexVals]
        have hc := HXs.out w1 (HX0.out w1 hw1)
        clear hw1
        go_simp
        exact ⟨Ext.refl _, rfl⟩
      refine lx_ge (.slice (some ⟨b, off, none⟩) n c) [(2, 27)] 27 (by kernel_rfl) rfl (by kernel_rfl) (by rfl) (fun w1 => ?_) (fun w1 hw1 => ?_) ?_
      · simp only [pk, nthSp, lexVals]
        rfl
      · simp only [pk, nthSp, lexVals]
        go_simp
        exact ⟨Ext.refl _, rfl⟩
      refine lx_ge (.int .i64 (m : Int)) [(3, 27)] 27 (by kernel_rfl) rfl (by kernel_rfl) (by rfl) (fun w1 => ?_) (fun w1 hw1 => ?_) ?_
      · simp only [pk, nthSp, lexVals]
        rfl
      · simp only [pk, nthSp, lexVals]
        go_simp
        exact ⟨Ext.refl _, rfl⟩
      refine lx_ge (.int .i64 (q : Int)) [(0, 31), (4, 27)] 27 (by kernel_rfl) rfl (by kernel_rfl) (by rfl) (fun w1 => ?_) (fun w1 hw1 => ?_) ?_
      · simp only [pk, nthSp, lexVals]
        rfl
      · simp only [pk, nthSp, lexVals]
        go_simp
        exact ⟨Ext.refl _, rfl⟩
      refine lx_ge (.pointer (some ⟨b, off + q * 125, none⟩)) [(2, 30), (0, 32), (5, 27)] 27 (by kernel_rfl) rfl (by kernel_rfl) (by rfl) (fun w1 => ?_) (fun w1 hw1 => ?_) ?_
      · simp only [pk, nthSp, lexVals]
        rfl
      · simp only [pk, nthSp, lexVals]
        exact lu_hidx rfl rfl rfl Hq.out
      refine lx_ge (.pointer (some ⟨b, off + q * 125 + 1, none⟩)) [(0, 33), (6, 27)] 27 (by kernel_rfl) rfl (by kernel_rfl) (by rfl) (fun w1 => ?_) (fun w1 hw1 => ?_) ?_
      · simp only [pk, nthSp, lexVals]
        rfl
      · simp only [pk, nthSp, lexVals]
        go_simp
        exact ⟨Ext.refl _, rfl⟩
      refine lx_ge (.int .u64 ys) [(0, 34), (7, 27)] 27 (by kernel_rfl) rfl (by kernel_rfl) (by rfl) (fun w1 => ?_) (fun w1 hw1 => ?_) ?_
      · simp only [pk, nthSp, lexVals]
        rfl
      · simp only [pk, nthSp, lexVals]
        have hc := HYs.out w1 (HX1.out w1 hw1)
        clear hw1
        go_simp
        exact ⟨Ext.refl _, rfl⟩
      refine lx_ge (.int .u64 xs) [(0, 35), (8, 27)] 27 (by kernel_rfl) rfl (by kernel_rfl) (by rfl) (fun w1 => ?_) (fun w1 hw1 => ?_) ?_
      · simp only [pk, nthSp, lexVals]
        rfl
      · simp only [pk, nthSp, lexVals]
        go_simp
        exact ⟨Ext.refl _, rfl⟩
      refine lx_ge (.bool false) [(7, 29), (0, 36), (9, 27)] 27 (by kernel_rfl) rfl (by kernel_rfl) (by rfl) (fun w1 => ?_) (fun w1 hw1 => ?_) ?_
      · simp only [pk, nthSp, lexVals]
        rfl
      · simp only [pk, nthSp, lexVals]
        go_simp
        exact ⟨Ext.refl _, rfl⟩
      refine lx_ge (.bool false) [(10, 27), (0, 37), (20, 17)] 17 (by kernel_rfl) rfl (by kernel_rfl) (by rfl) (fun w1 => ?_) (fun w1 hw1 => ?_) ?_
      · simp only [pk, nthSp, lexVals]
        rfl
      · simp only [pk, nthSp, lexVals]
        go_simp
        exact ⟨Ext.refl _, rfl⟩
      refine lx_ge (.bool false) [(0, 38), (21, 17)] 17 (by kernel_rfl) rfl (by kernel_rfl) (by rfl) (fun w1 => ?_) (fun w1 hw1 => ?_) ?_
      · simp only [pk, nthSp, lexVals]
        rfl
      · simp only [pk, nthSp, lexVals]
        go_simp
        exact ⟨Ext.refl _, rfl⟩
      refine lx_ge (.pointer (some ⟨p, 2, none⟩)) [(0, 39)] 39 (by kernel_rfl) rfl (by kernel_rfl) (by rfl) (fun w1 => ?_) (fun w1 hw1 => ?_) ?_
      · simp only [pk, nthSp, lexVals]
        rfl
      · simp only [pk, nthSp, lexVals]
        go_simp
        exact ⟨Ext.refl _, rfl⟩
      refine lx_ge (.agg (rowArr 32 fun j => .int .u8 (PX j))) [(0, 40), (1, 39)] 39 (by kernel_rfl) rfl (by kernel_rfl) (by rfl) (fun w1 => ?_) (fun w1 hw1 => ?_) ?_
      · simp only [pk, nthSp, lexVals]
        rfl
      · simp only [pk, nthSp, lexVals]
        exact lu_sub rfl rfl Tryd.underlying29 (size_h32 w1) (HXp.out w1 (HX0.out w1 hw1))
      refine lx_ge (.slice (some ⟨b, off, none⟩) n c) [(2, 39)] 39 (by kernel_rfl) rfl (by kernel_rfl) (by rfl) (fun w1 => ?_) (fun w1 hw1 => ?_) ?_
      · simp only [pk, nthSp, lexVals]
        rfl
      · simp only [pk, nthSp, lexVals]
        go_simp
        exact ⟨Ext.refl _, rfl⟩
      refine lx_ge (.int .i64 (m : Int)) [(3, 39)] 39 (by kernel_rfl) rfl (by kernel_rfl) (by rfl) (fun w1 => ?_) (fun w1 hw1 => ?_) ?_
      · simp only [pk, nthSp, lexVals]
        rfl
      · simp only [pk, nthSp, lexVals]
        go_simp
        exact ⟨Ext.refl _, rfl⟩
      refine lx_ge (.int .i64 (q : Int)) [(0, 43), (4, 39)] 39 (by kernel_rfl) rfl (by kernel_rfl) (by rfl) (fun w1 => ?_) (fun w1 hw1 => ?_) ?_
      · simp only [pk, nthSp, lexVals]
        rfl
      · simp only [pk, nthSp, lexVals]
        go_simp
        exact ⟨Ext.refl _, rfl⟩
      refine lx_ge (.pointer (some ⟨b, off + q * 125, none⟩)) [(2, 42), (0, 44), (5, 39)] 39 (by kernel_rfl) rfl (by kernel_rfl) (by rfl) (fun w1 => ?_) (fun w1 hw1 => ?_) ?_
      · simp only [pk, nthSp, lexVals]
        rfl
      · simp only [pk, nthSp, lexVals]
        exact lu_hidx rfl rfl rfl Hq.out
      refine lx_ge (.agg A) [(0, 45), (6, 39)] 39 (by kernel_rfl) rfl (by kernel_rfl) (by rfl) (fun w1 => ?_) (fun w1 hw1 => ?_) ?_
      · simp only [pk, nthSp, lexVals]
        rfl
      · simp only [pk, nthSp, lexVals]
        rw [← HAe.out]
        exact lu_hmid rfl rfl (HYr.out w1 (HX1.out w1 hw1))
      refine lx_ge (.agg (rowArr 32 fun j => .int .u8 (PY j))) [(0, 46), (7, 39)] 39 (by kernel_rfl) rfl (by kernel_rfl) (by rfl) (fun w1 => ?_) (fun w1 hw1 => ?_) ?_
      · simp only [pk, nthSp, lexVals]
        rfl
      · simp only [pk, nthSp, lexVals]
        have HM := Lib.hid (HHs.out w1 (HX1.out w1 hw1))
        clear hw1
        go_simp
        refine HM.out.mono ?_
        rintro e w2 ⟨rfl, hE2⟩
        exact ⟨_, rfl, hE2, rfl⟩
      refine lx_ge (.bool true) [(6, 41), (0, 47), (8, 39)] 39 (by kernel_rfl) rfl (by kernel_rfl) (by rfl) (fun w1 => ?_) (fun w1 hw1 => ?_) ?_
      · simp only [pk, nthSp, lexVals]
        rfl
      · simp only [pk, nthSp, lexVals]
        go_simp
        exact ⟨Ext.refl _, rfl⟩
      refine lx_ge (.bool true) [(9, 39), (0, 48), (31, 17)] 17 (by kernel_rfl) rfl (by kernel_rfl) (by rfl) (fun w1 => ?_) (fun w1 hw1 => ?_) ?_
      · simp only [pk, nthSp, lexVals]
        rfl
      · simp only [pk, nthSp, lexVals]
        go_simp
        exact ⟨Ext.refl _, rfl⟩
      refine lx_e (.bool true) [(32, 17), (0, 49)] (by kernel_rfl) rfl (by rfl) (fun w1 hw1 => ?_) ?_
      · simp only [pk, nthSp, lexVals]
        go_simp
        exact ⟨Ext.refl _, rfl⟩
      refine lx_stopA (by rfl) fun w5 hw5 => ?_
      have HE5 := Lib.hid (HX1.out w5 hw5)
      clear hw5 HX0 HX1
      simp only [rv, pf, lexVals]
      simp only [Act.put, List.setIfInBounds_toArray, List.set_cons_zero, List.set_cons_succ]
      go_wp2_with fail
      go_ret
      exact ⟨by first | rfl | (rw [hR]; rfl), HE5.out⟩
    | true =>
      have HR := Lib.hid (show R = F (m + 1) by rw [hs]; rfl)
      clear hs
      go_upto_region 6 with (fail)
      have HX0 := Lib.hid (show ∀ x, Ext w4.drew x → Ext w4 x from fun x hx => Ext.trans (Ext.refl w4).drew hx)
      have HX1 := Lib.hid (show ∀ x, Ext w4.drew x → Ext w x from fun x hx => HE4.out.trans (HX0.out x hx))
      refine wp_region_lexA (by kernel_rfl) (by kernel_rfl) ?_
      refine lx_e (.int .i64 (m : Int)) [] (by kernel_rfl) rfl (by rfl) (fun w1 hw1 => ?_) ?_
      · simp only [pk, lexVals]
        go_simp
        exact ⟨Ext.refl _, rfl⟩
      refine lx_e (.bool true) [(0, 15)] (by kernel_rfl) rfl (by rfl) (fun w1 hw1 => ?_) ?_
      · simp only [pk, nthSp, lexVals]
        go_simp
        exact ⟨Ext.refl _, rfl⟩
      refine lx_e (.bool true) [(0, 16)] (by kernel_rfl) rfl (by rfl) (fun w1 hw1 => ?_) ?_
      · simp only [pk, nthSp, lexVals]
        go_simp
        exact ⟨Ext.refl _, rfl⟩
      refine lx_ge (.pointer (some ⟨p, 0, none⟩)) [(0, 17)] 17 (by kernel_rfl) rfl (by kernel_rfl) (by rfl) (fun w1 => ?_) (fun w1 hw1 => ?_) ?_
      · simp only [pk, nthSp, lexVals]
        rfl
      · simp only [pk, nthSp, lexVals]
        go_simp
        exact ⟨Ext.refl _, rfl⟩
      refine lx_ge (.int .i64 xw) [(0, 18), (1, 17)] 17 (by kernel_rfl) rfl (by kernel_rfl) (by rfl) (fun w1 => ?_) (fun w1 hw1 => ?_) ?_
      · simp only [pk, nthSp, lexVals]
        rfl
      · simp only [pk, nthSp, lexVals]
        have hc := HXw.out w1 (HX0.out w1 hw1)
        clear hw1
        go_simp
        exact ⟨Ext.refl _, rfl⟩
      refine lx_ge (.slice (some ⟨b, off, none⟩) n c) [(2, 17)] 17 (by kernel_rfl) rfl (by kernel_rfl) (by rfl) (fun w1 => ?_) (fun w1 hw1 => ?_) ?_
      · simp only [pk, nthSp, lexVals]
        rfl
      · simp only [pk, nthSp, lexVals]
        go_simp
        exact ⟨Ext.refl _, rfl⟩
      refine lx_ge (.int .i64 (m : Int)) [(3, 17)] 17 (by kernel_rfl) rfl (by kernel_rfl) (by rfl) (fun w1 => ?_) (fun w1 hw1 => ?_) ?_
      · simp only [pk, nthSp, lexVals]
        rfl
      · simp only [pk, nthSp, lexVals]
        go_simp
        exact ⟨Ext.refl _, rfl⟩
      refine lx_ge (.int .i64 (q : Int)) [(0, 21), (4, 17)] 17 (by kernel_rfl) rfl (by kernel_rfl) (by rfl) (fun w1 => ?_) (fun w1 hw1 => ?_) ?_
      · simp only [pk, nthSp, lexVals]
        rfl
      · simp only [pk, nthSp, lexVals]
        go_simp
        exact ⟨Ext.refl _, rfl⟩
      refine lx_ge (.pointer (some ⟨b, off + q * 125, none⟩)) [(2, 20), (0, 22), (5, 17)] 17 (by kernel_rfl) rfl (by kernel_rfl) (by rfl) (fun w1 => ?_) (fun w1 hw1 => ?_) ?_
      · simp only [pk, nthSp, lexVals]
        rfl
      · simp only [pk, nthSp, lexVals]
        exact lu_hidx rfl rfl rfl Hq.out
      refine lx_ge (.pointer (some ⟨b, off + q * 125, none⟩)) [(0, 23), (6, 17)] 17 (by kernel_rfl) rfl (by kernel_rfl) (by rfl) (fun w1 => ?_) (fun w1 hw1 => ?_) ?_
      · simp only [pk, nthSp, lexVals]
        rfl
      · simp only [pk, nthSp, lexVals]
        go_simp
        exact ⟨Ext.refl _, rfl⟩
      refine lx_ge (.int .i64 xw) [(0, 24), (7, 17)] 17 (by kernel_rfl) rfl (by kernel_rfl) (by rfl) (fun w1 => ?_) (fun w1 hw1 => ?_) ?_
      · simp only [pk, nthSp, lexVals]
        rfl
      · simp only [pk, nthSp, lexVals]
        have hc := HYw.out w1 (HX1.out w1 hw1)
        clear hw1
        go_simp
        exact ⟨Ext.refl _, rfl⟩
      refine lx_ge (.bool false) [(6, 19), (0, 25), (8, 17)] 17 (by kernel_rfl) rfl (by kernel_rfl) (by rfl) (fun w1 => ?_) (fun w1 hw1 => ?_) ?_
      · simp only [pk, nthSp, lexVals]
        rfl
      · simp only [pk, nthSp, lexVals]
        go_simp
        exact ⟨Ext.refl _, rfl⟩
      refine lx_ge (.bool false) [(0, 26), (9, 17)] 17 (by kernel_rfl) rfl (by kernel_rfl) (by rfl) (fun w1 => ?_) (fun w1 hw1 => ?_) ?_
      · simp only [pk, nthSp, lexVals]
        rfl
      · simp only [pk, nthSp, lexVals]
        go_simp
        exact ⟨Ext.refl _, rfl⟩
      refine lx_ge (.pointer (some ⟨p, 1, none⟩)) [(0, 27)] 27 (by kernel_rfl) rfl (by kernel_rfl) (by rfl) (fun w1 => ?_) (fun w1 hw1 => ?_) ?_
      · simp only [pk, nthSp, lexVals]
        rfl
      · simp only [pk, nthSp, lexVals]
        go_simp
        exact ⟨Ext.refl _, rfl⟩
      refine lx_ge (.int .u64 xs) [(0, 28), (1, 27)] 27 (by kernel_rfl) rfl (by kernel_rfl) (by rfl) (fun w1 => ?_) (fun w1 hw1 => ?_) ?_
      · simp only [pk, nthSp, lexVals]
        rfl
      · simp only [pk, nthSp, lexVals]
        have hc := HXs.out w1 (HX0.out w1 hw1)
        clear hw1
        go_simp
        exact ⟨Ext.refl _, rfl⟩
      refine lx_ge (.slice (some ⟨b, off, none⟩) n c) [(2, 27)] 27 (by kernel_rfl) rfl (by kernel_rfl) (by rfl) (fun w1 => ?_) (fun w1 hw1 => ?_) ?_
      · simp only [pk, nthSp, lexVals]
        rfl
      · simp only [pk, nthSp, lexVals]
        go_simp
        exact ⟨Ext.refl _, rfl⟩
      refine lx_ge (.int .i64 (m : Int)) [(3, 27)] 27 (by kernel_rfl) rfl (by kernel_rfl) (by rfl) (fun w1 => ?_) (fun w1 hw1 => ?_) ?_
      · simp only [pk, nthSp, lexVals]
        rfl
      · simp only [pk, nthSp, lexVals]
        go_simp
        exact ⟨Ext.refl _, rfl⟩
      refine lx_ge (.int .i64 (q : Int)) [(0, 31), (4, 27)] 27 (by kernel_rfl) rfl (by kernel_rfl) (by rfl) (fun w1 => ?_) (fun w1 hw1 => ?_) ?_
      · simp only [pk, nthSp, lexVals]
        rfl
      · simp only [pk, nthSp, lexVals]
        go_simp
        exact ⟨Ext.refl _, rfl⟩
      refine lx_ge (.pointer (some ⟨b, off + q * 125, none⟩)) [(2, 30), (0, 32), (5, 27)] 27 (by kernel_rfl) rfl (by kernel_rfl) (by rfl) (fun w1 => ?_) (fun w1 hw1 => ?_) ?_
      · simp only [pk, nthSp, lexVals]
        rfl
      · simp only [pk, nthSp, lexVals]
        exact lu_hidx rfl rfl rfl Hq.out
      refine lx_ge (.pointer (some ⟨b, off + q * 125 + 1, none⟩)) [(0, 33), (6, 27)] 27 (by kernel_rfl) rfl (by kernel_rfl) (by rfl) (fun w1 => ?_) (fun w1 hw1 => ?_) ?_
      · simp only [pk, nthSp, lexVals]
        rfl
      · simp only [pk, nthSp, lexVals]
        go_simp
        exact ⟨Ext.refl _, rfl⟩
      refine lx_ge (.int .u64 ys) [(0, 34), (7, 27)] 27 (by kernel_rfl) rfl (by kernel_rfl) (by rfl) (fun w1 => ?_) (fun w1 hw1 => ?_) ?_
      · simp only [pk, nthSp, lexVals]
        rfl
      · simp only [pk, nthSp, lexVals]
        have hc := HYs.out w1 (HX1.out w1 hw1)
        clear hw1
        go_simp
        exact ⟨Ext.refl _, rfl⟩
      refine lx_ge (.int .u64 xs) [(0, 35), (8, 27)] 27 (by kernel_rfl) rfl (by kernel_rfl) (by rfl) (fun w1 => ?_) (fun w1 hw1 => ?_) ?_
      · simp only [pk, nthSp, lexVals]
        rfl
      · simp only [pk, nthSp, lexVals]
        go_simp
        exact ⟨Ext.refl _, rfl⟩
      refine lx_ge (.bool false) [(7, 29), (0, 36), (9, 27)] 27 (by kernel_rfl) rfl (by kernel_rfl) (by rfl) (fun w1 => ?_) (fun w1 hw1 => ?_) ?_
      · simp only [pk, nthSp, lexVals]
        rfl
      · simp only [pk, nthSp, lexVals]
        go_simp
        exact ⟨Ext.refl _, rfl⟩
      refine lx_ge (.bool false) [(10, 27), (0, 37), (20, 17)] 17 (by kernel_rfl) rfl (by kernel_rfl) (by rfl) (fun w1 => ?_) (fun w1 hw1 => ?_) ?_
      · simp only [pk, nthSp, lexVals]
        rfl
      · simp only [pk, nthSp, lexVals]
        go_simp
        exact ⟨Ext.refl _, rfl⟩
      refine lx_ge (.bool false) [(0, 38), (21, 17)] 17 (by kernel_rfl) rfl (by kernel_rfl) (by rfl) (fun w1 => ?_) (fun w1 hw1 => ?_) ?_
      · simp only [pk, nthSp, lexVals]
        rfl
      · simp only [pk, nthSp, lexVals]
        go_simp
        exact ⟨Ext.refl _, rfl⟩
      refine lx_ge (.pointer (some ⟨p, 2, none⟩)) [(0, 39)] 39 (by kernel_rfl) rfl (by kernel_rfl) (by rfl) (fun w1 => ?_) (fun w1 hw1 => ?_) ?_
      · simp only [pk, nthSp, lexVals]
        rfl
      · simp only [pk, nthSp, lexVals]
        go_simp
        exact ⟨Ext.refl _, rfl⟩
      refine lx_ge (.agg (rowArr 32 fun j => .int .u8 (PX j))) [(0, 40), (1, 39)] 39 (by kernel_rfl) rfl (by kernel_rfl) (by rfl) (fun w1 => ?_) (fun w1 hw1 => ?_) ?_
      · simp only [pk, nthSp, lexVals]
        rfl
      · simp only [pk, nthSp, lexVals]
        exact lu_sub rfl rfl Tryd.underlying29 (size_h32 w1) (HXp.out w1 (HX0.out w1 hw1))
      refine lx_ge (.slice (some ⟨b, off, none⟩) n c) [(2, 39)] 39 (by kernel_rfl) rfl (by kernel_rfl) (by rfl) (fun w1 => ?_) (fun w1 hw1 => ?_) ?_
      · simp only [pk, nthSp, lexVals]
        rfl
      · simp only [pk, nthSp, lexVals]
        go_simp
        exact ⟨Ext.refl _, rfl⟩
      refine lx_ge (.int .i64 (m : Int)) [(3, 39)] 39 (by kernel_rfl) rfl (by kernel_rfl) (by rfl) (fun w1 => ?_) (fun w1 hw1 => ?_) ?_
      · simp only [pk, nthSp, lexVals]
        rfl
      · simp only [pk, nthSp, lexVals]
        go_simp
        exact ⟨Ext.refl _, rfl⟩
      refine lx_ge (.int .i64 (q : Int)) [(0, 43), (4, 39)] 39 (by kernel_rfl) rfl (by kernel_rfl) (by rfl) (fun w1 => ?_) (fun w1 hw1 => ?_) ?_
      · simp only [pk, nthSp, lexVals]
        rfl
      · simp only [pk, nthSp, lexVals]
        go_simp
        exact ⟨Ext.refl _, rfl⟩
      refine lx_ge (.pointer (some ⟨b, off + q * 125, none⟩)) [(2, 42), (0, 44), (5, 39)] 39 (by kernel_rfl) rfl (by kernel_rfl) (by rfl) (fun w1 => ?_) (fun w1 hw1 => ?_) ?_
      · simp only [pk, nthSp, lexVals]
        rfl
      · simp only [pk, nthSp, lexVals]
        exact lu_hidx rfl rfl rfl Hq.out
      refine lx_ge (.agg A) [(0, 45), (6, 39)] 39 (by kernel_rfl) rfl (by kernel_rfl) (by rfl) (fun w1 => ?_) (fun w1 hw1 => ?_) ?_
      · simp only [pk, nthSp, lexVals]
        rfl
      · simp only [pk, nthSp, lexVals]
        rw [← HAe.out]
        exact lu_hmid rfl rfl (HYr.out w1 (HX1.out w1 hw1))
      refine lx_ge (.agg (rowArr 32 fun j => .int .u8 (PY j))) [(0, 46), (7, 39)] 39 (by kernel_rfl) rfl (by kernel_rfl) (by rfl) (fun w1 => ?_) (fun w1 hw1 => ?_) ?_
      · simp only [pk, nthSp, lexVals]
        rfl
      · simp only [pk, nthSp, lexVals]
        have HM := Lib.hid (HHs.out w1 (HX1.out w1 hw1))
        clear hw1
        go_simp
        refine HM.out.mono ?_
        rintro e w2 ⟨rfl, hE2⟩
        exact ⟨_, rfl, hE2, rfl⟩
      refine lx_ge (.bool false) [(6, 41), (0, 47), (8, 39)] 39 (by kernel_rfl) rfl (by kernel_rfl) (by rfl) (fun w1 => ?_) (fun w1 hw1 => ?_) ?_
      · simp only [pk, nthSp, lexVals]
        rfl
      · simp only [pk, nthSp, lexVals]
        go_simp
        exact ⟨Ext.refl _, rfl⟩
      refine lx_ge (.bool false) [(9, 39), (0, 48), (31, 17)] 17 (by kernel_rfl) rfl (by kernel_rfl) (by rfl) (fun w1 => ?_) (fun w1 hw1 => ?_) ?_
      · simp only [pk, nthSp, lexVals]
        rfl
      · simp only [pk, nthSp, lexVals]
        go_simp
        exact ⟨Ext.refl _, rfl⟩
      refine lx_e (.bool false) [(32, 17), (0, 49)] (by kernel_rfl) rfl (by rfl) (fun w1 hw1 => ?_) ?_
      · simp only [pk, nthSp, lexVals]
        go_simp
        exact ⟨Ext.refl _, rfl⟩
      refine lx_stopA (by rfl) fun w5 hw5 => ?_
      have HE5 := Lib.hid (HX1.out w5 hw5)
      clear hw5 HX0 HX1
      simp only [rv, pf, lexVals]
      simp only [Act.put, List.setIfInBounds_toArray, List.set_cons_zero, List.set_cons_succ]
      go_wp2_with fail
      go_roundw
      case rel => exact ⟨m + 1, by omega, by go_num, HR.out.symm, HE5.out⟩
      case measure => simp [intOf]; omega

set_option maxHeartbeats 8000000 in
set_option maxRecDepth 100000 in
theorem refLinked_any (a : Option Addr) (n c : Nat) (l : List HT) (w : World) (h : HsAt w a n c l) (hk : KsAt 0 w) :
    Calls Tryd.prog 25 #[.slice a n c] w fun e w' => e = .returned (.bool (lkFrom l n 0)) ∧ Ext w w' := by
  have hsm := h.small
  have hl := h.len
  have H := Lib.hid h
  have HK := Lib.hid hk
  have kne := neq_h
  have Hst := Lib.hid (fun k hk => lkFrom_step l n k hk)
  have Hen := Lib.hid (lkFrom_end l n)
  obtain ⟨F, hF⟩ : ∃ F, lkFrom l n = F := ⟨_, rfl⟩
  rw [hF] at Hst Hen ⊢
  obtain ⟨R, hR⟩ : ∃ R, F 0 = R := ⟨_, rfl⟩
  have H0 := Lib.hid hR
  rw [hR]
  clear h hk hF hR hl
  go_enter Tryd.func25, Tryd.ntmps25
  go_wp2
  go_loopw [3] (fun i wr => ∃ m : Nat, m ≤ n ∧ i = .int .i64 (m : Int) ∧ F m = R ∧ Ext w wr) (fun i _ => n - (intOf i).toNat)
  case atStart => exact ⟨0, Nat.zero_le _, rfl, H0.out, Ext.refl _⟩
  case round =>
    obtain ⟨m, hm, rfl, hr, hE⟩ := hrel
    have HE := Lib.hid hE
    by_cases hlt : m < n
    case neg =>
      obtain rfl : m = n := by omega
      have x1 : ¬ (m : Int) < (m : Int) := by omega
      have hR : R = true := by rw [← hr]; exact Hen.out
      clear hE
      go_wp2
      go_ret
      exact ⟨by first | rfl | (rw [hR]; rfl), HE.out⟩
    have x1 : (m : Int) < (n : Int) := by omega
    have x2 : (0 : Int) ≤ (m : Int) := by omega
    have hs := Hst.out m hlt
    rw [hr] at hs
    obtain ⟨b, off, rfl, hcell⟩ := H.out.at_ (by omega)
    obtain ⟨x, hx⟩ : ∃ x, l.getD m htN = x := ⟨_, rfl⟩
    have HXt := Lib.hid (show HtAt w x by rw [← hx]; exact H.out.get m hlt)
    have HXc := Lib.hid (show ∀ w1, Ext w w1 → ∀ j, j < 125 → w1.cell? ⟨b, off + m * 125 + j, none⟩ = some (hdC x.1 j) from fun w1 h1 j hj => by
      have h2 := hcell m hlt j hj
      rw [hx] at h2
      rw [Ext.cell h1 (World.block_lt_of_cell? w _ h2)]
      exact h2)
    have HFo := Lib.hid (fun w9 (h9 : Ext w w9) => refHd_any x.1 x.2 w9 HXt.out.ok (HXt.out.toks.ext h9))
    unfold lkJ at hs
    rw [hx] at hs
    have Hr := Lib.hid (range_hd (HXc.out wr hE))
    obtain ⟨Fm, hFm⟩ : ∃ f, hdB x.1 x.2 = f := ⟨_, rfl⟩
    rw [hFm] at hs HFo
    obtain ⟨AX, hAX⟩ : ∃ AX, hdV x.1 = AX := ⟨_, rfl⟩
    have HAX := Lib.hid hAX
    have Hsz := Lib.hid (hdV_size x.1)
    have Hall := Lib.hid (hdV_one x.1)
    rw [hAX] at HFo Hsz Hall
    have hdl : (hdL x.1).toArray = AX := by rw [hdL_arr, hAX]
    have Hdl := Lib.hid hdl
    clear hx hFm hAX hdl hr
    clear hE
    go_wp2_with (refine wpList_load_mid rfl 35 _ rfl b (off + m * 125) rfl (hdL x.1) _ Hr.out Tryd.underlying35 rfl (by rw [hdL_length]; kernel_rfl) ?_; rw [Hdl.out])
    refine (HFo.out wr HE.out).mono ?_
    rintro e w4 ⟨rfl, hE⟩
    have HE4 := Lib.hid (HE.out.trans hE)
    clear hE
    cases Fm with
    | false =>
      have hR : R = false := by rw [hs]; rfl
      clear hs
      go_wp2
      go_ret
      exact ⟨by first | rfl | (rw [hR]; rfl), HE4.out⟩
    | true =>
    rw [Bool.true_and] at hs
    by_cases hz : m = 0
    · have HR := Lib.hid (show R = F (m + 1) by rw [hs, decide_eq_true hz]; simp)
      have x3 : ¬ (0 : Int) < (m : Int) := by omega
      have x4 : ¬ 0 < m := by omega
      have x5 : decide (0 < m) = false := decide_eq_false x4
      clear hs
      go_upto_region 6 with (fail)
      have HX0 := Lib.hid (show ∀ x, Ext w4.drew x → Ext w4 x from fun x hx => Ext.trans (Ext.refl w4).drew hx)
      have HX1 := Lib.hid (show ∀ x, Ext w4.drew x → Ext w x from fun x hx => HE4.out.trans (HX0.out x hx))
      refine wp_region_lexA (by kernel_rfl) (by kernel_rfl) ?_
      refine lx_e (.int .i64 (m : Int)) [] (by kernel_rfl) rfl (by rfl) (fun w1 hw1 => ?_) ?_
      · simp only [pk, lexVals]
        go_simp
        exact ⟨Ext.refl _, rfl⟩
      refine lx_e (.bool false) [(0, 16)] (by kernel_rfl) rfl (by rfl) (fun w1 hw1 => ?_) ?_
      · simp only [pk, nthSp, lexVals]
        go_simp
        exact ⟨Ext.refl _, rfl⟩
      refine lx_e (.bool false) [(0, 17)] (by kernel_rfl) rfl (by rfl) (fun w1 hw1 => ?_) ?_
      · simp only [pk, nthSp, lexVals]
        go_simp
        exact ⟨Ext.refl _, rfl⟩
      refine lx_no [(0, 18)] 18 (by kernel_rfl) rfl (by kernel_rfl) (by rfl) (fun w1 => ?_) ?_
      · simp only [pk, nthSp, lexVals]
        first | (go_simp; done) | (go_simp; exact fun h => by cases h)
      refine lx_no [(1, 18)] 18 (by kernel_rfl) rfl (by kernel_rfl) (by rfl) (fun w1 => ?_) ?_
      · simp only [pk, nthSp, lexVals]
        first | (go_simp; done) | (go_simp; exact fun h => by cases h)
      refine lx_no [(1, 19), (0, 20), (2, 18)] 18 (by kernel_rfl) rfl (by kernel_rfl) (by rfl) (fun w1 => ?_) ?_
      · simp only [pk, nthSp, lexVals]
        first | (go_simp; done) | (go_simp; exact fun h => by cases h)
      refine lx_no [(0, 21), (3, 18)] 18 (by kernel_rfl) rfl (by kernel_rfl) (by rfl) (fun w1 => ?_) ?_
      · simp only [pk, nthSp, lexVals]
        first | (go_simp; done) | (go_simp; exact fun h => by cases h)
      refine lx_no [(0, 22), (4, 18)] 18 (by kernel_rfl) rfl (by kernel_rfl) (by rfl) (fun w1 => ?_) ?_
      · simp only [pk, nthSp, lexVals]
        first | (go_simp; done) | (go_simp; exact fun h => by cases h)
      refine lx_no [(5, 18)] 18 (by kernel_rfl) rfl (by kernel_rfl) (by rfl) (fun w1 => ?_) ?_
      · simp only [pk, nthSp, lexVals]
        first | (go_simp; done) | (go_simp; exact fun h => by cases h)
      refine lx_no [(6, 18)] 18 (by kernel_rfl) rfl (by kernel_rfl) (by rfl) (fun w1 => ?_) ?_
      · simp only [pk, nthSp, lexVals]
        first | (go_simp; done) | (go_simp; exact fun h => by cases h)
      refine lx_no [(0, 25), (7, 18)] 18 (by kernel_rfl) rfl (by kernel_rfl) (by rfl) (fun w1 => ?_) ?_
      · simp only [pk, nthSp, lexVals]
        first | (go_simp; done) | (go_simp; exact fun h => by cases h)
      refine lx_no [(2, 24), (0, 26), (8, 18)] 18 (by kernel_rfl) rfl (by kernel_rfl) (by rfl) (fun w1 => ?_) ?_
      · simp only [pk, nthSp, lexVals]
        first | (go_simp; done) | (go_simp; exact fun h => by cases h)
      refine lx_no [(0, 27), (9, 18)] 18 (by kernel_rfl) rfl (by kernel_rfl) (by rfl) (fun w1 => ?_) ?_
      · simp only [pk, nthSp, lexVals]
        first | (go_simp; done) | (go_simp; exact fun h => by cases h)
      refine lx_no [(0, 28), (10, 18)] 18 (by kernel_rfl) rfl (by kernel_rfl) (by rfl) (fun w1 => ?_) ?_
      · simp only [pk, nthSp, lexVals]
        first | (go_simp; done) | (go_simp; exact fun h => by cases h)
      refine lx_no [(6, 23), (0, 29), (11, 18)] 18 (by kernel_rfl) rfl (by kernel_rfl) (by rfl) (fun w1 => ?_) ?_
      · simp only [pk, nthSp, lexVals]
        first | (go_simp; done) | (go_simp; exact fun h => by cases h)
      refine lx_no [(0, 30), (12, 18)] 18 (by kernel_rfl) rfl (by kernel_rfl) (by rfl) (fun w1 => ?_) ?_
      · simp only [pk, nthSp, lexVals]
        first | (go_simp; done) | (go_simp; exact fun h => by cases h)
      refine lx_no [(0, 31)] 31 (by kernel_rfl) rfl (by kernel_rfl) (by rfl) (fun w1 => ?_) ?_
      · simp only [pk, nthSp, lexVals]
        first | (go_simp; done) | (go_simp; exact fun h => by cases h)
      refine lx_no [(1, 31)] 31 (by kernel_rfl) rfl (by kernel_rfl) (by rfl) (fun w1 => ?_) ?_
      · simp only [pk, nthSp, lexVals]
        first | (go_simp; done) | (go_simp; exact fun h => by cases h)
      refine lx_no [(1, 32), (0, 33), (2, 31)] 31 (by kernel_rfl) rfl (by kernel_rfl) (by rfl) (fun w1 => ?_) ?_
      · simp only [pk, nthSp, lexVals]
        first | (go_simp; done) | (go_simp; exact fun h => by cases h)
      refine lx_no [(0, 34), (3, 31)] 31 (by kernel_rfl) rfl (by kernel_rfl) (by rfl) (fun w1 => ?_) ?_
      · simp only [pk, nthSp, lexVals]
        first | (go_simp; done) | (go_simp; exact fun h => by cases h)
      refine lx_no [(0, 35), (4, 31)] 31 (by kernel_rfl) rfl (by kernel_rfl) (by rfl) (fun w1 => ?_) ?_
      · simp only [pk, nthSp, lexVals]
        first | (go_simp; done) | (go_simp; exact fun h => by cases h)
      refine lx_no [(5, 31)] 31 (by kernel_rfl) rfl (by kernel_rfl) (by rfl) (fun w1 => ?_) ?_
      · simp only [pk, nthSp, lexVals]
        first | (go_simp; done) | (go_simp; exact fun h => by cases h)
      refine lx_no [(6, 31)] 31 (by kernel_rfl) rfl (by kernel_rfl) (by rfl) (fun w1 => ?_) ?_
      · simp only [pk, nthSp, lexVals]
        first | (go_simp; done) | (go_simp; exact fun h => by cases h)
      refine lx_no [(0, 38), (7, 31)] 31 (by kernel_rfl) rfl (by kernel_rfl) (by rfl) (fun w1 => ?_) ?_
      · simp only [pk, nthSp, lexVals]
        first | (go_simp; done) | (go_simp; exact fun h => by cases h)
      refine lx_no [(2, 37), (0, 39), (8, 31)] 31 (by kernel_rfl) rfl (by kernel_rfl) (by rfl) (fun w1 => ?_) ?_
      · simp only [pk, nthSp, lexVals]
        first | (go_simp; done) | (go_simp; exact fun h => by cases h)
      refine lx_no [(0, 40), (9, 31)] 31 (by kernel_rfl) rfl (by kernel_rfl) (by rfl) (fun w1 => ?_) ?_
      · simp only [pk, nthSp, lexVals]
        first | (go_simp; done) | (go_simp; exact fun h => by cases h)
      refine lx_no [(0, 41), (10, 31)] 31 (by kernel_rfl) rfl (by kernel_rfl) (by rfl) (fun w1 => ?_) ?_
      · simp only [pk, nthSp, lexVals]
        first | (go_simp; done) | (go_simp; exact fun h => by cases h)
      refine lx_no [(0, 42), (11, 31)] 31 (by kernel_rfl) rfl (by kernel_rfl) (by rfl) (fun w1 => ?_) ?_
      · simp only [pk, nthSp, lexVals]
        first | (go_simp; done) | (go_simp; exact fun h => by cases h)
      refine lx_no [(7, 36), (0, 43), (12, 31)] 31 (by kernel_rfl) rfl (by kernel_rfl) (by rfl) (fun w1 => ?_) ?_
      · simp only [pk, nthSp, lexVals]
        first | (go_simp; done) | (go_simp; exact fun h => by cases h)
      refine lx_no [(13, 31), (0, 44), (26, 18)] 18 (by kernel_rfl) rfl (by kernel_rfl) (by rfl) (fun w1 => ?_) ?_
      · simp only [pk, nthSp, lexVals]
        first | (go_simp; done) | (go_simp; exact fun h => by cases h)
      refine lx_no [(0, 45), (27, 18)] 18 (by kernel_rfl) rfl (by kernel_rfl) (by rfl) (fun w1 => ?_) ?_
      · simp only [pk, nthSp, lexVals]
        first | (go_simp; done) | (go_simp; exact fun h => by cases h)
      refine lx_no [(0, 46)] 46 (by kernel_rfl) rfl (by kernel_rfl) (by rfl) (fun w1 => ?_) ?_
      · simp only [pk, nthSp, lexVals]
        first | (go_simp; done) | (go_simp; exact fun h => by cases h)
      refine lx_no [(1, 46)] 46 (by kernel_rfl) rfl (by kernel_rfl) (by rfl) (fun w1 => ?_) ?_
      · simp only [pk, nthSp, lexVals]
        first | (go_simp; done) | (go_simp; exact fun h => by cases h)
      refine lx_no [(1, 47), (0, 48), (2, 46)] 46 (by kernel_rfl) rfl (by kernel_rfl) (by rfl) (fun w1 => ?_) ?_
      · simp only [pk, nthSp, lexVals]
        first | (go_simp; done) | (go_simp; exact fun h => by cases h)
      refine lx_no [(0, 49), (3, 46)] 46 (by kernel_rfl) rfl (by kernel_rfl) (by rfl) (fun w1 => ?_) ?_
      · simp only [pk, nthSp, lexVals]
        first | (go_simp; done) | (go_simp; exact fun h => by cases h)
      refine lx_no [(0, 50), (4, 46)] 46 (by kernel_rfl) rfl (by kernel_rfl) (by rfl) (fun w1 => ?_) ?_
      · simp only [pk, nthSp, lexVals]
        first | (go_simp; done) | (go_simp; exact fun h => by cases h)
      refine lx_no [(5, 46)] 46 (by kernel_rfl) rfl (by kernel_rfl) (by rfl) (fun w1 => ?_) ?_
      · simp only [pk, nthSp, lexVals]
        first | (go_simp; done) | (go_simp; exact fun h => by cases h)
      refine lx_no [(6, 46)] 46 (by kernel_rfl) rfl (by kernel_rfl) (by rfl) (fun w1 => ?_) ?_
      · simp only [pk, nthSp, lexVals]
        first | (go_simp; done) | (go_simp; exact fun h => by cases h)
      refine lx_no [(0, 53), (7, 46)] 46 (by kernel_rfl) rfl (by kernel_rfl) (by rfl) (fun w1 => ?_) ?_
      · simp only [pk, nthSp, lexVals]
        first | (go_simp; done) | (go_simp; exact fun h => by cases h)
      refine lx_no [(2, 52), (0, 54), (8, 46)] 46 (by kernel_rfl) rfl (by kernel_rfl) (by rfl) (fun w1 => ?_) ?_
      · simp only [pk, nthSp, lexVals]
        first | (go_simp; done) | (go_simp; exact fun h => by cases h)
      refine lx_no [(0, 55), (9, 46)] 46 (by kernel_rfl) rfl (by kernel_rfl) (by rfl) (fun w1 => ?_) ?_
      · simp only [pk, nthSp, lexVals]
        first | (go_simp; done) | (go_simp; exact fun h => by cases h)
      refine lx_no [(0, 56), (10, 46)] 46 (by kernel_rfl) rfl (by kernel_rfl) (by rfl) (fun w1 => ?_) ?_
      · simp only [pk, nthSp, lexVals]
        first | (go_simp; done) | (go_simp; exact fun h => by cases h)
      refine lx_no [(6, 51), (0, 57), (11, 46)] 46 (by kernel_rfl) rfl (by kernel_rfl) (by rfl) (fun w1 => ?_) ?_
      · simp only [pk, nthSp, lexVals]
        first | (go_simp; done) | (go_simp; exact fun h => by cases h)
      refine lx_no [(12, 46), (0, 58), (40, 18)] 18 (by kernel_rfl) rfl (by kernel_rfl) (by rfl) (fun w1 => ?_) ?_
      · simp only [pk, nthSp, lexVals]
        first | (go_simp; done) | (go_simp; exact fun h => by cases h)
      refine lx_e (.bool false) [(41, 18), (0, 59)] (by kernel_rfl) rfl (by rfl) (fun w1 hw1 => ?_) ?_
      · simp only [pk, nthSp, lexVals]
        go_simp
        exact ⟨Ext.refl _, rfl⟩
      refine lx_stopA (by rfl) fun w5 hw5 => ?_
      have HE5 := Lib.hid (HX1.out w5 hw5)
      clear hw5 HX0 HX1
      simp only [rv, pf, lexVals]
      simp only [Act.put, List.setIfInBounds_toArray, List.set_cons_zero, List.set_cons_succ]
      go_wp2_with fail
      go_roundw
      case rel => exact ⟨m + 1, by omega, by go_num, HR.out.symm, HE5.out⟩
      case measure => simp [intOf]; omega
    obtain ⟨q, hq⟩ : ∃ q, m = q + 1 := ⟨m - 1, by omega⟩
    have hqn : q < n := by omega
    have Hq := Lib.hid hqn
    have Hm := Lib.hid hlt
    have x3 : (0 : Int) < (m : Int) := by omega
    have x4 : 0 < m := by omega
    have x5 : decide (0 < m) = true := decide_eq_true x4
    have wQ : IntKind.i64.wrap ((m : Int) - 1) = (q : Int) := by rw [IntKind.wrap_i64]; omega
    obtain ⟨y, hy⟩ : ∃ y, l.getD q htN = y := ⟨_, rfl⟩
    have HYt := Lib.hid (show HtAt w y by rw [← hy]; exact H.out.get q hqn)
    have HYc := Lib.hid (show ∀ w1, Ext w w1 → ∀ j, j < 125 → w1.cell? ⟨b, off + q * 125 + j, none⟩ = some (hdC y.1 j) from fun w1 h1 j hj => by
      have h2 := hcell q hqn j hj
      rw [hy] at h2
      rw [Ext.cell h1 (World.block_lt_of_cell? w _ h2)]
      exact h2)
    have HYr := Lib.hid (fun w1 (h1 : Ext w w1) => range_hd (HYc.out w1 h1))
    have HHs := Lib.hid (fun w9 (h9 : Ext w w9) => refHash12_any y.1 y.2 w9 HYt.out.ok (HYt.out.toks.ext h9) (hdKs_ext HK.out h9))
    rw [decide_eq_false hz, Bool.false_or, show m - 1 = q by omega, hy] at hs
    obtain ⟨A, hA⟩ : ∃ A, hdV y.1 = A := ⟨_, rfl⟩
    have HAe := Lib.hid hA
    rw [hA] at HHs
    obtain ⟨PY, hPY⟩ : ∃ P, shaF (bytesL y.1 y.2) = P := ⟨_, rfl⟩
    rw [hPY] at HHs hs
    obtain ⟨PX, hPX⟩ : ∃ P, x.1.prev = P := ⟨_, rfl⟩
    obtain ⟨xw, hxw⟩ : ∃ v, x.1.writer = v := ⟨_, rfl⟩
    obtain ⟨yw, hyw⟩ : ∃ v, y.1.writer = v := ⟨_, rfl⟩
    obtain ⟨xs, hxs⟩ : ∃ v, x.1.seq = v := ⟨_, rfl⟩
    obtain ⟨ys, hys⟩ : ∃ v, y.1.seq = v := ⟨_, rfl⟩
    obtain ⟨zs, hzs⟩ : ∃ v, IntKind.u64.wrap (ys + 1) = v := ⟨_, rfl⟩
    have Hzs := Lib.hid hzs
    have HXw := Lib.hid (show ∀ w1, Ext w w1 → w1.cell? ⟨b, off + m * 125, none⟩ = some (.int .i64 xw) from fun w1 h1 => by rw [← hxw]; exact HXc.out w1 h1 0 (by omega))
    have HXs := Lib.hid (show ∀ w1, Ext w w1 → w1.cell? ⟨b, off + m * 125 + 1, none⟩ = some (.int .u64 xs) from fun w1 h1 => by rw [← hxs]; exact HXc.out w1 h1 1 (by omega))
    have HXp := Lib.hid (show ∀ w1, Ext w w1 → ∀ j, j < 32 → w1.cell? ⟨b, off + m * 125 + 2 + j, none⟩ = some (.int .u8 (PX j)) from fun w1 h1 j hj => by rw [← hPX]; exact hd_mid_prev (HXc.out w1 h1) j hj)
    have HYw := Lib.hid (show ∀ w1, Ext w w1 → w1.cell? ⟨b, off + q * 125, none⟩ = some (.int .i64 yw) from fun w1 h1 => by rw [← hyw]; exact HYc.out w1 h1 0 (by omega))
    have HYs := Lib.hid (show ∀ w1, Ext w w1 → w1.cell? ⟨b, off + q * 125 + 1, none⟩ = some (.int .u64 ys) from fun w1 h1 => by rw [← hys]; exact HYc.out w1 h1 1 (by omega))
    rw [hxw, hyw, hxs, hys, hzs, hPX] at hs
    have kne2 := fun w => kne w PX PY
    clear hcell hy hA hPY hPX hxw hyw hxs hys hq hqn kne
    by_cases hW : xw = yw
    case neg =>
      have e1 : (xw == yw) = false := beq_eq_false_iff_ne.2 hW
      have e2 : (xw != yw) = true := bne_iff_ne.2 hW
      rw [e1] at hs
      have hR : R = false := by rw [hs]; rfl
      clear hs
      go_upto_region 6 with (fail)
      have HX0 := Lib.hid (show ∀ x, Ext w4.drew x → Ext w4 x from fun x hx => Ext.trans (Ext.refl w4).drew hx)
      have HX1 := Lib.hid (show ∀ x, Ext w4.drew x → Ext w x from fun x hx => HE4.out.trans (HX0.out x hx))
      refine wp_region_lexA (by kernel_rfl) (by kernel_rfl) ?_
      refine lx_e (.int .i64 (m : Int)) [] (by kernel_rfl) rfl (by rfl) (fun w1 hw1 => ?_) ?_
      · simp only [pk, lexVals]
        go_simp
        exact ⟨Ext.refl _, rfl⟩
      refine lx_e (.bool true) [(0, 16)] (by kernel_rfl) rfl (by rfl) (fun w1 hw1 => ?_) ?_
      · simp only [pk, nthSp, lexVals]
        go_simp
        exact ⟨Ext.refl _, rfl⟩
      refine lx_e (.bool true) [(0, 17)] (by kernel_rfl) rfl (by rfl) (fun w1 hw1 => ?_) ?_
      · simp only [pk, nthSp, lexVals]
        go_simp
        exact ⟨Ext.refl _, rfl⟩
      refine lx_ge (.slice (some ⟨b, off, none⟩) n c) [(0, 18)] 18 (by kernel_rfl) rfl (by kernel_rfl) (by rfl) (fun w1 => ?_) (fun w1 hw1 => ?_) ?_
      · simp only [pk, nthSp, lexVals]
        rfl
      · simp only [pk, nthSp, lexVals]
        go_simp
        exact ⟨Ext.refl _, rfl⟩
      refine lx_ge (.int .i64 (m : Int)) [(1, 18)] 18 (by kernel_rfl) rfl (by kernel_rfl) (by rfl) (fun w1 => ?_) (fun w1 hw1 => ?_) ?_
      · simp only [pk, nthSp, lexVals]
        rfl
      · simp only [pk, nthSp, lexVals]
        go_simp
        exact ⟨Ext.refl _, rfl⟩
      refine lx_ge (.pointer (some ⟨b, off + m * 125, none⟩)) [(1, 19), (0, 20), (2, 18)] 18 (by kernel_rfl) rfl (by kernel_rfl) (by rfl) (fun w1 => ?_) (fun w1 hw1 => ?_) ?_
      · simp only [pk, nthSp, lexVals]
        rfl
      · simp only [pk, nthSp, lexVals]
        exact lu_hidx rfl rfl rfl Hm.out
      refine lx_ge (.pointer (some ⟨b, off + m * 125, none⟩)) [(0, 21), (3, 18)] 18 (by kernel_rfl) rfl (by kernel_rfl) (by rfl) (fun w1 => ?_) (fun w1 hw1 => ?_) ?_
      · simp only [pk, nthSp, lexVals]
        rfl
      · simp only [pk, nthSp, lexVals]
        go_simp
        exact ⟨Ext.refl _, rfl⟩
      refine lx_ge (.int .i64 xw) [(0, 22), (4, 18)] 18 (by kernel_rfl) rfl (by kernel_rfl) (by rfl) (fun w1 => ?_) (fun w1 hw1 => ?_) ?_
      · simp only [pk, nthSp, lexVals]
        rfl
      · simp only [pk, nthSp, lexVals]
        have hc := HXw.out w1 (HX1.out w1 hw1)
        clear hw1
        go_simp
        exact ⟨Ext.refl _, rfl⟩
      refine lx_ge (.slice (some ⟨b, off, none⟩) n c) [(5, 18)] 18 (by kernel_rfl) rfl (by kernel_rfl) (by rfl) (fun w1 => ?_) (fun w1 hw1 => ?_) ?_
      · simp only [pk, nthSp, lexVals]
        rfl
      · simp only [pk, nthSp, lexVals]
        go_simp
        exact ⟨Ext.refl _, rfl⟩
      refine lx_ge (.int .i64 (m : Int)) [(6, 18)] 18 (by kernel_rfl) rfl (by kernel_rfl) (by rfl) (fun w1 => ?_) (fun w1 hw1 => ?_) ?_
      · simp only [pk, nthSp, lexVals]
        rfl
      · simp only [pk, nthSp, lexVals]
        go_simp
        exact ⟨Ext.refl _, rfl⟩
      refine lx_ge (.int .i64 (q : Int)) [(0, 25), (7, 18)] 18 (by kernel_rfl) rfl (by kernel_rfl) (by rfl) (fun w1 => ?_) (fun w1 hw1 => ?_) ?_
      · simp only [pk, nthSp, lexVals]
        rfl
      · simp only [pk, nthSp, lexVals]
        go_simp
        exact ⟨Ext.refl _, rfl⟩
      refine lx_ge (.pointer (some ⟨b, off + q * 125, none⟩)) [(2, 24), (0, 26), (8, 18)] 18 (by kernel_rfl) rfl (by kernel_rfl) (by rfl) (fun w1 => ?_) (fun w1 hw1 => ?_) ?_
      · simp only [pk, nthSp, lexVals]
        rfl
      · simp only [pk, nthSp, lexVals]
        exact lu_hidx rfl rfl rfl Hq.out
      refine lx_ge (.pointer (some ⟨b, off + q * 125, none⟩)) [(0, 27), (9, 18)] 18 (by kernel_rfl) rfl (by kernel_rfl) (by rfl) (fun w1 => ?_) (fun w1 hw1 => ?_) ?_
      · simp only [pk, nthSp, lexVals]
        rfl
      · simp only [pk, nthSp, lexVals]
        go_simp
        exact ⟨Ext.refl _, rfl⟩
      refine lx_ge (.int .i64 yw) [(0, 28), (10, 18)] 18 (by kernel_rfl) rfl (by kernel_rfl) (by rfl) (fun w1 => ?_) (fun w1 hw1 => ?_) ?_
      · simp only [pk, nthSp, lexVals]
        rfl
      · simp only [pk, nthSp, lexVals]
        have hc := HYw.out w1 (HX1.out w1 hw1)
        clear hw1
        go_simp
        exact ⟨Ext.refl _, rfl⟩
      refine lx_ge (.bool true) [(6, 23), (0, 29), (11, 18)] 18 (by kernel_rfl) rfl (by kernel_rfl) (by rfl) (fun w1 => ?_) (fun w1 hw1 => ?_) ?_
      · simp only [pk, nthSp, lexVals]
        rfl
      · simp only [pk, nthSp, lexVals]
        go_simp
        exact ⟨Ext.refl _, rfl⟩
      refine lx_ge (.bool true) [(0, 30), (12, 18)] 18 (by kernel_rfl) rfl (by kernel_rfl) (by rfl) (fun w1 => ?_) (fun w1 hw1 => ?_) ?_
      · simp only [pk, nthSp, lexVals]
        rfl
      · simp only [pk, nthSp, lexVals]
        go_simp
        exact ⟨Ext.refl _, rfl⟩
      refine lx_no [(0, 31)] 31 (by kernel_rfl) rfl (by kernel_rfl) (by rfl) (fun w1 => ?_) ?_
      · simp only [pk, nthSp, lexVals]
        first | (go_simp; done) | (go_simp; exact fun h => by cases h)
      refine lx_no [(1, 31)] 31 (by kernel_rfl) rfl (by kernel_rfl) (by rfl) (fun w1 => ?_) ?_
      · simp only [pk, nthSp, lexVals]
        first | (go_simp; done) | (go_simp; exact fun h => by cases h)
      refine lx_no [(1, 32), (0, 33), (2, 31)] 31 (by kernel_rfl) rfl (by kernel_rfl) (by rfl) (fun w1 => ?_) ?_
      · simp only [pk, nthSp, lexVals]
        first | (go_simp; done) | (go_simp; exact fun h => by cases h)
      refine lx_no [(0, 34), (3, 31)] 31 (by kernel_rfl) rfl (by kernel_rfl) (by rfl) (fun w1 => ?_) ?_
      · simp only [pk, nthSp, lexVals]
        first | (go_simp; done) | (go_simp; exact fun h => by cases h)
      refine lx_no [(0, 35), (4, 31)] 31 (by kernel_rfl) rfl (by kernel_rfl) (by rfl) (fun w1 => ?_) ?_
      · simp only [pk, nthSp, lexVals]
        first | (go_simp; done) | (go_simp; exact fun h => by cases h)
      refine lx_no [(5, 31)] 31 (by kernel_rfl) rfl (by kernel_rfl) (by rfl) (fun w1 => ?_) ?_
      · simp only [pk, nthSp, lexVals]
        first | (go_simp; done) | (go_simp; exact fun h => by cases h)
      refine lx_no [(6, 31)] 31 (by kernel_rfl) rfl (by kernel_rfl) (by rfl) (fun w1 => ?_) ?_
      · simp only [pk, nthSp, lexVals]
        first | (go_simp; done) | (go_simp; exact fun h => by cases h)
      refine lx_no [(0, 38), (7, 31)] 31 (by kernel_rfl) rfl (by kernel_rfl) (by rfl) (fun w1 => ?_) ?_
      · simp only [pk, nthSp, lexVals]
        first | (go_simp; done) | (go_simp; exact fun h => by cases h)
      refine lx_no [(2, 37), (0, 39), (8, 31)] 31 (by kernel_rfl) rfl (by kernel_rfl) (by rfl) (fun w1 => ?_) ?_
      · simp only [pk, nthSp, lexVals]
        first | (go_simp; done) | (go_simp; exact fun h => by cases h)
      refine lx_no [(0, 40), (9, 31)] 31 (by kernel_rfl) rfl (by kernel_rfl) (by rfl) (fun w1 => ?_) ?_
      · simp only [pk, nthSp, lexVals]
        first | (go_simp; done) | (go_simp; exact fun h => by cases h)
      refine lx_no [(0, 41), (10, 31)] 31 (by kernel_rfl) rfl (by kernel_rfl) (by rfl) (fun w1 => ?_) ?_
      · simp only [pk, nthSp, lexVals]
        first | (go_simp; done) | (go_simp; exact fun h => by cases h)
      refine lx_no [(0, 42), (11, 31)] 31 (by kernel_rfl) rfl (by kernel_rfl) (by rfl) (fun w1 => ?_) ?_
      · simp only [pk, nthSp, lexVals]
        first | (go_simp; done) | (go_simp; exact fun h => by cases h)
      refine lx_no [(7, 36), (0, 43), (12, 31)] 31 (by kernel_rfl) rfl (by kernel_rfl) (by rfl) (fun w1 => ?_) ?_
      · simp only [pk, nthSp, lexVals]
        first | (go_simp; done) | (go_simp; exact fun h => by cases h)
      refine lx_ge (.bool true) [(13, 31), (0, 44), (26, 18)] 18 (by kernel_rfl) rfl (by kernel_rfl) (by rfl) (fun w1 => ?_) (fun w1 hw1 => ?_) ?_
      · simp only [pk, nthSp, lexVals]
        rfl
      · simp only [pk, nthSp, lexVals]
        go_simp
        exact ⟨Ext.refl _, rfl⟩
      refine lx_ge (.bool true) [(0, 45), (27, 18)] 18 (by kernel_rfl) rfl (by kernel_rfl) (by rfl) (fun w1 => ?_) (fun w1 hw1 => ?_) ?_
      · simp only [pk, nthSp, lexVals]
        rfl
      · simp only [pk, nthSp, lexVals]
        go_simp
        exact ⟨Ext.refl _, rfl⟩
      refine lx_no [(0, 46)] 46 (by kernel_rfl) rfl (by kernel_rfl) (by rfl) (fun w1 => ?_) ?_
      · simp only [pk, nthSp, lexVals]
        first | (go_simp; done) | (go_simp; exact fun h => by cases h)
      refine lx_no [(1, 46)] 46 (by kernel_rfl) rfl (by kernel_rfl) (by rfl) (fun w1 => ?_) ?_
      · simp only [pk, nthSp, lexVals]
        first | (go_simp; done) | (go_simp; exact fun h => by cases h)
      refine lx_no [(1, 47), (0, 48), (2, 46)] 46 (by kernel_rfl) rfl (by kernel_rfl) (by rfl) (fun w1 => ?_) ?_
      · simp only [pk, nthSp, lexVals]
        first | (go_simp; done) | (go_simp; exact fun h => by cases h)
      refine lx_no [(0, 49), (3, 46)] 46 (by kernel_rfl) rfl (by kernel_rfl) (by rfl) (fun w1 => ?_) ?_
      · simp only [pk, nthSp, lexVals]
        first | (go_simp; done) | (go_simp; exact fun h => by cases h)
      refine lx_no [(0, 50), (4, 46)] 46 (by kernel_rfl) rfl (by kernel_rfl) (by rfl) (fun w1 => ?_) ?_
      · simp only [pk, nthSp, lexVals]
        first | (go_simp; done) | (go_simp; exact fun h => by cases h)
      refine lx_no [(5, 46)] 46 (by kernel_rfl) rfl (by kernel_rfl) (by rfl) (fun w1 => ?_) ?_
      · simp only [pk, nthSp, lexVals]
        first | (go_simp; done) | (go_simp; exact fun h => by cases h)
      refine lx_no [(6, 46)] 46 (by kernel_rfl) rfl (by kernel_rfl) (by rfl) (fun w1 => ?_) ?_
      · simp only [pk, nthSp, lexVals]
        first | (go_simp; done) | (go_simp; exact fun h => by cases h)
      refine lx_no [(0, 53), (7, 46)] 46 (by kernel_rfl) rfl (by kernel_rfl) (by rfl) (fun w1 => ?_) ?_
      · simp only [pk, nthSp, lexVals]
        first | (go_simp; done) | (go_simp; exact fun h => by cases h)
      refine lx_no [(2, 52), (0, 54), (8, 46)] 46 (by kernel_rfl) rfl (by kernel_rfl) (by rfl) (fun w1 => ?_) ?_
      · simp only [pk, nthSp, lexVals]
        first | (go_simp; done) | (go_simp; exact fun h => by cases h)
      refine lx_no [(0, 55), (9, 46)] 46 (by kernel_rfl) rfl (by kernel_rfl) (by rfl) (fun w1 => ?_) ?_
      · simp only [pk, nthSp, lexVals]
        first | (go_simp; done) | (go_simp; exact fun h => by cases h)
      refine lx_no [(0, 56), (10, 46)] 46 (by kernel_rfl) rfl (by kernel_rfl) (by rfl) (fun w1 => ?_) ?_
      · simp only [pk, nthSp, lexVals]
        first | (go_simp; done) | (go_simp; exact fun h => by cases h)
      refine lx_no [(6, 51), (0, 57), (11, 46)] 46 (by kernel_rfl) rfl (by kernel_rfl) (by rfl) (fun w1 => ?_) ?_
      · simp only [pk, nthSp, lexVals]
        first | (go_simp; done) | (go_simp; exact fun h => by cases h)
      refine lx_ge (.bool true) [(12, 46), (0, 58), (40, 18)] 18 (by kernel_rfl) rfl (by kernel_rfl) (by rfl) (fun w1 => ?_) (fun w1 hw1 => ?_) ?_
      · simp only [pk, nthSp, lexVals]
        rfl
      · simp only [pk, nthSp, lexVals]
        go_simp
        exact ⟨Ext.refl _, rfl⟩
      refine lx_e (.bool true) [(41, 18), (0, 59)] (by kernel_rfl) rfl (by rfl) (fun w1 hw1 => ?_) ?_
      · simp only [pk, nthSp, lexVals]
        go_simp
        exact ⟨Ext.refl _, rfl⟩
      refine lx_stopA (by rfl) fun w5 hw5 => ?_
      have HE5 := Lib.hid (HX1.out w5 hw5)
      clear hw5 HX0 HX1
      simp only [rv, pf, lexVals]
      simp only [Act.put, List.setIfInBounds_toArray, List.set_cons_zero, List.set_cons_succ]
      go_wp2_with fail
      go_ret
      exact ⟨by first | rfl | (rw [hR]; rfl), HE5.out⟩
    subst hW
    rw [beq_self_eq_true, Bool.true_and] at hs
    by_cases hS : xs = zs
    case neg =>
      have e1 : (xs == zs) = false := beq_eq_false_iff_ne.2 hS
      have e2 : (xs != zs) = true := bne_iff_ne.2 hS
      rw [e1] at hs
      have hR : R = false := by rw [hs]; rfl
      clear hs
      go_upto_region 6 with (fail)
      have HX0 := Lib.hid (show ∀ x, Ext w4.drew x → Ext w4 x from fun x hx => Ext.trans (Ext.refl w4).drew hx)
      have HX1 := Lib.hid (show ∀ x, Ext w4.drew x → Ext w x from fun x hx => HE4.out.trans (HX0.out x hx))
      refine wp_region_lexA (by kernel_rfl) (by kernel_rfl) ?_
      refine lx_e (.int .i64 (m : Int)) [] (by kernel_rfl) rfl (by rfl) (fun w1 hw1 => ?_) ?_
      · simp only [pk, lexVals]
        go_simp
        exact ⟨Ext.refl _, rfl⟩
      refine lx_e (.bool true) [(0, 16)] (by kernel_rfl) rfl (by rfl) (fun w1 hw1 => ?_) ?_
      · simp only [pk, nthSp, lexVals]
        go_simp
        exact ⟨Ext.refl _, rfl⟩
      refine lx_e (.bool true) [(0, 17)] (by kernel_rfl) rfl (by rfl) (fun w1 hw1 => ?_) ?_
      · simp only [pk, nthSp, lexVals]
        go_simp
        exact ⟨Ext.refl _, rfl⟩
      refine lx_ge (.slice (some ⟨b, off, none⟩) n c) [(0, 18)] 18 (by kernel_rfl) rfl (by kernel_rfl) (by rfl) (fun w1 => ?_) (fun w1 hw1 => ?_) ?_
      · simp only [pk, nthSp, lexVals]
        rfl
      · simp only [pk, nthSp, lexVals]
        go_simp
        exact ⟨Ext.refl _, rfl⟩
      refine lx_ge (.int .i64 (m : Int)) [(1, 18)] 18 (by kernel_rfl) rfl (by kernel_rfl) (by rfl) (fun w1 => ?_) (fun w1 hw1 => ?_) ?_
      · simp only [pk, nthSp, lexVals]
        rfl
      · simp only [pk, nthSp, lexVals]
        go_simp
        exact ⟨Ext.refl _, rfl⟩
      refine lx_ge (.pointer (some ⟨b, off + m * 125, none⟩)) [(1, 19), (0, 20), (2, 18)] 18 (by kernel_rfl) rfl (by kernel_rfl) (by rfl) (fun w1 => ?_) (fun w1 hw1 => ?_) ?_
      · simp only [pk, nthSp, lexVals]
        rfl
      · simp only [pk, nthSp, lexVals]
        exact lu_hidx rfl rfl rfl Hm.out
      refine lx_ge (.pointer (some ⟨b, off + m * 125, none⟩)) [(0, 21), (3, 18)] 18 (by kernel_rfl) rfl (by kernel_rfl) (by rfl) (fun w1 => ?_) (fun w1 hw1 => ?_) ?_
      · simp only [pk, nthSp, lexVals]
        rfl
      · simp only [pk, nthSp, lexVals]
        go_simp
        exact ⟨Ext.refl _, rfl⟩
      refine lx_ge (.int .i64 xw) [(0, 22), (4, 18)] 18 (by kernel_rfl) rfl (by kernel_rfl) (by rfl) (fun w1 => ?_) (fun w1 hw1 => ?_) ?_
      · simp only [pk, nthSp, lexVals]
        rfl
      · simp only [pk, nthSp, lexVals]
        have hc := HXw.out w1 (HX1.out w1 hw1)
        clear hw1
        go_simp
        exact ⟨Ext.refl _, rfl⟩
      refine lx_ge (.slice (some ⟨b, off, none⟩) n c) [(5, 18)] 18 (by kernel_rfl) rfl (by kernel_rfl) (by rfl) (fun w1 => ?_) (fun w1 hw1 => ?_) ?_
      · simp only [pk, nthSp, lexVals]
        rfl
      · simp only [pk, nthSp, lexVals]
        go_simp
        exact ⟨Ext.refl _, rfl⟩
      refine lx_ge (.int .i64 (m : Int)) [(6, 18)] 18 (by kernel_rfl) rfl (by kernel_rfl) (by rfl) (fun w1 => ?_) (fun w1 hw1 => ?_) ?_
      · simp only [pk, nthSp, lexVals]
        rfl
      · simp only [pk, nthSp, lexVals]
        go_simp
        exact ⟨Ext.refl _, rfl⟩
      refine lx_ge (.int .i64 (q : Int)) [(0, 25), (7, 18)] 18 (by kernel_rfl) rfl (by kernel_rfl) (by rfl) (fun w1 => ?_) (fun w1 hw1 => ?_) ?_
      · simp only [pk, nthSp, lexVals]
        rfl
      · simp only [pk, nthSp, lexVals]
        go_simp
        exact ⟨Ext.refl _, rfl⟩
      refine lx_ge (.pointer (some ⟨b, off + q * 125, none⟩)) [(2, 24), (0, 26), (8, 18)] 18 (by kernel_rfl) rfl (by kernel_rfl) (by rfl) (fun w1 => ?_) (fun w1 hw1 => ?_) ?_
      · simp only [pk, nthSp, lexVals]
        rfl
      · simp only [pk, nthSp, lexVals]
        exact lu_hidx rfl rfl rfl Hq.out
      refine lx_ge (.pointer (some ⟨b, off + q * 125, none⟩)) [(0, 27), (9, 18)] 18 (by kernel_rfl) rfl (by kernel_rfl) (by rfl) (fun w1 => ?_) (fun w1 hw1 => ?_) ?_
      · simp only [pk, nthSp, lexVals]
        rfl
      · simp only [pk, nthSp, lexVals]
        go_simp
        exact ⟨Ext.refl _, rfl⟩
      refine lx_ge (.int .i64 xw) [(0, 28), (10, 18)] 18 (by kernel_rfl) rfl (by kernel_rfl) (by rfl) (fun w1 => ?_) (fun w1 hw1 => ?_) ?_
      · simp only [pk, nthSp, lexVals]
        rfl
      · simp only [pk, nthSp, lexVals]
        have hc := HYw.out w1 (HX1.out w1 hw1)
        clear hw1
        go_simp
        exact ⟨Ext.refl _, rfl⟩
      refine lx_ge (.bool false) [(6, 23), (0, 29), (11, 18)] 18 (by kernel_rfl) rfl (by kernel_rfl) (by rfl) (fun w1 => ?_) (fun w1 hw1 => ?_) ?_
      · simp only [pk, nthSp, lexVals]
        rfl
      · simp only [pk, nthSp, lexVals]
        go_simp
        exact ⟨Ext.refl _, rfl⟩
      refine lx_ge (.bool false) [(0, 30), (12, 18)] 18 (by kernel_rfl) rfl (by kernel_rfl) (by rfl) (fun w1 => ?_) (fun w1 hw1 => ?_) ?_
      · simp only [pk, nthSp, lexVals]
        rfl
      · simp only [pk, nthSp, lexVals]
        go_simp
        exact ⟨Ext.refl _, rfl⟩
      refine lx_ge (.slice (some ⟨b, off, none⟩) n c) [(0, 31)] 31 (by kernel_rfl) rfl (by kernel_rfl) (by rfl) (fun w1 => ?_) (fun w1 hw1 => ?_) ?_
      · simp only [pk, nthSp, lexVals]
        rfl
      · simp only [pk, nthSp, lexVals]
        go_simp
        exact ⟨Ext.refl _, rfl⟩
      refine lx_ge (.int .i64 (m : Int)) [(1, 31)] 31 (by kernel_rfl) rfl (by kernel_rfl) (by rfl) (fun w1 => ?_) (fun w1 hw1 => ?_) ?_
      · simp only [pk, nthSp, lexVals]
        rfl
      · simp only [pk, nthSp, lexVals]
        go_simp
        exact ⟨Ext.refl _, rfl⟩
      refine lx_ge (.pointer (some ⟨b, off + m * 125, none⟩)) [(1, 32), (0, 33), (2, 31)] 31 (by kernel_rfl) rfl (by kernel_rfl) (by rfl) (fun w1 => ?_) (fun w1 hw1 => ?_) ?_
      · simp only [pk, nthSp, lexVals]
        rfl
      · simp only [pk, nthSp, lexVals]
        exact lu_hidx rfl rfl rfl Hm.out
      refine lx_ge (.pointer (some ⟨b, off + m * 125 + 1, none⟩)) [(0, 34), (3, 31)] 31 (by kernel_rfl) rfl (by kernel_rfl) (by rfl) (fun w1 => ?_) (fun w1 hw1 => ?_) ?_
      · simp only [pk, nthSp, lexVals]
        rfl
      · simp only [pk, nthSp, lexVals]
        go_simp
        exact ⟨Ext.refl _, rfl⟩
      refine lx_ge (.int .u64 xs) [(0, 35), (4, 31)] 31 (by kernel_rfl) rfl (by kernel_rfl) (by rfl) (fun w1 => ?_) (fun w1 hw1 => ?_) ?_
      · simp only [pk, nthSp, lexVals]
        rfl
      · simp only [pk, nthSp, lexVals]
        have hc := HXs.out w1 (HX1.out w1 hw1)
        clear hw1
        go_simp
        exact ⟨Ext.refl _, rfl⟩
      refine lx_ge (.slice (some ⟨b, off, none⟩) n c) [(5, 31)] 31 (by kernel_rfl) rfl (by kernel_rfl) (by rfl) (fun w1 => ?_) (fun w1 hw1 => ?_) ?_
      · simp only [pk, nthSp, lexVals]
        rfl
      · simp only [pk, nthSp, lexVals]
        go_simp
        exact ⟨Ext.refl _, rfl⟩
      refine lx_ge (.int .i64 (m : Int)) [(6, 31)] 31 (by kernel_rfl) rfl (by kernel_rfl) (by rfl) (fun w1 => ?_) (fun w1 hw1 => ?_) ?_
      · simp only [pk, nthSp, lexVals]
        rfl
      · simp only [pk, nthSp, lexVals]
        go_simp
        exact ⟨Ext.refl _, rfl⟩
      refine lx_ge (.int .i64 (q : Int)) [(0, 38), (7, 31)] 31 (by kernel_rfl) rfl (by kernel_rfl) (by rfl) (fun w1 => ?_) (fun w1 hw1 => ?_) ?_
      · simp only [pk, nthSp, lexVals]
        rfl
      · simp only [pk, nthSp, lexVals]
        go_simp
        exact ⟨Ext.refl _, rfl⟩
      refine lx_ge (.pointer (some ⟨b, off + q * 125, none⟩)) [(2, 37), (0, 39), (8, 31)] 31 (by kernel_rfl) rfl (by kernel_rfl) (by rfl) (fun w1 => ?_) (fun w1 hw1 => ?_) ?_
      · simp only [pk, nthSp, lexVals]
        rfl
      · simp only [pk, nthSp, lexVals]
        exact lu_hidx rfl rfl rfl Hq.out
      refine lx_ge (.pointer (some ⟨b, off + q * 125 + 1, none⟩)) [(0, 40), (9, 31)] 31 (by kernel_rfl) rfl (by kernel_rfl) (by rfl) (fun w1 => ?_) (fun w1 hw1 => ?_) ?_
      · simp only [pk, nthSp, lexVals]
        rfl
      · simp only [pk, nthSp, lexVals]
        go_simp
        exact ⟨Ext.refl _, rfl⟩
      refine lx_ge (.int .u64 ys) [(0, 41), (10, 31)] 31 (by kernel_rfl) rfl (by kernel_rfl) (by rfl) (fun w1 => ?_) (fun w1 hw1 => ?_) ?_
      · simp only [pk, nthSp, lexVals]
        rfl
      · simp only [pk, nthSp, lexVals]
        have hc := HYs.out w1 (HX1.out w1 hw1)
        clear hw1
        go_simp
        exact ⟨Ext.refl _, rfl⟩
      refine lx_ge (.int .u64 zs) [(0, 42), (11, 31)] 31 (by kernel_rfl) rfl (by kernel_rfl) (by rfl) (fun w1 => ?_) (fun w1 hw1 => ?_) ?_
      · simp only [pk, nthSp, lexVals]
        rfl
      · simp only [pk, nthSp, lexVals]
        go_simp
        exact ⟨Ext.refl _, rfl⟩
      refine lx_ge (.bool true) [(7, 36), (0, 43), (12, 31)] 31 (by kernel_rfl) rfl (by kernel_rfl) (by rfl) (fun w1 => ?_) (fun w1 hw1 => ?_) ?_
      · simp only [pk, nthSp, lexVals]
        rfl
      · simp only [pk, nthSp, lexVals]
        go_simp
        exact ⟨Ext.refl _, rfl⟩
      refine lx_ge (.bool true) [(13, 31), (0, 44), (26, 18)] 18 (by kernel_rfl) rfl (by kernel_rfl) (by rfl) (fun w1 => ?_) (fun w1 hw1 => ?_) ?_
      · simp only [pk, nthSp, lexVals]
        rfl
      · simp only [pk, nthSp, lexVals]
        go_simp
        exact ⟨Ext.refl _, rfl⟩
      refine lx_ge (.bool true) [(0, 45), (27, 18)] 18 (by kernel_rfl) rfl (by kernel_rfl) (by rfl) (fun w1 => ?_) (fun w1 hw1 => ?_) ?_
      · simp only [pk, nthSp, lexVals]
        rfl
      · simp only [pk, nthSp, lexVals]
        go_simp
        exact ⟨Ext.refl _, rfl⟩
      refine lx_no [(0, 46)] 46 (by kernel_rfl) rfl (by kernel_rfl) (by rfl) (fun w1 => ?_) ?_
      · simp only [pk, nthSp, lexVals]
        first | (go_simp; done) | (go_simp; exact fun h => by cases h)
      refine lx_no [(1, 46)] 46 (by kernel_rfl) rfl (by kernel_rfl) (by rfl) (fun w1 => ?_) ?_
      · simp only [pk, nthSp, lexVals]
        first | (go_simp; done) | (go_simp; exact fun h => by cases h)
      refine lx_no [(1, 47), (0, 48), (2, 46)] 46 (by kernel_rfl) rfl (by kernel_rfl) (by rfl) (fun w1 => ?_) ?_
      · simp only [pk, nthSp, lexVals]
        first | (go_simp; done) | (go_simp; exact fun h => by cases h)
      refine lx_no [(0, 49), (3, 46)] 46 (by kernel_rfl) rfl (by kernel_rfl) (by rfl) (fun w1 => ?_) ?_
      · simp only [pk, nthSp, lexVals]
        first | (go_simp; done) | (go_simp; exact fun h => by cases h)
      refine lx_no [(0, 50), (4, 46)] 46 (by kernel_rfl) rfl (by kernel_rfl) (by rfl) (fun w1 => ?_) ?_
      · simp only [pk, nthSp, lexVals]
        first | (go_simp; done) | (go_simp; exact fun h => by cases h)
      refine lx_no [(5, 46)] 46 (by kernel_rfl) rfl (by kernel_rfl) (by rfl) (fun w1 => ?_) ?_
      · simp only [pk, nthSp, lexVals]
        first | (go_simp; done) | (go_simp; exact fun h => by cases h)
      refine lx_no [(6, 46)] 46 (by kernel_rfl) rfl (by kernel_rfl) (by rfl) (fun w1 => ?_) ?_
      · simp only [pk, nthSp, lexVals]
        first | (go_simp; done) | (go_simp; exact fun h => by cases h)
      refine lx_no [(0, 53), (7, 46)] 46 (by kernel_rfl) rfl (by kernel_rfl) (by rfl) (fun w1 => ?_) ?_
      · simp only [pk, nthSp, lexVals]
        first | (go_simp; done) | (go_simp; exact fun h => by cases h)
      refine lx_no [(2, 52), (0, 54), (8, 46)] 46 (by kernel_rfl) rfl (by kernel_rfl) (by rfl) (fun w1 => ?_) ?_
      · simp only [pk, nthSp, lexVals]
        first | (go_simp; done) | (go_simp; exact fun h => by cases h)
      refine lx_no [(0, 55), (9, 46)] 46 (by kernel_rfl) rfl (by kernel_rfl) (by rfl) (fun w1 => ?_) ?_
      · simp only [pk, nthSp, lexVals]
        first | (go_simp; done) | (go_simp; exact fun h => by cases h)
      refine lx_no [(0, 56), (10, 46)] 46 (by kernel_rfl) rfl (by kernel_rfl) (by rfl) (fun w1 => ?_) ?_
      · simp only [pk, nthSp, lexVals]
        first | (go_simp; done) | (go_simp; exact fun h => by cases h)
      refine lx_no [(6, 51), (0, 57), (11, 46)] 46 (by kernel_rfl) rfl (by kernel_rfl) (by rfl) (fun w1 => ?_) ?_
      · simp only [pk, nthSp, lexVals]
        first | (go_simp; done) | (go_simp; exact fun h => by cases h)
      refine lx_ge (.bool true) [(12, 46), (0, 58), (40, 18)] 18 (by kernel_rfl) rfl (by kernel_rfl) (by rfl) (fun w1 => ?_) (fun w1 hw1 => ?_) ?_
      · simp only [pk, nthSp, lexVals]
        rfl
      · simp only [pk, nthSp, lexVals]
        go_simp
        exact ⟨Ext.refl _, rfl⟩
      refine lx_e (.bool true) [(41, 18), (0, 59)] (by kernel_rfl) rfl (by rfl) (fun w1 hw1 => ?_) ?_
      · simp only [pk, nthSp, lexVals]
        go_simp
        exact ⟨Ext.refl _, rfl⟩
      refine lx_stopA (by rfl) fun w5 hw5 => ?_
      have HE5 := Lib.hid (HX1.out w5 hw5)
      clear hw5 HX0 HX1
      simp only [rv, pf, lexVals]
      simp only [Act.put, List.setIfInBounds_toArray, List.set_cons_zero, List.set_cons_succ]
      go_wp2_with fail
      go_ret
      exact ⟨by first | rfl | (rw [hR]; rfl), HE5.out⟩
    subst hS
    rw [beq_self_eq_true, Bool.true_and] at hs
    obtain ⟨PB, hPB⟩ : ∃ P, arrB 32 PX PY = P := ⟨_, rfl⟩
    rw [hPB] at hs kne2
    clear hPB
    cases PB with
    | false =>
      have hR : R = false := by rw [hs]; rfl
      clear hs
      go_upto_region 6 with (fail)
      have HX0 := Lib.hid (show ∀ x, Ext w4.drew x → Ext w4 x from fun x hx => Ext.trans (Ext.refl w4).drew hx)
      have HX1 := Lib.hid (show ∀ x, Ext w4.drew x → Ext w x from fun x hx => HE4.out.trans (HX0.out x hx))
      refine wp_region_lexA (by kernel_rfl) (by kernel_rfl) ?_
      refine lx_e (.int .i64 (m : Int)) [] (by kernel_rfl) rfl (by rfl) (fun w1 hw1 => ?_) ?_
      · simp only [pk, lexVals]
        go_simp
        exact ⟨Ext.refl _, rfl⟩
      refine lx_e (.bool true) [(0, 16)] (by kernel_rfl) rfl (by rfl) (fun w1 hw1 => ?_) ?_
      · simp only [pk, nthSp, lexVals]
        go_simp
        exact ⟨Ext.refl _, rfl⟩
      refine lx_e (.bool true) [(0, 17)] (by kernel_rfl) rfl (by rfl) (fun w1 hw1 => ?_) ?_
      · simp only [pk, nthSp, lexVals]
        go_simp
        exact ⟨Ext.refl _, rfl⟩
      refine lx_ge (.slice (some ⟨b, off, none⟩) n c) [(0, 18)] 18 (by kernel_rfl) rfl (by kernel_rfl) (by rfl) (fun w1 => ?_) (fun w1 hw1 => ?_) ?_
      · simp only [pk, nthSp, lexVals]
        rfl
      · simp only [pk, nthSp, lexVals]
        go_simp
        exact ⟨Ext.refl _, rfl⟩
      refine lx_ge (.int .i64 (m : Int)) [(1, 18)] 18 (by kernel_rfl) rfl (by kernel_rfl) (by rfl) (fun w1 => ?_) (fun w1 hw1 => ?_) ?_
      · simp only [pk, nthSp, lexVals]
        rfl
      · simp only [pk, nthSp, lexVals]
        go_simp
        exact ⟨Ext.refl _, rfl⟩
      refine lx_ge (.pointer (some ⟨b, off + m * 125, none⟩)) [(1, 19), (0, 20), (2, 18)] 18 (by kernel_rfl) rfl (by kernel_rfl) (by rfl) (fun w1 => ?_) (fun w1 hw1 => ?_) ?_
      · simp only [pk, nthSp, lexVals]
        rfl
      · simp only [pk, nthSp, lexVals]
        exact lu_hidx rfl rfl rfl Hm.out
      refine lx_ge (.pointer (some ⟨b, off + m * 125, none⟩)) [(0, 21), (3, 18)] 18 (by kernel_rfl) rfl (by kernel_rfl) (by rfl) (fun w1 => ?_) (fun w1 hw1 => ?_) ?_
      · simp only [pk, nthSp, lexVals]
        rfl
      · simp only [pk, nthSp, lexVals]
        go_simp
        exact ⟨Ext.refl _, rfl⟩
      refine lx_ge (.int .i64 xw) [(0, 22), (4, 18)] 18 (by kernel_rfl) rfl (by kernel_rfl) (by rfl) (fun w1 => ?_) (fun w1 hw1 => ?_) ?_
      · simp only [pk, nthSp, lexVals]
        rfl
      · simp only [pk, nthSp, lexVals]
        have hc := HXw.out w1 (HX1.out w1 hw1)
        clear hw1
        go_simp
        exact ⟨Ext.refl _, rfl⟩
      refine lx_ge (.slice (some ⟨b, off, none⟩) n c) [(5, 18)] 18 (by kernel_rfl) rfl (by kernel_rfl) (by rfl) (fun w1 => ?_) (fun w1 hw1 => ?_) ?_
      · simp only [pk, nthSp, lexVals]
        rfl
      · simp only [pk, nthSp, lexVals]
        go_simp
        exact ⟨Ext.refl _, rfl⟩
      refine lx_ge (.int .i64 (m : Int)) [(6, 18)] 18 (by kernel_rfl) rfl (by kernel_rfl) (by rfl) (fun w1 => ?_) (fun w1 hw1 => ?_) ?_
      · simp only [pk, nthSp, lexVals]
        rfl
      · simp only [pk, nthSp, lexVals]
        go_simp
        exact ⟨Ext.refl _, rfl⟩
      refine lx_ge (.int .i64 (q : Int)) [(0, 25), (7, 18)] 18 (by kernel_rfl) rfl (by kernel_rfl) (by rfl) (fun w1 => ?_) (fun w1 hw1 => ?_) ?_
      · simp only [pk, nthSp, lexVals]
        rfl
      · simp only [pk, nthSp, lexVals]
        go_simp
        exact ⟨Ext.refl _, rfl⟩
      refine lx_ge (.pointer (some ⟨b, off + q * 125, none⟩)) [(2, 24), (0, 26), (8, 18)] 18 (by kernel_rfl) rfl (by kernel_rfl) (by rfl) (fun w1 => ?_) (fun w1 hw1 => ?_) ?_
      · simp only [pk, nthSp, lexVals]
        rfl
      · simp only [pk, nthSp, lexVals]
        exact lu_hidx rfl rfl rfl Hq.out
      refine lx_ge (.pointer (some ⟨b, off + q * 125, none⟩)) [(0, 27), (9, 18)] 18 (by kernel_rfl) rfl (by kernel_rfl) (by rfl) (fun w1 => ?_) (fun w1 hw1 => ?_) ?_
      · simp only [pk, nthSp, lexVals]
        rfl
      · simp only [pk, nthSp, lexVals]
        go_simp
        exact ⟨Ext.refl _, rfl⟩
      refine lx_ge (.int .i64 xw) [(0, 28), (10, 18)] 18 (by kernel_rfl) rfl (by kernel_rfl) (by rfl) (fun w1 => ?_) (fun w1 hw1 => ?_) ?_
      · simp only [pk, nthSp, lexVals]
        rfl
      · simp only [pk, nthSp, lexVals]
        have hc := HYw.out w1 (HX1.out w1 hw1)
        clear hw1
        go_simp
        exact ⟨Ext.refl _, rfl⟩
      refine lx_ge (.bool false) [(6, 23), (0, 29), (11, 18)] 18 (by kernel_rfl) rfl (by kernel_rfl) (by rfl) (fun w1 => ?_) (fun w1 hw1 => ?_) ?_
      · simp only [pk, nthSp, lexVals]
        rfl
      · simp only [pk, nthSp, lexVals]
        go_simp
        exact ⟨Ext.refl _, rfl⟩
      refine lx_ge (.bool false) [(0, 30), (12, 18)] 18 (by kernel_rfl) rfl (by kernel_rfl) (by rfl) (fun w1 => ?_) (fun w1 hw1 => ?_) ?_
      · simp only [pk, nthSp, lexVals]
        rfl
      · simp only [pk, nthSp, lexVals]
        go_simp
        exact ⟨Ext.refl _, rfl⟩
      refine lx_ge (.slice (some ⟨b, off, none⟩) n c) [(0, 31)] 31 (by kernel_rfl) rfl (by kernel_rfl) (by rfl) (fun w1 => ?_) (fun w1 hw1 => ?_) ?_
      · simp only [pk, nthSp, lexVals]
        rfl
      · simp only [pk, nthSp, lexVals]
        go_simp
        exact ⟨Ext.refl _, rfl⟩
      refine lx_ge (.int .i64 (m : Int)) [(1, 31)] 31 (by kernel_rfl) rfl (by kernel_rfl) (by rfl) (fun w1 => ?_) (fun w1 hw1 => ?_) ?_
      · simp only [pk, nthSp, lexVals]
        rfl
      · simp only [pk, nthSp, lexVals]
        go_simp
        exact ⟨Ext.refl _, rfl⟩
      refine lx_ge (.pointer (some ⟨b, off + m * 125, none⟩)) [(1, 32), (0, 33), (2, 31)] 31 (by kernel_rfl) rfl (by kernel_rfl) (by rfl) (fun w1 => ?_) (fun w1 hw1 => ?_) ?_
      · simp only [pk, nthSp, lexVals]
        rfl
      · simp only [pk, nthSp, lexVals]
        exact lu_hidx rfl rfl rfl Hm.out
      refine lx_ge (.pointer (some ⟨b, off + m * 125 + 1, none⟩)) [(0, 34), (3, 31)] 31 (by kernel_rfl) rfl (by kernel_rfl) (by rfl) (fun w1 => ?_) (fun w1 hw1 => ?_) ?_
      · simp only [pk, nthSp, lexVals]
        rfl
      · simp only [pk, nthSp, lexVals]
        go_simp
        exact ⟨Ext.refl _, rfl⟩
      refine lx_ge (.int .u64 xs) [(0, 35), (4, 31)] 31 (by kernel_rfl) rfl (by kernel_rfl) (by rfl) (fun w1 => ?_) (fun w1 hw1 => ?_) ?_
      · simp only [pk, nthSp, lexVals]
        rfl
      · simp only [pk, nthSp, lexVals]
        have hc := HXs.out w1 (HX1.out w1 hw1)
        clear hw1
        go_simp
        exact ⟨Ext.refl _, rfl⟩
      refine lx_ge (.slice (some ⟨b, off, none⟩) n c) [(5, 31)] 31 (by kernel_rfl) rfl (by kernel_rfl) (by rfl) (fun w1 => ?_) (fun w1 hw1 => ?_) ?_
      · simp only [pk, nthSp, lexVals]
        rfl
      · simp only [pk, nthSp, lexVals]
        go_simp
        exact ⟨Ext.refl _, rfl⟩
      refine lx_ge (.int .i64 (m : Int)) [(6, 31)] 31 (by kernel_rfl) rfl (by kernel_rfl) (by rfl) (fun w1 => ?_) (fun w1 hw1 => ?_) ?_
      · simp only [pk, nthSp, lexVals]
        rfl
      · simp only [pk, nthSp, lexVals]
        go_simp
        exact ⟨Ext.refl _, rfl⟩
      refine lx_ge (.int .i64 (q : Int)) [(0, 38), (7, 31)] 31 (by kernel_rfl) rfl (by kernel_rfl) (by rfl) (fun w1 => ?_) (fun w1 hw1 => ?_) ?_
      · simp only [pk, nthSp, lexVals]
        rfl
      · simp only [pk, nthSp, lexVals]
        go_simp
        exact ⟨Ext.refl _, rfl⟩
      refine lx_ge (.pointer (some ⟨b, off + q * 125, none⟩)) [(2, 37), (0, 39), (8, 31)] 31 (by kernel_rfl) rfl (by kernel_rfl) (by rfl) (fun w1 => ?_) (fun w1 hw1 => ?_) ?_
      · simp only [pk, nthSp, lexVals]
        rfl
      · simp only [pk, nthSp, lexVals]
        exact lu_hidx rfl rfl rfl Hq.out
      refine lx_ge (.pointer (some ⟨b, off + q * 125 + 1, none⟩)) [(0, 40), (9, 31)] 31 (by kernel_rfl) rfl (by kernel_rfl) (by rfl) (fun w1 => ?_) (fun w1 hw1 => ?_) ?_
      · simp only [pk, nthSp, lexVals]
        rfl
      · simp only [pk, nthSp, lexVals]
        go_simp
        exact ⟨Ext.refl _, rfl⟩
      refine lx_ge (.int .u64 ys) [(0, 41), (10, 31)] 31 (by kernel_rfl) rfl (by kernel_rfl) (by rfl) (fun w1 => ?_) (fun w1 hw1 => ?_) ?_
      · simp only [pk, nthSp, lexVals]
        rfl
      · simp only [pk, nthSp, lexVals]
        have hc := HYs.out w1 (HX1.out w1 hw1)
        clear hw1
        go_simp
        exact ⟨Ext.refl _, rfl⟩
      refine lx_ge (.int .u64 xs) [(0, 42), (11, 31)] 31 (by kernel_rfl) rfl (by kernel_rfl) (by rfl) (fun w1 => ?_) (fun w1 hw1 => ?_) ?_
      · simp only [pk, nthSp, lexVals]
        rfl
      · simp only [pk, nthSp, lexVals]
        go_simp
        exact ⟨Ext.refl _, rfl⟩
      refine lx_ge (.bool false) [(7, 36), (0, 43), (12, 31)] 31 (by kernel_rfl) rfl (by kernel_rfl) (by rfl) (fun w1 => ?_) (fun w1 hw1 => ?_) ?_
      · simp only [pk, nthSp, lexVals]
        rfl
      · simp only [pk, nthSp, lexVals]
        go_simp
        exact ⟨Ext.refl _, rfl⟩
      refine lx_ge (.bool false) [(13, 31), (0, 44), (26, 18)] 18 (by kernel_rfl) rfl (by kernel_rfl) (by rfl) (fun w1 => ?_) (fun w1 hw1 => ?_) ?_
      · simp only [pk, nthSp, lexVals]
        rfl
      · simp only [pk, nthSp, lexVals]
        go_simp
        exact ⟨Ext.refl _, rfl⟩
      refine lx_ge (.bool false) [(0, 45), (27, 18)] 18 (by kernel_rfl) rfl (by kernel_rfl) (by rfl) (fun w1 => ?_) (fun w1 hw1 => ?_) ?_
      · simp only [pk, nthSp, lexVals]
        rfl
      · simp only [pk, nthSp, lexVals]
        go_simp
        exact ⟨Ext.refl _, rfl⟩
      refine lx_ge (.slice (some ⟨b, off, none⟩) n c) [(0, 46)] 46 (by kernel_rfl) rfl (by kernel_rfl) (by rfl) (fun w1 => ?_) (fun w1 hw1 => ?_) ?_
      · simp only [pk, nthSp, lexVals]
        rfl
      · simp only [pk, nthSp, lexVals]
        go_simp
        exact ⟨Ext.refl _, rfl⟩
      refine lx_ge (.int .i64 (m : Int)) [(1, 46)] 46 (by kernel_rfl) rfl (by kernel_rfl) (by rfl) (fun w1 => ?_) (fun w1 hw1 => ?_) ?_
      · simp only [pk, nthSp, lexVals]
        rfl
      · simp only [pk, nthSp, lexVals]
        go_simp
        exact ⟨Ext.refl _, rfl⟩
      refine lx_ge (.pointer (some ⟨b, off + m * 125, none⟩)) [(1, 47), (0, 48), (2, 46)] 46 (by kernel_rfl) rfl (by kernel_rfl) (by rfl) (fun w1 => ?_) (fun w1 hw1 => ?_) ?_
      · simp only [pk, nthSp, lexVals]
        rfl
      · simp only [pk, nthSp, lexVals]
        exact lu_hidx rfl rfl rfl Hm.out
      refine lx_ge (.pointer (some ⟨b, off + m * 125 + 2, none⟩)) [(0, 49), (3, 46)] 46 (by kernel_rfl) rfl (by kernel_rfl) (by rfl) (fun w1 => ?_) (fun w1 hw1 => ?_) ?_
      · simp only [pk, nthSp, lexVals]
        rfl
      · simp only [pk, nthSp, lexVals]
        go_simp
        exact ⟨Ext.refl _, rfl⟩
      refine lx_ge (.agg (rowArr 32 fun j => .int .u8 (PX j))) [(0, 50), (4, 46)] 46 (by kernel_rfl) rfl (by kernel_rfl) (by rfl) (fun w1 => ?_) (fun w1 hw1 => ?_) ?_
      · simp only [pk, nthSp, lexVals]
        rfl
      · simp only [pk, nthSp, lexVals]
        exact lu_sub rfl rfl Tryd.underlying29 (size_h32 w1) (HXp.out w1 (HX1.out w1 hw1))
      refine lx_ge (.slice (some ⟨b, off, none⟩) n c) [(5, 46)] 46 (by kernel_rfl) rfl (by kernel_rfl) (by rfl) (fun w1 => ?_) (fun w1 hw1 => ?_) ?_
      · simp only [pk, nthSp, lexVals]
        rfl
      · simp only [pk, nthSp, lexVals]
        go_simp
        exact ⟨Ext.refl _, rfl⟩
      refine lx_ge (.int .i64 (m : Int)) [(6, 46)] 46 (by kernel_rfl) rfl (by kernel_rfl) (by rfl) (fun w1 => ?_) (fun w1 hw1 => ?_) ?_
      · simp only [pk, nthSp, lexVals]
        rfl
      · simp only [pk, nthSp, lexVals]
        go_simp
        exact ⟨Ext.refl _, rfl⟩
      refine lx_ge (.int .i64 (q : Int)) [(0, 53), (7, 46)] 46 (by kernel_rfl) rfl (by kernel_rfl) (by rfl) (fun w1 => ?_) (fun w1 hw1 => ?_) ?_
      · simp only [pk, nthSp, lexVals]
        rfl
      · simp only [pk, nthSp, lexVals]
        go_simp
        exact ⟨Ext.refl _, rfl⟩
      refine lx_ge (.pointer (some ⟨b, off + q * 125, none⟩)) [(2, 52), (0, 54), (8, 46)] 46 (by kernel_rfl) rfl (by kernel_rfl) (by rfl) (fun w1 => ?_) (fun w1 hw1 => ?_) ?_
      · simp only [pk, nthSp, lexVals]
        rfl
      · simp only [pk, nthSp, lexVals]
        exact lu_hidx rfl rfl rfl Hq.out
      refine lx_ge (.agg A) [(0, 55), (9, 46)] 46 (by kernel_rfl) rfl (by kernel_rfl) (by rfl) (fun w1 => ?_) (fun w1 hw1 => ?_) ?_
      · simp only [pk, nthSp, lexVals]
        rfl
      · simp only [pk, nthSp, lexVals]
        rw [← HAe.out]
        exact lu_hmid rfl rfl (HYr.out w1 (HX1.out w1 hw1))
      refine lx_ge (.agg (rowArr 32 fun j => .int .u8 (PY j))) [(0, 56), (10, 46)] 46 (by kernel_rfl) rfl (by kernel_rfl) (by rfl) (fun w1 => ?_) (fun w1 hw1 => ?_) ?_
      · simp only [pk, nthSp, lexVals]
        rfl
      · simp only [pk, nthSp, lexVals]
        have HM := Lib.hid (HHs.out w1 (HX1.out w1 hw1))
        clear hw1
        go_simp
        refine HM.out.mono ?_
        rintro e w2 ⟨rfl, hE2⟩
        exact ⟨_, rfl, hE2, rfl⟩
      refine lx_ge (.bool true) [(6, 51), (0, 57), (11, 46)] 46 (by kernel_rfl) rfl (by kernel_rfl) (by rfl) (fun w1 => ?_) (fun w1 hw1 => ?_) ?_
      · simp only [pk, nthSp, lexVals]
        rfl
      · simp only [pk, nthSp, lexVals]
        go_simp
        exact ⟨Ext.refl _, rfl⟩
      refine lx_ge (.bool true) [(12, 46), (0, 58), (40, 18)] 18 (by kernel_rfl) rfl (by kernel_rfl) (by rfl) (fun w1 => ?_) (fun w1 hw1 => ?_) ?_
      · simp only [pk, nthSp, lexVals]
        rfl
      · simp only [pk, nthSp, lexVals]
        go_simp
        exact ⟨Ext.refl _, rfl⟩
      refine lx_e (.bool true) [(41, 18), (0, 59)] (by kernel_rfl) rfl (by rfl) (fun w1 hw1 => ?_) ?_
      · simp only [pk, nthSp, lexVals]
        go_simp
        exact ⟨Ext.refl _, rfl⟩
      refine lx_stopA (by rfl) fun w5 hw5 => ?_
      have HE5 := Lib.hid (HX1.out w5 hw5)
      clear hw5 HX0 HX1
      simp only [rv, pf, lexVals]
      simp only [Act.put, List.setIfInBounds_toArray, List.set_cons_zero, List.set_cons_succ]
      go_wp2_with fail
      go_ret
      exact ⟨by first | rfl | (rw [hR]; rfl), HE5.out⟩
    | true =>
      have HR := Lib.hid (show R = F (m + 1) by rw [hs]; rfl)
      clear hs
      go_upto_region 6 with (fail)
      have HX0 := Lib.hid (show ∀ x, Ext w4.drew x → Ext w4 x from fun x hx => Ext.trans (Ext.refl w4).drew hx)
      have HX1 := Lib.hid (show ∀ x, Ext w4.drew x → Ext w x from fun x hx => HE4.out.trans (HX0.out x hx))
      refine wp_region_lexA (by kernel_rfl) (by kernel_rfl) ?_
      refine lx_e (.int .i64 (m : Int)) [] (by kernel_rfl) rfl (by rfl) (fun w1 hw1 => ?_) ?_
      · simp only [pk, lexVals]
        go_simp
        exact ⟨Ext.refl _, rfl⟩
      refine lx_e (.bool true) [(0, 16)] (by kernel_rfl) rfl (by rfl) (fun w1 hw1 => ?_) ?_
      · simp only [pk, nthSp, lexVals]
        go_simp
        exact ⟨Ext.refl _, rfl⟩
      refine lx_e (.bool true) [(0, 17)] (by kernel_rfl) rfl (by rfl) (fun w1 hw1 => ?_) ?_
      · simp only [pk, nthSp, lexVals]
        go_simp
        exact ⟨Ext.refl _, rfl⟩
      refine lx_ge (.slice (some ⟨b, off, none⟩) n c) [(0, 18)] 18 (by kernel_rfl) rfl (by kernel_rfl) (by rfl) (fun w1 => ?_) (fun w1 hw1 => ?_) ?_
      · simp only [pk, nthSp, lexVals]
        rfl
      · simp only [pk, nthSp, lexVals]
        go_simp
        exact ⟨Ext.refl _, rfl⟩
      refine lx_ge (.int .i64 (m : Int)) [(1, 18)] 18 (by kernel_rfl) rfl (by kernel_rfl) (by rfl) (fun w1 => ?_) (fun w1 hw1 => ?_) ?_
      · simp only [pk, nthSp, lexVals]
        rfl
      · simp only [pk, nthSp, lexVals]
        go_simp
        exact ⟨Ext.refl _, rfl⟩
      refine lx_ge (.pointer (some ⟨b, off + m * 125, none⟩)) [(1, 19), (0, 20), (2, 18)] 18 (by kernel_rfl) rfl (by kernel_rfl) (by rfl) (fun w1 => ?_) (fun w1 hw1 => ?_) ?_
      · simp only [pk, nthSp, lexVals]
        rfl
      · simp only [pk, nthSp, lexVals]
        exact lu_hidx rfl rfl rfl Hm.out
      refine lx_ge (.pointer (some ⟨b, off + m * 125, none⟩)) [(0, 21), (3, 18)] 18 (by kernel_rfl) rfl (by kernel_rfl) (by rfl) (fun w1 => ?_) (fun w1 hw1 => ?_) ?_
      · simp only [pk, nthSp, lexVals]
        rfl
      · simp only [pk, nthSp, lexVals]
        go_simp
        exact ⟨Ext.refl _, rfl⟩
      refine lx_ge (.int .i64 xw) [(0, 22), (4, 18)] 18 (by kernel_rfl) rfl (by kernel_rfl) (by rfl) (fun w1 => ?_) (fun w1 hw1 => ?_) ?_
      · simp only [pk, nthSp, lexVals]
        rfl
      · simp only [pk, nthSp, lexVals]
        have hc := HXw.out w1 (HX1.out w1 hw1)
        clear hw1
        go_simp
        exact ⟨Ext.refl _, rfl⟩
      refine lx_ge (.slice (some ⟨b, off, none⟩) n c) [(5, 18)] 18 (by kernel_rfl) rfl (by kernel_rfl) (by rfl) (fun w1 => ?_) (fun w1 hw1 => ?_) ?_
      · simp only [pk, nthSp, lexVals]
        rfl
      · simp only [pk, nthSp, lexVals]
        go_simp
        exact ⟨Ext.refl _, rfl⟩
      refine lx_ge (.int .i64 (m : Int)) [(6, 18)] 18 (by kernel_rfl) rfl (by kernel_rfl) (by rfl) (fun w1 => ?_) (fun w1 hw1 => ?_) ?_
      · simp only [pk, nthSp, lexVals]
        rfl
      · simp only [pk, nthSp, lexVals]
        go_simp
        exact ⟨Ext.refl _, rfl⟩
      refine lx_ge (.int .i64 (q : Int)) [(0, 25), (7, 18)] 18 (by kernel_rfl) rfl (by kernel_rfl) (by rfl) (fun w1 => ?_) (fun w1 hw1 => ?_) ?_
      · simp only [pk, nthSp, lexVals]
        rfl
      · simp only [pk, nthSp, lexVals]
        go_simp
        exact ⟨Ext.refl _, rfl⟩
      refine lx_ge (.pointer (some ⟨b, off + q * 125, none⟩)) [(2, 24), (0, 26), (8, 18)] 18 (by kernel_rfl) rfl (by kernel_rfl) (by rfl) (fun w1 => ?_) (fun w1 hw1 => ?_) ?_
      · simp only [pk, nthSp, lexVals]
        rfl
      · simp only [pk, nthSp, lexVals]
        exact lu_hidx rfl rfl rfl Hq.out
      refine lx_ge (.pointer (some ⟨b, off + q * 125, none⟩)) [(0, 27), (9, 18)] 18 (by kernel_rfl) rfl (by kernel_rfl) (by rfl) (fun w1 => ?_) (fun w1 hw1 => ?_) ?_
      · simp only [pk, nthSp, lexVals]
        rfl
      · simp only [pk, nthSp, lexVals]
        go_simp
        exact ⟨Ext.refl _, rfl⟩
      refine lx_ge (.int .i64 xw) [(0, 28), (10, 18)] 18 (by kernel_rfl) rfl (by kernel_rfl) (by rfl) (fun w1 => ?_) (fun w1 hw1 => ?_) ?_
      · simp only [pk, nthSp, lexVals]
        rfl
      · simp only [pk, nthSp, lexVals]
        have hc := HYw.out w1 (HX1.out w1 hw1)
        clear hw1
        go_simp
        exact ⟨Ext.refl _, rfl⟩
      refine lx_ge (.bool false) [(6, 23), (0, 29), (11, 18)] 18 (by kernel_rfl) rfl (by kernel_rfl) (by rfl) (fun w1 => ?_) (fun w1 hw1 => ?_) ?_
      · simp only [pk, nthSp, lexVals]
        rfl
      · simp only [pk, nthSp, lexVals]
        go_simp
        exact ⟨Ext.refl _, rfl⟩
      refine lx_ge (.bool false) [(0, 30), (12, 18)] 18 (by kernel_rfl) rfl (by kernel_rfl) (by rfl) (fun w1 => ?_) (fun w1 hw1 => ?_) ?_
      · simp only [pk, nthSp, lexVals]
        rfl
      · simp only [pk, nthSp, lexVals]
        go_simp
        exact ⟨Ext.refl _, rfl⟩
      refine lx_ge (.slice (some ⟨b, off, none⟩) n c) [(0, 31)] 31 (by kernel_rfl) rfl (by kernel_rfl) (by rfl) (fun w1 => ?_) (fun w1 hw1 => ?_) ?_
      · simp only [pk, nthSp, lexVals]
        rfl
      · simp only [pk, nthSp, lexVals]
        go_simp
        exact ⟨Ext.refl _, rfl⟩
      refine lx_ge (.int .i64 (m : Int)) [(1, 31)] 31 (by kernel_rfl) rfl (by kernel_rfl) (by rfl) (fun w1 => ?_) (fun w1 hw1 => ?_) ?_
      · simp only [pk, nthSp, lexVals]
        rfl
      · simp only [pk, nthSp, lexVals]
        go_simp
        exact ⟨Ext.refl _, rfl⟩
      refine lx_ge (.pointer (some ⟨b, off + m * 125, none⟩)) [(1, 32), (0, 33), (2, 31)] 31 (by kernel_rfl) rfl (by kernel_rfl) (by rfl) (fun w1 => ?_) (fun w1 hw1 => ?_) ?_
      · simp only [pk, nthSp, lexVals]
        rfl
      · simp only [pk, nthSp, lexVals]
        exact lu_hidx rfl rfl rfl Hm.out
      refine lx_ge (.pointer (some ⟨b, off + m * 125 + 1, none⟩)) [(0, 34), (3, 31)] 31 (by kernel_rfl) rfl (by kernel_rfl) (by rfl) (fun w1 => ?_) (fun w1 hw1 => ?_) ?_
      · simp only [pk, nthSp, lexVals]
        rfl
      · simp only [pk, nthSp, lexVals]
        go_simp
        exact ⟨Ext.refl _, rfl⟩
      refine lx_ge (.int .u64 xs) [(0, 35), (4, 31)] 31 (by kernel_rfl) rfl (by kernel_rfl) (by rfl) (fun w1 => ?_) (fun w1 hw1 => ?_) ?_
      · simp only [pk, nthSp, lexVals]
        rfl
      · simp only [pk, nthSp, lexVals]
        have hc := HXs.out w1 (HX1.out w1 hw1)
        clear hw1
        go_simp
        exact ⟨Ext.refl _, rfl⟩
      refine lx_ge (.slice (some ⟨b, off, none⟩) n c) [(5, 31)] 31 (by kernel_rfl) rfl (by kernel_rfl) (by rfl) (fun w1 => ?_) (fun w1 hw1 => ?_) ?_
      · simp only [pk, nthSp, lexVals]
        rfl
      · simp only [pk, nthSp, lexVals]
        go_simp
        exact ⟨Ext.refl _, rfl⟩
      refine lx_ge (.int .i64 (m : Int)) [(6, 31)] 31 (by kernel_rfl) rfl (by kernel_rfl) (by rfl) (fun w1 => ?_) (fun w1 hw1 => ?_) ?_
      · simp only [pk, nthSp, lexVals]
        rfl
      · simp only [pk, nthSp, lexVals]
        go_simp
        exact ⟨Ext.refl _, rfl⟩
      refine lx_ge (.int .i64 (q : Int)) [(0, 38), (7, 31)] 31 (by kernel_rfl) rfl (by kernel_rfl) (by rfl) (fun w1 => ?_) (fun w1 hw1 => ?_) ?_
      · simp only [pk, nthSp, lexVals]
        rfl
      · simp only [pk, nthSp, lexVals]
        go_simp
        exact ⟨Ext.refl _, rfl⟩
      refine lx_ge (.pointer (some ⟨b, off + q * 125, none⟩)) [(2, 37), (0, 39), (8, 31)] 31 (by kernel_rfl) rfl (by kernel_rfl) (by rfl) (fun w1 => ?_) (fun w1 hw1 => ?_) ?_
      · simp only [pk, nthSp, lexVals]
        rfl
      · simp only [pk, nthSp, lexVals]
        exact lu_hidx rfl rfl rfl Hq.out
      refine lx_ge (.pointer (some ⟨b, off + q * 125 + 1, none⟩)) [(0, 40), (9, 31)] 31 (by kernel_rfl) rfl (by kernel_rfl) (by rfl) (fun w1 => ?_) (fun w1 hw1 => ?_) ?_
      · simp only [pk, nthSp, lexVals]
        rfl
      · simp only [pk, nthSp, lexVals]
        go_simp
        exact ⟨Ext.refl _, rfl⟩
      refine lx_ge (.int .u64 ys) [(0, 41), (10, 31)] 31 (by kernel_rfl) rfl (by kernel_rfl) (by rfl) (fun w1 => ?_) (fun w1 hw1 => ?_) ?_
      · simp only [pk, nthSp, lexVals]
        rfl
      · simp only [pk, nthSp, lexVals]
        have hc := HYs.out w1 (HX1.out w1 hw1)
        clear hw1
        go_simp
        exact ⟨Ext.refl _, rfl⟩
      refine lx_ge (.int .u64 xs) [(0, 42), (11, 31)] 31 (by kernel_rfl) rfl (by kernel_rfl) (by rfl) (fun w1 => ?_) (fun w1 hw1 => ?_) ?_
      · simp only [pk, nthSp, lexVals]
        rfl
      · simp only [pk, nthSp, lexVals]
        go_simp
        exact ⟨Ext.refl _, rfl⟩
      refine lx_ge (.bool false) [(7, 36), (0, 43), (12, 31)] 31 (by kernel_rfl) rfl (by kernel_rfl) (by rfl) (fun w1 => ?_) (fun w1 hw1 => ?_) ?_
      · simp only [pk, nthSp, lexVals]
        rfl
      · simp only [pk, nthSp, lexVals]
        go_simp
        exact ⟨Ext.refl _, rfl⟩
      refine lx_ge (.bool false) [(13, 31), (0, 44), (26, 18)] 18 (by kernel_rfl) rfl (by kernel_rfl) (by rfl) (fun w1 => ?_) (fun w1 hw1 => ?_) ?_
      · simp only [pk, nthSp, lexVals]
        rfl
      · simp only [pk, nthSp, lexVals]
        go_simp
        exact ⟨Ext.refl _, rfl⟩
      refine lx_ge (.bool false) [(0, 45), (27, 18)] 18 (by kernel_rfl) rfl (by kernel_rfl) (by rfl) (fun w1 => ?_) (fun w1 hw1 => ?_) ?_
      · simp only [pk, nthSp, lexVals]
        rfl
      · simp only [pk, nthSp, lexVals]
        go_simp
        exact ⟨Ext.refl _, rfl⟩
      refine lx_ge (.slice (some ⟨b, off, none⟩) n c) [(0, 46)] 46 (by kernel_rfl) rfl (by kernel_rfl) (by rfl) (fun w1 => ?_) (fun w1 hw1 => ?_) ?_
      · simp only [pk, nthSp, lexVals]
        rfl
      · simp only [pk, nthSp, lexVals]
        go_simp
        exact ⟨Ext.refl _, rfl⟩
      refine lx_ge (.int .i64 (m : Int)) [(1, 46)] 46 (by kernel_rfl) rfl (by kernel_rfl) (by rfl) (fun w1 => ?_) (fun w1 hw1 => ?_) ?_
      · simp only [pk, nthSp, lexVals]
        rfl
      · simp only [pk, nthSp, lexVals]
        go_simp
        exact ⟨Ext.refl _, rfl⟩
      refine lx_ge (.pointer (some ⟨b, off + m * 125, none⟩)) [(1, 47), (0, 48), (2, 46)] 46 (by kernel_rfl) rfl (by kernel_rfl) (by rfl) (fun w1 => ?_) (fun w1 hw1 => ?_) ?_
      · simp only [pk, nthSp, lexVals]
        rfl
      · simp only [pk, nthSp, lexVals]
        exact lu_hidx rfl rfl rfl Hm.out
      refine lx_ge (.pointer (some ⟨b, off + m * 125 + 2, none⟩)) [(0, 49), (3, 46)] 46 (by kernel_rfl) rfl (by kernel_rfl) (by rfl) (fun w1 => ?_) (fun w1 hw1 => ?_) ?_
      · simp only [pk, nthSp, lexVals]
        rfl
      · simp only [pk, nthSp, lexVals]
        go_simp
        exact ⟨Ext.refl _, rfl⟩
      refine lx_ge (.agg (rowArr 32 fun j => .int .u8 (PX j))) [(0, 50), (4, 46)] 46 (by kernel_rfl) rfl (by kernel_rfl) (by rfl) (fun w1 => ?_) (fun w1 hw1 => ?_) ?_
      · simp only [pk, nthSp, lexVals]
        rfl
      · simp only [pk, nthSp, lexVals]
        exact lu_sub rfl rfl Tryd.underlying29 (size_h32 w1) (HXp.out w1 (HX1.out w1 hw1))
      refine lx_ge (.slice (some ⟨b, off, none⟩) n c) [(5, 46)] 46 (by kernel_rfl) rfl (by kernel_rfl) (by rfl) (fun w1 => ?_) (fun w1 hw1 => ?_) ?_
      · simp only [pk, nthSp, lexVals]
        rfl
      · simp only [pk, nthSp, lexVals]
        go_simp
        exact ⟨Ext.refl _, rfl⟩
      refine lx_ge (.int .i64 (m : Int)) [(6, 46)] 46 (by kernel_rfl) rfl (by kernel_rfl) (by rfl) (fun w1 => ?_) (fun w1 hw1 => ?_) ?_
      · simp only [pk, nthSp, lexVals]
        rfl
      · simp only [pk, nthSp, lexVals]
        go_simp
        exact ⟨Ext.refl _, rfl⟩
      refine lx_ge (.int .i64 (q : Int)) [(0, 53), (7, 46)] 46 (by kernel_rfl) rfl (by kernel_rfl) (by rfl) (fun w1 => ?_) (fun w1 hw1 => ?_) ?_
      · simp only [pk, nthSp, lexVals]
        rfl
      · simp only [pk, nthSp, lexVals]
        go_simp
        exact ⟨Ext.refl _, rfl⟩
      refine lx_ge (.pointer (some ⟨b, off + q * 125, none⟩)) [(2, 52), (0, 54), (8, 46)] 46 (by kernel_rfl) rfl (by kernel_rfl) (by rfl) (fun w1 => ?_) (fun w1 hw1 => ?_) ?_
      · simp only [pk, nthSp, lexVals]
        rfl
      · simp only [pk, nthSp, lexVals]
        exact lu_hidx rfl rfl rfl Hq.out
      refine lx_ge (.agg A) [(0, 55), (9, 46)] 46 (by kernel_rfl) rfl (by kernel_rfl) (by rfl) (fun w1 => ?_) (fun w1 hw1 => ?_) ?_
      · simp only [pk, nthSp, lexVals]
        rfl
      · simp only [pk, nthSp, lexVals]
        rw [← HAe.out]
        exact lu_hmid rfl rfl (HYr.out w1 (HX1.out w1 hw1))
      refine lx_ge (.agg (rowArr 32 fun j => .int .u8 (PY j))) [(0, 56), (10, 46)] 46 (by kernel_rfl) rfl (by kernel_rfl) (by rfl) (fun w1 => ?_) (fun w1 hw1 => ?_) ?_
      · simp only [pk, nthSp, lexVals]
        rfl
      · simp only [pk, nthSp, lexVals]
        have HM := Lib.hid (HHs.out w1 (HX1.out w1 hw1))
        clear hw1
        go_simp
        refine HM.out.mono ?_
        rintro e w2 ⟨rfl, hE2⟩
        exact ⟨_, rfl, hE2, rfl⟩
      refine lx_ge (.bool false) [(6, 51), (0, 57), (11, 46)] 46 (by kernel_rfl) rfl (by kernel_rfl) (by rfl) (fun w1 => ?_) (fun w1 hw1 => ?_) ?_
      · simp only [pk, nthSp, lexVals]
        rfl
      · simp only [pk, nthSp, lexVals]
        go_simp
        exact ⟨Ext.refl _, rfl⟩
      refine lx_ge (.bool false) [(12, 46), (0, 58), (40, 18)] 18 (by kernel_rfl) rfl (by kernel_rfl) (by rfl) (fun w1 => ?_) (fun w1 hw1 => ?_) ?_
      · simp only [pk, nthSp, lexVals]
        rfl
      · simp only [pk, nthSp, lexVals]
        go_simp
        exact ⟨Ext.refl _, rfl⟩
      refine lx_e (.bool false) [(41, 18), (0, 59)] (by kernel_rfl) rfl (by rfl) (fun w1 hw1 => ?_) ?_
      · simp only [pk, nthSp, lexVals]
        go_simp
        exact ⟨Ext.refl _, rfl⟩
      refine lx_stopA (by rfl) fun w5 hw5 => ?_
      have HE5 := Lib.hid (HX1.out w5 hw5)
      clear hw5 HX0 HX1
      simp only [rv, pf, lexVals]
      simp only [Act.put, List.setIfInBounds_toArray, List.set_cons_zero, List.set_cons_succ]
      go_wp2_with fail
      go_roundw
      case rel => exact ⟨m + 1, by omega, by go_num, HR.out.symm, HE5.out⟩
      case measure => simp [intOf]; omega

end Go.Proofs.YthdgnahokmjkpaaDoor
