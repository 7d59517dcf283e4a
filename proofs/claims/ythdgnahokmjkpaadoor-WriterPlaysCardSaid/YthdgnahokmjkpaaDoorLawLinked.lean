/-
  The walk of jalousielaw13.WriterLinked: it answers true. Asked: the tables lie as the text lays them.
-/
import Derived.Test.YthdgnahokmjkpaaDoorLinked
namespace Go.Proofs.YthdgnahokmjkpaaDoor
open Go.ChangeShapes Go.WideShapes Go.ChangeAt Go.RowKit

/-- A slice of bools. -/
structure BlAt (w : World) (a : Option Addr) (n c : Nat) : Prop where
  cap : n ≤ c
  small : n ≤ 140737488355328
  at_ : 0 < n → ∃ b off, a = some ⟨b, off, none⟩ ∧ ∀ i, i < n → ∃ v, w.cell? ⟨b, off + i, none⟩ = some (.bool v)
theorem BlAt.ext {w w' : World} {a : Option Addr} {n c : Nat} (h : BlAt w a n c) (he : Ext w w') : BlAt w' a n c := by
  refine ⟨h.cap, h.small, fun hn => ?_⟩
  obtain ⟨b, off, ha, hc⟩ := h.at_ hn
  refine ⟨b, off, ha, fun i hi => ?_⟩
  obtain ⟨v, hv⟩ := hc i hi
  exact ⟨v, by rw [Ext.cell he (World.block_lt_of_cell? w _ hv)]; exact hv⟩

/-- What the loop keeps. -/
structure LSt (w wr : World) (la : List HT) (ah : Option Addr) (ch : Nat) : Prop where
  own : wr.ownsRow w.heap.size 35 125 (.slice ah la.length ch) la.length (hsC la)
  src : ∀ x ∈ la, HtAt w x
  ext : Ext w wr
theorem LSt.more {w wr w' : World} {la : List HT} {ah : Option Addr} {ch : Nat} (h : LSt w wr la ah ch) (he : Ext wr w') : LSt w w' la ah ch := ⟨own_ext9 h.own he, h.src, h.ext.trans he⟩
theorem LSt.hs {w wr : World} {la : List HT} {ah : Option Addr} {ch : Nat} (h : LSt w wr la ah ch) (hl : la.length ≤ 100000) : HsAt wr ah la.length ch la := own_hs h.own (fun x hx => (h.src x hx).ext h.ext) (by omega)
theorem LSt.push {w wr w' : World} {la : List HT} {ah a2 : Option Addr} {ch c2 : Nat} {x : HT} (h : LSt w wr la ah ch) (hx : HtAt w x) (ho : w'.ownsRow w.heap.size 35 125 (.slice a2 (la.length + 1) c2) (la.length + 1) (hsC (la ++ [x]))) (hG : wr.grownBy w' (Value.slice ah la.length ch).ownBlock) : LSt w w' (la ++ [x]) a2 c2 := by
  refine ⟨by rw [List.length_append]; exact ho, fun y hy => ?_, Below.grown h.ext hG (Below.size h.ext) (fun k e => (h.own.lt k e).1)⟩
  rcases List.mem_append.1 hy with hy | hy
  · exact h.src y hy
  · obtain rfl := List.mem_singleton.1 hy
    exact hx
/-- A box of the call's own, written anew: the list stays. -/
theorem LSt.box {w wr w' : World} {la : List HT} {ah : Option Addr} {ch : Nat} {p : Nat} (h : LSt w wr la ah ch) (hG : wr.grownBy w' (some p)) (hp : w.heap.size ≤ p) (hne : (Value.slice ah la.length ch).ownBlock ≠ some p) : LSt w w' la ah ch :=
  ⟨h.own.kept hG (by cases hv : (Value.slice ah la.length ch).ownBlock with | none => exact .inl rfl | some k => exact .inr (fun e => hne (by rw [hv]; exact e))), h.src, Below.grown h.ext hG (Below.size h.ext) (fun k e => by have := Option.some.inj e; omega)⟩

set_option maxHeartbeats 8000000 in
set_option maxRecDepth 100000 in
theorem lawLinked_any (a : Option Addr) (n c : Nat) (l : List HT) (ra : Option Addr) (rn rc : Nat) (w : World) (h : HsAt w a n c l) (hb : BlAt w ra rn rc) (hk : KsAt 1 w) (hk2 : KsAt 0 w) :
    Calls Tryd.prog 6 #[.slice a n c, .slice ra rn rc] w fun e w' => e = .returned (.bool true) ∧ Ext w w' := by
  have hrs := hb.small
  have H := Lib.hid h
  have HB := Lib.hid hb
  have HK := Lib.hid hk
  have HK2 := Lib.hid hk2
  clear h hk hk2 hb
  go_enter Tryd.func6, Tryd.ntmps6
  go_wp2_with fail
  refine (awake13_any w HK.out).mono ?_
  rintro e w1 ⟨rfl, hE⟩
  have HE1 := Lib.hid hE
  clear hE
  go_wp2_with fail
  refine (few13_any a n c l 25 w1 (H.out.ext HE1.out)).mono ?_
  rintro e w2 ⟨v, rfl, ⟨b, rfl, hb⟩, hE⟩
  have HE2 := Lib.hid (HE1.out.trans hE)
  have Hb := Lib.hid hb
  clear hE hb
  cases b with
  | false =>
    go_wp2_with fail
    refine (awake13_any w2 (hdKs_ext HK.out HE2.out)).mono ?_
    rintro e w3 ⟨rfl, hE⟩
    have HE3 := Lib.hid (HE2.out.trans hE)
    clear hE
    go_wp2
    go_ret
    exact ⟨rfl, HE3.out⟩
  | true =>
    obtain ⟨hn, -⟩ := Hb.out rfl
    have hn25 : n ≤ 25 := by omega
    clear hn Hb
    have HL := Lib.hid (show LSt w w2 [] none 0 from ⟨World.ownsRow_nil _ _ _ _, fun x hx => (by cases hx), HE2.out⟩)
    go_wp2
    go_loopw [5, 6] (fun v i wr => ∃ (k : Nat) (la : List HT) (ah : Option Addr) (ch : Nat), k ≤ n ∧ i = .int .i64 (k : Int) ∧ v = .slice ah k ch ∧ la.length = k ∧ LSt w wr la ah ch) (fun _ i _ => n - (intOf i).toNat)
    case atStart => exact ⟨0, [], none, 0, Nat.zero_le _, rfl, rfl, rfl, HL.out⟩
    case round =>
      obtain ⟨k, la, ah, ch, hk, rfl, rfl, hlk, hst⟩ := hrel
      have HS := Lib.hid hst
      have HE := Lib.hid hst.ext
      have HN := Lib.hid hlk
      clear hst HL hlk
      by_cases hlt : k < n
      case neg =>
        obtain rfl : k = n := by omega
        have x1 : ¬ (k : Int) < (k : Int) := by omega
        have hHs := HS.out.hs (by have := HN.out; omega)
        rw [HN.out] at hHs
        have HHs := Lib.hid hHs
        clear hHs
        go_wp2_with fail
        refine (linked_any ah k ch la wr HHs.out (hdKs_ext HK.out HE.out)).mono ?_
        rintro e w3 ⟨rfl, hE⟩
        have HE3 := Lib.hid (HE.out.trans hE)
        have HH3 := Lib.hid (HHs.out.ext hE)
        obtain ⟨R, hR⟩ : ∃ R, lkFrom la k 0 = R := ⟨_, rfl⟩
        have HR := Lib.hid hR
        rw [hR]
        clear hE hR HHs
        go_wp2_with fail
        refine (refLinked_any ah k ch la w3 HH3.out (hdKs_ext HK2.out HE3.out)).mono ?_
        rintro e w4 ⟨rfl, hE⟩
        have HE4 := Lib.hid (HE3.out.trans hE)
        rw [HR.out]
        clear hE
        go_wp2
        go_ret
        exact ⟨by first | rfl | simp, HE4.out⟩
      have x1 : (k : Int) < (n : Int) := by omega
      have x2 : (0 : Int) ≤ (k : Int) := by omega
      obtain ⟨b, off, rfl, hr⟩ := (H.out.ext HE.out).range k hlt
      obtain ⟨x, hx⟩ : ∃ x, l.getD k htN = x := ⟨_, rfl⟩
      rw [hx] at hr
      have Hr := Lib.hid hr
      have HX := Lib.hid (show HtAt w x by rw [← hx]; exact H.out.get k hlt)
      have Hsz := Lib.hid (hdV_size x.1)
      have Hall := Lib.hid (hdV_one x.1)
      have hdl : (hdL x.1).toArray = hdV x.1 := hdL_arr _
      obtain ⟨AX, hAX⟩ : ∃ A, hdV x.1 = A := ⟨_, rfl⟩
      have HAX := Lib.hid hAX
      rw [hAX] at Hsz Hall hdl
      have Hdl := Lib.hid hdl
      clear hr hx hAX hdl
      go_upto_region 8 with (first | (refine wpList_load_mid rfl 35 _ rfl b (off + k * 125) rfl (hdL x.1) _ Hr.out Tryd.underlying35 rfl (by rw [hdL_length]; kernel_rfl) ?_; rw [Hdl.out]) | (refine wpList_store_row rfl 35 _ _ rfl wr.heap.size _ rfl rfl _ _ (heap_new wr _ _ rfl) (by rw [Hsz.out]; kernel_rfl) (by rw [Hsz.out]; rfl) Hall.out ?_; rw [setRow_new wr _ _ _ _ rfl]))
      obtain ⟨w4, hw4⟩ : ∃ w4, wr.alloc (.cells AX 35) = w4 := ⟨_, rfl⟩
      have hE4 : Ext wr w4 := by rw [← hw4]; exact (Ext.refl wr).alloc _
      obtain ⟨p, hp⟩ : ∃ p, wr.heap.size = p := ⟨_, rfl⟩
      have hB4 : w4.heap[p]? = some (.cells AX 35 (0, 0)) := by rw [← hw4]; exact heap_new wr _ _ hp.symm
      refine wp_world (w' := w4) hw4 ?_
      rw [hp]
      have HS4 := Lib.hid (HS.out.more hE4)
      have Hne := Lib.hid (show (Value.slice ah la.length ch).ownBlock ≠ some p from fun e => by have := (HS.out.own.lt p e).2; omega)
      have Hwp := Lib.hid (show w.heap.size ≤ p by have := Below.size HE.out; omega)
      have HR4 := Lib.hid (show w4.rowIs p 35 125 (hdC x.1) from rowIs_of (by rw [show rowArr 125 (hdC x.1) = AX from HAX.out]; exact hB4))
      have HPl := Lib.hid (show p + 1 = w4.heap.size by rw [← hw4, ← hp]; simp)
      clear hw4 hE4 hp hB4 HS HE
      by_cases hk0 : k = 0
      · have x3 : ¬ (0 : Int) < (k : Int) := by omega
        have x4 : ¬ 0 < k := by omega
        have x5 : decide (0 < k) = false := decide_eq_false x4
        clear hk0
        obtain ⟨z, hz⟩ : ∃ z : HT, z = x := ⟨_, rfl⟩
        have HZz := Lib.hid (show HtAt w z by rw [hz]; exact HX.out)
        have hrow := rowIs_cells HR4.out
        obtain ⟨A, hA⟩ : ∃ A, hdV z.1 = A := ⟨_, rfl⟩
        have hrowA : w4.heap[p]? = some (.cells A 35 (0, 0)) := by rw [← hA, hz]; exact hrow
        have HRow := Lib.hid hrowA
        have HAe := Lib.hid hA
        have HAz := Lib.hid (show A.size = 125 by rw [← hA]; exact hdV_size _)
        have HS11 := Lib.hid (HS4.out.more ((Ext.refl w4).alloc (.cells A 35)))
        have ho11 := HS11.out.own
        rw [HN.out] at ho11
        have HO11 := Lib.hid ho11
        have HQ11 := Lib.hid (show ∀ j, j < 125 → (w4.alloc (.cells A 35)).cell? ⟨w4.heap.size, j, none⟩ = some (hdC z.1 j) from fun j hj => by
          rw [← HAe.out]
          exact row_cell (heap_new w4 _ _ rfl) j hj)
        have HB11 := Lib.hid (Below.size HS11.out.ext)
        clear hz hrow hA hrowA ho11
        go_wp2_with (first | (refine wpList_load_rowW rfl 35 _ rfl p rfl _ _ _ _ HRow.out Tryd.underlying35 rfl (by rw [HAz.out]; kernel_rfl) ?_) | (refine wp_build_hd1 rfl _ rfl z.1 A HAe.out rfl ?_) | (at_builtin; refine append_hd rfl _ _ rfl w.heap.size (.slice ah k ch) k la rfl HO11.out w4.heap.size 1 z rfl HQ11.out (by omega) HB11.out ?_))
        intro v' w12 hown12 hG12 hwh12
        obtain ⟨a3, c3, rfl⟩ := own_hsl hown12
        rw [← HN.out] at hown12 hG12
        have HS12 := Lib.hid (HS11.out.push HZz.out hown12 hG12)
        clear hown12 hG12 hwh12 HS11 HO11 HQ11
        go_wp2
        go_roundw
        case rel => exact ⟨k + 1, la ++ [z], a3, c3, by omega, by go_num, by first | rfl | rw [HN.out], by rw [List.length_append, HN.out]; rfl, HS12.out⟩
        case measure => simp [intOf]; omega
      have x3 : (0 : Int) < (k : Int) := by omega
      have x4 : 0 < k := by omega
      have x5 : decide (0 < k) = true := decide_eq_true x4
      by_cases hkr : k < rn
      case neg =>
        have x6 : ¬ (k : Int) < (rn : Int) := by omega
        obtain ⟨z, hz⟩ : ∃ z : HT, z = x := ⟨_, rfl⟩
        have HZz := Lib.hid (show HtAt w z by rw [hz]; exact HX.out)
        have hrow := rowIs_cells HR4.out
        obtain ⟨A, hA⟩ : ∃ A, hdV z.1 = A := ⟨_, rfl⟩
        have hrowA : w4.heap[p]? = some (.cells A 35 (0, 0)) := by rw [← hA, hz]; exact hrow
        have HRow := Lib.hid hrowA
        have HAe := Lib.hid hA
        have HAz := Lib.hid (show A.size = 125 by rw [← hA]; exact hdV_size _)
        have HS11 := Lib.hid (HS4.out.more ((Ext.refl w4).alloc (.cells A 35)))
        have ho11 := HS11.out.own
        rw [HN.out] at ho11
        have HO11 := Lib.hid ho11
        have HQ11 := Lib.hid (show ∀ j, j < 125 → (w4.alloc (.cells A 35)).cell? ⟨w4.heap.size, j, none⟩ = some (hdC z.1 j) from fun j hj => by
          rw [← HAe.out]
          exact row_cell (heap_new w4 _ _ rfl) j hj)
        have HB11 := Lib.hid (Below.size HS11.out.ext)
        clear hz hrow hA hrowA ho11
        go_wp2_with (first | (refine wpList_load_rowW rfl 35 _ rfl p rfl _ _ _ _ HRow.out Tryd.underlying35 rfl (by rw [HAz.out]; kernel_rfl) ?_) | (refine wp_build_hd1 rfl _ rfl z.1 A HAe.out rfl ?_) | (at_builtin; refine append_hd rfl _ _ rfl w.heap.size (.slice ah k ch) k la rfl HO11.out w4.heap.size 1 z rfl HQ11.out (by omega) HB11.out ?_))
        intro v' w12 hown12 hG12 hwh12
        obtain ⟨a3, c3, rfl⟩ := own_hsl hown12
        rw [← HN.out] at hown12 hG12
        have HS12 := Lib.hid (HS11.out.push HZz.out hown12 hG12)
        clear hown12 hG12 hwh12 HS11 HO11 HQ11
        go_wp2
        go_roundw
        case rel => exact ⟨k + 1, la ++ [z], a3, c3, by omega, by go_num, by first | rfl | rw [HN.out], by rw [List.length_append, HN.out]; rfl, HS12.out⟩
        case measure => simp [intOf]; omega
      have x6 : (k : Int) < (rn : Int) := by omega
      obtain ⟨rb, roff, rfl, hrc⟩ := (HB.out.ext HS4.out.ext).at_ (by omega)
      obtain ⟨rv, hrv⟩ := hrc k hkr
      clear hrc
      cases rv with
      | false =>
        obtain ⟨z, hz⟩ : ∃ z : HT, z = x := ⟨_, rfl⟩
        have HZz := Lib.hid (show HtAt w z by rw [hz]; exact HX.out)
        have hrow := rowIs_cells HR4.out
        obtain ⟨A, hA⟩ : ∃ A, hdV z.1 = A := ⟨_, rfl⟩
        have hrowA : w4.heap[p]? = some (.cells A 35 (0, 0)) := by rw [← hA, hz]; exact hrow
        have HRow := Lib.hid hrowA
        have HAe := Lib.hid hA
        have HAz := Lib.hid (show A.size = 125 by rw [← hA]; exact hdV_size _)
        have HS11 := Lib.hid (HS4.out.more ((Ext.refl w4).alloc (.cells A 35)))
        have ho11 := HS11.out.own
        rw [HN.out] at ho11
        have HO11 := Lib.hid ho11
        have HQ11 := Lib.hid (show ∀ j, j < 125 → (w4.alloc (.cells A 35)).cell? ⟨w4.heap.size, j, none⟩ = some (hdC z.1 j) from fun j hj => by
          rw [← HAe.out]
          exact row_cell (heap_new w4 _ _ rfl) j hj)
        have HB11 := Lib.hid (Below.size HS11.out.ext)
        clear hz hrow hA hrowA ho11
        go_wp2_with (first | (refine wpList_load_rowW rfl 35 _ rfl p rfl _ _ _ _ HRow.out Tryd.underlying35 rfl (by rw [HAz.out]; kernel_rfl) ?_) | (refine wp_build_hd1 rfl _ rfl z.1 A HAe.out rfl ?_) | (at_builtin; refine append_hd rfl _ _ rfl w.heap.size (.slice ah k ch) k la rfl HO11.out w4.heap.size 1 z rfl HQ11.out (by omega) HB11.out ?_))
        intro v' w12 hown12 hG12 hwh12
        obtain ⟨a3, c3, rfl⟩ := own_hsl hown12
        rw [← HN.out] at hown12 hG12
        have HS12 := Lib.hid (HS11.out.push HZz.out hown12 hG12)
        clear hown12 hG12 hwh12 HS11 HO11 HQ11
        go_wp2
        go_roundw
        case rel => exact ⟨k + 1, la ++ [z], a3, c3, by omega, by go_num, by first | rfl | rw [HN.out], by rw [List.length_append, HN.out]; rfl, HS12.out⟩
        case measure => simp [intOf]; omega
      | true =>
      obtain ⟨q, hq⟩ : ∃ q, k = q + 1 := ⟨k - 1, by omega⟩
      have wQ : IntKind.i64.wrap ((k : Int) - 1) = (q : Int) := by rw [IntKind.wrap_i64]; omega
      have hqk : (q : Int) < (k : Int) := by omega
      have hq0 : (0 : Int) ≤ (q : Int) := by omega
      have hHs := HS4.out.hs (by have := HN.out; omega)
      rw [HN.out] at hHs
      obtain ⟨b2, off2, rfl, hr2⟩ := hHs.range q (by omega)
      obtain ⟨y, hy⟩ : ∃ y, la.getD q htN = y := ⟨_, rfl⟩
      rw [hy] at hr2
      have Hr2 := Lib.hid hr2
      have HYt := Lib.hid (show HtAt w y by
        rw [← hy, List.getD_eq_getElem?_getD, List.getElem?_eq_getElem (by have := HN.out; omega)]
        exact HS4.out.src _ (List.getElem_mem _))
      have HszY := Lib.hid (hdV_size y.1)
      have HallY := Lib.hid (hdV_one y.1)
      have hdl : (hdL y.1).toArray = hdV y.1 := hdL_arr _
      obtain ⟨AY, hAY⟩ : ∃ A, hdV y.1 = A := ⟨_, rfl⟩
      have HAY := Lib.hid hAY
      rw [hAY] at HszY HallY hdl
      have HdlY := Lib.hid hdl
      clear hHs hr2 hy hAY hdl hq
      go_upto_region 10 with (first | (refine wpList_load_mid rfl 35 _ rfl b2 (off2 + q * 125) rfl (hdL y.1) _ Hr2.out Tryd.underlying35 rfl (by rw [hdL_length]; kernel_rfl) ?_; rw [HdlY.out]) | (refine wpList_store_row rfl 35 _ _ rfl w4.heap.size _ rfl rfl _ _ (heap_new w4 _ _ rfl) (by rw [HszY.out]; kernel_rfl) (by rw [HszY.out]; rfl) HallY.out ?_; rw [setRow_new w4 _ _ _ _ rfl]))
      obtain ⟨w5, hw5⟩ : ∃ w5, w4.alloc (.cells AY 35) = w5 := ⟨_, rfl⟩
      have hE5 : Ext w4 w5 := by rw [← hw5]; exact (Ext.refl w4).alloc _
      obtain ⟨r, hr⟩ : ∃ r, w4.heap.size = r := ⟨_, rfl⟩
      have hB5 : w5.heap[r]? = some (.cells AY 35 (0, 0)) := by rw [← hw5]; exact heap_new w4 _ _ hr.symm
      have hpr : p ≠ r := by have := HPl.out; omega
      refine wp_world (w' := w5) hw5 ?_
      rw [hr]
      have HS5 := Lib.hid (HS4.out.more hE5)
      have HR5 := Lib.hid (HR4.out.of_block (hE5.block HR4.out.lt))
      have HY5 := Lib.hid (show w5.rowIs r 35 125 (hdC y.1) from rowIs_of (by rw [show rowArr 125 (hdC y.1) = AY from HAY.out]; exact hB5))
      have Hpr := Lib.hid hpr
      clear hw5 hE5 hr hB5 hrv HS4 HR4
      have c0 := HR5.out.cell (i := 0) (by omega)
      have f0 := HR5.out.frozen 0
      have d0 : w5.cell? ⟨r, 0, none⟩ = some (.int .i64 y.1.writer) := HY5.out.cell (i := 0) (by omega)
      obtain ⟨yw, hyw⟩ : ∃ v, y.1.writer = v := ⟨_, rfl⟩
      rw [hyw] at d0
      have Hyw := Lib.hid hyw
      clear hyw
      go_upto_region 11 with (fail)
      obtain ⟨w6, hw6⟩ : ∃ w6, w5.setCell ⟨p, 0, none⟩ (.int .i64 yw) = w6 := ⟨_, rfl⟩
      have hG6 : w5.grownBy w6 (some p) := by rw [← hw6]; exact grown_setCell (World.grownBy.refl w5 _) rfl _
      have hr6 : w6.rowIs p 35 125 (hdC { x.1 with writer := yw }) := by rw [← hw6]; exact (HR5.out.set 0 _).congr (hdC_set0 x.1 yw)
      have hy6 : w6.rowIs r 35 125 (hdC y.1) := HY5.out.of_block (hG6.block r HY5.out.lt (fun e => hpr (Option.some.inj e).symm))
      refine wp_world (w' := w6) hw6 ?_
      have HR6 := Lib.hid hr6
      have HY6 := Lib.hid hy6
      have HG6 := Lib.hid hG6
      have c1 := hr6.cell (i := 1) (by omega)
      have f1 := hr6.frozen 1
      have d1 : w6.cell? ⟨r, 1, none⟩ = some (.int .u64 y.1.seq) := hy6.cell (i := 1) (by omega)
      obtain ⟨ys, hys⟩ : ∃ v, y.1.seq = v := ⟨_, rfl⟩
      rw [hys] at d1
      have Hys := Lib.hid hys
      obtain ⟨zs, hzs⟩ : ∃ v, IntKind.u64.wrap (ys + 1) = v := ⟨_, rfl⟩
      have Hzs := Lib.hid (show 0 ≤ zs ∧ zs < 18446744073709551616 by rw [← hzs, IntKind.wrap_u64]; omega)
      clear hw6 hr6 hy6 hG6 c0 f0 d0 hys
      go_upto_region 12 with (fail)
      clear hzs
      obtain ⟨w7, hw7⟩ : ∃ w7, w6.setCell ⟨p, 1, none⟩ (.int .u64 zs) = w7 := ⟨_, rfl⟩
      have hG7 : w5.grownBy w7 (some p) := by rw [← hw7]; exact grown_setCell HG6.out rfl _
      have hr7 : w7.rowIs p 35 125 (hdC { x.1 with writer := yw, seq := zs }) := by rw [← hw7]; exact (HR6.out.set 1 _).congr (hdC_set1 { x.1 with writer := yw } zs)
      have hy7 : w7.rowIs r 35 125 (hdC y.1) := HY5.out.of_block (hG7.block r HY5.out.lt (fun e => hpr (Option.some.inj e).symm))
      refine wp_world (w' := w7) hw7 ?_
      have hyc := rowIs_cells hy7
      rw [show rowArr 125 (hdC y.1) = AY from HAY.out] at hyc
      have HRB := Lib.hid hyc
      have HR7 := Lib.hid hr7
      have HS7 := Lib.hid (HS5.out.box hG7 Hwp.out Hne.out)
      have HM := Lib.hid (refHash12_any y.1 y.2 w7 HYt.out.ok (HYt.out.toks.ext HS7.out.ext) (hdKs_ext HK2.out HS7.out.ext))
      rw [HAY.out] at HM
      clear hw7 hG7 hr7 hy7 hyc c1 f1 d1 HS5 HR5 HR6 HG6 HY6
      go_wp2_with (refine wpList_load_rowW rfl 35 _ rfl r rfl _ _ _ _ HRB.out Tryd.underlying35 rfl (by rw [HszY.out]; kernel_rfl) ?_)
      refine HM.out.mono ?_
      rintro e w8 ⟨rfl, hE⟩
      have HS8 := Lib.hid (HS7.out.more hE)
      have HR8 := Lib.hid (HR7.out.of_block (hE.block HR7.out.lt))
      have HRB8 := Lib.hid (hE.keep HRB.out)
      obtain ⟨T, hT⟩ : ∃ T, shaF (bytesL y.1 y.2) = T := ⟨_, rfl⟩
      rw [hT]
      have HTb := Lib.hid (show ∀ j, 0 ≤ T j ∧ T j < 256 from fun j => by rw [← hT]; exact shaF_by _ j)
      have HTh := Lib.hid (show w8.there p 2 (rowArr 32 fun j => Value.int .u8 (T j)).size from fun j hj => by
        rw [rowArr_size] at hj
        exact ⟨by rw [HR8.out.cell (i := 2 + j) (by omega)]; rfl, HR8.out.frozen _⟩)
      clear hE hT HM HS7 HR7 HRB
      go_upto_region 13 with (refine wpList_store_mid rfl 29 _ _ rfl p 2 (rowArr 32 fun j => .int .u8 (T j)) rfl rfl HTh.out (by rw [rowArr_size]; kernel_rfl) (rowArr_one fun _ _ => rfl) ?_)
      obtain ⟨w9, hw9⟩ : ∃ w9, w8.setCells p 2 (rowArr 32 fun j => Value.int .u8 (T j)).toList = w9 := ⟨_, rfl⟩
      have hG9 : w8.grownBy w9 (some p) := by rw [← hw9]; exact grown_setCells _ _ _ (World.grownBy.refl w8 _)
      have hr9 : w9.rowIs p 35 125 (hdC { x.1 with writer := yw, seq := zs, prev := T }) := by
        rw [← hw9]
        refine ((rowIs_setCells _ 2 _ _ HR8.out).congr fun j hj => ?_).congr (hdC_setP { x.1 with writer := yw, seq := zs } T)
        rw [Array.length_toList, rowArr_size]
        by_cases h1 : 2 ≤ j ∧ j < 2 + 32
        · rw [if_pos h1, if_pos (by omega), List.getD_eq_getElem?_getD, Array.getElem?_toList, rowArr_get _ _ _ (by omega)]
          rfl
        · rw [if_neg h1, if_neg (by omega)]
      refine wp_world (w' := w9) hw9 ?_
      have HS9 := Lib.hid (HS8.out.box hG9 Hwp.out Hne.out)
      have HR9 := Lib.hid hr9
      have HRB9 := Lib.hid (show w9.heap[r]? = some (.cells AY 35 (0, 0)) by
        rw [hG9.block r (Array.getElem?_eq_some_iff.1 HRB8.out).1 (fun e => hpr (Option.some.inj e).symm)]
        exact HRB8.out)
      have e0 : w9.cell? ⟨p, 0, none⟩ = some (.int .i64 yw) := hr9.cell (i := 0) (by omega)
      have hywb := HYt.out.ok.writer
      rw [Hyw.out] at hywb
      have hysb := HYt.out.ok.seq
      rw [Hys.out] at hysb
      have HZ9 := Lib.hid (show HtAt w ({ x.1 with writer := yw, seq := zs, prev := T }, x.2) from ⟨⟨hywb, Hzs.out, fun j _ => HTb.out j, HX.out.ok.epoch, HX.out.ok.time, HX.out.ok.item, HX.out.ok.knows, HX.out.ok.sum, HX.out.ok.size, HX.out.ok.code⟩, HX.out.toks⟩)
      clear hw9 hG9 hr9 HS8 HR8 HRB8
      by_cases hlo : yw < 1
      · have x7 : ¬ (1 : Int) ≤ yw := by omega
        obtain ⟨z, hz⟩ : ∃ z : HT, z = ({ x.1 with writer := yw, seq := zs, prev := T }, x.2) := ⟨_, rfl⟩
        have HZz := Lib.hid (show HtAt w z by rw [hz]; exact HZ9.out)
        have hrow := rowIs_cells HR9.out
        obtain ⟨A, hA⟩ : ∃ A, hdV z.1 = A := ⟨_, rfl⟩
        have hrowA : w9.heap[p]? = some (.cells A 35 (0, 0)) := by rw [← hA, hz]; exact hrow
        have HRow := Lib.hid hrowA
        have HAe := Lib.hid hA
        have HAz := Lib.hid (show A.size = 125 by rw [← hA]; exact hdV_size _)
        have HS11 := Lib.hid (HS9.out.more ((Ext.refl w9).alloc (.cells A 35)))
        have ho11 := HS11.out.own
        rw [HN.out] at ho11
        have HO11 := Lib.hid ho11
        have HQ11 := Lib.hid (show ∀ j, j < 125 → (w9.alloc (.cells A 35)).cell? ⟨w9.heap.size, j, none⟩ = some (hdC z.1 j) from fun j hj => by
          rw [← HAe.out]
          exact row_cell (heap_new w9 _ _ rfl) j hj)
        have HB11 := Lib.hid (Below.size HS11.out.ext)
        clear hz hrow hA hrowA ho11
        go_wp2_with (first | (refine wpList_load_rowW rfl 35 _ rfl p rfl _ _ _ _ HRow.out Tryd.underlying35 rfl (by rw [HAz.out]; kernel_rfl) ?_) | (refine wp_build_hd1 rfl _ rfl z.1 A HAe.out rfl ?_) | (at_builtin; refine append_hd rfl _ _ rfl w.heap.size (.slice (some ⟨b2, off2, none⟩) k ch) k la rfl HO11.out w9.heap.size 1 z rfl HQ11.out (by omega) HB11.out ?_))
        intro v' w12 hown12 hG12 hwh12
        obtain ⟨a3, c3, rfl⟩ := own_hsl hown12
        rw [← HN.out] at hown12 hG12
        have HS12 := Lib.hid (HS11.out.push HZz.out hown12 hG12)
        clear hown12 hG12 hwh12 HS11 HO11 HQ11
        go_wp2
        go_roundw
        case rel => exact ⟨k + 1, la ++ [z], a3, c3, by omega, by go_num, by first | rfl | rw [HN.out], by rw [List.length_append, HN.out]; rfl, HS12.out⟩
        case measure => simp [intOf]; omega
      have x7 : (1 : Int) ≤ yw := by omega
      by_cases hhi : 6 < yw
      · have x8 : ¬ yw ≤ 6 := by omega
        obtain ⟨z, hz⟩ : ∃ z : HT, z = ({ x.1 with writer := yw, seq := zs, prev := T }, x.2) := ⟨_, rfl⟩
        have HZz := Lib.hid (show HtAt w z by rw [hz]; exact HZ9.out)
        have hrow := rowIs_cells HR9.out
        obtain ⟨A, hA⟩ : ∃ A, hdV z.1 = A := ⟨_, rfl⟩
        have hrowA : w9.heap[p]? = some (.cells A 35 (0, 0)) := by rw [← hA, hz]; exact hrow
        have HRow := Lib.hid hrowA
        have HAe := Lib.hid hA
        have HAz := Lib.hid (show A.size = 125 by rw [← hA]; exact hdV_size _)
        have HS11 := Lib.hid (HS9.out.more ((Ext.refl w9).alloc (.cells A 35)))
        have ho11 := HS11.out.own
        rw [HN.out] at ho11
        have HO11 := Lib.hid ho11
        have HQ11 := Lib.hid (show ∀ j, j < 125 → (w9.alloc (.cells A 35)).cell? ⟨w9.heap.size, j, none⟩ = some (hdC z.1 j) from fun j hj => by
          rw [← HAe.out]
          exact row_cell (heap_new w9 _ _ rfl) j hj)
        have HB11 := Lib.hid (Below.size HS11.out.ext)
        clear hz hrow hA hrowA ho11
        go_wp2_with (first | (refine wpList_load_rowW rfl 35 _ rfl p rfl _ _ _ _ HRow.out Tryd.underlying35 rfl (by rw [HAz.out]; kernel_rfl) ?_) | (refine wp_build_hd1 rfl _ rfl z.1 A HAe.out rfl ?_) | (at_builtin; refine append_hd rfl _ _ rfl w.heap.size (.slice (some ⟨b2, off2, none⟩) k ch) k la rfl HO11.out w9.heap.size 1 z rfl HQ11.out (by omega) HB11.out ?_))
        intro v' w12 hown12 hG12 hwh12
        obtain ⟨a3, c3, rfl⟩ := own_hsl hown12
        rw [← HN.out] at hown12 hG12
        have HS12 := Lib.hid (HS11.out.push HZz.out hown12 hG12)
        clear hown12 hG12 hwh12 HS11 HO11 HQ11
        go_wp2
        go_roundw
        case rel => exact ⟨k + 1, la ++ [z], a3, c3, by omega, by go_num, by first | rfl | rw [HN.out], by rw [List.length_append, HN.out]; rfl, HS12.out⟩
        case measure => simp [intOf]; omega
      have x8 : yw ≤ 6 := by omega
      obtain ⟨kk, hkk⟩ : ∃ kk : Nat, yw = (kk : Int) + 1 := ⟨(yw - 1).toNat, by omega⟩
      have hk6 : kk < 6 := by omega
      have y1 : (kk : Int) < 6 := by omega
      have y2 : (0 : Int) ≤ (kk : Int) := by omega
      have wK : IntKind.i64.wrap (yw - 1) = (kk : Int) := by rw [IntKind.wrap_i64]; omega
      have Hk6 := Lib.hid hk6
      have ck := HR9.out.cell (i := 54 + kk) (by omega)
      have fk := HR9.out.frozen (54 + kk)
      have d1 : w9.cell? ⟨r, 1, none⟩ = some (.int .u64 ys) := by
        rw [← Hys.out]
        exact hd_seq (h := y.1) (by rw [HAY.out]; exact HRB9.out)
      clear hkk
      go_upto_region 15 with (fail)
      obtain ⟨w10, hw10⟩ : ∃ w10, w9.setCell ⟨p, 54 + kk, none⟩ (.int .u64 ys) = w10 := ⟨_, rfl⟩
      have hG10 : w9.grownBy w10 (some p) := by rw [← hw10]; exact grown_setCell (World.grownBy.refl w9 _) rfl _
      have hr10 := (HR9.out.set (54 + kk) (.int .u64 ys)).congr (hdC_setK1 { x.1 with writer := yw, seq := zs, prev := T } kk Hk6.out ys)
      rw [hw10] at hr10
      refine wp_world (w' := w10) hw10 ?_
      have HS10 := Lib.hid (HS9.out.box hG10 Hwp.out Hne.out)
      have HR10 := Lib.hid hr10
      have HZ10 := Lib.hid (show HtAt w ({ x.1 with writer := yw, seq := zs, prev := T, knows := fun i => if i = kk then ys else x.1.knows i }, x.2) from ⟨⟨hywb, Hzs.out, fun j _ => HTb.out j, HX.out.ok.epoch, HX.out.ok.time, HX.out.ok.item, fun j hj => by
        have h1 := HX.out.ok.knows j hj
        show 0 ≤ (if j = kk then ys else x.1.knows j) ∧ (if j = kk then ys else x.1.knows j) < 18446744073709551616
        split <;> omega, HX.out.ok.sum, HX.out.ok.size, HX.out.ok.code⟩, HX.out.toks⟩)
      clear hw10 hG10 hr10 ck fk d1 e0
      obtain ⟨z, hz⟩ : ∃ z : HT, z = ({ x.1 with writer := yw, seq := zs, prev := T, knows := fun i => if i = kk then ys else x.1.knows i }, x.2) := ⟨_, rfl⟩
      have HZz := Lib.hid (show HtAt w z by rw [hz]; exact HZ10.out)
      have hrow := rowIs_cells HR10.out
      obtain ⟨A, hA⟩ : ∃ A, hdV z.1 = A := ⟨_, rfl⟩
      have hrowA : w10.heap[p]? = some (.cells A 35 (0, 0)) := by rw [← hA, hz]; exact hrow
      have HRow := Lib.hid hrowA
      have HAe := Lib.hid hA
      have HAz := Lib.hid (show A.size = 125 by rw [← hA]; exact hdV_size _)
      have HS11 := Lib.hid (HS10.out.more ((Ext.refl w10).alloc (.cells A 35)))
      have ho11 := HS11.out.own
      rw [HN.out] at ho11
      have HO11 := Lib.hid ho11
      have HQ11 := Lib.hid (show ∀ j, j < 125 → (w10.alloc (.cells A 35)).cell? ⟨w10.heap.size, j, none⟩ = some (hdC z.1 j) from fun j hj => by
        rw [← HAe.out]
        exact row_cell (heap_new w10 _ _ rfl) j hj)
      have HB11 := Lib.hid (Below.size HS11.out.ext)
      clear hz hrow hA hrowA ho11
      go_wp2_with (first | (refine wpList_load_rowW rfl 35 _ rfl p rfl _ _ _ _ HRow.out Tryd.underlying35 rfl (by rw [HAz.out]; kernel_rfl) ?_) | (refine wp_build_hd1 rfl _ rfl z.1 A HAe.out rfl ?_) | (at_builtin; refine append_hd rfl _ _ rfl w.heap.size (.slice (some ⟨b2, off2, none⟩) k ch) k la rfl HO11.out w10.heap.size 1 z rfl HQ11.out (by omega) HB11.out ?_))
      intro v' w12 hown12 hG12 hwh12
      obtain ⟨a3, c3, rfl⟩ := own_hsl hown12
      rw [← HN.out] at hown12 hG12
      have HS12 := Lib.hid (HS11.out.push HZz.out hown12 hG12)
      clear hown12 hG12 hwh12 HS11 HO11 HQ11
      go_wp2
      go_roundw
      case rel => exact ⟨k + 1, la ++ [z], a3, c3, by omega, by go_num, by first | rfl | rw [HN.out], by rw [List.length_append, HN.out]; rfl, HS12.out⟩
      case measure => simp [intOf]; omega

end Go.Proofs.YthdgnahokmjkpaaDoor
