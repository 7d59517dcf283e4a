/-
  The walks of an index's Count and Ask. Asked: the table of 64 words lies as the text lays it.
  The walk of an index's Heads. Asked: nothing.
-/
import Derived.Test.YtihlpfdhallfpaaDoorIx
import Derived.Test.YtihlpfdhallfpaaDoorPc
namespace Go.Proofs.YtihlpfdhallfpaaDoor
open Go.ChangeAt Go.ChangeShapes Go.RowKit Go.WideShapes

theorem wp_hmidI {ops : Array Oper} {Q : Exit → Act → World → Prop} {rest : List Oper} {o : Oper} {a : Act} {w : World} (hw : Region.wanted o (yielded ops a.tmps) = true) (x : Operand) (ho : o.op = .load 34 x)
    (b off : Nat) (h : Hd) (hx : a.eval x = .pointer (some ⟨b, off, none⟩)) (hr : w.rangeAt b off (hdL h)) (k : wpList Tryd.prog ops Q rest (a.put o.dst (.agg (hdV h))) w) : wpList Tryd.prog ops Q (o :: rest) a w := by
  refine wpList_want hw fun K hK => ?_
  unfold Oper.wp execOp
  simp only [ho, hx, Instr.loadAt, Instr.sureAddr, Sem.run_bind, Sem.run_pure, Result.andThen_ok, run_loadVar_mid w b off 34 (hdL h) _ hr Tryd.underlying34 rfl (by rw [hdL_length]; exact info_hd125)]
  exact hK _ _ k
theorem IxAt.cells {w : World} {B gx : Nat} {G : Nat → Nat} {S : Nat → CSt} {cnt : Int} (h : IxAt w B gx G S cnt) : (∀ i, i < 6 → w.cell? ⟨gx, i, none⟩ = some (.pointer (some ⟨G i, 0, none⟩))) ∧ (∀ i, i < 6 → w.cell? ⟨gx, 6 + i, none⟩ = some (.slice (S i).ba (S i).bl.length (S i).bc)) ∧ w.cell? ⟨gx, 12, none⟩ = some (.int .i64 cnt) := by
  refine ⟨fun i hi => ?_, fun i hi => ?_, ?_⟩
  · rw [h.row.cell (i := i) (by omega)]
    unfold ixC
    rw [if_pos hi]
  · rw [h.row.cell (i := 6 + i) (by omega)]
    unfold ixC
    rw [if_neg (by omega), if_pos (by omega), show 6 + i - 6 = i by omega]
  · exact h.row.cell (i := 12) (by omega)
theorem ixCount_any {w : World} {B gx : Nat} {G : Nat → Nat} {S : Nat → CSt} {cnt : Int} (h : IxAt w B gx G S cnt) :
    Calls Tryd.prog 13 #[.pointer (some ⟨gx, 0, none⟩)] w fun e w' => e = .returned (.int .i64 cnt) ∧ Ext w w' := by
  have c12 := h.cells.2.2
  clear h
  go_enter Tryd.func13, Tryd.ntmps13
  go_wp2
  go_ret
  exact ⟨rfl, Ext.refl _⟩

/-- What Ask answers. -/
def ixAsk (S : Nat → CSt) (cnt : Int) (p : Pc) : Int :=
  if hdB p.hd.1 p.hd.2 = true then
    if askV p.hd.1.writer (S (p.hd.1.writer - 1).toNat).l (S (p.hd.1.writer - 1).toNat).T p.hd = 0 then if wholeB p = true then if 400 ≤ cnt then 4 else 0 else 2
    else askV p.hd.1.writer (S (p.hd.1.writer - 1).toNat).l (S (p.hd.1.writer - 1).toNat).T p.hd
  else 1
/-- Of a size that is walked. -/
def Modest (S : Nat → CSt) : Prop := ∀ i, i < 6 → (S i).l.length ≤ 1000 ∧ (S i).bl.length ≤ 1000 ∧ ∀ x ∈ (S i).l, x.1.tn ≤ 1000000

set_option maxHeartbeats 8000000 in
set_option maxRecDepth 100000 in
theorem ixAsk_any {w : World} {B gx : Nat} {G : Nat → Nat} {S : Nat → CSt} {cnt : Int} (h0 : IxAt w B gx G S cnt) (hm : Modest S) (hc : 0 ≤ cnt ∧ cnt ≤ 1000) (p : Pc) (hp : PcAt w p) (hk : KsAt 1 w) :
    Calls Tryd.prog 28 #[.pointer (some ⟨gx, 0, none⟩), .agg (pcV p)] w fun e w' => e = .returned (.int .i64 (ixAsk S cnt p)) ∧ Ext w w' := by
  obtain ⟨w2, hw2⟩ : ∃ x, w.alloc (.cells (pcV p) 37) = x := ⟨_, rfl⟩
  have hE2 : Ext w w2 := by rw [← hw2]; exact (Ext.refl w).alloc _
  have hB2 : w2.heap[w.heap.size]? = some (.cells (pcV p) 37 (0, 0)) := by rw [← hw2]; exact heap_new w _ _ rfl
  obtain ⟨g, hg⟩ : ∃ g, w.heap.size = g := ⟨_, rfl⟩
  rw [hg] at hB2
  have Hg := Lib.hid hg
  have Hw2 := Lib.hid hw2
  have HE2 := Lib.hid hE2
  have HB2 := Lib.hid hB2
  have Hsz := Lib.hid (pcV_size p)
  have HRh := Lib.hid (fun x (hx : Ext w2 x) => pc_rh (hx.keep hB2))
  have HRh0 := Lib.hid (pc_rh hB2)
  have HFo := Lib.hid (formedHd_any p.hd.1 p.hd.2 w2 (hp.hd.ext hE2).ok (hp.hd.ext hE2).toks)
  have HWh := Lib.hid (fun x (hx : Ext w2 x) => whole_any p x (hp.ext (hE2.trans hx)) (hdKs_ext hk (hE2.trans hx)))
  have C12 := Lib.hid (fun x (hx : Ext w2 x) => (h0.ext (hE2.trans hx)).cells.2.2)
  have hC0 := fun x (hx : Ext w2 x) => pc_hd (hx.keep hB2) 0 (by omega)
  unfold ixAsk
  cases hF : hdB p.hd.1 p.hd.2 with
  | false =>
    rw [hF] at HFo
    rw [if_neg (by simp)]
    obtain ⟨PV, hPV⟩ : ∃ x, pcV p = x := ⟨_, rfl⟩
    rw [hPV] at Hw2 ⊢
    obtain ⟨h, hh⟩ : ∃ x, p.hd.1 = x := ⟨_, rfl⟩
    rw [hh] at HRh0 HFo
    clear hw2 hE2 hB2 hg hF h0 hm hp hk hC0 hPV hh HRh
    go_enter Tryd.func28, Tryd.ntmps28
    go_upto_region 1 with (fail)
    refine wp_world (w' := w2) Hw2.out ?_
    rw [Hg.out]
    go_wp2_with (refine wp_hmidI rfl _ rfl g 0 h rfl HRh0.out ?_)
    refine HFo.out.mono ?_
    rintro e w3 ⟨rfl, hE⟩
    have HE := Lib.hid (HE2.out.trans hE)
    clear hE
    go_wp2
    go_ret
    exact ⟨rfl, HE.out⟩
  | true =>
    have hbd := (hdB_bd hF).1
    obtain ⟨i, hiw, hi⟩ : ∃ i : Nat, p.hd.1.writer = (i : Int) + 1 ∧ i < 6 := ⟨(p.hd.1.writer - 1).toNat, by omega, by omega⟩
    rw [hF] at HFo
    rw [if_pos rfl, hiw, show ((i : Int) + 1 - 1).toNat = i by omega]
    have Hi := Lib.hid hi
    have hch := h0.ch i hi
    have HAs := Lib.hid (fun x (hx : Ext w2 x) => ask_any (hch.ext (hE2.trans hx)) (by have := (hm i hi).1; omega) (hm i hi).2.2 p.hd (hp.hd.ext (hE2.trans hx)))
    have CG := Lib.hid (fun x (hx : Ext w2 x) => (h0.ext (hE2.trans hx)).cells.1 i hi)
    have C0 := Lib.hid (show ∀ x, Ext w2 x → x.cell? ⟨g, 0, none⟩ = some (.int .i64 ((i : Int) + 1)) from fun x hx => by rw [hC0 x hx, ← hiw]; rfl)
    obtain ⟨V, hV⟩ : ∃ x, askV ((i : Int) + 1) (S i).l (S i).T p.hd = x := ⟨_, rfl⟩
    obtain ⟨q, hq⟩ : ∃ x, G i = x := ⟨_, rfl⟩
    obtain ⟨PV, hPV⟩ : ∃ x, pcV p = x := ⟨_, rfl⟩
    obtain ⟨W, hW⟩ : ∃ x, wholeB p = x := ⟨_, rfl⟩
    obtain ⟨h, hh⟩ : ∃ x, p.hd.1 = x := ⟨_, rfl⟩
    rw [hV, hq] at HAs
    rw [hq] at CG
    rw [hPV] at Hw2 HWh HB2 Hsz ⊢
    rw [hV, hW]
    rw [hW] at HWh
    rw [hh] at HRh HRh0 HFo HAs
    clear hw2 hE2 hB2 hg hF h0 hm hp hk hC0 hbd hiw hi hch hV hq hPV hW hh
    go_enter Tryd.func28, Tryd.ntmps28
    go_upto_region 1 with (fail)
    refine wp_world (w' := w2) Hw2.out ?_
    rw [Hg.out]
    clear Hw2
    go_wp2_with (refine wp_hmidI rfl _ rfl g 0 h rfl HRh0.out ?_)
    refine HFo.out.mono ?_
    rintro e w3 ⟨rfl, hE⟩
    have HE3 := Lib.hid hE
    clear hE HFo HRh0
    go_upto_region 3 with (fail)
    have HX := Lib.hid (show ∀ x, Ext w3.drew x → Ext w2 x from fun x hx => HE3.out.trans (Ext.trans (Ext.refl w3).drew hx))
    refine wp_region_lexA (by kernel_rfl) (by kernel_rfl) ?_
    refine lx_e (.pointer (some ⟨gx, 0, none⟩)) [] (by kernel_rfl) rfl (by rfl) (fun w1 hw1 => ?_) ?_
    · simp only [pk, lexVals]
      go_simp
      exact ⟨Ext.refl _, rfl⟩
    refine lx_e (.pointer (some ⟨g, 0, none⟩)) [] (by kernel_rfl) rfl (by rfl) (fun w1 hw1 => ?_) ?_
    · simp only [pk, lexVals]
      go_simp
      exact ⟨Ext.refl _, rfl⟩
    refine lx_e (.pointer (some ⟨g, 0, none⟩)) [(0, 11)] (by kernel_rfl) rfl (by rfl) (fun w1 hw1 => ?_) ?_
    · simp only [pk, nthSp, lexVals]
      go_simp
      exact ⟨Ext.refl _, rfl⟩
    refine lx_e (.int .i64 ((i : Int) + 1)) [(0, 12)] (by kernel_rfl) rfl (by rfl) (fun w1 hw1 => ?_) ?_
    · simp only [pk, nthSp, lexVals]
      have hc := C0.out w1 (HX.out w1 hw1)
      clear hw1
      go_simp
      exact ⟨Ext.refl _, rfl⟩
    refine lx_e (.int .i64 (i : Int)) [(0, 13)] (by kernel_rfl) rfl (by rfl) (fun w1 hw1 => ?_) ?_
    · simp only [pk, nthSp, lexVals]
      have hi := Hi.out
      clear hw1
      go_simp
      exact ⟨Ext.refl _, by first | rfl | (show Value.int .i64 _ = Value.int .i64 _; congr 1; first | omega | (rw [IntKind.wrap_i64]; omega))⟩
    refine lx_e (.pointer (some ⟨gx, 0, none⟩)) [(4, 10)] (by kernel_rfl) rfl (by rfl) (fun w1 hw1 => ?_) ?_
    · simp only [pk, nthSp, lexVals]
      go_simp
      exact ⟨Ext.refl _, rfl⟩
    refine lx_e (.pointer (some ⟨gx, 0, none⟩)) [(0, 15)] (by kernel_rfl) rfl (by rfl) (fun w1 hw1 => ?_) ?_
    · simp only [pk, nthSp, lexVals]
      go_simp
      exact ⟨Ext.refl _, rfl⟩
    refine lx_e (.pointer (some ⟨gx, i, none⟩)) [(0, 16), (2, 14)] (by kernel_rfl) rfl (by rfl) (fun w1 hw1 => ?_) ?_
    · simp only [pk, nthSp, lexVals]
      have hi := Hi.out
      have hi1 : (i : Int) < 6 := by omega
      clear hw1
      go_simp
      exact ⟨Ext.refl _, by first | rfl | simp⟩
    refine lx_e (.pointer (some ⟨q, 0, none⟩)) [(0, 17)] (by kernel_rfl) rfl (by rfl) (fun w1 hw1 => ?_) ?_
    · simp only [pk, nthSp, lexVals]
      have hc := CG.out w1 (HX.out w1 hw1)
      clear hw1
      go_simp
      exact ⟨Ext.refl _, rfl⟩
    refine lx_e (.pointer (some ⟨g, 0, none⟩)) [] (by kernel_rfl) rfl (by rfl) (fun w1 hw1 => ?_) ?_
    · simp only [pk, lexVals]
      go_simp
      exact ⟨Ext.refl _, rfl⟩
    refine lx_e (.agg (hdV h)) [(0, 19)] (by kernel_rfl) rfl (by rfl) (fun w1 hw1 => ?_) ?_
    · simp only [pk, nthSp, lexVals]
      exact lu_hmid rfl rfl (HRh.out w1 (HX.out w1 hw1))
    refine lx_e (.int .i64 V) [(2, 18), (0, 20)] (by kernel_rfl) rfl (by rfl) (fun w1 hw1 => ?_) ?_
    · simp only [pk, nthSp, lexVals]
      have hm := HAs.out w1 (HX.out w1 hw1)
      have HM := Lib.hid hm
      clear hm hw1
      go_simp
      refine HM.out.mono ?_
      rintro e w2 ⟨rfl, hE2⟩
      exact ⟨_, rfl, hE2, rfl⟩
    refine lx_e (.int .i64 V) [(0, 21)] (by kernel_rfl) rfl (by rfl) (fun w1 hw1 => ?_) ?_
    · simp only [pk, nthSp, lexVals]
      go_simp
      exact ⟨Ext.refl _, rfl⟩
    refine lx_stopA (by rfl) fun w5 hw5 => ?_
    have HE5 := Lib.hid (HX.out w5 hw5)
    clear hw5 HX
    simp only [rv, pf, lexVals]
    simp only [Act.put, List.setIfInBounds_toArray, List.set_cons_zero, List.set_cons_succ]
    by_cases hv : V = 0
    · subst hv
      go_wp2_with (refine wpList_load_rowW rfl 37 _ rfl g rfl _ _ _ _ (HE5.out.keep HB2.out) Tryd.underlying37 rfl (by rw [Hsz.out]; kernel_rfl) ?_)
      refine (HWh.out w5 HE5.out).mono ?_
      rintro e w6 ⟨rfl, hE⟩
      have HE6 := Lib.hid (HE5.out.trans hE)
      clear hE
      cases W with
      | false =>
        go_wp2
        go_ret
        exact ⟨by first | rfl | simp, HE2.out.trans HE6.out⟩
      | true =>
        have c12 := C12.out w6 HE6.out
        by_cases hfull : 400 ≤ cnt
        · go_wp2
          go_ret
          exact ⟨by first | rfl | simp [hfull], HE2.out.trans HE6.out⟩
        · go_wp2
          go_ret
          exact ⟨by first | rfl | simp [hfull], HE2.out.trans HE6.out⟩
    · have y1 : (V == 0) = false := by simpa using hv
      go_wp2
      go_ret
      exact ⟨by first | rfl | simp [hv], HE2.out.trans HE5.out⟩

def hdsC (S : Nat → CSt) (k j : Nat) : Value := .int .u64 (if j < k then ((S j).l.length : Int) else 0)
theorem hdsC_set (S : Nat → CSt) (k j : Nat) : (if j = k then Value.int .u64 ((S k).l.length : Int) else hdsC S k j) = hdsC S (k + 1) j := by
  unfold hdsC
  by_cases h : j = k
  · subst h
    rw [if_pos rfl, if_pos (by omega)]
  · rw [if_neg h]
    by_cases hk : j < k
    · rw [if_pos hk, if_pos (by omega)]
    · rw [if_neg hk, if_neg (by omega)]
def gsL (G : Nat → Nat) : List Value := [.pointer (some ⟨G 0, 0, none⟩), .pointer (some ⟨G 1, 0, none⟩), .pointer (some ⟨G 2, 0, none⟩), .pointer (some ⟨G 3, 0, none⟩), .pointer (some ⟨G 4, 0, none⟩), .pointer (some ⟨G 5, 0, none⟩)]
def zero6 : Array Value := #[.int .u64 0, .int .u64 0, .int .u64 0, .int .u64 0, .int .u64 0, .int .u64 0]
theorem zero6_row (S : Nat → CSt) : zero6 = rowArr 6 (hdsC S 0) := rfl
set_option maxRecDepth 100000 in
theorem index_gs (w : World) (G : Nat → Nat) (k : Nat) (hk : k < 6) : (Instr.index 68 (.agg (gsL G).toArray) (.int .i64 (k : Int))).run Tryd.prog w = .ok (.pointer (some ⟨G k, 0, none⟩)) w := by
  rcases (by omega : k = 0 ∨ k = 1 ∨ k = 2 ∨ k = 3 ∨ k = 4 ∨ k = 5) with rfl | rfl | rfl | rfl | rfl | rfl <;> kernel_rfl
theorem info_ix68 : (Tryd.prog.info? 68).map (·.size) = some 6 := by kernel_rfl
set_option maxHeartbeats 4000000 in
set_option maxRecDepth 100000 in
theorem ixHeads_any {w : World} {B gx : Nat} {G : Nat → Nat} {S : Nat → CSt} {cnt : Int} (h0 : IxAt w B gx G S cnt) (hm : Modest S) :
    Calls Tryd.prog 16 #[.pointer (some ⟨gx, 0, none⟩)] w fun e w' => e = .returned (.agg (rowArr 6 fun j => .int .u64 ((S j).l.length : Int))) ∧ Ext w w' := by
  obtain ⟨w2, hw2⟩ : ∃ x, (w.alloc (.cells #[.int .u64 0, .int .u64 0, .int .u64 0, .int .u64 0, .int .u64 0, .int .u64 0] 48)).alloc (.cells #[.int .u64 0, .int .u64 0, .int .u64 0, .int .u64 0, .int .u64 0, .int .u64 0] 48) = x := ⟨_, rfl⟩
  have hE2 : Ext w w2 := by rw [← hw2]; exact ((Ext.refl w).alloc _).alloc _
  obtain ⟨r, hr⟩ : ∃ g, w.heap.size = g := ⟨_, rfl⟩
  have hs2 : w2.heap.size = r + 2 := by rw [← hw2, ← hr]; simp
  have hZ : w2.heap[r]? = some (.cells (rowArr 6 (hdsC S 0)) 48 (0, 0)) := by
    rw [← hw2, ← hr, ← zero6_row]
    exact ((Ext.refl _).alloc _).keep (heap_new w _ _ rfl)
  have hR : w2.rowIs (r + 1) 48 6 (hdsC S 0) := by
    refine rowIs_of ?_
    rw [← hw2, ← zero6_row]
    exact heap_new _ _ _ (by simp [hr])
  have hc : w2.rangeAt gx 0 (gsL G) := fun j v hv => by
    have hj : j < 6 := (List.getElem?_eq_some_iff.1 hv).1
    have h1 := ((h0.ext hE2).cells).1 j hj
    rw [Nat.zero_add, h1]
    rcases j with _ | _ | _ | _ | _ | _ | j <;> first | exact hv | (simp [gsL] at hv ⊢; exact hv) | omega
  have HIx := Lib.hid (fun (k : Nat) (hk : k < 6) (w : World) => index_gs w G k hk)
  obtain ⟨VG, hVG⟩ : ∃ x, (gsL G).toArray = x := ⟨_, rfl⟩
  have HVG := Lib.hid hVG
  rw [hVG] at HIx
  clear hVG
  have HHd := Lib.hid (show ∀ i, i < 6 → ∀ x, Ext w x → Calls Tryd.prog 33 #[.pointer (some ⟨G i, 0, none⟩)] x fun e w' => e = .returned (.int .u64 ((S i).l.length : Int)) ∧ Ext x w' from fun i hi x hx => head_any ((h0.ch i hi).ext hx) (by have := (hm i hi).1; omega))
  have HE2 := Lib.hid hE2
  have Hw2 := Lib.hid hw2
  have Hr := Lib.hid hr
  have HZ := Lib.hid hZ
  have HR := Lib.hid hR
  have Hc := Lib.hid hc
  clear h0 hm hr hw2 hE2 hs2 hZ hR hc
  go_enter Tryd.func16, Tryd.ntmps16
  go_upto_region 2 with (fail)
  refine wp_world (w' := w2) Hw2.out ?_
  rw [Hr.out]
  clear Hw2
  go_wp2_with (refine wpList_load_mid rfl 68 _ rfl gx 0 rfl (gsL G) _ Hc.out Tryd.underlying68 rfl info_ix68 ?_; rw [HVG.out])
  go_loopw [10] (fun i wr => ∃ k : Nat, k ≤ 6 ∧ i = .int .i64 (k : Int) ∧ wr.rowIs (r + 1) 48 6 (hdsC S k) ∧ wr.heap[r]? = some (.cells (rowArr 6 (hdsC S 0)) 48 (0, 0)) ∧ Ext w wr) (fun i _ => 6 - (intOf i).toNat)
  case atStart => exact ⟨0, by omega, rfl, HR.out, HZ.out, HE2.out⟩
  case round =>
    obtain ⟨k, hk, rfl, hR1, hZ1, hE1⟩ := hrel
    have HR1 := Lib.hid hR1
    have HZ1 := Lib.hid hZ1
    have HE1 := Lib.hid hE1
    clear hR1 hZ1 hE1
    by_cases hlt : k < 6
    · have x1 : (k : Int) < 6 := by omega
      have hix := HIx.out k hlt
      obtain ⟨q, hq⟩ : ∃ x, G k = x := ⟨_, rfl⟩
      have HM := Lib.hid (HHd.out k hlt wr HE1.out)
      rw [hq] at HM hix
      obtain ⟨N, hN⟩ : ∃ N, (S k).l.length = N := ⟨_, rfl⟩
      rw [hN] at HM
      have HN := Lib.hid hN
      clear hq hN
      go_wp2_with (fail)
      refine HM.out.mono ?_
      rintro e w4 ⟨rfl, hE⟩
      have hR4 := HR1.out.of_block (hE.block HR1.out.lt)
      have HR4 := Lib.hid ((hR4.set k (.int .u64 ((S k).l.length : Int))).congr fun j _ => hdsC_set S k j)
      have HZ4 := Lib.hid (hE.keep HZ1.out)
      have HE4 := Lib.hid (HE1.out.trans hE)
      have c := hR4.cell (i := k) (by omega)
      have f := hR4.frozen k
      clear hE hR4
      go_wp2
      go_roundw
      case rel =>
        have hrr := Hr.out
        have h4 := HR4.out
        rw [HN.out] at h4
        exact ⟨k + 1, by omega, by go_num, h4, by rw [(grown_setCell (World.grownBy.refl w4 _) (p := ⟨r + 1, k, none⟩) rfl (.int .u64 (N : Int))).block r (Array.getElem?_eq_some_iff.1 HZ4.out).1 (by simp)]; exact HZ4.out, HE4.out.setCell (by show w.heap.size ≤ r + 1; omega) _⟩
      case measure => simp [intOf]; omega
    · obtain rfl : k = 6 := by omega
      go_wp2_with (first | (refine wpList_load_rowW rfl 48 _ rfl (r + 1) rfl _ _ _ _ (rowIs_cells HR1.out) Tryd.underlying48 rfl (by rw [rowArr_size]; kernel_rfl) ?_) | (refine wpList_store_row rfl 48 _ _ rfl r _ rfl rfl _ _ HZ1.out (by kernel_rfl) (by simp only [rowArr_size]) (rowArr_one fun _ _ => rfl) ?_))
      have hrr := Hr.out
      exact bodyPost_ret (results_cell_row rfl _ _ r _ _ _ _ rfl (setRow_heap _ r _ _ _ _ HZ1.out) Tryd.underlying48 rfl (by kernel_rfl)) rfl ⟨by
        rw [rowArr_congr 6 (hdsC S 6) (fun j => .int .u64 ((S j).l.length : Int)) fun j hj => by unfold hdsC; rw [if_pos hj]], below_setRow HE1.out (by omega) _⟩

end Go.Proofs.YtihlpfdhallfpaaDoor
