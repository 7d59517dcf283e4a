/-
  The walk of awake of law 19; laws for literals of filters, wishes, items. No conditions.
  The walk of awake of law 19. No conditions.
  The walk of filter.Of, and of awake of law 19. No conditions.
-/
import Derived.Test.YtdgbcieopkilcaaDoorFltS
import Derived.Test.YtdgbcieopkilcaaDoorLawKt
import Derived.Test.YtdgbcieopkilcaaDoorLexGd
namespace Go.Proofs.YtdgbcieopkilcaaDoor
open Go.ChangeAt Go.ChangeShapes Go.RowKit Go.WideShapes

/-- A row's strings, as a slice. -/
theorem sr_two {w : World} {g : Nat} {x y : ByteArray} {T : TypeId} {fr : Nat × Nat} (h : w.heap[g]? = some (.cells #[.string x, .string y] T fr)) (hx : x.size ≤ 100) (hy : y.size ≤ 100) : SrAt w (some ⟨g, 0, none⟩) 2 2 [x, y] := by
  refine ⟨rfl, Nat.le_refl _, by omega, fun s hs => ?_, fun _ => ⟨g, 0, rfl, fun i hi => ?_⟩⟩
  · simp only [List.mem_cons, List.not_mem_nil, or_false] at hs
    rcases hs with rfl | rfl <;> omega
  · unfold World.cell?
    simp only [h]
    rcases (show i = 0 ∨ i = 1 by omega) with rfl | rfl <;> rfl
/-- An item that is alive and known, with these tags. -/
def itZ (v : Value) (i : Nat) : Value := if i < 16 then .int .u8 0 else if i < 141 then hdC ⟨0, 0, fun _ => 0, 0, false, 0, fun _ => 0, none, 0, 0, fun _ => 0, fun _ => 0, 0, fun _ => 0⟩ (i - 16) else if i < 143 then .bool true else if i = 144 then v else .string ⟨#[]⟩
set_option maxRecDepth 100000 in
theorem build_itm (w : World) (a : Option Addr) (n c : Nat) : (Instr.build 72 #[(3, .bool true), (2, .bool true), (5, .slice a n c)]).run Tryd.prog w = .ok (.agg (rowArr 146 (itZ (.slice a n c)))) w := by kernel_rfl
set_option maxRecDepth 100000 in
theorem build_flt (w : World) (a : Option Addr) (n c : Nat) : (Instr.build 44 #[(1, .slice a n c)]).run Tryd.prog w = .ok (.agg (fltV false (.slice a n c))) w := by kernel_rfl
set_option maxRecDepth 100000 in
theorem build_wish0 (w : World) : (Instr.build 51 #[]).run Tryd.prog w = .ok (.agg (fltV false (.slice none 0 0))) w := by kernel_rfl
set_option maxRecDepth 100000 in
theorem build_wish (w : World) (al : Bool) (a : Option Addr) (n c : Nat) : (Instr.build 51 #[(0, .bool al), (1, .slice a n c)]).run Tryd.prog w = .ok (.agg (fltV al (.slice a n c))) w := by kernel_rfl
section
variable {ops : Array Oper} {Q : Exit → Act → World → Prop} {rest : List Oper} {o : Oper} {a : Act} {w : World}
theorem wp_build_flt (hgd : o.guard = none) (x : Operand) (ho : o.op = .build 44 #[(1, x)]) (p : Option Addr) (n c : Nat) (hx : a.eval x = .slice p n c) (h : wpList Tryd.prog ops Q rest (a.put o.dst (.agg (fltV false (.slice p n c)))) w) : wpList Tryd.prog ops Q (o :: rest) a w := by
  refine wpList_plain hgd fun K hK => ?_
  unfold Oper.wp execOp
  simp only [ho, List.map_toArray, List.map_cons, List.map_nil, hx, Sem.run_bind, build_flt, Result.andThen_ok, Sem.run_pure]
  exact hK _ _ h
theorem wp_build_itm (hgd : o.guard = none) (x y z : Operand) (ho : o.op = .build 72 #[(3, x), (2, y), (5, z)]) (p : Option Addr) (n c : Nat) (hx : a.eval x = .bool true) (hy : a.eval y = .bool true) (hz : a.eval z = .slice p n c) (h : wpList Tryd.prog ops Q rest (a.put o.dst (.agg (rowArr 146 (itZ (.slice p n c))))) w) : wpList Tryd.prog ops Q (o :: rest) a w := by
  refine wpList_plain hgd fun K hK => ?_
  unfold Oper.wp execOp
  simp only [ho, List.map_toArray, List.map_cons, List.map_nil, hx, hy, hz, Sem.run_bind, build_itm, Result.andThen_ok, Sem.run_pure]
  exact hK _ _ h
theorem wp_build_wish0 (hgd : o.guard = none) (ho : o.op = .build 51 #[]) (h : wpList Tryd.prog ops Q rest (a.put o.dst (.agg (fltV false (.slice none 0 0)))) w) : wpList Tryd.prog ops Q (o :: rest) a w := by
  refine wpList_plain hgd fun K hK => ?_
  unfold Oper.wp execOp
  simp only [ho, List.map_toArray, List.map_nil, Sem.run_bind, build_wish0, Result.andThen_ok, Sem.run_pure]
  exact hK _ _ h
theorem wp_build_wish (hgd : o.guard = none) (x y : Operand) (ho : o.op = .build 51 #[(0, x), (1, y)]) (al : Bool) (p : Option Addr) (n c : Nat) (hx : a.eval x = .bool al) (hy : a.eval y = .slice p n c) (h : wpList Tryd.prog ops Q rest (a.put o.dst (.agg (fltV al (.slice p n c)))) w) : wpList Tryd.prog ops Q (o :: rest) a w := by
  refine wpList_plain hgd fun K hK => ?_
  unfold Oper.wp execOp
  simp only [ho, List.map_toArray, List.map_cons, List.map_nil, hx, hy, Sem.run_bind, build_wish, Result.andThen_ok, Sem.run_pure]
  exact hK _ _ h
end
theorem fltV_one (al : Bool) (a : Option Addr) (n c : Nat) : (fltV al (.slice a n c)).all (·.oneCell') = true := by simp [fltV, Value.oneCell']

set_option maxHeartbeats 400000 in
set_option maxRecDepth 100000 in
theorem awake19_any (w : World) : Calls Tryd.prog 16 #[] w fun e w' => e = .returned (.bool true) ∧ Ext w w' := by
  go_enter Tryd.func16, Tryd.ntmps16
  go_wp2_with (first | (refine wp_build_flt rfl (.tmp 1) rfl _ _ _ rfl ?_) | (refine wp_build_itm rfl _ _ _ rfl _ _ _ rfl rfl rfl ?_))
  obtain ⟨w2, hw2, hE2, h0, h1⟩ := two_box w #[.string ⟨#[97]⟩, .string ⟨#[99]⟩] #[.string ⟨#[98]⟩, .string ⟨#[99]⟩] 9 9
  rw [hw2]
  have hm := shows_any false _ 2 2 [⟨#[97]⟩, ⟨#[99]⟩] (itZ (.slice (some ⟨w.heap.size + 1, 0, none⟩) 2 2)) true true _ 2 2 [⟨#[98]⟩, ⟨#[99]⟩] w2 rfl rfl rfl (sr_two h1 (by decide) (by decide)) (sr_two h0 (by decide) (by decide))
  have hv : showsB false true true [⟨#[98]⟩, ⟨#[99]⟩] [⟨#[97]⟩, ⟨#[99]⟩] = true := by decide +kernel
  rw [hv] at hm
  refine hm.mono ?_
  rintro e w3 ⟨rfl, hE⟩
  have HE := Lib.hid (hE2.trans hE)
  clear hE hm h1 h0 hv hE2 hw2
  go_wp2
  go_ret
  exact ⟨rfl, HE.out⟩

/-- What keys.Tokens gave. -/
def TkOf {gb gm top : Nat} {f : Nat → Int} (b : Blinder gb gm top f) (s : b.St) (ss : List ByteArray) (w : World) (B : Nat) (u : Value) (x : World) : Prop :=
  ∃ s' ts us a m c, Toks b s s' ss ss.length ts ∧ Srt ts us ∧ m = (cpt (us.map (·.1))).length ∧ u = .slice a m c ∧ x.ownsRow B 35 16 (.slice a m c) m (tkC (cpt (us.map (·.1)))) ∧ b.At s' x ∧ Kp2 gb gm w x
theorem TkOf.ext {gb gm top : Nat} {f : Nat → Int} {b : Blinder gb gm top f} {s : b.St} {ss : List ByteArray} {w x x' : World} {B : Nat} {u : Value} (h : TkOf b s ss w B u x) (he : Ext x x') (h1 : gb < B) (h2 : gm < B) : TkOf b s ss w B u x' := by
  obtain ⟨s', ts, us, a, m, c, k1, k2, k3, k4, k5, k6, k7⟩ := h
  exact ⟨s', ts, us, a, m, c, k1, k2, k3, k4, own_kp k5 (Kp2.of_ext he) h1 h2, b.kept k6 (Below.mono he (b.size k6)), k7.trans (Kp2.of_ext he)⟩
/-- What filter.Of answers. -/
def OfSays {gb gm top : Nat} {f : Nat → Int} (b : Blinder gb gm top f) (s : b.St) (al : Bool) (ss : List ByteArray) (w : World) (e : Ending) (w' : World) : Prop :=
  (flB al ss = true ∧ ∃ v, e = .returned (.agg (fltV al v)) ∧ TkOf b s ss w w.heap.size v w') ∨ (flB al ss = false ∧ e = .returned (.agg (fltV false (.slice none 0 0))) ∧ Ext w w')
theorem three_box (w : World) (A B C : Array Value) (T U V : TypeId) : ∃ w2, ((w.alloc (.cells A T)).alloc (.cells B U)).alloc (.cells C V) = w2 ∧ Ext w w2 ∧ w2.heap[w.heap.size]? = some (.cells A T (0, 0)) ∧ w2.heap[w.heap.size + 1]? = some (.cells B U (0, 0)) ∧ w2.heap[w.heap.size + 2]? = some (.cells C V (0, 0)) := by
  refine ⟨_, rfl, (((Ext.refl w).alloc _).alloc _).alloc _, ?_, ?_, ?_⟩
  · exact Ext.keep (((Ext.refl (w.alloc (.cells A T))).alloc _).alloc _) (heap_new w _ _ rfl)
  · exact Ext.keep ((Ext.refl ((w.alloc (.cells A T)).alloc (.cells B U))).alloc _) (heap_new _ _ _ (by simp))
  · exact heap_new _ _ _ (by simp)

/-- What holds while the tokens are asked for. -/
structure OfC {gb gm top : Nat} {f : Nat → Int} (b : Blinder gb gm top f) (s : b.St) (w3 : World) (ph : Bool) (x : World) : Prop where
  kp : Kp2 gb gm w3 x
  at_ : ph = false → b.At s x
set_option maxHeartbeats 2000000 in
set_option maxRecDepth 100000 in
theorem filterOf_any {gb gm top : Nat} {f : Nat → Int} (b : Blinder gb gm top f) (s : b.St) (w : World) (hs : b.At s w) (S : Nat → Value) (hS : ∀ i, i < 32 → S (64 + i) = .int .u8 (f i)) (al : Bool) (a : Option Addr) (n c : Nat) (ss : List ByteArray) (h : SrAt w a n c ss) (hne : 0 < n → ∀ p : Addr, a = some p → p.block ≠ gb ∧ p.block ≠ gm) (hn : n ≤ 1000) :
    Calls Tryd.prog 18 #[.pointer (some ⟨gb, 0, none⟩), .agg (rowArr 128 S), .agg (fltV al (.slice a n c))] w (OfSays b s al ss w) := by
  obtain ⟨w2, hw2, hE2, hA2, hB2, hC2⟩ := three_box w (rowArr 128 S) (fltV al (.slice a n c)) #[.bool false, .slice none 0 0] 30 44 51
  have htop := b.size hs
  have hgb := b.gb_top
  have hgm := b.gm_top
  have HFm := Lib.hid (fltFormed_any al a n c ss w2 (h.ext hE2))
  have H2 := Lib.hid (h.ext hE2)
  have HS := Lib.hid hS
  have HNe := Lib.hid hne
  have HA2 := Lib.hid (b.kept hs (Below.mono hE2 htop))
  have HE2 := Lib.hid hE2
  have Hw2 := Lib.hid hw2
  obtain ⟨g, hg⟩ : ∃ g, w.heap.size = g := ⟨_, rfl⟩
  rw [hg] at hA2 hB2 hC2 htop
  have Hg := Lib.hid hg
  have HRa := Lib.hid hA2
  have HRb := Lib.hid hB2
  have HRc := Lib.hid hC2
  obtain ⟨R, hR⟩ : ∃ R, flB al ss = R := ⟨_, rfl⟩
  have HR := Lib.hid hR
  rw [hR] at HFm
  obtain ⟨POST, hP⟩ : ∃ P : Ending → World → Prop, OfSays b s al ss w = P := ⟨_, rfl⟩
  have HP := Lib.hid hP
  rw [hP]
  clear hw2 hE2 hA2 hB2 hC2 hg hs hS hne h hR hP
  go_enter Tryd.func18, Tryd.ntmps18
  go_upto_region 1 with (fail)
  refine wp_world (w' := w2) Hw2.out ?_
  rw [Hg.out]
  clear Hw2
  go_wp2_with (refine wpList_load_rowW rfl 44 _ rfl (g + 1) rfl _ _ _ _ HRb.out Tryd.underlying44 rfl (by kernel_rfl) ?_)
  refine HFm.out.mono ?_
  rintro e w3 ⟨rfl, hE3⟩
  have HE3 := Lib.hid (HE2.out.trans hE3)
  have HRa3 := Lib.hid (hE3.keep HRa.out)
  have HRb3 := Lib.hid (hE3.keep HRb.out)
  have HRc3 := Lib.hid (hE3.keep HRc.out)
  have HSs := Lib.hid (H2.out.ext hE3)
  have HA3 := Lib.hid (b.kept HA2.out (Below.mono hE3 (b.size HA2.out)))
  clear hE3 HFm HRa HRb HRc HA2
  have hg3 : g + 2 < w3.heap.size := (Array.getElem?_eq_some_iff.1 HRc3.out).1
  cases R with
  | false =>
    go_wp2_with (first | (refine wp_build_wish0 rfl rfl ?_) | (refine wpList_store_row rfl 51 _ _ rfl (g + 2) _ rfl rfl _ _ HRc3.out (by kernel_rfl) rfl (fltV_one _ _ _ _) ?_))
    refine bodyPost_ret (results_cell_row rfl _ _ (g + 2) _ _ _ _ rfl (setRow_heap w3 (g + 2) _ _ _ _ HRc3.out) Tryd.underlying51 rfl (by kernel_rfl)) rfl ?_
    rw [← HP.out]
    exact .inr ⟨HR.out, rfl, below_setRow HE3.out (by have := Hg.out; omega) _⟩
  | true =>
    go_upto_region 3 with (fail)
    have hgs : gb < w3.heap.size := by omega
    have hms : gm < w3.heap.size := by omega
    have HFr := Lib.hid (show ∀ x, Kp2 gb gm w3 x → x.heap[g + 1]? = some (.cells (fltV al (.slice a n c)) 44 (0, 0)) from fun x hx => (hx.block (g + 1) (by omega) (by omega) (by omega)).trans HRb3.out)
    have HSr := Lib.hid (show ∀ x, Kp2 gb gm w3 x → x.heap[g]? = some (.cells (rowArr 128 S) 30 (0, 0)) from fun x hx => (hx.block g (by omega) (by omega) (by omega)).trans HRa3.out)
    have HST := Lib.hid (show ∀ (ph : Bool) (x1 x2 : World), OfC b s w3 ph x1 → Ext x1 x2 → OfC b s w3 ph x2 ∧ KtE gb gm ph x1 x2 from fun ph x1 x2 h1 h2 => ⟨⟨h1.1.trans (Kp2.of_ext h2), fun e => b.kept (h1.2 e) (Below.mono h2 (b.size (h1.2 e)))⟩, ktE_ext h2⟩)
    have hC0 : OfC b s w3 false w3.drew := ⟨Kp2.of_ext (Ext.refl w3).drew, fun _ => b.kept HA3.out (Below.drew (Below.refl _ _))⟩
    refine lq_start (C := OfC b s w3) (E := KtE gb gm) 7 6 (by omega) (by kernel_rfl) (by kernel_rfl) (fun ph x1 => ktE_ext (Ext.refl _)) (fun x1 x2 h => Kp2.of_ext h) hC0 ?_
    simp only [List.take_succ_cons, List.take_zero]
    refine lq_s (.ex (.pointer (some ⟨g + 1, 0, none⟩))) [] (by decide) (by kernel_rfl) rfl (by rfl) trivial HST.out (fun ph w1 hw1 => ?_) ?_
    · simp only [pk, lexVals]
      clear hw1
      go_simp
      exact ⟨Ext.refl _, rfl⟩
    refine lq_s (.ex (.bool al)) [(0, 11)] (by decide) (by kernel_rfl) rfl (by rfl) trivial HST.out (fun ph w1 hw1 => ?_) ?_
    · simp only [pk, nthSp, lexVals]
      have hc := (flt_cell (HFr.out w1 hw1.1)).1
      clear hw1
      go_simp
      exact ⟨Ext.refl _, rfl⟩
    refine lq_s (.ex (.pointer (some ⟨gb, 0, none⟩))) [] (by decide) (by kernel_rfl) rfl (by rfl) trivial HST.out (fun ph w1 hw1 => ?_) ?_
    · simp only [pk, lexVals]
      clear hw1
      go_simp
      exact ⟨Ext.refl _, rfl⟩
    refine lq_s (.ex (.agg (rowArr 128 S))) [] (by decide) (by kernel_rfl) rfl (by rfl) trivial HST.out (fun ph w1 hw1 => ?_) ?_
    · simp only [pk, lexVals]
      exact lu_row rfl rfl (HSr.out w1 hw1.1) Tryd.underlying30 rfl (by kernel_rfl)
    refine lq_s (.ex (.pointer (some ⟨g + 1, 1, none⟩))) [] (by decide) (by kernel_rfl) rfl (by rfl) trivial HST.out (fun ph w1 hw1 => ?_) ?_
    · simp only [pk, lexVals]
      clear hw1
      go_simp
      exact ⟨Ext.refl _, rfl⟩
    refine lq_s (.ex (.slice a n c)) [(0, 15)] (by decide) (by kernel_rfl) rfl (by rfl) trivial HST.out (fun ph w1 hw1 => ?_) ?_
    · simp only [pk, nthSp, lexVals]
      have hc := (flt_cell (HFr.out w1 hw1.1)).2
      clear hw1
      go_simp
      exact ⟨Ext.refl _, rfl⟩
    refine lq_m (.ab (TkOf b s ss w3 w3.heap.size)) [(3, 13), (2, 14), (0, 16)] rfl (by kernel_rfl) rfl (by rfl) (fun u x x' hx h => TkOf.ext h hx hgs hms) (fun w1 hw1 => ?_) ?_
    · simp only [pk, nthSp, lexVals]
      have hm := tokens_any b s w1 (hw1.2 rfl) S HS.out a n c ss (HSs.out.kp hw1.1 HNe.out) HNe.out hn
      have HM := Lib.hid hm
      have HW := Lib.hid hw1.1
      clear hm hw1
      go_simp
      refine HM.out.mono ?_
      rintro e w2 hS
      obtain ⟨s', ts, us, a1, m1, c1, h1, h2, h3, rfl, h4, h5, h6⟩ := hS
      exact ⟨_, rfl, ⟨HW.out.trans h6, fun e => by cases e⟩, h6, s', ts, us, a1, m1, c1, h1, h2, h3, rfl, own_below h4 HW.out.size, h5, HW.out.trans h6⟩
    refine lq_stop (by rfl) (by decide) fun w7 hw7 => ?_
    simp only [rv, pf, lexVals, List.drop_succ_cons, List.drop_zero]
    rintro u17 hT
    have hT2 := hT
    obtain ⟨s', ts, us, a1, m1, c1, h1, h2, h3, rfl, h4, h5, h6⟩ := hT2
    have HT := Lib.hid hT
    have HC7 := Lib.hid ((hw7.1.block (g + 2) hg3 (by omega) (by omega)).trans HRc3.out)
    have HK7 := Lib.hid hw7.1
    clear hw7 hT h1 h2 h3 h4 h5 h6 hC0 HST HFr HSr
    simp only [Act.put, List.setIfInBounds_toArray, List.set_cons_zero, List.set_cons_succ]
    go_wp2_with (first | (refine wp_build_wish rfl _ _ rfl al _ _ _ rfl rfl ?_) | (refine wpList_store_row rfl 51 _ _ rfl (g + 2) _ rfl rfl _ _ HC7.out (by kernel_rfl) rfl (fltV_one _ _ _ _) ?_))
    refine bodyPost_ret (results_cell_row rfl _ _ (g + 2) _ _ _ _ rfl (setRow_heap w7 (g + 2) _ _ _ _ HC7.out) Tryd.underlying51 rfl (by kernel_rfl)) rfl ?_
    rw [← HP.out]
    obtain ⟨s2, ts2, us2, a2, m2, c2, k1, k2, k3, k4, k5, k6, k7⟩ := HT.out
    simp only [Value.slice.injEq] at k4
    obtain ⟨rfl, rfl, rfl⟩ := k4
    have hB : Below (g + 2) w7 (w7.setRow (g + 2) (fltV al (.slice a1 m1 c1))) := below_setRow (Below.refl _ _) (Nat.le_refl _) _
    refine .inl ⟨HR.out, _, rfl, s2, ts2, us2, a1, m1, c1, k1, k2, k3, rfl, own_below (k5.kept (grown_setRow w7 (g + 2) _) (Or.inr fun e => ?_)) (by have := Below.size HE3.out; omega), b.kept k6 (Below.mono hB (by omega)), ((Kp2.of_ext HE3.out).trans k7).new (by have := Hg.out; omega) hB⟩
    have := (k5.lt (g + 2) e).1
    omega

end Go.Proofs.YtdgbcieopkilcaaDoor
