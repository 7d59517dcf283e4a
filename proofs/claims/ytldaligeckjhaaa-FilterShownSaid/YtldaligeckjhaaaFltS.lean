/-
  The walks of slices.Index, Contains, IndexFunc, ContainsFunc of strings, and of filter.Shows. No conditions.
  The walk of awake of law 19; laws for literals of filters, wishes, items. No conditions.
  The walk of awake of law 19. No conditions.
-/
import Derived.Test.YtldaligeckjhaaaFltV
import Derived.Test.YtldaligeckjhaaaHdA
namespace Go.Proofs.Ytldaligeckjhaaa
open Go.ChangeAt Go.ChangeShapes Go.RowKit Go.WideShapes

def inS (ss : List ByteArray) (x : ByteArray) : Bool := ss.any fun s => x.toList == s.toList
theorem inS_step (ss : List ByteArray) (x : ByteArray) (k : Nat) (h : k < ss.length) : inS (ss.drop k) x = ((x.toList == (ss.getD k ⟨#[]⟩).toList) || inS (ss.drop (k + 1)) x) := by
  rw [List.drop_eq_getElem_cons h]
  unfold inS
  rw [List.any_cons, List.getD_eq_getElem?_getD, List.getElem?_eq_getElem h]
  rfl
def meetS (ts ss : List ByteArray) : Bool := ts.any fun t => inS ss t
theorem meetS_step (ts ss : List ByteArray) (k : Nat) (h : k < ts.length) : meetS (ts.drop k) ss = (inS ss (ts.getD k ⟨#[]⟩) || meetS (ts.drop (k + 1)) ss) := by
  rw [List.drop_eq_getElem_cons h]
  unfold meetS
  rw [List.any_cons, List.getD_eq_getElem?_getD, List.getElem?_eq_getElem h]
  rfl

set_option maxHeartbeats 1000000 in
set_option maxRecDepth 100000 in
theorem indexS_any (a : Option Addr) (n c : Nat) (ss : List ByteArray) (x : ByteArray) (w : World) (h : SrAt w a n c ss) :
    Calls Try.prog 78 #[.slice a n c, .string x] w fun e w' => ∃ r : Int, e = .returned (.int .i64 r) ∧ decide (0 ≤ r) = inS ss x ∧ Ext w w' := by
  have hlen := h.len
  have hcap := h.cap
  have hlim := h.lim
  have H := Lib.hid h
  have Hst := Lib.hid (show ∀ k, k < n → _ from fun k hk => inS_step ss x k (by omega))
  have H0 := Lib.hid (show inS (ss.drop 0) x = inS ss x from rfl)
  have Hen := Lib.hid (show inS (ss.drop n) x = false by rw [← hlen, List.drop_length]; rfl)
  obtain ⟨R, hR⟩ : ∃ R, inS ss x = R := ⟨_, rfl⟩
  rw [hR] at H0 ⊢
  clear h hlen hR
  go_enter Try.func78, Try.ntmps78
  go_wp2
  go_loopw [8] (fun i wr => ∃ k : Nat, k ≤ n ∧ i = .int .i64 (k : Int) ∧ inS (ss.drop k) x = R ∧ wr = w) (fun i _ => n - (intOf i).toNat)
  case atStart => exact ⟨0, Nat.zero_le _, rfl, H0.out, rfl⟩
  case round =>
    obtain ⟨k, hm, rfl, hr, rfl⟩ := hrel
    by_cases hlt : k < n
    · obtain ⟨p, off, rfl, hc⟩ := H.out.at_ (by omega)
      have hck := hc k hlt
      have hs := Hst.out k hlt
      obtain ⟨F, hF⟩ : ∃ F, ss.getD k ⟨#[]⟩ = F := ⟨_, rfl⟩
      rw [hF] at hck
      rw [hF, hr] at hs
      have Hs := Lib.hid hs
      have x1 : (k : Int) < (n : Int) := by omega
      clear hc hF hs hr
      cases q : (x.toList == F.toList) with
      | true =>
        have hR : R = true := by have h2 := Hs.out; rw [q] at h2; exact h2
        have HR := Lib.hid hR
        clear hR
        go_wp2
        go_ret
        exact ⟨(k : Int), rfl, by rw [HR.out]; first | rfl | exact decide_eq_true (by omega), Ext.refl _⟩
      | false =>
        have HR := Lib.hid (show R = inS (ss.drop (k + 1)) x by have h2 := Hs.out; rw [q] at h2; exact h2)
        go_wp2
        go_roundw
        case rel => exact ⟨k + 1, by omega, by go_num, HR.out.symm, by first | rfl | trivial⟩
        case measure => simp [intOf]; omega
    · obtain rfl : k = n := by omega
      have x1 : ¬ (k : Int) < (k : Int) := by omega
      have HR := Lib.hid (show R = false by rw [← hr]; exact Hen.out)
      clear hr
      go_wp2
      go_ret
      exact ⟨-1, rfl, by rw [HR.out]; first | rfl | decide, Ext.refl _⟩

set_option maxRecDepth 100000 in
theorem containsS_any (a : Option Addr) (n c : Nat) (ss : List ByteArray) (x : ByteArray) (w : World) (h : SrAt w a n c ss) :
    Calls Try.prog 52 #[.slice a n c, .string x] w fun e w' => e = .returned (.bool (inS ss x)) ∧ Ext w w' := by
  have HI := Lib.hid (indexS_any a n c ss x w h)
  clear h
  go_enter Try.func52, Try.ntmps52
  go_wp2_with fail
  refine HI.out.mono ?_
  rintro e w3 ⟨r, rfl, hr, hE⟩
  have HE3 := Lib.hid hE
  have Hr := Lib.hid hr
  clear hE hr HI
  go_wp2_with fail
  go_ret
  exact ⟨by rw [← Hr.out]; rfl, HE3.out⟩

set_option maxHeartbeats 1000000 in
set_option maxRecDepth 100000 in
theorem shows1_any (al : Bool) (b : Option Addr) (m d : Nat) (ss : List ByteArray) (x : ByteArray) (gb : Nat) (w : World) (hu : SrAt w b m d ss) (hb : w.heap[gb]? = some (.cells (fltV al (.slice b m d)) 55 (0, 0))) :
    Calls Try.prog 51 #[.string x, .pointer (some ⟨gb, 0, none⟩)] w fun e w' => e = .returned (.bool (inS ss x)) ∧ Ext w w' := by
  obtain ⟨c0, c1⟩ := flt_cell hb
  have HI := Lib.hid (containsS_any b m d ss x w hu)
  clear hu hb
  go_enter Try.func51, Try.ntmps51
  go_wp2_with fail
  refine HI.out.mono ?_
  rintro e w3 ⟨rfl, hE⟩
  have HE3 := Lib.hid hE
  clear hE HI
  go_wp2_with fail
  go_ret
  exact ⟨rfl, HE3.out⟩

set_option maxHeartbeats 1000000 in
set_option maxRecDepth 100000 in
theorem indexFuncS_any (al : Bool) (a : Option Addr) (n c : Nat) (ts : List ByteArray) (b : Option Addr) (m d : Nat) (ss : List ByteArray) (gb : Nat) (w : World) (h : SrAt w a n c ts) (hu : SrAt w b m d ss) (hb : w.heap[gb]? = some (.cells (fltV al (.slice b m d)) 55 (0, 0))) :
    Calls Try.prog 77 #[.slice a n c, .func (.func 51) #[] #[.pointer (some ⟨gb, 0, none⟩)]] w fun e w' => ∃ r : Int, e = .returned (.int .i64 r) ∧ decide (0 ≤ r) = meetS ts ss ∧ Ext w w' := by
  have hlen := h.len
  have hcap := h.cap
  have hlim := h.lim
  have H := Lib.hid h
  have HUu := Lib.hid hu
  have HB := Lib.hid hb
  have Hst := Lib.hid (show ∀ k, k < n → _ from fun k hk => meetS_step ts ss k (by omega))
  have H0 := Lib.hid (show meetS (ts.drop 0) ss = meetS ts ss from rfl)
  have Hen := Lib.hid (show meetS (ts.drop n) ss = false by rw [← hlen, List.drop_length]; rfl)
  obtain ⟨R, hR⟩ : ∃ R, meetS ts ss = R := ⟨_, rfl⟩
  rw [hR] at H0 ⊢
  clear h hlen hR hu hb
  go_enter Try.func77, Try.ntmps77
  go_wp2
  go_loopw [8] (fun i wr => ∃ k : Nat, k ≤ n ∧ i = .int .i64 (k : Int) ∧ meetS (ts.drop k) ss = R ∧ Ext w wr) (fun i _ => n - (intOf i).toNat)
  case atStart => exact ⟨0, Nat.zero_le _, rfl, H0.out, Ext.refl _⟩
  case round =>
    obtain ⟨k, hm, rfl, hr, hE⟩ := hrel
    have HE := Lib.hid hE
    by_cases hlt : k < n
    · obtain ⟨p, off, rfl, hc⟩ := (H.out.ext hE).at_ (by omega)
      obtain ⟨F, hF⟩ : ∃ F, ts.getD k ⟨#[]⟩ = F := ⟨_, rfl⟩
      have hck := hc k hlt
      have hs := Hst.out k hlt
      rw [hF] at hck
      rw [hF, hr] at hs
      have Hs := Lib.hid hs
      have HM := Lib.hid (shows1_any al b m d ss F gb wr (HUu.out.ext hE) (hE.keep HB.out))
      have x1 : (k : Int) < (n : Int) := by omega
      clear hc hF hs hr hE
      go_wp2_with (go_at_call 51; refine HM.out.mono ?_; rintro e w3 ⟨rfl, hE3⟩; have HE3 := Lib.hid (HE.out.trans hE3); clear hE3)
      · rename_i h1
        have hR : R = true := by have h2 := Hs.out; rw [h1] at h2; exact h2
        go_ret
        exact ⟨(k : Int), rfl, by rw [hR]; first | rfl | exact decide_eq_true (by omega), HE3.out⟩
      · rename_i h1
        have HR := Lib.hid (show R = meetS (ts.drop (k + 1)) ss by have h2 := Hs.out; rw [h1] at h2; exact h2)
        go_roundw
        case rel => exact ⟨k + 1, by omega, by go_num, HR.out.symm, HE3.out⟩
        case measure => simp [intOf]; omega
    · obtain rfl : k = n := by omega
      have x1 : ¬ (k : Int) < (k : Int) := by omega
      have hR : R = false := by rw [← hr]; exact Hen.out
      go_wp2_with fail
      go_ret
      exact ⟨-1, rfl, by first | rfl | decide, HE.out⟩

set_option maxRecDepth 100000 in
theorem containsFuncS_any (al : Bool) (a : Option Addr) (n c : Nat) (ts : List ByteArray) (b : Option Addr) (m d : Nat) (ss : List ByteArray) (gb : Nat) (w : World) (h : SrAt w a n c ts) (hu : SrAt w b m d ss) (hb : w.heap[gb]? = some (.cells (fltV al (.slice b m d)) 55 (0, 0))) :
    Calls Try.prog 50 #[.slice a n c, .func (.func 51) #[] #[.pointer (some ⟨gb, 0, none⟩)]] w fun e w' => e = .returned (.bool (meetS ts ss)) ∧ Ext w w' := by
  have HI := Lib.hid (indexFuncS_any al a n c ts b m d ss gb w h hu hb)
  clear h hu hb
  go_enter Try.func50, Try.ntmps50
  go_wp2_with fail
  refine HI.out.mono ?_
  rintro e w3 ⟨r, rfl, hr, hE⟩
  have HE3 := Lib.hid hE
  have Hr := Lib.hid hr
  clear hE hr HI
  go_wp2_with fail
  go_ret
  exact ⟨by rw [← Hr.out]; rfl, HE3.out⟩

/-- Whether an item is shown. -/
def showsB (al kn av : Bool) (ts ss : List ByteArray) : Bool := av && kn && (al || meetS ts ss)
set_option maxHeartbeats 2000000 in
set_option maxRecDepth 100000 in
theorem shows_any (al : Bool) (b : Option Addr) (m d : Nat) (ss : List ByteArray) (I : Nat → Value) (kn av : Bool) (a : Option Addr) (n c : Nat) (ts : List ByteArray) (w : World) (i1 : I 141 = .bool kn) (i2 : I 142 = .bool av) (i4 : I 144 = .slice a n c) (h : SrAt w a n c ts) (hu : SrAt w b m d ss) :
    Calls Try.prog 26 #[.agg (fltV al (.slice b m d)), .agg (rowArr 146 I)] w fun e w' => e = .returned (.bool (showsB al kn av ts ss)) ∧ Ext w w' := by
  obtain ⟨w2, hw2, hE2, hB2, hD2⟩ := two_box w (fltV al (.slice b m d)) (rowArr 146 I) 55 41
  obtain ⟨g, hg⟩ : ∃ g, w.heap.size = g := ⟨_, rfl⟩
  rw [hg] at hB2 hD2
  have HI := Lib.hid (containsFuncS_any al a n c ts b m d ss g w2 (h.ext hE2) (hu.ext hE2) hB2)
  obtain ⟨c0, c1⟩ := flt_cell hB2
  have d1 := row_cell hD2 141 (by omega)
  have d2 := row_cell hD2 142 (by omega)
  have d4 := row_cell hD2 144 (by omega)
  rw [i1] at d1
  rw [i2] at d2
  rw [i4] at d4
  have Hg := Lib.hid hg
  have Hw2 := Lib.hid hw2
  have HE2 := Lib.hid hE2
  have HF := Lib.hid (show showsB al kn av ts ss = (av && kn && (al || meetS ts ss)) from rfl)
  obtain ⟨R, hR⟩ : ∃ R, showsB al kn av ts ss = R := ⟨_, rfl⟩
  obtain ⟨M, hM⟩ : ∃ M, meetS ts ss = M := ⟨_, rfl⟩
  obtain ⟨IV, hIV⟩ : ∃ V, rowArr 146 I = V := ⟨_, rfl⟩
  rw [hR, hM] at HF
  rw [hM] at HI
  rw [hR]
  rw [hIV] at Hw2 ⊢
  have hmf : ∀ (fn : Fn) (first cap : Array Value) (w : World), (Instr.makeFunc fn first cap).run Try.prog w = .ok (.func fn first cap) w := fun _ _ _ _ => rfl
  clear hw2 hE2 hB2 hD2 hg h hu hR hM hIV i1 i2 i4
  go_enter Try.func26, Try.ntmps26
  go_upto_region 1 with (fail)
  refine wp_world (w' := w2) Hw2.out ?_
  rw [Hg.out]
  clear Hw2 Hg
  cases av with
  | false =>
    go_wp2
    go_ret
    exact ⟨by rw [HF.out]; rfl, HE2.out⟩
  | true =>
    cases kn with
    | false =>
      go_wp2
      go_ret
      exact ⟨by rw [HF.out]; rfl, HE2.out⟩
    | true =>
      cases al with
      | true =>
        go_wp2
        go_ret
        exact ⟨by rw [HF.out]; rfl, HE2.out⟩
      | false =>
        go_wp2_with fail
        refine HI.out.mono ?_
        rintro e w3 ⟨rfl, hE3⟩
        have HE3 := Lib.hid (HE2.out.trans hE3)
        clear hE3 HI
        go_wp2
        go_ret
        exact ⟨by rw [HF.out]; rfl, HE3.out⟩

/-- A row's strings, as a slice. -/
theorem sr_two {w : World} {g : Nat} {x y : ByteArray} {T : TypeId} {fr : Nat × Nat} (h : w.heap[g]? = some (.cells #[.string x, .string y] T fr)) (hx : x.size ≤ 100) (hy : y.size ≤ 100) : SrAt w (some ⟨g, 0, none⟩) 2 2 [x, y] := by
  refine ⟨rfl, Nat.le_refl _, by omega, fun s hs => ?_, fun _ => ⟨g, 0, rfl, fun i hi => ?_⟩⟩
  · simp only [List.mem_cons, List.not_mem_nil, or_false] at hs
    rcases hs with rfl | rfl <;> omega
  · unfold World.cell?
    simp only [h]
    rcases (show i = 0 ∨ i = 1 by omega) with rfl | rfl <;> rfl
/-- An item that is alive and known, with these tags. -/
def itZ (v : Value) (i : Nat) : Value := if i < 16 then .int .u8 0 else if i < 141 then hdC ⟨0, 0, fun _ => 0, 0, false, 0, fun _ => 0, none, 0, 0, fun _ => 0, fun _ => 0, 0, fun _ => 0⟩ (i - 16) else if i < 143 then .bool true else if i = 144 then v else .string ⟨#[]⟩
set_option maxRecDepth 100000 in
theorem build_itm (w : World) (a : Option Addr) (n c : Nat) : (Instr.build 41 #[(3, .bool true), (2, .bool true), (5, .slice a n c)]).run Try.prog w = .ok (.agg (rowArr 146 (itZ (.slice a n c)))) w := by kernel_rfl
set_option maxRecDepth 100000 in
theorem build_flt (w : World) (a : Option Addr) (n c : Nat) : (Instr.build 55 #[(1, .slice a n c)]).run Try.prog w = .ok (.agg (fltV false (.slice a n c))) w := by kernel_rfl
section
variable {ops : Array Oper} {Q : Exit → Act → World → Prop} {rest : List Oper} {o : Oper} {a : Act} {w : World}
theorem wp_build_flt (hgd : o.guard = none) (x : Operand) (ho : o.op = .build 55 #[(1, x)]) (p : Option Addr) (n c : Nat) (hx : a.eval x = .slice p n c) (h : wpList Try.prog ops Q rest (a.put o.dst (.agg (fltV false (.slice p n c)))) w) : wpList Try.prog ops Q (o :: rest) a w := by
  refine wpList_plain hgd fun K hK => ?_
  unfold Oper.wp execOp
  simp only [ho, List.map_toArray, List.map_cons, List.map_nil, hx, Sem.run_bind, build_flt, Result.andThen_ok, Sem.run_pure]
  exact hK _ _ h
theorem wp_build_itm (hgd : o.guard = none) (x y z : Operand) (ho : o.op = .build 41 #[(3, x), (2, y), (5, z)]) (p : Option Addr) (n c : Nat) (hx : a.eval x = .bool true) (hy : a.eval y = .bool true) (hz : a.eval z = .slice p n c) (h : wpList Try.prog ops Q rest (a.put o.dst (.agg (rowArr 146 (itZ (.slice p n c))))) w) : wpList Try.prog ops Q (o :: rest) a w := by
  refine wpList_plain hgd fun K hK => ?_
  unfold Oper.wp execOp
  simp only [ho, List.map_toArray, List.map_cons, List.map_nil, hx, hy, hz, Sem.run_bind, build_itm, Result.andThen_ok, Sem.run_pure]
  exact hK _ _ h
end
theorem fltV_one (al : Bool) (a : Option Addr) (n c : Nat) : (fltV al (.slice a n c)).all (·.oneCell') = true := by simp [fltV, Value.oneCell']

set_option maxHeartbeats 400000 in
set_option maxRecDepth 100000 in
theorem awake19_any (w : World) : Calls Try.prog 22 #[] w fun e w' => e = .returned (.bool true) ∧ Ext w w' := by
  go_enter Try.func22, Try.ntmps22
  go_wp2_with (first | (refine wp_build_flt rfl (.tmp 1) rfl _ _ _ rfl ?_) | (refine wp_build_itm rfl _ _ _ rfl _ _ _ rfl rfl rfl ?_))
  obtain ⟨w2, hw2, hE2, h0, h1⟩ := two_box w #[.string ⟨#[97]⟩, .string ⟨#[99]⟩] #[.string ⟨#[98]⟩, .string ⟨#[99]⟩] 9 9
  rw [hw2]
  have hm := shows_any false _ 2 2 [⟨#[97]⟩, ⟨#[99]⟩] (itZ (.slice (some ⟨w.heap.size + 1, 0, none⟩) 2 2)) true true _ 2 2 [⟨#[98]⟩, ⟨#[99]⟩] w2 rfl rfl rfl (sr_two h1 (by decide) (by decide)) (sr_two h0 (by decide) (by decide))
  have hv : showsB false true true [⟨#[98]⟩, ⟨#[99]⟩] [⟨#[97]⟩, ⟨#[99]⟩] = true := by decide +kernel
  rw [hv] at hm
  refine hm.mono ?_
  rintro e w3 ⟨rfl, hE⟩
  have HE := Lib.hid (hE2.trans hE)
  clear hE hm h1 h0 hv hE2 hw2
  go_wp2
  go_ret
  exact ⟨rfl, HE.out⟩

end Go.Proofs.Ytldaligeckjhaaa
