/-
  The walks of filter.Wider and of reference 19's in, Wider and Shows. No conditions.
-/
import Derived.Test.YtldaligeckjhaaaFltS
import Derived.BigQuiet
import Derived.Deep.QuietTactic
namespace Go.Proofs.Ytldaligeckjhaaa
open Go.ChangeAt Go.ChangeShapes Go.RowKit Go.WideShapes

set_option maxHeartbeats 1000000 in
set_option maxRecDepth 100000 in
theorem refInS_any (a : Option Addr) (n c : Nat) (ss : List ByteArray) (x : ByteArray) (w : World) (h : SrAt w a n c ss) :
    Calls Try.prog 53 #[.slice a n c, .string x] w fun e w' => e = .returned (.bool (inS ss x)) ∧ w' = w := by
  have hlen := h.len
  have hcap := h.cap
  have hlim := h.lim
  have H := Lib.hid h
  have Hst := Lib.hid (show ∀ k, k < n → _ from fun k hk => inS_step ss x k (by omega))
  have H0 := Lib.hid (show inS (ss.drop 0) x = inS ss x from rfl)
  have Hen := Lib.hid (show inS (ss.drop n) x = false by rw [← hlen, List.drop_length]; rfl)
  obtain ⟨R, hR⟩ : ∃ R, inS ss x = R := ⟨_, rfl⟩
  rw [hR] at H0 ⊢
  clear h hlen hR
  go_enter Try.func53, Try.ntmps53
  go_wp2
  go_loopw [5] (fun i wr => ∃ k : Nat, k ≤ n ∧ i = .int .i64 (k : Int) ∧ inS (ss.drop k) x = R ∧ wr = w) (fun i _ => n - (intOf i).toNat)
  case atStart => exact ⟨0, Nat.zero_le _, rfl, H0.out, rfl⟩
  case round =>
    obtain ⟨k, hm, rfl, hr, rfl⟩ := hrel
    by_cases hlt : k < n
    · obtain ⟨p, off, rfl, hc⟩ := H.out.at_ (by omega)
      have hck := hc k hlt
      have hs := Hst.out k hlt
      obtain ⟨F, hF⟩ : ∃ F, ss.getD k ⟨#[]⟩ = F := ⟨_, rfl⟩
      rw [hF] at hck
      rw [hF, hr] at hs
      have hq2 : (F.toList == x.toList) = (x.toList == F.toList) := by
        rw [Bool.eq_iff_iff]
        simp only [beq_iff_eq]
        exact ⟨fun e => e.symm, fun e => e.symm⟩
      have Hs := Lib.hid hs
      have x1 : (k : Int) < (n : Int) := by omega
      clear hc hF hs hr
      cases q : (x.toList == F.toList) with
      | true =>
        rw [q] at hq2
        have hR : R = true := by have h2 := Hs.out; rw [q] at h2; exact h2
        have HR := Lib.hid hR
        clear hR
        go_wp2
        go_ret
        exact ⟨by rw [HR.out]; rfl, rfl⟩
      | false =>
        rw [q] at hq2
        have HR := Lib.hid (show R = inS (ss.drop (k + 1)) x by have h2 := Hs.out; rw [q] at h2; exact h2)
        go_wp2
        go_roundw
        case rel => exact ⟨k + 1, by omega, by go_num, HR.out.symm, by first | rfl | trivial⟩
        case measure => simp [intOf]; omega
    · obtain rfl : k = n := by omega
      have x1 : ¬ (k : Int) < (k : Int) := by omega
      have HR := Lib.hid (show R = false by rw [← hr]; exact Hen.out)
      clear hr
      go_wp2
      go_ret
      exact ⟨by rw [HR.out]; rfl, rfl⟩

set_option maxHeartbeats 1000000 in
set_option maxRecDepth 100000 in
theorem wider1_any (al : Bool) (b : Option Addr) (m d : Nat) (ss : List ByteArray) (x : ByteArray) (gb : Nat) (w : World) (hu : SrAt w b m d ss) (hb : w.heap[gb]? = some (.cells (fltV al (.slice b m d)) 55 (0, 0))) :
    Calls Try.prog 54 #[.string x, .pointer (some ⟨gb, 0, none⟩)] w fun e w' => e = .returned (.bool (!inS ss x)) ∧ Ext w w' := by
  obtain ⟨c0, c1⟩ := flt_cell hb
  have HI := Lib.hid (containsS_any b m d ss x w hu)
  clear hu hb
  go_enter Try.func54, Try.ntmps54
  go_wp2_with fail
  refine HI.out.mono ?_
  rintro e w3 ⟨rfl, hE⟩
  have HE3 := Lib.hid hE
  clear hE HI
  go_wp2_with fail
  go_ret
  exact ⟨rfl, HE3.out⟩

/-- Whether one of these isn't there. -/
def lackS (ts ss : List ByteArray) : Bool := ts.any fun t => !inS ss t
theorem lackS_step (ts ss : List ByteArray) (k : Nat) (h : k < ts.length) : lackS (ts.drop k) ss = (!inS ss (ts.getD k ⟨#[]⟩) || lackS (ts.drop (k + 1)) ss) := by
  rw [List.drop_eq_getElem_cons h]
  unfold lackS
  rw [List.any_cons, List.getD_eq_getElem?_getD, List.getElem?_eq_getElem h]
  rfl
set_option maxHeartbeats 1000000 in
set_option maxRecDepth 100000 in
theorem indexFuncW_any (al : Bool) (a : Option Addr) (n c : Nat) (ts : List ByteArray) (b : Option Addr) (m d : Nat) (ss : List ByteArray) (gb : Nat) (w : World) (h : SrAt w a n c ts) (hu : SrAt w b m d ss) (hb : w.heap[gb]? = some (.cells (fltV al (.slice b m d)) 55 (0, 0))) :
    Calls Try.prog 77 #[.slice a n c, .func (.func 54) #[] #[.pointer (some ⟨gb, 0, none⟩)]] w fun e w' => ∃ r : Int, e = .returned (.int .i64 r) ∧ decide (0 ≤ r) = lackS ts ss ∧ Ext w w' := by
  have hlen := h.len
  have hcap := h.cap
  have hlim := h.lim
  have H := Lib.hid h
  have HUu := Lib.hid hu
  have HB := Lib.hid hb
  have Hst := Lib.hid (show ∀ k, k < n → _ from fun k hk => lackS_step ts ss k (by omega))
  have H0 := Lib.hid (show lackS (ts.drop 0) ss = lackS ts ss from rfl)
  have Hen := Lib.hid (show lackS (ts.drop n) ss = false by rw [← hlen, List.drop_length]; rfl)
  obtain ⟨R, hR⟩ : ∃ R, lackS ts ss = R := ⟨_, rfl⟩
  rw [hR] at H0 ⊢
  clear h hlen hR hu hb
  go_enter Try.func77, Try.ntmps77
  go_wp2
  go_loopw [8] (fun i wr => ∃ k : Nat, k ≤ n ∧ i = .int .i64 (k : Int) ∧ lackS (ts.drop k) ss = R ∧ Ext w wr) (fun i _ => n - (intOf i).toNat)
  case atStart => exact ⟨0, Nat.zero_le _, rfl, H0.out, Ext.refl _⟩
  case round =>
    obtain ⟨k, hm, rfl, hr, hE⟩ := hrel
    have HE := Lib.hid hE
    by_cases hlt : k < n
    · obtain ⟨p, off, rfl, hc⟩ := (H.out.ext hE).at_ (by omega)
      obtain ⟨F, hF⟩ : ∃ F, ts.getD k ⟨#[]⟩ = F := ⟨_, rfl⟩
      have hck := hc k hlt
      have hs := Hst.out k hlt
      rw [hF] at hck
      rw [hF, hr] at hs
      have HM := Lib.hid (wider1_any al b m d ss F gb wr (HUu.out.ext hE) (hE.keep HB.out))
      obtain ⟨q, hq⟩ : ∃ q, (!inS ss F) = q := ⟨_, rfl⟩
      rw [hq] at HM hs
      have Hs := Lib.hid hs
      have x1 : (k : Int) < (n : Int) := by omega
      clear hc hF hs hr hE hq
      cases q with
      | true =>
        have HR := Lib.hid (show R = true from Hs.out)
        go_wp2_with (go_at_call 54; refine HM.out.mono ?_; rintro e w3 ⟨rfl, hE3⟩; have HE3 := Lib.hid (HE.out.trans hE3); clear hE3)
        go_ret
        exact ⟨(k : Int), rfl, by rw [HR.out]; first | rfl | exact decide_eq_true (by omega), HE3.out⟩
      | false =>
        have HR := Lib.hid (show R = lackS (ts.drop (k + 1)) ss from Hs.out)
        go_wp2_with (go_at_call 54; refine HM.out.mono ?_; rintro e w3 ⟨rfl, hE3⟩; have HE3 := Lib.hid (HE.out.trans hE3); clear hE3)
        go_roundw
        case rel => exact ⟨k + 1, by omega, by go_num, HR.out.symm, HE3.out⟩
        case measure => simp [intOf]; omega
    · obtain rfl : k = n := by omega
      have x1 : ¬ (k : Int) < (k : Int) := by omega
      have hR : R = false := by rw [← hr]; exact Hen.out
      go_wp2_with fail
      go_ret
      exact ⟨-1, rfl, by first | rfl | decide, HE.out⟩

set_option maxRecDepth 100000 in
theorem containsFuncW_any (al : Bool) (a : Option Addr) (n c : Nat) (ts : List ByteArray) (b : Option Addr) (m d : Nat) (ss : List ByteArray) (gb : Nat) (w : World) (h : SrAt w a n c ts) (hu : SrAt w b m d ss) (hb : w.heap[gb]? = some (.cells (fltV al (.slice b m d)) 55 (0, 0))) :
    Calls Try.prog 50 #[.slice a n c, .func (.func 54) #[] #[.pointer (some ⟨gb, 0, none⟩)]] w fun e w' => e = .returned (.bool (lackS ts ss)) ∧ Ext w w' := by
  have HI := Lib.hid (indexFuncW_any al a n c ts b m d ss gb w h hu hb)
  clear h hu hb
  go_enter Try.func50, Try.ntmps50
  go_wp2_with fail
  refine HI.out.mono ?_
  rintro e w3 ⟨r, rfl, hr, hE⟩
  have HE3 := Lib.hid hE
  have Hr := Lib.hid hr
  clear hE hr HI
  go_wp2_with fail
  go_ret
  exact ⟨by rw [← Hr.out]; rfl, HE3.out⟩

/-- Whether the first wants all that the second wants. -/
def widB (al bl : Bool) (ss ts : List ByteArray) : Bool := al || (!bl && !lackS ts ss)
theorem widB_shows {al bl : Bool} {ss ts : List ByteArray} (h : widB al bl ss ts = true) (kn av : Bool) (us : List ByteArray) (k : showsB bl kn av us ts = true) : showsB al kn av us ss = true := by
  unfold showsB at k ⊢
  unfold widB at h
  rw [Bool.and_eq_true, Bool.or_eq_true] at k
  rw [Bool.and_eq_true, Bool.or_eq_true]
  refine ⟨k.1, ?_⟩
  rw [Bool.or_eq_true, Bool.and_eq_true] at h
  rcases h with h | ⟨h1, h2⟩
  · exact Or.inl h
  · rcases k.2 with k | k
    · rw [k] at h1
      cases h1
    · refine Or.inr ?_
      unfold meetS at k ⊢
      rw [List.any_eq_true] at k ⊢
      obtain ⟨u, hu, hk⟩ := k
      refine ⟨u, hu, ?_⟩
      unfold inS at hk
      rw [List.any_eq_true] at hk
      obtain ⟨t, ht, he⟩ := hk
      have h3 : lackS ts ss = false := by simpa using h2
      unfold lackS at h3
      rw [List.any_eq_false] at h3
      have h4 := h3 t ht
      have h5 : inS ss t = true := by simpa using h4
      unfold inS at h5 ⊢
      rw [beq_iff_eq] at he
      rw [he]
      exact h5
set_option maxHeartbeats 2000000 in
set_option maxRecDepth 100000 in
theorem wider_any (al : Bool) (a : Option Addr) (n c : Nat) (ss : List ByteArray) (bl : Bool) (b : Option Addr) (m d : Nat) (ts : List ByteArray) (w : World) (h : SrAt w a n c ss) (hu : SrAt w b m d ts) :
    Calls Try.prog 28 #[.agg (fltV al (.slice a n c)), .agg (fltV bl (.slice b m d))] w fun e w' => e = .returned (.bool (widB al bl ss ts)) ∧ Ext w w' := by
  obtain ⟨w2, hw2, hE2, hB2, hD2⟩ := two_box w (fltV al (.slice a n c)) (fltV bl (.slice b m d)) 55 55
  obtain ⟨g, hg⟩ : ∃ g, w.heap.size = g := ⟨_, rfl⟩
  rw [hg] at hB2 hD2
  have HI := Lib.hid (containsFuncW_any al b m d ts a n c ss g w2 (hu.ext hE2) (h.ext hE2) hB2)
  obtain ⟨c0, c1⟩ := flt_cell hB2
  obtain ⟨d0, d1⟩ := flt_cell hD2
  have Hg := Lib.hid hg
  have Hw2 := Lib.hid hw2
  have HE2 := Lib.hid hE2
  have HF := Lib.hid (show widB al bl ss ts = (al || (!bl && !lackS ts ss)) from rfl)
  obtain ⟨R, hR⟩ : ∃ R, widB al bl ss ts = R := ⟨_, rfl⟩
  obtain ⟨M, hM⟩ : ∃ M, lackS ts ss = M := ⟨_, rfl⟩
  rw [hR, hM] at HF
  rw [hM] at HI
  rw [hR]
  have hmf : ∀ (fn : Fn) (first cap : Array Value) (w : World), (Instr.makeFunc fn first cap).run Try.prog w = .ok (.func fn first cap) w := fun _ _ _ _ => rfl
  clear hw2 hE2 hB2 hD2 hg h hu hR hM
  go_enter Try.func28, Try.ntmps28
  go_upto_region 1 with (fail)
  refine wp_world (w' := w2) Hw2.out ?_
  rw [Hg.out]
  clear Hw2 Hg
  cases al with
  | true =>
    go_wp2
    go_ret
    exact ⟨by rw [HF.out]; rfl, HE2.out⟩
  | false =>
    cases bl with
    | true =>
      go_wp2
      go_ret
      exact ⟨by rw [HF.out]; rfl, HE2.out⟩
    | false =>
      go_wp2_with fail
      refine HI.out.mono ?_
      rintro e w3 ⟨rfl, hE3⟩
      have HE3 := Lib.hid (HE2.out.trans hE3)
      clear hE3 HI
      go_wp2
      go_ret
      exact ⟨by rw [HF.out]; rfl, HE3.out⟩

set_option maxHeartbeats 4000000 in
set_option maxRecDepth 100000 in
theorem refWider_any (al : Bool) (a : Option Addr) (n c : Nat) (ss : List ByteArray) (bl : Bool) (b : Option Addr) (m d : Nat) (ts : List ByteArray) (w : World) (h : SrAt w a n c ss) (hu : SrAt w b m d ts) :
    Calls Try.prog 29 #[.agg (fltV al (.slice a n c)), .agg (fltV bl (.slice b m d))] w fun e w' => e = .returned (.bool (widB al bl ss ts)) ∧ Ext w w' := by
  obtain ⟨w2, hw2, hE2, hB2, hD2⟩ := two_box w (fltV al (.slice a n c)) (fltV bl (.slice b m d)) 55 55
  obtain ⟨g, hg⟩ : ∃ g, w.heap.size = g := ⟨_, rfl⟩
  rw [hg] at hB2 hD2
  have HC := Lib.hid (show ∀ x, Ext w2 x → (x.cell? ⟨g, 0, none⟩ = some (.bool al) ∧ x.cell? ⟨g, 1, none⟩ = some (.slice a n c)) ∧ (x.cell? ⟨g + 1, 0, none⟩ = some (.bool bl) ∧ x.cell? ⟨g + 1, 1, none⟩ = some (.slice b m d)) from fun x hx => ⟨flt_cell (hx.keep hB2), flt_cell (hx.keep hD2)⟩)
  have hlen := hu.len
  have hcap := hu.cap
  have hlim := hu.lim
  have H := Lib.hid (h.ext hE2)
  have HU := Lib.hid (hu.ext hE2)
  have Hst := Lib.hid (show ∀ k, k < m → _ from fun k hk => lackS_step ts ss k (by omega))
  have H0 := Lib.hid (show lackS (ts.drop 0) ss = lackS ts ss from rfl)
  have Hen := Lib.hid (show lackS (ts.drop m) ss = false by rw [← hlen, List.drop_length]; rfl)
  have Hg := Lib.hid hg
  have Hw2 := Lib.hid hw2
  have HE2 := Lib.hid hE2
  have HF := Lib.hid (show widB al bl ss ts = (al || (!bl && !lackS ts ss)) from rfl)
  obtain ⟨R, hR⟩ : ∃ R, widB al bl ss ts = R := ⟨_, rfl⟩
  obtain ⟨M, hM⟩ : ∃ M, lackS ts ss = M := ⟨_, rfl⟩
  rw [hR, hM] at HF
  rw [hM] at H0
  rw [hR]
  clear hw2 hE2 hB2 hD2 hg h hu hR hM hlen
  go_enter Try.func29, Try.ntmps29
  go_upto_region 1 with (fail)
  refine wp_world (w' := w2) Hw2.out ?_
  rw [Hg.out]
  clear Hw2 Hg
  go_wp2
  cases al with
  | true =>
    go_loopw [5] (fun i wr => ∃ k : Nat, k ≤ m ∧ i = .int .i64 (k : Int) ∧ Ext w2 wr) (fun i _ => m - (intOf i).toNat)
    case atStart => exact ⟨0, Nat.zero_le _, rfl, Ext.refl _⟩
    case round =>
      obtain ⟨k, hm, rfl, hE⟩ := hrel
      rename World => wr
      have HE := Lib.hid hE
      obtain ⟨⟨c0, c1⟩, d0, d1⟩ := HC.out wr hE
      clear hE
      by_cases hlt : k < m
      · have x1 : (k : Int) < (m : Int) := by omega
        go_upto_region 4 with (fail)
        go_quiet (fail)
        go_wp2
        go_roundw
        case rel => exact ⟨k + 1, by omega, by go_num, by first | exact HE.out.drewN' _ | exact HE.out⟩
        case measure => simp [intOf]; omega
      · have x1 : ¬ (k : Int) < (m : Int) := by omega
        go_wp2
        go_ret
        exact ⟨by rw [HF.out]; rfl, HE2.out.trans HE.out⟩
  | false =>
    go_loopw [5] (fun i wr => ∃ k : Nat, k ≤ m ∧ i = .int .i64 (k : Int) ∧ lackS (ts.drop k) ss = M ∧ Ext w2 wr) (fun i _ => m - (intOf i).toNat)
    case atStart => exact ⟨0, Nat.zero_le _, rfl, H0.out, Ext.refl _⟩
    case round =>
      obtain ⟨k, hm, rfl, hr, hE⟩ := hrel
      rename World => wr
      have HE := Lib.hid hE
      obtain ⟨⟨c0, c1⟩, d0, d1⟩ := HC.out wr hE
      by_cases hlt : k < m
      · have x1 : (k : Int) < (m : Int) := by omega
        obtain ⟨p, off, rfl, hc⟩ := (HU.out.ext hE).at_ (by omega)
        obtain ⟨F, hF⟩ : ∃ F, ts.getD k ⟨#[]⟩ = F := ⟨_, rfl⟩
        have hck := hc k hlt
        have hs := Hst.out k hlt
        rw [hF] at hck
        rw [hF, hr] at hs
        have HM := Lib.hid (fun nq => refInS_any a n c ss F (wr.drewN nq) (H.out.ext (hE.drewN' nq)))
        obtain ⟨q, hq⟩ : ∃ q, inS ss F = q := ⟨_, rfl⟩
        rw [hq] at HM hs
        have Hs := Lib.hid hs
        clear hc hF hs hr hE hq
        go_upto_region 4 with (fail)
        cases q with
        | false =>
          have HR := Lib.hid (show M = true from Hs.out)
          go_quiet (first | (go_at_call 53; exact Calls.quiet_of_same (HM.out _)))
          go_wp2
          go_ret
          exact ⟨by rw [HF.out, HR.out]; cases bl <;> rfl, HE2.out.trans (by first | exact HE.out.drewN' _ | exact HE.out)⟩
        | true =>
          have HR := Lib.hid (show M = lackS (ts.drop (k + 1)) ss from Hs.out)
          go_quiet (first | (go_at_call 53; exact Calls.quiet_of_same (HM.out _)))
          go_wp2
          go_roundw
          case rel => exact ⟨k + 1, by omega, by go_num, HR.out.symm, by first | exact HE.out.drewN' _ | exact HE.out⟩
          case measure => simp [intOf]; omega
      · obtain rfl : k = m := by omega
        have x1 : ¬ (k : Int) < (k : Int) := by omega
        have HR := Lib.hid (show M = false by rw [← hr]; exact Hen.out)
        clear hr hE
        go_wp2
        go_ret
        exact ⟨by rw [HF.out, HR.out]; cases bl <;> rfl, HE2.out.trans HE.out⟩

set_option maxHeartbeats 4000000 in
set_option maxRecDepth 100000 in
theorem refShows_any (al : Bool) (b : Option Addr) (m d : Nat) (ss : List ByteArray) (I : Nat → Value) (kn av : Bool) (a : Option Addr) (n c : Nat) (ts : List ByteArray) (w : World) (i1 : I 141 = .bool kn) (i2 : I 142 = .bool av) (i4 : I 144 = .slice a n c) (h : SrAt w a n c ts) (hu : SrAt w b m d ss) :
    Calls Try.prog 27 #[.agg (fltV al (.slice b m d)), .agg (rowArr 146 I)] w fun e w' => e = .returned (.bool (showsB al kn av ts ss)) ∧ Ext w w' := by
  obtain ⟨w2, hw2, hE2, hB2, hD2⟩ := two_box w (fltV al (.slice b m d)) (rowArr 146 I) 55 41
  obtain ⟨g, hg⟩ : ∃ g, w.heap.size = g := ⟨_, rfl⟩
  rw [hg] at hB2 hD2
  have HC := Lib.hid (show ∀ x, Ext w2 x → (x.cell? ⟨g, 0, none⟩ = some (.bool al) ∧ x.cell? ⟨g, 1, none⟩ = some (.slice b m d)) ∧ x.cell? ⟨g + 1, 141, none⟩ = some (.bool kn) ∧ x.cell? ⟨g + 1, 142, none⟩ = some (.bool av) ∧ x.cell? ⟨g + 1, 144, none⟩ = some (.slice a n c) from fun x hx => by
    have d1 := row_cell (hx.keep hD2) 141 (by omega)
    have d2 := row_cell (hx.keep hD2) 142 (by omega)
    have d4 := row_cell (hx.keep hD2) 144 (by omega)
    rw [i1] at d1
    rw [i2] at d2
    rw [i4] at d4
    exact ⟨flt_cell (hx.keep hB2), d1, d2, d4⟩)
  have hlen := h.len
  have hcap := h.cap
  have hlim := h.lim
  have H := Lib.hid (h.ext hE2)
  have HU := Lib.hid (hu.ext hE2)
  have Hst := Lib.hid (show ∀ k, k < n → _ from fun k hk => meetS_step ts ss k (by omega))
  have H0 := Lib.hid (show (al || meetS (ts.drop 0) ss) = (al || meetS ts ss) from rfl)
  have Hen := Lib.hid (show meetS (ts.drop n) ss = false by rw [← hlen, List.drop_length]; rfl)
  have Hg := Lib.hid hg
  have Hw2 := Lib.hid hw2
  have HE2 := Lib.hid hE2
  have HF := Lib.hid (show showsB al kn av ts ss = (av && kn && (al || meetS ts ss)) from rfl)
  obtain ⟨R, hR⟩ : ∃ R, showsB al kn av ts ss = R := ⟨_, rfl⟩
  obtain ⟨M, hM⟩ : ∃ M, (al || meetS ts ss) = M := ⟨_, rfl⟩
  obtain ⟨IV, hIV⟩ : ∃ V, rowArr 146 I = V := ⟨_, rfl⟩
  rw [hR, hM] at HF
  rw [hM] at H0
  rw [hR]
  rw [hIV] at Hw2 ⊢
  clear hw2 hE2 hB2 hD2 hg h hu hR hM hIV i1 i2 i4 hlen
  have hC := HC.out w2 (Ext.refl _)
  obtain ⟨⟨c0, c1⟩, d1, d2, d4⟩ := hC
  go_enter Try.func27, Try.ntmps27
  go_upto_region 1 with (fail)
  refine wp_world (w' := w2) Hw2.out ?_
  rw [Hg.out]
  clear Hw2 Hg
  go_wp2
  clear c0 c1 d1 d2 d4
  go_loopw [5, 6] (fun s i wr => ∃ (k : Nat) (q : Bool), k ≤ n ∧ i = .int .i64 (k : Int) ∧ s = .bool q ∧ (q || meetS (ts.drop k) ss) = M ∧ Ext w2 wr) (fun _ i _ => n - (intOf i).toNat)
  case atStart => exact ⟨0, al, Nat.zero_le _, rfl, rfl, H0.out, Ext.refl _⟩
  case round =>
    obtain ⟨k, q, hm, rfl, rfl, hr, hE⟩ := hrel
    rename World => wr
    have HE := Lib.hid hE
    obtain ⟨⟨c0, c1⟩, d1, d2, d4⟩ := HC.out wr hE
    by_cases hlt : k < n
    · have x1 : (k : Int) < (n : Int) := by omega
      obtain ⟨p, off, rfl, hc⟩ := (H.out.ext hE).at_ (by omega)
      obtain ⟨F, hF⟩ : ∃ F, ts.getD k ⟨#[]⟩ = F := ⟨_, rfl⟩
      have hck := hc k hlt
      have hs := Hst.out k hlt
      rw [hF] at hck
      rw [hF] at hs
      have HM := Lib.hid (fun nq => refInS_any b m d ss F (wr.drewN nq) (HU.out.ext (hE.drewN' nq)))
      obtain ⟨z, hz⟩ : ∃ q, inS ss F = q := ⟨_, rfl⟩
      rw [hz] at HM hs
      rw [hs] at hr
      have Hr := Lib.hid hr
      clear hc hF hs hr hE hz
      go_upto_region 5 with (fail)
      cases q with
      | true =>
        go_quiet (fail)
        go_wp2
        go_roundw
        case rel => exact ⟨k + 1, true, by omega, by go_num, rfl, by first | exact Hr.out | (rw [← Hr.out]; rfl), by first | exact HE.out.drewN' _ | exact HE.out⟩
        case measure => simp [intOf]; omega
      | false =>
        go_quiet (first | (go_at_call 53; exact Calls.quiet_of_same (HM.out _)))
        go_wp2
        go_roundw
        case rel => exact ⟨k + 1, z, by omega, by go_num, rfl, by first | exact Hr.out | (rw [← Hr.out]; rfl), by first | exact HE.out.drewN' _ | exact HE.out⟩
        case measure => simp [intOf]; omega
    · obtain rfl : k = n := by omega
      have x1 : ¬ (k : Int) < (k : Int) := by omega
      have HQ := Lib.hid (show M = q by rw [← hr, Hen.out, Bool.or_false])
      clear hr hE
      cases av with
      | false =>
        go_wp2
        go_ret
        exact ⟨by rw [HF.out]; rfl, HE2.out.trans HE.out⟩
      | true =>
        cases kn with
        | false =>
          go_wp2
          go_ret
          exact ⟨by rw [HF.out]; rfl, HE2.out.trans HE.out⟩
        | true =>
          go_wp2
          go_ret
          exact ⟨by rw [HF.out, HQ.out]; cases q <;> rfl, HE2.out.trans HE.out⟩

end Go.Proofs.Ytldaligeckjhaaa
