/-
  Whether a row counts: the walks of item.blank, item.Formed, and of references 12's SameChange and 18's Formed. No conditions.
-/
import Derived.Test.YtldaligeckjhaaaRw
import Derived.Test.YtldaligeckjhaaaHdF
import Derived.Test.YtldaligeckjhaaaRefHdF
import Derived.Test.YtldaligeckjhaaaChgF
import Derived.Test.YtldaligeckjhaaaChgRf
import Derived.Test.YtldaligeckjhaaaFltV
import Derived.BigQuiet
namespace Go.Proofs.Ytldaligeckjhaaa
open Go.ChangeShapes Go.WideShapes Go.ChangeAt Go.RowKit

theorem SrAt.ss {w : World} {a : Option Addr} {n c : Nat} {ss : List ByteArray} (h : SrAt w a n c ss) (hn : n ≤ 140737488355328) : SsAt w a n c ss := ⟨h.len, h.cap, h.lim, hn, h.at_⟩
/-- Whether a change is blank. -/
def blB (op : Int) (name : ByteArray) (n : Nat) (val : ByteArray) : Bool := decide (op = 0 ∧ name.size = 0 ∧ n = 0 ∧ val.size = 0)
set_option maxHeartbeats 1000000 in
set_option maxRecDepth 100000 in
theorem blank_any (op : Int) (name : ByteArray) (a : Option Addr) (n c : Nat) (val : ByteArray) (w : World) :
    Calls Try.prog 41 #[.agg (chV op name (.slice a n c) val)] w fun e w' => e = .returned (.bool (blB op name n val)) ∧ Ext w w' := by
  obtain ⟨w2, hw2⟩ : ∃ w2, w.alloc (.cells (chV op name (.slice a n c) val) 34) = w2 := ⟨_, rfl⟩
  have hE2 : Ext w w2 := by rw [← hw2]; exact (Ext.refl w).alloc _
  have hB2 : w2.heap[w.heap.size]? = some (.cells (chV op name (.slice a n c) val) 34 (0, 0)) := by rw [← hw2]; exact heap_new w _ _ rfl
  have Hw2 := Lib.hid hw2
  have HE2 := Lib.hid hE2
  obtain ⟨g, hg⟩ : ∃ g, w.heap.size = g := ⟨_, rfl⟩
  rw [hg] at hB2
  obtain ⟨c0, c1, c2, c3⟩ := ch_cell hB2
  have Hg := Lib.hid hg
  clear hw2 hE2 hB2 hg
  obtain ⟨R, hR⟩ : ∃ R, blB op name n val = R := ⟨_, rfl⟩
  have HB := Lib.hid (show R = decide (op = 0 ∧ name.size = 0 ∧ n = 0 ∧ val.size = 0) by rw [← hR]; rfl)
  rw [hR]
  clear hR
  go_enter Try.func41, Try.ntmps41
  go_upto_region 1 with (fail)
  refine wp_world (w' := w2) Hw2.out ?_
  rw [Hg.out]
  clear Hw2 Hg
  by_cases h0 : op = 0
  · subst h0
    by_cases h1 : name.size = 0
    · have hne := ba_empty h1
      subst hne
      by_cases h2 : n = 0
      · subst h2
        by_cases h3 : val.size = 0
        · have hve := ba_empty h3
          subst hve
          have HR := Lib.hid (show R = true by rw [HB.out]; exact decide_eq_true ⟨rfl, h1, rfl, h3⟩)
          clear HB
          go_wp2
          go_ret
          exact ⟨by rw [HR.out]; rfl, HE2.out⟩
        · obtain ⟨xe1, xe2⟩ := ba_not h3
          have HR := Lib.hid (show R = false by rw [HB.out]; simp [h3])
          clear HB
          go_wp2
          go_ret
          exact ⟨by rw [HR.out]; first | rfl | simp [xe2], HE2.out⟩
      · have x2 : ¬ (n : Int) = 0 := by omega
        have HR := Lib.hid (show R = false by rw [HB.out]; simp [h2])
        clear HB
        go_wp2
        go_ret
        exact ⟨by rw [HR.out]; first | rfl | simp, HE2.out⟩
    · obtain ⟨xe1, xe2⟩ := ba_not h1
      have HR := Lib.hid (show R = false by rw [HB.out]; simp [h1])
      clear HB
      go_wp2
      go_ret
      exact ⟨by rw [HR.out]; first | rfl | simp, HE2.out⟩
  · have HR := Lib.hid (show R = false by rw [HB.out]; simp [h0])
    clear HB
    go_wp2
    go_ret
    exact ⟨by rw [HR.out]; first | rfl | simp, HE2.out⟩

/-- Whether the first k of two rows of strings are the same. -/
def ssEq (ss tt : List ByteArray) (k : Nat) : Bool := (List.range k).all fun i => (ss.getD i ⟨#[]⟩).toList == (tt.getD i ⟨#[]⟩).toList
theorem ssEq_succ (ss tt : List ByteArray) (k : Nat) : ssEq ss tt (k + 1) = (ssEq ss tt k && ((ss.getD k ⟨#[]⟩).toList == (tt.getD k ⟨#[]⟩).toList)) := by
  unfold ssEq
  rw [List.range_succ, List.all_append]
  simp
theorem ssEq_bad {ss tt : List ByteArray} {k n : Nat} (hk : k < n) (h : ((ss.getD k ⟨#[]⟩).toList == (tt.getD k ⟨#[]⟩).toList) = false) : ssEq ss tt n = false := by
  unfold ssEq
  rw [List.all_eq_false]
  exact ⟨k, List.mem_range.2 hk, by rw [h]; simp⟩
/-- Whether two changes are the same. -/
def chSame (op : Int) (name : ByteArray) (ss : List ByteArray) (val : ByteArray) (op' : Int) (name' : ByteArray) (tt : List ByteArray) (val' : ByteArray) : Bool := decide (ss.length = tt.length) && ssEq ss tt ss.length && ((op == op') && (name.toList == name'.toList) && (val.toList == val'.toList))
theorem chSame_blank (op : Int) (name : ByteArray) (ss : List ByteArray) (val : ByteArray) : chSame op name ss val 0 ⟨#[]⟩ [] ⟨#[]⟩ = blB op name ss.length val := by
  have e : ∀ s : ByteArray, (s.toList == (⟨#[]⟩ : ByteArray).toList) = decide (s.size = 0) := fun s => by
    by_cases h : s.size = 0
    · rw [decide_eq_true h, ba_empty h]
      exact beq_self_eq_true _
    · rw [decide_eq_false h]
      have h1 := (ba_not h).2
      have h2 : (⟨#[]⟩ : ByteArray).toList = [] := by rw [ByteArray.toList_eq]
      rw [h2]
      simpa using h1
  unfold chSame blB
  rw [e, e]
  by_cases h : ss.length = 0
  · have : ss = [] := List.eq_nil_of_length_eq_zero h
    subst this
    by_cases h0 : op = 0 <;> by_cases h1 : name.size = 0 <;> by_cases h2 : val.size = 0 <;> simp [h0, h1, h2, ssEq]
  · simp [h]
set_option maxHeartbeats 2000000 in
set_option maxRecDepth 100000 in
theorem refSameCh_any (op : Int) (name : ByteArray) (a : Option Addr) (n c : Nat) (ss : List ByteArray) (val : ByteArray) (op' : Int) (name' : ByteArray) (a' : Option Addr) (n' c' : Nat) (tt : List ByteArray) (val' : ByteArray) (w : World) (h : SrAt w a n c ss) (h' : SrAt w a' n' c' tt) :
    Calls Try.prog 32 #[.agg (chV op name (.slice a n c) val), .agg (chV op' name' (.slice a' n' c') val')] w fun e w' => e = .returned (.bool (chSame op name ss val op' name' tt val')) ∧ Ext w w' := by
  obtain ⟨w2, hw2, hE2, hB2, hD2⟩ := two_box w (chV op name (.slice a n c) val) (chV op' name' (.slice a' n' c') val') 34 34
  obtain ⟨g, hg⟩ : ∃ g, w.heap.size = g := ⟨_, rfl⟩
  rw [hg] at hB2 hD2
  have hlen := h.len
  have hlen' := h'.len
  have hcap := h.cap
  have hlim := h.lim
  have hcap' := h'.cap
  have hlim' := h'.lim
  have HC := Lib.hid (show ∀ x, Ext w2 x → _ from fun x hx => ch_cell (hx.keep hB2))
  have HD := Lib.hid (show ∀ x, Ext w2 x → _ from fun x hx => ch_cell (hx.keep hD2))
  have H := Lib.hid (h.ext hE2)
  have H' := Lib.hid (h'.ext hE2)
  have HF := Lib.hid (show chSame op name ss val op' name' tt val' = (decide (n = n') && ssEq ss tt n && ((op == op') && (name.toList == name'.toList) && (val.toList == val'.toList))) by unfold chSame; rw [hlen, hlen'])
  obtain ⟨R, hR⟩ : ∃ R, chSame op name ss val op' name' tt val' = R := ⟨_, rfl⟩
  rw [hR] at HF ⊢
  have Hg := Lib.hid hg
  have Hw2 := Lib.hid hw2
  have HE2 := Lib.hid hE2
  clear hw2 hE2 hB2 hD2 hg h h' hlen hlen' hR
  obtain ⟨c0, c1, c2, c3⟩ := HC.out w2 (Ext.refl _)
  obtain ⟨d0, d1, d2, d3⟩ := HD.out w2 (Ext.refl _)
  go_enter Try.func32, Try.ntmps32
  go_upto_region 1 with (fail)
  refine wp_world (w' := w2) Hw2.out ?_
  rw [Hg.out]
  clear Hw2 Hg
  by_cases hnn : n = n'
  · subst hnn
    go_wp2
    go_loopw [5] (fun i wr => ∃ k : Nat, k ≤ n ∧ i = .int .i64 (k : Int) ∧ ssEq ss tt k = true ∧ Ext w2 wr) (fun i _ => n - (intOf i).toNat)
    case atStart => exact ⟨0, Nat.zero_le _, rfl, rfl, Ext.refl _⟩
    case round =>
      obtain ⟨k, hk, rfl, hok, hEr⟩ := hrel
      rename World => wr
      have HEr := Lib.hid hEr
      obtain ⟨c0, c1, c2, c3⟩ := HC.out wr hEr
      obtain ⟨d0, d1, d2, d3⟩ := HD.out wr hEr
      clear hEr
      by_cases hlt : k < n
      · have x1 : (k : Int) < (n : Int) := by omega
        obtain ⟨b, off, rfl, hc⟩ := (H.out.ext HEr.out).at_ (by omega)
        obtain ⟨b', off', rfl, hc'⟩ := (H'.out.ext HEr.out).at_ (by omega)
        have hck := hc k hlt
        have hck' := hc' k hlt
        have HS := Lib.hid (ssEq_succ ss tt k)
        have HBad := Lib.hid (fun e => ssEq_bad (ss := ss) (tt := tt) hlt e)
        obtain ⟨S, hS⟩ : ∃ S, ss.getD k ⟨#[]⟩ = S := ⟨_, rfl⟩
        obtain ⟨T, hT⟩ : ∃ S, tt.getD k ⟨#[]⟩ = S := ⟨_, rfl⟩
        rw [hS] at hck
        rw [hT] at hck'
        rw [hS, hT] at HS HBad
        have Hok := Lib.hid hok
        clear hc hc' hS hT hok
        cases q : (S.toList == T.toList) with
        | true =>
          go_upto_region 6 with (fail)
          go_quiet (fail)
          go_wp2
          go_roundw
          case rel => exact ⟨k + 1, by omega, by go_num, by rw [HS.out, Hok.out, q]; rfl, HEr.out.drewN' _⟩
          case measure => simp [intOf]; omega
        | false =>
          have HR := Lib.hid (show R = false by rw [HF.out, HBad.out q, Bool.and_false]; rfl)
          go_upto_region 6 with (fail)
          go_quiet (fail)
          go_wp2
          go_ret
          exact ⟨by rw [HR.out]; rfl, HE2.out.trans (HEr.out.drewN' _)⟩
      · obtain rfl : k = n := by omega
        have x1 : ¬ (k : Int) < (k : Int) := by omega
        have HR := Lib.hid (show R = ((op == op') && (name.toList == name'.toList) && (val.toList == val'.toList)) by rw [HF.out, hok]; first | rfl | simp)
        clear hok HF
        cases q0 : (op == op') with
        | false =>
          rw [q0] at HR
          have HR := Lib.hid (show R = false from HR.out)
          go_wp2
          go_ret
          exact ⟨by rw [HR.out]; rfl, HE2.out.trans HEr.out⟩
        | true =>
          rw [q0] at HR
          cases q1 : (name.toList == name'.toList) with
          | false =>
            rw [q1] at HR
            have HR := Lib.hid (show R = false from HR.out)
            go_wp2
            go_ret
            exact ⟨by rw [HR.out]; rfl, HE2.out.trans HEr.out⟩
          | true =>
            rw [q1] at HR
            have HR := Lib.hid (show R = (val.toList == val'.toList) from HR.out)
            go_wp2
            go_ret
            exact ⟨by rw [HR.out]; rfl, HE2.out.trans HEr.out⟩
  · have x1 : ¬ (n : Int) = (n' : Int) := by omega
    have HR := Lib.hid (show R = false by rw [HF.out, decide_eq_false hnn]; rfl)
    go_wp2
    go_ret
    exact ⟨by rw [HR.out]; rfl, HE2.out⟩

/-- Whether a row counts. -/
def rowB (r : Rw) : Bool := hdB r.hd.1 r.hd.2 && !r.hd.1.ctl && (if r.kn = true then changeB r.op r.name r.tags r.val else blB r.op r.name r.tags.length r.val)
def chgL4 (r : Rw) : List Value := (List.range 4).map (chgC r.op r.name (.slice r.ta r.tags.length r.tc) r.val)
theorem chgL4_arr (r : Rw) : (chgL4 r).toArray = chV r.op r.name (.slice r.ta r.tags.length r.tc) r.val := rfl
theorem rw_ch {w : World} {g off : Nat} {r : Rw} (hc : ∀ j, j < 130 → w.cell? ⟨g, off + j, none⟩ = some (rwC r j)) : w.rangeAt g (off + 126) (chgL4 r) := fun j v hv => by
  have hj : j < 4 := by
    have := (List.getElem?_eq_some_iff.1 hv).1
    simpa [chgL4] using this
  unfold chgL4 at hv
  rw [List.getElem?_map, List.getElem?_range hj] at hv
  obtain rfl := Option.some.inj hv
  rw [show off + 126 + j = off + (126 + j) by omega, hc (126 + j) (by omega)]
  unfold rwC
  rw [if_neg (by omega), if_neg (by omega), show 126 + j - 126 = j by omega]
set_option maxRecDepth 100000 in
theorem zero_ch (w : World) : (Instr.build 34 #[]).run Try.prog w = .ok (.agg (chV 0 ⟨#[]⟩ (.slice none 0 0) ⟨#[]⟩)) w := by kernel_rfl
theorem wp_build_ch0 {ops : Array Oper} {Q : Exit → Act → World → Prop} {rest : List Oper} {o : Oper} {a : Act} {w : World} (hgd : o.guard = none) (ho : o.op = .build 34 #[]) (h : wpList Try.prog ops Q rest (a.put o.dst (.agg (chV 0 ⟨#[]⟩ (.slice none 0 0) ⟨#[]⟩))) w) : wpList Try.prog ops Q (o :: rest) a w := by
  refine wpList_plain hgd fun K hK => ?_
  unfold Oper.wp execOp
  simp only [ho, List.map_toArray, List.map_nil, Sem.run_bind, zero_ch, Result.andThen_ok, Sem.run_pure]
  exact hK _ _ h
set_option maxHeartbeats 2000000 in
set_option maxRecDepth 100000 in
theorem rowFormed_any (r : Rw) (w : World) (h : RwAt w r) :
    Calls Try.prog 19 #[.agg (rwV r)] w fun e w' => e = .returned (.bool (rowB r)) ∧ Ext w w' := by
  obtain ⟨w2, hw2⟩ : ∃ w2, w.alloc (.cells (rwV r) 36) = w2 := ⟨_, rfl⟩
  have hE2 : Ext w w2 := by rw [← hw2]; exact (Ext.refl w).alloc _
  have hB2 : w2.heap[w.heap.size]? = some (.cells (rwV r) 36 (0, 0)) := by rw [← hw2]; exact heap_new w _ _ rfl
  obtain ⟨g, hg⟩ : ∃ g, w.heap.size = g := ⟨_, rfl⟩
  rw [hg] at hB2
  have HB := Lib.hid (show ∀ x, Ext w2 x → x.heap[g]? = some (.cells (rwV r) 36 (0, 0)) from fun x hx => hx.keep hB2)
  have HF := Lib.hid (formedHd_any r.hd.1 r.hd.2 w2 h.hd.ok (h.hd.toks.ext hE2))
  have HCh := Lib.hid (show ∀ x, Ext w2 x → Calls Try.prog 40 #[.agg (chV r.op r.name (.slice r.ta r.tags.length r.tc) r.val)] x fun e w' => e = .returned (.bool (changeB r.op r.name r.tags r.val)) ∧ Ext x w' from fun x hx => formedCh_any r.op r.name r.ta r.tags.length r.tc r.tags r.val x ((h.tags.ext (hE2.trans hx)).ss h.tl) (by have := h.name; omega) (by have := h.val; omega) (fun s hs => by have := h.tags.size s hs; omega))
  have HBl := Lib.hid (show ∀ x, Ext w2 x → Calls Try.prog 41 #[.agg (chV r.op r.name (.slice r.ta r.tags.length r.tc) r.val)] x fun e w' => e = .returned (.bool (blB r.op r.name r.tags.length r.val)) ∧ Ext x w' from fun x hx => blank_any r.op r.name r.ta r.tags.length r.tc r.val x)
  have HE2 := Lib.hid hE2
  have Hw2 := Lib.hid hw2
  have Hg := Lib.hid hg
  have ck := Lib.hid (show ∀ x, Ext w2 x → x.cell? ⟨g, 125, none⟩ = some (.bool r.kn) ∧ x.cell? ⟨g, 35, none⟩ = some (.bool r.hd.1.ctl) from fun x hx => ⟨rw_kn (hx.keep hB2), rw_ctl (hx.keep hB2)⟩)
  have HRc := Lib.hid (show ∀ x, Ext w2 x → x.rangeAt g 126 (chgL4 r) from fun x hx => by
    have := rw_ch (w := x) (g := g) (off := 0) (r := r) (fun j hj => by rw [Nat.zero_add]; exact row_cell (hx.keep hB2) j hj)
    rwa [Nat.zero_add] at this)
  have HRh := Lib.hid (rw_rh hB2)
  have HRes := Lib.hid (show rowB r = (hdB r.hd.1 r.hd.2 && !r.hd.1.ctl && (if r.kn = true then changeB r.op r.name r.tags r.val else blB r.op r.name r.tags.length r.val)) from rfl)
  obtain ⟨R, hR⟩ : ∃ R, rowB r = R := ⟨_, rfl⟩
  obtain ⟨F, hF⟩ : ∃ F, hdB r.hd.1 r.hd.2 = F := ⟨_, rfl⟩
  obtain ⟨C, hC⟩ : ∃ C, changeB r.op r.name r.tags r.val = C := ⟨_, rfl⟩
  obtain ⟨L, hL⟩ : ∃ L, blB r.op r.name r.tags.length r.val = L := ⟨_, rfl⟩
  obtain ⟨V, hV⟩ : ∃ V, rwV r = V := ⟨_, rfl⟩
  obtain ⟨CV, hCV⟩ : ∃ V, chV r.op r.name (.slice r.ta r.tags.length r.tc) r.val = V := ⟨_, rfl⟩
  obtain ⟨HV, hHV⟩ : ∃ V, hdV r.hd.1 = V := ⟨_, rfl⟩
  obtain ⟨kn, hkn⟩ : ∃ b, r.kn = b := ⟨_, rfl⟩
  obtain ⟨ct, hct⟩ : ∃ b, r.hd.1.ctl = b := ⟨_, rfl⟩
  have HCV := Lib.hid (show (chgL4 r).toArray = CV by rw [chgL4_arr, hCV])
  have HHV := Lib.hid (show (hdL r.hd.1).toArray = HV by rw [hdL_arr, hHV])
  have HLn := Lib.hid (show (chgL4 r).length = 4 by simp [chgL4])
  have HLh := Lib.hid (hdL_length r.hd.1)
  rw [hR, hF, hC, hL, hkn, hct] at HRes
  rw [hF, hHV] at HF
  rw [hCV, hC] at HCh
  rw [hCV, hL] at HBl
  rw [hkn, hct] at ck
  obtain ⟨hl4, hhl4⟩ : ∃ l, chgL4 r = l := ⟨_, rfl⟩
  obtain ⟨hlh, hhlh⟩ : ∃ l, hdL r.hd.1 = l := ⟨_, rfl⟩
  rw [hhl4] at HRc HCV HLn
  rw [hhlh] at HRh HHV HLh
  rw [hV] at Hw2
  rw [hV, hR]
  clear hw2 hE2 hB2 hg h hR hF hC hL hV hCV hHV hkn hct HB hhl4 hhlh
  go_enter Try.func19, Try.ntmps19
  go_upto_region 1 with (fail)
  refine wp_world (w' := w2) Hw2.out ?_
  rw [Hg.out]
  clear Hw2 Hg
  go_wp2_with (refine wpList_load_mid rfl 31 (.tmp 3) rfl g 0 rfl hlh _ HRh.out Try.underlying31 rfl (by rw [HLh.out]; kernel_rfl) ?_; rw [HHV.out])
  refine HF.out.mono ?_
  rintro e w3 ⟨rfl, hE3⟩
  have HX3 := Lib.hid hE3
  obtain ⟨k1, k2⟩ := ck.out w3 hE3
  clear hE3 HF
  cases F with
  | false =>
    have HR := Lib.hid (show R = false from HRes.out)
    go_wp2
    go_ret
    exact ⟨by rw [HR.out]; rfl, HE2.out.trans HX3.out⟩
  | true =>
    cases ct with
    | true =>
      have HR := Lib.hid (show R = false from HRes.out)
      go_wp2
      go_ret
      exact ⟨by rw [HR.out]; rfl, HE2.out.trans HX3.out⟩
    | false =>
      have HR1 := Lib.hid (HRc.out w3 HX3.out)
      cases kn with
      | true =>
        have HR := Lib.hid (show R = C by rw [HRes.out]; simp)
        go_wp2_with (refine wpList_load_mid rfl 34 (.tmp 14) rfl g 126 rfl hl4 _ HR1.out Try.underlying34 rfl (by rw [HLn.out]; kernel_rfl) ?_; rw [HCV.out])
        refine (HCh.out w3 HX3.out).mono ?_
        rintro e w4 ⟨rfl, hE4⟩
        go_wp2
        go_ret
        exact ⟨by rw [HR.out]; rfl, HE2.out.trans (HX3.out.trans hE4)⟩
      | false =>
        have HR := Lib.hid (show R = L by rw [HRes.out]; simp)
        go_wp2_with (first | (refine wpList_load_mid rfl 34 (.tmp 17) rfl g 126 rfl hl4 _ HR1.out Try.underlying34 rfl (by rw [HLn.out]; kernel_rfl) ?_; rw [HCV.out]))
        refine (HBl.out w3 HX3.out).mono ?_
        rintro e w4 ⟨rfl, hE4⟩
        go_wp2
        go_ret
        exact ⟨by rw [HR.out]; rfl, HE2.out.trans (HX3.out.trans hE4)⟩
set_option maxHeartbeats 2000000 in
set_option maxRecDepth 100000 in
theorem refRow_any (r : Rw) (w : World) (h : RwAt w r) :
    Calls Try.prog 12 #[.agg (rwV r)] w fun e w' => e = .returned (.bool (rowB r)) ∧ Ext w w' := by
  obtain ⟨w2, hw2⟩ : ∃ w2, w.alloc (.cells (rwV r) 36) = w2 := ⟨_, rfl⟩
  have hE2 : Ext w w2 := by rw [← hw2]; exact (Ext.refl w).alloc _
  have hB2 : w2.heap[w.heap.size]? = some (.cells (rwV r) 36 (0, 0)) := by rw [← hw2]; exact heap_new w _ _ rfl
  obtain ⟨g, hg⟩ : ∃ g, w.heap.size = g := ⟨_, rfl⟩
  rw [hg] at hB2
  have HB := Lib.hid (show ∀ x, Ext w2 x → x.heap[g]? = some (.cells (rwV r) 36 (0, 0)) from fun x hx => hx.keep hB2)
  have HF := Lib.hid (refHd_any r.hd.1 r.hd.2 w2 h.hd.ok (h.hd.toks.ext hE2))
  have HCh := Lib.hid (show ∀ x, Ext w2 x → Calls Try.prog 31 #[.agg (chV r.op r.name (.slice r.ta r.tags.length r.tc) r.val)] x fun e w' => e = .returned (.bool (changeB r.op r.name r.tags r.val)) ∧ Ext x w' from fun x hx => refFormedCh_any r.op r.name r.ta r.tags.length r.tc r.tags r.val x ((h.tags.ext (hE2.trans hx)).ss h.tl) (by have := h.name; omega) (by have := h.val; omega) (fun s hs => by have := h.tags.size s hs; omega))
  have HBl := Lib.hid (show ∀ x, Ext w2 x → Calls Try.prog 32 #[.agg (chV r.op r.name (.slice r.ta r.tags.length r.tc) r.val), .agg (chV 0 ⟨#[]⟩ (.slice none 0 0) ⟨#[]⟩)] x fun e w' => e = .returned (.bool (blB r.op r.name r.tags.length r.val)) ∧ Ext x w' from fun x hx => (by rw [← chSame_blank]; exact refSameCh_any r.op r.name r.ta r.tags.length r.tc r.tags r.val 0 ⟨#[]⟩ none 0 0 [] ⟨#[]⟩ x (h.tags.ext (hE2.trans hx)) ⟨rfl, Nat.le_refl _, by omega, fun s hs => (by cases hs), fun h0 => by omega⟩))
  have HE2 := Lib.hid hE2
  have Hw2 := Lib.hid hw2
  have Hg := Lib.hid hg
  have ck := Lib.hid (show ∀ x, Ext w2 x → x.cell? ⟨g, 125, none⟩ = some (.bool r.kn) ∧ x.cell? ⟨g, 35, none⟩ = some (.bool r.hd.1.ctl) from fun x hx => ⟨rw_kn (hx.keep hB2), rw_ctl (hx.keep hB2)⟩)
  have HRc := Lib.hid (show ∀ x, Ext w2 x → x.rangeAt g 126 (chgL4 r) from fun x hx => by
    have := rw_ch (w := x) (g := g) (off := 0) (r := r) (fun j hj => by rw [Nat.zero_add]; exact row_cell (hx.keep hB2) j hj)
    rwa [Nat.zero_add] at this)
  have HRh := Lib.hid (rw_rh hB2)
  have HRes := Lib.hid (show rowB r = (hdB r.hd.1 r.hd.2 && !r.hd.1.ctl && (if r.kn = true then changeB r.op r.name r.tags r.val else blB r.op r.name r.tags.length r.val)) from rfl)
  obtain ⟨R, hR⟩ : ∃ R, rowB r = R := ⟨_, rfl⟩
  obtain ⟨F, hF⟩ : ∃ F, hdB r.hd.1 r.hd.2 = F := ⟨_, rfl⟩
  obtain ⟨C, hC⟩ : ∃ C, changeB r.op r.name r.tags r.val = C := ⟨_, rfl⟩
  obtain ⟨L, hL⟩ : ∃ L, blB r.op r.name r.tags.length r.val = L := ⟨_, rfl⟩
  obtain ⟨V, hV⟩ : ∃ V, rwV r = V := ⟨_, rfl⟩
  obtain ⟨CV, hCV⟩ : ∃ V, chV r.op r.name (.slice r.ta r.tags.length r.tc) r.val = V := ⟨_, rfl⟩
  obtain ⟨HV, hHV⟩ : ∃ V, hdV r.hd.1 = V := ⟨_, rfl⟩
  obtain ⟨kn, hkn⟩ : ∃ b, r.kn = b := ⟨_, rfl⟩
  obtain ⟨ct, hct⟩ : ∃ b, r.hd.1.ctl = b := ⟨_, rfl⟩
  have HCV := Lib.hid (show (chgL4 r).toArray = CV by rw [chgL4_arr, hCV])
  have HHV := Lib.hid (show (hdL r.hd.1).toArray = HV by rw [hdL_arr, hHV])
  have HLn := Lib.hid (show (chgL4 r).length = 4 by simp [chgL4])
  have HLh := Lib.hid (hdL_length r.hd.1)
  rw [hR, hF, hC, hL, hkn, hct] at HRes
  rw [hF, hHV] at HF
  rw [hCV, hC] at HCh
  rw [hCV, hL] at HBl
  rw [hkn, hct] at ck
  obtain ⟨hl4, hhl4⟩ : ∃ l, chgL4 r = l := ⟨_, rfl⟩
  obtain ⟨hlh, hhlh⟩ : ∃ l, hdL r.hd.1 = l := ⟨_, rfl⟩
  rw [hhl4] at HRc HCV HLn
  rw [hhlh] at HRh HHV HLh
  rw [hV] at Hw2
  rw [hV, hR]
  clear hw2 hE2 hB2 hg h hR hF hC hL hV hCV hHV hkn hct HB hhl4 hhlh
  go_enter Try.func12, Try.ntmps12
  go_upto_region 1 with (fail)
  refine wp_world (w' := w2) Hw2.out ?_
  rw [Hg.out]
  clear Hw2 Hg
  go_wp2_with (refine wpList_load_mid rfl 31 (.tmp 3) rfl g 0 rfl hlh _ HRh.out Try.underlying31 rfl (by rw [HLh.out]; kernel_rfl) ?_; rw [HHV.out])
  refine HF.out.mono ?_
  rintro e w3 ⟨rfl, hE3⟩
  have HX3 := Lib.hid hE3
  obtain ⟨k1, k2⟩ := ck.out w3 hE3
  clear hE3 HF
  cases F with
  | false =>
    have HR := Lib.hid (show R = false from HRes.out)
    go_wp2
    go_ret
    exact ⟨by rw [HR.out]; rfl, HE2.out.trans HX3.out⟩
  | true =>
    cases ct with
    | true =>
      have HR := Lib.hid (show R = false from HRes.out)
      go_wp2
      go_ret
      exact ⟨by rw [HR.out]; rfl, HE2.out.trans HX3.out⟩
    | false =>
      have HR1 := Lib.hid (HRc.out w3 HX3.out)
      cases kn with
      | true =>
        have HR := Lib.hid (show R = C by rw [HRes.out]; simp)
        go_wp2_with (refine wpList_load_mid rfl 34 (.tmp 14) rfl g 126 rfl hl4 _ HR1.out Try.underlying34 rfl (by rw [HLn.out]; kernel_rfl) ?_; rw [HCV.out])
        refine (HCh.out w3 HX3.out).mono ?_
        rintro e w4 ⟨rfl, hE4⟩
        go_wp2
        go_ret
        exact ⟨by rw [HR.out]; rfl, HE2.out.trans (HX3.out.trans hE4)⟩
      | false =>
        have HR := Lib.hid (show R = L by rw [HRes.out]; simp)
        go_wp2_with (first | (refine wpList_load_mid rfl 34 (.tmp 17) rfl g 126 rfl hl4 _ HR1.out Try.underlying34 rfl (by rw [HLn.out]; kernel_rfl) ?_; rw [HCV.out]) | (refine wp_build_ch0 rfl rfl ?_))
        refine (HBl.out w3 HX3.out).mono ?_
        rintro e w4 ⟨rfl, hE4⟩
        go_wp2
        go_ret
        exact ⟨by rw [HR.out]; rfl, HE2.out.trans (HX3.out.trans hE4)⟩

end Go.Proofs.Ytldaligeckjhaaa
