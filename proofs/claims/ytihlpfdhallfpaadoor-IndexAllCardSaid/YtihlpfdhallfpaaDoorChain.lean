/-
  A writer's chain: what lies there; the walks of New, Head, Tip, Writer, At. No conditions but lengths.
  The walk of a chain's Ask. No conditions but lengths.
  The walk of a chain's Add. Asked: the table of 64 words lies as the text lays it.
-/
import Derived.Test.YtihlpfdhallfpaaDoorHs
import Derived.Test.YtihlpfdhallfpaaDoorHdHash
import Derived.Test.YtihlpfdhallfpaaDoorLexP
namespace Go.Proofs.YtihlpfdhallfpaaDoor
open Go.ChangeAt Go.ChangeShapes Go.RowKit Go.WideShapes

def chC (wr : Int) (v : Value) (T : Nat → Int) (i : Nat) : Value := if i < 1 then .int .i64 wr else if i < 2 then v else .int .u8 (T (i - 2))
theorem chC_tip (wr : Int) (v : Value) (T : Nat → Int) (i : Nat) : chC wr v T (2 + i) = .int .u8 (T i) := by
  unfold chC
  rw [if_neg (by omega), if_neg (by omega), show 2 + i - 2 = i by omega]
/-- Block g is a chain: whose it is, its headers, the tip. -/
structure ChAt (w : World) (B g : Nat) (wr : Int) (a : Option Addr) (c : Nat) (l : List HT) (T : Nat → Int) : Prop where
  row : w.rowIs g 92 34 (chC wr (.slice a l.length c) T)
  own : w.ownsRow B 34 125 (.slice a l.length c) l.length (hsC l)
  each : ∀ x ∈ l, HtAt w x
  low : B ≤ g
  ne : (Value.slice a l.length c).ownBlock ≠ some g
  far : ∀ x ∈ l, 0 < x.1.tn → ∀ b off, x.1.ta = some ⟨b, off, none⟩ → b ≠ g ∧ some b ≠ (Value.slice a l.length c).ownBlock
theorem ChAt.ext {w w' : World} {B g : Nat} {wr : Int} {a : Option Addr} {c : Nat} {l : List HT} {T : Nat → Int} (h : ChAt w B g wr a c l T) (he : Ext w w') : ChAt w' B g wr a c l T :=
  ⟨h.row.of_block (he.block h.row.lt), h.own.kept (grown_ext he none) (by generalize (Value.slice a l.length c).ownBlock = o; cases o <;> simp), fun x hx => (h.each x hx).ext he, h.low, h.ne, h.far⟩
theorem ChAt.hs {w : World} {B g : Nat} {wr : Int} {a : Option Addr} {c : Nat} {l : List HT} {T : Nat → Int} (h : ChAt w B g wr a c l T) (hs : l.length ≤ 100000) : HsAt w a l.length c l := own_hs h.own h.each (by omega)
theorem ChAt.cells {w : World} {B g : Nat} {wr : Int} {a : Option Addr} {c : Nat} {l : List HT} {T : Nat → Int} (h : ChAt w B g wr a c l T) :
    w.cell? ⟨g, 0, none⟩ = some (.int .i64 wr) ∧ w.cell? ⟨g, 1, none⟩ = some (.slice a l.length c) ∧ ∀ i, i < 32 → w.cell? ⟨g, 2 + i, none⟩ = some (.int .u8 (T i)) :=
  ⟨h.row.cell (i := 0) (by omega), h.row.cell (i := 1) (by omega), fun i hi => by rw [h.row.cell (i := 2 + i) (by omega), chC_tip]⟩

set_option maxRecDepth 100000 in
theorem build_ch (w : World) (n : Int) : (Instr.build 92 #[(0, .int .i64 n)]).run Tryd.prog w = .ok (.agg (rowArr 34 (chC n (.slice none 0 0) fun _ => 0))) w := by kernel_rfl

set_option maxRecDepth 100000 in
theorem new_any (n : Int) (w : World) :
    Calls Tryd.prog 23 #[.int .i64 n] w fun e w' => ∃ g, e = .returned (.pointer (some ⟨g, 0, none⟩)) ∧ ChAt w' w.heap.size g n none 0 [] (fun _ => 0) ∧ Ext w w' := by
  have hb := build_ch
  have HC := Lib.hid (show ChAt (w.alloc (.cells (rowArr 34 (chC n (.slice none 0 0) fun _ => 0)) 92)) w.heap.size w.heap.size n none 0 [] (fun _ => 0) from
    ⟨rowIs_of (heap_new w _ _ rfl), World.ownsRow_nil _ _ _ _, fun x hx => (by cases hx), Nat.le_refl _, (by simp [Value.ownBlock]), fun x hx => (by cases hx)⟩)
  go_enter Tryd.func23, Tryd.ntmps23
  go_wp2
  go_ret
  exact ⟨_, rfl, HC.out, (Ext.refl w).alloc _⟩

theorem head_any {w : World} {B g : Nat} {wr : Int} {a : Option Addr} {c : Nat} {l : List HT} {T : Nat → Int} (h : ChAt w B g wr a c l T) (hs : l.length ≤ 100000) :
    Calls Tryd.prog 33 #[.pointer (some ⟨g, 0, none⟩)] w fun e w' => e = .returned (.int .u64 (l.length : Int)) ∧ Ext w w' := by
  obtain ⟨c0, c1, c2⟩ := h.cells
  obtain ⟨n, hn⟩ : ∃ n, l.length = n := ⟨_, rfl⟩
  rw [hn] at hs c1 ⊢
  have wN : IntKind.u64.wrap (n : Int) = (n : Int) := by rw [IntKind.wrap_u64]; omega
  clear h c0 c2 hn
  go_enter Tryd.func33, Tryd.ntmps33
  go_wp2
  go_ret
  exact ⟨by first | rfl | (rw [wN]; rfl), Ext.refl _⟩

set_option maxHeartbeats 2000000 in
set_option maxRecDepth 100000 in
/-- A header by its number. -/
theorem at_any {w : World} {B g : Nat} {wr : Int} {a : Option Addr} {c : Nat} {l : List HT} {T : Nat → Int} (h : ChAt w B g wr a c l T) (hs : l.length ≤ 100000) (htn : ∀ x ∈ l, x.1.tn ≤ 1000000) (s : Int) (h0 : 0 ≤ s) (h1 : s < 18446744073709551616) :
    Calls Tryd.prog 34 #[.pointer (some ⟨g, 0, none⟩), .int .u64 s] w fun e w' =>
      (¬ (1 ≤ s ∧ s ≤ l.length) → e = .returned (.tuple #[.agg (hdV hdN), .bool false])) ∧
      ((1 ≤ s ∧ s ≤ l.length) → ∃ a' c', e = .returned (.tuple #[.agg (hdV (reT (l.getD (s.toNat - 1) htN) a' c').1), .bool true]) ∧ w'.ownsRow w.heap.size 30 16 (.slice a' (l.getD (s.toNat - 1) htN).1.tn c') (l.getD (s.toNat - 1) htN).1.tn (tkC (l.getD (s.toNat - 1) htN).2)) ∧ Ext w w' := by
  obtain ⟨w2, hw2⟩ : ∃ w2, w.alloc (.cells (hdV hdN) 34) = w2 := ⟨_, rfl⟩
  have hE2 : Ext w w2 := by rw [← hw2]; exact (Ext.refl w).alloc _
  have hB2 : w2.heap[w.heap.size]? = some (.cells (hdV hdN) 34 (0, 0)) := by rw [← hw2]; exact heap_new w _ _ rfl
  have hz := hdZ0
  have hH := h.ext hE2
  have HHd := Lib.hid (head_any hH hs)
  have HH := Lib.hid hH
  have Hw2 := Lib.hid hw2
  have HE2 := Lib.hid hE2
  have HB2 := Lib.hid hB2
  have Hs2 := Lib.hid (show w.heap.size + 1 = w2.heap.size by rw [← hw2]; simp)
  obtain ⟨p, hp⟩ : ∃ p, w.heap.size = p := ⟨_, rfl⟩
  rw [hp] at HB2
  have Hp := Lib.hid hp
  have HL := Lib.hid hs
  have HTN := Lib.hid htn
  obtain ⟨N, hN⟩ : ∃ N, l.length = N := ⟨_, rfl⟩
  have HN := Lib.hid hN
  rw [hN] at HHd hs ⊢
  clear h hw2 hE2 hB2 hH hp hN htn
  by_cases hin : 1 ≤ s ∧ s ≤ (N : Int)
  · have x1 : ¬ s < 1 := by omega
    have x2 : ¬ (N : Int) < s := by omega
    obtain ⟨k, hk⟩ : ∃ k : Nat, s = (k : Int) + 1 := ⟨s.toNat - 1, by omega⟩
    have hkN : k < N := by omega
    have wS : IntKind.u64.wrap (s - 1) = (k : Int) := by rw [IntKind.wrap_u64]; omega
    have hkk : s.toNat - 1 = k := by omega
    rw [hkk]
    clear hkk
    obtain ⟨x, hx⟩ : ∃ x, l.getD k htN = x := ⟨_, rfl⟩
    have HX := Lib.hid hx
    have hXm : x ∈ l := by
      have := HN.out
      rw [← hx, List.getD_eq_getElem?_getD, List.getElem?_eq_getElem (by omega)]
      exact List.getElem_mem _
    have HXm := Lib.hid hXm
    rw [hx]
    clear hx hXm hk h1
    go_enter Tryd.func34, Tryd.ntmps34
    go_upto_region 1 with (fail)
    refine wp_world (w' := w2) Hw2.out ?_
    rw [Hp.out]
    clear Hw2
    go_wp2_with fail
    refine HHd.out.mono ?_
    rintro e w3 ⟨rfl, hE⟩
    have HE3 := Lib.hid (HE2.out.trans hE)
    have hH3 := HH.out.ext hE
    obtain ⟨c0, c1, -⟩ := hH3.cells
    rw [HN.out] at c1
    have hHs := hH3.hs HL.out
    rw [HN.out] at hHs
    obtain ⟨b, off, rfl, hcell⟩ := hHs.at_ (by omega)
    have hr := range_hd (hcell k hkN)
    rw [HX.out] at hr
    have Hr := Lib.hid hr
    have HXt := Lib.hid (hH3.each x HXm.out)
    have HB3 := Lib.hid (hE.keep HB2.out)
    have Hs3 := Lib.hid (Below.size hE)
    have x3 : (k : Int) < (N : Int) := by omega
    have x4 : (0 : Int) ≤ (k : Int) := by omega
    clear hE hH3 hHs hcell hr HHd c0
    go_wp2_with (refine wpList_load_mid rfl 34 _ rfl b (off + k * 125) rfl (hdL x.1) _ Hr.out Tryd.underlying34 rfl (by rw [hdL_length]; kernel_rfl) ?_; rw [hdL_arr])
    refine (copied_any x w3 HXt.out (HTN.out x HXm.out)).mono ?_
    rintro e w4 ⟨a', c', rfl, hown, hE⟩
    have HB4 := Lib.hid (hE.keep HB3.out)
    have HE4 := Lib.hid (HE3.out.trans hE)
    have HO4 := Lib.hid hown
    have HA := Lib.hid (hdV_size (reT x a' c').1)
    have HAo := Lib.hid (hdV_one (reT x a' c').1)
    obtain ⟨A, hA⟩ : ∃ A, hdV (reT x a' c').1 = A := ⟨_, rfl⟩
    rw [hA] at HA HAo ⊢
    have HAe := Lib.hid hA
    clear hE hown hA
    go_wp2_with (refine wpList_store_row rfl 34 _ _ rfl _ _ rfl rfl _ _ HB4.out (by rw [HA.out]; kernel_rfl) (by rw [HA.out, hdV_size]) HAo.out ?_)
    have hG5 : w4.grownBy (w4.setRow p A) (some p) := ⟨rfl, rfl, rfl, by simp, fun i _ hne => setRow_other w4 p i _ (fun e => hne (by rw [e]))⟩
    have hpp := Hp.out
    have h23 := Hs3.out
    have h22 := Hs2.out
    refine bodyPost_ret (results_row_tmp rfl _ _ p _ _ _ _ rfl (setRow_heap _ p _ _ _ _ HB4.out) Tryd.underlying34 rfl (by rw [HA.out]; kernel_rfl)) rfl ?_
    exact ⟨fun hn => absurd hin hn, fun _ => ⟨a', c', by rw [HAe.out]; rfl, own_mono (HO4.out.kept hG5 (Or.inr fun e => by have := (HO4.out.lt p e).1; omega)) (by omega)⟩, below_setRow HE4.out (by omega) _⟩
  · by_cases hlo : s < 1
    · clear HHd
      go_enter Tryd.func34, Tryd.ntmps34
      go_upto_region 1 with (fail)
      refine wp_world (w' := w2) Hw2.out ?_
      rw [Hp.out]
      clear Hw2
      go_wp2_with (refine wpList_store_row rfl 34 _ _ rfl _ _ rfl rfl _ _ HB2.out (by kernel_rfl) rfl (hdV_one hdN) ?_)
      have hpp := Hp.out
      refine bodyPost_ret (results_row_tmp rfl _ _ p _ _ _ _ rfl (setRow_heap _ p _ _ _ _ HB2.out) Tryd.underlying34 rfl (by kernel_rfl)) rfl ?_
      exact ⟨fun _ => rfl, fun hn => absurd hn hin, below_setRow HE2.out (by omega) _⟩
    · have x1 : ¬ s < 1 := hlo
      have x2 : (N : Int) < s := by omega
      go_enter Tryd.func34, Tryd.ntmps34
      go_upto_region 1 with (fail)
      refine wp_world (w' := w2) Hw2.out ?_
      rw [Hp.out]
      clear Hw2
      go_wp2_with fail
      refine HHd.out.mono ?_
      rintro e w3 ⟨rfl, hE⟩
      have HE3 := Lib.hid (HE2.out.trans hE)
      have HB3 := Lib.hid (hE.keep HB2.out)
      clear hE
      go_wp2_with (refine wpList_store_row rfl 34 _ _ rfl _ _ rfl rfl _ _ HB3.out (by kernel_rfl) rfl (hdV_one hdN) ?_)
      have hpp := Hp.out
      refine bodyPost_ret (results_row_tmp rfl _ _ p _ _ _ _ rfl (setRow_heap _ p _ _ _ _ HB3.out) Tryd.underlying34 rfl (by kernel_rfl)) rfl ?_
      exact ⟨fun _ => rfl, fun hn => absurd hn hin, below_setRow HE3.out (by omega) _⟩

/-- What comes of a header that is asked of. -/
def askV (wr : Int) (l : List HT) (T : Nat → Int) (x : HT) : Int :=
  if hdB x.1 x.2 = false ∨ x.1.writer ≠ wr then 1 else if 1 ≤ x.1.seq ∧ x.1.seq ≤ (l.length : Int) then (if sameB (l.getD (x.1.seq.toNat - 1) htN).1 x.1 (l.getD (x.1.seq.toNat - 1) htN).2 x.2 = true then 13 else 8)
  else if (l.length : Int) + 1 < x.1.seq then 12 else if arrB 32 x.1.prev T = true then 0 else 7

set_option maxHeartbeats 4000000 in
set_option maxRecDepth 100000 in
theorem ask_any {w : World} {B g : Nat} {wr : Int} {a : Option Addr} {c : Nat} {l : List HT} {T : Nat → Int} (h : ChAt w B g wr a c l T) (hs : l.length ≤ 100000) (htn : ∀ x ∈ l, x.1.tn ≤ 1000000) (x : HT) (hx : HtAt w x) :
    Calls Tryd.prog 48 #[.pointer (some ⟨g, 0, none⟩), .agg (hdV x.1)] w fun e w' => e = .returned (.int .i64 (askV wr l T x)) ∧ Ext w w' := by
  obtain ⟨w2, hw2⟩ : ∃ w2, w.alloc (.cells (hdV x.1) 34) = w2 := ⟨_, rfl⟩
  have hE2 : Ext w w2 := by rw [← hw2]; exact (Ext.refl w).alloc _
  have hB2 : w2.heap[w.heap.size]? = some (.cells (hdV x.1) 34 (0, 0)) := by rw [← hw2]; exact heap_new w _ _ rfl
  obtain ⟨p, hp⟩ : ∃ p, w.heap.size = p := ⟨_, rfl⟩
  rw [hp] at hB2
  have Hp := Lib.hid hp
  have Hw2 := Lib.hid hw2
  have HE := Lib.hid hE2
  have HPB := Lib.hid hB2
  have HPH := Lib.hid hB2
  have HH := Lib.hid h
  have HL := Lib.hid hs
  have HTN := Lib.hid htn
  have Hx := Lib.hid hx
  have Hsz := Lib.hid (hdV_size x.1)
  have HFo := Lib.hid (fun w9 (h9 : Ext w w9) => formedHd_any x.1 x.2 w9 hx.ok (hx.toks.ext h9))
  have kne := neq_h
  obtain ⟨A, hA⟩ : ∃ A, hdV x.1 = A := ⟨_, rfl⟩
  have HAe := Lib.hid hA
  rw [hA] at HPB Hsz HFo Hw2 ⊢
  obtain ⟨xw, hxw⟩ : ∃ v, x.1.writer = v := ⟨_, rfl⟩
  have Hxw := Lib.hid hxw
  obtain ⟨s, hxs⟩ : ∃ v, x.1.seq = v := ⟨_, rfl⟩
  have Hxs := Lib.hid hxs
  have hs0 := hx.ok.seq.1
  have hs1 := hx.ok.seq.2
  obtain ⟨N, hN⟩ : ∃ N, l.length = N := ⟨_, rfl⟩
  have HN := Lib.hid hN
  obtain ⟨V, hV⟩ : ∃ V, askV wr l T x = V := ⟨_, rfl⟩
  rw [hV]
  unfold askV at hV
  rw [hxs] at hs0 hs1
  rw [hxw, hxs, hN] at hV
  rw [hN] at hs
  clear h htn hx hw2 hE2 hB2 hp hA hxw hxs hN
  cases hF : hdB x.1 x.2 with
  | false =>
    rw [hF] at hV HFo
    rw [if_pos (Or.inl rfl)] at hV
    have HV := Lib.hid hV.symm
    clear hV hF
    go_enter Tryd.func48, Tryd.ntmps48
    go_upto_region 1 with (fail)
    refine wp_world (w' := w2) Hw2.out ?_
    rw [Hp.out]
    clear Hw2
    go_upto_region 1 with (fail)
    have HX0 := Lib.hid (show ∀ x, Ext w2.drew x → Ext w2 x from fun x hx => Ext.trans (Ext.refl w2).drew hx)
    have HX1 := Lib.hid (show ∀ x, Ext w2.drew x → Ext w x from fun x hx => HE.out.trans (HX0.out x hx))
    have HX2 := Lib.hid (show ∀ x, Ext w2.drew x → Ext w x from fun x hx => HE.out.trans (HX0.out x hx))
    refine wp_region_lexA (by kernel_rfl) (by kernel_rfl) ?_
    refine lx_e (.agg A) [] (by kernel_rfl) rfl (by rfl) (fun w1 hw1 => ?_) ?_
    · simp only [pk, lexVals]
      exact lu_row rfl rfl ((HX0.out w1 hw1).keep HPB.out) Tryd.underlying34 rfl (by rw [Hsz.out]; kernel_rfl)
    refine lx_e (.bool false) [(0, 7)] (by kernel_rfl) rfl (by rfl) (fun w1 hw1 => ?_) ?_
    · simp only [pk, nthSp, lexVals]
      have HM := Lib.hid (HFo.out w1 (HX1.out w1 hw1))
      clear hw1
      go_simp
      refine HM.out.mono ?_
      rintro e w2 ⟨rfl, hE2⟩
      exact ⟨_, rfl, hE2, rfl⟩
    refine lx_e (.bool true) [(0, 8)] (by kernel_rfl) rfl (by rfl) (fun w1 hw1 => ?_) ?_
    · simp only [pk, nthSp, lexVals]
      go_simp
      exact ⟨Ext.refl _, rfl⟩
    refine lx_e (.bool true) [(0, 9)] (by kernel_rfl) rfl (by rfl) (fun w1 hw1 => ?_) ?_
    · simp only [pk, nthSp, lexVals]
      go_simp
      exact ⟨Ext.refl _, rfl⟩
    refine lx_no [(0, 10)] 10 (by kernel_rfl) rfl (by kernel_rfl) (by rfl) (fun w1 => ?_) ?_
    · simp only [pk, nthSp, lexVals]
      first | (go_simp; done) | (go_simp; exact fun h => by cases h)
    refine lx_no [(0, 11), (1, 10)] 10 (by kernel_rfl) rfl (by kernel_rfl) (by rfl) (fun w1 => ?_) ?_
    · simp only [pk, nthSp, lexVals]
      first | (go_simp; done) | (go_simp; exact fun h => by cases h)
    refine lx_no [(2, 10)] 10 (by kernel_rfl) rfl (by kernel_rfl) (by rfl) (fun w1 => ?_) ?_
    · simp only [pk, nthSp, lexVals]
      first | (go_simp; done) | (go_simp; exact fun h => by cases h)
    refine lx_no [(0, 13), (3, 10)] 10 (by kernel_rfl) rfl (by kernel_rfl) (by rfl) (fun w1 => ?_) ?_
    · simp only [pk, nthSp, lexVals]
      first | (go_simp; done) | (go_simp; exact fun h => by cases h)
    refine lx_no [(0, 14), (4, 10)] 10 (by kernel_rfl) rfl (by kernel_rfl) (by rfl) (fun w1 => ?_) ?_
    · simp only [pk, nthSp, lexVals]
      first | (go_simp; done) | (go_simp; exact fun h => by cases h)
    refine lx_no [(0, 15), (5, 10)] 10 (by kernel_rfl) rfl (by kernel_rfl) (by rfl) (fun w1 => ?_) ?_
    · simp only [pk, nthSp, lexVals]
      first | (go_simp; done) | (go_simp; exact fun h => by cases h)
    refine lx_no [(4, 12), (0, 16), (6, 10)] 10 (by kernel_rfl) rfl (by kernel_rfl) (by rfl) (fun w1 => ?_) ?_
    · simp only [pk, nthSp, lexVals]
      first | (go_simp; done) | (go_simp; exact fun h => by cases h)
    refine lx_e (.bool true) [(7, 10), (0, 17)] (by kernel_rfl) rfl (by rfl) (fun w1 hw1 => ?_) ?_
    · simp only [pk, nthSp, lexVals]
      go_simp
      exact ⟨Ext.refl _, rfl⟩
    refine lx_stopA (by rfl) fun w3 hw3 => ?_
    have HE := Lib.hid (HX1.out w3 hw3)
    have HPB := Lib.hid ((HX0.out w3 hw3).keep HPB.out)
    have HPH := Lib.hid ((HX0.out w3 hw3).keep HPH.out)
    clear hw3 HX0 HX1 HX2
    simp only [rv, pf, lexVals]
    simp only [Act.put, List.setIfInBounds_toArray, List.set_cons_zero, List.set_cons_succ]
    go_wp2
    go_ret
    exact ⟨by rw [HV.out]; rfl, HE.out⟩
  | true =>
  rw [hF] at hV HFo
  clear hF
  by_cases hW : xw = wr
  case neg =>
    have hW2 : (xw == wr) = false := beq_eq_false_iff_ne.2 hW
    have hW3 : (xw != wr) = true := bne_iff_ne.2 hW
    rw [if_pos (Or.inr hW)] at hV
    have HV := Lib.hid hV.symm
    clear hV
    go_enter Tryd.func48, Tryd.ntmps48
    go_upto_region 1 with (fail)
    refine wp_world (w' := w2) Hw2.out ?_
    rw [Hp.out]
    clear Hw2
    go_upto_region 1 with (fail)
    have HX0 := Lib.hid (show ∀ x, Ext w2.drew x → Ext w2 x from fun x hx => Ext.trans (Ext.refl w2).drew hx)
    have HX1 := Lib.hid (show ∀ x, Ext w2.drew x → Ext w x from fun x hx => HE.out.trans (HX0.out x hx))
    have HX2 := Lib.hid (show ∀ x, Ext w2.drew x → Ext w x from fun x hx => HE.out.trans (HX0.out x hx))
    refine wp_region_lexA (by kernel_rfl) (by kernel_rfl) ?_
    refine lx_e (.agg A) [] (by kernel_rfl) rfl (by rfl) (fun w1 hw1 => ?_) ?_
    · simp only [pk, lexVals]
      exact lu_row rfl rfl ((HX0.out w1 hw1).keep HPB.out) Tryd.underlying34 rfl (by rw [Hsz.out]; kernel_rfl)
    refine lx_e (.bool true) [(0, 7)] (by kernel_rfl) rfl (by rfl) (fun w1 hw1 => ?_) ?_
    · simp only [pk, nthSp, lexVals]
      have HM := Lib.hid (HFo.out w1 (HX1.out w1 hw1))
      clear hw1
      go_simp
      refine HM.out.mono ?_
      rintro e w2 ⟨rfl, hE2⟩
      exact ⟨_, rfl, hE2, rfl⟩
    refine lx_e (.bool false) [(0, 8)] (by kernel_rfl) rfl (by rfl) (fun w1 hw1 => ?_) ?_
    · simp only [pk, nthSp, lexVals]
      go_simp
      exact ⟨Ext.refl _, rfl⟩
    refine lx_e (.bool false) [(0, 9)] (by kernel_rfl) rfl (by rfl) (fun w1 hw1 => ?_) ?_
    · simp only [pk, nthSp, lexVals]
      go_simp
      exact ⟨Ext.refl _, rfl⟩
    refine lx_ge (.pointer (some ⟨p, 0, none⟩)) [(0, 10)] 10 (by kernel_rfl) rfl (by kernel_rfl) (by rfl) (fun w1 => ?_) (fun w1 hw1 => ?_) ?_
    · simp only [pk, nthSp, lexVals]
      rfl
    · simp only [pk, nthSp, lexVals]
      go_simp
      exact ⟨Ext.refl _, rfl⟩
    refine lx_ge (.int .i64 xw) [(0, 11), (1, 10)] 10 (by kernel_rfl) rfl (by kernel_rfl) (by rfl) (fun w1 => ?_) (fun w1 hw1 => ?_) ?_
    · simp only [pk, nthSp, lexVals]
      rfl
    · simp only [pk, nthSp, lexVals]
      have hc := hd_writer (show w1.heap[p]? = _ from (HX0.out w1 hw1).keep HPH.out)
      rw [Hxw.out] at hc
      clear hw1
      go_simp
      exact ⟨Ext.refl _, rfl⟩
    refine lx_ge (.pointer (some ⟨g, 0, none⟩)) [(2, 10)] 10 (by kernel_rfl) rfl (by kernel_rfl) (by rfl) (fun w1 => ?_) (fun w1 hw1 => ?_) ?_
    · simp only [pk, nthSp, lexVals]
      rfl
    · simp only [pk, nthSp, lexVals]
      go_simp
      exact ⟨Ext.refl _, rfl⟩
    refine lx_ge (.pointer (some ⟨g, 0, none⟩)) [(0, 13), (3, 10)] 10 (by kernel_rfl) rfl (by kernel_rfl) (by rfl) (fun w1 => ?_) (fun w1 hw1 => ?_) ?_
    · simp only [pk, nthSp, lexVals]
      rfl
    · simp only [pk, nthSp, lexVals]
      go_simp
      exact ⟨Ext.refl _, rfl⟩
    refine lx_ge (.pointer (some ⟨g, 0, none⟩)) [(0, 14), (4, 10)] 10 (by kernel_rfl) rfl (by kernel_rfl) (by rfl) (fun w1 => ?_) (fun w1 hw1 => ?_) ?_
    · simp only [pk, nthSp, lexVals]
      rfl
    · simp only [pk, nthSp, lexVals]
      go_simp
      exact ⟨Ext.refl _, rfl⟩
    refine lx_ge (.int .i64 wr) [(0, 15), (5, 10)] 10 (by kernel_rfl) rfl (by kernel_rfl) (by rfl) (fun w1 => ?_) (fun w1 hw1 => ?_) ?_
    · simp only [pk, nthSp, lexVals]
      rfl
    · simp only [pk, nthSp, lexVals]
      have hc := (HH.out.ext (HX2.out w1 hw1)).cells.1
      clear hw1
      go_simp
      exact ⟨Ext.refl _, rfl⟩
    refine lx_ge (.bool true) [(4, 12), (0, 16), (6, 10)] 10 (by kernel_rfl) rfl (by kernel_rfl) (by rfl) (fun w1 => ?_) (fun w1 hw1 => ?_) ?_
    · simp only [pk, nthSp, lexVals]
      rfl
    · simp only [pk, nthSp, lexVals]
      go_simp
      exact ⟨Ext.refl _, rfl⟩
    refine lx_e (.bool true) [(7, 10), (0, 17)] (by kernel_rfl) rfl (by rfl) (fun w1 hw1 => ?_) ?_
    · simp only [pk, nthSp, lexVals]
      go_simp
      exact ⟨Ext.refl _, rfl⟩
    refine lx_stopA (by rfl) fun w3 hw3 => ?_
    have HE := Lib.hid (HX1.out w3 hw3)
    have HPB := Lib.hid ((HX0.out w3 hw3).keep HPB.out)
    have HPH := Lib.hid ((HX0.out w3 hw3).keep HPH.out)
    clear hw3 HX0 HX1 HX2
    simp only [rv, pf, lexVals]
    simp only [Act.put, List.setIfInBounds_toArray, List.set_cons_zero, List.set_cons_succ]
    go_wp2
    go_ret
    exact ⟨by rw [HV.out]; rfl, HE.out⟩
  subst hW
  rw [if_neg (by simp)] at hV
  obtain ⟨K, hK⟩ : ∃ K, l.getD (s.toNat - 1) htN = K := ⟨_, rfl⟩
  rw [hK] at hV
  have HK := Lib.hid hK
  clear hK
  have HV0 := Lib.hid hV
  clear hV
  go_enter Tryd.func48, Tryd.ntmps48
  go_upto_region 1 with (fail)
  refine wp_world (w' := w2) Hw2.out ?_
  rw [Hp.out]
  clear Hw2
  go_upto_region 1 with (fail)
  have HX0 := Lib.hid (show ∀ x, Ext w2.drew x → Ext w2 x from fun x hx => Ext.trans (Ext.refl w2).drew hx)
  have HX1 := Lib.hid (show ∀ x, Ext w2.drew x → Ext w x from fun x hx => HE.out.trans (HX0.out x hx))
  have HX2 := Lib.hid (show ∀ x, Ext w2.drew x → Ext w x from fun x hx => HE.out.trans (HX0.out x hx))
  refine wp_region_lexA (by kernel_rfl) (by kernel_rfl) ?_
  refine lx_e (.agg A) [] (by kernel_rfl) rfl (by rfl) (fun w1 hw1 => ?_) ?_
  · simp only [pk, lexVals]
    exact lu_row rfl rfl ((HX0.out w1 hw1).keep HPB.out) Tryd.underlying34 rfl (by rw [Hsz.out]; kernel_rfl)
  refine lx_e (.bool true) [(0, 7)] (by kernel_rfl) rfl (by rfl) (fun w1 hw1 => ?_) ?_
  · simp only [pk, nthSp, lexVals]
    have HM := Lib.hid (HFo.out w1 (HX1.out w1 hw1))
    clear hw1
    go_simp
    refine HM.out.mono ?_
    rintro e w2 ⟨rfl, hE2⟩
    exact ⟨_, rfl, hE2, rfl⟩
  refine lx_e (.bool false) [(0, 8)] (by kernel_rfl) rfl (by rfl) (fun w1 hw1 => ?_) ?_
  · simp only [pk, nthSp, lexVals]
    go_simp
    exact ⟨Ext.refl _, rfl⟩
  refine lx_e (.bool false) [(0, 9)] (by kernel_rfl) rfl (by rfl) (fun w1 hw1 => ?_) ?_
  · simp only [pk, nthSp, lexVals]
    go_simp
    exact ⟨Ext.refl _, rfl⟩
  refine lx_ge (.pointer (some ⟨p, 0, none⟩)) [(0, 10)] 10 (by kernel_rfl) rfl (by kernel_rfl) (by rfl) (fun w1 => ?_) (fun w1 hw1 => ?_) ?_
  · simp only [pk, nthSp, lexVals]
    rfl
  · simp only [pk, nthSp, lexVals]
    go_simp
    exact ⟨Ext.refl _, rfl⟩
  refine lx_ge (.int .i64 xw) [(0, 11), (1, 10)] 10 (by kernel_rfl) rfl (by kernel_rfl) (by rfl) (fun w1 => ?_) (fun w1 hw1 => ?_) ?_
  · simp only [pk, nthSp, lexVals]
    rfl
  · simp only [pk, nthSp, lexVals]
    have hc := hd_writer (show w1.heap[p]? = _ from (HX0.out w1 hw1).keep HPH.out)
    rw [Hxw.out] at hc
    clear hw1
    go_simp
    exact ⟨Ext.refl _, rfl⟩
  refine lx_ge (.pointer (some ⟨g, 0, none⟩)) [(2, 10)] 10 (by kernel_rfl) rfl (by kernel_rfl) (by rfl) (fun w1 => ?_) (fun w1 hw1 => ?_) ?_
  · simp only [pk, nthSp, lexVals]
    rfl
  · simp only [pk, nthSp, lexVals]
    go_simp
    exact ⟨Ext.refl _, rfl⟩
  refine lx_ge (.pointer (some ⟨g, 0, none⟩)) [(0, 13), (3, 10)] 10 (by kernel_rfl) rfl (by kernel_rfl) (by rfl) (fun w1 => ?_) (fun w1 hw1 => ?_) ?_
  · simp only [pk, nthSp, lexVals]
    rfl
  · simp only [pk, nthSp, lexVals]
    go_simp
    exact ⟨Ext.refl _, rfl⟩
  refine lx_ge (.pointer (some ⟨g, 0, none⟩)) [(0, 14), (4, 10)] 10 (by kernel_rfl) rfl (by kernel_rfl) (by rfl) (fun w1 => ?_) (fun w1 hw1 => ?_) ?_
  · simp only [pk, nthSp, lexVals]
    rfl
  · simp only [pk, nthSp, lexVals]
    go_simp
    exact ⟨Ext.refl _, rfl⟩
  refine lx_ge (.int .i64 xw) [(0, 15), (5, 10)] 10 (by kernel_rfl) rfl (by kernel_rfl) (by rfl) (fun w1 => ?_) (fun w1 hw1 => ?_) ?_
  · simp only [pk, nthSp, lexVals]
    rfl
  · simp only [pk, nthSp, lexVals]
    have hc := (HH.out.ext (HX2.out w1 hw1)).cells.1
    clear hw1
    go_simp
    exact ⟨Ext.refl _, rfl⟩
  refine lx_ge (.bool false) [(4, 12), (0, 16), (6, 10)] 10 (by kernel_rfl) rfl (by kernel_rfl) (by rfl) (fun w1 => ?_) (fun w1 hw1 => ?_) ?_
  · simp only [pk, nthSp, lexVals]
    rfl
  · simp only [pk, nthSp, lexVals]
    go_simp
    exact ⟨Ext.refl _, rfl⟩
  refine lx_e (.bool false) [(7, 10), (0, 17)] (by kernel_rfl) rfl (by rfl) (fun w1 hw1 => ?_) ?_
  · simp only [pk, nthSp, lexVals]
    go_simp
    exact ⟨Ext.refl _, rfl⟩
  refine lx_stopA (by rfl) fun w3 hw3 => ?_
  have HE := Lib.hid (HX1.out w3 hw3)
  have HPB := Lib.hid ((HX0.out w3 hw3).keep HPB.out)
  have HPH := Lib.hid ((HX0.out w3 hw3).keep HPH.out)
  clear hw3 HX0 HX1 HX2
  simp only [rv, pf, lexVals]
  simp only [Act.put, List.setIfInBounds_toArray, List.set_cons_zero, List.set_cons_succ]
  have hcs := hd_seq HPH.out
  rw [Hxs.out] at hcs
  have HAt := Lib.hid (at_any (HH.out.ext HE.out) HL.out HTN.out s hs0 hs1)
  rw [HN.out, HK.out] at HAt
  go_wp2_with fail
  refine HAt.out.mono ?_
  rintro e w4 ⟨hno, hyes, hE⟩
  have hV := HV0.out
  have HE4 := Lib.hid (HE.out.trans hE)
  have HPB4 := Lib.hid (hE.keep HPB.out)
  have HPH4 := Lib.hid (hE.keep HPH.out)
  have Hlow := Lib.hid (Below.size HE.out)
  clear hcs HAt HV0 HPB HPH
  have HPB := Lib.hid HPB4.out
  have HPH := Lib.hid HPH4.out
  clear HPB4 HPH4
  by_cases hin : 1 ≤ s ∧ s ≤ (N : Int)
  · rw [if_pos hin] at hV
    obtain ⟨a', c', rfl, hown⟩ := hyes hin
    have hKm : K ∈ l := by
      have h1 := HN.out
      have h2 := HK.out
      rw [← h2, List.getD_eq_getElem?_getD, List.getElem?_eq_getElem (by omega)]
      exact List.getElem_mem _
    have hKt := HH.out.each K hKm
    have hKn := HTN.out K hKm
    have hRt := reT_at hKt.ok hKt.toks.byte hKn hown
    have HszC := Lib.hid (hdV_size (reT K a' c').1)
    have HallC := Lib.hid (hdV_one (reT K a' c').1)
    have HSa := Lib.hid (fun w9 (h9 : Ext w4 w9) => sameHd_any (reT K a' c').1 x.1 K.2 x.2 w9 (hRt.toks.ext h9) (Hx.out.toks.ext (HE4.out.trans h9)))
    obtain ⟨S, hS⟩ : ∃ S, sameB K.1 x.1 K.2 x.2 = S := ⟨_, rfl⟩
    rw [hS] at hV
    rw [show sameB (reT K a' c').1 x.1 K.2 x.2 = sameB K.1 x.1 K.2 x.2 from rfl, hS, HAe.out] at HSa
    obtain ⟨CV, hCV⟩ : ∃ CV, hdV (reT K a' c').1 = CV := ⟨_, rfl⟩
    rw [hCV] at HszC HallC HSa ⊢
    have HV := Lib.hid hV.symm
    clear hno hyes hE hKm hKt hKn hRt hown hS hCV hV hin
    go_upto_region 4 with (refine wpList_store_row rfl 34 _ _ rfl w4.heap.size _ rfl rfl _ _ (heap_new w4 _ _ rfl) (by rw [HszC.out]; kernel_rfl) (by rw [HszC.out]; rfl) HallC.out ?_; rw [setRow_new w4 _ _ _ _ rfl])
    obtain ⟨w5, hw5⟩ : ∃ w5, w4.alloc (.cells CV 34) = w5 := ⟨_, rfl⟩
    have hE5 : Ext w4 w5 := by rw [← hw5]; exact (Ext.refl w4).alloc _
    obtain ⟨r, hr⟩ : ∃ r, w4.heap.size = r := ⟨_, rfl⟩
    have hB5 : w5.heap[r]? = some (.cells CV 34 (0, 0)) := by rw [← hw5]; exact heap_new w4 _ _ hr.symm
    refine wp_world (w' := w5) hw5 ?_
    rw [hr]
    have HE := Lib.hid (HE4.out.trans hE5)
    have HRB := Lib.hid hB5
    have HPB := Lib.hid (hE5.keep HPB.out)
    have HPH := Lib.hid (hE5.keep HPH.out)
    have HSa := Lib.hid (HSa.out w5 hE5)
    clear hw5 hE5 hr hB5
    go_wp2_with (first | (refine wpList_load_rowW rfl 34 _ rfl r rfl _ _ _ _ HRB.out Tryd.underlying34 rfl (by rw [HszC.out]; kernel_rfl) ?_) | (refine wpList_load_rowW rfl 34 _ rfl p rfl _ _ _ _ HPB.out Tryd.underlying34 rfl (by rw [Hsz.out]; kernel_rfl) ?_))
    refine HSa.out.mono ?_
    rintro e w6 ⟨rfl, hE⟩
    have HE := Lib.hid (HE.out.trans hE)
    clear hE HSa
    cases S with
    | true =>
      go_wp2
      go_ret
      exact ⟨by rw [HV.out]; rfl, HE.out⟩
    | false =>
      go_wp2
      go_ret
      exact ⟨by rw [HV.out]; rfl, HE.out⟩
  · rw [if_neg hin] at hV
    obtain rfl := hno hin
    have HszC := Lib.hid (hdV_size hdN)
    have HallC := Lib.hid (hdV_one hdN)
    obtain ⟨CV, hCV⟩ : ∃ CV, hdV hdN = CV := ⟨_, rfl⟩
    rw [hCV] at HszC HallC ⊢
    clear hno hyes hE hCV
    go_upto_region 4 with (refine wpList_store_row rfl 34 _ _ rfl w4.heap.size _ rfl rfl _ _ (heap_new w4 _ _ rfl) (by rw [HszC.out]; kernel_rfl) (by rw [HszC.out]; rfl) HallC.out ?_; rw [setRow_new w4 _ _ _ _ rfl])
    obtain ⟨w5, hw5⟩ : ∃ w5, w4.alloc (.cells CV 34) = w5 := ⟨_, rfl⟩
    have hE5 : Ext w4 w5 := by rw [← hw5]; exact (Ext.refl w4).alloc _
    obtain ⟨r, hr⟩ : ∃ r, w4.heap.size = r := ⟨_, rfl⟩
    have hB5 : w5.heap[r]? = some (.cells CV 34 (0, 0)) := by rw [← hw5]; exact heap_new w4 _ _ hr.symm
    refine wp_world (w' := w5) hw5 ?_
    rw [hr]
    have HE := Lib.hid (HE4.out.trans hE5)
    have HRB := Lib.hid hB5
    have HPB := Lib.hid (hE5.keep HPB.out)
    have HPH := Lib.hid (hE5.keep HPH.out)
    clear hw5 hE5 hr hB5
    by_cases hO : (N : Int) + 1 < s
    · rw [if_pos hO] at hV
      have HV := Lib.hid hV.symm
      have wN : IntKind.u64.wrap ((N : Int) + 1) = (N : Int) + 1 := by rw [IntKind.wrap_u64]; omega
      clear hV hin
      go_upto_region 8 with (fail)
      have HX0 := Lib.hid (show ∀ x, Ext w5.drew x → Ext w5 x from fun x hx => Ext.trans (Ext.refl w5).drew hx)
      have HX1 := Lib.hid (show ∀ x, Ext w5.drew x → Ext w x from fun x hx => HE.out.trans (HX0.out x hx))
      have HX2 := Lib.hid (show ∀ x, Ext w5.drew x → Ext w x from fun x hx => HE.out.trans (HX0.out x hx))
      refine wp_region_lexA (by kernel_rfl) (by kernel_rfl) ?_
      refine lx_e (.pointer (some ⟨p, 1, none⟩)) [] (by kernel_rfl) rfl (by rfl) (fun w1 hw1 => ?_) ?_
      · simp only [pk, lexVals]
        go_simp
        exact ⟨Ext.refl _, rfl⟩
      refine lx_e (.int .u64 s) [(0, 31)] (by kernel_rfl) rfl (by rfl) (fun w1 hw1 => ?_) ?_
      · simp only [pk, nthSp, lexVals]
        have hc := hd_seq (show w1.heap[p]? = _ from (HX0.out w1 hw1).keep HPH.out)
        rw [Hxs.out] at hc
        clear hw1
        go_simp
        exact ⟨Ext.refl _, rfl⟩
      refine lx_e (.pointer (some ⟨g, 0, none⟩)) [] (by kernel_rfl) rfl (by rfl) (fun w1 hw1 => ?_) ?_
      · simp only [pk, lexVals]
        go_simp
        exact ⟨Ext.refl _, rfl⟩
      refine lx_e (.int .u64 (N : Int)) [(0, 33)] (by kernel_rfl) rfl (by rfl) (fun w1 hw1 => ?_) ?_
      · simp only [pk, nthSp, lexVals]
        have hm := head_any (HH.out.ext (HX2.out w1 hw1)) HL.out
        rw [HN.out] at hm
        have HM := Lib.hid (hm)
        clear hw1
        go_simp
        refine HM.out.mono ?_
        rintro e w2 ⟨rfl, hE2⟩
        exact ⟨_, rfl, hE2, rfl⟩
      refine lx_e (.int .u64 ((N : Int) + 1)) [(0, 34)] (by kernel_rfl) rfl (by rfl) (fun w1 hw1 => ?_) ?_
      · simp only [pk, nthSp, lexVals]
        go_simp
        exact ⟨Ext.refl _, rfl⟩
      refine lx_e (.bool true) [(3, 32), (0, 35)] (by kernel_rfl) rfl (by rfl) (fun w1 hw1 => ?_) ?_
      · simp only [pk, nthSp, lexVals]
        go_simp
        exact ⟨Ext.refl _, rfl⟩
      refine lx_e (.bool true) [(0, 36)] (by kernel_rfl) rfl (by rfl) (fun w1 hw1 => ?_) ?_
      · simp only [pk, nthSp, lexVals]
        go_simp
        exact ⟨Ext.refl _, rfl⟩
      refine lx_stopA (by rfl) fun w7 hw7 => ?_
      have HE := Lib.hid (HX1.out w7 hw7)
      have HPB := Lib.hid ((HX0.out w7 hw7).keep HPB.out)
      have HPH := Lib.hid ((HX0.out w7 hw7).keep HPH.out)
      clear hw7 HX0 HX1 HX2
      simp only [rv, pf, lexVals]
      simp only [Act.put, List.setIfInBounds_toArray, List.set_cons_zero, List.set_cons_succ]
      go_wp2
      go_ret
      exact ⟨by rw [HV.out]; rfl, HE.out⟩
    · rw [if_neg hO] at hV
      have wN : IntKind.u64.wrap ((N : Int) + 1) = (N : Int) + 1 := by rw [IntKind.wrap_u64]; omega
      have HV0 := Lib.hid hV
      clear hV hin
      go_upto_region 8 with (fail)
      have HX0 := Lib.hid (show ∀ x, Ext w5.drew x → Ext w5 x from fun x hx => Ext.trans (Ext.refl w5).drew hx)
      have HX1 := Lib.hid (show ∀ x, Ext w5.drew x → Ext w x from fun x hx => HE.out.trans (HX0.out x hx))
      have HX2 := Lib.hid (show ∀ x, Ext w5.drew x → Ext w x from fun x hx => HE.out.trans (HX0.out x hx))
      refine wp_region_lexA (by kernel_rfl) (by kernel_rfl) ?_
      refine lx_e (.pointer (some ⟨p, 1, none⟩)) [] (by kernel_rfl) rfl (by rfl) (fun w1 hw1 => ?_) ?_
      · simp only [pk, lexVals]
        go_simp
        exact ⟨Ext.refl _, rfl⟩
      refine lx_e (.int .u64 s) [(0, 31)] (by kernel_rfl) rfl (by rfl) (fun w1 hw1 => ?_) ?_
      · simp only [pk, nthSp, lexVals]
        have hc := hd_seq (show w1.heap[p]? = _ from (HX0.out w1 hw1).keep HPH.out)
        rw [Hxs.out] at hc
        clear hw1
        go_simp
        exact ⟨Ext.refl _, rfl⟩
      refine lx_e (.pointer (some ⟨g, 0, none⟩)) [] (by kernel_rfl) rfl (by rfl) (fun w1 hw1 => ?_) ?_
      · simp only [pk, lexVals]
        go_simp
        exact ⟨Ext.refl _, rfl⟩
      refine lx_e (.int .u64 (N : Int)) [(0, 33)] (by kernel_rfl) rfl (by rfl) (fun w1 hw1 => ?_) ?_
      · simp only [pk, nthSp, lexVals]
        have hm := head_any (HH.out.ext (HX2.out w1 hw1)) HL.out
        rw [HN.out] at hm
        have HM := Lib.hid (hm)
        clear hw1
        go_simp
        refine HM.out.mono ?_
        rintro e w2 ⟨rfl, hE2⟩
        exact ⟨_, rfl, hE2, rfl⟩
      refine lx_e (.int .u64 ((N : Int) + 1)) [(0, 34)] (by kernel_rfl) rfl (by rfl) (fun w1 hw1 => ?_) ?_
      · simp only [pk, nthSp, lexVals]
        go_simp
        exact ⟨Ext.refl _, rfl⟩
      refine lx_e (.bool false) [(3, 32), (0, 35)] (by kernel_rfl) rfl (by rfl) (fun w1 hw1 => ?_) ?_
      · simp only [pk, nthSp, lexVals]
        go_simp
        exact ⟨Ext.refl _, rfl⟩
      refine lx_e (.bool false) [(0, 36)] (by kernel_rfl) rfl (by rfl) (fun w1 hw1 => ?_) ?_
      · simp only [pk, nthSp, lexVals]
        go_simp
        exact ⟨Ext.refl _, rfl⟩
      refine lx_stopA (by rfl) fun w7 hw7 => ?_
      have HE := Lib.hid (HX1.out w7 hw7)
      have HPB := Lib.hid ((HX0.out w7 hw7).keep HPB.out)
      have HPH := Lib.hid ((HX0.out w7 hw7).keep HPH.out)
      clear hw7 HX0 HX1 HX2
      simp only [rv, pf, lexVals]
      simp only [Act.put, List.setIfInBounds_toArray, List.set_cons_zero, List.set_cons_succ]
      have kne2 := fun w => kne w x.1.prev T
      have hV := HV0.out
      obtain ⟨Pq, hPq⟩ : ∃ P, arrB 32 x.1.prev T = P := ⟨_, rfl⟩
      rw [hPq] at hV kne2
      clear kne hPq HV0
      cases Pq with
      | true =>
        have HV := Lib.hid hV.symm
        clear hV
        go_upto_region 10 with (fail)
        have HX0 := Lib.hid (show ∀ x, Ext w7.drew x → Ext w7 x from fun x hx => Ext.trans (Ext.refl w7).drew hx)
        have HX1 := Lib.hid (show ∀ x, Ext w7.drew x → Ext w x from fun x hx => HE.out.trans (HX0.out x hx))
        have HX2 := Lib.hid (show ∀ x, Ext w7.drew x → Ext w x from fun x hx => HE.out.trans (HX0.out x hx))
        refine wp_region_lexA (by kernel_rfl) (by kernel_rfl) ?_
        refine lx_e (.pointer (some ⟨p, 2, none⟩)) [] (by kernel_rfl) rfl (by rfl) (fun w1 hw1 => ?_) ?_
        · simp only [pk, lexVals]
          go_simp
          exact ⟨Ext.refl _, rfl⟩
        refine lx_e (.agg (rowArr 32 fun j => .int .u8 (x.1.prev j))) [(0, 38)] (by kernel_rfl) rfl (by rfl) (fun w1 hw1 => ?_) ?_
        · simp only [pk, nthSp, lexVals]
          exact lu_sub rfl rfl Tryd.underlying28 (size_h32 w1) (hd_prev (show w1.heap[p]? = _ from (HX0.out w1 hw1).keep HPH.out))
        refine lx_e (.pointer (some ⟨g, 0, none⟩)) [] (by kernel_rfl) rfl (by rfl) (fun w1 hw1 => ?_) ?_
        · simp only [pk, lexVals]
          go_simp
          exact ⟨Ext.refl _, rfl⟩
        refine lx_e (.pointer (some ⟨g, 0, none⟩)) [(0, 40)] (by kernel_rfl) rfl (by rfl) (fun w1 hw1 => ?_) ?_
        · simp only [pk, nthSp, lexVals]
          go_simp
          exact ⟨Ext.refl _, rfl⟩
        refine lx_e (.pointer (some ⟨g, 2, none⟩)) [(0, 41)] (by kernel_rfl) rfl (by rfl) (fun w1 hw1 => ?_) ?_
        · simp only [pk, nthSp, lexVals]
          go_simp
          exact ⟨Ext.refl _, rfl⟩
        refine lx_e (.agg (rowArr 32 fun j => .int .u8 (T j))) [(0, 42)] (by kernel_rfl) rfl (by rfl) (fun w1 hw1 => ?_) ?_
        · simp only [pk, nthSp, lexVals]
          exact lu_sub rfl rfl Tryd.underlying28 (size_h32 w1) (HH.out.ext (HX2.out w1 hw1)).cells.2.2
        refine lx_e (.bool false) [(4, 39), (0, 43)] (by kernel_rfl) rfl (by rfl) (fun w1 hw1 => ?_) ?_
        · simp only [pk, nthSp, lexVals]
          go_simp
          exact ⟨Ext.refl _, rfl⟩
        refine lx_e (.bool false) [(0, 44)] (by kernel_rfl) rfl (by rfl) (fun w1 hw1 => ?_) ?_
        · simp only [pk, nthSp, lexVals]
          go_simp
          exact ⟨Ext.refl _, rfl⟩
        refine lx_stopA (by rfl) fun w8 hw8 => ?_
        have HE := Lib.hid (HX1.out w8 hw8)
        have HPB := Lib.hid ((HX0.out w8 hw8).keep HPB.out)
        have HPH := Lib.hid ((HX0.out w8 hw8).keep HPH.out)
        clear hw8 HX0 HX1 HX2
        simp only [rv, pf, lexVals]
        simp only [Act.put, List.setIfInBounds_toArray, List.set_cons_zero, List.set_cons_succ]
        go_wp2
        go_ret
        exact ⟨by rw [HV.out]; rfl, HE.out⟩
      | false =>
        have HV := Lib.hid hV.symm
        clear hV
        go_upto_region 10 with (fail)
        have HX0 := Lib.hid (show ∀ x, Ext w7.drew x → Ext w7 x from fun x hx => Ext.trans (Ext.refl w7).drew hx)
        have HX1 := Lib.hid (show ∀ x, Ext w7.drew x → Ext w x from fun x hx => HE.out.trans (HX0.out x hx))
        have HX2 := Lib.hid (show ∀ x, Ext w7.drew x → Ext w x from fun x hx => HE.out.trans (HX0.out x hx))
        refine wp_region_lexA (by kernel_rfl) (by kernel_rfl) ?_
        refine lx_e (.pointer (some ⟨p, 2, none⟩)) [] (by kernel_rfl) rfl (by rfl) (fun w1 hw1 => ?_) ?_
        · simp only [pk, lexVals]
          go_simp
          exact ⟨Ext.refl _, rfl⟩
        refine lx_e (.agg (rowArr 32 fun j => .int .u8 (x.1.prev j))) [(0, 38)] (by kernel_rfl) rfl (by rfl) (fun w1 hw1 => ?_) ?_
        · simp only [pk, nthSp, lexVals]
          exact lu_sub rfl rfl Tryd.underlying28 (size_h32 w1) (hd_prev (show w1.heap[p]? = _ from (HX0.out w1 hw1).keep HPH.out))
        refine lx_e (.pointer (some ⟨g, 0, none⟩)) [] (by kernel_rfl) rfl (by rfl) (fun w1 hw1 => ?_) ?_
        · simp only [pk, lexVals]
          go_simp
          exact ⟨Ext.refl _, rfl⟩
        refine lx_e (.pointer (some ⟨g, 0, none⟩)) [(0, 40)] (by kernel_rfl) rfl (by rfl) (fun w1 hw1 => ?_) ?_
        · simp only [pk, nthSp, lexVals]
          go_simp
          exact ⟨Ext.refl _, rfl⟩
        refine lx_e (.pointer (some ⟨g, 2, none⟩)) [(0, 41)] (by kernel_rfl) rfl (by rfl) (fun w1 hw1 => ?_) ?_
        · simp only [pk, nthSp, lexVals]
          go_simp
          exact ⟨Ext.refl _, rfl⟩
        refine lx_e (.agg (rowArr 32 fun j => .int .u8 (T j))) [(0, 42)] (by kernel_rfl) rfl (by rfl) (fun w1 hw1 => ?_) ?_
        · simp only [pk, nthSp, lexVals]
          exact lu_sub rfl rfl Tryd.underlying28 (size_h32 w1) (HH.out.ext (HX2.out w1 hw1)).cells.2.2
        refine lx_e (.bool true) [(4, 39), (0, 43)] (by kernel_rfl) rfl (by rfl) (fun w1 hw1 => ?_) ?_
        · simp only [pk, nthSp, lexVals]
          go_simp
          exact ⟨Ext.refl _, rfl⟩
        refine lx_e (.bool true) [(0, 44)] (by kernel_rfl) rfl (by rfl) (fun w1 hw1 => ?_) ?_
        · simp only [pk, nthSp, lexVals]
          go_simp
          exact ⟨Ext.refl _, rfl⟩
        refine lx_stopA (by rfl) fun w8 hw8 => ?_
        have HE := Lib.hid (HX1.out w8 hw8)
        have HPB := Lib.hid ((HX0.out w8 hw8).keep HPB.out)
        have HPH := Lib.hid ((HX0.out w8 hw8).keep HPH.out)
        clear hw8 HX0 HX1 HX2
        simp only [rv, pf, lexVals]
        simp only [Act.put, List.setIfInBounds_toArray, List.set_cons_zero, List.set_cons_succ]
        go_wp2
        go_ret
        exact ⟨by rw [HV.out]; rfl, HE.out⟩

theorem own_ext9 {w w' : World} {B e size n : Nat} {v : Value} {xs : List Value} (h : w.ownsRow B e size v n xs) (hE : Ext w w') : w'.ownsRow B e size v n xs :=
  h.kept (grown_ext hE none) (by generalize v.ownBlock = o; cases o <;> simp)
set_option maxRecDepth 100000 in
theorem build_hd1 (w : World) (h : Hd) : (Instr.buildSlice 90 1 #[(0, .agg (hdV h))]).run Tryd.prog w = .ok (.slice (some ⟨w.heap.size, 0, none⟩) 1 1) (w.alloc (.cells (hdV h) 34)) := by kernel_rfl
theorem lu_hd1 {w : World} {o : Oper} {ev : Operand → Value} {x : Operand} {h : Hd} {F : Value → World → Prop} (ho : o.op = .buildSlice 90 1 #[(0, x)]) (hx : ev x = .agg (hdV h)) (hf : F (.slice (some ⟨w.heap.size, 0, none⟩) 1 1) (w.alloc (.cells (hdV h) 34))) : lexUpon Tryd.prog w (.ab F) ((execOp ev o).run Tryd.prog w) := by
  simp only [execOp, ho, List.map_toArray, List.map_cons, List.map_nil, hx, Sem.run_bind, build_hd1, Result.andThen_ok, Sem.run_pure]
  exact ⟨(Ext.refl w).alloc _, hf⟩
theorem luc_append_hd {w : World} {o : Oper} {ev : Operand → Value} {C : World → Prop} {E : World → World → Prop} {sp : Sp} (s x : Operand) (ho : o.op = .call { callee := .builtin .append, args := #[s, x], argTypes := #[90, 90] })
    (B : Nat) (v : Value) (n : Nat) (l : List HT) (hs : ev s = v) (hown : w.ownsRow B 34 125 v n (hsC l))
    (q c : Nat) (y : HT) (hx : ev x = .slice (some ⟨q, 0, none⟩) 1 c) (hq : ∀ j, j < 125 → w.cell? ⟨q, j, none⟩ = some (hdC y.1 j)) (hsz : n ≤ 100000) (hB : B ≤ w.heap.size)
    (hf : ∀ v' w', w'.ownsRow B 34 125 v' (n + 1) (hsC (l ++ [y])) → w.grownBy w' v.ownBlock → (v'.ownBlock = v.ownBlock ∨ v'.ownBlock = some w.heap.size) → C w' ∧ E w w' ∧ sp.holds v' w') : lexUponC Tryd.prog C E w sp ((execOp ev o).run Tryd.prog w) := by
  obtain ⟨v', w', hr, h1, h2, h3⟩ := exec_append_hd s x ho B v n l hs hown q c y hx hq hsz hB
  rw [hr]
  exact hf v' w' h1 h2 h3
theorem ks_below {g B : Nat} {w w' : World} (h : KsAt g w) (he : ∀ k, k < B → w'.heap[k]? = w.heap[k]?) (hg : g < B) : KsAt g w' := fun i hi => by
  have h1 := h i hi
  unfold World.cell? at h1 ⊢
  simp only [he g hg]
  exact h1
theorem outStep_of {w w5 w6 w7 w8 w9 : World} {g : Nat} {v v' : Value} (hE5 : Ext w w5) (hG6 : w5.grownBy w6 v.ownBlock) (hG7 : w6.grownBy w7 (some g)) (hE8 : Ext w7 w8) (hG9 : w8.grownBy w9 (some g)) (hrow : ∀ k, v'.ownBlock = some k → v.ownBlock = some k ∨ w.heap.size ≤ k) : OutStep w w9 g v v' := by
  have g5 := grown_ext hE5 (row := none)
  have g8 := grown_ext hE8 (row := none)
  have s5 := g5.size
  have s6 := hG6.size
  have s7 := hG7.size
  have s8 := g8.size
  have s9 := hG9.size
  refine ⟨hG9.os.trans (g8.os.trans (hG7.os.trans (hG6.os.trans g5.os))), hG9.tape.trans (g8.tape.trans (hG7.tape.trans (hG6.tape.trans g5.tape))), hG9.output.trans (g8.output.trans (hG7.output.trans (hG6.output.trans g5.output))), by omega, fun k hk h1 h2 => ?_, hrow⟩
  rw [hG9.block k (by omega) (fun e => h1 (Option.some.inj e)), g8.block k (by omega) (fun e => by cases e), hG7.block k (by omega) (fun e => h1 (Option.some.inj e)), hG6.block k (by omega) h2, g5.block k hk (fun e => by cases e)]

/-- What Add leaves behind where it puts a header in. -/
structure AddTo (w w' : World) (B g : Nat) (wr : Int) (a : Option Addr) (c : Nat) (l : List HT) (x : HT) (a2 : Option Addr) (c2 : Nat) (ta : Option Addr) (tc : Nat) : Prop where
  ch : ChAt w' B g wr a2 c2 (l ++ [reT x ta tc]) (shaF (bytesL x.1 x.2))
  step : OutStep w w' g (.slice a l.length c) (.slice a2 (l.length + 1) c2)
  new : ∀ b, (Value.slice ta x.1.tn tc).ownBlock = some b → w.heap.size ≤ b
  kept : w'.ownsRow w.heap.size 30 16 (.slice ta x.1.tn tc) x.1.tn (tkC x.2)

set_option maxHeartbeats 8000000 in
set_option maxRecDepth 100000 in
theorem add_any {w : World} {B g : Nat} {wr : Int} {a : Option Addr} {c : Nat} {l : List HT} {T : Nat → Int} (h : ChAt w B g wr a c l T) (hs : l.length ≤ 90000) (htn : ∀ x ∈ l, x.1.tn ≤ 1000000) (x : HT) (hx : HtAt w x) (hxn : x.1.tn ≤ 1000000)
    (hxf : 0 < x.1.tn → ∀ b off, x.1.ta = some ⟨b, off, none⟩ → b ≠ g ∧ some b ≠ (Value.slice a l.length c).ownBlock) (hk : KsAt 1 w) (hkB : 1 < B) (hBw : B ≤ w.heap.size) :
    Calls Tryd.prog 29 #[.pointer (some ⟨g, 0, none⟩), .agg (hdV x.1)] w fun e w' => e = .returned (.int .i64 (askV wr l T x)) ∧ (askV wr l T x ≠ 0 → Ext w w') ∧ (askV wr l T x = 0 → ∃ a2 c2 ta tc, AddTo w w' B g wr a c l x a2 c2 ta tc) := by
  obtain ⟨w2, hw2⟩ : ∃ w2, w.alloc (.cells (hdV x.1) 34) = w2 := ⟨_, rfl⟩
  have hE2 : Ext w w2 := by rw [← hw2]; exact (Ext.refl w).alloc _
  have hB2 : w2.heap[w.heap.size]? = some (.cells (hdV x.1) 34 (0, 0)) := by rw [← hw2]; exact heap_new w _ _ rfl
  have HAs := Lib.hid (ask_any (h.ext hE2) (by omega) htn x (hx.ext hE2))
  obtain ⟨p, hp⟩ : ∃ p, w.heap.size = p := ⟨_, rfl⟩
  rw [hp] at hB2
  have hgl := h.row.lt
  have Hp := Lib.hid hp
  have Hw2 := Lib.hid hw2
  have HE := Lib.hid hE2
  have HPB := Lib.hid hB2
  have HH := Lib.hid h
  have HL := Lib.hid hs
  have Hx := Lib.hid hx
  have HxN := Lib.hid hxn
  have HxF := Lib.hid hxf
  have HK := Lib.hid hk
  have HkB := Lib.hid hkB
  have HBw := Lib.hid hBw
  have Hsz := Lib.hid (hdV_size x.1)
  obtain ⟨A, hA⟩ : ∃ A, hdV x.1 = A := ⟨_, rfl⟩
  have HAe := Lib.hid hA
  rw [hA] at HPB Hsz HAs Hw2 ⊢
  obtain ⟨N, hN⟩ : ∃ N, l.length = N := ⟨_, rfl⟩
  have HN := Lib.hid hN
  obtain ⟨V, hV⟩ : ∃ V, askV wr l T x = V := ⟨_, rfl⟩
  rw [hV] at HAs ⊢
  have Hgl := Lib.hid hgl
  clear h htn hx hxn hxf hk hkB hBw hw2 hE2 hB2 hp hA hN hs hV hgl
  have hb1 := build_hd1
  by_cases hv : V = 0
  · subst hv
    go_enter Tryd.func29, Tryd.ntmps29
    go_upto_region 1 with (fail)
    refine wp_world (w' := w2) Hw2.out ?_
    rw [Hp.out]
    clear Hw2
    go_wp2_with (refine wpList_load_rowW rfl 34 _ rfl p rfl _ _ _ _ HPB.out Tryd.underlying34 rfl (by rw [Hsz.out]; kernel_rfl) ?_)
    refine HAs.out.mono ?_
    rintro e w3 ⟨rfl, hE⟩
    have HPB := Lib.hid (hE.keep HPB.out)
    have Hs3 := Lib.hid (Below.size hE)
    have HE := Lib.hid (HE.out.trans hE)
    clear hE HAs
    have hrl : ∀ k, (Value.slice a N c).ownBlock = some k → k < w.heap.size := fun k e => (HH.out.own.lt k (by rw [HN.out]; exact e)).2
    have hw3 : w.heap.size ≤ w3.heap.size := Below.size HE.out
    have hp3 : p < w3.heap.size := (Array.getElem?_eq_some_iff.1 HPB.out).1
    have Hrl := Lib.hid (show ∀ k, (Value.slice a N c).ownBlock = some k → k < w3.heap.size from fun k e => by have := hrl k e; omega)
    have HPq := Lib.hid (show ∀ w1, w3.grownBy w1 (Value.slice a N c).ownBlock → w1.heap[p]? = some (.cells A 34 (0, 0)) from fun w1 h1 => by
      rw [h1.block p hp3 (fun e => by have := hrl p e.symm; have := Hp.out; omega)]
      exact HPB.out)
    have Hcq := Lib.hid (show ∀ w1, w3.grownBy w1 (Value.slice a N c).ownBlock → w1.cell? ⟨g, 1, none⟩ = some (.slice a N c) from fun w1 h1 => by
      have h3 := HH.out.ext HE.out
      have h4 := (h3.row.of_block (h1.block g h3.row.lt (fun e => HH.out.ne (by rw [HN.out]; exact e.symm)))).cell (i := 1) (by omega)
      rw [h4]
      show some (Value.slice a l.length c) = _
      rw [HN.out])
    have Hxq := Lib.hid (show ∀ w1, w3.grownBy w1 (Value.slice a N c).ownBlock → HtAt w1 x from fun w1 h1 => ⟨Hx.out.ok, (Hx.out.toks.ext HE.out).blk fun h0 b off hta => by
      obtain ⟨b', off', hta', hc⟩ := (Hx.out.toks.ext HE.out).at_ h0
      rw [hta] at hta'
      simp only [Option.some.injEq, Addr.mk.injEq, and_true] at hta'
      obtain ⟨rfl, rfl⟩ := hta'
      exact h1.block b (World.block_lt_of_cell? _ _ (hc 0 h0 0 (by omega))) (by rw [← HN.out]; exact (HxF.out h0 b off hta).2)⟩)
    have HTk := Lib.hid (show ∀ (a2 : Option Addr) (c2 : Nat) (w9 w' : World), w9.ownsRow w3.heap.size 30 16 (.slice a2 x.1.tn c2) x.1.tn (tkC x.2) → w9.grownBy w' (Value.slice a N c).ownBlock → w'.ownsRow w3.heap.size 30 16 (.slice a2 x.1.tn c2) x.1.tn (tkC x.2) from fun a2 c2 w9 w' h1 h2 => h1.kept h2 (by
      cases hv : (Value.slice a2 x.1.tn c2).ownBlock with
      | none => exact .inl rfl
      | some k => exact .inr (fun e => by have h5 := (h1.lt k hv).1; have := hrl k e.symm; omega)))
    have HST := Lib.hid (show ∀ (ph : Bool) (w1 w' : World), (w3.grownBy w1 (Value.slice a N c).ownBlock ∧ (ph = false → Ext w3 w1)) → Ext w1 w' → (w3.grownBy w' (Value.slice a N c).ownBlock ∧ (ph = false → Ext w3 w')) ∧ (if ph = true then Ext w1 w' else w1.grownBy w' (Value.slice a N c).ownBlock) from fun ph w1 w' h1 h2 => ⟨⟨grown_trans h1.1 (grown_ext h2 _), fun e => (h1.2 e).trans h2⟩, by cases ph; exact grown_ext h2 _; exact h2⟩)
    clear hrl hw3 hp3
    go_upto_region 4 with (fail)
    refine lq_start (C := fun ph w => w3.grownBy w (Value.slice a N c).ownBlock ∧ (ph = false → Ext w3 w)) (E := fun ph w w' => if ph = true then Ext w w' else w.grownBy w' (Value.slice a N c).ownBlock) 11 8 (by omega) (by kernel_rfl) (by kernel_rfl) (fun ph w => by cases ph; exact World.grownBy.refl w _; exact Ext.refl w) (fun w w' h => grown_ext h _) ⟨grown_drewN (World.grownBy.refl w3 _) 1, fun _ => (Ext.refl w3).drew⟩ ?_
    refine lq_s (.ex (.pointer (some ⟨g, 0, none⟩))) [] (by omega) (by kernel_rfl) rfl (by rfl) trivial HST.out (fun ph w1 hw1 => ?_) ?_
    · simp only [pk, lexVals]
      clear hw1
      go_simp
      exact ⟨Ext.refl _, rfl⟩
    refine lq_s (.ex (.pointer (some ⟨g, 0, none⟩))) [] (by omega) (by kernel_rfl) rfl (by rfl) trivial HST.out (fun ph w1 hw1 => ?_) ?_
    · simp only [pk, lexVals]
      clear hw1
      go_simp
      exact ⟨Ext.refl _, rfl⟩
    refine lq_s (.ex (.pointer (some ⟨g, 0, none⟩))) [(0, 13)] (by omega) (by kernel_rfl) rfl (by rfl) trivial HST.out (fun ph w1 hw1 => ?_) ?_
    · simp only [pk, nthSp, lexVals]
      clear hw1
      go_simp
      exact ⟨Ext.refl _, rfl⟩
    refine lq_s (.ex (.pointer (some ⟨g, 1, none⟩))) [(0, 14)] (by omega) (by kernel_rfl) rfl (by rfl) trivial HST.out (fun ph w1 hw1 => ?_) ?_
    · simp only [pk, nthSp, lexVals]
      clear hw1
      go_simp
      exact ⟨Ext.refl _, rfl⟩
    refine lq_s (.ex (.slice a N c)) [(0, 15)] (by omega) (by kernel_rfl) rfl (by rfl) trivial HST.out (fun ph w1 hw1 => ?_) ?_
    · simp only [pk, nthSp, lexVals]
      have hc := Hcq.out w1 hw1.1
      clear hw1
      go_simp
      exact ⟨Ext.refl _, rfl⟩
    refine lq_s (.ex (.agg A)) [] (by omega) (by kernel_rfl) rfl (by rfl) trivial HST.out (fun ph w1 hw1 => ?_) ?_
    · simp only [pk, lexVals]
      exact lu_row rfl rfl (HPq.out w1 hw1.1) Tryd.underlying34 rfl (by rw [Hsz.out]; kernel_rfl)
    refine lq_s (.ab (fun u w9 => ∃ a2 c2, u = .agg (hdV (reT x a2 c2).1) ∧ w9.ownsRow w3.heap.size 30 16 (.slice a2 x.1.tn c2) x.1.tn (tkC x.2))) [(0, 17)] (by omega) (by kernel_rfl) rfl (by rfl) (fun u w w' he ⟨a2, c2, h1, h2⟩ => ⟨a2, c2, h1, HTk.out _ _ w w' h2 he⟩) HST.out (fun ph w1 hw1 => ?_) ?_
    · simp only [pk, nthSp, lexVals]
      have hm := copied_any x w1 (Hxq.out w1 hw1.1) HxN.out
      rw [HAe.out] at hm
      have HM := Lib.hid hm
      have hsz1 := hw1.1.size
      clear hw1 hm
      go_simp
      refine HM.out.mono ?_
      rintro e w2 ⟨a2, c2, rfl, hs, hE2⟩
      exact ⟨_, rfl, hE2, a2, c2, rfl, own_mono hs hsz1⟩
    refine lq_s (.ab (fun u w9 => ∃ q a2 c2, u = .slice (some ⟨q, 0, none⟩) 1 1 ∧ w3.heap.size ≤ q ∧ (∀ j, j < 125 → w9.cell? ⟨q, j, none⟩ = some (hdC (reT x a2 c2).1 j)) ∧ w9.ownsRow w3.heap.size 30 16 (.slice a2 x.1.tn c2) x.1.tn (tkC x.2))) [(0, 18)] (by omega) (by kernel_rfl) rfl (by rfl) (fun u w w' he ⟨q, a2, c2, h1, h4, h3, h2⟩ => ⟨q, a2, c2, h1, h4, fun j hj => World.grownBy.cell he (h3 j hj) (fun e => by have := Hrl.out q e.symm; omega), HTk.out _ _ w w' h2 he⟩) HST.out (fun ph w1 hw1 => ?_) ?_
    · simp only [pk, nthSp, lexVals]
      rintro u18 ⟨a18, c18, rfl, h18⟩
      have hsz1 := hw1.1.size
      clear hw1
      exact lu_hd1 rfl rfl ⟨w1.heap.size, a18, c18, rfl, hsz1, fun j hj => row_cell (heap_new w1 _ _ rfl) j hj, own_ext9 h18 ((Ext.refl w1).alloc _)⟩
    refine lq_m (.ab (fun u w9 => ∃ w5 w6 ta tc a2 c2, u = .slice a2 (N + 1) c2 ∧ Ext w3 w5 ∧ w5.grownBy w6 (Value.slice a N c).ownBlock ∧ w6.ownsRow B 34 125 (.slice a2 (N + 1) c2) (N + 1) (hsC (l ++ [reT x ta tc])) ∧ ((Value.slice a2 (N + 1) c2).ownBlock = (Value.slice a N c).ownBlock ∨ (Value.slice a2 (N + 1) c2).ownBlock = some w5.heap.size) ∧ w5.ownsRow w3.heap.size 30 16 (.slice ta x.1.tn tc) x.1.tn (tkC x.2) ∧ Ext w6 w9)) [(3, 16), (0, 19)] rfl (by kernel_rfl) rfl (by rfl) (fun u w w' he ⟨w5, w6, ta, tc, a2, c2, h1, h2, h3, h4, h5, h6, h7⟩ => ⟨w5, w6, ta, tc, a2, c2, h1, h2, h3, h4, h5, h6, h7.trans he⟩) (fun w1 hw1 => ?_) ?_
    · simp only [pk, nthSp, lexVals]
      rintro u19 ⟨q19, a19, c19, rfl, hq19, hc19, h19⟩
      have hE1 := hw1.2 rfl
      have ho1 := (HH.out.ext (HE.out.trans hE1)).own
      rw [HN.out] at ho1
      exact luc_append_hd (.tmp 16) (.tmp 19) rfl B (.slice a N c) N l rfl ho1 q19 1 (reT x a19 c19) rfl hc19 (by have := HL.out; have := HN.out; omega) (by have h1 := HBw.out; have h2 := Below.size (HE.out.trans hE1); omega) (fun v' w' h1 h2 h3 => by
        obtain ⟨a2, c2, rfl⟩ := own_hsl h1
        exact ⟨⟨grown_trans hw1.1 h2, fun e => by cases e⟩, h2, w1, w', a19, c19, a2, c2, rfl, hE1, h2, h1, h3, h19, Ext.refl _⟩)
    refine lq_s (.ex (.pointer (some ⟨g, 0, none⟩))) [(8, 12)] (by omega) (by kernel_rfl) rfl (by rfl) trivial HST.out (fun ph w1 hw1 => ?_) ?_
    · simp only [pk, nthSp, lexVals]
      clear hw1
      go_simp
      exact ⟨Ext.refl _, rfl⟩
    refine lq_s (.ex (.pointer (some ⟨g, 1, none⟩))) [(0, 21)] (by omega) (by kernel_rfl) rfl (by rfl) trivial HST.out (fun ph w1 hw1 => ?_) ?_
    · simp only [pk, nthSp, lexVals]
      clear hw1
      go_simp
      exact ⟨Ext.refl _, rfl⟩
    refine lq_stop (by rfl) (by decide) fun w6 hw6 => ?_
    clear hw6 HST HTk Hxq Hcq HPq Hrl
    simp only [rv, pf, lexVals]
    rintro v18 ⟨a18, c18, rfl, -⟩ v19 ⟨q19, a19, c19, rfl, -⟩ v20 ⟨w5, wm, ta, tc, a2, c2, rfl, hE5, hGm, hownm, hwh, htok, hEm⟩
    have HPB := Lib.hid (hE5.keep HPB.out)
    have Hs5 := Lib.hid (Below.size hE5)
    have HE5 := Lib.hid (HE.out.trans hE5)
    have hG6 : w5.grownBy w6 (Value.slice a N c).ownBlock := grown_trans hGm (grown_ext hEm _)
    have HG6 := Lib.hid hG6
    have HO6 := Lib.hid (own_ext9 hownm hEm)
    have HTo := Lib.hid htok
    have HWh := Lib.hid hwh
    have h5 := HH.out.ext HE5.out
    have hr6 := h5.row.of_block (hG6.block g h5.row.lt (fun e => HH.out.ne (by rw [HN.out]; exact e.symm)))
    have c1 := hr6.cell (i := 1) (by omega)
    have f1 := hr6.frozen 1
    have HR6 := Lib.hid hr6
    simp only [Act.put, List.setIfInBounds_toArray, List.set_cons_zero, List.set_cons_succ]
    clear hE5 hGm hownm hwh htok hEm hG6 h5 hr6
    go_upto_region 5 with (fail)
    have hG7 : w6.grownBy (w6.setCell ⟨g, 1, none⟩ (.slice a2 (N + 1) c2)) (some g) := grown_setCell (World.grownBy.refl w6 _) rfl _
    have hr7 : (w6.setCell ⟨g, 1, none⟩ (.slice a2 (N + 1) c2)).rowIs g 92 34 (chC wr (.slice a2 (N + 1) c2) T) := (HR6.out.set 1 _).congr fun j _ => by
      unfold chC
      by_cases h1 : j = 1
      · subst h1
        rfl
      · rw [if_neg h1]
        by_cases h2 : j < 1
        · rw [if_pos h2, if_pos h2]
        · rw [if_neg h2, if_neg h2, if_neg (by omega), if_neg (by omega)]
    obtain ⟨w7, hw7⟩ : ∃ w7, w6.setCell ⟨g, 1, none⟩ (.slice a2 (N + 1) c2) = w7 := ⟨_, rfl⟩
    rw [hw7] at hG7 hr7
    refine wp_world (w' := w7) hw7 ?_
    have HG7 := Lib.hid hG7
    have HR7 := Lib.hid hr7
    clear hw7 hG7 hr7 c1 f1 HR6
    have hkeep : ∀ k, k < w5.heap.size → k ≠ g → some k ≠ (Value.slice a N c).ownBlock → w7.heap[k]? = w5.heap[k]? := fun k hk h1 h2 => by
      have := HG6.out.size
      rw [HG7.out.block k (by omega) (fun e => h1 (Option.some.inj e)), HG6.out.block k hk h2]
    have hol : ∀ k, (Value.slice a N c).ownBlock = some k → B ≤ k ∧ k < w.heap.size := fun k e => by
      have h1 := HH.out.own.lt k (by rw [HN.out]; exact e)
      exact h1
    have hws : w.heap.size ≤ w5.heap.size := Below.size HE5.out
    have hpw : w7.heap[p]? = some (.cells A 34 (0, 0)) := by
      rw [hkeep p (Array.getElem?_eq_some_iff.1 HPB.out).1 (by have := Hp.out; have := Hgl.out; omega) (fun e => by have := (hol p e.symm).2; have := Hp.out; omega)]
      exact HPB.out
    have hkw : KsAt 1 w7 := ks_below (B := B) (hdKs_ext HK.out HE5.out) (fun k hk => hkeep k (by have := HBw.out; omega) (by have := HH.out.low; omega) (fun e => by have := (hol k e.symm).1; omega)) HkB.out
    have hxw : HtAt w7 x := ⟨Hx.out.ok, (Hx.out.toks.ext HE5.out).blk fun h0 b off hta => by
      obtain ⟨b', off', hta', hc⟩ := (Hx.out.toks.ext HE5.out).at_ h0
      rw [hta] at hta'
      simp only [Option.some.injEq, Addr.mk.injEq, and_true] at hta'
      obtain ⟨rfl, rfl⟩ := hta'
      have h1 := HxF.out h0 b off hta
      exact hkeep b (World.block_lt_of_cell? _ _ (hc 0 h0 0 (by omega))) h1.1 (by rw [← HN.out]; exact h1.2)⟩
    have HP7 := Lib.hid hpw
    have HHs := Lib.hid (hdHash_any x.1 x.2 w7 hxw.ok hxw.toks hkw)
    rw [HAe.out] at HHs
    have HKp := Lib.hid hkeep
    have HOl := Lib.hid hol
    clear hkeep hol hpw hkw hxw
    go_wp2_with (refine wpList_load_rowW rfl 34 _ rfl p rfl _ _ _ _ HP7.out Tryd.underlying34 rfl (by rw [Hsz.out]; kernel_rfl) ?_)
    refine HHs.out.mono ?_
    rintro e w8 ⟨rfl, hE⟩
    have HE8 := Lib.hid hE
    have hr8 := HR7.out.of_block (hE.block HR7.out.lt)
    have HR8 := Lib.hid hr8
    obtain ⟨F, hF⟩ : ∃ F, shaF (bytesL x.1 x.2) = F := ⟨_, rfl⟩
    rw [hF]
    have HF := Lib.hid hF
    have HTh := Lib.hid (show w8.there g 2 (rowArr 32 fun j => Value.int .u8 (F j)).size from fun j hj => by
      rw [rowArr_size] at hj
      exact ⟨by rw [hr8.cell (i := 2 + j) (by omega)]; rfl, hr8.frozen _⟩)
    clear hE hr8 hF HHs
    go_wp2_with (refine wpList_store_mid rfl 28 _ _ rfl g 2 (rowArr 32 fun j => .int .u8 (F j)) rfl rfl HTh.out (by rw [rowArr_size]; kernel_rfl) (rowArr_one fun _ _ => rfl) ?_)
    go_ret
    have hG9 : w8.grownBy (w8.setCells g 2 (rowArr 32 fun j => Value.int .u8 (F j)).toList) (some g) := grown_setCells _ _ _ (World.grownBy.refl w8 _)
    have hr9 : (w8.setCells g 2 (rowArr 32 fun j => Value.int .u8 (F j)).toList).rowIs g 92 34 (chC wr (.slice a2 (N + 1) c2) F) := (rowIs_setCells _ 2 _ _ HR8.out).congr fun j hj => by
      rw [Array.length_toList, rowArr_size]
      unfold chC
      by_cases h1 : 2 ≤ j ∧ j < 2 + 32
      · rw [if_pos h1, if_neg (by omega), if_neg (by omega), List.getD_eq_getElem?_getD, Array.getElem?_toList, rowArr_get _ _ _ (by omega)]
        rfl
      · rw [if_neg h1]
        by_cases h2 : j < 1
        · rw [if_pos h2, if_pos h2]
        · rw [if_neg h2, if_neg h2, if_pos (by omega), if_pos (by omega)]
    obtain ⟨w9, hw9⟩ : ∃ w9, w8.setCells g 2 (rowArr 32 fun j => Value.int .u8 (F j)).toList = w9 := ⟨_, rfl⟩
    rw [hw9] at hG9 hr9 ⊢
    clear hw9
    refine ⟨rfl, fun hn => absurd rfl hn, fun _ => ⟨a2, c2, ta, tc, ?_⟩⟩
    have hlen : (l ++ [reT x ta tc]).length = N + 1 := by rw [List.length_append, HN.out]; rfl
    have hs5 := Hs5.out
    have hs3 := Hs3.out
    have hsw := Below.size HE.out
    have hs53 := Below.size HE5.out
    have hg6s := HG6.out.size
    have hg7s := HG7.out.size
    have hE8s := Below.size HE8.out
    have hgl := Hgl.out
    have hrow : ∀ k, (Value.slice a2 (N + 1) c2).ownBlock = some k → (Value.slice a N c).ownBlock = some k ∨ w5.heap.size ≤ k := fun k e => by
      rcases HWh.out with h1 | h1
      · exact .inl (by rw [← h1]; exact e)
      · rw [h1] at e
        have := Option.some.inj e
        exact .inr (by omega)
    have hne9 : (Value.slice a2 (N + 1) c2).ownBlock ≠ some g := fun e => by
      rcases hrow g e with h1 | h1
      · exact HH.out.ne (by rw [HN.out]; exact h1)
      · omega
    have hkeep9 : ∀ k, k < w5.heap.size → k ≠ g → some k ≠ (Value.slice a N c).ownBlock → w9.heap[k]? = w5.heap[k]? := fun k hk h1 h2 => by
      rw [hG9.block k (by omega) (fun e => h1 (Option.some.inj e)), HE8.out.block (by omega), HKp.out k hk h1 h2]
    have hnt : ∀ b, (Value.slice ta x.1.tn tc).ownBlock = some b → w3.heap.size ≤ b ∧ b < w5.heap.size := fun b e => HTo.out.lt b e
    have hto9 : w9.ownsRow w3.heap.size 30 16 (.slice ta x.1.tn tc) x.1.tn (tkC x.2) := by
      have hgr : ∀ k, (Value.slice ta x.1.tn tc).ownBlock = some k → w9.heap[k]? = w5.heap[k]? := fun k e => by
        have h1 := hnt k e
        exact hkeep9 k h1.2 (by omega) (fun e2 => by have := (HOl.out k e2.symm).2; omega)
      rcases HTo.out.2 with ⟨h1, h2⟩ | ⟨q, cap, cur, h1, h2, h3, h4⟩
      · exact ⟨HTo.out.1, .inl ⟨h1, h2⟩⟩
      · exact ⟨HTo.out.1, .inr ⟨q, cap, cur, h1, h2, by rw [hgr q (by rw [h1]; rfl)]; exact h3, h4⟩⟩
    refine ⟨⟨?_, ?_, ?_, HH.out.low, ?_, ?_⟩, ?_, fun b e => by have := (hnt b e).1; omega, own_mono hto9 (by omega)⟩
    · rw [hlen, HF.out]
      exact hr9
    · rw [hlen]
      have h1 := HO6.out.kept HG7.out (by
        cases hv : (Value.slice a2 (N + 1) c2).ownBlock with
        | none => exact .inl rfl
        | some k => exact .inr (fun e => hne9 (by rw [hv]; exact e)))
      have h2 := own_ext9 h1 HE8.out
      exact h2.kept hG9 (by
        cases hv : (Value.slice a2 (N + 1) c2).ownBlock with
        | none => exact .inl rfl
        | some k => exact .inr (fun e => hne9 (by rw [hv]; exact e)))
    · intro y hy
      rcases List.mem_append.1 hy with hy | hy
      · have h1 := HH.out.each y hy
        refine ⟨h1.ok, (h1.toks.ext HE5.out).blk fun h0 b off hta => ?_⟩
        have h2 := HH.out.far y hy h0 b off hta
        obtain ⟨b', off', hta', hc⟩ := (h1.toks.ext HE5.out).at_ h0
        rw [hta] at hta'
        simp only [Option.some.injEq, Addr.mk.injEq, and_true] at hta'
        obtain ⟨rfl, rfl⟩ := hta'
        exact hkeep9 b (World.block_lt_of_cell? _ _ (hc 0 h0 0 (by omega))) h2.1 (by rw [← HN.out]; exact h2.2)
      · obtain rfl := List.mem_singleton.1 hy
        exact reT_at Hx.out.ok Hx.out.toks.byte HxN.out hto9
    · rw [hlen]
      exact hne9
    · intro y hy h0 b off hta
      rw [hlen]
      rcases List.mem_append.1 hy with hy | hy
      · have h2 := HH.out.far y hy h0 b off hta
        refine ⟨h2.1, fun e => ?_⟩
        rcases hrow b e.symm with h3 | h3
        · exact h2.2 (by rw [HN.out]; exact h3.symm)
        · obtain ⟨b', off', hta', hc⟩ := ((HH.out.each y hy).toks.ext HE5.out).at_ h0
          rw [hta] at hta'
          simp only [Option.some.injEq, Addr.mk.injEq, and_true] at hta'
          obtain ⟨rfl, rfl⟩ := hta'
          have := World.block_lt_of_cell? _ _ (hc 0 h0 0 (by omega))
          have : b < w5.heap.size := this
          omega
      · obtain rfl := List.mem_singleton.1 hy
        have h3 := hnt b (by show (Value.slice ta x.1.tn tc).ownBlock = some b; rw [show ta = some ⟨b, off, none⟩ from hta]; rfl)
        refine ⟨by omega, fun e => ?_⟩
        rcases hrow b e.symm with h4 | h4
        · have := (HOl.out b h4).2
          omega
        · omega
    · rw [HN.out]
      exact outStep_of HE5.out HG6.out HG7.out HE8.out hG9 (fun k e => by
        rcases hrow k e with h1 | h1
        · exact .inl h1
        · exact .inr (by omega))
  · have hv2 : (V == 0) = false := beq_eq_false_iff_ne.2 hv
    have hv3 : (V != 0) = true := bne_iff_ne.2 hv
    go_enter Tryd.func29, Tryd.ntmps29
    go_upto_region 1 with (fail)
    refine wp_world (w' := w2) Hw2.out ?_
    rw [Hp.out]
    clear Hw2
    go_wp2_with (refine wpList_load_rowW rfl 34 _ rfl p rfl _ _ _ _ HPB.out Tryd.underlying34 rfl (by rw [Hsz.out]; kernel_rfl) ?_)
    refine HAs.out.mono ?_
    rintro e w3 ⟨rfl, hE⟩
    have HE := Lib.hid (HE.out.trans hE)
    clear hE HAs
    go_wp2
    go_ret
    exact ⟨rfl, fun _ => HE.out, fun hn => absurd hn hv⟩

end Go.Proofs.YtihlpfdhallfpaaDoor
