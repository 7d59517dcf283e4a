/-
  What a chain has taken is formed, and linked: plain laws. No conditions.
  The walk of a chain's From. No conditions but lengths.
-/
import Derived.Test.YthdgnahokmjkpaaDoorLinked
import Derived.Test.YthdgnahokmjkpaaDoorWrS
namespace Go.Proofs.YthdgnahokmjkpaaDoor
open Go.ChangeAt Go.ChangeShapes Go.RowKit Go.WideShapes

def LkS (wv : Int) (lh : List HT) : Prop := ∀ i, i < lh.length → hdB (lh.getD i htN).1 (lh.getD i htN).2 = true ∧ (lh.getD i htN).1.writer = wv ∧ (lh.getD i htN).1.seq = (i : Int) + 1 ∧ (0 < i → arrB 32 (lh.getD i htN).1.prev (shaF (bytesL (lh.getD (i - 1) htN).1 (lh.getD (i - 1) htN).2)) = true)
theorem LkS.nil (wv : Int) : LkS wv [] := fun i hi => by simp at hi
theorem getD_left (l : List HT) (y : HT) (i : Nat) (h : i < l.length) : (l ++ [y]).getD i htN = l.getD i htN := by
  rw [List.getD_eq_getElem?_getD, List.getElem?_append_left h, ← List.getD_eq_getElem?_getD]
theorem getD_last (l : List HT) (y : HT) : (l ++ [y]).getD l.length htN = y := by
  rw [List.getD_eq_getElem?_getD, List.getElem?_append_right (Nat.le_refl _), Nat.sub_self]
  rfl
/-- What is asked of and told OK. -/
theorem askV_ok {wv : Int} {lc : List HT} {T : Nat → Int} {y : HT} (h : askV wv lc T y = 0) : hdB y.1 y.2 = true ∧ y.1.writer = wv ∧ y.1.seq = (lc.length : Int) + 1 ∧ arrB 32 y.1.prev T = true := by
  unfold askV at h
  split at h
  · omega
  · rename_i h1
    have hf : hdB y.1 y.2 = true := by
      cases hq : hdB y.1 y.2 with
      | true => rfl
      | false => exact absurd (Or.inl hq) h1
    have hw : y.1.writer = wv := by
      by_cases hq : y.1.writer = wv
      · exact hq
      · exact absurd (Or.inr hq) h1
    have hbd := hdB_bd hf
    split at h
    · split at h <;> omega
    · rename_i h2
      split at h
      · omega
      · rename_i h3
        split at h
        · rename_i h4
          exact ⟨hf, hw, by omega, h4⟩
        · omega
theorem LkS.push {wv : Int} {lc lh : List HT} {y : HT} (h : LkS wv lh) (hl : lc.length = lh.length) (ha : askV wv lc (tipF lh) y = 0) : LkS wv (lh ++ [y]) := by
  obtain ⟨h1, h2, h3, h4⟩ := askV_ok ha
  intro i hi
  rw [List.length_append] at hi
  have hi2 : i < lh.length + 1 := hi
  by_cases hlt : i < lh.length
  · rw [getD_left lh y i hlt]
    obtain ⟨a1, a2, a3, a4⟩ := h i hlt
    refine ⟨a1, a2, a3, fun h0 => ?_⟩
    rw [getD_left lh y (i - 1) (by omega)]
    exact a4 h0
  · obtain rfl : i = lh.length := by omega
    rw [getD_last]
    refine ⟨h1, h2, by rw [← hl]; exact h3, fun h0 => ?_⟩
    rw [getD_left lh y (lh.length - 1) (by omega)]
    unfold tipF at h4
    rw [if_neg (by omega)] at h4
    exact h4
/-- A run of them, each with tokens of its own, is linked. -/
theorem LkS.run {wv : Int} {lh lo : List HT} {q : Nat} (h : LkS wv lh) (hq : q + lo.length ≤ lh.length) (hs : lh.length ≤ 100000)
    (hl : ∀ x ∈ lh, x.2.length = x.1.tn) (hlo : ∀ x ∈ lo, x.2.length = x.1.tn) (he : ∀ i, i < lo.length → HdEq (lo.getD i htN).1 (lh.getD (q + i) htN).1 (lo.getD i htN).2 (lh.getD (q + i) htN).2) : lkFrom lo lo.length 0 = true := by
  have mem : ∀ (l : List HT) i, i < l.length → l.getD i htN ∈ l := fun l i hi => by
    rw [List.getD_eq_getElem?_getD, List.getElem?_eq_getElem hi]
    exact List.getElem_mem _
  rw [lkFrom_iff]
  intro i hi _
  have e1 := he i hi
  obtain ⟨a1, a2, a3, a4⟩ := h (q + i) (by omega)
  unfold lkJ
  rw [hdB_congr (hl _ (mem lh (q + i) (by omega))) (hlo _ (mem lo i hi)) e1.symm a1, Bool.true_and]
  by_cases h0 : i = 0
  · rw [decide_eq_true h0]
    rfl
  · rw [decide_eq_false h0, Bool.false_or]
    have e2 := he (i - 1) (by omega)
    obtain ⟨b1, b2, b3, _⟩ := h (q + (i - 1)) (by omega)
    rw [e1.writer, e2.writer, a2, b2, beq_self_eq_true, Bool.true_and, e1.seq, e2.seq, a3, b3]
    have hw : IntKind.u64.wrap (((q + (i - 1) : Nat) : Int) + 1 + 1) = ((q + i : Nat) : Int) + 1 := by
      rw [IntKind.wrap_u64]
      omega
    rw [hw, beq_self_eq_true, Bool.true_and]
    have h5 := a4 (by omega)
    rw [show q + i - 1 = q + (i - 1) by omega, ← bytesL_congr (hlo _ (mem lo (i - 1) (by omega))) (hl _ (mem lh (q + (i - 1)) (by omega))) e2] at h5
    unfold arrB at h5 ⊢
    have h6 := of_decide_eq_true h5
    exact decide_eq_true fun j hj => by rw [e1.prev j hj]; exact h6 j hj

/-- What From has gathered: headers from the q-th on, with tokens of their own. -/
structure FrAt (w wr : World) (l : List HT) (q : Nat) (lo : List HT) (ao : Option Addr) (co : Nat) : Prop where
  own : wr.ownsRow w.heap.size 35 125 (.slice ao lo.length co) lo.length (hsC lo)
  ext : Ext w wr
  each : ∀ i, i < lo.length → ∃ ta tc, lo.getD i htN = reT (l.getD (q + i) htN) ta tc ∧ wr.ownsRow w.heap.size 31 16 (.slice ta (l.getD (q + i) htN).1.tn tc) (l.getD (q + i) htN).1.tn (tkC (l.getD (q + i) htN).2) ∧ ∀ k, (Value.slice ta (l.getD (q + i) htN).1.tn tc).ownBlock = some k → (Value.slice ao lo.length co).ownBlock ≠ some k
theorem FrAt.more {w wr w' : World} {l : List HT} {q : Nat} {lo : List HT} {ao : Option Addr} {co : Nat} (h : FrAt w wr l q lo ao co) (he : Ext wr w') : FrAt w w' l q lo ao co :=
  ⟨own_ext9 h.own he, h.ext.trans he, fun i hi => by
    obtain ⟨ta, tc, h1, h2, h3⟩ := h.each i hi
    exact ⟨ta, tc, h1, own_ext9 h2 he, h3⟩⟩
theorem FrAt.push {w wr w' : World} {l : List HT} {q : Nat} {lo : List HT} {ao a2 : Option Addr} {co c2 : Nat} (h : FrAt w wr l q lo ao co) {ta : Option Addr} {tc : Nat}
    (ht : wr.ownsRow w.heap.size 31 16 (.slice ta (l.getD (q + lo.length) htN).1.tn tc) (l.getD (q + lo.length) htN).1.tn (tkC (l.getD (q + lo.length) htN).2))
    (hn : ∀ k, (Value.slice ta (l.getD (q + lo.length) htN).1.tn tc).ownBlock = some k → (Value.slice ao lo.length co).ownBlock ≠ some k)
    (ho : w'.ownsRow w.heap.size 35 125 (.slice a2 (lo.length + 1) c2) (lo.length + 1) (hsC (lo ++ [reT (l.getD (q + lo.length) htN) ta tc])))
    (hG : wr.grownBy w' (Value.slice ao lo.length co).ownBlock) (hw : (Value.slice a2 (lo.length + 1) c2).ownBlock = (Value.slice ao lo.length co).ownBlock ∨ (Value.slice a2 (lo.length + 1) c2).ownBlock = some wr.heap.size) : FrAt w w' l q (lo ++ [reT (l.getD (q + lo.length) htN) ta tc]) a2 c2 := by
  have key : ∀ {x : HT} {ta : Option Addr} {tc : Nat}, wr.ownsRow w.heap.size 31 16 (.slice ta x.1.tn tc) x.1.tn (tkC x.2) → (∀ k, (Value.slice ta x.1.tn tc).ownBlock = some k → (Value.slice ao lo.length co).ownBlock ≠ some k) →
      w'.ownsRow w.heap.size 31 16 (.slice ta x.1.tn tc) x.1.tn (tkC x.2) ∧ ∀ k, (Value.slice ta x.1.tn tc).ownBlock = some k → (Value.slice a2 (lo.length + 1) c2).ownBlock ≠ some k := fun {x ta tc} h1 h2 => by
    refine ⟨h1.kept hG ?_, fun k e e2 => ?_⟩
    · cases hv : (Value.slice ta x.1.tn tc).ownBlock with
      | none => exact .inl rfl
      | some k => exact .inr (fun e => h2 k hv e.symm)
    · rcases hw with h3 | h3
      · exact h2 k e (by rw [← h3]; exact e2)
      · rw [h3] at e2
        have := Option.some.inj e2
        have := (h1.lt k e).2
        omega
  have hl : ∀ z : HT, (lo ++ [z]).length = lo.length + 1 := fun z => by simp
  refine ⟨by rw [hl]; exact ho, Below.grown h.ext hG (Below.size h.ext) (fun k e => (h.own.lt k e).1), fun i hi => ?_⟩
  rw [hl] at hi ⊢
  by_cases hi2 : i < lo.length
  · obtain ⟨ta', tc', h1, h2, h3⟩ := h.each i hi2
    have h4 := key h2 h3
    refine ⟨ta', tc', ?_, h4.1, h4.2⟩
    rw [List.getD_eq_getElem?_getD, List.getElem?_append_left hi2, ← List.getD_eq_getElem?_getD]
    exact h1
  · obtain rfl : i = lo.length := by omega
    have h4 := key ht hn
    refine ⟨ta, tc, ?_, h4.1, h4.2⟩
    rw [List.getD_eq_getElem?_getD, List.getElem?_append_right (Nat.le_refl _), Nat.sub_self]
    rfl

def sliceLen : Value → Nat
  | .slice _ n _ => n
  | _ => 0

set_option maxHeartbeats 4000000 in
set_option maxRecDepth 100000 in
theorem from_any {w : World} {B g : Nat} {wr : Int} {a : Option Addr} {c : Nat} {l : List HT} {T : Nat → Int} (h : ChAt w B g wr a c l T) (hs : l.length ≤ 90000) (htn : ∀ x ∈ l, x.1.tn ≤ 1000000) (s most : Int) (h0 : 0 ≤ s) (h1 : s < 18446744073709551616) :
    Calls Tryd.prog 22 #[.pointer (some ⟨g, 0, none⟩), .int .u64 s, .int .i64 most] w fun e w' => ∃ (lo : List HT) (ao : Option Addr) (co : Nat), e = .returned (.slice ao lo.length co) ∧ FrAt w w' l ((max s 1).toNat - 1) lo ao co ∧
      (lo.length = 0 ∨ (max s 1) + lo.length ≤ (l.length : Int) + 1) ∧ ((l.length : Int) < (max s 1) + lo.length ∨ most ≤ lo.length) ∧ ((lo.length : Int) ≤ most ∨ lo.length = 0) := by
  have HH := Lib.hid h
  have HL := Lib.hid hs
  have HTN := Lib.hid htn
  obtain ⟨S, hS⟩ : ∃ S, max s 1 = S := ⟨_, rfl⟩
  have hS1 : 1 ≤ S := by omega
  have hS2 : S < 18446744073709551616 := by omega
  have HSm := Lib.hid hS
  obtain ⟨N, hN⟩ : ∃ N, l.length = N := ⟨_, rfl⟩
  have HN := Lib.hid hN
  obtain ⟨Q, hQ⟩ : ∃ Q, S.toNat - 1 = Q := ⟨_, rfl⟩
  have HQ := Lib.hid hQ
  rw [hS, hN, hQ]
  clear h htn hN hQ
  go_enter Tryd.func22, Tryd.ntmps22
  go_wp2
  go_loopw [7, 8] (fun v i wr => ∃ (lo : List HT) (ao : Option Addr) (co : Nat), v = .slice ao lo.length co ∧ i = .int .u64 (S + (lo.length : Int)) ∧ FrAt w wr l Q lo ao co ∧ (lo.length = 0 ∨ S + lo.length ≤ (N : Int) + 1) ∧ ((lo.length : Int) ≤ most ∨ lo.length = 0)) (fun v _ _ => N + 1 - sliceLen v)
  case atStart => exact ⟨[], none, 0, rfl, by simp, ⟨World.ownsRow_nil _ _ _ _, Ext.refl _, fun i hi => by simp at hi⟩, Or.inl rfl, Or.inr rfl⟩
  case round =>
    obtain ⟨lo, ao, co, rfl, rfl, hfr, hb1, hb2⟩ := hrel
    obtain ⟨m, hm⟩ : ∃ m, lo.length = m := ⟨_, rfl⟩
    have HM := Lib.hid hm
    have HF := Lib.hid hfr
    have HB1 := Lib.hid hb1
    have HB2 := Lib.hid hb2
    rw [hm] at hb1 hb2 ⊢
    clear hfr
    have hmN : m ≤ N + 1 := by rcases hb1 with h | h <;> omega
    have HHd := Lib.hid (show Calls Tryd.prog 13 #[.pointer (some ⟨g, 0, none⟩)] wr fun e w' => e = .returned (.int .u64 (N : Int)) ∧ Ext wr w' from by
      have h1 := head_any (HH.out.ext HF.out.ext) (by have := HL.out; omega)
      rw [HN.out] at h1
      exact h1)
    by_cases hin : S + (m : Int) ≤ (N : Int)
    case neg =>
      have x1 : ¬ S + (m : Int) ≤ (N : Int) := hin
      clear hm hb1 hb2
      go_wp2_with fail
      refine HHd.out.mono ?_
      rintro e w3 ⟨rfl, hE⟩
      have HF3 := Lib.hid (HF.out.more hE)
      clear hE HHd
      go_wp2
      go_ret
      exact ⟨lo, ao, co, by rw [HM.out]; rfl, HF3.out, HB1.out.imp (fun q => by first | exact q | exact List.eq_nil_of_length_eq_zero q) id, Or.inl (by have := HM.out; omega), HB2.out.imp id (fun q => by first | exact q | exact List.eq_nil_of_length_eq_zero q)⟩
    by_cases hmo : (m : Int) < most
    case neg =>
      have x2 : ¬ (m : Int) < most := hmo
      clear hm hb1 hb2
      go_wp2_with fail
      refine HHd.out.mono ?_
      rintro e w3 ⟨rfl, hE⟩
      have HF3 := Lib.hid (HF.out.more hE)
      clear hE HHd
      go_wp2
      go_ret
      exact ⟨lo, ao, co, by rw [HM.out]; rfl, HF3.out, HB1.out.imp (fun q => by first | exact q | exact List.eq_nil_of_length_eq_zero q) id, Or.inr (by have := HM.out; omega), HB2.out.imp id (fun q => by first | exact q | exact List.eq_nil_of_length_eq_zero q)⟩
    clear hm hb1 hb2
    go_wp2_with fail
    refine HHd.out.mono ?_
    rintro e w3 ⟨rfl, hE⟩
    have HF3 := Lib.hid (HF.out.more hE)
    clear hE HHd HF
    have hch := HH.out.ext HF3.out.ext
    have c1 := hch.cells.2.1
    rw [HN.out] at c1
    have hHs := hch.hs (by have := HL.out; omega)
    rw [HN.out] at hHs
    have hql : Q + m < N := by have := HQ.out; omega
    obtain ⟨b, off, rfl, hr⟩ := hHs.range (Q + m) hql
    obtain ⟨x, hx⟩ : ∃ x, l.getD (Q + m) htN = x := ⟨_, rfl⟩
    rw [hx] at hr
    have Hr := Lib.hid hr
    have Hx := Lib.hid hx
    have hXm : x ∈ l := by
      have := HN.out
      rw [← hx, List.getD_eq_getElem?_getD, List.getElem?_eq_getElem (by omega)]
      exact List.getElem_mem _
    have HCo := Lib.hid (copied_any x w3 (hch.each x hXm) (HTN.out x hXm))
    have wS : IntKind.u64.wrap (S + (m : Int) - 1) = ((Q + m : Nat) : Int) := by rw [IntKind.wrap_u64]; have := HQ.out; have := HN.out; have := HL.out; omega
    have y1 : ((Q + m : Nat) : Int) < (N : Int) := by omega
    have y2 : (0 : Int) ≤ ((Q + m : Nat) : Int) := by omega
    obtain ⟨K, hK⟩ : ∃ K, Q + m = K := ⟨_, rfl⟩
    rw [hK] at wS y1 y2 Hr
    have HK := Lib.hid hK
    clear hch hHs hr hx hXm hK hql
    go_wp2_with (refine wpList_load_mid rfl 35 _ rfl b (off + K * 125) rfl (hdL x.1) _ Hr.out Tryd.underlying35 rfl (by rw [hdL_length]; kernel_rfl) ?_; rw [hdL_arr])
    refine HCo.out.mono ?_
    rintro e w4 ⟨ta, tc, rfl, hown, hE⟩
    have HF4 := Lib.hid (HF3.out.more hE)
    have HT4 := Lib.hid hown
    have H34 := Lib.hid (Below.size HF3.out.ext)
    have HRo := Lib.hid (fun k (e : (Value.slice ao lo.length co).ownBlock = some k) => (HF3.out.own.lt k e).2)
    obtain ⟨A, hA⟩ : ∃ A, hdV (reT x ta tc).1 = A := ⟨_, rfl⟩
    have HAe := Lib.hid hA
    rw [hA]
    have HF11 := Lib.hid (HF4.out.more ((Ext.refl w4).alloc (.cells A 35)))
    have ho11 := HF11.out.own
    rw [HM.out] at ho11
    have HO11 := Lib.hid ho11
    have HQ11 := Lib.hid (show ∀ j, j < 125 → (w4.alloc (.cells A 35)).cell? ⟨w4.heap.size, j, none⟩ = some (hdC (reT x ta tc).1 j) from fun j hj => by
      rw [← HAe.out]
      exact row_cell (heap_new w4 _ _ rfl) j hj)
    have HB11 := Lib.hid (Below.size HF11.out.ext)
    clear hown hE hA ho11 HCo HF3 Hr
    go_wp2_with (first | (refine wp_build_hd1 rfl _ rfl (reT x ta tc).1 A HAe.out rfl ?_) | (at_builtin; refine append_hd rfl _ _ rfl w.heap.size (.slice ao m co) m lo rfl HO11.out w4.heap.size 1 (reT x ta tc) rfl HQ11.out (by have := HL.out; have := HN.out; omega) HB11.out ?_))
    intro v' w12 hown12 hG12 hwh12
    obtain ⟨a3, c3, rfl⟩ := own_hsl hown12
    rw [← HM.out] at hown12 hG12 hwh12
    have hxx : l.getD (Q + lo.length) htN = x := by rw [HM.out]; exact Hx.out
    have HF12 := Lib.hid (show FrAt w w12 l Q (lo ++ [reT x ta tc]) a3 c3 from by
      have h1 := HF11.out.push (a2 := a3) (c2 := c3) (w' := w12) (ta := ta) (tc := tc)
      rw [hxx] at h1
      exact h1 (own_mono (own_ext9 HT4.out ((Ext.refl w4).alloc _)) H34.out) (fun k e e2 => by
        have h2 := (HT4.out.lt k e).1
        have h3 := HRo.out k e2
        omega) hown12 hG12 (by rw [show (w4.alloc (.cells A 35)).heap.size = w4.heap.size + 1 by simp]; exact hwh12))
    have wS2 : IntKind.u64.wrap (S + (m : Int) + 1) = S + (m : Int) + 1 := by rw [IntKind.wrap_u64]; have := HL.out; have := HN.out; omega
    clear hown12 hG12 hwh12 HF11 HO11 HQ11 hxx c1
    go_wp2
    go_roundw
    case rel => exact ⟨lo ++ [reT x ta tc], a3, c3, by rw [List.length_append, HM.out]; rfl, by rw [List.length_append, HM.out]; exact val_int (by simp; omega), HF12.out, Or.inr (by rw [List.length_append, HM.out]; simp; omega), Or.inl (by rw [List.length_append, HM.out]; simp; omega)⟩
    case measure => simp [sliceLen]; omega

end Go.Proofs.YthdgnahokmjkpaaDoor
