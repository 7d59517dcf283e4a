/-
  The walk of control.Bytes. No conditions.
-/
import Derived.Test.YtppidlpblkihbaaDoorCtlQ
import Derived.Test.YtppidlpblkihbaaDoorPack
namespace Go.Proofs.YtppidlpblkihbaaDoor
open Go.ChangeShapes Go.WideShapes Go.ChangeAt Go.RowKit

theorem formedB_bd {op mem cut : Int} {l : Nat → Nat} {hl : Nat} (h : formedB op mem cut l hl = true) : (1 ≤ op ∧ op ≤ 5) ∧ (0 ≤ mem ∧ mem ≤ 6) ∧ cut ≤ 1048576 ∧ (∀ i, i < 6 → l i ≤ 48) ∧ hl ≤ 48 := by
  unfold formedB at h
  rw [Bool.and_eq_true] at h
  obtain ⟨h1, h2⟩ := h
  have hs : ∀ i, i < 6 → l i ≤ 48 := fun i hi => by
    unfold okB at h1
    rw [List.all_eq_true] at h1
    have := h1 i (List.mem_range.2 hi)
    unfold slotB at this
    simp only [Bool.not_false, Bool.true_and, Bool.or_eq_true, decide_eq_true_eq] at this
    omega
  split at h2
  · have h3 := of_decide_eq_true h2
    exact ⟨by omega, by omega, by omega, hs, by omega⟩
  · split at h2
    · have h3 := of_decide_eq_true h2
      exact ⟨by omega, by omega, by omega, hs, by omega⟩
    · split at h2
      · have h3 := of_decide_eq_true h2
        exact ⟨by omega, by omega, by omega, hs, by omega⟩
      · split at h2
        · have h3 := of_decide_eq_true h2
          exact ⟨by omega, by omega, by omega, hs, by omega⟩
        · cases h2

set_option maxHeartbeats 2000000 in
set_option maxRecDepth 100000 in
theorem ctlBytes_bad (op mem cut : Int) (A : Nat → Option Addr) (l C : Nat → Nat) (ha : Option Addr) (hl hc : Nat) (w : World) (hf : formedB op mem cut l hl = false) :
    Calls Tryd.prog 26 #[.agg (ctlV op mem cut (fun i => .slice (A i) (l i) (C i)) (.slice ha hl hc))] w fun e w' => e = .returned (.tuple #[.slice none 0 0, .int .i64 1]) ∧ Ext w w' := by
  obtain ⟨CV, hCV⟩ : ∃ CV, ctlV op mem cut (fun i => .slice (A i) (l i) (C i)) (.slice ha hl hc) = CV := ⟨_, rfl⟩
  have hsz : CV.size = 10 := by rw [← hCV]; rfl
  have HF := Lib.hid (show ∀ w9, Calls Tryd.prog 27 #[.agg CV] w9 fun e w' => e = .returned (.bool false) ∧ Ext w9 w' from fun w9 => by
    have h1 := formed_any op mem cut A l C ha hl hc w9
    rw [hCV, hf] at h1
    exact h1)
  rw [hCV]
  obtain ⟨w2, hw2⟩ : ∃ w2, w.alloc (.cells CV 45) = w2 := ⟨_, rfl⟩
  have hE2 : Ext w w2 := by rw [← hw2]; exact (Ext.refl w).alloc _
  have hB2 : w2.heap[w.heap.size]? = some (.cells CV 45 (0, 0)) := by rw [← hw2]; exact heap_new w _ _ rfl
  have Hw2 := Lib.hid hw2
  have HE2 := Lib.hid hE2
  obtain ⟨g, hg⟩ : ∃ g, w.heap.size = g := ⟨_, rfl⟩
  rw [hg] at hB2
  have HB2 := Lib.hid hB2
  have Hg := Lib.hid hg
  have Hsz := Lib.hid hsz
  clear hw2 hE2 hB2 hg hsz hCV hf
  go_enter Tryd.func26, Tryd.ntmps26
  go_upto_region 1 with (fail)
  refine wp_world (w' := w2) Hw2.out ?_
  rw [Hg.out]
  clear Hw2
  go_wp2_with (refine wpList_load_rowW rfl 45 _ rfl g rfl _ _ _ _ HB2.out Tryd.underlying45 rfl (by rw [Hsz.out]; kernel_rfl) ?_)
  refine (HF.out w2).mono ?_
  rintro e w3 ⟨rfl, hE3⟩
  have HE3 := Lib.hid (HE2.out.trans hE3)
  clear hE3
  go_wp2
  go_ret2
  exact ⟨rfl, HE3.out⟩

set_option maxHeartbeats 4000000 in
set_option maxRecDepth 100000 in
theorem ctlBytes_any (op mem cut : Int) (A : Nat → Option Addr) (l C : Nat → Nat) (ha : Option Addr) (hl hc : Nat) (s : Nat → List Int) (hd : List Int) (w : World) (hf : formedB op mem cut l hl = true) (h0cut : 0 ≤ cut)
    (hs : ∀ i, i < 6 → BsAt w (A i) (l i) (C i) (s i)) (hh : BsAt w ha hl hc hd) :
    Calls Tryd.prog 26 #[.agg (ctlV op mem cut (fun i => .slice (A i) (l i) (C i)) (.slice ha hl hc))] w fun e w' => ∃ q n c, e = .returned (.tuple #[.slice q n c, .int .i64 0]) ∧ BsAt w' q n c (ctlL ⟨op, mem, cut, s, hd⟩) ∧ Ext w w' := by
  obtain ⟨⟨ho1, ho2⟩, ⟨hm1, hm2⟩, hc2, hsl, hhl⟩ := formedB_bd hf
  obtain ⟨CV, hCV⟩ : ∃ CV, ctlV op mem cut (fun i => .slice (A i) (l i) (C i)) (.slice ha hl hc) = CV := ⟨_, rfl⟩
  have hsz : CV.size = 10 := by rw [← hCV]; rfl
  have HF := Lib.hid (show ∀ w9, Calls Tryd.prog 27 #[.agg CV] w9 fun e w' => e = .returned (.bool true) ∧ Ext w9 w' from fun w9 => by
    have h1 := formed_any op mem cut A l C ha hl hc w9
    rw [hCV, hf] at h1
    exact h1)
  rw [hCV]
  obtain ⟨w2, hw2⟩ : ∃ w2, w.alloc (.cells CV 45) = w2 := ⟨_, rfl⟩
  have hE2 : Ext w w2 := by rw [← hw2]; exact (Ext.refl w).alloc _
  have hB2 : w2.heap[w.heap.size]? = some (.cells CV 45 (0, 0)) := by rw [← hw2]; exact heap_new w _ _ rfl
  have Hw2 := Lib.hid hw2
  have HE2 := Lib.hid hE2
  obtain ⟨g, hg⟩ : ∃ g, w.heap.size = g := ⟨_, rfl⟩
  rw [hg] at hB2
  have HB2 := Lib.hid hB2
  have Hg := Lib.hid hg
  have Hsz := Lib.hid hsz
  have HCV := Lib.hid hCV
  have Hs := Lib.hid hs
  have Hh := Lib.hid hh
  have Hsl := Lib.hid hsl
  have wo : IntKind.u64.wrap op = op := by rw [IntKind.wrap_u64]; omega
  have wm : IntKind.u64.wrap mem = mem := by rw [IntKind.wrap_u64]; omega
  have ho := numL_length_le op
  have hm := numL_length_le mem
  have hk := numL_length_le cut
  have hbs : ∀ k, k ≤ 6 → ∀ x ∈ slotsL s k, 0 ≤ x ∧ x < 256 := by
    intro k
    induction k with
    | zero => intro _ x hx; cases hx
    | succ k ih =>
      intro hk x hx
      rw [slotsL, textL] at hx
      rcases List.mem_append.1 hx with h | h
      · exact ih (by omega) x h
      · rcases List.mem_append.1 h with h | h
        · exact numL_byte _ (by omega) x h
        · exact (hs k (by omega)).byte x h
  obtain ⟨P, hP⟩ : ∃ P : Nat → List Int, P = fun k => numL op ++ numL mem ++ numL cut ++ slotsL s k := ⟨_, rfl⟩
  have HP0 := Lib.hid (show P 0 = [] ++ numL op ++ numL mem ++ numL cut by rw [hP]; simp [slotsL])
  have HPs := Lib.hid (show ∀ k, P (k + 1) = P k ++ textL (s k) by intro k; rw [hP]; simp [slotsL])
  have HP6 := Lib.hid (show ctlL ⟨op, mem, cut, s, hd⟩ = P 6 ++ textL hd by rw [hP]; unfold ctlL; simp)
  have HPl := Lib.hid (show ∀ k, k ≤ 6 → (P k).length ≤ 400 by
    intro k hk
    have h1 : (slotsL s k).length ≤ 58 * k := by
      induction k with
      | zero => exact Nat.le_refl _
      | succ k ih =>
        have h1 := ih (by omega)
        have h2 := hsl k (by omega)
        have h4 := (hs k (by omega)).len
        have h3 := numL_length_le ((s k).length : Int)
        rw [slotsL, List.length_append, textL, List.length_append]
        omega
    rw [hP]
    simp only [List.length_append]
    omega)
  have HPb := Lib.hid (show ∀ x ∈ P 6 ++ textL hd, 0 ≤ x ∧ x < 256 by
    intro x hx
    rw [hP, textL] at hx
    simp only [List.mem_append] at hx
    rcases hx with (((h | h) | h) | h) | h | h
    · exact numL_byte op (by omega) x h
    · exact numL_byte mem (by omega) x h
    · exact numL_byte cut (by omega) x h
    · exact hbs 6 (Nat.le_refl _) x h
    · exact numL_byte _ (by omega) x h
    · exact hh.byte x h)
  have hTl : (textL hd).length ≤ 58 := by
    have h1 := hh.len
    have h2 := numL_length_le (hd.length : Int)
    rw [textL, List.length_append]
    omega
  clear hw2 hE2 hB2 hg hsz hCV hf hs hh hsl hbs hP
  go_enter Tryd.func26, Tryd.ntmps26
  go_upto_region 1 with (fail)
  refine wp_world (w' := w2) Hw2.out ?_
  rw [Hg.out]
  clear Hw2
  go_wp2_with (refine wpList_load_rowW rfl 45 _ rfl g rfl _ _ _ _ HB2.out Tryd.underlying45 rfl (by rw [Hsz.out]; kernel_rfl) ?_)
  refine (HF.out w2).mono ?_
  rintro e w3 ⟨rfl, hE3⟩
  have HE3 := Lib.hid (HE2.out.trans hE3)
  have HB3 := Lib.hid (hE3.keep HB2.out)
  clear hE3
  go_upto_region 4 with (fail)
  obtain ⟨w4, hw4⟩ : ∃ w4, w3.alloc (.cells #[.slice none 0 0, .bool false] 83) = w4 := ⟨_, rfl⟩
  have hE4 : Ext w3 w4 := by rw [← hw4]; exact (Ext.refl w3).alloc _
  have hO4 : OutAt w4 w3.heap.size (.slice none 0 0) [] false := by rw [← hw4]; exact out_new w3
  refine wp_world (w' := w4) hw4 ?_
  obtain ⟨gO, hgO⟩ : ∃ g, w3.heap.size = g := ⟨_, rfl⟩
  rw [hgO] at hO4 ⊢
  have HO4 := Lib.hid hO4
  have HE4 := Lib.hid (HE3.out.trans hE4)
  have hB4 := hE4.keep HB3.out
  have hgg : g < w3.heap.size := (Array.getElem?_eq_some_iff.1 HB3.out).1
  have hgne : g ≠ gO := by omega
  have hwg : w.heap.size ≤ gO := by have := Below.size HE3.out; omega
  have HB4 := Lib.hid hB4
  rw [← HCV.out] at hB4
  obtain ⟨c0, c1, c2, c3, c9⟩ := ctl_cell hB4
  have Hgne := Lib.hid hgne
  have Hwg := Lib.hid hwg
  clear hw4 hE4 hO4 hB4 hgg hgne hgO hwg c3 HB2 HB3 HE2 HE3 HF Hg
  go_wp2_with fail
  refine (oNum_any gO _ [] false op w4 HO4.out (by omega) (by omega) (by simp)).mono ?_
  rintro e w5 ⟨rfl, v5, hO5, hS5⟩
  have HO5 := Lib.hid hO5
  have HS5 := Lib.hid hS5
  have hB5 := hS5.keep HB4.out Hgne.out
  rw [← HCV.out] at hB5
  have d1 := (ctl_cell hB5).2.1
  have l5 : ([] ++ numL op).length ≤ 10 := by simpa using ho
  have L5 := Lib.hid l5
  clear hO5 hS5 hB5 c0 c1 c2 c9 l5
  go_wp2_with fail
  refine (oNum_any gO v5 _ false mem w5 HO5.out (by omega) (by omega) (by have := L5.out; omega)).mono ?_
  rintro e w6 ⟨rfl, v6, hO6, hS6⟩
  have HO6 := Lib.hid hO6
  have HS6 := Lib.hid (HS5.out.trans hS6)
  have hB6 := HS6.out.keep HB4.out Hgne.out
  rw [← HCV.out] at hB6
  have d2 := (ctl_cell hB6).2.2.1
  have l6 : ([] ++ numL op ++ numL mem).length ≤ 20 := by simp; omega
  have L6 := Lib.hid l6
  clear hO6 hS6 hB6 d1 l6 HO5 HS5
  go_wp2_with fail
  refine (oNum_any gO v6 _ false cut w6 HO6.out (by omega) (by omega) (by have := L6.out; omega)).mono ?_
  rintro e w7 ⟨rfl, v7, hO7, hS7⟩
  rw [← HP0.out] at hO7
  have HO7 := Lib.hid hO7
  have HS7 := Lib.hid (HS6.out.trans hS7)
  have hB7 := HS7.out.keep HB4.out Hgne.out
  rw [← HCV.out] at hB7
  have H37 := Lib.hid (ctl_cell hB7).2.2.2.1
  clear hO7 hS7 hB7 d2 HO6 HS6
  have hix := fun (w : World) (k : Nat) (hk : k < 6) => index_slot w (fun i => .slice (A i) (l i) (C i)) k hk
  have Hix := Lib.hid hix
  clear hix
  go_wp2_with (refine wp_slots rfl _ rfl g (fun i => .slice (A i) (l i) (C i)) rfl H37.out ?_)
  go_loopw [23] (fun i wr => ∃ (k : Nat) (v : Value), k ≤ 6 ∧ i = .int .i64 (k : Int) ∧ OutAt wr gO v (P k) false ∧ OutStep w4 wr gO (.slice none 0 0) v) (fun i _ => 6 - (intOf i).toNat)
  case atStart => exact ⟨0, v7, by omega, rfl, HO7.out, HS7.out⟩
  case round =>
    obtain ⟨k, v, hk, rfl, hO, hS⟩ := hrel
    have hPl := HPl.out k hk
    have HO := Lib.hid hO
    have HS := Lib.hid hS
    clear hO hS
    by_cases hlt : k < 6
    · have x1 : (k : Int) < 6 := by omega
      have hi := fun w => Hix.out w k hlt
      have hbk := (Hs.out k hlt).outStep HE4.out Hwg.out HS.out
      have hap := (Hs.out k hlt).apart HE4.out Hwg.out HS.out
      have ht := oText_any gO v (P k) (s k) false (A k) (l k) (C k) wr HO.out hbk hap (by have := Hsl.out k hlt; omega) (by omega)
      rw [← HPs.out k] at ht
      have HT := Lib.hid ht
      clear hbk hap ht
      go_wp2_with fail
      refine HT.out.mono ?_
      rintro e w8 ⟨rfl, v8, hO8, hS8⟩
      have HO8 := Lib.hid hO8
      have HS8 := Lib.hid (HS.out.trans hS8)
      clear hO8 hS8 HT
      go_wp2
      go_roundw
      case rel => exact ⟨k + 1, v8, by omega, by go_num, HO8.out, HS8.out⟩
      case measure => simp [intOf]; omega
    · obtain rfl : k = 6 := by omega
      have hbk := Hh.out.outStep HE4.out Hwg.out HS.out
      have hap := Hh.out.apart HE4.out Hwg.out HS.out
      have ht := oText_any gO v (P 6) hd false ha hl hc wr HO.out hbk hap (by omega) (by omega)
      have HT := Lib.hid ht
      have hBr := HS.out.keep HB4.out Hgne.out
      rw [← HCV.out] at hBr
      have d9 := (ctl_cell hBr).2.2.2.2
      clear hbk hap ht hBr
      go_wp2_with fail
      refine HT.out.mono ?_
      rintro e w8 ⟨rfl, v8, hO8, hS8⟩
      have HS8 := Lib.hid (HS.out.trans hS8)
      have HEn := Lib.hid (oEnd_any gO v8 (P 6 ++ textL hd) w8 hO8 HPb.out (by rw [List.length_append]; omega))
      clear hO8 hS8 HT d9
      go_wp2_with fail
      refine HEn.out.mono ?_
      rintro e w9 ⟨q, cq, rfl, hbq, hE9⟩
      obtain ⟨N, hN⟩ : ∃ N, (P 6 ++ textL hd).length = N := ⟨_, rfl⟩
      rw [hN] at hbq ⊢
      rw [← HP6.out] at hbq
      have HBQ := Lib.hid hbq
      have HE9 := Lib.hid (OutStep.ext HE4.out (HS8.out.then hE9) Hwg.out (fun r e => by simp [Value.ownBlock] at e))
      clear hbq hE9 hN
      go_wp2
      go_ret2
      exact ⟨q, _, cq, rfl, HBQ.out, HE9.out⟩

end Go.Proofs.YtppidlpblkihbaaDoor
