/-
  The walk of jalousieref12.Core: a formed header's bytes but the code. No conditions but formed.
  The walk of jalousieref12.Bytes. No conditions.
-/
import Derived.Test.YtihlpfdhallfpaaDoorHdL
import Derived.Test.YtihlpfdhallfpaaDoorPackO
import Derived.Test.YtihlpfdhallfpaaDoorSorted
import Derived.Test.YtihlpfdhallfpaaDoorRefHdF
namespace Go.Proofs.YtihlpfdhallfpaaDoor
open Go.ChangeAt Go.ChangeShapes Go.RowKit Go.WideShapes

theorem own_q {w : World} {B n m : Nat} {v : Value} {xs ys Q : List Int} (h : w.ownsRow B 5 1 v (n + m) (bv (xs ++ ys))) (hQ : Q = xs ++ ys) (hn : xs.length = n) (hm : ys.length = m) : w.ownsRow B 5 1 v Q.length (bv Q) := by
  subst hQ hn hm
  rw [List.length_append]
  exact h
theorem own_ext {w w' : World} {B e size n : Nat} {v : Value} {xs : List Value} (h : w.ownsRow B e size v n xs) (hE : Ext w w') : w'.ownsRow B e size v n xs :=
  h.kept (grown_ext hE none) (by cases hv : (Value.ownBlock v) <;> simp)
theorem num_bs {w : World} {B c : Nat} {a : Option Addr} {x : Int} (h : w.ownsRow B 5 1 (.slice a (numL x).length c) (numL x).length (bv (numL x))) (h0 : 0 ≤ x) (hc : c ≤ maxLen) : BsAt w a (numL x).length c (numL x) :=
  owns_bs h (numL_byte x h0) (by unfold maxLen at hc; omega) (by have := numL_length_le x; omega)
theorem ln_bs {w : World} {g off n : Nat} {f : Nat → Int} (hc : ∀ i, i < n → w.cell? ⟨g, off + i, none⟩ = some (.int .u8 (f i))) (hf : ∀ i, i < n → 0 ≤ f i ∧ f i < 256) (hn : n ≤ 1000) : BsAt w (some ⟨g, off, none⟩) n n (ln n f) := bs_cells hc hf hn
theorem tok_bs {w : World} {a : Option Addr} {n c : Nat} {ts : List (Nat → Int)} (h : TsAt w a n c ts) (k : Nat) (hk : k < n) : ∃ b off, a = some ⟨b, off, none⟩ ∧ BsAt w (some ⟨b, off + k * 16, none⟩) 16 16 (ln 16 (ts.getD k fun _ => 0)) := by
  obtain ⟨b, off, ha, hc⟩ := h.at_ (by omega)
  exact ⟨b, off, ha, bs_cells (fun j hj => hc k hk j hj) (h.tok k hk) (by omega)⟩

set_option maxHeartbeats 4000000 in
set_option maxRecDepth 100000 in
theorem refCore_any (h : Hd) (ts : List (Nat → Int)) (w : World) (ho : HdOk h) (ht : TsAt w h.ta h.tn h.tc ts) (hf : hdB h ts = true) :
    Calls Tryd.prog 53 #[.agg (hdV h)] w fun e w' => ∃ v, e = .returned v ∧ w'.ownsRow w.heap.size 5 1 v (coreL h ts).length (bv (coreL h ts)) ∧ Ext w w' := by
  obtain ⟨⟨b1, b1'⟩, ⟨b2, b2'⟩, ⟨b3, b3'⟩, b4, b5, ⟨b6, b6'⟩, b7⟩ := hdB_bd hf
  have b40 := ho.time.1
  have Hkn := Lib.hid ho.knows
  have HPr := Lib.hid ho.prev
  have HIt := Lib.hid ho.item
  have HSu := Lib.hid ho.sum
  have HT := Lib.hid ht
  have hlen := ht.len
  have HTl := Lib.hid hlen
  have wW : IntKind.u64.wrap h.writer = h.writer := by rw [IntKind.wrap_u64]; omega
  have wE : IntKind.u64.wrap h.epoch = h.epoch := by rw [IntKind.wrap_u64]; omega
  have wS : IntKind.u64.wrap h.size = h.size := by rw [IntKind.wrap_u64]; omega
  have wN : IntKind.u64.wrap (h.tn : Int) = (h.tn : Int) := by rw [IntKind.wrap_u64]; omega
  obtain ⟨w2, hw2⟩ : ∃ w2, w.alloc (.cells (hdV h) 34) = w2 := ⟨_, rfl⟩
  have hE2 : Ext w w2 := by rw [← hw2]; exact (Ext.refl w).alloc _
  have hB2 : w2.heap[w.heap.size]? = some (.cells (hdV h) 34 (0, 0)) := by rw [← hw2]; exact heap_new w _ _ rfl
  have Hw2 := Lib.hid hw2
  have HE2 := Lib.hid hE2
  obtain ⟨g, hg⟩ : ∃ g, w.heap.size = g := ⟨_, rfl⟩
  rw [hg] at hB2
  have HB2 := Lib.hid hB2
  have Hg := Lib.hid hg
  obtain ⟨Q1, hQ1⟩ : ∃ Q, numL h.writer = Q := ⟨_, rfl⟩
  obtain ⟨Q2, hQ2⟩ : ∃ Q, Q1 ++ numL h.seq = Q := ⟨_, rfl⟩
  obtain ⟨Q3, hQ3⟩ : ∃ Q, Q2 ++ ln 32 h.prev = Q := ⟨_, rfl⟩
  obtain ⟨Q4, hQ4⟩ : ∃ Q, Q3 ++ numL h.epoch = Q := ⟨_, rfl⟩
  obtain ⟨Q5, hQ5⟩ : ∃ Q, Q4 ++ [if h.ctl then 1 else 0] = Q := ⟨_, rfl⟩
  obtain ⟨Q6, hQ6⟩ : ∃ Q, Q5 ++ numL h.time = Q := ⟨_, rfl⟩
  obtain ⟨Q7, hQ7⟩ : ∃ Q, Q6 ++ ln 16 h.item = Q := ⟨_, rfl⟩
  obtain ⟨Q8, hQ8⟩ : ∃ Q, Q7 ++ numL (h.tn : Int) = Q := ⟨_, rfl⟩
  obtain ⟨Q9, hQ9⟩ : ∃ Q, Q8 ++ toksL ts h.tn = Q := ⟨_, rfl⟩
  obtain ⟨Q10, hQ10⟩ : ∃ Q, Q9 ++ knL h.knows 6 = Q := ⟨_, rfl⟩
  obtain ⟨Q11, hQ11⟩ : ∃ Q, Q10 ++ ln 32 h.sum = Q := ⟨_, rfl⟩
  obtain ⟨Q12, hQ12⟩ : ∃ Q, Q11 ++ numL h.size = Q := ⟨_, rfl⟩
  have hR : coreL h ts = Q12 := by rw [← hQ12, ← hQ11, ← hQ10, ← hQ9, ← hQ8, ← hQ7, ← hQ6, ← hQ5, ← hQ4, ← hQ3, ← hQ2, ← hQ1]; rfl
  rw [hR]
  have l1 := numL_length_le h.writer
  have l2 := numL_length_le h.seq
  have l4 := numL_length_le h.epoch
  have l6 := numL_length_le h.time
  have l8 := numL_length_le (h.tn : Int)
  have l9 := toksL_length ts h.tn
  have l10 := knL_le h.knows 6
  have l12 := numL_length_le h.size
  have k1 : Q1.length ≤ 10 := by rw [← hQ1]; omega
  have k2 : Q2.length ≤ 20 := by rw [← hQ2, List.length_append]; first | omega | (rw [ln_length]; omega) | (simp only [List.length_cons, List.length_nil]; omega)
  have k3 : Q3.length ≤ 52 := by rw [← hQ3, List.length_append]; first | omega | (rw [ln_length]; omega) | (simp only [List.length_cons, List.length_nil]; omega)
  have k4 : Q4.length ≤ 62 := by rw [← hQ4, List.length_append]; first | omega | (rw [ln_length]; omega) | (simp only [List.length_cons, List.length_nil]; omega)
  have k5 : Q5.length ≤ 63 := by rw [← hQ5, List.length_append]; first | omega | (rw [ln_length]; omega) | (simp only [List.length_cons, List.length_nil]; omega)
  have k6 : Q6.length ≤ 73 := by rw [← hQ6, List.length_append]; first | omega | (rw [ln_length]; omega) | (simp only [List.length_cons, List.length_nil]; omega)
  have k7 : Q7.length ≤ 89 := by rw [← hQ7, List.length_append]; first | omega | (rw [ln_length]; omega) | (simp only [List.length_cons, List.length_nil]; omega)
  have k8 : Q8.length ≤ 99 := by rw [← hQ8, List.length_append]; first | omega | (rw [ln_length]; omega) | (simp only [List.length_cons, List.length_nil]; omega)
  have k9 : Q9.length ≤ 227 := by rw [← hQ9, List.length_append]; first | omega | (rw [ln_length]; omega) | (simp only [List.length_cons, List.length_nil]; omega)
  have k10 : Q10.length ≤ 287 := by rw [← hQ10, List.length_append]; first | omega | (rw [ln_length]; omega) | (simp only [List.length_cons, List.length_nil]; omega)
  have k11 : Q11.length ≤ 319 := by rw [← hQ11, List.length_append]; first | omega | (rw [ln_length]; omega) | (simp only [List.length_cons, List.length_nil]; omega)
  have k12 : Q12.length ≤ 329 := by rw [← hQ12, List.length_append]; first | omega | (rw [ln_length]; omega) | (simp only [List.length_cons, List.length_nil]; omega)
  have HQ1 := Lib.hid hQ1.symm
  have HQ2 := Lib.hid hQ2.symm
  have HQ3 := Lib.hid hQ3.symm
  have HQ4 := Lib.hid hQ4.symm
  have HQ5 := Lib.hid hQ5.symm
  have HQ6 := Lib.hid hQ6.symm
  have HQ7 := Lib.hid hQ7.symm
  have HQ8 := Lib.hid hQ8.symm
  have HQ9 := Lib.hid hQ9.symm
  have HQ10 := Lib.hid hQ10.symm
  have HQ11 := Lib.hid hQ11.symm
  have HQ12 := Lib.hid hQ12.symm
  clear hR l1 l2 l4 l6 l8 l9 l10 l12 hw2 hE2 hB2 hg ho ht hf hlen hQ1 hQ2 hQ3 hQ4 hQ5 hQ6 hQ7 hQ8 hQ9 hQ10 hQ11 hQ12
  obtain ⟨S2, hS2⟩ : ∃ s, w2.heap.size = s := ⟨_, rfl⟩
  have HS2 := Lib.hid hS2
  clear hS2
  go_enter Tryd.func53, Tryd.ntmps53
  go_upto_region 1 with (fail)
  refine wp_world (w' := w2) Hw2.out ?_
  rw [Hg.out]
  clear Hw2
  have cN := hd_writer ((Ext.refl w2).keep HB2.out)
  go_wp2_with fail
  refine (refNum_any h.writer (by omega) (by omega) w2).mono ?_
  rintro e w3 ⟨v3, rfl, ownA, hEA⟩
  obtain ⟨a3, c3, rfl, hc1, hc2⟩ := owns_slice ownA
  have HB3 := Lib.hid (num_bs ownA (by omega) hc2)
  have HE3 := Lib.hid (Ext.trans (Ext.refl w2) hEA)
  have HO3 := Lib.hid (show w3.ownsRow w2.heap.size 5 1 (.slice a3 Q1.length c3) Q1.length (bv Q1) by rw [HQ1.out]; exact ownA)
  have hl : (numL h.writer).length = Q1.length := by rw [HQ1.out]
  rw [hl]
  clear hl
  clear cN ownA hEA hc1 hc2 HB3
  have cN := hd_seq (HE3.out.keep HB2.out)
  go_wp2_with fail
  refine (refNum_any h.seq (by omega) (by omega) w3).mono ?_
  rintro e w4 ⟨v4, rfl, ownA, hEA⟩
  obtain ⟨a4, c4, rfl, hc1, hc2⟩ := owns_slice ownA
  have HB4 := Lib.hid (num_bs ownA (by omega) hc2)
  have HE4 := Lib.hid (Ext.trans HE3.out hEA)
  have HO4 := Lib.hid (own_ext HO3.out hEA)
  have hsz := Below.size HE4.out
  obtain ⟨N4, hN4⟩ : ∃ N, (numL h.seq).length = N := ⟨_, rfl⟩
  have hNl := numL_length_le h.seq
  rw [hN4] at HB4 hNl ⊢
  have HN4 := Lib.hid hN4
  clear cN ownA hEA hc1 hc2 hN4
  go_wp2_with (at_builtin; refine append_bsG rfl _ _ rfl w2.heap.size _ Q1.length Q1 rfl HO4.out a4 N4 c4 (numL h.seq) rfl HB4.out (by omega) hsz ?_)
  intro v5 w5 hown hB _
  have hown2 := own_q hown HQ2.out rfl HN4.out
  obtain ⟨a5, c5, rfl, _, _⟩ := owns_slice hown2
  have HO5 := Lib.hid hown2
  have HE5 := Lib.hid (Ext.trans' HE4.out hB)
  clear hown hown2 hB hsz hNl HB4 HN4 HO4
  have HBx := Lib.hid (ln_bs (hd_prev (HE5.out.keep HB2.out)) HPr.out (by omega))
  have hsz := Below.size HE5.out
  go_wp2_with (at_builtin; refine append_bsG rfl _ _ rfl w2.heap.size _ Q2.length Q2 rfl HO5.out (some ⟨g, 2, none⟩) 32 32 (ln 32 h.prev) rfl HBx.out (by omega) hsz ?_)
  intro v6 w6 hown hB _
  have hown2 := own_q hown HQ3.out rfl (ln_length _ _)
  obtain ⟨a6, c6, rfl, _, _⟩ := owns_slice hown2
  have HO6 := Lib.hid hown2
  have HE6 := Lib.hid (Ext.trans' HE5.out hB)
  clear hown hown2 hB hsz HBx
  have cN := hd_epoch (HE6.out.keep HB2.out)
  go_wp2_with fail
  refine (refNum_any h.epoch (by omega) (by omega) w6).mono ?_
  rintro e w7 ⟨v7, rfl, ownA, hEA⟩
  obtain ⟨a7, c7, rfl, hc1, hc2⟩ := owns_slice ownA
  have HB7 := Lib.hid (num_bs ownA (by omega) hc2)
  have HE7 := Lib.hid (Ext.trans HE6.out hEA)
  have HO7 := Lib.hid (own_ext HO6.out hEA)
  have hsz := Below.size HE7.out
  obtain ⟨N7, hN7⟩ : ∃ N, (numL h.epoch).length = N := ⟨_, rfl⟩
  have hNl := numL_length_le h.epoch
  rw [hN7] at HB7 hNl ⊢
  have HN7 := Lib.hid hN7
  clear cN ownA hEA hc1 hc2 hN7
  go_wp2_with (at_builtin; refine append_bsG rfl _ _ rfl w2.heap.size _ Q3.length Q3 rfl HO7.out a7 N7 c7 (numL h.epoch) rfl HB7.out (by omega) hsz ?_)
  intro v8 w8 hown hB _
  have hown2 := own_q hown HQ4.out rfl HN7.out
  obtain ⟨a8, c8, rfl, _, _⟩ := owns_slice hown2
  have HO8 := Lib.hid hown2
  have HE8 := Lib.hid (Ext.trans' HE7.out hB)
  clear hown hown2 hB hsz hNl HB7 HN7 HO7
  have c35 := hd_ctl (HE8.out.keep HB2.out)
  obtain ⟨ctl, hctl⟩ : ∃ x, h.ctl = x := ⟨_, rfl⟩
  have Hctl := Lib.hid hctl
  rw [hctl] at c35
  clear hctl
  go_upto_if 27 with (fail)
  go_cut [4] (fun v wc => v = .int .u8 (if ctl then 1 else 0) ∧ wc = w8)
  case first =>
    cases ctl with
    | false =>
      go_wp2
      go_meet
      case rel => exact ⟨rfl, by first | rfl | trivial⟩
    | true =>
      go_wp2
      go_meet
      case rel => exact ⟨rfl, by first | rfl | trivial⟩
  case rest =>
  obtain ⟨rfl, hwd⟩ := hcut
  subst hwd
  clear c35
  obtain ⟨Z, hZ⟩ : ∃ z : Int, (if ctl then 1 else 0) = z := ⟨_, rfl⟩
  have HQ5' := Lib.hid (show Q5 = Q4 ++ [Z] by rw [HQ5.out, Hctl.out, hZ])
  rw [hZ]
  clear hZ
  have hszc := Below.size HE8.out
  go_wp2_with (at_builtin; refine append_byte rfl _ _ rfl w2.heap.size _ Q4.length Q4 rfl (HO8.out.alloc _) wc.heap.size Z rfl (new_cell _ _ _) (by omega) (by simp; omega) ?_)
  intro v20 w20 hown hB
  have hown2 := own_q hown HQ5'.out rfl rfl
  obtain ⟨a20, c20, rfl, _, _⟩ := owns_slice hown2
  have HO20 := Lib.hid hown2
  have HE20 := Lib.hid (Ext.trans' (HE8.out.alloc _) hB)
  clear hown hown2 hB hszc
  have cN := hd_time (HE20.out.keep HB2.out)
  go_wp2_with fail
  refine (refNum_any h.time (by omega) (by omega) w20).mono ?_
  rintro e w21 ⟨v21, rfl, ownA, hEA⟩
  obtain ⟨a21, c21, rfl, hc1, hc2⟩ := owns_slice ownA
  have HB21 := Lib.hid (num_bs ownA (by omega) hc2)
  have HE21 := Lib.hid (Ext.trans HE20.out hEA)
  have HO21 := Lib.hid (own_ext HO20.out hEA)
  have hsz := Below.size HE21.out
  obtain ⟨N21, hN21⟩ : ∃ N, (numL h.time).length = N := ⟨_, rfl⟩
  have hNl := numL_length_le h.time
  rw [hN21] at HB21 hNl ⊢
  have HN21 := Lib.hid hN21
  clear cN ownA hEA hc1 hc2 hN21
  go_wp2_with (at_builtin; refine append_bsG rfl _ _ rfl w2.heap.size _ Q5.length Q5 rfl HO21.out a21 N21 c21 (numL h.time) rfl HB21.out (by omega) hsz ?_)
  intro v22 w22 hown hB _
  have hown2 := own_q hown HQ6.out rfl HN21.out
  obtain ⟨a22, c22, rfl, _, _⟩ := owns_slice hown2
  have HO22 := Lib.hid hown2
  have HE22 := Lib.hid (Ext.trans' HE21.out hB)
  clear hown hown2 hB hsz hNl HB21 HN21 HO21
  have HBx := Lib.hid (ln_bs (hd_item (HE22.out.keep HB2.out)) HIt.out (by omega))
  have hsz := Below.size HE22.out
  go_wp2_with (at_builtin; refine append_bsG rfl _ _ rfl w2.heap.size _ Q6.length Q6 rfl HO22.out (some ⟨g, 37, none⟩) 16 16 (ln 16 h.item) rfl HBx.out (by omega) hsz ?_)
  intro v23 w23 hown hB _
  have hown2 := own_q hown HQ7.out rfl (ln_length _ _)
  obtain ⟨a23, c23, rfl, _, _⟩ := owns_slice hown2
  have HO23 := Lib.hid hown2
  have HE23 := Lib.hid (Ext.trans' HE22.out hB)
  clear hown hown2 hB hsz HBx
  have cN := hd_toks (HE23.out.keep HB2.out)
  go_wp2_with fail
  refine (refNum_any (h.tn : Int) (by omega) (by omega) w23).mono ?_
  rintro e w24 ⟨v24, rfl, ownA, hEA⟩
  obtain ⟨a24, c24, rfl, hc1, hc2⟩ := owns_slice ownA
  have HB24 := Lib.hid (num_bs ownA (by omega) hc2)
  have HE24 := Lib.hid (Ext.trans HE23.out hEA)
  have HO24 := Lib.hid (own_ext HO23.out hEA)
  have hsz := Below.size HE24.out
  obtain ⟨N24, hN24⟩ : ∃ N, (numL (h.tn : Int)).length = N := ⟨_, rfl⟩
  have hNl := numL_length_le (h.tn : Int)
  rw [hN24] at HB24 hNl ⊢
  have HN24 := Lib.hid hN24
  clear cN ownA hEA hc1 hc2 hN24
  go_wp2_with (at_builtin; refine append_bsG rfl _ _ rfl w2.heap.size _ Q7.length Q7 rfl HO24.out a24 N24 c24 (numL (h.tn : Int)) rfl HB24.out (by omega) hsz ?_)
  intro v25 w25 hown hB _
  have hown2 := own_q hown HQ8.out rfl HN24.out
  obtain ⟨a25, c25, rfl, _, _⟩ := owns_slice hown2
  have HO25 := Lib.hid hown2
  have HE25 := Lib.hid (Ext.trans' HE24.out hB)
  clear hown hown2 hB hsz hNl HB24 HN24 HO24
  have HP0 := Lib.hid (show Q8 ++ toksL ts 0 = Q8 from by rw [toksL, List.append_nil])
  obtain ⟨P, hP⟩ : ∃ P : Nat → List Int, P = fun k => Q8 ++ toksL ts k := ⟨_, rfl⟩
  have HPs := Lib.hid (show ∀ k, P (k + 1) = P k ++ ln 16 (ts.getD k fun _ => 0) by intro k; rw [hP]; simp [toksL])
  have HPn := Lib.hid (show Q9 = P h.tn by rw [hP]; exact HQ9.out)
  have HPl := Lib.hid (show ∀ k, k ≤ 8 → (P k).length ≤ 227 by intro k hk; rw [hP]; simp only [List.length_append, toksL_length]; omega)
  have HPz := Lib.hid (show Q8 = P 0 by rw [hP]; exact HP0.out.symm)
  clear hP
  have HO30 := Lib.hid (show w25.ownsRow w2.heap.size 5 1 (.slice a25 Q8.length c25) (P 0).length (bv (P 0)) by rw [← HPz.out]; exact HO25.out)
  go_wp2
  go_loopw [5, 3] (fun i v wr => ∃ k : Nat, k ≤ h.tn ∧ i = .int .i64 (k : Int) ∧ wr.ownsRow w2.heap.size 5 1 v (P k).length (bv (P k)) ∧ Ext w2 wr) (fun i _ _ => h.tn - (intOf i).toNat)
  case atStart => exact ⟨0, by omega, rfl, HO30.out, HE25.out⟩
  case round =>
    obtain ⟨k, hk, rfl, hown, hE⟩ := hrel
    obtain ⟨ak, ck, rfl, _, _⟩ := owns_slice hown
    have c53 := hd_toks (hE.keep HB2.out)
    have HO := Lib.hid hown
    have HE := Lib.hid hE
    have hpl := HPl.out k (by omega)
    clear hown hE HO30
    by_cases hlt : k < h.tn
    · have x1 : (k : Int) < (h.tn : Int) := by omega
      obtain ⟨bt, offt, hta, htk⟩ := tok_bs (HT.out.ext (HE2.out.trans HE.out)) k hlt
      rw [hta] at c53
      have HBk := Lib.hid htk
      have hsz := Below.size HE.out
      have x2 : (0 : Int) ≤ (k : Int) := by omega
      clear hta htk
      go_wp2_with (at_builtin; refine append_bsG rfl _ _ rfl w2.heap.size _ (P k).length (P k) rfl HO.out (some ⟨bt, offt + k * 16, none⟩) 16 16 (ln 16 (ts.getD k fun _ => 0)) rfl HBk.out (by omega) hsz ?_)
      intro v1 w1 hown hB _
      have HO1 := Lib.hid (own_q hown (HPs.out k) rfl (ln_length _ _))
      have HE1 := Lib.hid (Ext.trans' HE.out hB)
      clear hown hB
      go_wp2
      go_roundw
      case rel => exact ⟨k + 1, by omega, by go_num, HO1.out, HE1.out⟩
      case measure => simp [intOf]; omega
    · obtain rfl : k = h.tn := by omega
      have x1 : ¬ (h.tn : Int) < (h.tn : Int) := by omega
      have HO40 := Lib.hid (show wr.ownsRow w2.heap.size 5 1 (.slice ak (P h.tn).length ck) (P h.tn).length (bv (P h.tn)) from HO.out)
      obtain ⟨K, hK⟩ : ∃ K : Nat → List Int, K = fun k => Q9 ++ knL h.knows k := ⟨_, rfl⟩
      have HKs := Lib.hid (show ∀ k, K (k + 1) = K k ++ numL (h.knows k) by intro k; rw [hK]; simp [knL])
      have HKn := Lib.hid (show Q10 = K 6 by rw [hK]; exact HQ10.out)
      have HKl := Lib.hid (show ∀ k, k ≤ 6 → (K k).length ≤ 287 by intro k hk; rw [hK]; simp only [List.length_append]; have := knL_le h.knows k; omega)
      have HKz := Lib.hid (show P h.tn = K 0 by rw [hK, ← HPn.out]; simp [knL])
      clear hK
      go_wp2
      go_loopw [6, 3] (fun i v wr => ∃ k : Nat, k ≤ 6 ∧ i = .int .i64 (k : Int) ∧ wr.ownsRow w2.heap.size 5 1 v (K k).length (bv (K k)) ∧ Ext w2 wr) (fun i _ _ => 6 - (intOf i).toNat)
      case atStart => exact ⟨0, by omega, rfl, by rw [← HKz.out]; exact HO40.out, HE.out⟩
      case round =>
        obtain ⟨k, hk, rfl, hown, hE⟩ := hrel
        obtain ⟨al, cl, rfl, _, _⟩ := owns_slice hown
        have hkl := HKl.out k hk
        have HOk := Lib.hid hown
        have HEk := Lib.hid hE
        clear hown hE HO40 HO HE
        by_cases hlt : k < 6
        · have x2 : (k : Int) < 6 := by omega
          have ck := hd_knows (HEk.out.keep HB2.out) k hlt
          have hk0 := (Hkn.out k hlt).1
          have hk1 := (Hkn.out k hlt).2
          go_wp2_with fail
          refine (refNum_any (h.knows k) hk0 hk1 wr).mono ?_
          rintro e wA ⟨vA, rfl, ownA, hEA⟩
          obtain ⟨aA, cA, rfl, hc1, hc2⟩ := owns_slice ownA
          have HBA := Lib.hid (num_bs ownA hk0 hc2)
          have HEA := Lib.hid (Ext.trans HEk.out hEA)
          have HOA := Lib.hid (own_ext HOk.out hEA)
          have hsz := Below.size HEA.out
          obtain ⟨NA, hNA⟩ : ∃ N, (numL (h.knows k)).length = N := ⟨_, rfl⟩
          have hNl := numL_length_le (h.knows k)
          rw [hNA] at HBA hNl ⊢
          have HNA := Lib.hid hNA
          clear ck ownA hEA hc1 hc2 hNA
          go_wp2_with (at_builtin; refine append_bsG rfl _ _ rfl w2.heap.size _ (K k).length (K k) rfl HOA.out aA NA cA (numL (h.knows k)) rfl HBA.out (by omega) hsz ?_)
          intro v1 w1 hown hB _
          have HO1 := Lib.hid (own_q hown (HKs.out k) rfl HNA.out)
          have HE1 := Lib.hid (Ext.trans' HEA.out hB)
          clear hown hB
          go_wp2
          go_roundw
          case rel => exact ⟨k + 1, by omega, by go_num, HO1.out, HE1.out⟩
          case measure => simp [intOf]; omega
        · obtain rfl : k = 6 := by omega
          have HO50 := Lib.hid (show wr.ownsRow w2.heap.size 5 1 (.slice al Q10.length cl) Q10.length (bv Q10) by rw [HKn.out]; exact HOk.out)
          have hK6 := HKn.out
          rw [← hK6]
          clear hK6 HKs HKl HKz HKn HOk HPs HPl hkl
          have HBx := Lib.hid (ln_bs (hd_sum (HEk.out.keep HB2.out)) HSu.out (by omega))
          have hsz := Below.size HEk.out
          go_wp2_with (at_builtin; refine append_bsG rfl _ _ rfl w2.heap.size _ Q10.length Q10 rfl HO50.out (some ⟨g, 60, none⟩) 32 32 (ln 32 h.sum) rfl HBx.out (by omega) hsz ?_)
          intro v61 w61 hown hB _
          have hown2 := own_q hown HQ11.out rfl (ln_length _ _)
          obtain ⟨a61, c61, rfl, _, _⟩ := owns_slice hown2
          have HO61 := Lib.hid hown2
          have HE61 := Lib.hid (Ext.trans' HEk.out hB)
          clear hown hown2 hB hsz HBx
          have cN := hd_size (HE61.out.keep HB2.out)
          go_wp2_with fail
          refine (refNum_any h.size (by omega) (by omega) w61).mono ?_
          rintro e w62 ⟨v62, rfl, ownA, hEA⟩
          obtain ⟨a62, c62, rfl, hc1, hc2⟩ := owns_slice ownA
          have HB62 := Lib.hid (num_bs ownA (by omega) hc2)
          have HE62 := Lib.hid (Ext.trans HE61.out hEA)
          have HO62 := Lib.hid (own_ext HO61.out hEA)
          have hsz := Below.size HE62.out
          obtain ⟨N62, hN62⟩ : ∃ N, (numL h.size).length = N := ⟨_, rfl⟩
          have hNl := numL_length_le h.size
          rw [hN62] at HB62 hNl ⊢
          have HN62 := Lib.hid hN62
          clear cN ownA hEA hc1 hc2 hN62
          go_wp2_with (at_builtin; refine append_bsG rfl _ _ rfl w2.heap.size _ Q11.length Q11 rfl HO62.out a62 N62 c62 (numL h.size) rfl HB62.out (by omega) hsz ?_)
          intro v63 w63 hown hB _
          have hown2 := own_q hown HQ12.out rfl HN62.out
          obtain ⟨a63, c63, rfl, _, _⟩ := owns_slice hown2
          have HO63 := Lib.hid hown2
          have HE63 := Lib.hid (Ext.trans' HE62.out hB)
          clear hown hown2 hB hsz hNl HB62 HN62 HO62
          go_wp2
          go_ret
          exact ⟨_, rfl, own_mono HO63.out (Below.size HE2.out), HE2.out.trans HE63.out⟩

set_option maxHeartbeats 2000000 in
set_option maxRecDepth 100000 in
theorem refHdBytes_any (h : Hd) (ts : List (Nat → Int)) (w : World) (ho : HdOk h) (ht : TsAt w h.ta h.tn h.tc ts) :
    Calls Tryd.prog 35 #[.agg (hdV h)] w fun e w' => ∃ v, e = .returned v ∧ w'.ownsRow w.heap.size 5 1 v (bytesL h ts).length (bv (bytesL h ts)) ∧ Ext w w' := by
  obtain ⟨w2, hw2⟩ : ∃ w2, w.alloc (.cells (hdV h) 34) = w2 := ⟨_, rfl⟩
  have hE2 : Ext w w2 := by rw [← hw2]; exact (Ext.refl w).alloc _
  have hB2 : w2.heap[w.heap.size]? = some (.cells (hdV h) 34 (0, 0)) := by rw [← hw2]; exact heap_new w _ _ rfl
  have HF := Lib.hid (refHd_any h ts w2 ho (ht.ext hE2))
  have Hw2 := Lib.hid hw2
  have HE2 := Lib.hid hE2
  obtain ⟨g, hg⟩ : ∃ g, w.heap.size = g := ⟨_, rfl⟩
  rw [hg] at hB2
  have HB2 := Lib.hid hB2
  have Hg := Lib.hid hg
  have Ho := Lib.hid ho
  have HT := Lib.hid ht
  have Hsz := Lib.hid (hdV_size h)
  cases hf : hdB h ts with
  | false =>
    rw [hf] at HF
    have HL := Lib.hid (show bytesL h ts = [] by unfold bytesL; rw [hf]; rfl)
    clear hw2 hE2 hB2 hg ho ht hf
    go_enter Tryd.func35, Tryd.ntmps35
    go_upto_region 1 with (fail)
    refine wp_world (w' := w2) Hw2.out ?_
    rw [Hg.out]
    clear Hw2
    go_wp2_with (refine wpList_load_rowW rfl 34 _ rfl g rfl _ _ _ _ HB2.out Tryd.underlying34 rfl (by rw [Hsz.out]; kernel_rfl) ?_)
    refine HF.out.mono ?_
    rintro e w3 ⟨rfl, hE⟩
    have HE3 := Lib.hid (HE2.out.trans hE)
    clear hE
    go_wp2
    go_ret
    refine ⟨_, rfl, ?_, HE3.out⟩
    rw [HL.out]
    exact World.ownsRow_nil _ _ _ _
  | true =>
    rw [hf] at HF
    have HLb := Lib.hid (coreL_byte hf ho ht.len ht.byte)
    have HLl := Lib.hid (coreL_le hf)
    have HCo := Lib.hid (show ∀ w9, Ext w w9 → Calls Tryd.prog 53 #[.agg (hdV h)] w9 fun e w' => ∃ v, e = .returned v ∧ w'.ownsRow w9.heap.size 5 1 v (coreL h ts).length (bv (coreL h ts)) ∧ Ext w9 w' from fun w9 h9 => refCore_any h ts w9 ho (ht.ext h9) hf)
    have HL := Lib.hid (show bytesL h ts = coreL h ts ++ ln 32 h.code by unfold bytesL; rw [hf]; rfl)
    obtain ⟨CL, hCL⟩ : ∃ CL, coreL h ts = CL := ⟨_, rfl⟩
    rw [hCL] at HLb HLl HCo HL
    obtain ⟨A, hA⟩ : ∃ A, hdV h = A := ⟨_, rfl⟩
    have HA := Lib.hid hA
    rw [hA] at HCo Hsz HF Hw2 HB2 ⊢
    clear hw2 hE2 hB2 hg ho ht hf hCL hA
    go_enter Tryd.func35, Tryd.ntmps35
    go_upto_region 1 with (fail)
    refine wp_world (w' := w2) Hw2.out ?_
    rw [Hg.out]
    clear Hw2
    go_wp2_with (refine wpList_load_rowW rfl 34 _ rfl g rfl _ _ _ _ HB2.out Tryd.underlying34 rfl (by rw [Hsz.out]; kernel_rfl) ?_)
    refine HF.out.mono ?_
    rintro e w3 ⟨rfl, hE⟩
    have HE3 := Lib.hid (HE2.out.trans hE)
    have HB3 := Lib.hid (hE.keep HB2.out)
    have HX := Lib.hid (show ∀ x, Ext w3.drew x → Ext w3 x from fun x hx => Ext.trans (Ext.refl w3).drew hx)
    have hws : w.heap.size ≤ w3.heap.size := Below.size HE3.out
    clear hE
    go_upto_region 3 with (fail)
    refine wp_region_lexT 4 (by kernel_rfl) (by kernel_rfl) ?_
    refine lx_e (.agg A) [] (by kernel_rfl) rfl (by rfl) (fun w1 hw1 => ?_) ?_
    · simp only [pk, lexVals]
      exact lu_row rfl rfl ((HX.out w1 hw1).keep HB3.out) Tryd.underlying34 rfl (by rw [Hsz.out]; kernel_rfl)
    refine lx_a (fun u w' => w'.ownsRow w3.heap.size 5 1 u CL.length (bv CL)) [(0, 6)] (by kernel_rfl) rfl (by rfl) (fun v w w' hE hv => hv.kept (grown_ext hE none) (by cases h : v.ownBlock <;> simp)) (fun w1 hw1 => ?_) ?_
    · simp only [pk, nthSp, lexVals]
      have HM := Lib.hid (HCo.out w1 (HE3.out.trans (HX.out w1 hw1)))
      have hs3 := Lib.hid (Below.size (HX.out w1 hw1))
      clear hw1
      go_simp
      refine HM.out.mono ?_
      rintro e w5 ⟨v5, rfl, ho5, hE5⟩
      exact ⟨_, rfl, hE5, own_mono ho5 hs3.out⟩
    refine lx_e (.pointer (some ⟨g, 93, none⟩)) [] (by kernel_rfl) rfl (by rfl) (fun w1 hw1 => ?_) ?_
    · simp only [pk, lexVals]
      clear hw1
      go_simp
      exact ⟨Ext.refl _, rfl⟩
    refine lx_e (.slice (some ⟨g, 93, none⟩) 32 32) [(0, 8)] (by kernel_rfl) rfl (by rfl) (fun w1 hw1 => ?_) ?_
    · simp only [pk, nthSp, lexVals]
      clear hw1
      go_simp
      exact ⟨Ext.refl _, rfl⟩
    refine lx_stopT (by rfl) (by decide) fun w5 hw5 => ?_
    have HE5 := Lib.hid (HX.out w5 hw5)
    clear hw5
    simp only [rv, pf, lexVals]
    intro v5 hown5
    obtain ⟨a5, c5, rfl, _, _⟩ := owns_slice hown5
    have HO5 := Lib.hid hown5
    have hB5 := HE5.out.keep HB3.out
    rw [← HA.out] at hB5
    have HBc := Lib.hid (bs_cells (n := 32) (hd_code hB5) Ho.out.code (by omega))
    have hs5 := Below.size HE5.out
    clear hown5 hB5
    simp only [Act.put, List.setIfInBounds_toArray, List.set_cons_zero, List.set_cons_succ]
    refine append_bsG rfl (.tmp 7) (.tmp 9) rfl w3.heap.size _ CL.length CL rfl HO5.out _ 32 32 _ rfl HBc.out (by have := HLl.out; omega) hs5 ?_
    intro v6 w6 hown6 hB6 _
    obtain ⟨a6, c6, rfl, _, _⟩ := owns_slice hown6
    have hown7 : w6.ownsRow w.heap.size 5 1 (.slice a6 (CL.length + 32) c6) (bytesL h ts).length (bv (bytesL h ts)) := by
      rw [HL.out, List.length_append, ln_length]
      exact own_mono hown6 hws
    have HO7 := Lib.hid hown7
    have HE6 := Lib.hid ((HE3.out.trans HE5.out).trans' (Below.mono hB6 (by have h1 := Below.size HE3.out; omega)))
    clear hown6 hown7 hB6
    go_wp2
    go_ret
    exact ⟨_, rfl, HO7.out, HE6.out⟩

end Go.Proofs.YtihlpfdhallfpaaDoor
