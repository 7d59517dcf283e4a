/-
  The walk of jalousieref16.Bytes: a formed control's bytes. No conditions but lengths.
-/
import Derived.Test.YtppidlpblkihbaaDoorCtlQ
namespace Go.Proofs.YtppidlpblkihbaaDoor
open Go.ChangeShapes Go.WideShapes Go.ChangeAt Go.RowKit

theorem slotsL_length (s : Nat → List Int) (hs : ∀ i, i < 6 → (s i).length ≤ 4096) : ∀ k, k ≤ 6 → (slotsL s k).length ≤ 4106 * k
  | 0, _ => Nat.le_refl _
  | k + 1, h => by
    have h1 := slotsL_length s hs k (by omega)
    have h2 := hs k (by omega)
    have h3 := numL_length_le ((s k).length : Int)
    rw [slotsL, List.length_append, textL, List.length_append]
    omega

theorem ownsRow_mono {w : World} {B B' : Nat} {e : TypeId} {size : Nat} {v : Value} {n : Nat} {xs : List Value} (h : w.ownsRow B e size v n xs) (hB : B' ≤ B) : w.ownsRow B' e size v n xs := by
  refine ⟨h.1, ?_⟩
  rcases h.2 with hn | ⟨g, cap, cur, h1, h2, h3⟩
  · exact .inl hn
  · exact .inr ⟨g, cap, cur, h1, by omega, h3⟩

set_option maxHeartbeats 2000000 in
set_option maxRecDepth 100000 in
theorem refCtl_any (op mem cut : Int) (A : Nat → Option Addr) (l C : Nat → Nat) (ha : Option Addr) (hl hc : Nat) (s : Nat → List Int) (hd : List Int) (w : World)
    (ho : 0 ≤ op ∧ op < 128) (hm : 0 ≤ mem ∧ mem < 128) (hcut : 0 ≤ cut ∧ cut < 18446744073709551616)
    (hs : ∀ i, i < 6 → BsAt w (A i) (l i) (C i) (s i)) (hh : BsAt w ha hl hc hd) (hsl : ∀ i, i < 6 → l i ≤ 4096) (hhl : hl ≤ 4096) :
    Calls Tryd.prog 24 #[.agg (ctlV op mem cut (fun i => .slice (A i) (l i) (C i)) (.slice ha hl hc))] w fun e w' => ∃ v, e = .returned v ∧ w'.ownsRow w.heap.size 5 1 v (ctlL ⟨op, mem, cut, s, hd⟩).length (bv (ctlL ⟨op, mem, cut, s, hd⟩)) ∧ Ext w w' := by
  obtain ⟨w2, hw2⟩ : ∃ w2, w.alloc (.cells (ctlV op mem cut (fun i => .slice (A i) (l i) (C i)) (.slice ha hl hc)) 45) = w2 := ⟨_, rfl⟩
  have hE2 : Ext w w2 := by rw [← hw2]; exact (Ext.refl w).alloc _
  have hB2 : w2.heap[w.heap.size]? = some (.cells (ctlV op mem cut (fun i => .slice (A i) (l i) (C i)) (.slice ha hl hc)) 45 (0, 0)) := by rw [← hw2]; exact heap_new w _ _ rfl
  have Hw2 := Lib.hid hw2
  have HE2 := Lib.hid hE2
  obtain ⟨g, hg⟩ : ∃ g, w.heap.size = g := ⟨_, rfl⟩
  rw [hg] at hB2
  have HB2 := Lib.hid hB2
  obtain ⟨c0, c1, c2, c3, c9⟩ := ctl_cell hB2
  have Hg := Lib.hid hg
  have Hs := Lib.hid hs
  have Hh := Lib.hid hh
  have Hsl := Lib.hid hsl
  have wo : IntKind.u8.wrap op = op := by rw [IntKind.wrap_u8]; omega
  have wm : IntKind.u8.wrap mem = mem := by rw [IntKind.wrap_u8]; omega
  have ec : ctlL ⟨op, mem, cut, s, hd⟩ = (([op, mem] ++ numL cut) ++ slotsL s 6) ++ textL hd := by
    unfold ctlL
    rw [numL_small op ho.2, numL_small mem hm.2]
    rfl
  obtain ⟨R, hR⟩ : ∃ R, ctlL ⟨op, mem, cut, s, hd⟩ = R := ⟨_, rfl⟩
  rw [hR] at ec ⊢
  have hlen := slotsL_length s (fun i hi => by rw [(hs i hi).len]; exact hsl i hi)
  have hnl := numL_length_le cut
  have hNb := numL_byte cut hcut.1
  have HNb := Lib.hid hNb
  obtain ⟨ho1, ho2⟩ := ho
  obtain ⟨hm1, hm2⟩ := hm
  obtain ⟨hk1, hk2⟩ := hcut
  obtain ⟨P, hP⟩ : ∃ P : Nat → List Int, P = fun k => [op, mem] ++ numL cut ++ slotsL s k := ⟨_, rfl⟩
  have HP0 := Lib.hid (show P 0 = [op, mem] ++ numL cut by rw [hP]; simp [slotsL])
  have HPs := Lib.hid (show ∀ k, P (k + 1) = P k ++ textL (s k) by intro k; rw [hP]; simp [slotsL])
  have HP6 := Lib.hid (show R = P 6 ++ textL hd by rw [ec, hP])
  have HPl := Lib.hid (show ∀ k, k ≤ 6 → (P k).length ≤ 40000 by
    intro k hk
    have h1 := hlen k hk
    rw [hP]
    simp only [List.length_append, List.length_cons, List.length_nil]
    omega)
  clear hw2 hE2 hB2 c3 hs hh hsl ec hlen hNb hg hR hP
  go_enter Tryd.func24, Tryd.ntmps24
  go_upto_region 1 with (fail)
  refine wp_world (w' := w2) Hw2.out ?_
  rw [Hg.out]
  clear Hw2
  go_upto_region 2 with (fail)
  obtain ⟨w3, hw3⟩ : ∃ w3, w2.alloc (.cells #[.int .u8 op, .int .u8 mem] 5) = w3 := ⟨_, rfl⟩
  have hE3 : Ext w2 w3 := by rw [← hw3]; exact (Ext.refl w2).alloc _
  have hown3 : w3.ownsRow w2.heap.size 5 1 (.slice (some ⟨w2.heap.size, 0, none⟩) 2 2) 2 (bv [op, mem]) := by
    rw [← hw3]
    exact World.ownsRow_lit w2 #[.int .u8 op, .int .u8 mem] 2 (Nat.le_refl _) (by unfold maxLen; omega) rfl
  have Hw3 := Lib.hid hw3
  have HE3 := Lib.hid hE3
  have HO3 := Lib.hid hown3
  clear hw3 hE3 hown3
  refine wp_world (w' := w3) Hw3.out ?_
  have e3 := ext_cells HE3.out
  have hcut3 : w3.cell? ⟨g, 2, none⟩ = some (.int .u64 cut) := (ctl_cell (HE3.out.keep HB2.out)).2.2.1
  clear Hw3 e3
  go_wp2_with fail
  refine (refNum_any cut hk1 hk2 w3).mono ?_
  rintro e w4 ⟨v4, rfl, hown4, hE4⟩
  obtain ⟨a4, cc4, rfl, hc41, hc42⟩ := owns_slice hown4
  have hb4 := owns_bs hown4 HNb.out (by unfold maxLen at hc42; omega) (by omega)
  have HB4 := Lib.hid hb4
  have HO4 := Lib.hid (HO3.out.kept (grown_ext hE4 none) (.inr (by simp [Value.ownBlock])))
  have HE4 := Lib.hid (HE3.out.trans hE4)
  have hsz4 := Below.size HE4.out
  obtain ⟨N, hN⟩ : ∃ N, (numL cut).length = N := ⟨_, rfl⟩
  rw [hN] at HB4 hnl ⊢
  have HN := Lib.hid hN
  clear hown4 hE4 hb4 hc41 hc42 hN
  go_wp2_with (at_builtin; refine append_bsG rfl (.tmp 12) (.tmp 15) rfl w2.heap.size _ 2 [op, mem] rfl HO4.out a4 N cc4 (numL cut) rfl HB4.out (by omega) hsz4 ?_)
  intro v5 w5 hown5 hB5 _
  have hown5' : w5.ownsRow w2.heap.size 5 1 v5 (P 0).length (bv (P 0)) := by
    have h1 : (P 0).length = 2 + N := by rw [HP0.out, ← HN.out]; simp; omega
    rw [h1, HP0.out]
    exact hown5
  obtain ⟨a5, cc5, rfl, _, _⟩ := owns_slice hown5'
  have HO5 := Lib.hid hown5'
  have HE5 := Lib.hid (HE4.out.trans' hB5)
  clear hown5 hown5' hB5 HE4 HO4 HB4 HO3 HE3 HP0 HN HNb
  go_wp2
  go_loopw [4, 3] (fun i v wr => ∃ (k : Nat), k ≤ 6 ∧ i = .int .i64 (k : Int) ∧ wr.ownsRow w2.heap.size 5 1 v (P k).length (bv (P k)) ∧ Ext w2 wr) (fun i _ _ => 6 - (intOf i).toNat)
  case atStart => exact ⟨0, by omega, rfl, HO5.out, HE5.out⟩
  case round =>
    obtain ⟨k, hk, rfl, hown, hE⟩ := hrel
    have hB := HB2.out
    have hBr := hE.keep hB
    obtain ⟨_, _, _, c3, c9'⟩ := ctl_cell hBr
    have hPl := HPl.out k hk
    have HO := Lib.hid hown
    have HE := Lib.hid hE
    have hszr := Below.size hE
    clear hB hBr c9 c0 c1 c2 hown hE
    by_cases hlt : k < 6
    · have x1 : (k : Int) < 6 := by omega
      have hc3 := c3 k hlt
      have hbk := (Hs.out k hlt).ext (HE2.out.trans HE.out)
      have hlk := Hsl.out k hlt
      have htx := refText_any (A k) (l k) (C k) (s k) wr hbk (by omega)
      have htl : (textL (s k)).length ≤ 4106 := by
        unfold textL
        have := numL_length_le ((s k).length : Int)
        have h5 := hbk.len
        rw [List.length_append]
        omega
      have hPs := HPs.out k
      have htb : ∀ x ∈ textL (s k), 0 ≤ x ∧ x < 256 := by
        intro x hx
        unfold textL at hx
        rcases List.mem_append.1 hx with h | h
        · exact numL_byte _ (by omega) x h
        · exact hbk.byte x h
      obtain ⟨T, hT⟩ : ∃ T, textL (s k) = T := ⟨_, rfl⟩
      rw [hT] at htx htl hPs htb
      have HTx := Lib.hid htx
      have HPs' := Lib.hid hPs
      have HTb := Lib.hid htb
      clear c3 hbk htx hPs hT htb c9'
      go_wp2_with fail
      refine HTx.out.mono ?_
      rintro e w7 ⟨v7, rfl, hown7, hE7⟩
      obtain ⟨a7, cc7, rfl, hc71, hc72⟩ := owns_slice hown7
      have HB7 := Lib.hid (owns_bs hown7 HTb.out (by unfold maxLen at hc72; omega) (by omega))
      have HO7 := Lib.hid (HO.out.kept (grown_ext hE7 none) (by cases hv : (Value.ownBlock _) <;> simp))
      have HE7 := Lib.hid (HE.out.trans hE7)
      have hsz7 := Below.size HE7.out
      obtain ⟨NT, hNT⟩ : ∃ N, T.length = N := ⟨_, rfl⟩
      rw [hNT] at HB7 htl ⊢
      have HNT := Lib.hid hNT
      clear hown7 hE7 hc71 hc72 HTx hNT
      go_wp2_with (at_builtin; refine append_bsG rfl _ _ rfl w2.heap.size _ (P k).length (P k) rfl HO7.out a7 NT cc7 T rfl HB7.out (by omega) hsz7 ?_)
      intro v8 w8 hown8 hB8 _
      have hown8' : w8.ownsRow w2.heap.size 5 1 v8 (P (k + 1)).length (bv (P (k + 1))) := by
        rw [HPs'.out, List.length_append, HNT.out]
        exact hown8
      have HO8 := Lib.hid hown8'
      have HE8 := Lib.hid (HE7.out.trans' hB8)
      clear hown8 hown8' hB8 HE7 HO7 HB7
      go_wp2
      go_roundw
      case rel => exact ⟨k + 1, by omega, by go_num, HO8.out, HE8.out⟩
      case measure => simp [intOf]; omega
    · obtain rfl : k = 6 := by omega
      have hbk := Hh.out.ext (HE2.out.trans HE.out)
      have htx := refText_any ha hl hc hd wr hbk (by omega)
      have htl : (textL hd).length ≤ 4106 := by
        unfold textL
        have := numL_length_le (hd.length : Int)
        have h5 := hbk.len
        rw [List.length_append]
        omega
      have hP6 := HP6.out
      have htb : ∀ x ∈ textL hd, 0 ≤ x ∧ x < 256 := by
        intro x hx
        unfold textL at hx
        rcases List.mem_append.1 hx with h | h
        · exact numL_byte _ (by omega) x h
        · exact hbk.byte x h
      obtain ⟨T, hT⟩ : ∃ T, textL hd = T := ⟨_, rfl⟩
      rw [hT] at htx htl hP6 htb
      have HTx := Lib.hid htx
      have HPs' := Lib.hid hP6
      have HTb := Lib.hid htb
      clear c3 hbk htx hP6 hT htb
      go_wp2_with fail
      refine HTx.out.mono ?_
      rintro e w7 ⟨v7, rfl, hown7, hE7⟩
      obtain ⟨a7, cc7, rfl, hc71, hc72⟩ := owns_slice hown7
      have HB7 := Lib.hid (owns_bs hown7 HTb.out (by unfold maxLen at hc72; omega) (by omega))
      have HO7 := Lib.hid (HO.out.kept (grown_ext hE7 none) (by cases hv : (Value.ownBlock _) <;> simp))
      have HE7 := Lib.hid (HE.out.trans hE7)
      have hsz7 := Below.size HE7.out
      obtain ⟨NT, hNT⟩ : ∃ N, T.length = N := ⟨_, rfl⟩
      rw [hNT] at HB7 htl ⊢
      have HNT := Lib.hid hNT
      clear hown7 hE7 hc71 hc72 HTx hNT
      go_wp2_with (at_builtin; refine append_bsG rfl _ _ rfl w2.heap.size _ (P 6).length (P 6) rfl HO7.out a7 NT cc7 T rfl HB7.out (by omega) hsz7 ?_)
      intro v8 w8 hown8 hB8 _
      have hown8' : w8.ownsRow w.heap.size 5 1 v8 R.length (bv R) := by
        rw [HPs'.out, List.length_append, HNT.out]
        exact ownsRow_mono hown8 (Below.size HE2.out)
      have HO8 := Lib.hid hown8'
      have HE8 := Lib.hid ((HE2.out.trans HE7.out).trans' (Below.mono hB8 (by have := Below.size HE2.out; omega)))
      clear hown8 hown8' hB8 HE7 HO7 HB7
      go_wp2
      go_ret
      exact ⟨v8, rfl, HO8.out, HE8.out⟩

end Go.Proofs.YtppidlpblkihbaaDoor
