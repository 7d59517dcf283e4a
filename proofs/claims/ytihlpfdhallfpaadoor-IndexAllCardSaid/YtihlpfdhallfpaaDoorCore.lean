/-
  A header's bytes; the walk of entry.core. No conditions.
-/
import Derived.Test.YtihlpfdhallfpaaDoorHdL
import Derived.Test.YtihlpfdhallfpaaDoorPackO
import Derived.Test.YtihlpfdhallfpaaDoorHdF
namespace Go.Proofs.YtihlpfdhallfpaaDoor
open Go.ChangeShapes Go.WideShapes Go.ChangeAt Go.RowKit

set_option maxRecDepth 100000 in
theorem oEndO_any (g : Nat) (v : Value) (xs : List Int) (w : World) (h : OutAt w g v xs false) (hb : ∀ x ∈ xs, 0 ≤ x ∧ x < 256) (hs : xs.length ≤ 16384) :
    Calls Tryd.prog 70 #[.pointer (some ⟨g, 0, none⟩)] w fun e w' => ∃ v', e = .returned (.tuple #[v', .int .i64 0]) ∧ w'.ownsRow w.heap.size 5 1 v' xs.length (bv xs) ∧ Ext w w' := by
  obtain ⟨a, c, rfl, hbs⟩ := h.bs hb (by omega)
  have HC := Lib.hid (clone_any a xs.length c xs w hbs)
  obtain ⟨c0, c1, z0, z1⟩ := in_cells h.blk
  obtain ⟨n, hn⟩ : ∃ n, xs.length = n := ⟨_, rfl⟩
  rw [hn] at hs HC c0 ⊢
  have x1 : ¬ 16384 < (n : Int) := by omega
  clear h hbs hn
  go_enter Tryd.func70, Tryd.ntmps70
  go_wp2_with fail
  refine HC.out.mono ?_
  rintro e w1 ⟨v1, rfl, hb1, hE1⟩
  obtain ⟨a1, c1', rfl, _, _⟩ := owns_slice hb1
  have HB1 := Lib.hid hb1
  have HE1 := Lib.hid hE1
  clear hb1 hE1
  go_wp2
  go_ret2
  exact ⟨_, rfl, HB1.out, HE1.out⟩

theorem TsAt.outStep {w w4 wk : World} {a : Option Addr} {n c g : Nat} {ts : List (Nat → Int)} {v : Value} (h : TsAt w a n c ts) (h4 : Ext w w4) (hg : w.heap.size ≤ g) (hS : OutStep w4 wk g (.slice none 0 0) v) : TsAt wk a n c ts := by
  refine ⟨h.len, h.cap, h.lim, h.small, h.byte, fun h0 => ?_, h.nil_⟩
  obtain ⟨b, off, rfl, hc⟩ := h.at_ h0
  refine ⟨b, off, rfl, fun i hi j hj => ?_⟩
  have h1 := hc i hi j hj
  have hlt : b < w.heap.size := World.block_lt_of_cell? w _ h1
  have hlt4 := Nat.lt_of_lt_of_le hlt (Below.size h4)
  have h2 : w4.cell? ⟨b, off + i * 16 + j, none⟩ = some (.int .u8 ((ts.getD i fun _ => 0) j)) := by rw [Ext.cell h4 hlt]; exact h1
  exact (World.cell?_of_block (hS.block b hlt4 (by omega) (by simp [Value.ownBlock]))).trans h2

set_option maxHeartbeats 8000000 in
set_option maxRecDepth 100000 in
theorem core_any (h : Hd) (ts : List (Nat → Int)) (w : World) (ho : HdOk h) (ht : TsAt w h.ta h.tn h.tc ts) (hf : hdB h ts = true) :
    Calls Tryd.prog 47 #[.agg (hdV h)] w fun e w' => ∃ v, e = .returned v ∧ w'.ownsRow w.heap.size 5 1 v (coreL h ts).length (bv (coreL h ts)) ∧ Ext w w' := by
  obtain ⟨⟨b1, b1'⟩, ⟨b2, b2'⟩, ⟨b3, b3'⟩, b4, b5, ⟨b6, b6'⟩, b7⟩ := hdB_bd hf
  have HLb := Lib.hid (coreL_byte hf ho ht.len ht.byte)
  have HLl := Lib.hid (coreL_le hf)
  obtain ⟨w2, hw2⟩ : ∃ w2, w.alloc (.cells (hdV h) 34) = w2 := ⟨_, rfl⟩
  have hE2 : Ext w w2 := by rw [← hw2]; exact (Ext.refl w).alloc _
  have hB2 : w2.heap[w.heap.size]? = some (.cells (hdV h) 34 (0, 0)) := by rw [← hw2]; exact heap_new w _ _ rfl
  have Hw2 := Lib.hid hw2
  obtain ⟨g, hg⟩ : ∃ g, w.heap.size = g := ⟨_, rfl⟩
  obtain ⟨w4, hw4⟩ : ∃ w4, w2.alloc (.cells #[.slice none 0 0, .bool false] 116) = w4 := ⟨_, rfl⟩
  have hE4 : Ext w2 w4 := by rw [← hw4]; exact (Ext.refl w2).alloc _
  have hO4 : OutAt w4 w2.heap.size (.slice none 0 0) [] false := by rw [← hw4]; exact out_new w2
  have Hw4 := Lib.hid hw4
  have HwC := Lib.hid (show ∃ z : Value, z = .slice none 0 0 from ⟨_, rfl⟩)
  rw [hg] at hB2
  obtain ⟨gO, hgO⟩ : ∃ g, w2.heap.size = g := ⟨_, rfl⟩
  rw [hgO] at hO4
  have hgg : g < w2.heap.size := (Array.getElem?_eq_some_iff.1 hB2).1
  have Hgne := Lib.hid (show g ≠ gO by omega)
  have Hwg := Lib.hid (show w.heap.size ≤ gO by have := Below.size hE2; omega)
  have HE4 := Lib.hid (hE2.trans hE4)
  have HB4 := Lib.hid (hE4.keep hB2)
  have HO4 := Lib.hid hO4
  have Hg := Lib.hid hg
  have HgO := Lib.hid hgO
  have Ho := Lib.hid ho
  have HT := Lib.hid ht
  have wwr : IntKind.u64.wrap h.writer = h.writer := by rw [IntKind.wrap_u64]; omega
  have wep : IntKind.u64.wrap h.epoch = h.epoch := by rw [IntKind.wrap_u64]; omega
  have wtn : IntKind.u64.wrap (h.tn : Int) = (h.tn : Int) := by rw [IntKind.wrap_u64]; omega
  have wsz : IntKind.u64.wrap h.size = h.size := by rw [IntKind.wrap_u64]; omega
  have hti := ho.time
  have Hkn := Lib.hid b7
  obtain ⟨A, hA⟩ : ∃ A, hdV h = A := ⟨_, rfl⟩
  have HA := Lib.hid hA
  have hsm := ht.small
  rw [hA] at Hw2 HB4 ⊢
  have hBH := Lib.hid (show ∀ (wk : World) (v : Value), OutStep w4 wk gO (.slice none 0 0) v → wk.heap[g]? = some (.cells (hdV h) 34 (0, 0)) from fun wk v hS => by
    have := hS.keep HB4.out Hgne.out
    rw [hA]
    exact this)
  have HS4 := Lib.hid (OutStep.refl w4 gO (.slice none 0 0))
  have HCL := Lib.hid (show coreL h ts = ([] ++ numL h.writer ++ numL h.seq ++ ln 32 h.prev ++ numL h.epoch ++ [if h.ctl then 1 else 0] ++ numL h.time ++ ln 16 h.item ++ numL (h.tn : Int)) ++ toksL ts h.tn ++ knL h.knows 6 ++ ln 32 h.sum ++ numL h.size by unfold coreL; simp)
  obtain ⟨CL, hCL⟩ : ∃ CL, coreL h ts = CL := ⟨_, rfl⟩
  rw [hCL] at HCL HLb HLl ⊢
  clear hw2 hE2 hB2 hw4 hE4 hO4 hgg hg hgO ho ht hf hA HwC hCL b7
  go_enter Tryd.func47, Tryd.ntmps47
  go_upto_region 1 with (fail)
  refine wp_world (w' := w2) Hw2.out ?_
  rw [Hg.out]
  go_upto_region 2 with (fail)
  refine wp_world (w' := w4) Hw4.out ?_
  rw [HgO.out]
  clear Hw2 Hw4 Hg HgO
  have c5 := hd_writer (hBH.out _ _ HS4.out)
  go_wp2_with fail
  refine (oNum_any gO (.slice none 0 0) [] false h.writer w4 HO4.out (by omega) (by omega) (by simp)).mono ?_
  rintro e w5 ⟨rfl, v5, hO, hS⟩
  obtain ⟨X5, hX⟩ : ∃ X, [] ++ numL h.writer = X := ⟨_, rfl⟩
  have l5 : X5.length ≤ 10 := by rw [← hX, List.length_append]; have := numL_length_le h.writer; simp; omega
  rw [hX] at hO HCL
  have HO5 := Lib.hid hO
  have HS5 := Lib.hid (HS4.out.trans hS)
  clear hO hS hX c5
  have c6 := hd_seq (hBH.out _ _ HS5.out)
  go_wp2_with fail
  refine (oNum_any gO v5 X5 false h.seq w5 HO5.out (by omega) (by omega) (by omega)).mono ?_
  rintro e w6 ⟨rfl, v6, hO, hS⟩
  obtain ⟨X6, hX⟩ : ∃ X, X5 ++ numL h.seq = X := ⟨_, rfl⟩
  have l6 : X6.length ≤ 20 := by rw [← hX, List.length_append]; have := numL_length_le h.seq; omega
  rw [hX] at hO HCL
  have HO6 := Lib.hid hO
  have HS6 := Lib.hid (HS5.out.trans hS)
  clear hO hS hX c6 l5
  have hb7 := bs_cells (n := 32) (hd_prev (hBH.out _ _ HS6.out)) Ho.out.prev (by omega)
  have HB7b := Lib.hid hb7
  clear hb7
  go_wp2_with fail
  refine (oRaw_any gO v6 X6 (ln 32 h.prev) false _ 32 32 w6 HO6.out HB7b.out (by omega)).mono ?_
  rintro e w7 ⟨rfl, v7, hO, hS⟩
  obtain ⟨X7, hX⟩ : ∃ X, X6 ++ ln 32 h.prev = X := ⟨_, rfl⟩
  have l7 : X7.length ≤ 52 := by rw [← hX, List.length_append]; rw [ln_length]; omega
  rw [hX] at hO HCL
  have HO7 := Lib.hid hO
  have HS7 := Lib.hid (HS6.out.trans hS)
  clear hO hS hX l6
  have c8 := hd_epoch (hBH.out _ _ HS7.out)
  go_wp2_with fail
  refine (oNum_any gO v7 X7 false h.epoch w7 HO7.out (by omega) (by omega) (by omega)).mono ?_
  rintro e w8 ⟨rfl, v8, hO, hS⟩
  obtain ⟨X8, hX⟩ : ∃ X, X7 ++ numL h.epoch = X := ⟨_, rfl⟩
  have l8 : X8.length ≤ 62 := by rw [← hX, List.length_append]; have := numL_length_le h.epoch; omega
  rw [hX] at hO HCL
  have HO8 := Lib.hid hO
  have HS8 := Lib.hid (HS7.out.trans hS)
  clear hO hS hX c8 l7
  have c9 := hd_ctl (hBH.out _ _ HS8.out)
  go_wp2_with fail
  refine (oFlag_any gO v8 X8 false h.ctl w8 HO8.out (by omega)).mono ?_
  rintro e w9 ⟨rfl, v9, hO, hS⟩
  obtain ⟨X9, hX⟩ : ∃ X, X8 ++ [if h.ctl then 1 else 0] = X := ⟨_, rfl⟩
  have l9 : X9.length ≤ 63 := by rw [← hX, List.length_append]; simp only [List.length_cons, List.length_nil]; omega
  rw [hX] at hO HCL
  have HO9 := Lib.hid hO
  have HS9 := Lib.hid (HS8.out.trans hS)
  clear hO hS hX c9 l8
  have c10 := hd_time (hBH.out _ _ HS9.out)
  go_wp2_with fail
  refine (oNum_any gO v9 X9 false h.time w9 HO9.out (hti.1) (hti.2) (by omega)).mono ?_
  rintro e w10 ⟨rfl, v10, hO, hS⟩
  obtain ⟨X10, hX⟩ : ∃ X, X9 ++ numL h.time = X := ⟨_, rfl⟩
  have l10 : X10.length ≤ 73 := by rw [← hX, List.length_append]; have := numL_length_le h.time; omega
  rw [hX] at hO HCL
  have HO10 := Lib.hid hO
  have HS10 := Lib.hid (HS9.out.trans hS)
  clear hO hS hX c10 l9
  have hb11 := bs_cells (n := 16) (hd_item (hBH.out _ _ HS10.out)) Ho.out.item (by omega)
  have HB11b := Lib.hid hb11
  clear hb11
  go_wp2_with fail
  refine (oRaw_any gO v10 X10 (ln 16 h.item) false _ 16 16 w10 HO10.out HB11b.out (by omega)).mono ?_
  rintro e w11 ⟨rfl, v11, hO, hS⟩
  obtain ⟨X11, hX⟩ : ∃ X, X10 ++ ln 16 h.item = X := ⟨_, rfl⟩
  have l11 : X11.length ≤ 89 := by rw [← hX, List.length_append]; rw [ln_length]; omega
  rw [hX] at hO HCL
  have HO11 := Lib.hid hO
  have HS11 := Lib.hid (HS10.out.trans hS)
  clear hO hS hX l10
  have c12 := hd_toks (hBH.out _ _ HS11.out)
  go_wp2_with fail
  refine (oNum_any gO v11 X11 false (h.tn : Int) w11 HO11.out (by omega) (by omega) (by omega)).mono ?_
  rintro e w12 ⟨rfl, v12, hO, hS⟩
  obtain ⟨X12, hX⟩ : ∃ X, X11 ++ numL (h.tn : Int) = X := ⟨_, rfl⟩
  have l12 : X12.length ≤ 99 := by rw [← hX, List.length_append]; have := numL_length_le (h.tn : Int); omega
  rw [hX] at hO HCL
  have HO12 := Lib.hid hO
  have HS12 := Lib.hid (HS11.out.trans hS)
  clear hO hS hX c12 l11
  have c12 := hd_toks (hBH.out _ _ HS12.out)
  have HCL2 := Lib.hid HCL.out
  obtain ⟨P, hP⟩ : ∃ P : Nat → List Int, P = fun k => X12 ++ toksL ts k := ⟨_, rfl⟩
  have HP0 := Lib.hid (show X12 = P 0 by rw [hP]; simp [toksL])
  have HPs := Lib.hid (show ∀ k, P (k + 1) = P k ++ ln 16 (ts.getD k fun _ => 0) by intro k; rw [hP]; simp [toksL])
  have HPl := Lib.hid (show ∀ k, k ≤ h.tn → (P k).length ≤ 300 by intro k hk; rw [hP]; simp only [List.length_append, toksL_length]; omega)
  have HCL3 := Lib.hid (show CL = P h.tn ++ knL h.knows 6 ++ ln 32 h.sum ++ numL h.size by rw [HCL.out, hP])
  have HO12' := Lib.hid (show OutAt w12 gO v12 (P 0) false by rw [← HP0.out]; exact HO12.out)
  clear hP HCL HCL2 HP0 HO12
  go_wp2
  go_loopw [41] (fun i wr => ∃ (k : Nat) (v : Value), k ≤ h.tn ∧ i = .int .i64 (k : Int) ∧ OutAt wr gO v (P k) false ∧ OutStep w4 wr gO (.slice none 0 0) v) (fun i _ => h.tn - (intOf i).toNat)
  case atStart => exact ⟨0, v12, by omega, rfl, HO12'.out, HS12.out⟩
  case round =>
    obtain ⟨k, v, hk, rfl, hO, hS⟩ := hrel
    have hPl := HPl.out k hk
    have HO := Lib.hid hO
    have HS := Lib.hid hS
    clear hO hS c12
    by_cases hlt : k < h.tn
    · have x1 : (k : Int) < (h.tn : Int) := by omega
      have x2 : (0 : Int) ≤ (k : Int) := by omega
      have hts := HT.out.outStep HE4.out Hwg.out HS.out
      have htb := HT.out.tok k hlt
      obtain ⟨bt, offt, hta, hcell⟩ := hts.at_ (by omega)
      have hck := hcell k hlt
      have hPs := HPs.out k
      obtain ⟨t, htt⟩ : ∃ t, (ts.getD k fun _ => 0) = t := ⟨_, rfl⟩
      rw [htt] at hck hPs htb
      have HCk := Lib.hid hck
      have HPs' := Lib.hid hPs
      have HTb := Lib.hid htb
      have hz := zero_t16
      clear hts hcell hck hPs htt htb
      rw [hta]
      go_upto_region 13 with (first | (refine wp_sub rfl 30 _ rfl bt (offt + k * 16) 16 (fun j => .int .u8 (t j)) rfl Tryd.underlying30 (size_tok _) HCk.out ?_) | (refine wpList_store_row rfl 30 _ _ rfl wr.heap.size _ rfl rfl _ _ (heap_new wr _ _ rfl) (by kernel_rfl) (by simp [rowArr_size]) (rowArr_one fun _ _ => rfl) ?_; rw [setRow_new wr _ _ _ _ rfl]))
      obtain ⟨w7, hw7⟩ : ∃ w7, wr.alloc (.cells (rowArr 16 fun j => .int .u8 (t j)) 30) = w7 := ⟨_, rfl⟩
      have hE7 : Ext wr w7 := by rw [← hw7]; exact (Ext.refl wr).alloc _
      obtain ⟨gt, hgt⟩ : ∃ g, wr.heap.size = g := ⟨_, rfl⟩
      have hB7 : w7.heap[gt]? = some (.cells (rowArr 16 fun j => .int .u8 (t j)) 30 (0, 0)) := by rw [← hw7]; exact heap_new wr _ _ hgt.symm
      refine wp_world (w' := w7) hw7 ?_
      rw [hgt]
      have hbs := bs_cells (g := gt) (off := 0) (n := 16) (f := t) (fun i hi => by rw [Nat.zero_add]; exact row_cell hB7 i hi) HTb.out (by omega)
      have HR7 := Lib.hid (oRaw_any gO v (P k) (ln 16 t) false _ 16 16 w7 (HO.out.ext hE7) hbs (by omega))
      have HS7 := Lib.hid (HS.out.then hE7)
      clear hw7 hE7 hgt hB7 hbs
      go_wp2_with fail
      refine HR7.out.mono ?_
      rintro e w8 ⟨rfl, v8, hO8, hS8⟩
      rw [← HPs'.out] at hO8
      have HO8 := Lib.hid hO8
      have HS8 := Lib.hid (HS7.out.trans hS8)
      clear hO8 hS8 HR7 HS7
      rw [← hta]
      go_wp2
      go_roundw
      case rel => exact ⟨k + 1, v8, by omega, by go_num, HO8.out, HS8.out⟩
      case measure => simp [intOf]; omega
    · have hkt : k = h.tn := by omega
      subst hkt
      have x1 : ¬ (h.tn : Int) < (h.tn : Int) := by omega
      obtain ⟨Y0, hY0⟩ : ∃ Y : Nat → List Int, Y = fun k => P h.tn ++ knL h.knows k := ⟨_, rfl⟩
      have HY0 := Lib.hid (show OutAt wr gO v (Y0 0) false by rw [hY0]; simp only [knL, List.append_nil]; exact HO.out)
      have HYs := Lib.hid (show ∀ k, Y0 (k + 1) = Y0 k ++ numL (h.knows k) by intro k; rw [hY0]; simp [knL])
      have HYl := Lib.hid (show ∀ k, k ≤ 6 → (Y0 k).length ≤ 380 by intro k hk; have := knL_le h.knows k; rw [hY0]; simp only [List.length_append]; omega)
      have HCL4 := Lib.hid (show CL = Y0 6 ++ ln 32 h.sum ++ numL h.size by rw [HCL3.out, hY0])
      have Hk := Lib.hid (hd_knows (hBH.out _ _ HS.out))
      have Hix := Lib.hid (show ∀ (w : World) (k : Nat), k < 6 → _ from fun w k hk => index_k6 w h.knows k hk)
      clear hY0 HCL3 HO
      go_wp2_with (refine wp_sub rfl 32 _ rfl g 54 6 (fun j => .int .u64 (h.knows j)) rfl Tryd.underlying32 (size_k6 _) Hk.out ?_)
      go_loopw [50] (fun i wq => ∃ (k : Nat) (v' : Value), k ≤ 6 ∧ i = .int .i64 (k : Int) ∧ OutAt wq gO v' (Y0 k) false ∧ OutStep w4 wq gO (.slice none 0 0) v') (fun i _ => 6 - (intOf i).toNat)
      case atStart => exact ⟨0, v, by omega, rfl, HY0.out, HS.out⟩
      case round =>
        obtain ⟨k, v', hk, rfl, hO, hS⟩ := hrel
        have hYl := HYl.out k hk
        have HO := Lib.hid hO
        have HSq := Lib.hid hS
        clear hO hS
        by_cases hlt : k < 6
        · have x1 : (k : Int) < 6 := by omega
          have hi := fun w => Hix.out w k hlt
          obtain ⟨n0, n1⟩ := Ho.out.knows k hlt
          have hYs := HYs.out k
          obtain ⟨K, hK⟩ : ∃ K, h.knows k = K := ⟨_, rfl⟩
          rw [hK] at hi n0 n1 hYs
          have HYs' := Lib.hid hYs
          clear hYs hK
          go_wp2_with fail
          refine (oNum_any gO v' (Y0 k) false K wr HO.out n0 n1 (by omega)).mono ?_
          rintro e w8 ⟨rfl, v8, hO8, hS8⟩
          rw [← HYs'.out] at hO8
          have HO8 := Lib.hid hO8
          have HS8 := Lib.hid (HSq.out.trans hS8)
          clear hO8 hS8
          go_wp2
          go_roundw
          case rel => exact ⟨k + 1, v8, by omega, by go_num, HO8.out, HS8.out⟩
          case measure => simp [intOf]; omega
        · obtain rfl : k = 6 := by omega
          have hb := bs_cells (n := 32) (hd_sum (hBH.out _ _ HSq.out)) Ho.out.sum (by omega)
          have HBb := Lib.hid hb
          clear hb
          go_wp2_with fail
          refine (oRaw_any gO v' (Y0 6) (ln 32 h.sum) false _ 32 32 wr HO.out HBb.out (by omega)).mono ?_
          rintro e w8 ⟨rfl, v8, hO8, hS8⟩
          have l8 : (Y0 6 ++ ln 32 h.sum).length ≤ 420 := by rw [List.length_append, ln_length]; omega
          have HO8 := Lib.hid hO8
          have HS8 := Lib.hid (HSq.out.trans hS8)
          have c92 := hd_size (hBH.out _ _ HS8.out)
          have L8 := Lib.hid l8
          clear hO8 hS8 l8
          go_wp2_with fail
          refine (oNum_any gO v8 _ false h.size w8 HO8.out (by omega) (by omega) (by have := L8.out; omega)).mono ?_
          rintro e w9 ⟨rfl, v9, hO9, hS9⟩
          rw [← HCL4.out] at hO9
          have HS9 := Lib.hid (HS8.out.trans hS9)
          have HEn := Lib.hid (oEndO_any gO v9 CL w9 hO9 HLb.out (by have := HLl.out; omega))
          clear hO9 hS9 c92
          go_wp2_with fail
          refine HEn.out.mono ?_
          rintro e w10 ⟨v10, rfl, hown, hE10⟩
          obtain ⟨a10, c10, rfl, _, _⟩ := owns_slice hown
          obtain ⟨N, hN⟩ : ∃ N, CL.length = N := ⟨_, rfl⟩
          rw [hN] at hown ⊢
          have hEw := OutStep.ext HE4.out (HS9.out.then hE10) Hwg.out (fun r e => by simp [Value.ownBlock] at e)
          have HOw := Lib.hid (own_mono hown (show w.heap.size ≤ w9.heap.size by have h1 := HS9.out.size; have h2 := Below.size HE4.out; omega))
          have HEw := Lib.hid hEw
          have HN := Lib.hid hN
          clear hown hE10 hEw hN
          go_wp2
          go_ret
          refine ⟨_, rfl, ?_, HEw.out⟩
          rw [HN.out]
          exact HOw.out

end Go.Proofs.YtihlpfdhallfpaaDoor
