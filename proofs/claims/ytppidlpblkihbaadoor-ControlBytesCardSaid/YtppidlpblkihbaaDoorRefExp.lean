/-
  The walk of jalousieref01.Expand. Asked: the table of 64 words lies as the text lays it; texts are not longer than 2^35 bytes.
-/
import Derived.Test.YtppidlpblkihbaaDoorRefMac
namespace Go.Proofs.YtppidlpblkihbaaDoor
open Go.ChangeShapes Go.WideShapes Go.ChangeAt Go.RowKit

set_option maxHeartbeats 1000000 in
set_option maxRecDepth 100000 in
theorem refExpand_any (f : Nat → Int) (hf : ∀ j, j < 32 → 0 ≤ f j ∧ f j < 256) (b : Option Addr) (m d : Nat) (info : List Int) (n : Nat) (w : World) (h : BsAt w b m d info)
    (hn : n ≤ 8160) (hm : m ≤ 34359738368) (hk : KsAt 0 w) :
    Calls Tryd.prog 40 #[.agg (rowArr 32 fun j => .int .u8 (f j)), .slice b m d, .int .i64 (n : Int)] w fun e w' => ∃ a c, e = .returned (.slice a n c) ∧ BsAt w' a n c (expandL (l32 f) info n) ∧ Ext w w' ∧ NewB w.heap.size w' a n := by
  have hmc := h.cap
  have hml := h.lim
  have H := Lib.hid h
  have HK := Lib.hid hk
  have Hf := Lib.hid hf
  clear h hk hf
  have y1 : (0 : Int) ≤ (n : Int) := by omega
  have y2 : (n : Int) ≤ 8160 := by omega
  go_enter Tryd.func40, Tryd.ntmps40
  go_upto_region 1 with (fail)
  obtain ⟨wA, hwA⟩ : ∃ wA, w.alloc (.cells (rowArr 32 fun j => .int .u8 (f j)) 22) = wA := ⟨_, rfl⟩
  have hEA : Ext w wA := by rw [← hwA]; exact (Ext.refl w).alloc _
  have hRA : wA.rowIs w.heap.size 22 32 (fun j => .int .u8 (f j)) := by rw [← hwA]; exact rowIs_of (heap_new w _ _ rfl)
  have hsA : w.heap.size < wA.heap.size := by rw [← hwA]; simp
  refine wp_world (w' := wA) hwA ?_
  obtain ⟨key, hkey⟩ : ∃ key, l32 f = key := ⟨_, rfl⟩
  have hKey : BsAt wA (some ⟨w.heap.size, 0, none⟩) 32 32 key := by rw [← hkey]; exact bs_row hRA Hf.out (by omega)
  have HKey := Lib.hid hKey
  have Hkey := Lib.hid hkey
  have HI := Lib.hid (H.out.ext hEA)
  have HKA := Lib.hid (HK.out.ext' hEA)
  have HEA := Lib.hid hEA
  have Hil := Lib.hid H.out.len
  clear hwA hEA hRA hKey hkey
  obtain ⟨T, hT⟩ : ∃ T, hkT key info = T := ⟨_, rfl⟩
  obtain ⟨O, hO⟩ : ∃ O, hkO key info = O := ⟨_, rfl⟩
  have HT0 := Lib.hid (show T 0 = [] by rw [← hT]; rfl)
  have HO0 := Lib.hid (show O 0 = [] by rw [← hO]; rfl)
  have HTs := Lib.hid (show ∀ i : Nat, T (i + 1) = macL key (T i ++ (info ++ [((i : Int) + 1) % 256])) by intro i; rw [← hT]; rfl)
  have HOs := Lib.hid (show ∀ i : Nat, O (i + 1) = O i ++ T (i + 1) by intro i; rw [← hT, ← hO]; rfl)
  have HTl := Lib.hid (show ∀ i : Nat, (T i).length ≤ 32 by intro i; rw [← hT]; exact hkT_le key info i)
  have HOl := Lib.hid (show ∀ i : Nat, (O i).length = 32 * i by intro i; rw [← hO]; exact hkO_length key info i)
  have HOb := Lib.hid (show ∀ i : Nat, ∀ x ∈ O i, 0 ≤ x ∧ x < 256 by intro i; rw [← hO]; exact hkO_byte key info i)
  have HOe := Lib.hid (show (O ((n + 31) / 32)).take n = expandL key info n by rw [← hO]; rfl)
  clear hT hO
  go_wp2
  go_loopw [7, 8, 9] (fun o l i wr => ∃ (k : Nat) (ao : Option Addr) (co : Nat) (al : Option Addr) (cl : Nat), k ≤ (n + 31) / 32 ∧ i = .int .i64 ((k : Int) + 1) ∧ o = .slice ao (32 * k) co ∧ wr.ownsRow wA.heap.size 5 1 o (32 * k) (bv (O k)) ∧ l = .slice al (T k).length cl ∧ BsAt wr al (T k).length cl (T k) ∧ Ext wA wr) (fun o _ _ _ => match o with | .slice _ m _ => 8192 - m | _ => 0)
  case atStart => exact ⟨0, none, 0, none, 0, Nat.zero_le _, rfl, rfl, by rw [HO0.out]; exact World.ownsRow_nil _ _ _ _, by rw [HT0.out]; rfl, by rw [HT0.out]; exact ⟨rfl, Nat.le_refl _, by omega, by simp, by simp, fun h => by simp at h, fun _ => rfl⟩, Ext.refl _⟩
  case round =>
    obtain ⟨k, ao, co, al, cl, hk, rfl, rfl, hown, rfl, hB, hE⟩ := hrel
    by_cases hlt : 32 * k < n
    · obtain ⟨v, hv⟩ : ∃ v : Int, ((k : Int) + 1) % 256 = v := ⟨_, rfl⟩
      have hTk := HTs.out k
      rw [hv] at hTk
      obtain ⟨tk, htk⟩ : ∃ tk, T k = tk := ⟨_, rfl⟩
      have htl := HTl.out k
      rw [htk] at hB htl hTk ⊢
      have hv0 : 0 ≤ v := by omega
      have hv1 : v < 256 := by omega
      have x1 : 32 * (k : Int) < (n : Int) := by omega
      have Hvw := Lib.hid (show IntKind.u8.wrap ((k : Int) + 1) = v by simp [IntKind.wrap, IntKind.bits, IntKind.signed]; omega)
      have Hv := Lib.hid hv
      have HB := Lib.hid hB
      have HE := Lib.hid hE
      have Hown := Lib.hid hown
      have HTk := Lib.hid hTk
      clear hv hB hE hown hTk htk
      go_upto_region 5 with (fail)
      refine wp_region_lexT 10 (by kernel_rfl) (by kernel_rfl) ?_
      simp only [List.take_succ_cons, List.take_zero, List.drop_succ_cons, List.drop_zero]
      have HEr := Lib.hid (show ∀ x, Ext wr.drew x → Ext wr x from fun x hx => Ext.trans (Ext.refl wr).drew hx)
      have HX1 := Lib.hid (show ∀ x, Ext wr.drew x → Ext wA x from fun x hx => HE.out.trans (HEr.out x hx))
      refine lex_e (.slice (some ⟨w.heap.size, 0, none⟩) 32 32) [] (by kernel_rfl) rfl .nil (fun w1 hw1 => ?_) ?_
      · simp only [lexVals]
        go_simp
        exact ⟨Ext.refl _, rfl⟩
      refine lex_e (.slice al tk.length cl) [] (by kernel_rfl) rfl .nil (fun w1 hw1 => ?_) ?_
      · simp only [lexVals]
        go_simp
        exact ⟨Ext.refl _, rfl⟩
      refine lex_e (.slice b m d) [] (by kernel_rfl) rfl .nil (fun w1 hw1 => ?_) ?_
      · simp only [lexVals]
        go_simp
        exact ⟨Ext.refl _, rfl⟩
      refine lex_e (.int .i64 ((k : Int) + 1)) [] (by kernel_rfl) rfl .nil (fun w1 hw1 => ?_) ?_
      · simp only [lexVals]
        go_simp
        exact ⟨Ext.refl _, rfl⟩
      refine lex_e (.int .u8 v) [(0, 20)] (by kernel_rfl) rfl (.cons _ _ _ _ _ (.zero _ _) .nil) (fun w1 hw1 => ?_) ?_
      · simp only [lexVals]
        go_simp
        exact ⟨Ext.refl _, val_int Hvw.out⟩
      refine lex_a (fun u w => ∃ q c, u = .slice q 1 c ∧ BsAt w q 1 c [v]) [(0, 21)] (by kernel_rfl) rfl (fun u w w' he ⟨q, c, h1, h2⟩ => ⟨q, c, h1, h2.ext he⟩) (.cons _ _ _ _ _ (.zero _ _) .nil) (fun w1 hw1 => ?_) ?_
      · simp only [lexVals]
        go_simp
        exact ⟨(Ext.refl w1).alloc _, _, _, rfl, bs_new w1 [v] #[.int .u8 v] 5 (0, 0) rfl (by simp; omega) (by simp)⟩
      refine lex_a (fun u w => ∃ q c, u = .slice q 3 c ∧ PsAt w q 3 c (([tk] ++ [info]) ++ [[v]])) [(4, 18), (3, 19), (0, 22)] (by kernel_rfl) rfl (fun u w w' he ⟨q, c, h1, h2⟩ => ⟨q, c, h1, h2.ext he⟩) (.cons _ _ _ _ _ (.succ _ _ _ _ (.succ _ _ _ _ (.succ _ _ _ _ (.succ _ _ _ _ (.zero _ _))))) (.cons _ _ _ _ _ (.succ _ _ _ _ (.succ _ _ _ _ (.succ _ _ _ _ (.zero _ _)))) (.cons _ _ _ _ _ (.zero _ _) .nil))) (fun w1 hw1 => ?_) ?_
      · simp only [lexVals]
        rintro u ⟨q, c, rfl, hq⟩
        have hV := ((PsV.one (HB.out.ext (HEr.out w1 hw1))).append (PsV.one (HI.out.ext (HX1.out w1 hw1)))).append (PsV.one hq)
        have HV := Lib.hid hV
        clear hV hq hw1
        go_simp
        exact ⟨(Ext.refl w1).alloc _, _, _, rfl, ps_new HV.out 41 (by omega)⟩
      have hxl : (tk ++ (info ++ [v])).length = tk.length + m + 1 := by rw [List.length_append, List.length_append, Hil.out]; simp; omega
      obtain ⟨xs, hxs⟩ : ∃ xs, tk ++ (info ++ [v]) = xs := ⟨_, rfl⟩
      have Hfl := Lib.hid (show (([tk] ++ [info]) ++ [[v]]).flatten = xs by rw [← hxs]; simp)
      rw [hxs] at hxl HTk
      have Hxl := Lib.hid hxl
      clear hxs hxl
      refine lex_a (fun u w => ∃ q c, u = .slice q xs.length c ∧ BsAt w q xs.length c xs) [(0, 23)] (by kernel_rfl) rfl (fun u w w' he ⟨q, c, h1, h2⟩ => ⟨q, c, h1, h2.ext he⟩) (.cons _ _ _ _ _ (.zero _ _) .nil) (fun w1 hw1 => ?_) ?_
      · simp only [lexVals]
        rintro u ⟨q, c, rfl, hq⟩
        have hj := joined_any _ _ _ _ _ hq (by rw [Hfl.out, Hxl.out]; omega)
        rw [Hfl.out] at hj
        have HJ := Lib.hid hj
        clear hq hj hw1
        go_simp
        refine HJ.out.mono ?_
        rintro e w2 ⟨q2, c2, rfl, hB2, hE2⟩
        exact ⟨_, rfl, hE2, _, _, rfl, hB2⟩
      obtain ⟨F, hF⟩ : ∃ F : Nat → Int, macF key xs = F := ⟨_, rfl⟩
      have hTn : T (k + 1) = l32 F := by rw [HTk.out, ← hF]; rfl
      have hFb : ∀ j, j < 32 → 0 ≤ F j ∧ F j < 256 := fun j _ => by rw [← hF]; exact macF_byte _ _ j
      have HF := Lib.hid hF
      have HTn := Lib.hid hTn
      have HFb := Lib.hid hFb
      clear hF hTn hFb HTk
      refine lex_e (.agg (rowArr 32 fun j => .int .u8 (F j))) [(7, 17), (0, 24)] (by kernel_rfl) rfl (.cons _ _ _ _ _ (.succ _ _ _ _ (.succ _ _ _ _ (.succ _ _ _ _ (.succ _ _ _ _ (.succ _ _ _ _ (.succ _ _ _ _ (.succ _ _ _ _ (.zero _ _)))))))) (.cons _ _ _ _ _ (.zero _ _) .nil)) (fun w1 hw1 => ?_) ?_
      · simp only [lexVals]
        rintro u ⟨q, c, rfl, hq⟩
        have hmac := refMac_any _ _ _ _ _ _ _ _ w1 (HKey.out.ext (HX1.out w1 hw1)) hq (by rw [Hxl.out]; omega) (by omega) (HKA.out.ext' (HX1.out w1 hw1))
        rw [HF.out] at hmac
        have HM := Lib.hid hmac
        clear hq hmac hw1
        go_simp
        refine HM.out.mono ?_
        rintro e w2 ⟨rfl, hE2⟩
        exact ⟨_, rfl, hE2, rfl⟩
      refine lex_a (fun u w => ∃ g, u = .pointer (some ⟨g, 0, none⟩) ∧ wr.heap.size ≤ g ∧ w.rowIs g 22 32 (fun _ => .int .u8 0)) [] (by kernel_rfl) rfl (fun u w w' he ⟨g, h1, h2, h3⟩ => ⟨g, h1, h2, h3.of_block (he.block h3.lt)⟩) .nil (fun w1 hw1 => ?_) ?_
      · simp only [lexVals]
        have Hs := Lib.hid (Below.size (HEr.out w1 hw1))
        clear hw1
        go_simp
        exact ⟨(Ext.refl w1).alloc _, _, rfl, Hs.out, start_zero32 _ w1⟩
      refine lex_stop ?_
      intro w2 hw2
      simp only [lexPick, lexVals, List.reverse_cons, List.reverse_nil, List.nil_append, List.cons_append, List.range, List.range.loop, List.map_cons, List.map_nil, List.getElem?_cons_zero, List.getElem?_cons_succ, Option.bind_some, Option.getD_some]
      rintro v1 ⟨q1, c1, rfl, -⟩ v2 ⟨q2, c2, rfl, -⟩ v3 ⟨q3, c3, rfl, -⟩ v4 ⟨g, rfl, hg, hZ⟩
      simp only [Act.put, List.setIfInBounds_toArray, List.set_cons_zero, List.set_cons_succ]
      have hE2 := HEr.out w2 hw2
      have Hz := Lib.hid (rowIs_cells hZ)
      have HE2 := Lib.hid hE2
      have HZ := Lib.hid hZ
      clear hE2 hw2 hZ
      go_upto_region 7 with (refine wpList_store_row rfl 22 _ _ rfl _ _ rfl rfl _ _ Hz.out (by kernel_rfl) (by rw [rowArr_size, rowArr_size]) (rowArr_one fun _ _ => rfl) ?_)
      have hR3 := rowIs_setRow (g := fun j => .int .u8 (F j)) HZ.out
      obtain ⟨w3, hw3⟩ : ∃ w3, w2.setRow g (rowArr 32 fun j => .int .u8 (F j)) = w3 := ⟨_, rfl⟩
      have hE3 : Ext wr w3 := by rw [← hw3]; exact below_setRow HE2.out hg _
      rw [hw3] at hR3
      refine wp_world (w' := w3) hw3 ?_
      have hB6 : BsAt w3 (some ⟨g, 0, none⟩) 32 32 (l32 F) := bs_row hR3 HFb.out (by omega)
      have hown6 : w3.ownsRow wA.heap.size 5 1 (.slice ao (32 * k) co) (32 * k) (bv (O k)) := Hown.out.kept (row := none) (grown_ext hE3 none) (by
        cases ao with
        | none => exact Or.inl rfl
        | some ad => right; simp [Value.ownBlock])
      have hne := own_row_ne hown6 hR3 (by decide)
      have Hown6 := Lib.hid hown6
      have HB6 := Lib.hid hB6
      have Hne := Lib.hid hne
      have HE6 := Lib.hid (HE.out.trans hE3)
      have hs6 := Below.size (HE.out.trans hE3)
      clear hw3 hE3 hR3 hB6 hown6 hne Hown HE HE2 HZ Hz
      go_wp2_with (at_builtin; refine append_bsG rfl (.tmp 27) (.tmp 28) rfl wA.heap.size _ (32 * k) (O k) rfl Hown6.out _ 32 32 (l32 F) rfl HB6.out (by omega) (by omega) ?_)
      intro v7 w7 hown7 hB7 hG7
      obtain ⟨a7, c7, rfl, hc7a, hc7b⟩ := owns_slice hown7
      have hB7' : BsAt w7 (some ⟨g, 0, none⟩) 32 32 (l32 F) := HB6.out.grownO hG7 (fun _ b off e => by
        simp only [Option.some.injEq, Addr.mk.injEq, and_true] at e
        obtain ⟨rfl, rfl⟩ := e
        exact Hne.out)
      have hOk : bv (O k ++ l32 F) = bv (O (k + 1)) := by rw [HOs.out, HTn.out]
      rw [hOk] at hown7
      have Hown7 := Lib.hid hown7
      have HB7 := Lib.hid hB7'
      have HE7 := Lib.hid (HE6.out.trans' hB7)
      clear hown7 hB7 hG7 hB7' hOk Hown6 HB6 Hne HE6
      go_wp2
      go_roundw
      case rel =>
        have hl : (T (k + 1)).length = 32 := by rw [HTn.out, l32_length]
        refine ⟨k + 1, a7, c7, some ⟨g, 0, none⟩, 32, by omega, val_int (by omega), by rw [show 32 * (k + 1) = 32 * k + 32 by omega], ?_, by rw [hl], ?_, HE7.out⟩
        · exact Hown7.out
        · rw [hl, HTn.out]
          exact HB7.out
      case measure => simp; omega
    · obtain rfl : k = (n + 31) / 32 := by omega
      obtain ⟨_, _, he, hc1, hc2⟩ := owns_slice hown
      injection he with he1 he2 he3
      subst he1
      subst he3
      unfold maxLen at hc2
      have x1 : ¬ 32 * (((n + 31) / 32 : Nat) : Int) < (n : Int) := by omega
      have x2 : (n : Int) ≤ (co : Int) := by omega
      have x3 : (n : Int) ≤ 32 * (((n + 31) / 32 : Nat) : Int) := by omega
      obtain ⟨q, hq⟩ : ∃ q, (n + 31) / 32 = q := ⟨_, rfl⟩
      rw [hq] at hown HOe x1 x3 hc1 ⊢
      have Hq := Lib.hid hq
      have Hown := Lib.hid hown
      have HE := Lib.hid hE
      clear hown hE hB hq he2 hk hlt
      go_wp2
      go_ret
      have hbs := owns_bs Hown.out (HOb.out q) (by omega) (by have := Hq.out; omega)
      have hcut := hbs.cut (m := n) (c' := co) (by omega) (by omega) (by omega)
      rw [HOe.out] at hcut
      rw [Hkey.out]
      exact ⟨_, _, rfl, hcut, HEA.out.trans HE.out, owns_new Hown.out (by omega) (by omega)⟩

end Go.Proofs.YtppidlpblkihbaaDoor
