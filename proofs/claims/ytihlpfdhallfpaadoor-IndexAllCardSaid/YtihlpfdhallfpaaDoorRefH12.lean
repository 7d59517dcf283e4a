/-
  The walk of jalousieref01.Sum. Asked: the table of 64 words lies as the text lays it; the text is not longer than 2^40 bytes.
  The walk of jalousieref12.Hash. Asked: the table of 64 words lies as the text lays it.
-/
import Derived.Test.YtihlpfdhallfpaaDoorSumB
import Derived.Test.YtihlpfdhallfpaaDoorRefHdB
import Derived.Test.YtihlpfdhallfpaaDoorHdHash
namespace Go.Proofs.YtihlpfdhallfpaaDoor
open Go.ChangeAt Go.ChangeShapes Go.RowKit Go.WideShapes

theorem U_tdiv8 (x : BitVec 32) : (U x).tdiv (8 : Int) = U (x >>> (3 : Nat)) := by rw [Int.tdiv_eq_ediv_of_nonneg (U_lo x), U_div8]
theorem U_tdiv1024 (x : BitVec 32) : (U x).tdiv (1024 : Int) = U (x >>> (10 : Nat)) := by rw [Int.tdiv_eq_ediv_of_nonneg (U_lo x), U_div1024]
theorem U_modm (x : BitVec 32) : U x % 4294967296 = U x := by
  have h1 := U_lo x
  have h2 := U_hi x
  omega

attribute [local go_sem] U_xor U_and U_or U_addm U_subm U_not U_lo U_tdiv8 U_tdiv1024 U_modm U_sum3 U_sum4

/-- A text, its bit, and k noughts. -/
def padA (xs : List Int) (k : Nat) : List Int := xs ++ [128] ++ List.replicate k 0
theorem padA_zero (xs : List Int) : xs ++ [128] = padA xs 0 := by simp [padA]
theorem padA_succ (xs : List Int) (k : Nat) : padA xs k ++ [0] = padA xs (k + 1) := by
  unfold padA
  rw [List.replicate_succ', ← List.append_assoc]
/-- That, and j bytes of its length. -/
def padB (xs : List Int) (n j : Nat) : List Int := padA xs (zpad n) ++ (beB (8 * (n : Int)) 8).take j
theorem padB_zero (xs : List Int) (n : Nat) : padA xs (zpad n) = padB xs n 0 := by simp [padB]
theorem padB_succ (xs : List Int) (n j : Nat) (h : j < 8) : padB xs n j ++ [8 * (n : Int) / 2 ^ (8 * (7 - j)) % 256] = padB xs n (j + 1) := by
  have e : (beB (8 * (n : Int)) 8).take (j + 1) = (beB (8 * (n : Int)) 8).take j ++ [8 * (n : Int) / 2 ^ (8 * (7 - j)) % 256] := by
    rw [take_snoc (by rw [beB_length]; omega), beB_get _ 8 j h]
  unfold padB
  rw [e, List.append_assoc]
theorem padB_full (xs : List Int) : padB xs xs.length 8 = padL xs := by
  unfold padB padA padL
  rw [List.take_of_length_le (by rw [beB_length]; omega)]

theorem BsAt.cell {w : World} {b off n c : Nat} {xs : List Int} (h : BsAt w (some ⟨b, off, none⟩) n c xs) (i : Nat) (hi : i < n) : w.cell? ⟨b, off + i, none⟩ = some (.int .u8 (xs.getD i 0)) := by
  obtain ⟨b', off', ha, hc⟩ := h.at_ (by omega)
  simp only [Option.some.injEq, Addr.mk.injEq, and_true] at ha
  obtain ⟨rfl, rfl⟩ := ha
  exact hc i hi

theorem word_val (p xs4 : List Int) (k m q N : Nat) (v0 v1 v2 v3 : Int) (hb : ∀ x ∈ p, 0 ≤ x ∧ x < 256) (hl : p.length = N) (hx : (p.drop (64 * k)).take 64 = xs4) (hm : m < 16) (hN : 64 * k + 64 ≤ N)
    (h : 64 * k + 4 * m = q ∧ p.getD q 0 = v0 ∧ p.getD (q + 1) 0 = v1 ∧ p.getD (q + 2) 0 = v2 ∧ p.getD (q + 3) 0 = v3) : U (W xs4 m) = v0 * 16777216 + v1 * 65536 + v2 * 256 + v3 := by
  obtain ⟨rfl, rfl, rfl, rfl, rfl⟩ := h
  subst hx
  have hb' : ∀ x ∈ (p.drop (64 * k)).take 64, 0 ≤ x ∧ x < 256 := fun x hx => hb x (List.mem_of_mem_drop (List.mem_of_mem_take hx))
  rw [W_low _ m hm, U_wordAt _ m hb']
  have e : (((p.drop (64 * k)).take 64).drop (4 * m)).take 4 = [p.getD (64 * k + 4 * m) 0, p.getD (64 * k + 4 * m + 1) 0, p.getD (64 * k + 4 * m + 2) 0, p.getD (64 * k + 4 * m + 3) 0] := by
    refine List.ext_getElem (by simp; omega) fun i hi hj => ?_
    simp only [List.length_cons, List.length_nil] at hj
    have hgD : ∀ j, j < N → p.getD j 0 = p[j]?.getD 0 := fun j _ => rfl
    rw [List.getElem_take, List.getElem_drop, List.getElem_take, List.getElem_drop]
    rcases (by omega : i = 0 ∨ i = 1 ∨ i = 2 ∨ i = 3) with rfl | rfl | rfl | rfl <;> simp [List.getD_eq_getElem?_getD, Nat.add_assoc, (by omega : 64 * k + 4 * m < p.length), (by omega : 64 * k + (4 * m + 1) < p.length), (by omega : 64 * k + (4 * m + 2) < p.length), (by omega : 64 * k + (4 * m + 3) < p.length)]
  rw [e]
  unfold beI
  simp only [List.foldl_cons, List.foldl_nil]
  omega

theorem start_zero64 (T : TypeId) (w : World) : (w.alloc (.cells (Array.replicate 64 (.int .u32 0)) T)).rowIs w.heap.size T 64 (fun _ => .int .u32 0) :=
  World.rowIs_alloc w (Array.replicate 64 (.int .u32 0)) T (fun _ => .int .u32 0) (fun i hi => by
    simp at hi
    simp [hi])

set_option maxHeartbeats 4000000 in
set_option maxRecDepth 100000 in
theorem refSum_any (a : Option Addr) (n c : Nat) (xs : List Int) (w : World) (h : BsAt w a n c xs) (hn : n ≤ 140737488353280) (hk : KsAt 0 w) :
    Calls Tryd.prog 11 #[.slice a n c] w fun e w' => e = .returned (.agg (rowArr 32 fun j => .int .u8 (shaF xs j))) ∧ Ext w w' := by
  have hg0 : 0 < w.heap.size := World.block_lt_of_cell? w _ (hk 0 (by omega))
  have hlen := h.len
  have H := Lib.hid h
  have HK := Lib.hid hk
  have hzp : zpad n < 64 := by unfold zpad; omega
  have Hlen := Lib.hid hlen
  clear h hk hlen
  go_enter Tryd.func11, Tryd.ntmps11
  have hZ := start_zero32 27 w
  have hsA : (w.alloc (.cells (Array.replicate 32 (.int .u8 0)) 27)).heap.size = w.heap.size + 1 := by simp
  have hEA : Ext w (w.alloc (.cells (Array.replicate 32 (.int .u8 0)) 27)) := (Ext.refl w).alloc _
  have HsA := Lib.hid hsA
  have HEA := Lib.hid hEA
  have HZ := Lib.hid hZ
  clear hZ hEA hsA
  go_wp2_with (at_builtin; refine append_bs (w := w.alloc (.cells (Array.replicate 32 (.int .u8 0)) 27)) rfl _ _ rfl (w.alloc (.cells (Array.replicate 32 (.int .u8 0)) 27)).heap.size _ 0 [] rfl (World.ownsRow_nil _ _ _ _) _ _ _ xs rfl (H.out.ext HEA.out) (by omega) (Nat.le_refl _) ?_)
  generalize w.alloc (.cells (Array.replicate 32 (.int .u8 0)) 27) = wA at HsA HEA HZ ⊢
  intro v1 w1 hown1 hB1
  obtain ⟨B, hBe⟩ : ∃ B, w.heap.size + 1 = B := ⟨_, rfl⟩
  rw [hBe] at hown1 hB1 HsA
  have hBA : B ≤ wA.heap.size := by have := HsA.out; omega
  have HBe := Lib.hid hBe
  clear hBe
  have hs1 := Nat.le_trans hBA (Below.size hB1)
  go_wp2_with (at_builtin; refine append_byte rfl _ _ rfl B v1 n xs rfl (hown1.alloc _) w1.heap.size 128 rfl (new_cell _ _ _) (by omega) (by simp; omega) ?_)
  intro v2 w2 hown2 hB2
  rw [padA_zero] at hown2
  have hB02 : Below B wA w2 := (hB1.alloc hs1 _).trans hB2
  obtain ⟨ao2, cv2, rfl, hcv1, hcv2⟩ := owns_slice hown2
  have Hown2 := Lib.hid hown2
  have HB02 := Lib.hid hB02
  clear hown1 hB1 hB2 hs1 hown2 hB02 hcv1 hcv2
  go_wp2
  go_loopw [3] (fun u wr => ∃ (k : Nat) (ao : Option Addr) (cv : Nat), k ≤ zpad n ∧ u = .slice ao (n + 1 + k) cv ∧ wr.ownsRow B 5 1 u (n + 1 + k) (bv (padA xs k)) ∧ Below B wA wr)
    (fun u _ => match u with | .slice _ m _ => n + 1 + zpad n - m | _ => 0)
  case atStart => exact ⟨0, ao2, cv2, Nat.zero_le _, rfl, Hown2.out, HB02.out⟩
  case round =>
    obtain ⟨k, ao, cv, hk, rfl, hown, hB⟩ := hrel
    have hs := Nat.le_trans hBA hB.size
    by_cases hlt : k < zpad n
    · have ht : ((((n + 1 + k : Nat) : Int) % 64) != 56) = true := by
        rw [bne_iff_ne]; unfold zpad at hlt; omega
      have ht2 : ((((n : Int) + 1 + (k : Int)) % 64) != 56) = true := by
        rw [bne_iff_ne]; unfold zpad at hlt; omega
      go_wp2_with (at_builtin; refine append_byte rfl _ _ rfl B _ (n + 1 + k) _ rfl (hown.alloc _) wr.heap.size 0 rfl (new_cell _ _ _) (by omega) (by simp; omega) ?_)
      intro v3 w3 hown3 hB3
      have hB03 : Below B wA w3 := (hB.alloc hs _).trans hB3
      obtain ⟨ao2, cv2, rfl, _, _⟩ := owns_slice hown3
      rw [padA_succ] at hown3
      have Hown := Lib.hid hown3
      clear ht ht2 hown3 hown
      go_wp2
      go_roundw
      case rel => exact ⟨k + 1, ao2, cv2, by omega, by rw [Nat.add_assoc], Hown.out, hB03⟩
      case measure => simp; omega
    · obtain rfl : k = zpad n := by omega
      have ht : ((((n : Int) + 1 + (zpad n : Int)) % 64) != 56) = false := by
        rw [bne_eq_false_iff_eq]; unfold zpad; omega
      have hw : IntKind.u64.wrap (n : Int) = (n : Int) := by simp [IntKind.wrap, IntKind.bits, IntKind.signed]; omega
      have hw8 : IntKind.u64.wrap ((n : Int) * 8) = 8 * (n : Int) := by simp [IntKind.wrap, IntKind.bits, IntKind.signed]; omega
      go_wp2
      rw [padB_zero] at hown
      go_loopw [3, 5] (fun u i wr => ∃ (j : Nat) (ao : Option Addr) (cv : Nat), j ≤ 8 ∧ i = .int .i64 (7 - (j : Int)) ∧ u = .slice ao (n + 1 + zpad n + j) cv ∧ wr.ownsRow B 5 1 u (n + 1 + zpad n + j) (bv (padB xs n j)) ∧ Below B wA wr)
        (fun _ i _ => (intOf i + 1).toNat)
      case atStart => exact ⟨0, ao, cv, Nat.zero_le _, rfl, rfl, hown, hB⟩
      case round =>
        obtain ⟨j, ao, cv, hj, rfl, rfl, hown, hB⟩ := hrel
        have hs := Nat.le_trans hBA hB.size
        by_cases hlt : j < 8
        · have x1 : (0 : Int) ≤ 7 - (j : Int) := by omega
          have e1 : IntKind.u64.wrap (8 * (7 - (j : Int))) = 8 * (7 - (j : Int)) := by simp [IntKind.wrap, IntKind.bits, IntKind.signed]; omega
          have e2 : (8 * (7 - (j : Int))).toNat = 8 * (7 - j) := by omega
          have e3 : IntKind.i64.wrap (8 * (7 - (j : Int))) = 8 * (7 - (j : Int)) := IntWalk.i64_in _ (by omega)
          have e4 : 8 * (7 - (j : Int)) < 64 := by omega
          go_wp2_with (at_builtin; refine append_byte rfl _ _ rfl B _ (n + 1 + zpad n + j) _ rfl (hown.alloc _) wr.heap.size (8 * (n : Int) / 2 ^ (8 * (7 - j)) % 256) rfl (new_cell _ _ _) (by omega) (by simp; omega) ?_)
          intro v3 w3 hown3 hB3
          have hB03 : Below B wA w3 := (hB.alloc hs _).trans hB3
          obtain ⟨ao2, cv2, rfl, _, _⟩ := owns_slice hown3
          rw [padB_succ xs n j hlt] at hown3
          have Hown := Lib.hid hown3
          have hd : 7 - (j : Int) - 1 = 7 - ((j + 1 : Nat) : Int) := by omega
          have Hd := Lib.hid hd
          clear hd hown3 hown e1 e2 e3 e4
          go_wp2
          go_roundw
          case rel => exact ⟨j + 1, ao2, cv2, by omega, by rw [← Hd.out], by rw [Nat.add_assoc], Hown.out, hB03⟩
          case measure => simp [intOf]; omega
        · obtain rfl : j = 8 := by omega
          have x1 : ¬ (0 : Int) ≤ 7 - ((8 : Nat) : Int) := by omega
          rw [← Hlen.out, padB_full, Hlen.out] at hown
          obtain ⟨N, hN⟩ : ∃ N, n + 1 + zpad n + 8 = N := ⟨_, rfl⟩
          rw [hN] at hown ⊢
          have hpl : (padL xs).length = N := by rw [padL_length, Hlen.out, hN]
          have hpb := padL_blocks xs
          obtain ⟨p, hp⟩ : ∃ p, padL xs = p := ⟨_, rfl⟩
          have hres : ∀ j, shaF xs j = (beB (U ((sumS p (p.length / 64)).get (j / 4))) 4).getD (j % 4) 0 := fun j => by unfold shaF; rw [hp]
          have hby := padL_byte xs H.out.byte
          rw [hp] at hown hpl hpb hby
          rw [hpl] at hpb hres
          obtain ⟨M, hM⟩ : ∃ M, N / 64 = M := ⟨_, rfl⟩
          rw [hM] at hpb hres
          obtain ⟨ao', cv', he, hc1, hc2⟩ := owns_slice hown
          injection he with he1 _ he3
          subst he1
          subst he3
          have hlts : ∀ b off, ao = some ⟨b, off, none⟩ → b < wr.heap.size := fun b off e => (hown.lt b (by rw [e]; rfl)).2
          have hP := owns_bs hown hby (by unfold maxLen at hc2; omega) (by omega)
          have hpos : 0 < N := by omega
          have hbig : N ≤ 140737488355328 := by omega
          obtain ⟨b3, off3, rfl, -⟩ := hP.at_ hpos
          have hltb := hlts b3 off3 rfl
          have HP := Lib.hid hP
          have HN := Lib.hid hN
          have Hpb := Lib.hid hpb
          have Hres := Lib.hid hres
          have HB := Lib.hid hB
          clear hP hN hpb hres hown hM hp hby hpl hlts hB
          go_wp2
          obtain ⟨w4, hw4⟩ : ∃ w4, wr = w4 := ⟨_, rfl⟩
          rw [hw4] at HP HB hltb ⊢
          clear hw4
          have hSz : (w4.alloc (.cells #[.int .u32 1779033703, .int .u32 3144134277, .int .u32 1013904242, .int .u32 2773480762, .int .u32 1359893119, .int .u32 2600822924, .int .u32 528734635, .int .u32 1541459225] 78)).rowIs w4.heap.size 78 8 (fun i => .int .u32 (U ((sumS p 0).get i))) := rowIs_of (heap_new w4 _ _ rfl)
          obtain ⟨wz, hwz⟩ : ∃ wz, w4.alloc (.cells #[.int .u32 1779033703, .int .u32 3144134277, .int .u32 1013904242, .int .u32 2773480762, .int .u32 1359893119, .int .u32 2600822924, .int .u32 528734635, .int .u32 1541459225] 78) = wz := ⟨_, rfl⟩
          have hEz : Ext w4 wz := by rw [← hwz]; exact (Ext.refl w4).alloc _
          have hsz : w4.heap.size < wz.heap.size := by rw [← hwz]; simp
          rw [hwz] at hSz ⊢
          have HSz := Lib.hid hSz
          have HEz := Lib.hid hEz
          have hEB := Below.size HB.out
          clear hwz hSz hEz
          go_loopw [7] (fun i wr => ∃ k : Nat, k ≤ M ∧ i = .int .i64 (64 * (k : Int)) ∧ wr.rowIs w4.heap.size 78 8 (fun i => .int .u32 (U ((sumS p k).get i))) ∧ Ext w4 wr ∧ w4.heap.size < wr.heap.size)
            (fun i _ => M - ((intOf i).toNat / 64))
          case atStart => exact ⟨0, Nat.zero_le _, rfl, HSz.out, HEz.out, hsz⟩
          case round =>
            obtain ⟨k, hk, rfl, hR, hE, hsk⟩ := hrel
            have hpb := Hpb.out
            by_cases hlt : k < M
            · have x1 : (0 : Int) ≤ 64 * (k : Int) := by omega
              have x2 : 64 * (k : Int) < (N : Int) := by omega
              have x3 : 64 * k + 64 ≤ N := by omega
              have HR := Lib.hid hR
              have HE := Lib.hid hE
              clear hR hE hpb
              go_wp2
              obtain ⟨w5, rfl⟩ : ∃ w5, w5 = wr := ⟨_, rfl⟩
              obtain ⟨xs4, hxs4⟩ : ∃ xs4, (p.drop (64 * k)).take 64 = xs4 := ⟨_, rfl⟩
              have HX := Lib.hid hxs4
              clear hxs4
              have hZ5 := start_zero64 79 w5
              go_loopw [9] (fun i wq => ∃ m : Nat, m ≤ 64 ∧ i = .int .i64 (m : Int) ∧ wq.rowIs w5.heap.size 79 64 (fun j => .int .u32 (if j < m then U (W xs4 j) else 0)) ∧ Ext w5 wq)
                (fun i _ => 64 - (intOf i).toNat)
              case atStart => exact ⟨0, Nat.zero_le _, rfl, hZ5.congr fun i _ => by simp, (Ext.refl _).alloc _⟩
              case round =>
                obtain ⟨m, hm, rfl, hW, hE5⟩ := hrel
                clear hZ5
                have hcap4 := HP.out.cap
                have hlim4 := HP.out.lim
                by_cases hm64 : m < 64
                · have y1 : (0 : Int) ≤ (m : Int) := by omega
                  have y2 : (m : Int) < 64 := by omega
                  by_cases hm16 : m < 16
                  · have y3 : (m : Int) < 16 := by omega
                    obtain ⟨q, hq⟩ : ∃ q : Nat, 64 * k + 4 * m = q := ⟨_, rfl⟩
                    have hq1 : 64 * (k : Int) + 4 * (m : Int) = (q : Int) := by omega
                    have hq4 : q + 4 ≤ N := by omega
                    have hPq := HP.out.ext (HE.out.trans hE5)
                    have c0 := hPq.cell q (by omega)
                    have c1 := hPq.cell (q + 1) (by omega)
                    have c2 := hPq.cell (q + 2) (by omega)
                    have c3 := hPq.cell (q + 3) (by omega)
                    have g0 := getD_byte HP.out.byte q
                    have g1 := getD_byte HP.out.byte (q + 1)
                    have g2 := getD_byte HP.out.byte (q + 2)
                    have g3 := getD_byte HP.out.byte (q + 3)
                    obtain ⟨v0, hv0⟩ : ∃ v, p.getD q 0 = v := ⟨_, rfl⟩
                    obtain ⟨v1', hv1⟩ : ∃ v, p.getD (q + 1) 0 = v := ⟨_, rfl⟩
                    obtain ⟨v2, hv2⟩ : ∃ v, p.getD (q + 2) 0 = v := ⟨_, rfl⟩
                    obtain ⟨v3, hv3⟩ : ∃ v, p.getD (q + 3) 0 = v := ⟨_, rfl⟩
                    rw [hv0] at c0 g0
                    rw [hv1] at c1 g1
                    rw [hv2] at c2 g2
                    rw [hv3] at c3 g3
                    have HV := Lib.hid (And.intro hq (And.intro hv0 (And.intro hv1 (And.intro hv2 hv3))))
                    have HW := Lib.hid hW
                    have z0 : (0 : Int) ≤ (q : Int) := by omega
                    have z1 : (q : Int) + 3 < (N : Int) := by omega
                    have z2 : (q : Int) + 2 < (N : Int) := by omega
                    have z3 : (q : Int) + 1 < (N : Int) := by omega
                    have z4 : (q : Int) < (N : Int) := by omega
                    have hcm := hW.cell hm64
                    have hfm := hW.frozen m
                    rw [if_neg (by omega)] at hcm
                    clear hPq hv0 hv1 hv2 hv3 hq hW
                    go_wp2_with fail
                    clear hq1
                    refine wp_region_quietT 31 (by kernel_rfl) (by kernel_rfl) ?_
                    simp only [List.take_succ_cons, List.take_zero, List.drop_succ_cons, List.drop_zero]
                    repeat (go_big_quiet_step (fail))
                    refine wpQuiet_nil ?_
                    intro _ hw'
                    obtain ⟨nq2, hw''⟩ := hw'
                    subst hw''
                    go_wp2
                    go_roundw
                    case rel =>
                      have hval := word_val p xs4 k m q N _ _ _ _ HP.out.byte HP.out.len HX.out hm16 x3 HV.out
                      refine ⟨m + 1, by omega, by go_num, ?_, (below_drewN' hE5 nq2).setCell (Nat.le_refl _) _⟩
                      refine (World.rowIs.set (w := wr.drewN nq2) HW.out m _).congr fun j hj => ?_
                      by_cases hjm : j = m
                      · subst hjm
                        rw [if_pos rfl, if_pos (by omega), hval]
                      · rw [if_neg hjm]
                        by_cases h2 : j < m
                        · rw [if_pos h2, if_pos (by omega)]
                        · rw [if_neg h2, if_neg (by omega)]
                    case measure => simp [intOf]; omega
                  · have y3 : ¬ (m : Int) < 16 := by omega
                    have hcm := hW.cell hm64
                    have hfm := hW.frozen m
                    have hc16 := hW.cell (show m - 16 < 64 by omega)
                    have hc15 := hW.cell (show m - 15 < 64 by omega)
                    have hc7 := hW.cell (show m - 7 < 64 by omega)
                    have hc2 := hW.cell (show m - 2 < 64 by omega)
                    rw [if_pos (by omega)] at hc16 hc15 hc7 hc2
                    rw [if_neg (by omega)] at hcm
                    have HW := Lib.hid hW
                    clear hW
                    have e15 : IntKind.i64.wrap ((m : Int) - 15) = (m : Int) - 15 := IntWalk.i64_in _ (by omega)
                    have e2 : IntKind.i64.wrap ((m : Int) - 2) = (m : Int) - 2 := IntWalk.i64_in _ (by omega)
                    have l15 : (0 : Int) ≤ (m : Int) - 15 := by omega
                    have l2 : (0 : Int) ≤ (m : Int) - 2 := by omega
                    have t15 : ((m : Int) - 15).toNat = m - 15 := by omega
                    have t2 : ((m : Int) - 2).toNat = m - 2 := by omega
                    have u15' : (m : Int) - 15 < 64 := by omega
                    have u2' : (m : Int) - 2 < 64 := by omega
                    go_wp2_with fail
                    go_quiet (first
                      | (go_at_call 27; exact quiet_left (turn_pos _ _ _ (by omega) (by omega)))
                      | (go_at_call 27; exact quiet_add_left (turn_pos _ _ _ (by omega) (by omega))))
                    go_wp2_with fail
                    go_quiet (first
                      | (go_at_call 27; exact quiet_left (turn_pos _ _ _ (by omega) (by omega)))
                      | (go_at_call 27; exact quiet_add_left (turn_pos _ _ _ (by omega) (by omega))))
                    go_wp2_with fail
                    clear e15 e2 t15 t2
                    have e16 : IntKind.i64.wrap ((m : Int) - 16) = (m : Int) - 16 := IntWalk.i64_in _ (by omega)
                    have e7 : IntKind.i64.wrap ((m : Int) - 7) = (m : Int) - 7 := IntWalk.i64_in _ (by omega)
                    have l16 : (0 : Int) ≤ (m : Int) - 16 := by omega
                    have l7 : (0 : Int) ≤ (m : Int) - 7 := by omega
                    have t16 : ((m : Int) - 16).toNat = m - 16 := by omega
                    have t7 : ((m : Int) - 7).toNat = m - 7 := by omega
                    have x16 : (m : Int) - 16 < 64 := by omega
                    have x7 : (m : Int) - 7 < 64 := by omega
                    have y16 : (16 : Int) ≤ (m : Int) := by omega
                    have y7 : (7 : Int) ≤ (m : Int) := by omega
                    refine wp_region_quietT 15 (by kernel_rfl) (by kernel_rfl) ?_
                    simp only [List.take_succ_cons, List.take_zero, List.drop_succ_cons, List.drop_zero]
                    repeat (go_big_quiet_step (fail))
                    refine wpQuiet_nil ?_
                    intro _ hw'
                    obtain ⟨nq2, hw''⟩ := hw'
                    subst hw''
                    clear e16 e7 t16 t7
                    go_wp2
                    go_roundw
                    case rel =>
                      refine ⟨m + 1, by omega, by go_num, ?_, (below_drewN' hE5 _).setCell (Nat.le_refl _) _⟩
                      have h0 := W_high xs4 m (by omega)
                      unfold s0 s1 at h0
                      rw [← h0]
                      refine (World.rowIs.set (w := wr.drewN _) HW.out m _).congr fun j hj => ?_
                      by_cases hjm : j = m
                      · subst hjm
                        rw [if_pos rfl, if_pos (by omega)]
                      · rw [if_neg hjm]
                        by_cases h2 : j < m
                        · rw [if_pos h2, if_pos (by omega)]
                        · rw [if_neg h2, if_neg (by omega)]
                    case measure => simp [intOf]; omega
                · obtain rfl : m = 64 := by omega
                  rw [show ((64 : Nat) : Int) = 64 from rfl]
                  have hW6 : wr.rowIs w5.heap.size 79 64 (fun j => .int .u32 (U (W xs4 j))) := hW.congr fun j hj => by rw [if_pos hj]
                  have hR6 : wr.rowIs w4.heap.size 78 8 (fun i => .int .u32 (U ((sumS p k).get i))) := HR.out.of_block (hE5.block hsk)
                  obtain ⟨st, hst⟩ : ∃ st, sumS p k = st := ⟨_, rfl⟩
                  have hnext : sumS p (k + 1) = mixS xs4 st := by rw [sumS, HX.out, hst]
                  rw [hst] at hR6
                  clear hW hst
                  have c0 : wr.cell? ⟨w4.heap.size, 0, none⟩ = some (.int .u32 (U st.a)) := hR6.cell (by omega)
                  have c1 : wr.cell? ⟨w4.heap.size, 1, none⟩ = some (.int .u32 (U st.b)) := hR6.cell (by omega)
                  have c2 : wr.cell? ⟨w4.heap.size, 2, none⟩ = some (.int .u32 (U st.c)) := hR6.cell (by omega)
                  have c3 : wr.cell? ⟨w4.heap.size, 3, none⟩ = some (.int .u32 (U st.d)) := hR6.cell (by omega)
                  have c4 : wr.cell? ⟨w4.heap.size, 4, none⟩ = some (.int .u32 (U st.e)) := hR6.cell (by omega)
                  have c5 : wr.cell? ⟨w4.heap.size, 5, none⟩ = some (.int .u32 (U st.f)) := hR6.cell (by omega)
                  have c6 : wr.cell? ⟨w4.heap.size, 6, none⟩ = some (.int .u32 (U st.g)) := hR6.cell (by omega)
                  have c7 : wr.cell? ⟨w4.heap.size, 7, none⟩ = some (.int .u32 (U st.h)) := hR6.cell (by omega)
                  have Hnext := Lib.hid hnext
                  have HW6 := Lib.hid hW6
                  have HR6 := Lib.hid hR6
                  have HE5 := Lib.hid hE5
                  clear hnext hW6 hR6 hE5
                  go_wp2_with fail
                  go_quiet (fail)
                  go_wp2_with fail
                  clear c0 c1 c2 c3 c4 c5 c6 c7
                  trace "L5"
                  go_loopw [13, 14, 15, 16, 17, 18, 19, 20, 21] (fun va vb vc vd ve vf vg vh i wv => ∃ (t : Nat) (s : S8), t ≤ 64 ∧ i = .int .i64 (t : Int) ∧ rnds xs4 st t = s ∧ va = .int .u32 (U s.a) ∧ vb = .int .u32 (U s.b) ∧ vc = .int .u32 (U s.c) ∧ vd = .int .u32 (U s.d) ∧ ve = .int .u32 (U s.e) ∧ vf = .int .u32 (U s.f) ∧ vg = .int .u32 (U s.g) ∧ vh = .int .u32 (U s.h) ∧ ∃ nd, wv = wr.drewN nd)
                    (fun _ _ _ _ _ _ _ _ i _ => 64 - (intOf i).toNat)
                  case atStart => exact ⟨0, st, Nat.zero_le _, rfl, rfl, rfl, rfl, rfl, rfl, rfl, rfl, rfl, rfl, _, rfl⟩
                  case round =>
                    obtain ⟨t, s, ht, rfl, hs8, rfl, rfl, rfl, rfl, rfl, rfl, rfl, rfl, nd, rfl⟩ := hrel
                    have Hs8 := Lib.hid hs8
                    clear hs8
                    by_cases ht64 : t < 64
                    · have hK : wr.cell? ⟨0, t, none⟩ = some (.int .u32 (U (K t))) := by
                        have h0 := HK.out t ht64
                        have hE4 : Ext wA w4 := Below.mono HB.out (Nat.le_of_eq HsA.out)
                        have hEw : Ext w wr := ((HEA.out.trans hE4).trans HE.out).trans HE5.out
                        rw [Ext.cell hEw hg0]
                        exact h0
                      have hw := HW6.out.cell ht64
                      have r1 : (0 : Int) ≤ (t : Int) := by omega
                      have r2 : (t : Int) < 64 := by omega
                      go_wp2_with fail
                      go_quiet (first
                        | (go_at_call 27; exact quiet_left (turn_pos _ _ _ (by omega) (by omega)))
                        | (go_at_call 27; exact quiet_add_left (turn_pos _ _ _ (by omega) (by omega))))
                      go_wp2_with (go_at_call 27; refine (turn_pos _ _ _ (by omega) (by omega)).mono ?_; rintro e w' ⟨rfl, rfl⟩)
                      go_wp2
                      go_roundw
                      case rel =>
                        refine ⟨t + 1, rnd (K t) (W xs4 t) s, by omega, by go_num, by rw [rnds, Hs8.out], ?_, rfl, rfl, rfl, ?_, rfl, rfl, rfl, _, rfl⟩
                        · rfl
                        · rfl
                      case measure => simp [intOf]; omega
                    · obtain rfl : t = 64 := by omega
                      rw [show ((64 : Nat) : Int) = 64 from rfl]
                      have d0 : wr.cell? ⟨w4.heap.size, 0, none⟩ = some (.int .u32 (U st.a)) := HR6.out.cell (by omega)
                      have d1 : wr.cell? ⟨w4.heap.size, 1, none⟩ = some (.int .u32 (U st.b)) := HR6.out.cell (by omega)
                      have d2 : wr.cell? ⟨w4.heap.size, 2, none⟩ = some (.int .u32 (U st.c)) := HR6.out.cell (by omega)
                      have d3 : wr.cell? ⟨w4.heap.size, 3, none⟩ = some (.int .u32 (U st.d)) := HR6.out.cell (by omega)
                      have d4 : wr.cell? ⟨w4.heap.size, 4, none⟩ = some (.int .u32 (U st.e)) := HR6.out.cell (by omega)
                      have d5 : wr.cell? ⟨w4.heap.size, 5, none⟩ = some (.int .u32 (U st.f)) := HR6.out.cell (by omega)
                      have d6 : wr.cell? ⟨w4.heap.size, 6, none⟩ = some (.int .u32 (U st.g)) := HR6.out.cell (by omega)
                      have d7 : wr.cell? ⟨w4.heap.size, 7, none⟩ = some (.int .u32 (U st.h)) := HR6.out.cell (by omega)
                      have f0 := HR6.out.frozen 0
                      have f1 := HR6.out.frozen 1
                      have f2 := HR6.out.frozen 2
                      have f3 := HR6.out.frozen 3
                      have f4 := HR6.out.frozen 4
                      have f5 := HR6.out.frozen 5
                      have f6 := HR6.out.frozen 6
                      have f7 := HR6.out.frozen 7
                      go_wp2
                      trace "L3 end"
                      go_roundw
                      case rel =>
                        refine ⟨k + 1, by omega, by go_num, ?_, ?_, ?_⟩
                        · rw [Hnext.out]
                          have hs64 := Hs8.out
                          subst hs64
                          exact rowIs_set8 (w := wr.drewN _) (g := fun i => .int .u32 (U ((mixS xs4 st).get i))) HR6.out
                        · exact below_set8 (below_drewN' (HE.out.trans HE5.out) _) (Nat.le_refl _) _ _ _ _ _ _ _ _
                        · have h1 := Below.size HE5.out
                          simp
                          omega
                      case measure => simp [intOf]; omega
            · obtain rfl : k = M := by omega
              have x3 : ¬ (64 * (k : Int) < (N : Int)) := by omega
              have HR := Lib.hid hR
              have HE := Lib.hid hE
              clear hR hE hpb
              go_wp2
              obtain ⟨w5, rfl⟩ : ∃ w5, w5 = wr := ⟨_, rfl⟩
              have hZ5 := start_zero32 27 w5
              obtain ⟨st, hst⟩ : ∃ st, sumS p k = st := ⟨_, rfl⟩
              have hE4 : Ext wA w4 := Below.mono HB.out (Nat.le_of_eq HsA.out)
              have hEw : Ext w w5 := (HEA.out.trans hE4).trans HE.out
              have hZw : w5.rowIs w.heap.size 27 32 (fun _ => .int .u8 0) := (HZ.out.of_block (HB.out.block _ (by have := HBe.out; omega))).of_block (HE.out.block (by have := HBe.out; omega))
              have HZw := Lib.hid hZw
              have HEw := Lib.hid hEw
              rw [hst] at Hres HR
              have hsw : w.heap.size < w5.heap.size := by have := HBe.out; omega
              clear hst hE4 hZw hEw
              go_loopw [25] (fun i wq => ∃ j : Nat, j ≤ 32 ∧ i = .int .i64 (j : Int) ∧ wq.rowIs w5.heap.size 27 32 (fun q => .int .u8 (if q < j then shaF xs q else 0)) ∧ Ext w5 wq)
                (fun i _ => 32 - (intOf i).toNat)
              case atStart => exact ⟨0, Nat.zero_le _, rfl, hZ5.congr fun i _ => by simp, (Ext.refl _).alloc _⟩
              case round =>
                obtain ⟨j, hj, rfl, hO, hE5⟩ := hrel
                clear hZ5
                have HE5 := Lib.hid hE5
                by_cases hj32 : j < 32
                · have hc1 := hO.cell hj32
                  have hf1 := hO.frozen j
                  rw [if_neg (by omega)] at hc1
                  have HO := Lib.hid hO
                  obtain ⟨d, hd⟩ : ∃ d, j / 4 = d := ⟨_, rfl⟩
                  obtain ⟨e, he⟩ : ∃ e, j % 4 = e := ⟨_, rfl⟩
                  have hval := Hres.out j
                  rw [hd, he, beB_get _ 4 e (by omega)] at hval
                  have Hval := Lib.hid hval
                  have hc2 := (HR.out.of_block (hE5.block hsk)).cell (show d < 8 by omega)
                  have q1 : (0 : Int) ≤ (j : Int) := by omega
                  have q2 : (j : Int) < 32 := by omega
                  have q3 : (j : Int) / 4 = (d : Int) := by omega
                  have q3' : (j : Int).tdiv 4 = (d : Int) := by rw [Int.tdiv_eq_ediv_of_nonneg q1]; exact q3
                  have q4 : (j : Int) % 4 = (e : Int) := by omega
                  have q4' : (j : Int).tmod 4 = (e : Int) := by rw [Int.tmod_eq_emod_of_nonneg q1]; exact q4
                  have q5 : (d : Int) < 8 := by omega
                  have q6 : (0 : Int) ≤ (d : Int) := by omega
                  have q7 : IntKind.u32.wrap (24 - 8 * (e : Int)) = 24 - 8 * (e : Int) := by simp [IntKind.wrap, IntKind.bits, IntKind.signed]; omega
                  have q8 : (24 - 8 * (e : Int)).toNat = 8 * (4 - 1 - e) := by omega
                  have q9 : 24 - 8 * (e : Int) < 32 := by omega
                  have q10 : (0 : Int) ≤ 24 - 8 * (e : Int) := by omega
                  have q11 : IntKind.i64.wrap (24 - 8 * (e : Int)) = 24 - 8 * (e : Int) := IntWalk.i64_in _ (by omega)
                  clear hval hd he hO hE5
                  go_wp2
                  trace "L6 round"
                  go_roundw
                  case rel =>
                    refine ⟨j + 1, by omega, by go_num, ?_, HE5.out.setCell (Nat.le_refl _) _⟩
                    refine (HO.out.set j _).congr fun q hq => ?_
                    by_cases hqj : q = j
                    · subst hqj
                      rw [if_pos rfl, if_pos (by omega), Hval.out]
                    · rw [if_neg hqj]
                      by_cases h2 : q < j
                      · rw [if_pos h2, if_pos (by omega)]
                      · rw [if_neg h2, if_neg (by omega)]
                  case measure => simp [intOf]; omega
                · obtain rfl : j = 32 := by omega
                  have hR1 : wr.rowIs w5.heap.size 27 32 (fun q => .int .u8 (shaF xs q)) := hO.congr fun q hq => by rw [if_pos (by omega)]
                  have hg := rowIs_cells hR1
                  have hz := rowIs_cells (HZw.out.of_block (hE5.block hsw))
                  have Hg := Lib.hid hg
                  have Hz := Lib.hid hz
                  clear hg hO hR1 hz hE5
                  trace "L6 exit"
                  go_wp2_with (first
                    | (refine wpList_load_row rfl 27 _ rfl _ rfl _ _ _ _ Hg.out Tryd.underlying27 rfl (by kernel_rfl) ?_)
                    | (refine wpList_store_row rfl 27 _ _ rfl _ _ rfl rfl _ _ Hz.out (by kernel_rfl) (by rw [rowArr_size, rowArr_size]) (rowArr_one fun _ _ => rfl) ?_))
                  refine bodyPost_ret (results_cell_row rfl _ _ w.heap.size _ _ _ _ rfl (setRow_heap wr w.heap.size _ _ _ _ Hz.out) Tryd.underlying27 rfl (by kernel_rfl)) rfl ⟨rfl, ?_⟩
                  exact below_setRow (HEw.out.trans HE5.out) (Nat.le_refl _) _

theorem h12_box (w : World) (A B : Array Value) (T U : TypeId) : ∃ w2, (w.alloc (.cells A T)).alloc (.cells B U) = w2 ∧ Ext w w2 ∧ w2.heap[w.heap.size]? = some (.cells A T (0, 0)) ∧ w2.heap[w.heap.size + 1]? = some (.cells B U (0, 0)) := by
  refine ⟨_, rfl, ((Ext.refl w).alloc _).alloc _, ?_, ?_⟩
  · exact Ext.keep ((Ext.refl (w.alloc (.cells A T))).alloc _) (heap_new w _ _ rfl)
  · exact heap_new _ _ _ (by simp)

set_option maxHeartbeats 2000000 in
set_option maxRecDepth 100000 in
theorem refHash12_any (h : Hd) (ts : List (Nat → Int)) (w : World) (ho : HdOk h) (ht : TsAt w h.ta h.tn h.tc ts) (hk : KsAt 0 w) :
    Calls Tryd.prog 79 #[.agg (hdV h)] w fun e w' => e = .returned (.agg (rowArr 32 fun j => .int .u8 (shaF (bytesL h ts) j))) ∧ Ext w w' := by
  obtain ⟨w2, hw2, hE2, hB2, hZ2⟩ := h12_box w (hdV h) (rowArr 32 fun _ => .int .u8 0) 34 28
  have hby := bytesL_byte ho ht.len ht.byte
  have hle := bytesL_le h ts
  have HBy := Lib.hid (refHdBytes_any h ts w2 ho (ht.ext hE2))
  obtain ⟨XS, hXS⟩ : ∃ X, bytesL h ts = X := ⟨_, rfl⟩
  rw [hXS] at hby hle HBy ⊢
  have hz := zero_h32
  have Hby := Lib.hid hby
  have Hw2 := Lib.hid hw2
  have HE2 := Lib.hid hE2
  have HB2 := Lib.hid hB2
  have HZ2 := Lib.hid hZ2
  have HK := Lib.hid hk
  have Hsz := Lib.hid (hdV_size h)
  obtain ⟨A, hA⟩ : ∃ A, hdV h = A := ⟨_, rfl⟩
  rw [hA] at HBy Hw2 HB2 Hsz ⊢
  clear hw2 hE2 hB2 hZ2 ho ht hk hA hXS hby
  go_enter Tryd.func79, Tryd.ntmps79
  go_upto_region 1 with (fail)
  refine wp_world (w' := w2) Hw2.out ?_
  obtain ⟨g, hg⟩ : ∃ g, w.heap.size = g := ⟨_, rfl⟩
  rw [hg] at HB2 HZ2 ⊢
  have Hg := Lib.hid (Nat.le_of_eq hg)
  clear hg Hw2
  go_wp2_with (refine wpList_load_rowW rfl 34 _ rfl g rfl _ _ _ _ HB2.out Tryd.underlying34 rfl (by rw [Hsz.out]; kernel_rfl) ?_)
  refine HBy.out.mono ?_
  rintro e w3 ⟨v3, rfl, hown, hE⟩
  obtain ⟨a3, c3, rfl, hc1, hc2⟩ := owns_slice hown
  have HB3 := Lib.hid (owns_bs hown Hby.out (by unfold maxLen at hc2; omega) (by omega))
  have HZ3 := Lib.hid (hE.keep HZ2.out)
  have HE3 := Lib.hid (HE2.out.trans hE)
  have HM := Lib.hid (refSum_any a3 _ c3 XS w3 HB3.out (by omega) (hdKs_ext HK.out HE3.out))
  clear hown hc1 hc2 hE HBy
  obtain ⟨N, hN⟩ : ∃ N, XS.length = N := ⟨_, rfl⟩
  rw [hN] at HM hle ⊢
  clear hN
  go_wp2_with fail
  refine HM.out.mono ?_
  rintro e w5 ⟨rfl, hE5⟩
  have HZ5 := Lib.hid (hE5.keep HZ3.out)
  have HE5 := Lib.hid (HE3.out.trans hE5)
  obtain ⟨F, hF⟩ : ∃ F, shaF XS = F := ⟨_, rfl⟩
  have HF := Lib.hid hF
  rw [hF]
  clear hE5 HM hF
  go_wp2_with (refine wpList_store_row rfl 28 _ _ rfl _ _ rfl rfl _ _ HZ5.out (by kernel_rfl) (by simp only [rowArr_size]) (rowArr_one fun _ _ => rfl) ?_)
  have hgg := Hg.out
  exact bodyPost_ret (results_cell_row rfl _ _ (g + 1) _ _ _ _ rfl (setRow_heap w5 (g + 1) _ _ _ _ HZ5.out) Tryd.underlying28 rfl (by kernel_rfl)) rfl ⟨by rw [HF.out], below_setRow HE5.out (by omega) _⟩

end Go.Proofs.YtihlpfdhallfpaaDoor
