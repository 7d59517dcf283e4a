/-
  The walks of jalousieref01.Mac and Expand. Asked: the table of 64 words lies as the text lays it; texts are not longer than 2^36 bytes.
-/
import Derived.Test.YtdgbcieopkilcaaDoorConv
import Derived.Test.YtdgbcieopkilcaaDoorRefSum
import Derived.Maps.AppendAt
namespace Go.Proofs.YtdgbcieopkilcaaDoor
open Go.ChangeShapes Go.WideShapes Go.ChangeAt Go.RowKit

/-- Two rows of bytes that the call owns, in unlike blocks. -/
def Two (B : Nat) (w : World) (vi vo : Value) (k m : Nat) (xi xo : List Int) : Prop :=
  w.ownsRow B 5 1 vi k (bv xi) ∧ w.ownsRow B 5 1 vo m (bv xo) ∧ ∀ g, vi.ownBlock = some g → vo.ownBlock ≠ some g

theorem Two.swap {B : Nat} {w : World} {vi vo : Value} {k m : Nat} {xi xo : List Int} (h : Two B w vi vo k m xi xo) : Two B w vo vi m k xo xi :=
  ⟨h.2.1, h.1, fun g h1 h2 => h.2.2 g h2 h1⟩
theorem Two.alloc {B : Nat} {w : World} {vi vo : Value} {k m : Nat} {xi xo : List Int} (h : Two B w vi vo k m xi xo) (o : Obj) : Two B (w.alloc o) vi vo k m xi xo :=
  ⟨h.1.alloc o, h.2.1.alloc o, h.2.2⟩

/-- One byte behind the first of two rows. -/
theorem append_two {w : World} {ops : Array Oper} {rest : List Oper} {o : Oper} {a : Act} {Q : Exit → Act → World → Prop} (hgd : o.guard = none) (s x : Operand) (ho : o.op = .call { callee := .builtin .append, args := #[s, x], argTypes := #[40, 40] })
    (B : Nat) (vi vo : Value) (n m : Nat) (xs ys : List Int) (hs : a.eval s = vi) (hT : Two B w vi vo n m xs ys)
    (g : Nat) (y : Int) (hx : a.eval x = .slice (some ⟨g, 0, none⟩) 1 1) (hc : w.cell? ⟨g, 0, none⟩ = some (.int .u8 y)) (hsz : n + 1 ≤ 140737488355328) (hB : B ≤ w.heap.size)
    (h : ∀ v' w', Two B w' v' vo (n + 1) m (xs ++ [y]) ys → Below B w w' → wpList Tryd.prog ops Q rest (a.put o.dst v') w') : wpList Tryd.prog ops Q (o :: rest) a w := by
  obtain ⟨i0, hi, hz0, hz1, hz2⟩ := info_parts info_u8
  obtain ⟨hown, hown2, hne⟩ := hT
  refine wpList_append_own_at w hgd s x 40 ho B 5 i0 (.int .u8 0) 1 1 Tryd.underlying40 hi hz0 hz1 hz2 rfl (by decide) vi n (bv xs) hs hown ⟨g, 0, none⟩ 1 1 (bv [y]) hx rfl (fun j u hu => ?_) (bv_one [y]) (by unfold maxLen; omega) (by omega) hB ?_
  · obtain ⟨hj, rfl⟩ := bv_get [y] j u hu
    obtain rfl : j = 0 := by simp at hj; omega
    rw [addr_add]
    exact hc
  · intro v' w' hown' hgrow _ hblk
    refine h v' w' ⟨by rw [bv_append]; exact hown', hown2.kept hgrow ?_, fun k hk hk2 => ?_⟩ ?_
    · cases hb : vo.ownBlock with
      | none => exact Or.inl rfl
      | some k => right; intro e; exact hne k e.symm hb
    · have := (hown2.lt k hk2).2
      rcases hblk with e | e
      · exact hne k (by rw [← e]; exact hk) hk2
      · rw [e] at hk
        injection hk with hk
        omega
    · exact (Below.refl B w).grown hgrow hB (fun k hk => (hown.lt k hk).1)

theorem padK_take (m : Int) (k : List Int) (i : Nat) (h : i < 64) : (padK m k).take (i + 1) = (padK m k).take i ++ [bits .xor .u8 (k.getD i 0) m] := by
  rw [take_snoc (by rw [padK_length]; exact h)]
  congr 2
  unfold padK
  simp [List.getD_eq_getElem?_getD, h]

theorem padK_full (m : Int) (k : List Int) : (padK m k).take 64 = padK m k := List.take_of_length_le (by rw [padK_length]; omega)

def RMacCut (key : List Int) (w : World) (H : Nat) (v : Value) (wc : World) : Prop :=
  ∃ ak nk ck, v = .slice ak nk ck ∧ nk ≤ 64 ∧ BsAt wc ak nk ck (macKey key) ∧ Ext w wc ∧ wc.rowIs H 22 32 (fun _ => .int .u8 0)

set_option maxHeartbeats 1000000 in
set_option maxRecDepth 100000 in
theorem refMac_any (a : Option Addr) (n c : Nat) (key : List Int) (b : Option Addr) (m d : Nat) (xs : List Int) (w : World) (hkey : BsAt w a n c key) (h : BsAt w b m d xs)
    (hs : m ≤ 140737488351232) (hnk : n ≤ 140737488351232) (hk : KsAt 0 w) :
    Calls Tryd.prog 13 #[.slice a n c, .slice b m d] w fun e w' => e = .returned (.agg (rowArr 32 fun j => .int .u8 (macF key xs j))) ∧ Ext w w' := by
  have hkc := hkey.cap
  have hkm := hkey.lim
  have hbc := h.cap
  have hbm := h.lim
  have Hkl := Lib.hid hkey.len
  have Hxl := Lib.hid h.len
  have HKey := Lib.hid hkey
  have H := Lib.hid h
  have HK := Lib.hid hk
  clear hkey h hk
  go_enter Tryd.func13, Tryd.ntmps13
  go_upto_if 15 with (fail)
  obtain ⟨wA, hwA⟩ : ∃ wA, w.alloc (.cells (Array.replicate 32 (.int .u8 0)) 22) = wA := ⟨_, rfl⟩
  have hEA : Ext w wA := by rw [← hwA]; exact (Ext.refl w).alloc _
  have hZA : wA.rowIs w.heap.size 22 32 (fun _ => .int .u8 0) := by rw [← hwA]; exact start_zero32 _ w
  have hsA : w.heap.size < wA.heap.size := by rw [← hwA]; simp
  refine wp_world (w' := wA) hwA ?_
  have HKA := Lib.hid (HKey.out.ext hEA)
  have HTA := Lib.hid (HK.out.ext' hEA)
  have HEA := Lib.hid hEA
  have HZA := Lib.hid hZA
  clear hwA hEA hZA
  go_cut [5] from 12 (fun v wc => RMacCut key w w.heap.size v wc)
  case first =>
    by_cases h64 : 64 < n
    · have x1 : (64 : Int) < (n : Int) := by omega
      have hsum := refSum_any _ _ _ _ _ HKA.out (by omega) HTA.out
      have HS := Lib.hid hsum
      clear hsum
      go_wp2_with fail
      refine HS.out.mono ?_
      rintro e w1 ⟨rfl, hE1⟩
      have HE1 := Lib.hid hE1
      clear hE1
      go_wp2_with (refine wpList_store_row rfl 22 _ _ rfl w1.heap.size _ rfl rfl _ _ (heap_new w1 _ _ rfl) (by kernel_rfl) (by rw [rowArr_size]; rfl) (rowArr_one fun _ _ => rfl) ?_; rw [setRow_new w1 _ _ _ _ rfl])
      go_meet
      case rel =>
        refine ⟨_, _, _, rfl, by omega, ?_, (HEA.out.trans HE1.out).alloc _, ?_⟩
        · rw [macKey_long (by rw [Hkl.out]; exact h64)]
          exact bs_sha (rowIs_of (heap_new w1 _ _ rfl))
        · exact (HZA.out.of_block (HE1.out.block hsA)).alloc _
    · have x1 : ¬ (64 : Int) < (n : Int) := by omega
      go_wp2_with fail
      go_meet
      case rel => exact ⟨_, _, _, rfl, by omega, by rw [macKey_short (by rw [Hkl.out]; omega)]; exact HKA.out, HEA.out, HZA.out⟩
  case rest =>
    obtain ⟨ak, nk, ck, rfl, hnk64, hB, hE, hZ⟩ := hcut
    have hkc2 := hB.cap
    have hkl2 := hB.lim
    obtain ⟨kk, hkk⟩ : ∃ kk, macKey key = kk := ⟨_, rfl⟩
    have hmac : ∀ j, macF key xs j = shaF (padK 92 kk ++ shaL (padK 54 kk ++ xs)) j := fun j => by rw [← hkk]; rfl
    rw [hkk] at hB
    have Hmac := Lib.hid hmac
    have HB := Lib.hid hB
    have HBc := Lib.hid (H.out.ext hE)
    have HTc := Lib.hid (HK.out.ext' hE)
    have HE := Lib.hid hE
    have HZ := Lib.hid hZ
    have hlt0 : w.heap.size < wc.heap.size := hZ.lt
    obtain ⟨pi, hpi⟩ : ∃ pi, padK 54 kk = pi := ⟨_, rfl⟩
    obtain ⟨po, hpo⟩ : ∃ po, padK 92 kk = po := ⟨_, rfl⟩
    have Hpi := Lib.hid (show ∀ i, i < 64 → pi.take (i + 1) = pi.take i ++ [bits .xor .u8 (kk.getD i 0) 54] by rw [← hpi]; exact fun i h => padK_take 54 kk i h)
    have Hpo := Lib.hid (show ∀ i, i < 64 → po.take (i + 1) = po.take i ++ [bits .xor .u8 (kk.getD i 0) 92] by rw [← hpo]; exact fun i h => padK_take 92 kk i h)
    have Hfi := Lib.hid (show pi.take 64 = pi by rw [← hpi]; exact padK_full 54 kk)
    have Hfo := Lib.hid (show po.take 64 = po by rw [← hpo]; exact padK_full 92 kk)
    have Hbi := Lib.hid (show ∀ x ∈ pi, 0 ≤ x ∧ x < 256 by rw [← hpi]; exact padK_byte 54 kk)
    have Hbo := Lib.hid (show ∀ x ∈ po, 0 ≤ x ∧ x < 256 by rw [← hpo]; exact padK_byte 92 kk)
    have Hli := Lib.hid (show pi.length = 64 by rw [← hpi]; exact padK_length 54 kk)
    have Hlo := Lib.hid (show po.length = 64 by rw [← hpo]; exact padK_length 92 kk)
    rw [hpi, hpo] at Hmac
    clear hmac hkk hB hE hZ HKA HTA HEA HZA hsA hpi hpo
    go_wp2
    go_loopw [7, 8, 9] (fun vi vo i wr => ∃ k : Nat, k ≤ 64 ∧ i = .int .i64 (k : Int) ∧ Two wc.heap.size wr vi vo k k (pi.take k) (po.take k) ∧ Ext wc wr) (fun _ _ i _ => 64 - (intOf i).toNat)
    case atStart => exact ⟨0, Nat.zero_le _, rfl, ⟨World.ownsRow_nil _ _ _ _, World.ownsRow_nil _ _ _ _, fun g h => by cases h⟩, Ext.refl _⟩
    case round =>
      obtain ⟨k, hk, rfl, hT, hE⟩ := hrel
      by_cases hlt : k < 64
      · have hsz := Below.size hE
        have x0 : (k : Int) < 64 := by omega
        have HE' := Lib.hid hE
        have HT := Lib.hid hT
        clear hT
        obtain ⟨x, hx⟩ : ∃ x, kk.getD k 0 = x := ⟨_, rfl⟩
        have Hi1 := Lib.hid (Hpi.out k hlt)
        have Ho1 := Lib.hid (Hpo.out k hlt)
        rw [hx] at Hi1 Ho1
        by_cases hkn : k < nk
        · obtain ⟨bk, ok, rfl, hc⟩ := HB.out.at_ (by omega)
          have c1 := hc k hkn
          rw [hx] at c1
          have c2 : wr.cell? ⟨bk, ok + k, none⟩ = some (.int .u8 x) := by
            rw [Ext.cell (p := ⟨bk, ok + k, none⟩) hE (World.block_lt_of_cell? wc _ c1)]
            exact c1
          have x1 : (k : Int) < (nk : Int) := by omega
          have x2 : (0 : Int) ≤ (k : Int) := by omega
          clear hx hc c1 hE
          go_wp2_with (at_builtin; refine append_two rfl (.tmp 31) (.tmp 34) rfl wc.heap.size _ _ k k _ _ rfl (HT.out.alloc _) wr.heap.size _ rfl (cell_one_new _ _ _ 0 _ rfl) (by omega) (by simp; omega) ?_)
          intro v3 w3 hT3 hB3
          rw [← Hi1.out] at hT3
          have hE3 : Ext wc w3 := Below.trans (B := wc.heap.size) (Below.alloc HE'.out hsz _) hB3
          have hsz3 := Below.size hE3
          have HT3 := Lib.hid hT3.swap
          have HE3 := Lib.hid hE3
          clear hT3 hB3 hE3
          go_wp2_with (at_builtin; refine append_two rfl (.tmp 36) (.tmp 39) rfl wc.heap.size _ _ k (k + 1) _ _ rfl (HT3.out.alloc _) w3.heap.size _ rfl (cell_one_new _ _ _ 0 _ rfl) (by omega) (by simp; omega) ?_)
          intro v4 w4 hT4 hB4
          rw [← Ho1.out] at hT4
          have hE4 : Ext wc w4 := Below.trans (B := wc.heap.size) (Below.alloc HE3.out hsz3 _) hB4
          have HT4 := Lib.hid hT4.swap
          have HE4 := Lib.hid hE4
          clear hT4 hB4 hE4 HT3
          go_wp2
          go_roundw
          case rel => exact ⟨k + 1, by omega, by go_num, HT4.out, HE4.out⟩
          case measure => simp [intOf]; omega
        · have x1 : ¬ (k : Int) < (nk : Int) := by omega
          have hkl := HB.out.len
          obtain rfl : x = 0 := by rw [← hx, List.getD_eq_getElem?_getD, List.getElem?_eq_none (by omega)]; rfl
          clear hx hE hkl
          go_wp2_with (at_builtin; refine append_two rfl (.tmp 31) (.tmp 34) rfl wc.heap.size _ _ k k _ _ rfl (HT.out.alloc _) wr.heap.size _ rfl (cell_one_new _ _ _ 0 _ rfl) (by omega) (by simp; omega) ?_)
          intro v3 w3 hT3 hB3
          rw [← Hi1.out] at hT3
          have hE3 : Ext wc w3 := Below.trans (B := wc.heap.size) (Below.alloc HE'.out hsz _) hB3
          have hsz3 := Below.size hE3
          have HT3 := Lib.hid hT3.swap
          have HE3 := Lib.hid hE3
          clear hT3 hB3 hE3
          go_wp2_with (at_builtin; refine append_two rfl (.tmp 36) (.tmp 39) rfl wc.heap.size _ _ k (k + 1) _ _ rfl (HT3.out.alloc _) w3.heap.size _ rfl (cell_one_new _ _ _ 0 _ rfl) (by omega) (by simp; omega) ?_)
          intro v4 w4 hT4 hB4
          rw [← Ho1.out] at hT4
          have hE4 : Ext wc w4 := Below.trans (B := wc.heap.size) (Below.alloc HE3.out hsz3 _) hB4
          have HT4 := Lib.hid hT4.swap
          have HE4 := Lib.hid hE4
          clear hT4 hB4 hE4 HT3
          go_wp2
          go_roundw
          case rel => exact ⟨k + 1, by omega, by go_num, HT4.out, HE4.out⟩
          case measure => simp [intOf]; omega
      · obtain rfl : k = 64 := by omega
        rw [Hfi.out, Hfo.out] at hT
        obtain ⟨a7, c7, rfl, h7a, h7b⟩ := owns_slice hT.1
        obtain ⟨a8, c8, rfl, h8a, h8b⟩ := owns_slice hT.2.1
        unfold maxLen at h7b h8b
        have hin := owns_bs hT.1 Hbi.out (by omega) (by omega)
        have hou := owns_bs hT.2.1 Hbo.out (by omega) (by omega)
        have hV := (PsV.one hin).append (PsV.one (HBc.out.ext hE))
        have hP := ps_new hV 40 (by omega)
        have hEP : Ext wr (wr.alloc (.cells #[.slice a7 64 c7, .slice b m d] 40)) := (Ext.refl wr).alloc _
        have hj := joined_any _ _ _ _ _ hP (by simp only [List.flatten_append, List.length_append, List.flatten_cons, List.flatten_nil, List.append_nil, Hli.out, Hxl.out]; omega)
        rw [show ([pi] ++ [xs]).flatten = pi ++ xs by simp] at hj
        have hxlen : (pi ++ xs).length = 64 + m := by rw [List.length_append, Hli.out, Hxl.out]
        obtain ⟨xi, hxi⟩ : ∃ xi, pi ++ xs = xi := ⟨_, rfl⟩
        rw [hxi] at hj hxlen Hmac
        have Hxi := Lib.hid hxlen
        have HJ := Lib.hid hj
        have HEP := Lib.hid (hE.trans hEP)
        have Hou := Lib.hid (hou.ext hEP)
        clear hT hin hou hV hP hEP hj hxi hxlen
        rw [show ((64 : Nat) : Int) = 64 from rfl]
        go_wp2_with fail
        refine HJ.out.mono ?_
        rintro e w5 ⟨a5, c5, rfl, hB5, hE5⟩
        have hsum := refSum_any _ _ _ _ _ hB5 (by rw [Hxi.out]; omega) (HTc.out.ext' (HEP.out.trans hE5))
        have HS := Lib.hid hsum
        have HE5 := Lib.hid (HEP.out.trans hE5)
        have HO5 := Lib.hid (Hou.out.ext hE5)
        clear hsum hB5 hE5 HJ HEP Hou
        go_wp2_with fail
        refine HS.out.mono ?_
        rintro e w6 ⟨rfl, hE6⟩
        have HE6 := Lib.hid (HE5.out.trans hE6)
        have HO6 := Lib.hid (HO5.out.ext hE6)
        clear hE6 HE5 HO5 HS
        go_upto_region 15 with (refine wpList_store_row rfl 22 _ _ rfl w6.heap.size _ rfl rfl _ _ (heap_new w6 _ _ rfl) (by kernel_rfl) (by rw [rowArr_size]; rfl) (rowArr_one fun _ _ => rfl) ?_; rw [setRow_new w6 _ _ _ _ rfl])
        obtain ⟨w7, hw7⟩ : ∃ w7, w6.alloc (.cells (rowArr 32 fun j => .int .u8 (shaF xi j)) 22) = w7 := ⟨_, rfl⟩
        have hE7 : Ext w6 w7 := by rw [← hw7]; exact (Ext.refl w6).alloc _
        have hR7 : w7.rowIs w6.heap.size 22 32 (fun j => .int .u8 (shaF xi j)) := by rw [← hw7]; exact rowIs_of (heap_new w6 _ _ rfl)
        refine wp_world (w' := w7) hw7 ?_
        have hV := (PsV.one (HO6.out.ext hE7)).append (PsV.one (bs_sha hR7))
        have hP := ps_new hV 40 (by omega)
        have hEP : Ext w7 (w7.alloc (.cells #[.slice a8 64 c8, .slice (some ⟨w6.heap.size, 0, none⟩) 32 32] 40)) := (Ext.refl w7).alloc _
        have hj := joined_any _ _ _ _ _ hP (by simp [Hlo.out, shaL_length])
        rw [show ([po] ++ [shaL xi]).flatten = po ++ shaL xi by simp] at hj
        have hxlen : (po ++ shaL xi).length = 96 := by rw [List.length_append, Hlo.out, shaL_length]
        obtain ⟨xo, hxo⟩ : ∃ xo, po ++ shaL xi = xo := ⟨_, rfl⟩
        rw [hxo] at hj hxlen Hmac
        have Hxo := Lib.hid hxlen
        have HJ := Lib.hid hj
        have HEP := Lib.hid ((HE6.out.trans hE7).trans hEP)
        clear hw7 hE7 hR7 hV hP hEP hj hxo hxlen HO6 HE6
        go_wp2_with fail
        refine HJ.out.mono ?_
        rintro e w8 ⟨a8', c8', rfl, hB8, hE8⟩
        have hsum := refSum_any _ _ _ _ _ hB8 (by rw [Hxo.out]; omega) (HTc.out.ext' (HEP.out.trans hE8))
        have HS := Lib.hid hsum
        have HE8 := Lib.hid (HEP.out.trans hE8)
        clear hsum hB8 hE8 HJ HEP
        go_wp2_with fail
        refine HS.out.mono ?_
        rintro e w9 ⟨rfl, hE9⟩
        have HE9 := Lib.hid (HE8.out.trans hE9)
        have Hz := Lib.hid (rowIs_cells (HZ.out.of_block (HE9.out.block hlt0)))
        clear hE9 HE8 HS
        go_wp2_with (refine wpList_store_row rfl 22 _ _ rfl _ _ rfl rfl _ _ Hz.out (by kernel_rfl) (by rw [rowArr_size, rowArr_size]) (rowArr_one fun _ _ => rfl) ?_)
        refine bodyPost_ret (results_cell_row rfl _ _ w.heap.size _ _ _ _ rfl (setRow_heap w9 w.heap.size _ _ _ _ Hz.out) Tryd.underlying22 rfl (by kernel_rfl)) rfl ⟨?_, ?_⟩
        · simp only [Hmac.out]
        · exact below_setRow (HE.out.trans HE9.out) (Nat.le_refl _) _

end Go.Proofs.YtdgbcieopkilcaaDoor
