/-
  The walks of jalousieref01.Mac and Expand. Asked: the table of 64 words lies as the text lays it; texts are not longer than 2^36 bytes.
  The walk of jalousieref01.Expand. Asked: the table of 64 words lies as the text lays it; texts are not longer than 2^35 bytes.
  The walk of jalousieref11.Derive: the same as hash.Derive; how two results are read. Asked: the reference's table of 64 words lies as the text lays it.
  A key in a new box; Derive by one name; noughts of a hash.
-/
import Derived.Test.YtpiebfhcfkncoaaDoorConv
import Derived.Test.YtpiebfhcfkncoaaDoorRefSum
import Derived.Maps.AppendAt
import Derived.Test.YtpiebfhcfkncoaaDoorEqArr
import Derived.Test.YtpiebfhcfkncoaaDoorLu
namespace Go.Proofs.YtpiebfhcfkncoaaDoor
open Go.ChangeAt Go.ChangeShapes Go.RowKit Go.WideShapes

/-- Two rows of bytes that the call owns, in unlike blocks. -/
def Two (B : Nat) (w : World) (vi vo : Value) (k m : Nat) (xi xo : List Int) : Prop :=
  w.ownsRow B 5 1 vi k (bv xi) ∧ w.ownsRow B 5 1 vo m (bv xo) ∧ ∀ g, vi.ownBlock = some g → vo.ownBlock ≠ some g

theorem Two.swap {B : Nat} {w : World} {vi vo : Value} {k m : Nat} {xi xo : List Int} (h : Two B w vi vo k m xi xo) : Two B w vo vi m k xo xi :=
  ⟨h.2.1, h.1, fun g h1 h2 => h.2.2 g h2 h1⟩
theorem Two.alloc {B : Nat} {w : World} {vi vo : Value} {k m : Nat} {xi xo : List Int} (h : Two B w vi vo k m xi xo) (o : Obj) : Two B (w.alloc o) vi vo k m xi xo :=
  ⟨h.1.alloc o, h.2.1.alloc o, h.2.2⟩

/-- One byte behind the first of two rows. -/
theorem append_two {w : World} {ops : Array Oper} {rest : List Oper} {o : Oper} {a : Act} {Q : Exit → Act → World → Prop} (hgd : o.guard = none) (s x : Operand) (ho : o.op = .call { callee := .builtin .append, args := #[s, x], argTypes := #[53, 53] })
    (B : Nat) (vi vo : Value) (n m : Nat) (xs ys : List Int) (hs : a.eval s = vi) (hT : Two B w vi vo n m xs ys)
    (g : Nat) (y : Int) (hx : a.eval x = .slice (some ⟨g, 0, none⟩) 1 1) (hc : w.cell? ⟨g, 0, none⟩ = some (.int .u8 y)) (hsz : n + 1 ≤ 140737488355328) (hB : B ≤ w.heap.size)
    (h : ∀ v' w', Two B w' v' vo (n + 1) m (xs ++ [y]) ys → Below B w w' → wpList Tryd.prog ops Q rest (a.put o.dst v') w') : wpList Tryd.prog ops Q (o :: rest) a w := by
  obtain ⟨i0, hi, hz0, hz1, hz2⟩ := info_parts info_u8
  obtain ⟨hown, hown2, hne⟩ := hT
  refine wpList_append_own_at w hgd s x 53 ho B 5 i0 (.int .u8 0) 1 1 Tryd.underlying53 hi hz0 hz1 hz2 rfl (by decide) vi n (bv xs) hs hown ⟨g, 0, none⟩ 1 1 (bv [y]) hx rfl (fun j u hu => ?_) (bv_one [y]) (by unfold maxLen; omega) (by omega) hB ?_
  · obtain ⟨hj, rfl⟩ := bv_get [y] j u hu
    obtain rfl : j = 0 := by simp at hj; omega
    rw [addr_add]
    exact hc
  · intro v' w' hown' hgrow _ hblk
    refine h v' w' ⟨by rw [bv_append]; exact hown', hown2.kept hgrow ?_, fun k hk hk2 => ?_⟩ ?_
    · cases hb : vo.ownBlock with
      | none => exact Or.inl rfl
      | some k => right; intro e; exact hne k e.symm hb
    · have := (hown2.lt k hk2).2
      rcases hblk with e | e
      · exact hne k (by rw [← e]; exact hk) hk2
      · rw [e] at hk
        injection hk with hk
        omega
    · exact (Below.refl B w).grown hgrow hB (fun k hk => (hown.lt k hk).1)

theorem padK_take (m : Int) (k : List Int) (i : Nat) (h : i < 64) : (padK m k).take (i + 1) = (padK m k).take i ++ [bits .xor .u8 (k.getD i 0) m] := by
  rw [take_snoc (by rw [padK_length]; exact h)]
  congr 2
  unfold padK
  simp [List.getD_eq_getElem?_getD, h]

theorem padK_full (m : Int) (k : List Int) : (padK m k).take 64 = padK m k := List.take_of_length_le (by rw [padK_length]; omega)

def RMacCut (key : List Int) (w : World) (H : Nat) (v : Value) (wc : World) : Prop :=
  ∃ ak nk ck, v = .slice ak nk ck ∧ nk ≤ 64 ∧ BsAt wc ak nk ck (macKey key) ∧ Ext w wc ∧ wc.rowIs H 22 32 (fun _ => .int .u8 0)

set_option maxHeartbeats 1000000 in
set_option maxRecDepth 100000 in
theorem refMac_any (a : Option Addr) (n c : Nat) (key : List Int) (b : Option Addr) (m d : Nat) (xs : List Int) (w : World) (hkey : BsAt w a n c key) (h : BsAt w b m d xs)
    (hs : m ≤ 274877906944) (hnk : n ≤ 274877906944) (hk : KsAt 0 w) :
    Calls Tryd.prog 30 #[.slice a n c, .slice b m d] w fun e w' => e = .returned (.agg (rowArr 32 fun j => .int .u8 (macF key xs j))) ∧ Ext w w' := by
  have hkc := hkey.cap
  have hkm := hkey.lim
  have hbc := h.cap
  have hbm := h.lim
  have Hkl := Lib.hid hkey.len
  have Hxl := Lib.hid h.len
  have HKey := Lib.hid hkey
  have H := Lib.hid h
  have HK := Lib.hid hk
  clear hkey h hk
  go_enter Tryd.func30, Tryd.ntmps30
  go_upto_if 15 with (fail)
  obtain ⟨wA, hwA⟩ : ∃ wA, w.alloc (.cells (Array.replicate 32 (.int .u8 0)) 22) = wA := ⟨_, rfl⟩
  have hEA : Ext w wA := by rw [← hwA]; exact (Ext.refl w).alloc _
  have hZA : wA.rowIs w.heap.size 22 32 (fun _ => .int .u8 0) := by rw [← hwA]; exact start_zero32 _ w
  have hsA : w.heap.size < wA.heap.size := by rw [← hwA]; simp
  refine wp_world (w' := wA) hwA ?_
  have HKA := Lib.hid (HKey.out.ext hEA)
  have HTA := Lib.hid (HK.out.ext' hEA)
  have HEA := Lib.hid hEA
  have HZA := Lib.hid hZA
  clear hwA hEA hZA
  go_cut [5] from 12 (fun v wc => RMacCut key w w.heap.size v wc)
  case first =>
    by_cases h64 : 64 < n
    · have x1 : (64 : Int) < (n : Int) := by omega
      have hsum := refSum_any _ _ _ _ _ HKA.out (by omega) HTA.out
      have HS := Lib.hid hsum
      clear hsum
      go_wp2_with fail
      refine HS.out.mono ?_
      rintro e w1 ⟨rfl, hE1⟩
      have HE1 := Lib.hid hE1
      clear hE1
      go_wp2_with (refine wpList_store_row rfl 22 _ _ rfl w1.heap.size _ rfl rfl _ _ (heap_new w1 _ _ rfl) (by kernel_rfl) (by rw [rowArr_size]; rfl) (rowArr_one fun _ _ => rfl) ?_; rw [setRow_new w1 _ _ _ _ rfl])
      go_meet
      case rel =>
        refine ⟨_, _, _, rfl, by omega, ?_, (HEA.out.trans HE1.out).alloc _, ?_⟩
        · rw [macKey_long (by rw [Hkl.out]; exact h64)]
          exact bs_sha (rowIs_of (heap_new w1 _ _ rfl))
        · exact (HZA.out.of_block (HE1.out.block hsA)).alloc _
    · have x1 : ¬ (64 : Int) < (n : Int) := by omega
      go_wp2_with fail
      go_meet
      case rel => exact ⟨_, _, _, rfl, by omega, by rw [macKey_short (by rw [Hkl.out]; omega)]; exact HKA.out, HEA.out, HZA.out⟩
  case rest =>
    obtain ⟨ak, nk, ck, rfl, hnk64, hB, hE, hZ⟩ := hcut
    have hkc2 := hB.cap
    have hkl2 := hB.lim
    obtain ⟨kk, hkk⟩ : ∃ kk, macKey key = kk := ⟨_, rfl⟩
    have hmac : ∀ j, macF key xs j = shaF (padK 92 kk ++ shaL (padK 54 kk ++ xs)) j := fun j => by rw [← hkk]; rfl
    rw [hkk] at hB
    have Hmac := Lib.hid hmac
    have HB := Lib.hid hB
    have HBc := Lib.hid (H.out.ext hE)
    have HTc := Lib.hid (HK.out.ext' hE)
    have HE := Lib.hid hE
    have HZ := Lib.hid hZ
    have hlt0 : w.heap.size < wc.heap.size := hZ.lt
    obtain ⟨pi, hpi⟩ : ∃ pi, padK 54 kk = pi := ⟨_, rfl⟩
    obtain ⟨po, hpo⟩ : ∃ po, padK 92 kk = po := ⟨_, rfl⟩
    have Hpi := Lib.hid (show ∀ i, i < 64 → pi.take (i + 1) = pi.take i ++ [bits .xor .u8 (kk.getD i 0) 54] by rw [← hpi]; exact fun i h => padK_take 54 kk i h)
    have Hpo := Lib.hid (show ∀ i, i < 64 → po.take (i + 1) = po.take i ++ [bits .xor .u8 (kk.getD i 0) 92] by rw [← hpo]; exact fun i h => padK_take 92 kk i h)
    have Hfi := Lib.hid (show pi.take 64 = pi by rw [← hpi]; exact padK_full 54 kk)
    have Hfo := Lib.hid (show po.take 64 = po by rw [← hpo]; exact padK_full 92 kk)
    have Hbi := Lib.hid (show ∀ x ∈ pi, 0 ≤ x ∧ x < 256 by rw [← hpi]; exact padK_byte 54 kk)
    have Hbo := Lib.hid (show ∀ x ∈ po, 0 ≤ x ∧ x < 256 by rw [← hpo]; exact padK_byte 92 kk)
    have Hli := Lib.hid (show pi.length = 64 by rw [← hpi]; exact padK_length 54 kk)
    have Hlo := Lib.hid (show po.length = 64 by rw [← hpo]; exact padK_length 92 kk)
    rw [hpi, hpo] at Hmac
    clear hmac hkk hB hE hZ HKA HTA HEA HZA hsA hpi hpo
    go_wp2
    go_loopw [7, 8, 9] (fun vi vo i wr => ∃ k : Nat, k ≤ 64 ∧ i = .int .i64 (k : Int) ∧ Two wc.heap.size wr vi vo k k (pi.take k) (po.take k) ∧ Ext wc wr) (fun _ _ i _ => 64 - (intOf i).toNat)
    case atStart => exact ⟨0, Nat.zero_le _, rfl, ⟨World.ownsRow_nil _ _ _ _, World.ownsRow_nil _ _ _ _, fun g h => by cases h⟩, Ext.refl _⟩
    case round =>
      obtain ⟨k, hk, rfl, hT, hE⟩ := hrel
      by_cases hlt : k < 64
      · have hsz := Below.size hE
        have x0 : (k : Int) < 64 := by omega
        have HE' := Lib.hid hE
        have HT := Lib.hid hT
        clear hT
        obtain ⟨x, hx⟩ : ∃ x, kk.getD k 0 = x := ⟨_, rfl⟩
        have Hi1 := Lib.hid (Hpi.out k hlt)
        have Ho1 := Lib.hid (Hpo.out k hlt)
        rw [hx] at Hi1 Ho1
        by_cases hkn : k < nk
        · obtain ⟨bk, ok, rfl, hc⟩ := HB.out.at_ (by omega)
          have c1 := hc k hkn
          rw [hx] at c1
          have c2 : wr.cell? ⟨bk, ok + k, none⟩ = some (.int .u8 x) := by
            rw [Ext.cell (p := ⟨bk, ok + k, none⟩) hE (World.block_lt_of_cell? wc _ c1)]
            exact c1
          have x1 : (k : Int) < (nk : Int) := by omega
          have x2 : (0 : Int) ≤ (k : Int) := by omega
          clear hx hc c1 hE
          go_wp2_with (at_builtin; refine append_two rfl (.tmp 31) (.tmp 34) rfl wc.heap.size _ _ k k _ _ rfl (HT.out.alloc _) wr.heap.size _ rfl (cell_one_new _ _ _ 0 _ rfl) (by omega) (by simp; omega) ?_)
          intro v3 w3 hT3 hB3
          rw [← Hi1.out] at hT3
          have hE3 : Ext wc w3 := Below.trans (B := wc.heap.size) (Below.alloc HE'.out hsz _) hB3
          have hsz3 := Below.size hE3
          have HT3 := Lib.hid hT3.swap
          have HE3 := Lib.hid hE3
          clear hT3 hB3 hE3
          go_wp2_with (at_builtin; refine append_two rfl (.tmp 36) (.tmp 39) rfl wc.heap.size _ _ k (k + 1) _ _ rfl (HT3.out.alloc _) w3.heap.size _ rfl (cell_one_new _ _ _ 0 _ rfl) (by omega) (by simp; omega) ?_)
          intro v4 w4 hT4 hB4
          rw [← Ho1.out] at hT4
          have hE4 : Ext wc w4 := Below.trans (B := wc.heap.size) (Below.alloc HE3.out hsz3 _) hB4
          have HT4 := Lib.hid hT4.swap
          have HE4 := Lib.hid hE4
          clear hT4 hB4 hE4 HT3
          go_wp2
          go_roundw
          case rel => exact ⟨k + 1, by omega, by go_num, HT4.out, HE4.out⟩
          case measure => simp [intOf]; omega
        · have x1 : ¬ (k : Int) < (nk : Int) := by omega
          have hkl := HB.out.len
          obtain rfl : x = 0 := by rw [← hx, List.getD_eq_getElem?_getD, List.getElem?_eq_none (by omega)]; rfl
          clear hx hE hkl
          go_wp2_with (at_builtin; refine append_two rfl (.tmp 31) (.tmp 34) rfl wc.heap.size _ _ k k _ _ rfl (HT.out.alloc _) wr.heap.size _ rfl (cell_one_new _ _ _ 0 _ rfl) (by omega) (by simp; omega) ?_)
          intro v3 w3 hT3 hB3
          rw [← Hi1.out] at hT3
          have hE3 : Ext wc w3 := Below.trans (B := wc.heap.size) (Below.alloc HE'.out hsz _) hB3
          have hsz3 := Below.size hE3
          have HT3 := Lib.hid hT3.swap
          have HE3 := Lib.hid hE3
          clear hT3 hB3 hE3
          go_wp2_with (at_builtin; refine append_two rfl (.tmp 36) (.tmp 39) rfl wc.heap.size _ _ k (k + 1) _ _ rfl (HT3.out.alloc _) w3.heap.size _ rfl (cell_one_new _ _ _ 0 _ rfl) (by omega) (by simp; omega) ?_)
          intro v4 w4 hT4 hB4
          rw [← Ho1.out] at hT4
          have hE4 : Ext wc w4 := Below.trans (B := wc.heap.size) (Below.alloc HE3.out hsz3 _) hB4
          have HT4 := Lib.hid hT4.swap
          have HE4 := Lib.hid hE4
          clear hT4 hB4 hE4 HT3
          go_wp2
          go_roundw
          case rel => exact ⟨k + 1, by omega, by go_num, HT4.out, HE4.out⟩
          case measure => simp [intOf]; omega
      · obtain rfl : k = 64 := by omega
        rw [Hfi.out, Hfo.out] at hT
        obtain ⟨a7, c7, rfl, h7a, h7b⟩ := owns_slice hT.1
        obtain ⟨a8, c8, rfl, h8a, h8b⟩ := owns_slice hT.2.1
        unfold maxLen at h7b h8b
        have hin := owns_bs hT.1 Hbi.out (by omega) (by omega)
        have hou := owns_bs hT.2.1 Hbo.out (by omega) (by omega)
        have hV := (PsV.one hin).append (PsV.one (HBc.out.ext hE))
        have hP := ps_new hV 53 (by omega)
        have hEP : Ext wr (wr.alloc (.cells #[.slice a7 64 c7, .slice b m d] 53)) := (Ext.refl wr).alloc _
        have hj := joined_any _ _ _ _ _ hP (by simp only [List.flatten_append, List.length_append, List.flatten_cons, List.flatten_nil, List.append_nil, Hli.out, Hxl.out]; omega)
        rw [show ([pi] ++ [xs]).flatten = pi ++ xs by simp] at hj
        have hxlen : (pi ++ xs).length = 64 + m := by rw [List.length_append, Hli.out, Hxl.out]
        obtain ⟨xi, hxi⟩ : ∃ xi, pi ++ xs = xi := ⟨_, rfl⟩
        rw [hxi] at hj hxlen Hmac
        have Hxi := Lib.hid hxlen
        have HJ := Lib.hid hj
        have HEP := Lib.hid (hE.trans hEP)
        have Hou := Lib.hid (hou.ext hEP)
        clear hT hin hou hV hP hEP hj hxi hxlen
        rw [show ((64 : Nat) : Int) = 64 from rfl]
        go_wp2_with fail
        refine HJ.out.mono ?_
        rintro e w5 ⟨a5, c5, rfl, hB5, hE5⟩
        have hsum := refSum_any _ _ _ _ _ hB5 (by rw [Hxi.out]; omega) (HTc.out.ext' (HEP.out.trans hE5))
        have HS := Lib.hid hsum
        have HE5 := Lib.hid (HEP.out.trans hE5)
        have HO5 := Lib.hid (Hou.out.ext hE5)
        clear hsum hB5 hE5 HJ HEP Hou
        go_wp2_with fail
        refine HS.out.mono ?_
        rintro e w6 ⟨rfl, hE6⟩
        have HE6 := Lib.hid (HE5.out.trans hE6)
        have HO6 := Lib.hid (HO5.out.ext hE6)
        clear hE6 HE5 HO5 HS
        go_upto_region 15 with (refine wpList_store_row rfl 22 _ _ rfl w6.heap.size _ rfl rfl _ _ (heap_new w6 _ _ rfl) (by kernel_rfl) (by rw [rowArr_size]; rfl) (rowArr_one fun _ _ => rfl) ?_; rw [setRow_new w6 _ _ _ _ rfl])
        obtain ⟨w7, hw7⟩ : ∃ w7, w6.alloc (.cells (rowArr 32 fun j => .int .u8 (shaF xi j)) 22) = w7 := ⟨_, rfl⟩
        have hE7 : Ext w6 w7 := by rw [← hw7]; exact (Ext.refl w6).alloc _
        have hR7 : w7.rowIs w6.heap.size 22 32 (fun j => .int .u8 (shaF xi j)) := by rw [← hw7]; exact rowIs_of (heap_new w6 _ _ rfl)
        refine wp_world (w' := w7) hw7 ?_
        have hV := (PsV.one (HO6.out.ext hE7)).append (PsV.one (bs_sha hR7))
        have hP := ps_new hV 53 (by omega)
        have hEP : Ext w7 (w7.alloc (.cells #[.slice a8 64 c8, .slice (some ⟨w6.heap.size, 0, none⟩) 32 32] 53)) := (Ext.refl w7).alloc _
        have hj := joined_any _ _ _ _ _ hP (by simp [Hlo.out, shaL_length])
        rw [show ([po] ++ [shaL xi]).flatten = po ++ shaL xi by simp] at hj
        have hxlen : (po ++ shaL xi).length = 96 := by rw [List.length_append, Hlo.out, shaL_length]
        obtain ⟨xo, hxo⟩ : ∃ xo, po ++ shaL xi = xo := ⟨_, rfl⟩
        rw [hxo] at hj hxlen Hmac
        have Hxo := Lib.hid hxlen
        have HJ := Lib.hid hj
        have HEP := Lib.hid ((HE6.out.trans hE7).trans hEP)
        clear hw7 hE7 hR7 hV hP hEP hj hxo hxlen HO6 HE6
        go_wp2_with fail
        refine HJ.out.mono ?_
        rintro e w8 ⟨a8', c8', rfl, hB8, hE8⟩
        have hsum := refSum_any _ _ _ _ _ hB8 (by rw [Hxo.out]; omega) (HTc.out.ext' (HEP.out.trans hE8))
        have HS := Lib.hid hsum
        have HE8 := Lib.hid (HEP.out.trans hE8)
        clear hsum hB8 hE8 HJ HEP
        go_wp2_with fail
        refine HS.out.mono ?_
        rintro e w9 ⟨rfl, hE9⟩
        have HE9 := Lib.hid (HE8.out.trans hE9)
        have Hz := Lib.hid (rowIs_cells (HZ.out.of_block (HE9.out.block hlt0)))
        clear hE9 HE8 HS
        go_wp2_with (refine wpList_store_row rfl 22 _ _ rfl _ _ rfl rfl _ _ Hz.out (by kernel_rfl) (by rw [rowArr_size, rowArr_size]) (rowArr_one fun _ _ => rfl) ?_)
        refine bodyPost_ret (results_cell_row rfl _ _ w.heap.size _ _ _ _ rfl (setRow_heap w9 w.heap.size _ _ _ _ Hz.out) Tryd.underlying22 rfl (by kernel_rfl)) rfl ⟨?_, ?_⟩
        · simp only [Hmac.out]
        · exact below_setRow (HE.out.trans HE9.out) (Nat.le_refl _) _

set_option maxHeartbeats 1000000 in
set_option maxRecDepth 100000 in
theorem refExpand_any (f : Nat → Int) (hf : ∀ j, j < 32 → 0 ≤ f j ∧ f j < 256) (b : Option Addr) (m d : Nat) (info : List Int) (n : Nat) (w : World) (h : BsAt w b m d info)
    (hn : n ≤ 8160) (hm : m ≤ 34359738368) (hk : KsAt 0 w) :
    Calls Tryd.prog 56 #[.agg (rowArr 32 fun j => .int .u8 (f j)), .slice b m d, .int .i64 (n : Int)] w fun e w' => ∃ a c, e = .returned (.slice a n c) ∧ BsAt w' a n c (expandL (l32 f) info n) ∧ Ext w w' ∧ NewB w.heap.size w' a n := by
  have hmc := h.cap
  have hml := h.lim
  have H := Lib.hid h
  have HK := Lib.hid hk
  have Hf := Lib.hid hf
  clear h hk hf
  have y1 : (0 : Int) ≤ (n : Int) := by omega
  have y2 : (n : Int) ≤ 8160 := by omega
  go_enter Tryd.func56, Tryd.ntmps56
  go_upto_region 1 with (fail)
  obtain ⟨wA, hwA⟩ : ∃ wA, w.alloc (.cells (rowArr 32 fun j => .int .u8 (f j)) 22) = wA := ⟨_, rfl⟩
  have hEA : Ext w wA := by rw [← hwA]; exact (Ext.refl w).alloc _
  have hRA : wA.rowIs w.heap.size 22 32 (fun j => .int .u8 (f j)) := by rw [← hwA]; exact rowIs_of (heap_new w _ _ rfl)
  have hsA : w.heap.size < wA.heap.size := by rw [← hwA]; simp
  refine wp_world (w' := wA) hwA ?_
  obtain ⟨key, hkey⟩ : ∃ key, l32 f = key := ⟨_, rfl⟩
  have hKey : BsAt wA (some ⟨w.heap.size, 0, none⟩) 32 32 key := by rw [← hkey]; exact bs_row hRA Hf.out (by omega)
  have HKey := Lib.hid hKey
  have Hkey := Lib.hid hkey
  have HI := Lib.hid (H.out.ext hEA)
  have HKA := Lib.hid (HK.out.ext' hEA)
  have HEA := Lib.hid hEA
  have Hil := Lib.hid H.out.len
  clear hwA hEA hRA hKey hkey
  obtain ⟨T, hT⟩ : ∃ T, hkT key info = T := ⟨_, rfl⟩
  obtain ⟨O, hO⟩ : ∃ O, hkO key info = O := ⟨_, rfl⟩
  have HT0 := Lib.hid (show T 0 = [] by rw [← hT]; rfl)
  have HO0 := Lib.hid (show O 0 = [] by rw [← hO]; rfl)
  have HTs := Lib.hid (show ∀ i : Nat, T (i + 1) = macL key (T i ++ (info ++ [((i : Int) + 1) % 256])) by intro i; rw [← hT]; rfl)
  have HOs := Lib.hid (show ∀ i : Nat, O (i + 1) = O i ++ T (i + 1) by intro i; rw [← hT, ← hO]; rfl)
  have HTl := Lib.hid (show ∀ i : Nat, (T i).length ≤ 32 by intro i; rw [← hT]; exact hkT_le key info i)
  have HOl := Lib.hid (show ∀ i : Nat, (O i).length = 32 * i by intro i; rw [← hO]; exact hkO_length key info i)
  have HOb := Lib.hid (show ∀ i : Nat, ∀ x ∈ O i, 0 ≤ x ∧ x < 256 by intro i; rw [← hO]; exact hkO_byte key info i)
  have HOe := Lib.hid (show (O ((n + 31) / 32)).take n = expandL key info n by rw [← hO]; rfl)
  clear hT hO
  go_wp2
  go_loopw [7, 8, 9] (fun o l i wr => ∃ (k : Nat) (ao : Option Addr) (co : Nat) (al : Option Addr) (cl : Nat), k ≤ (n + 31) / 32 ∧ i = .int .i64 ((k : Int) + 1) ∧ o = .slice ao (32 * k) co ∧ wr.ownsRow wA.heap.size 5 1 o (32 * k) (bv (O k)) ∧ l = .slice al (T k).length cl ∧ BsAt wr al (T k).length cl (T k) ∧ Ext wA wr) (fun o _ _ _ => match o with | .slice _ m _ => 8192 - m | _ => 0)
  case atStart => exact ⟨0, none, 0, none, 0, Nat.zero_le _, rfl, rfl, by rw [HO0.out]; exact World.ownsRow_nil _ _ _ _, by rw [HT0.out]; rfl, by rw [HT0.out]; exact ⟨rfl, Nat.le_refl _, by omega, by simp, by simp, fun h => by simp at h, fun _ => rfl⟩, Ext.refl _⟩
  case round =>
    obtain ⟨k, ao, co, al, cl, hk, rfl, rfl, hown, rfl, hB, hE⟩ := hrel
    by_cases hlt : 32 * k < n
    · obtain ⟨v, hv⟩ : ∃ v : Int, ((k : Int) + 1) % 256 = v := ⟨_, rfl⟩
      have hTk := HTs.out k
      rw [hv] at hTk
      obtain ⟨tk, htk⟩ : ∃ tk, T k = tk := ⟨_, rfl⟩
      have htl := HTl.out k
      rw [htk] at hB htl hTk ⊢
      have hv0 : 0 ≤ v := by omega
      have hv1 : v < 256 := by omega
      have x1 : 32 * (k : Int) < (n : Int) := by omega
      have Hvw := Lib.hid (show IntKind.u8.wrap ((k : Int) + 1) = v by simp [IntKind.wrap, IntKind.bits, IntKind.signed]; omega)
      have Hv := Lib.hid hv
      have HB := Lib.hid hB
      have HE := Lib.hid hE
      have Hown := Lib.hid hown
      have HTk := Lib.hid hTk
      clear hv hB hE hown hTk htk
      go_upto_region 5 with (fail)
      refine wp_region_lexT 10 (by kernel_rfl) (by kernel_rfl) ?_
      simp only [List.take_succ_cons, List.take_zero, List.drop_succ_cons, List.drop_zero]
      have HEr := Lib.hid (show ∀ x, Ext wr.drew x → Ext wr x from fun x hx => Ext.trans (Ext.refl wr).drew hx)
      have HX1 := Lib.hid (show ∀ x, Ext wr.drew x → Ext wA x from fun x hx => HE.out.trans (HEr.out x hx))
      refine lex_e (.slice (some ⟨w.heap.size, 0, none⟩) 32 32) [] (by kernel_rfl) rfl .nil (fun w1 hw1 => ?_) ?_
      · simp only [lexVals]
        go_simp
        exact ⟨Ext.refl _, rfl⟩
      refine lex_e (.slice al tk.length cl) [] (by kernel_rfl) rfl .nil (fun w1 hw1 => ?_) ?_
      · simp only [lexVals]
        go_simp
        exact ⟨Ext.refl _, rfl⟩
      refine lex_e (.slice b m d) [] (by kernel_rfl) rfl .nil (fun w1 hw1 => ?_) ?_
      · simp only [lexVals]
        go_simp
        exact ⟨Ext.refl _, rfl⟩
      refine lex_e (.int .i64 ((k : Int) + 1)) [] (by kernel_rfl) rfl .nil (fun w1 hw1 => ?_) ?_
      · simp only [lexVals]
        go_simp
        exact ⟨Ext.refl _, rfl⟩
      refine lex_e (.int .u8 v) [(0, 20)] (by kernel_rfl) rfl (.cons _ _ _ _ _ (.zero _ _) .nil) (fun w1 hw1 => ?_) ?_
      · simp only [lexVals]
        go_simp
        exact ⟨Ext.refl _, val_int Hvw.out⟩
      refine lex_a (fun u w => ∃ q c, u = .slice q 1 c ∧ BsAt w q 1 c [v]) [(0, 21)] (by kernel_rfl) rfl (fun u w w' he ⟨q, c, h1, h2⟩ => ⟨q, c, h1, h2.ext he⟩) (.cons _ _ _ _ _ (.zero _ _) .nil) (fun w1 hw1 => ?_) ?_
      · simp only [lexVals]
        go_simp
        exact ⟨(Ext.refl w1).alloc _, _, _, rfl, bs_new w1 [v] #[.int .u8 v] 5 (0, 0) rfl (by simp; omega) (by simp)⟩
      refine lex_a (fun u w => ∃ q c, u = .slice q 3 c ∧ PsAt w q 3 c (([tk] ++ [info]) ++ [[v]])) [(4, 18), (3, 19), (0, 22)] (by kernel_rfl) rfl (fun u w w' he ⟨q, c, h1, h2⟩ => ⟨q, c, h1, h2.ext he⟩) (.cons _ _ _ _ _ (.succ _ _ _ _ (.succ _ _ _ _ (.succ _ _ _ _ (.succ _ _ _ _ (.zero _ _))))) (.cons _ _ _ _ _ (.succ _ _ _ _ (.succ _ _ _ _ (.succ _ _ _ _ (.zero _ _)))) (.cons _ _ _ _ _ (.zero _ _) .nil))) (fun w1 hw1 => ?_) ?_
      · simp only [lexVals]
        rintro u ⟨q, c, rfl, hq⟩
        have hV := ((PsV.one (HB.out.ext (HEr.out w1 hw1))).append (PsV.one (HI.out.ext (HX1.out w1 hw1)))).append (PsV.one hq)
        have HV := Lib.hid hV
        clear hV hq hw1
        go_simp
        exact ⟨(Ext.refl w1).alloc _, _, _, rfl, ps_new HV.out 53 (by omega)⟩
      have hxl : (tk ++ (info ++ [v])).length = tk.length + m + 1 := by rw [List.length_append, List.length_append, Hil.out]; simp; omega
      obtain ⟨xs, hxs⟩ : ∃ xs, tk ++ (info ++ [v]) = xs := ⟨_, rfl⟩
      have Hfl := Lib.hid (show (([tk] ++ [info]) ++ [[v]]).flatten = xs by rw [← hxs]; simp)
      rw [hxs] at hxl HTk
      have Hxl := Lib.hid hxl
      clear hxs hxl
      refine lex_a (fun u w => ∃ q c, u = .slice q xs.length c ∧ BsAt w q xs.length c xs) [(0, 23)] (by kernel_rfl) rfl (fun u w w' he ⟨q, c, h1, h2⟩ => ⟨q, c, h1, h2.ext he⟩) (.cons _ _ _ _ _ (.zero _ _) .nil) (fun w1 hw1 => ?_) ?_
      · simp only [lexVals]
        rintro u ⟨q, c, rfl, hq⟩
        have hj := joined_any _ _ _ _ _ hq (by rw [Hfl.out, Hxl.out]; omega)
        rw [Hfl.out] at hj
        have HJ := Lib.hid hj
        clear hq hj hw1
        go_simp
        refine HJ.out.mono ?_
        rintro e w2 ⟨q2, c2, rfl, hB2, hE2⟩
        exact ⟨_, rfl, hE2, _, _, rfl, hB2⟩
      obtain ⟨F, hF⟩ : ∃ F : Nat → Int, macF key xs = F := ⟨_, rfl⟩
      have hTn : T (k + 1) = l32 F := by rw [HTk.out, ← hF]; rfl
      have hFb : ∀ j, j < 32 → 0 ≤ F j ∧ F j < 256 := fun j _ => by rw [← hF]; exact macF_byte _ _ j
      have HF := Lib.hid hF
      have HTn := Lib.hid hTn
      have HFb := Lib.hid hFb
      clear hF hTn hFb HTk
      refine lex_e (.agg (rowArr 32 fun j => .int .u8 (F j))) [(7, 17), (0, 24)] (by kernel_rfl) rfl (.cons _ _ _ _ _ (.succ _ _ _ _ (.succ _ _ _ _ (.succ _ _ _ _ (.succ _ _ _ _ (.succ _ _ _ _ (.succ _ _ _ _ (.succ _ _ _ _ (.zero _ _)))))))) (.cons _ _ _ _ _ (.zero _ _) .nil)) (fun w1 hw1 => ?_) ?_
      · simp only [lexVals]
        rintro u ⟨q, c, rfl, hq⟩
        have hmac := refMac_any _ _ _ _ _ _ _ _ w1 (HKey.out.ext (HX1.out w1 hw1)) hq (by rw [Hxl.out]; omega) (by omega) (HKA.out.ext' (HX1.out w1 hw1))
        rw [HF.out] at hmac
        have HM := Lib.hid hmac
        clear hq hmac hw1
        go_simp
        refine HM.out.mono ?_
        rintro e w2 ⟨rfl, hE2⟩
        exact ⟨_, rfl, hE2, rfl⟩
      refine lex_a (fun u w => ∃ g, u = .pointer (some ⟨g, 0, none⟩) ∧ wr.heap.size ≤ g ∧ w.rowIs g 22 32 (fun _ => .int .u8 0)) [] (by kernel_rfl) rfl (fun u w w' he ⟨g, h1, h2, h3⟩ => ⟨g, h1, h2, h3.of_block (he.block h3.lt)⟩) .nil (fun w1 hw1 => ?_) ?_
      · simp only [lexVals]
        have Hs := Lib.hid (Below.size (HEr.out w1 hw1))
        clear hw1
        go_simp
        exact ⟨(Ext.refl w1).alloc _, _, rfl, Hs.out, start_zero32 _ w1⟩
      refine lex_stop ?_
      intro w2 hw2
      simp only [lexPick, lexVals, List.reverse_cons, List.reverse_nil, List.nil_append, List.cons_append, List.range, List.range.loop, List.map_cons, List.map_nil, List.getElem?_cons_zero, List.getElem?_cons_succ, Option.bind_some, Option.getD_some]
      rintro v1 ⟨q1, c1, rfl, -⟩ v2 ⟨q2, c2, rfl, -⟩ v3 ⟨q3, c3, rfl, -⟩ v4 ⟨g, rfl, hg, hZ⟩
      simp only [Act.put, List.setIfInBounds_toArray, List.set_cons_zero, List.set_cons_succ]
      have hE2 := HEr.out w2 hw2
      have Hz := Lib.hid (rowIs_cells hZ)
      have HE2 := Lib.hid hE2
      have HZ := Lib.hid hZ
      clear hE2 hw2 hZ
      go_upto_region 7 with (refine wpList_store_row rfl 22 _ _ rfl _ _ rfl rfl _ _ Hz.out (by kernel_rfl) (by rw [rowArr_size, rowArr_size]) (rowArr_one fun _ _ => rfl) ?_)
      have hR3 := rowIs_setRow (g := fun j => .int .u8 (F j)) HZ.out
      obtain ⟨w3, hw3⟩ : ∃ w3, w2.setRow g (rowArr 32 fun j => .int .u8 (F j)) = w3 := ⟨_, rfl⟩
      have hE3 : Ext wr w3 := by rw [← hw3]; exact below_setRow HE2.out hg _
      rw [hw3] at hR3
      refine wp_world (w' := w3) hw3 ?_
      have hB6 : BsAt w3 (some ⟨g, 0, none⟩) 32 32 (l32 F) := bs_row hR3 HFb.out (by omega)
      have hown6 : w3.ownsRow wA.heap.size 5 1 (.slice ao (32 * k) co) (32 * k) (bv (O k)) := Hown.out.kept (row := none) (grown_ext hE3 none) (by
        cases ao with
        | none => exact Or.inl rfl
        | some ad => right; simp [Value.ownBlock])
      have hne := own_row_ne hown6 hR3 (by decide)
      have Hown6 := Lib.hid hown6
      have HB6 := Lib.hid hB6
      have Hne := Lib.hid hne
      have HE6 := Lib.hid (HE.out.trans hE3)
      have hs6 := Below.size (HE.out.trans hE3)
      clear hw3 hE3 hR3 hB6 hown6 hne Hown HE HE2 HZ Hz
      go_wp2_with (at_builtin; refine append_bsG rfl (.tmp 27) (.tmp 28) rfl wA.heap.size _ (32 * k) (O k) rfl Hown6.out _ 32 32 (l32 F) rfl HB6.out (by omega) (by omega) ?_)
      intro v7 w7 hown7 hB7 hG7
      obtain ⟨a7, c7, rfl, hc7a, hc7b⟩ := owns_slice hown7
      have hB7' : BsAt w7 (some ⟨g, 0, none⟩) 32 32 (l32 F) := HB6.out.grownO hG7 (fun _ b off e => by
        simp only [Option.some.injEq, Addr.mk.injEq, and_true] at e
        obtain ⟨rfl, rfl⟩ := e
        exact Hne.out)
      have hOk : bv (O k ++ l32 F) = bv (O (k + 1)) := by rw [HOs.out, HTn.out]
      rw [hOk] at hown7
      have Hown7 := Lib.hid hown7
      have HB7 := Lib.hid hB7'
      have HE7 := Lib.hid (HE6.out.trans' hB7)
      clear hown7 hB7 hG7 hB7' hOk Hown6 HB6 Hne HE6
      go_wp2
      go_roundw
      case rel =>
        have hl : (T (k + 1)).length = 32 := by rw [HTn.out, l32_length]
        refine ⟨k + 1, a7, c7, some ⟨g, 0, none⟩, 32, by omega, val_int (by omega), by rw [show 32 * (k + 1) = 32 * k + 32 by omega], ?_, by rw [hl], ?_, HE7.out⟩
        · exact Hown7.out
        · rw [hl, HTn.out]
          exact HB7.out
      case measure => simp; omega
    · obtain rfl : k = (n + 31) / 32 := by omega
      obtain ⟨_, _, he, hc1, hc2⟩ := owns_slice hown
      injection he with he1 he2 he3
      subst he1
      subst he3
      unfold maxLen at hc2
      have x1 : ¬ 32 * (((n + 31) / 32 : Nat) : Int) < (n : Int) := by omega
      have x2 : (n : Int) ≤ (co : Int) := by omega
      have x3 : (n : Int) ≤ 32 * (((n + 31) / 32 : Nat) : Int) := by omega
      obtain ⟨q, hq⟩ : ∃ q, (n + 31) / 32 = q := ⟨_, rfl⟩
      rw [hq] at hown HOe x1 x3 hc1 ⊢
      have Hq := Lib.hid hq
      have Hown := Lib.hid hown
      have HE := Lib.hid hE
      clear hown hE hB hq he2 hk hlt
      go_wp2
      go_ret
      have hbs := owns_bs Hown.out (HOb.out q) (by omega) (by have := Hq.out; omega)
      have hcut := hbs.cut (m := n) (c' := co) (by omega) (by omega) (by omega)
      rw [HOe.out] at hcut
      rw [Hkey.out]
      exact ⟨_, _, rfl, hcut, HEA.out.trans HE.out, owns_new Hown.out (by omega) (by omega)⟩

/-- A key of a key. -/
def dvF (f : Nat → Int) (lab : List Int) : Nat → Int := fun j => (expandL (l32 f) lab 32).getD j 0
theorem dvF_byte (f : Nat → Int) (lab : List Int) (j : Nat) : 0 ≤ dvF f lab j ∧ dvF f lab j < 256 := getD_byte (expandL_byte _ _ _) j

set_option maxHeartbeats 1000000 in
set_option maxRecDepth 100000 in
theorem refDerive_any (f : Nat → Int) (hf : ∀ j, j < 32 → 0 ≤ f j ∧ f j < 256) (s : ByteArray) (w : World) (hs : s.size ≤ 17179869184) (hk : KsAt 0 w) :
    Calls Tryd.prog 29 #[.agg (rowArr 32 fun j => .int .u8 (f j)), .string s] w fun e w' => e = .returned (.agg (rowArr 32 fun j => .int .u8 (dvF f (strB s) j))) ∧ Ext w w' := by
  have HK := Lib.hid hk
  have Hf := Lib.hid hf
  clear hk hf
  go_enter Tryd.func29, Tryd.ntmps29
  go_upto_region 2 with (fail)
  obtain ⟨w1, hw1⟩ : ∃ w1, w.alloc (.cells (rowArr 32 fun j => .int .u8 (f j)) 23) = w1 := ⟨_, rfl⟩
  have hE1 : Ext w w1 := by rw [← hw1]; exact (Ext.refl w).alloc _
  have hR1 : w1.rowIs w.heap.size 23 32 (fun j => .int .u8 (f j)) := by rw [← hw1]; exact rowIs_of (heap_new w _ _ rfl)
  have hs1 : w1.heap.size = w.heap.size + 1 := by rw [← hw1]; simp
  obtain ⟨w2, hw2⟩ : ∃ w2, w1.alloc (.cells (Array.replicate 32 (.int .u8 0)) 23) = w2 := ⟨_, rfl⟩
  have hE2 : Ext w w2 := by rw [← hw2]; exact hE1.alloc _
  have hR2 : w2.rowIs w.heap.size 23 32 (fun j => .int .u8 (f j)) := by rw [← hw2]; exact hR1.alloc _
  have hZ2 : w2.rowIs (w.heap.size + 1) 23 32 (fun _ => .int .u8 0) := by
    have := start_zero32 23 w1
    rwa [hs1, hw2] at this
  have hs2 : w2.heap.size = w.heap.size + 2 := by rw [← hw2]; simp; omega
  obtain ⟨w3, hw3⟩ : ∃ w3, w2.alloc (.cells (Array.replicate 32 (.int .u8 0)) 23) = w3 := ⟨_, rfl⟩
  have hE3 : Ext w w3 := by rw [← hw3]; exact hE2.alloc _
  have hR3 : w3.rowIs w.heap.size 23 32 (fun j => .int .u8 (f j)) := by rw [← hw3]; exact hR2.alloc _
  have hZ3 : w3.rowIs (w.heap.size + 1) 23 32 (fun _ => .int .u8 0) := by rw [← hw3]; exact hZ2.alloc _
  have hY3 : w3.rowIs (w.heap.size + 1 + 1) 23 32 (fun _ => .int .u8 0) := by
    have := start_zero32 23 w2
    rwa [hs2, hw3] at this
  refine wp_world (w' := w3) (by rw [← hw3, ← hw2, ← hw1]; rfl) ?_
  have hs3 := hY3.lt
  obtain ⟨g, hg⟩ : ∃ g, w.heap.size = g := ⟨_, rfl⟩
  rw [hg] at hR3 hZ3 hY3 hs3 ⊢
  have Hg := Lib.hid (Nat.le_of_eq hg)
  have HR3 := Lib.hid (rowIs_cells hR3)
  have HZ3 := Lib.hid hZ3
  have HY3 := Lib.hid hY3
  have HE3 := Lib.hid hE3
  clear hw1 hE1 hR1 hs1 hw2 hE2 hR2 hZ2 hs2 hw3 hE3 hR3 hZ3 hY3 hg
  go_wp2_with (first | (refine wpList_load_row rfl 23 _ rfl g rfl _ _ _ _ HR3.out Tryd.underlying23 rfl (by kernel_rfl) ?_) | (refine conv_bs rfl (.tmp 9) rfl s rfl (by omega) ?_))
  intro c w4 hB4 hE4
  have hex := refExpand_any f Hf.out _ _ _ (strB s) 32 w4 hB4 (by omega) (by omega) (HK.out.ext' (HE3.out.trans hE4))
  rw [show ((32 : Nat) : Int) = 32 from rfl] at hex
  have HX := Lib.hid hex
  have HE4 := Lib.hid hE4
  clear hex hB4 hE4 HR3
  go_wp2_with fail
  refine HX.out.mono ?_
  rintro e w5 ⟨a5, c5, rfl, hB5, hE5, hN5⟩
  obtain ⟨D, hD⟩ : ∃ D, expandL (l32 f) (strB s) 32 = D := ⟨_, rfl⟩
  have HD := Lib.hid (show ∀ j, dvF f (strB s) j = D.getD j 0 by intro j; rw [← hD]; rfl)
  rw [hD] at hB5
  have hE35 := HE4.out.trans hE5
  have hbc := hB5.cap
  have hbl := hB5.lim
  obtain ⟨b5, cur5, rfl, hge5, -⟩ := hN5 (by omega)
  obtain ⟨b5', o5, e5, hc5⟩ := hB5.at_ (by omega)
  simp only [Option.some.injEq, Addr.mk.injEq, and_true] at e5
  obtain ⟨rfl, rfl⟩ := e5
  have hs4 := Below.size HE4.out
  have hbw : b5 ≠ g + 1 + 1 := by omega
  have HB5 := Lib.hid hB5
  have HC5 := Lib.hid hc5
  have HZ5 := Lib.hid (HZ3.out.of_block (hE35.block (by omega)))
  have HY5 := Lib.hid (HY3.out.of_block (hE35.block hs3))
  have HE5 := Lib.hid (HE3.out.trans hE35)
  have hs5 : g + 1 + 1 < w5.heap.size := HY5.out.lt
  clear hB5 hc5 hE5 hE35 hD HX HE4 HE3 HZ3 HY3
  go_wp2
  go_loopw [7] (fun i wr => ∃ k : Nat, k ≤ 32 ∧ i = .int .i64 (k : Int) ∧ wr.rowIs (g + 1 + 1) 23 32 (fun j => .int .u8 (if j < k then D.getD j 0 else 0)) ∧ w5.grownBy wr (some (g + 1 + 1))) (fun i _ => 32 - (intOf i).toNat)
  case atStart => exact ⟨0, Nat.zero_le _, rfl, HY5.out.congr fun j _ => by simp, grown_ext (Ext.refl w5) _⟩
  case round =>
    obtain ⟨k, hk, rfl, hR, hG⟩ := hrel
    by_cases hlt : k < 32
    · have c1 := hR.cell hlt
      have f1 := hR.frozen k
      have c0 := HC5.out k hlt
      have x1 : (k : Int) < 32 := by omega
      have x2 : (0 : Int) ≤ (k : Int) := by omega
      have c2 : wr.cell? ⟨b5, k, none⟩ = some (.int .u8 (D.getD k 0)) := by
        have h1 := World.grownBy.cell hG c0 (fun e => hbw (Option.some.inj e))
        rwa [Nat.zero_add] at h1
      obtain ⟨x, hx⟩ : ∃ x, D.getD k 0 = x := ⟨_, rfl⟩
      rw [hx] at c2
      rw [if_neg (by omega)] at c1
      have Hx := Lib.hid hx
      have HR := Lib.hid hR
      have HG := Lib.hid hG
      clear hR hG c0 hx
      go_wp2
      go_roundw
      case rel =>
        refine ⟨k + 1, by omega, by go_num, (HR.out.set k _).congr fun j hj => ?_, grown_setCell HG.out rfl _⟩
        by_cases hjk : j = k
        · subst hjk
          rw [if_pos rfl, if_pos (by omega), Hx.out]
        · rw [if_neg hjk]
          by_cases h2 : j < k
          · rw [if_pos h2, if_pos (show j < k + 1 by omega)]
          · rw [if_neg h2, if_neg (show ¬ j < k + 1 by omega)]
      case measure => simp [intOf]; omega
    · obtain rfl : k = 32 := by omega
      have hD2 : wr.rowIs (g + 1 + 1) 23 32 (fun j => .int .u8 (D.getD j 0)) := hR.congr fun j hj => by rw [if_pos hj]
      have hz := HZ5.out.of_block (hG.block (g + 1) (by omega) (fun e => by injection e with e; omega))
      have HD2 := Lib.hid (rowIs_cells hD2)
      have Hz := Lib.hid (rowIs_cells hz)
      have hgg := Hg.out
      have HEr := Lib.hid (ext_grown HE5.out hG (by omega))
      clear hR hG hD2 hz
      rw [show ((32 : Nat) : Int) = 32 from rfl]
      go_wp2_with (first | (refine wpList_load_row rfl 23 _ rfl (g + 1 + 1) rfl _ _ _ _ HD2.out Tryd.underlying23 rfl (by kernel_rfl) ?_) | (refine wpList_store_row rfl 23 _ _ rfl _ _ rfl rfl _ _ Hz.out (by kernel_rfl) (by rw [rowArr_size, rowArr_size]) (rowArr_one fun _ _ => rfl) ?_))
      refine bodyPost_ret (results_cell_row rfl _ _ (g + 1) _ _ _ _ rfl (setRow_heap wr (g + 1) _ _ _ _ Hz.out) Tryd.underlying23 rfl (by kernel_rfl)) rfl ⟨?_, below_setRow HEr.out (by omega) _⟩
      simp only [HD.out]

theorem derive_dv (f : Nat → Int) (hf : ∀ j, j < 32 → 0 ≤ f j ∧ f j < 256) (s : ByteArray) (w : World) (hs : s.size ≤ 17179869184) (hk : KsAt 1 w) :
    Calls Tryd.prog 21 #[.agg (rowArr 32 fun j => .int .u8 (f j)), .string s] w fun e w' => e = .returned (.agg (rowArr 32 fun j => .int .u8 (dvF f (strB s) j))) ∧ Ext w w' :=
  derive_any f hf s w hs hk
/-- Two new arrays of 32 bytes: one with a key, one of noughts. -/
theorem key_box (w : World) (f : Nat → Int) (T : TypeId) : ∃ w2, (w.alloc (.cells (rowArr 32 fun j => .int .u8 (f j)) T)).alloc (.cells (Array.replicate 32 (.int .u8 0)) T) = w2 ∧ Ext w w2 ∧ w2.rowIs w.heap.size T 32 (fun j => .int .u8 (f j)) ∧ w2.rowIs (w.heap.size + 1) T 32 (fun _ => .int .u8 0) ∧ w.heap.size + 1 < w2.heap.size := by
  have e : (w.alloc (.cells (rowArr 32 fun j => .int .u8 (f j)) T)).heap.size = w.heap.size + 1 := by simp
  have h2 := start_zero32 T (w.alloc (.cells (rowArr 32 fun j => .int .u8 (f j)) T))
  rw [e] at h2
  exact ⟨_, rfl, ((Ext.refl w).alloc _).alloc _, (rowIs_of (heap_new w _ _ rfl)).alloc _, h2, h2.lt⟩
/-- The noughts of a built array. -/
theorem zero_hash (w : World) : (zeroValue 23).run Tryd.prog w = .ok (.agg (rowArr 32 fun _ => .int .u8 0)) w := by kernel_rfl
def zeroF : Nat → Int := fun _ => 0
theorem refderive_dv (f : Nat → Int) (hf : ∀ j, j < 32 → 0 ≤ f j ∧ f j < 256) (s : ByteArray) (w : World) (hs : s.size ≤ 17179869184) (hk : KsAt 0 w) :
    Calls Tryd.prog 29 #[.agg (rowArr 32 fun j => .int .u8 (f j)), .string s] w fun e w' => e = .returned (.agg (rowArr 32 fun j => .int .u8 (dvF f (strB s) j))) ∧ Ext w w' :=
  refDerive_any f hf s w hs hk

end Go.Proofs.YtpiebfhcfkncoaaDoor
