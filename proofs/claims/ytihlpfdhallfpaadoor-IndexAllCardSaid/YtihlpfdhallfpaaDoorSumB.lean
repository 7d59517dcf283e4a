/-
  The walks of hash.start, hash.putBig, hash.appendBig, bytes.Clone, hash.padded. No conditions but lengths.
  The walks of hash.start, hash.putBig, bytes.Join (by the shelf's contract) and hash.Sum. Asked: the table of 64 words lies as the text lays it; the parts are not longer than 2^40 bytes together.
  The walk of hash.Sum: SHA-256 of the parts. Asked: the table of 64 words lies as the text lays it; the parts are not longer than 2^39 bytes together.
  Steps of the walk: bytes behind bytes that the call owns. No conditions but lengths.
-/
import Derived.Test.YtihlpfdhallfpaaDoorPackO
import Derived.Test.YtihlpfdhallfpaaDoorMix
import Derived.Test.YtihlpfdhallfpaaDoorBys
import Derived.Test.YtihlpfdhallfpaaDoorShelf
import Derived.Laws.AppendOwnNone
namespace Go.Proofs.YtihlpfdhallfpaaDoor
open Go.ChangeAt Go.ChangeShapes Go.RowKit Go.WideShapes

attribute [local go_sem] U_xor U_and U_or U_addm U_subm U_not U_lo

/-- A number's n lowest bytes, the greatest first. -/
def beB (x : Int) : Nat → List Int
  | 0 => []
  | n + 1 => (x / 2 ^ (8 * n) % 256) :: beB x n

theorem beB_length (x : Int) : ∀ n, (beB x n).length = n
  | 0 => rfl
  | n + 1 => by rw [beB, List.length_cons, beB_length x n]

theorem beB_get (x : Int) : ∀ n j, j < n → (beB x n).getD j 0 = x / 2 ^ (8 * (n - 1 - j)) % 256
  | 0, _, h => by omega
  | n + 1, 0, _ => by rw [beB]; simp
  | n + 1, j + 1, h => by
    rw [beB, List.getD_cons_succ, beB_get x n j (by omega), show n + 1 - 1 - (j + 1) = n - 1 - j by omega]

theorem beB_byte (x : Int) (n : Nat) : ∀ y ∈ beB x n, 0 ≤ y ∧ y < 256 := by
  induction n with
  | zero => intro y hy; cases hy
  | succ n ih =>
    intro y hy
    rw [beB] at hy
    rcases List.mem_cons.1 hy with rfl | hy
    · omega
    · exact ih y hy

set_option maxRecDepth 100000 in
theorem appendBig_any (B : Nat) (v : Value) (n : Nat) (xs : List Int) (x : Int) (w : World) (hown : w.ownsRow B 5 1 v n (bv xs)) (hB : B ≤ w.heap.size) (hn : n ≤ 140737488355000) :
    Calls Tryd.prog 60 #[v, .int .u64 x] w fun e w' => ∃ v', e = .returned v' ∧ w'.ownsRow B 5 1 v' (n + 8) (bv (xs ++ beB x 8)) ∧ Below B w w' := by
  obtain ⟨i0, hi, hz0, hz1, hz2⟩ := info_parts info_u8
  go_enter Tryd.func60, Tryd.ntmps60
  go_wp2
  go_loopw [0, 5] (fun u i wr => ∃ j : Nat, j ≤ 8 ∧ i = .int .i64 (56 - 8 * (j : Int)) ∧ wr.ownsRow B 5 1 u (n + j) (bv (xs ++ (beB x 8).take j)) ∧ Below B w wr) (fun _ i _ => (intOf i + 8).toNat)
  case atStart => exact ⟨0, by omega, by simp, by simpa using hown, Below.refl _ _⟩
  case round =>
    obtain ⟨j, hj, rfl, hown, hb⟩ := hrel
    have hs := hb.size
    by_cases hlt : j < 8
    · have hl : (bv (xs ++ (beB x 8).take j)).length = n + j := by have := hown.1; omega
      go_wp2_with (at_builtin; refine wpList_append_own _ rfl _ _ 35 rfl B 5 i0 (.int .u8 0) 1 1 Tryd.underlying35 hi hz0 hz1 hz2 rfl (by decide) _ (n + j) _ rfl (hown.alloc _) ⟨wr.heap.size, 0, none⟩ 1 1 [_] rfl rfl (cell_one_new _ _ _) ?c3 ?c4 ?c5 ?c6 ?_)
      case c3 => simp [Value.oneCell']
      case c4 => unfold maxLen; omega
      case c5 => omega
      case c6 => simp; omega
      intro v' w3 hown' hgrow _
      go_wp2
      go_roundw
      case rel =>
        refine ⟨j + 1, by omega, val_int (by omega), ?_, (hb.alloc (by omega) _).grown hgrow (by simp; omega) (fun k hk => (hown.lt k hk).1)⟩
        have e : (beB x 8).take (j + 1) = (beB x 8).take j ++ [x / 2 ^ (8 * (7 - j)) % 256] := by
          rw [take_snoc (by rw [beB_length]; omega), beB_get x 8 j hlt]
        rw [e, ← List.append_assoc, bv_append]
        have e2 : 56 - 8 * j = 8 * (7 - j) := by omega
        rw [e2] at hown'
        exact hown'
      case measure => simp [intOf]; omega
    · obtain rfl : j = 8 := by omega
      go_wp2
      go_ret
      refine ⟨_, rfl, ?_, hb⟩
      rw [List.take_of_length_le (by rw [beB_length]; omega)] at hown
      exact hown

/-- How many noughts stand behind a text and its bit. -/
def zpad (n : Nat) : Nat := (119 - n % 64) % 64
/-- A text with what stands behind it. -/
def padL (xs : List Int) : List Int := xs ++ [128] ++ List.replicate (zpad xs.length) 0 ++ beB (8 * (xs.length : Int)) 8

theorem padL_length (xs : List Int) : (padL xs).length = xs.length + 1 + zpad xs.length + 8 := by
  unfold padL
  simp only [List.length_append, List.length_replicate, beB_length, List.length_singleton]

theorem padL_byte (xs : List Int) (h : ∀ x ∈ xs, 0 ≤ x ∧ x < 256) : ∀ x ∈ padL xs, 0 ≤ x ∧ x < 256 := by
  intro x hx
  unfold padL at hx
  simp only [List.mem_append, List.mem_singleton, List.mem_replicate] at hx
  rcases hx with ((hx | hx) | hx) | hx
  · exact h x hx
  · omega
  · omega
  · exact beB_byte _ _ x hx

set_option maxRecDepth 100000 in
theorem padded_any (a : Option Addr) (n c : Nat) (xs : List Int) (w : World) (h : BsAt w a n c xs) (hn : n ≤ 140737488354304) :
    Calls Tryd.prog 42 #[.slice a n c] w fun e w' => ∃ v, e = .returned v ∧ w'.ownsRow w.heap.size 5 1 v (padL xs).length (bv (padL xs)) ∧ Ext w w' := by
  obtain ⟨i0, hi, hz0, hz1, hz2⟩ := info_parts info_u8
  have hlen := h.len
  have H := Lib.hid h
  have hz : zpad n < 64 := by unfold zpad; omega
  clear h
  go_enter Tryd.func42, Tryd.ntmps42
  go_wp2_with fail
  refine (clone_any a n c xs w H.out).mono ?_
  rintro e w1 ⟨v, rfl, hown, hE⟩
  have hs1 := hE.size
  go_wp2_with (at_builtin; refine wpList_append_own _ rfl _ _ 35 rfl w.heap.size 5 i0 (.int .u8 0) 1 1 Tryd.underlying35 hi hz0 hz1 hz2 rfl (by decide) _ n _ rfl (hown.alloc _) ⟨w1.heap.size, 0, none⟩ 1 1 [_] rfl rfl (cell_one_new _ _ _) ?c3 ?c4 ?c5 ?c6 ?_)
  case c3 => simp [Value.oneCell']
  case c4 => unfold maxLen; omega
  case c5 => omega
  case c6 => simp; omega
  intro v2 w2 hown2 hgrow2 _
  have hB2 : Below w.heap.size w w2 := (Below.alloc hE hs1 _).grown hgrow2 (by simp; omega) (fun k hk => (hown.lt k hk).1)
  rw [bv_snoc] at hown2
  go_wp2
  go_loopw [3] (fun u wr => ∃ (k : Nat) (ao : Option Addr) (cv : Nat), k ≤ zpad n ∧ u = .slice ao (n + 1 + k) cv ∧ wr.ownsRow w.heap.size 5 1 u (n + 1 + k) (bv (xs ++ [128] ++ List.replicate k 0)) ∧ Below w.heap.size w wr)
    (fun u _ => match u with | .slice _ m _ => n + 1 + zpad n - m | _ => 0)
  case atStart =>
    obtain ⟨ao, cv, hv, _, _⟩ := owns_slice hown2
    exact ⟨0, ao, cv, Nat.zero_le _, hv, by simpa using hown2, hB2⟩
  case round =>
    obtain ⟨k, ao, cv, hk, rfl, hown, hB⟩ := hrel
    have hs := hB.size
    by_cases hlt : k < zpad n
    · have ht : ((((n + 1 + k : Nat) : Int) % 64) != 56) = true := by
        rw [bne_iff_ne]; unfold zpad at hlt; omega
      have ht2 : ((((n : Int) + 1 + (k : Int)) % 64) != 56) = true := by
        rw [bne_iff_ne]; unfold zpad at hlt; omega
      go_wp2_with (at_builtin; refine wpList_append_own _ rfl _ _ 35 rfl w.heap.size 5 i0 (.int .u8 0) 1 1 Tryd.underlying35 hi hz0 hz1 hz2 rfl (by decide) _ (n + 1 + k) _ rfl (hown.alloc _) ⟨wr.heap.size, 0, none⟩ 1 1 [_] rfl rfl (cell_one_new _ _ _) ?c3 ?c4 ?c5 ?c6 ?_)
      case c3 => simp [Value.oneCell']
      case c4 => unfold maxLen; omega
      case c5 => omega
      case c6 => simp; omega
      intro v' w3 hown' hgrow _
      have hB3 : Below w.heap.size w w3 := (hB.alloc (by omega) _).grown hgrow (by simp; omega) (fun q hq => (hown.lt q hq).1)
      obtain ⟨ao2, cv2, rfl, _, _⟩ := owns_slice hown'
      have hr : bv (xs ++ [128] ++ List.replicate (k + 1) 0) = bv (xs ++ [128] ++ List.replicate k 0) ++ [Value.int .u8 0] := by
        rw [bv_snoc, List.replicate_succ', ← List.append_assoc]
      have hown4 : w3.ownsRow w.heap.size 5 1 (.slice ao2 (n + 1 + (k + 1)) cv2) (n + 1 + (k + 1)) (bv (xs ++ [128] ++ List.replicate (k + 1) 0)) := by
        rw [hr, bv_append, bv_append]
        simp only [List.map_cons, bv] at hown' ⊢
        simpa [Nat.add_assoc] using hown'
      have Hown := Lib.hid hown4
      clear hr ht ht2 hown4 hown'
      go_wp2
      go_roundw
      case rel => exact ⟨k + 1, ao2, cv2, by omega, rfl, Hown.out, hB3⟩
      case measure => simp; omega
    · obtain rfl : k = zpad n := by omega
      have ht : ((((n : Int) + 1 + (zpad n : Int)) % 64) != 56) = false := by
        rw [bne_eq_false_iff_eq]; unfold zpad; omega
      have hw : IntKind.u64.wrap (n : Int) = (n : Int) := by simp [IntKind.wrap, IntKind.bits, IntKind.signed]; omega
      have hw8 : IntKind.u64.wrap (8 * (n : Int)) = 8 * (n : Int) := by simp [IntKind.wrap, IntKind.bits, IntKind.signed]; omega
      go_wp2_with fail
      refine (appendBig_any w.heap.size _ (n + 1 + zpad n) (xs ++ [128] ++ List.replicate (zpad n) 0) (8 * (n : Int)) wr hown (by omega) (by omega)).mono ?_
      rintro e w' ⟨v', rfl, hown', hB'⟩
      go_wp2
      go_ret
      refine ⟨v', rfl, ?_, hB.trans hB'⟩
      have e1 : (padL xs).length = n + 1 + zpad n + 8 := by rw [padL_length, hlen]
      rw [e1]
      unfold padL
      rw [hlen]
      exact hown'

attribute [local go_sem] U_xor U_and U_or U_addm U_subm U_not U_lo

/-- The words at the beginning. -/
def start8 : S8 := ⟨1779033703, 3144134277, 1013904242, 2773480762, 1359893119, 2600822924, 528734635, 1541459225⟩

set_option maxRecDepth 100000 in
theorem start_any (w : World) : Calls Tryd.prog 41 #[] w fun e w' => e = .returned (.agg (rowArr 8 fun i => .int .u32 (U (start8.get i)))) ∧ Ext w w' := by
  go_enter Tryd.func41, Tryd.ntmps41
  go_wp2
  refine bodyPost_ret (results_cell_row rfl _ _ w.heap.size _ _ _ _ rfl (heap_new w _ _ rfl) Tryd.underlying95 rfl (by kernel_rfl)) rfl ⟨by rfl, ?_⟩
  exact (Ext.refl w).alloc _

set_option maxRecDepth 100000 in
theorem putBig_any (g off n c N : Nat) (T : TypeId) (f : Nat → Value) (x : Int) (w : World) (hr : w.rowIs g T N f) (hN : off + n ≤ N) (hn : n ≤ 8) :
    Calls Tryd.prog 45 #[.slice (some ⟨g, off, none⟩) n c, .int .u64 x] w fun e w' =>
      e = .returned (.tuple #[]) ∧ w.grownBy w' (some g) ∧ w'.rowIs g T N (fun j => if off ≤ j ∧ j < off + n then .int .u8 ((beB x n).getD (j - off) 0) else f j) := by
  go_enter Tryd.func45, Tryd.ntmps45
  go_wp2
  go_loopw [7] (fun i wr => ∃ k : Nat, k ≤ n ∧ i = .int .i64 k ∧ wr.rowIs g T N (fun j => if off ≤ j ∧ j < off + k then .int .u8 ((beB x n).getD (j - off) 0) else f j) ∧ w.grownBy wr (some g)) (fun i _ => n - (intOf i).toNat)
  case atStart => exact ⟨0, Nat.zero_le _, rfl, hr.congr fun j _ => by rw [if_neg (by omega)], grown_ext (Ext.refl w) _⟩
  case round =>
    obtain ⟨k, hk, rfl, hR, hG⟩ := hrel
    by_cases hlt : k < n
    · have c1 := hR.cell (show off + k < N by omega)
      have f1 := hR.frozen (off + k)
      rw [if_neg (by omega)] at c1
      go_wp2
      go_roundw
      case rel =>
        refine ⟨k + 1, by omega, by go_num, (hR.set (off + k) _).congr fun j hj => ?_, grown_setCell hG rfl _⟩
        by_cases hjk : j = off + k
        · subst hjk
          rw [if_pos rfl, if_pos (by omega), show off + k - off = k by omega, beB_get x n k hlt]
        · rw [if_neg hjk]
          by_cases h2 : off ≤ j ∧ j < off + k
          · rw [if_pos h2, if_pos (by omega)]
          · rw [if_neg h2, if_neg (by omega)]
      case measure => simp [intOf]; omega
    · obtain rfl : k = n := by omega
      go_wp2
      go_end0
      exact ⟨rfl, hG, hR⟩

/-- A slice of slices of bytes. -/
structure PsAt (w : World) (a : Option Addr) (n c : Nat) (ls : List (List Int)) : Prop where
  len : ls.length = n
  cap : n ≤ c
  lim : c ≤ 9223372036854775807
  at_ : 0 < n → ∃ b off, a = some ⟨b, off, none⟩ ∧ ∀ i, i < n → ∃ pa m pc, w.cell? ⟨b, off + i, none⟩ = some (.slice pa m pc) ∧ BsAt w pa m pc (ls.getD i [])

theorem PsAt.ext {w w' : World} {a : Option Addr} {n c : Nat} {ls : List (List Int)} (h : PsAt w a n c ls) (he : Ext w w') : PsAt w' a n c ls := by
  refine ⟨h.len, h.cap, h.lim, fun hn => ?_⟩
  obtain ⟨b, off, ha, hc⟩ := h.at_ hn
  refine ⟨b, off, ha, fun i hi => ?_⟩
  obtain ⟨pa, m, pc, h1, h2⟩ := hc i hi
  exact ⟨pa, m, pc, by rw [Ext.cell he (World.block_lt_of_cell? w _ h1)]; exact h1, h2.ext he⟩

theorem BsAt.holds {w : World} {a : Option Addr} {n c : Nat} {xs : List Int} (h : BsAt w a n c xs) : Lib.HoldsBytes w (.slice a n c) (u8s xs) := by
  refine ⟨a, c, by rw [u8s_length, h.len], fun ha => ?_, fun ad ha i x hx => ?_⟩
  · have h0 := h.nil_ ha
    have h1 := h.cap
    have h2 := h.len
    exact List.eq_nil_of_length_eq_zero (by rw [u8s_length]; omega)
  · obtain ⟨hi, he⟩ := u8s_get xs h.byte i x hx
    have h2 := h.len
    obtain ⟨b, off, hab, hc⟩ := h.at_ (by omega)
    rw [ha] at hab
    simp only [Option.some.injEq] at hab
    subst hab
    rw [addr_add, hc i (by omega), he]

theorem fresh_bs {B : Nat} {w : World} {v : Value} {xs : List Int} (h : Lib.FreshBytes B w v (u8s xs)) (hb : ∀ x ∈ xs, 0 ≤ x ∧ x < 256) (hs : xs.length ≤ 140737488355328) : ∃ a c, v = .slice a xs.length c ∧ BsAt w a xs.length c xs := by
  obtain ⟨g, cap, zs, rfl, _, h1, h2, h3, h4, h5, h6, _⟩ := h
  rw [u8s_length] at h1 h5 ⊢
  refine ⟨_, cap, rfl, rfl, h1, h2, hs, hb, fun _ => ⟨g, 0, rfl, fun i hi => ?_⟩, fun h => by cases h⟩
  have h7 : zs.take xs.length = xs := u8s_inj (fun x hx => h4 x (List.mem_of_mem_take hx)) hb h5
  rw [Nat.zero_add, h6 i (by omega)]
  congr 2
  rw [← h7, List.getD_eq_getElem?_getD, List.getD_eq_getElem?_getD, List.getElem?_take, if_pos hi]

theorem lens_eq (ls : List (List Int)) : Lib.lens (ls.map u8s) = ls.flatten.length := by
  unfold Lib.lens
  induction ls with
  | nil => rfl
  | cons l r ih =>
    simp only [List.map_cons, List.sum_cons, List.flatten_cons, List.length_append, u8s_length] at ih ⊢
    rw [ih]

theorem join_flat (ls : List (List Int)) : Lib.join (ls.map u8s) [] = u8s ls.flatten := by
  cases ls with
  | nil => rfl
  | cons l r =>
    rw [List.map_cons, Lib.join_cons]
    unfold Lib.joinTail
    simp only [List.nil_append, List.map_id', List.flatten_cons]
    rw [show (u8s (l ++ r.flatten)) = u8s l ++ u8s r.flatten from by simp [u8s, Lib.bytesOf]]
    congr 1
    induction r with
    | nil => rfl
    | cons x r ih =>
      rw [List.map_cons, List.flatten_cons, ih, List.flatten_cons]
      simp [u8s, Lib.bytesOf]

theorem PsAt.byte {w : World} {a : Option Addr} {n c : Nat} {ls : List (List Int)} (h : PsAt w a n c ls) : ∀ x ∈ ls.flatten, 0 ≤ x ∧ x < 256 := by
  intro x hx
  obtain ⟨l, hl, hxl⟩ := List.mem_flatten.1 hx
  obtain ⟨i, hi, rfl⟩ := List.mem_iff_getElem.1 hl
  have hlen := h.len
  obtain ⟨b, off, ha, hc⟩ := h.at_ (by omega)
  obtain ⟨pa, m, pc, h1, h2⟩ := hc i (by omega)
  have h3 := h2.byte
  rw [List.getD_eq_getElem?_getD, List.getElem?_eq_getElem hi] at h3
  exact h3 x hxl

theorem join_any (a : Option Addr) (n c : Nat) (ls : List (List Int)) (w : World) (h : PsAt w a n c ls) (hs : ls.flatten.length ≤ 140737488354304) (hn : n ≤ 1099511627776) :
    Calls Tryd.prog 43 #[.slice a n c, .slice none 0 0] w fun e w' => ∃ a' c', e = .returned (.slice a' ls.flatten.length c') ∧ BsAt w' a' ls.flatten.length c' ls.flatten ∧ Ext w w' := by
  have hlen := h.len
  have hcap := h.cap
  have hby := h.byte
  rcases (by omega : n = 0 ∨ n = 1 ∨ 2 ≤ n) with h0 | h1 | h2
  · subst h0
    obtain rfl : ls = [] := List.eq_nil_of_length_eq_zero hlen
    refine (Tryd.bytes_Join_none a c (.slice none 0 0) w).mono fun e w' ⟨he, hw⟩ => ?_
    subst hw
    exact ⟨_, 0, he, ⟨rfl, Nat.le_refl _, by omega, by omega, by simp, fun h => by simp at h, fun h => by cases h⟩, (Ext.refl w).alloc _⟩
  · subst h1
    obtain ⟨b, off, rfl, hc⟩ := h.at_ (by omega)
    obtain ⟨pa, m, pc, hcell, hB⟩ := hc 0 (by omega)
    rw [Nat.add_zero] at hcell
    obtain ⟨l, rfl⟩ : ∃ l, ls = [l] := by
      match ls, hlen with
      | [l], _ => exact ⟨l, rfl⟩
    have hfl : [l].flatten = l := by simp
    rw [hfl] at hs hby ⊢
    simp only [List.getD_cons_zero] at hB
    have hl := hB.len
    by_cases hm : m = 0
    · subst hm
      refine (Tryd.bytes_Join_one_empty b off c pa pc (.slice none 0 0) w hcell).mono fun e w' ⟨he, hw⟩ => ?_
      subst hw
      obtain rfl : l = [] := List.eq_nil_of_length_eq_zero hl
      exact ⟨none, 0, he, ⟨rfl, Nat.le_refl _, by omega, by omega, by simp, fun h => by simp at h, fun _ => rfl⟩, Ext.refl _⟩
    · obtain ⟨b2, off2, rfl, hc2⟩ := hB.at_ (by omega)
      have hh := hB.holds
      refine (Tryd.bytes_Join_one b off c ⟨b2, off2, none⟩ pc (u8s l) (.slice none 0 0) w (by rw [u8s_length, hl]; exact hcell) (fun i x hx => ?_) (by rw [u8s_length]; omega) (by rw [u8s_length]; omega)).mono ?_
      · obtain ⟨hi, he⟩ := u8s_get l hB.byte i x hx
        rw [addr_add, hc2 i (by omega), he]
      · rintro e w' ⟨v', rfl, hF, hb⟩
        obtain ⟨a', c', rfl, hBs⟩ := fresh_bs hF hB.byte (by omega)
        exact ⟨a', c', rfl, hBs, hb⟩
  · obtain ⟨b, off, rfl, hc⟩ := h.at_ (by omega)
    have hex : ∃ vs : List Value, vs.length = n ∧ ∀ i v, vs[i]? = some v → w.cell? ⟨b, off + i, none⟩ = some v ∧ Lib.HoldsBytes w v (u8s (ls.getD i [])) := by
      refine ⟨(List.range n).map fun i => (w.cell? ⟨b, off + i, none⟩).getD default, by simp, fun i v hv => ?_⟩
      rw [List.getElem?_map] at hv
      cases hr : (List.range n)[i]? with
      | none => rw [hr] at hv; cases hv
      | some j =>
        rw [hr] at hv
        have hi := (List.getElem?_eq_some_iff.1 hr).1
        rw [List.length_range] at hi
        have hj : j = i := by
          have := (List.getElem?_eq_some_iff.1 hr).2
          simp at this
          exact this.symm
        subst hj
        obtain ⟨pa, m, pc, h3, h4⟩ := hc j hi
        simp only [Option.map_some, Option.some.injEq, h3, Option.getD_some] at hv
        subst hv
        exact ⟨h3, h4.holds⟩
    obtain ⟨vs, hvl, hvs⟩ := hex
    have hP : Lib.PartsAt w ⟨b, off, none⟩ vs (ls.map u8s) := by
      refine ⟨by rw [List.length_map, hvl, hlen], fun i v hv => by rw [addr_add]; exact (hvs i v hv).1, fun i v l hv hl => ?_⟩
      have h3 := (hvs i v hv).2
      rw [List.getElem?_map] at hl
      cases hx : ls[i]? with
      | none => rw [hx] at hl; cases hl
      | some x =>
        rw [hx] at hl
        simp only [Option.map_some, Option.some.injEq] at hl
        rw [List.getD_eq_getElem?_getD, hx] at h3
        rw [← hl]
        exact h3
    refine (Tryd.bytes_Join_many b off n c vs (ls.map u8s) (.slice none 0 0) [] w (by rw [List.length_map]; exact hlen) h2 hP hcap ⟨none, 0, rfl, fun _ => rfl, fun a ha => by cases ha⟩ (by omega) (by rw [lens_eq, List.length_nil, Nat.zero_mul]; omega)).mono ?_
    rintro e w' ⟨v', rfl, hF, hb⟩
    rw [join_flat] at hF
    obtain ⟨a', c', rfl, hBs⟩ := fresh_bs hF hby (by omega)
    exact ⟨a', c', rfl, hBs, hb⟩

attribute [local go_sem] U_xor U_and U_or U_addm U_subm U_not U_lo

/-- The words behind k blocks. -/
def sumS (p : List Int) : Nat → S8
  | 0 => start8
  | k + 1 => mixS ((p.drop (64 * k)).take 64) (sumS p k)

/-- Byte j of the sum. -/
def shaF (xs : List Int) (j : Nat) : Int := (beB (U ((sumS (padL xs) ((padL xs).length / 64)).get (j / 4))) 4).getD (j % 4) 0

theorem padL_blocks (xs : List Int) : 64 * ((padL xs).length / 64) = (padL xs).length := by
  rw [padL_length]
  unfold zpad
  omega

set_option maxHeartbeats 1000000 in
set_option maxRecDepth 100000 in
theorem sum_any (a : Option Addr) (n c : Nat) (ls : List (List Int)) (w : World) (h : PsAt w a n c ls) (hs : ls.flatten.length ≤ 140737488353280) (hn : n ≤ 1099511627776) (hk : KsAt 1 w) :
    Calls Tryd.prog 25 #[.slice a n c] w fun e w' => e = .returned (.agg (rowArr 32 fun j => .int .u8 (shaF ls.flatten j))) ∧ Ext w w' := by
  have hg0 : 1 < w.heap.size := World.block_lt_of_cell? w _ (hk 0 (by omega))
  have H := Lib.hid h
  have HK := Lib.hid hk
  obtain ⟨fl, hfl⟩ : ∃ fl, ls.flatten = fl := ⟨_, rfl⟩
  have hjoin := fun wA hEA => join_any a n c ls wA (h.ext hEA) (by omega) hn
  rw [hfl] at hs hjoin ⊢
  have HJ := Lib.hid hjoin
  clear h hk hfl hjoin
  go_enter Tryd.func25, Tryd.ntmps25
  go_wp2_with fail
  refine (start_any _).mono ?_
  rintro e w1 ⟨rfl, hE1⟩
  have hEw1 : Ext w w1 := ((Ext.refl w).alloc _).trans hE1
  have hZ1 : w1.rowIs w.heap.size 28 32 (fun _ => .int .u8 0) := (start_zero32 _ w).of_block (hE1.block (by simp))
  have hs1 : w.heap.size + 1 ≤ w1.heap.size := by have := hE1.size; simpa using this
  go_wp2_with (refine wpList_store_row rfl 95 _ _ rfl w1.heap.size _ rfl rfl _ _ (heap_new w1 _ _ rfl) (by kernel_rfl) (by rw [rowArr_size]; rfl) (rowArr_one fun _ _ => rfl) ?_; rw [setRow_new w1 _ _ _ _ rfl])
  obtain ⟨wA, hwA⟩ : ∃ wA, w1.alloc (.cells (rowArr 8 fun i => .int .u32 (U (start8.get i))) 95) = wA := ⟨_, rfl⟩
  have hEA : Ext w wA := by rw [← hwA]; exact hEw1.alloc _
  have hZA : wA.rowIs w.heap.size 28 32 (fun _ => .int .u8 0) := by rw [← hwA]; exact hZ1.alloc _
  have hsA : wA.heap.size = w1.heap.size + 1 := by rw [← hwA]; simp
  have hSA : wA.rowIs w1.heap.size 95 8 (fun i => .int .u32 (U (start8.get i))) := by rw [← hwA]; exact rowIs_of (heap_new w1 _ _ rfl)
  rw [hwA]
  have HSA := Lib.hid hSA
  have HZA := Lib.hid hZA
  clear hSA hwA hZ1 hZA
  refine (HJ.out wA hEA).mono ?_
  rintro e w2 ⟨a2, c2, rfl, hB2, hE2⟩
  have hs2 := hE2.size
  have HB2 := Lib.hid hB2
  clear hB2
  go_wp2_with fail
  refine (padded_any a2 _ c2 fl w2 HB2.out (by omega)).mono ?_
  rintro e w3 ⟨v, rfl, hown, hE3⟩
  obtain ⟨a3, c3, rfl, hn3, hc3⟩ := owns_slice hown
  have hs3 := hE3.size
  have hby := padL_byte _ (HB2.out.byte)
  have hpl0 := padL_length fl
  have hzp : zpad fl.length < 64 := by unfold zpad; omega
  have hP3 : BsAt w3 a3 (padL fl).length c3 (padL fl) := owns_bs hown hby (by unfold maxLen at hc3; omega) (by omega)
  have hne : 0 < (padL fl).length → ∀ b off, a3 = some ⟨b, off, none⟩ → b ≠ w1.heap.size := fun _ b off e => by
    have := (hown.lt b (by rw [e]; rfl)).1
    omega
  have hS3 : w3.rowIs w1.heap.size 95 8 (fun i => .int .u32 (U (start8.get i))) := HSA.out.of_block ((hE2.trans hE3).block (by omega))
  have HZ3 := Lib.hid (HZA.out.of_block ((hE2.trans hE3).block (by omega)))
  have hpb := padL_blocks fl
  obtain ⟨p, hp⟩ : ∃ p, padL fl = p := ⟨_, rfl⟩
  have hres : ∀ j, shaF fl j = (beB (U ((sumS p (p.length / 64)).get (j / 4))) 4).getD (j % 4) 0 := fun j => by unfold shaF; rw [hp]
  rw [hp] at hP3 hne hn3 hpb hby hpl0 ⊢
  have HP3 := Lib.hid hP3
  have HS3 := Lib.hid hS3
  have Hres := Lib.hid hres
  have Hne := Lib.hid hne
  have hE03 : Ext w w3 := (hEA.trans hE2).trans hE3
  clear hP3 hS3 hp hown hres hne hby
  obtain ⟨N, hN⟩ : ∃ N, p.length = N := ⟨_, rfl⟩
  obtain ⟨M, hM⟩ : ∃ M, N / 64 = M := ⟨_, rfl⟩
  rw [hN] at HP3 Hres Hne hn3 hpb hpl0 ⊢
  rw [hM] at Hres hpb
  have HN := Lib.hid hN
  have hpos : 0 < N := by omega
  have hbig : N ≤ 140737488353408 := by omega
  obtain ⟨b3, off3, rfl, -⟩ := HP3.out.at_ hpos
  have Hpb := Lib.hid hpb
  have Hpl := Lib.hid hpl0
  have hc3' : N ≤ c3 := HP3.out.cap
  have hc3l : c3 ≤ 9223372036854775807 := HP3.out.lim
  have hs3' : w1.heap.size < w3.heap.size := by omega
  have hHs : w.heap.size < w1.heap.size := by omega
  have Hsz := Lib.hid (And.intro hs3' hHs)
  have HE := Lib.hid hE03
  have Hg0 := Lib.hid hg0
  clear hN hM hpb hpl0 hzp hs1 hsA hs2 hs3 hc3 hE03 hs3' hHs hg0 hEw1 hEA hE1 hE2 hE3 hs
  go_wp2
  go_loopw [5] (fun i wr => ∃ k : Nat, k ≤ M ∧ i = .int .i64 (64 * (k : Int)) ∧ wr.rowIs w1.heap.size 95 8 (fun i => .int .u32 (U ((sumS p k).get i))) ∧ w3.grownBy wr (some w1.heap.size) ∧ wr.rowIs w.heap.size 28 32 (fun _ => .int .u8 0))
    (fun i _ => M - ((intOf i).toNat / 64))
  case atStart => exact ⟨0, Nat.zero_le _, rfl, HS3.out, grown_ext (Ext.refl w3) _, HZ3.out⟩
  case round =>
    obtain ⟨k, hk, rfl, hR, hG, hZ⟩ := hrel
    have HZ := Lib.hid hZ
    clear hZ
    have hpb := Hpb.out
    by_cases hlt : k < M
    · have hP := (HP3.out.grown hG Hne.out).sub (64 * k) 64 (by omega)
      have HP := Lib.hid hP
      have hK : KsAt 1 wr := fun i hi =>
        World.grownBy.cell hG (by rw [Ext.cell (p := ⟨1, i, none⟩) HE.out Hg0.out]; exact HK.out i hi) (fun e => by
          have h1 : 1 = w1.heap.size := Option.some.inj e
          have h2 := Hsz.out.2
          have h3 := Hg0.out
          omega)
      have HKr := Lib.hid hK
      have HR := Lib.hid hR
      have HG := Lib.hid hG
      have x1 : (0 : Int) ≤ 64 * (k : Int) := by omega
      have x2 : 64 * (k : Int) < (N : Int) := by omega
      have x3 : 64 * (k : Int) + 64 ≤ (N : Int) := by omega
      clear hP hK hR hG hpb
      go_wp2_with fail
      refine (mix_any w1.heap.size b3 (off3 + 64 * k) (c3 - 64 * k) _ (sumS p k) wr HP.out HR.out HKr.out).mono ?_
      rintro e w4 ⟨rfl, hG4, hR4⟩
      go_wp2
      go_roundw
      case rel =>
        exact ⟨k + 1, by omega, by go_num, hR4, grown_trans HG.out hG4, HZ.out.of_block (hG4.block _ (by have h1 := HG.out.size; have h2 := Hsz.out; omega) (fun e => by injection e with e; have h2 := Hsz.out; omega))⟩
      case measure => simp [intOf]; omega
    · obtain rfl : k = M := by omega
      have hS := rowIs_cells hR
      have HSr := Lib.hid hS
      have HR := Lib.hid hR
      have HG := Lib.hid hG
      have hszr : w1.heap.size < wr.heap.size := by
        have h1 := hG.size
        have h2 := Hsz.out.1
        omega
      have x3 : ¬ (64 * (k : Int) < (N : Int)) := by omega
      clear hS hR hG hpb
      go_wp2_with (first
        | (refine wpList_load_row rfl 95 _ rfl w1.heap.size rfl _ _ _ _ (by rw [Below.heap_alloc _ _ _ hszr]; exact HSr.out) Tryd.underlying95 rfl (by kernel_rfl) ?_))
      have hEr : Ext w wr := ext_grown HE.out HG.out (by have := Hsz.out.2; omega)
      obtain ⟨sf, hsf⟩ : ∃ sf, sumS p k = sf := ⟨_, rfl⟩
      rw [hsf] at Hres ⊢
      clear hsf HSr HR HG
      obtain ⟨wz, hwz⟩ : ∃ wz, wr.alloc (.cells (Array.replicate 32 (.int .u8 0)) 28) = wz := ⟨_, rfl⟩
      have hwz' : wr.alloc (.cells #[.int .u8 0, .int .u8 0, .int .u8 0, .int .u8 0, .int .u8 0, .int .u8 0, .int .u8 0, .int .u8 0, .int .u8 0, .int .u8 0, .int .u8 0, .int .u8 0, .int .u8 0, .int .u8 0, .int .u8 0, .int .u8 0, .int .u8 0, .int .u8 0, .int .u8 0, .int .u8 0, .int .u8 0, .int .u8 0, .int .u8 0, .int .u8 0, .int .u8 0, .int .u8 0, .int .u8 0, .int .u8 0, .int .u8 0, .int .u8 0, .int .u8 0, .int .u8 0] 28) = wz := hwz
      rw [hwz']
      have hEz : Ext w wz := by rw [← hwz]; exact hEr.alloc _
      have hZz : wz.rowIs w.heap.size 28 32 (fun _ => .int .u8 0) := by rw [← hwz]; exact HZ.out.alloc _
      have hsz : wr.heap.size < wz.heap.size := by rw [← hwz]; simp
      have hRz : wz.rowIs wr.heap.size 28 32 (fun _ => .int .u8 0) := by rw [← hwz]; exact start_zero32 _ wr
      have hEs := Below.size hEr
      have hEl : w.heap.size < wr.heap.size := by have h1 := Hsz.out.2; omega
      obtain ⟨g, hg⟩ : ∃ g, wr.heap.size = g := ⟨_, rfl⟩
      rw [hg] at hsz hRz hEs hEl ⊢
      clear hg hwz hwz' hEr
      have HEz := Lib.hid hEz
      have HRz := Lib.hid hRz
      have HZz := Lib.hid hZz
      clear hEz hRz hZz HZ
      go_loopw [26] (fun i wq => ∃ j : Nat, j ≤ 8 ∧ i = .int .i64 (j : Int) ∧ wq.rowIs g 28 32 (fun q => .int .u8 (if q < 4 * j then shaF fl q else 0)) ∧ Ext w wq ∧ g < wq.heap.size ∧ wq.rowIs w.heap.size 28 32 (fun _ => .int .u8 0))
        (fun i _ => 8 - (intOf i).toNat)
      case atStart => exact ⟨0, Nat.zero_le _, rfl, HRz.out.congr fun i _ => by simp, HEz.out, hsz, HZz.out⟩
      case round =>
        obtain ⟨j, hj, rfl, hR, hE, hsq, hZ⟩ := hrel
        have HZ := Lib.hid hZ
        clear hZ
        by_cases hlj : j < 8
        · have hix : ∀ w, (Instr.index 95 (.agg (rowArr 8 fun i => .int .u32 (U (sf.get i)))) (.int .i64 (j : Int))).run Tryd.prog w = .ok (.int .u32 (U (sf.get j))) w := fun w => index_row _ _ 8 _ j hlj Tryd.underlying95 w rfl rfl
          have hu : U (sf.get j) % 18446744073709551616 = U (sf.get j) := by
            have := U_hi (sf.get j)
            have := U_lo (sf.get j)
            omega
          have x1 : (0 : Int) ≤ (j : Int) := by omega
          have x2 : (j : Int) < 8 := by omega
          have x3 : (0 : Int) ≤ 4 * (j : Int) := by omega
          have x4 : 4 * (j : Int) + 4 ≤ 32 := by omega
          have x5 : (0 : Int) ≤ 4 * (j : Int) + 4 := by omega
          have x6 : 4 * (j : Int) ≤ 4 * (j : Int) + 4 := by omega
          have t1 : (4 * (j : Int)).toNat = 4 * j := by omega
          have t2 : (4 * (j : Int) + 4).toNat = 4 * j + 4 := by omega
          go_wp2_with fail
          have hE' := Lib.hid hE
          have hR' := Lib.hid hR
          clear hE hR
          refine (putBig_any g (4 * j) 4 _ 32 _ _ _ wr hR'.out (by omega) (by omega)).mono ?_
          rintro e w5 ⟨rfl, hG5, hR5⟩
          go_wp2
          go_roundw
          case rel =>
            refine ⟨j + 1, by omega, by go_num, hR5.congr fun q hq => ?_, ext_grown hE'.out hG5 hEs, by have := hG5.size; omega, HZ.out.of_block (hG5.block _ (by omega) (fun e => by injection e with e; omega))⟩
            by_cases h1 : 4 * j ≤ q ∧ q < 4 * j + 4
            · rw [if_pos h1, if_pos (by omega), Hres.out q, show q / 4 = j by omega, show q % 4 = q - 4 * j by omega]
            · rw [if_neg h1]
              by_cases h2 : q < 4 * j
              · rw [if_pos h2, if_pos (by omega)]
              · rw [if_neg h2, if_neg (by omega)]
          case measure => simp [intOf]; omega
        · obtain rfl : j = 8 := by omega
          have hR1 : wr.rowIs g 28 32 (fun q => .int .u8 (shaF fl q)) := hR.congr fun q hq => by rw [if_pos (by omega)]
          have hg := rowIs_cells hR1
          have Hg := Lib.hid hg
          clear hg hR hR1
          have hz := rowIs_cells HZ.out
          have Hz := Lib.hid hz
          have HE1 := Lib.hid hE
          clear hz hE
          go_wp2_with (first
            | (refine wpList_load_row rfl 28 _ rfl _ rfl _ _ _ _ Hg.out Tryd.underlying28 rfl (by kernel_rfl) ?_)
            | (refine wpList_store_row rfl 28 _ _ rfl _ _ rfl rfl _ _ Hz.out (by kernel_rfl) (by rw [rowArr_size, rowArr_size]) (rowArr_one fun _ _ => rfl) ?_))
          refine bodyPost_ret (results_cell_row rfl _ _ w.heap.size _ _ _ _ rfl (setRow_heap wr w.heap.size _ _ _ _ Hz.out) Tryd.underlying28 rfl (by kernel_rfl)) rfl ⟨rfl, ?_⟩
          exact below_setRow HE1.out (Nat.le_refl _) _

/-- Parts that lie at the head of a block. -/
theorem ps_one {w : World} {pa : Option Addr} {m pc : Nat} {xs : List Int} (h : BsAt w pa m pc xs) (T : TypeId) : PsAt (w.alloc (.cells #[.slice pa m pc] T)) (some ⟨w.heap.size, 0, none⟩) 1 1 [xs] := by
  refine ⟨rfl, Nat.le_refl _, by omega, fun _ => ⟨w.heap.size, 0, rfl, fun i hi => ⟨pa, m, pc, ?_, ?_⟩⟩⟩
  · obtain rfl : i = 0 := by omega
    rw [cell_of_row _ w.heap.size _ _ _ _ (heap_new w _ _ rfl)]
    rfl
  · obtain rfl : i = 0 := by omega
    exact h.ext ((Ext.refl w).alloc _)

end Go.Proofs.YtihlpfdhallfpaaDoor
