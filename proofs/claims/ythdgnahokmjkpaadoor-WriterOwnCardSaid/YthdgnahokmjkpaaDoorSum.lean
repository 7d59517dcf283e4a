/-
  The walks of hash.start, hash.putBig, bytes.Join (by the shelf's contract) and hash.Sum. Asked: the table of 64 words lies as the text lays it; the parts are not longer than 2^40 bytes together.
-/
import Derived.Test.YthdgnahokmjkpaaDoorPad
import Derived.Test.YthdgnahokmjkpaaDoorShelf
namespace Go.Proofs.YthdgnahokmjkpaaDoor
open Go.ChangeShapes Go.WideShapes Go.ChangeAt Go.RowKit

attribute [local go_sem] U_xor U_and U_or U_addm U_subm U_not U_lo

/-- The words at the beginning. -/
def start8 : S8 := ⟨1779033703, 3144134277, 1013904242, 2773480762, 1359893119, 2600822924, 528734635, 1541459225⟩

set_option maxRecDepth 100000 in
theorem start_any (w : World) : Calls Tryd.prog 45 #[] w fun e w' => e = .returned (.agg (rowArr 8 fun i => .int .u32 (U (start8.get i)))) ∧ Ext w w' := by
  go_enter Tryd.func45, Tryd.ntmps45
  go_wp2
  refine bodyPost_ret (results_cell_row rfl _ _ w.heap.size _ _ _ _ rfl (heap_new w _ _ rfl) Tryd.underlying75 rfl (by kernel_rfl)) rfl ⟨by rfl, ?_⟩
  exact (Ext.refl w).alloc _

set_option maxRecDepth 100000 in
theorem putBig_any (g off n c N : Nat) (T : TypeId) (f : Nat → Value) (x : Int) (w : World) (hr : w.rowIs g T N f) (hN : off + n ≤ N) (hn : n ≤ 8) :
    Calls Tryd.prog 49 #[.slice (some ⟨g, off, none⟩) n c, .int .u64 x] w fun e w' =>
      e = .returned (.tuple #[]) ∧ w.grownBy w' (some g) ∧ w'.rowIs g T N (fun j => if off ≤ j ∧ j < off + n then .int .u8 ((beB x n).getD (j - off) 0) else f j) := by
  go_enter Tryd.func49, Tryd.ntmps49
  go_wp2
  go_loopw [7] (fun i wr => ∃ k : Nat, k ≤ n ∧ i = .int .i64 k ∧ wr.rowIs g T N (fun j => if off ≤ j ∧ j < off + k then .int .u8 ((beB x n).getD (j - off) 0) else f j) ∧ w.grownBy wr (some g)) (fun i _ => n - (intOf i).toNat)
  case atStart => exact ⟨0, Nat.zero_le _, rfl, hr.congr fun j _ => by rw [if_neg (by omega)], grown_ext (Ext.refl w) _⟩
  case round =>
    obtain ⟨k, hk, rfl, hR, hG⟩ := hrel
    by_cases hlt : k < n
    · have c1 := hR.cell (show off + k < N by omega)
      have f1 := hR.frozen (off + k)
      rw [if_neg (by omega)] at c1
      go_wp2
      go_roundw
      case rel =>
        refine ⟨k + 1, by omega, by go_num, (hR.set (off + k) _).congr fun j hj => ?_, grown_setCell hG rfl _⟩
        by_cases hjk : j = off + k
        · subst hjk
          rw [if_pos rfl, if_pos (by omega), show off + k - off = k by omega, beB_get x n k hlt]
        · rw [if_neg hjk]
          by_cases h2 : off ≤ j ∧ j < off + k
          · rw [if_pos h2, if_pos (by omega)]
          · rw [if_neg h2, if_neg (by omega)]
      case measure => simp [intOf]; omega
    · obtain rfl : k = n := by omega
      go_wp2
      go_end0
      exact ⟨rfl, hG, hR⟩

/-- A slice of slices of bytes. -/
structure PsAt (w : World) (a : Option Addr) (n c : Nat) (ls : List (List Int)) : Prop where
  len : ls.length = n
  cap : n ≤ c
  lim : c ≤ 9223372036854775807
  at_ : 0 < n → ∃ b off, a = some ⟨b, off, none⟩ ∧ ∀ i, i < n → ∃ pa m pc, w.cell? ⟨b, off + i, none⟩ = some (.slice pa m pc) ∧ BsAt w pa m pc (ls.getD i [])

theorem PsAt.ext {w w' : World} {a : Option Addr} {n c : Nat} {ls : List (List Int)} (h : PsAt w a n c ls) (he : Ext w w') : PsAt w' a n c ls := by
  refine ⟨h.len, h.cap, h.lim, fun hn => ?_⟩
  obtain ⟨b, off, ha, hc⟩ := h.at_ hn
  refine ⟨b, off, ha, fun i hi => ?_⟩
  obtain ⟨pa, m, pc, h1, h2⟩ := hc i hi
  exact ⟨pa, m, pc, by rw [Ext.cell he (World.block_lt_of_cell? w _ h1)]; exact h1, h2.ext he⟩

theorem BsAt.holds {w : World} {a : Option Addr} {n c : Nat} {xs : List Int} (h : BsAt w a n c xs) : Lib.HoldsBytes w (.slice a n c) (u8s xs) := by
  refine ⟨a, c, by rw [u8s_length, h.len], fun ha => ?_, fun ad ha i x hx => ?_⟩
  · have h0 := h.nil_ ha
    have h1 := h.cap
    have h2 := h.len
    exact List.eq_nil_of_length_eq_zero (by rw [u8s_length]; omega)
  · obtain ⟨hi, he⟩ := u8s_get xs h.byte i x hx
    have h2 := h.len
    obtain ⟨b, off, hab, hc⟩ := h.at_ (by omega)
    rw [ha] at hab
    simp only [Option.some.injEq] at hab
    subst hab
    rw [addr_add, hc i (by omega), he]

theorem fresh_bs {B : Nat} {w : World} {v : Value} {xs : List Int} (h : Lib.FreshBytes B w v (u8s xs)) (hb : ∀ x ∈ xs, 0 ≤ x ∧ x < 256) (hs : xs.length ≤ 140737488355328) : ∃ a c, v = .slice a xs.length c ∧ BsAt w a xs.length c xs := by
  obtain ⟨g, cap, zs, rfl, _, h1, h2, h3, h4, h5, h6, _⟩ := h
  rw [u8s_length] at h1 h5 ⊢
  refine ⟨_, cap, rfl, rfl, h1, h2, hs, hb, fun _ => ⟨g, 0, rfl, fun i hi => ?_⟩, fun h => by cases h⟩
  have h7 : zs.take xs.length = xs := u8s_inj (fun x hx => h4 x (List.mem_of_mem_take hx)) hb h5
  rw [Nat.zero_add, h6 i (by omega)]
  congr 2
  rw [← h7, List.getD_eq_getElem?_getD, List.getD_eq_getElem?_getD, List.getElem?_take, if_pos hi]

theorem lens_eq (ls : List (List Int)) : Lib.lens (ls.map u8s) = ls.flatten.length := by
  unfold Lib.lens
  induction ls with
  | nil => rfl
  | cons l r ih =>
    simp only [List.map_cons, List.sum_cons, List.flatten_cons, List.length_append, u8s_length] at ih ⊢
    rw [ih]

theorem join_flat (ls : List (List Int)) : Lib.join (ls.map u8s) [] = u8s ls.flatten := by
  cases ls with
  | nil => rfl
  | cons l r =>
    rw [List.map_cons, Lib.join_cons]
    unfold Lib.joinTail
    simp only [List.nil_append, List.map_id', List.flatten_cons]
    rw [show (u8s (l ++ r.flatten)) = u8s l ++ u8s r.flatten from by simp [u8s, Lib.bytesOf]]
    congr 1
    induction r with
    | nil => rfl
    | cons x r ih =>
      rw [List.map_cons, List.flatten_cons, ih, List.flatten_cons]
      simp [u8s, Lib.bytesOf]

theorem PsAt.byte {w : World} {a : Option Addr} {n c : Nat} {ls : List (List Int)} (h : PsAt w a n c ls) : ∀ x ∈ ls.flatten, 0 ≤ x ∧ x < 256 := by
  intro x hx
  obtain ⟨l, hl, hxl⟩ := List.mem_flatten.1 hx
  obtain ⟨i, hi, rfl⟩ := List.mem_iff_getElem.1 hl
  have hlen := h.len
  obtain ⟨b, off, ha, hc⟩ := h.at_ (by omega)
  obtain ⟨pa, m, pc, h1, h2⟩ := hc i (by omega)
  have h3 := h2.byte
  rw [List.getD_eq_getElem?_getD, List.getElem?_eq_getElem hi] at h3
  exact h3 x hxl

theorem join_any (a : Option Addr) (n c : Nat) (ls : List (List Int)) (w : World) (h : PsAt w a n c ls) (hs : ls.flatten.length ≤ 1099511627776) (hn : n ≤ 1099511627776) :
    Calls Tryd.prog 47 #[.slice a n c, .slice none 0 0] w fun e w' => ∃ a' c', e = .returned (.slice a' ls.flatten.length c') ∧ BsAt w' a' ls.flatten.length c' ls.flatten ∧ Ext w w' := by
  have hlen := h.len
  have hcap := h.cap
  have hby := h.byte
  rcases (by omega : n = 0 ∨ n = 1 ∨ 2 ≤ n) with h0 | h1 | h2
  · subst h0
    obtain rfl : ls = [] := List.eq_nil_of_length_eq_zero hlen
    refine (Tryd.bytes_Join_none a c (.slice none 0 0) w).mono fun e w' ⟨he, hw⟩ => ?_
    subst hw
    exact ⟨_, 0, he, ⟨rfl, Nat.le_refl _, by omega, by omega, by simp, fun h => by simp at h, fun h => by cases h⟩, (Ext.refl w).alloc _⟩
  · subst h1
    obtain ⟨b, off, rfl, hc⟩ := h.at_ (by omega)
    obtain ⟨pa, m, pc, hcell, hB⟩ := hc 0 (by omega)
    rw [Nat.add_zero] at hcell
    obtain ⟨l, rfl⟩ : ∃ l, ls = [l] := by
      match ls, hlen with
      | [l], _ => exact ⟨l, rfl⟩
    have hfl : [l].flatten = l := by simp
    rw [hfl] at hs hby ⊢
    simp only [List.getD_cons_zero] at hB
    have hl := hB.len
    by_cases hm : m = 0
    · subst hm
      refine (Tryd.bytes_Join_one_empty b off c pa pc (.slice none 0 0) w hcell).mono fun e w' ⟨he, hw⟩ => ?_
      subst hw
      obtain rfl : l = [] := List.eq_nil_of_length_eq_zero hl
      exact ⟨none, 0, he, ⟨rfl, Nat.le_refl _, by omega, by omega, by simp, fun h => by simp at h, fun _ => rfl⟩, Ext.refl _⟩
    · obtain ⟨b2, off2, rfl, hc2⟩ := hB.at_ (by omega)
      have hh := hB.holds
      refine (Tryd.bytes_Join_one b off c ⟨b2, off2, none⟩ pc (u8s l) (.slice none 0 0) w (by rw [u8s_length, hl]; exact hcell) (fun i x hx => ?_) (by rw [u8s_length]; omega) (by rw [u8s_length]; omega)).mono ?_
      · obtain ⟨hi, he⟩ := u8s_get l hB.byte i x hx
        rw [addr_add, hc2 i (by omega), he]
      · rintro e w' ⟨v', rfl, hF, hb⟩
        obtain ⟨a', c', rfl, hBs⟩ := fresh_bs hF hB.byte (by omega)
        exact ⟨a', c', rfl, hBs, hb⟩
  · obtain ⟨b, off, rfl, hc⟩ := h.at_ (by omega)
    have hex : ∃ vs : List Value, vs.length = n ∧ ∀ i v, vs[i]? = some v → w.cell? ⟨b, off + i, none⟩ = some v ∧ Lib.HoldsBytes w v (u8s (ls.getD i [])) := by
      refine ⟨(List.range n).map fun i => (w.cell? ⟨b, off + i, none⟩).getD default, by simp, fun i v hv => ?_⟩
      rw [List.getElem?_map] at hv
      cases hr : (List.range n)[i]? with
      | none => rw [hr] at hv; cases hv
      | some j =>
        rw [hr] at hv
        have hi := (List.getElem?_eq_some_iff.1 hr).1
        rw [List.length_range] at hi
        have hj : j = i := by
          have := (List.getElem?_eq_some_iff.1 hr).2
          simp at this
          exact this.symm
        subst hj
        obtain ⟨pa, m, pc, h3, h4⟩ := hc j hi
        simp only [Option.map_some, Option.some.injEq, h3, Option.getD_some] at hv
        subst hv
        exact ⟨h3, h4.holds⟩
    obtain ⟨vs, hvl, hvs⟩ := hex
    have hP : Lib.PartsAt w ⟨b, off, none⟩ vs (ls.map u8s) := by
      refine ⟨by rw [List.length_map, hvl, hlen], fun i v hv => by rw [addr_add]; exact (hvs i v hv).1, fun i v l hv hl => ?_⟩
      have h3 := (hvs i v hv).2
      rw [List.getElem?_map] at hl
      cases hx : ls[i]? with
      | none => rw [hx] at hl; cases hl
      | some x =>
        rw [hx] at hl
        simp only [Option.map_some, Option.some.injEq] at hl
        rw [List.getD_eq_getElem?_getD, hx] at h3
        rw [← hl]
        exact h3
    refine (Tryd.bytes_Join_many b off n c vs (ls.map u8s) (.slice none 0 0) [] w (by rw [List.length_map]; exact hlen) h2 hP hcap ⟨none, 0, rfl, fun _ => rfl, fun a ha => by cases ha⟩ (by omega) (by rw [lens_eq, List.length_nil, Nat.zero_mul]; omega)).mono ?_
    rintro e w' ⟨v', rfl, hF, hb⟩
    rw [join_flat] at hF
    obtain ⟨a', c', rfl, hBs⟩ := fresh_bs hF hby (by omega)
    exact ⟨a', c', rfl, hBs, hb⟩

end Go.Proofs.YthdgnahokmjkpaaDoor
