/-
  An item by value: 146 cells; the walk of slices.Clone of strings. No conditions but the length.
-/
import Derived.Test.YtldaligeckjhaaaRwA
namespace Go.Proofs.Ytldaligeckjhaaa
open Go.ChangeShapes Go.WideShapes Go.ChangeAt Go.RowKit

/-- An item. -/
structure It where
  tok : Nat → Int
  hd : HT
  kn : Bool
  al : Bool
  name : ByteArray
  ta : Option Addr
  tc : Nat
  tags : List ByteArray
  val : ByteArray
/-- An item's cells. -/
def itC (t : It) (i : Nat) : Value :=
  if i < 16 then .int .u8 (t.tok i) else if i < 141 then hdC t.hd.1 (i - 16) else if i < 142 then .bool t.kn else if i < 143 then .bool t.al else if i < 144 then .string t.name
  else if i < 145 then .slice t.ta t.tags.length t.tc else .string t.val
def itV (t : It) : Array Value := rowArr 146 (itC t)
theorem itV_size (t : It) : (itV t).size = 146 := rowArr_size _ _
theorem itC_one (t : It) (i : Nat) : (itC t i).oneCell' = true := by
  unfold itC
  split
  · rfl
  · split
    · exact hdC_one _ _
    · repeat (split; rfl)
      rfl
theorem itV_one (t : It) : (itV t).all (·.oneCell') = true := rowArr_one fun i _ => itC_one t i
def itN : It := ⟨fun _ => 0, htN, false, false, ⟨#[]⟩, none, 0, [], ⟨#[]⟩⟩
set_option maxRecDepth 100000 in
theorem it_zero (w : World) : (zeroValue 41).run Try.prog w = .ok (.agg (itV itN)) w := by kernel_rfl
/-- An item that may stand in memory. -/
structure ItAt (w : World) (t : It) : Prop where
  hd : HtAt w t.hd
  tags : SrAt w t.ta t.tags.length t.tc t.tags
  name : t.name.size ≤ 140737488351232
  val : t.val.size ≤ 140737488351232
theorem ItAt.ext {w w' : World} {t : It} (h : ItAt w t) (he : Ext w w') : ItAt w' t := ⟨h.hd.ext he, h.tags.ext he, h.name, h.val⟩

/-- Strings' cells. -/
def srC (ss : List ByteArray) : List Value := ss.map .string
theorem srC_one (ss : List ByteArray) : ∀ u ∈ srC ss, u.oneCell' = true := fun u hu => by
  obtain ⟨s, _, rfl⟩ := List.mem_map.1 hu
  rfl
set_option maxRecDepth 100000 in
theorem info_str : (Try.prog.info? 9).map (fun i => (i.zero, i.size, i.bytes)) = some (some (.string ⟨#[]⟩), 1, 16) := by kernel_rfl
theorem srC_cells {w : World} {b off n c : Nat} {ss : List ByteArray} (h : SrAt w (some ⟨b, off, none⟩) n c ss) : ∀ j u, (srC ss)[j]? = some u → w.cell? ((⟨b, off, none⟩ : Addr).add j) = some u := fun j u hu => by
  unfold srC at hu
  rw [List.getElem?_map] at hu
  cases hs : ss[j]? with
  | none => rw [hs] at hu; cases hu
  | some s =>
    rw [hs] at hu
    obtain rfl := Option.some.inj hu
    have hj : j < n := by
      have := (List.getElem?_eq_some_iff.1 hs).1
      have := h.len
      omega
    obtain ⟨b', off', he, hc⟩ := h.at_ (by omega)
    have he := Option.some.inj he
    simp only [Addr.mk.injEq] at he
    obtain ⟨rfl, rfl, -⟩ := he
    rw [addr_add, hc j hj, List.getD_eq_getElem?_getD, hs]
    rfl
set_option maxHeartbeats 1000000 in
set_option maxRecDepth 100000 in
theorem srClone_any (a : Option Addr) (n c : Nat) (ss : List ByteArray) (w : World) (h : SrAt w a n c ss) (hs : n ≤ 1000000) :
    Calls Try.prog 63 #[.slice a n c] w fun e w' => ∃ v, e = .returned v ∧ w'.ownsRow w.heap.size 9 1 v n (srC ss) ∧ Ext w w' := by
  have hl := h.len
  have hcap := h.cap
  obtain ⟨i0, hi, hz0, hz1, hz2⟩ := info_parts info_str
  have H := Lib.hid h
  clear h
  have q22 : ∀ (w : World) (a : Option Addr) (n c n' c' : Nat), (binOp .eql 32 (.slice a n c) (.slice none n' c')).run Try.prog w = .ok (.bool a.isNone) w := fun w a n c n' c' => Lib.run_eql_slice_nil w _ _ a n c n' c' Try.underlying32
  cases a with
  | none =>
    have h0 : n = 0 := by
      rcases Nat.eq_zero_or_pos n with q | q
      · exact q
      · obtain ⟨b, off, ha, _⟩ := H.out.at_ q
        cases ha
    subst h0
    obtain rfl : ss = [] := List.eq_nil_of_length_eq_zero hl
    go_enter Try.func63, Try.ntmps63
    go_wp2
    go_ret
    exact ⟨_, rfl, World.ownsRow_nil _ _ _ _, Ext.refl _⟩
  | some ad =>
    have hcell : ∀ j u, (srC ss)[j]? = some u → (w.alloc (.cells #[] 9)).cell? (ad.add j) = some u := by
      by_cases h0 : n = 0
      · subst h0
        obtain rfl : ss = [] := List.eq_nil_of_length_eq_zero hl
        intro j u hu
        simp [srC] at hu
      · obtain ⟨b, off, ha, _⟩ := H.out.at_ (by omega)
        obtain rfl := Option.some.inj ha
        exact srC_cells (H.out.ext ((Ext.refl w).alloc _))
    have Hcell := Lib.hid hcell
    clear hcell
    go_enter Try.func63, Try.ntmps63
    go_wp2_with (at_builtin; refine wpList_append_own _ rfl _ _ 32 rfl w.heap.size 9 i0 (.string ⟨#[]⟩) 1 16 Try.underlying32 hi hz0 hz1 hz2 (by kernel_rfl) (by decide) _ 0 [] rfl (World.ownsRow_made w #[] 0 (Nat.le_refl _) (by unfold maxLen; omega) rfl) ad n c (srC ss) rfl ?c1 Hcell.out (srC_one ss) ?c4 ?c5 ?c6 ?_)
    case c1 => unfold srC; rw [List.length_map, hl]; omega
    case c4 => unfold maxLen; omega
    case c5 => omega
    case c6 => simp
    intro v' w1 hown hgrow _
    go_wp2
    go_ret
    refine ⟨v', rfl, ?_, ?_⟩
    · simpa using hown
    · exact ((Below.refl _ _).alloc (Nat.le_refl _) _).grown hgrow (by simp) (fun k hk => by simp [Value.ownBlock] at hk; omega)

end Go.Proofs.Ytldaligeckjhaaa
