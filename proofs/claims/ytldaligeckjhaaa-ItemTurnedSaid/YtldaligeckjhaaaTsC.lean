/-
  The walk of slices.Clone at tokens. No conditions but the length.
-/
import Derived.Test.YtldaligeckjhaaaTkO
namespace Go.Proofs.Ytldaligeckjhaaa
open Go.ChangeAt Go.ChangeShapes Go.RowKit Go.WideShapes

theorem tkC_one : ∀ (ts : List (Nat → Int)), ∀ v ∈ tkC ts, v.oneCell' = true := by
  intro ts
  induction ts with
  | nil => intro v hv; simp [tkC] at hv
  | cons t ts ih =>
    intro v hv
    rcases List.mem_append.1 (by simpa [tkC] using hv) with h | h
    · obtain ⟨j, _, rfl⟩ := List.mem_map.1 h
      rfl
    · exact ih v h
theorem tkC_cells {w : World} {b off n c : Nat} {ts : List (Nat → Int)} (h : TsAt w (some ⟨b, off, none⟩) n c ts) : ∀ j u, (tkC ts)[j]? = some u → w.cell? ((⟨b, off, none⟩ : Addr).add j) = some u := by
  intro j u hu
  have hl := h.len
  have hj : j < ts.length * 16 := by
    have := (List.getElem?_eq_some_iff.1 hu).1
    rwa [tkC_length] at this
  obtain ⟨b', off', ha, hc⟩ := h.at_ (by omega)
  simp only [Option.some.injEq, Addr.mk.injEq, and_true] at ha
  obtain ⟨rfl, rfl⟩ := ha
  have h1 := tkC_get ts (j / 16) (j % 16) (by omega) (by omega)
  rw [show j / 16 * 16 + j % 16 = j by omega, hu] at h1
  rw [Option.some.inj h1, addr_add, show off + j = off + j / 16 * 16 + j % 16 by omega]
  exact hc (j / 16) (by omega) (j % 16) (by omega)

set_option maxHeartbeats 1000000 in
set_option maxRecDepth 100000 in
theorem tsClone_any (a : Option Addr) (n c : Nat) (ts : List (Nat → Int)) (w : World) (h : TsAt w a n c ts) (hs : n ≤ 1000000) :
    Calls Try.prog 62 #[.slice a n c] w fun e w' => ∃ v, e = .returned v ∧ w'.ownsRow w.heap.size 27 16 v n (tkC ts) ∧ Ext w w' := by
  have hl := h.len
  have hcap := h.cap
  obtain ⟨i0, hi, hz0, hz1, hz2⟩ := info_parts info_tok
  have H := Lib.hid h
  clear h
  have q22 : ∀ (w : World) (a : Option Addr) (n c n' c' : Nat), (binOp .eql 28 (.slice a n c) (.slice none n' c')).run Try.prog w = .ok (.bool a.isNone) w := fun w a n c n' c' => Lib.run_eql_slice_nil w _ _ a n c n' c' Try.underlying28
  cases a with
  | none =>
    obtain rfl : c = 0 := H.out.nil_ rfl
    obtain rfl : n = 0 := by omega
    obtain rfl : ts = [] := List.eq_nil_of_length_eq_zero hl
    go_enter Try.func62, Try.ntmps62
    go_wp2
    go_ret
    exact ⟨_, rfl, World.ownsRow_nil _ _ _ _, Ext.refl _⟩
  | some ad =>
    have hcell : ∀ j u, (tkC ts)[j]? = some u → (w.alloc (.cells #[] 27)).cell? (ad.add j) = some u := by
      by_cases h0 : n = 0
      · subst h0
        obtain rfl : ts = [] := List.eq_nil_of_length_eq_zero hl
        intro j u hu
        simp [tkC] at hu
      · obtain ⟨b, off, ha, _⟩ := H.out.at_ (by omega)
        obtain rfl := Option.some.inj ha
        exact tkC_cells (H.out.ext ((Ext.refl w).alloc _))
    have Hcell := Lib.hid hcell
    clear hcell
    go_enter Try.func62, Try.ntmps62
    go_wp2_with (at_builtin; refine wpList_append_own _ rfl _ _ 28 rfl w.heap.size 27 i0 (.agg (rowArr 16 fun _ => .int .u8 0)) 16 16 Try.underlying28 hi hz0 hz1 hz2 (by kernel_rfl) (by decide) _ 0 [] rfl (World.ownsRow_made w #[] 0 (Nat.le_refl _) (by unfold maxLen; omega) rfl) ad n c (tkC ts) rfl ?c1 Hcell.out (tkC_one ts) ?c4 ?c5 ?c6 ?_)
    case c1 => rw [tkC_length, hl]
    case c4 => unfold maxLen; omega
    case c5 => omega
    case c6 => simp
    intro v' w1 hown hgrow _
    go_wp2
    go_ret
    refine ⟨v', rfl, ?_, ?_⟩
    · exact hown
    · exact ((Below.refl _ _).alloc (Nat.le_refl _) _).grown hgrow (by simp) (fun k hk => by simp [Value.ownBlock] at hk; omega)

end Go.Proofs.Ytldaligeckjhaaa
