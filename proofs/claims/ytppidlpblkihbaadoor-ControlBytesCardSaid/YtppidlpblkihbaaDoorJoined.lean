/-
  The walk of jalousieref01.Joined. No conditions but lengths.
-/
import Derived.Test.YtppidlpblkihbaaDoorApp
namespace Go.Proofs.YtppidlpblkihbaaDoor
open Go.ChangeShapes Go.WideShapes Go.ChangeAt Go.RowKit

set_option maxRecDepth 100000 in
theorem joined_any (a : Option Addr) (n c : Nat) (ls : List (List Int)) (w : World) (h : PsAt w a n c ls) (hs : ls.flatten.length ≤ 140737488355328) :
    Calls Tryd.prog 74 #[.slice a n c] w fun e w' => ∃ a' c', e = .returned (.slice a' ls.flatten.length c') ∧ BsAt w' a' ls.flatten.length c' ls.flatten ∧ Ext w w' := by
  have hlen := h.len
  have hcap := h.cap
  have hlim := h.lim
  have hby := h.byte
  obtain ⟨fl, hfl⟩ : ∃ fl, ls.flatten = fl := ⟨_, rfl⟩
  have hstep : ∀ k, k < n → (ls.take (k + 1)).flatten = (ls.take k).flatten ++ ls.getD k [] := fun k hk => by
    rw [List.take_succ_eq_append_getElem (by omega : k < ls.length), List.flatten_append]
    simp [List.getD, List.getElem?_eq_getElem (by omega : k < ls.length)]
  have hle : ∀ k, ((ls.take k).flatten).length ≤ fl.length := fun k => by
    rw [← hfl]
    conv => rhs; rw [← List.take_append_drop k ls]
    rw [List.flatten_append, List.length_append]
    omega
  have hfull : (ls.take n).flatten = fl := by rw [← hlen, List.take_length]; exact hfl
  rw [hfl] at hs hby ⊢
  have H := Lib.hid h
  have Hlen := Lib.hid hlen
  have Hstep := Lib.hid hstep
  have Hle := Lib.hid hle
  have Hfull := Lib.hid hfull
  have Hby := Lib.hid hby
  clear h hlen hstep hle hfull hby
  obtain ⟨tk, htk⟩ : ∃ tk : Nat → List Int, (fun k => (ls.take k).flatten) = tk := ⟨_, rfl⟩
  have htk' : ∀ k, (ls.take k).flatten = tk k := fun k => by rw [← htk]
  have h0 : tk 0 = [] := by rw [← htk]; rfl
  simp only [htk'] at Hstep Hle Hfull
  clear htk htk' hfl
  go_enter Tryd.func74, Tryd.ntmps74
  go_wp2
  go_loopw [3, 4] (fun v i wr => ∃ (k : Nat) (a' : Option Addr) (c' : Nat), k ≤ n ∧ i = .int .i64 (k : Int) ∧ v = .slice a' (tk k).length c' ∧ wr.ownsRow w.heap.size 5 1 v (tk k).length (bv (tk k)) ∧ Ext w wr) (fun _ i _ => n - (intOf i).toNat)
  case atStart =>
    refine ⟨0, none, 0, Nat.zero_le _, rfl, by rw [h0]; rfl, ?_, Ext.refl _⟩
    rw [h0]
    exact World.ownsRow_nil _ _ _ _
  case round =>
    obtain ⟨k, a', c', hk, rfl, rfl, hown, hE⟩ := hrel
    have hsz := Below.size hE
    by_cases hlt : k < n
    · obtain ⟨b, off, rfl, hc⟩ := H.out.at_ (by omega)
      obtain ⟨pa, m, pc, h1, h2⟩ := hc k hlt
      have h3 := h1
      rw [← Ext.cell (p := ⟨b, off + k, none⟩) hE (World.block_lt_of_cell? w _ h1)] at h3
      have hst := Hstep.out k hlt
      obtain ⟨x, hx⟩ : ∃ x, ls.getD k [] = x := ⟨_, rfl⟩
      rw [hx] at h2 hst
      have H2 := Lib.hid (h2.ext hE)
      have hml := h2.len
      have hl1 := Hle.out (k + 1)
      rw [hst, List.length_append, hml] at hl1
      have hln : (tk (k + 1)).length = (tk k).length + m := by rw [hst, List.length_append, hml]
      have x1 : (k : Int) < (n : Int) := by omega
      have x3 : (0 : Int) ≤ (k : Int) := by omega
      have Hst := Lib.hid (And.intro hst hln)
      clear hst hml hc h1 h2 hln hx
      go_wp2_with (at_builtin; refine append_bs rfl _ _ rfl w.heap.size _ (tk k).length (tk k) rfl hown pa m pc _ rfl H2.out (by omega) hsz ?_)
      intro v' w3 hown3 hB3
      obtain ⟨ao2, cv2, rfl, _, _⟩ := owns_slice hown3
      rw [← Hst.out.1, ← Hst.out.2] at hown3
      have Hown := Lib.hid hown3
      have HE3 := Lib.hid (show Ext w w3 from Below.trans (B := w.heap.size) hE hB3)
      clear hown3 hown
      go_wp2
      go_roundw
      case rel => exact ⟨k + 1, ao2, cv2, by omega, by go_num, by rw [Hst.out.2], by rw [← Hst.out.2]; exact Hown.out, HE3.out⟩
      case measure => simp [intOf]; omega
    · obtain rfl : k = n := by omega
      rw [Hfull.out] at hown ⊢
      obtain ⟨_, _, he, hc1, hc2⟩ := owns_slice hown
      have hB := owns_bs hown Hby.out (by injection he; subst_vars; unfold maxLen at hc2; omega) hs
      have HB := Lib.hid hB
      clear hB hown he
      go_wp2
      go_ret
      exact ⟨_, _, rfl, HB.out, hE⟩

end Go.Proofs.YtppidlpblkihbaaDoor
