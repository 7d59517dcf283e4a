/-
  The walks of jalousielaw01.few, jalousieref01.Joined, and bytes' lengths. No conditions.
-/
import Derived.Test.YtegajjpfcjfadaaDoorApp
namespace Go.Proofs.YtegajjpfcjfadaaDoor
open Go.ChangeShapes Go.WideShapes Go.ChangeAt Go.RowKit

/-- What few counts: of the first k parts, each up to 3000. -/
def fewN (ls : List (List Int)) : Nat → Int
  | 0 => 0
  | k + 1 => fewN ls k + min ((ls.getD k []).length : Int) 3000

theorem fewN_bd (ls : List (List Int)) : ∀ k, 0 ≤ fewN ls k ∧ fewN ls k ≤ 3000 * (k : Int)
  | 0 => by simp [fewN]
  | k + 1 => by
    have := fewN_bd ls k
    rw [fewN]
    omega

theorem fewN_sum (ls : List (List Int)) : ∀ k, k ≤ ls.length → fewN ls k ≤ 2500 → ((ls.take k).flatten.length : Int) = fewN ls k
  | 0, _, _ => by simp [fewN]
  | k + 1, hk, h => by
    rw [fewN] at h
    have h1 := fewN_bd ls k
    have h2 := fewN_sum ls k (by omega) (by omega)
    have e : ls.getD k [] = ls[k] := by simp [List.getD, List.getElem?_eq_getElem (by omega : k < ls.length)]
    rw [fewN, ← h2, List.take_succ_eq_append_getElem (by omega : k < ls.length), List.flatten_append, List.length_append, e]
    rw [e] at h
    simp only [List.flatten_cons, List.flatten_nil, List.append_nil]
    omega

/-- What few tells. -/
def FewSays (n : Nat) (ls : List (List Int)) (v : Value) : Prop := ∃ b, v = .bool b ∧ (b = true → n ≤ 8 ∧ ls.flatten.length ≤ 2500)

theorem fewSays_no (n : Nat) (ls : List (List Int)) : FewSays n ls (.bool false) := ⟨false, rfl, fun h => by cases h⟩

set_option maxRecDepth 100000 in
theorem few_any (a : Option Addr) (n c : Nat) (ls : List (List Int)) (w : World) (h : PsAt w a n c ls) :
    Calls Tryd.prog 11 #[.slice a n c] w fun e w' => ∃ v, e = .returned v ∧ w = w' ∧ FewSays n ls v := by
  have hlen := h.len
  have hcap := h.cap
  have hlim := h.lim
  have H := Lib.hid h
  have Hlen := Lib.hid hlen
  clear h hlen
  go_enter Tryd.func11, Tryd.ntmps11
  go_wp2
  go_loopw [3, 4] (fun s i wr => ∃ k : Nat, k ≤ n ∧ k ≤ 10 ∧ i = .int .i64 (k : Int) ∧ s = .int .i64 (fewN ls k) ∧ wr = w) (fun _ i _ => 10 - (intOf i).toNat)
  case atStart => exact ⟨0, Nat.zero_le _, Nat.zero_le _, rfl, rfl, rfl⟩
  case round =>
    obtain ⟨k, hk, hk10, rfl, rfl, rfl⟩ := hrel
    have hbd := fewN_bd ls k
    by_cases hlt : k < n
    · by_cases hlt10 : k < 10
      · obtain ⟨b, off, rfl, hc⟩ := H.out.at_ (by omega)
        obtain ⟨pa, m, pc, h1, h2⟩ := hc k hlt
        have hm := h2.small
        have hml := h2.len
        have hnext : fewN ls (k + 1) = fewN ls k + min (m : Int) 3000 := by rw [fewN, hml]
        have Hnext := Lib.hid hnext
        have x1 : (k : Int) < (n : Int) := by omega
        have x2 : (k : Int) < 10 := by omega
        have x3 : (0 : Int) ≤ (k : Int) := by omega
        have x4 : IntKind.i64.wrap (fewN ls k + min (m : Int) 3000) = fewN ls k + min (m : Int) 3000 := IntWalk.i64_in _ (by omega)
        clear hnext hml hc
        go_wp2
        go_roundw
        case rel => exact ⟨k + 1, by omega, by omega, by go_num, by rw [Hnext.out], trivial⟩
        case measure => simp [intOf]; omega
      · have x1 : (k : Int) < (n : Int) := by omega
        have x2 : ¬ (k : Int) < 10 := by omega
        have x3 : ¬ (n : Int) ≤ 8 := by omega
        go_wp2
        go_ret
        exact ⟨_, rfl, rfl, fewSays_no _ _⟩
    · have x1 : ¬ (k : Int) < (n : Int) := by omega
      by_cases h8 : n ≤ 8
      · have x3 : (n : Int) ≤ 8 := by omega
        go_wp2
        go_ret
        refine ⟨_, rfl, rfl, _, rfl, fun h => ⟨h8, ?_⟩⟩
        have h2 : fewN ls k ≤ 2500 := by simpa using h
        have h3 := fewN_sum ls k (by have := Hlen.out; omega) h2
        rw [List.take_of_length_le (by have := Hlen.out; omega)] at h3
        omega
      · have x3 : ¬ (n : Int) ≤ 8 := by omega
        go_wp2
        go_ret
        exact ⟨_, rfl, rfl, fewSays_no _ _⟩

set_option maxRecDepth 100000 in
theorem joined_any (a : Option Addr) (n c : Nat) (ls : List (List Int)) (w : World) (h : PsAt w a n c ls) (hs : ls.flatten.length ≤ 140737488355328) :
    Calls Tryd.prog 14 #[.slice a n c] w fun e w' => ∃ a' c', e = .returned (.slice a' ls.flatten.length c') ∧ BsAt w' a' ls.flatten.length c' ls.flatten ∧ Ext w w' := by
  have hlen := h.len
  have hcap := h.cap
  have hlim := h.lim
  have hby := h.byte
  obtain ⟨fl, hfl⟩ : ∃ fl, ls.flatten = fl := ⟨_, rfl⟩
  have hstep : ∀ k, k < n → (ls.take (k + 1)).flatten = (ls.take k).flatten ++ ls.getD k [] := fun k hk => by
    rw [List.take_succ_eq_append_getElem (by omega : k < ls.length), List.flatten_append]
    simp [List.getD, List.getElem?_eq_getElem (by omega : k < ls.length)]
  have hle : ∀ k, ((ls.take k).flatten).length ≤ fl.length := fun k => by
    rw [← hfl]
    conv => rhs; rw [← List.take_append_drop k ls]
    rw [List.flatten_append, List.length_append]
    omega
  have hfull : (ls.take n).flatten = fl := by rw [← hlen, List.take_length]; exact hfl
  rw [hfl] at hs hby ⊢
  have H := Lib.hid h
  have Hlen := Lib.hid hlen
  have Hstep := Lib.hid hstep
  have Hle := Lib.hid hle
  have Hfull := Lib.hid hfull
  have Hby := Lib.hid hby
  clear h hlen hstep hle hfull hby
  obtain ⟨tk, htk⟩ : ∃ tk : Nat → List Int, (fun k => (ls.take k).flatten) = tk := ⟨_, rfl⟩
  have htk' : ∀ k, (ls.take k).flatten = tk k := fun k => by rw [← htk]
  have h0 : tk 0 = [] := by rw [← htk]; rfl
  simp only [htk'] at Hstep Hle Hfull
  clear htk htk' hfl
  go_enter Tryd.func14, Tryd.ntmps14
  go_wp2
  go_loopw [3, 4] (fun v i wr => ∃ (k : Nat) (a' : Option Addr) (c' : Nat), k ≤ n ∧ i = .int .i64 (k : Int) ∧ v = .slice a' (tk k).length c' ∧ wr.ownsRow w.heap.size 5 1 v (tk k).length (bv (tk k)) ∧ Ext w wr) (fun _ i _ => n - (intOf i).toNat)
  case atStart =>
    refine ⟨0, none, 0, Nat.zero_le _, rfl, by rw [h0]; rfl, ?_, Ext.refl _⟩
    rw [h0]
    exact World.ownsRow_nil _ _ _ _
  case round =>
    obtain ⟨k, a', c', hk, rfl, rfl, hown, hE⟩ := hrel
    have hsz := Below.size hE
    by_cases hlt : k < n
    · obtain ⟨b, off, rfl, hc⟩ := H.out.at_ (by omega)
      obtain ⟨pa, m, pc, h1, h2⟩ := hc k hlt
      have h3 := h1
      rw [← Ext.cell (p := ⟨b, off + k, none⟩) hE (World.block_lt_of_cell? w _ h1)] at h3
      have hst := Hstep.out k hlt
      obtain ⟨x, hx⟩ : ∃ x, ls.getD k [] = x := ⟨_, rfl⟩
      rw [hx] at h2 hst
      have H2 := Lib.hid (h2.ext hE)
      have hml := h2.len
      have hl1 := Hle.out (k + 1)
      rw [hst, List.length_append, hml] at hl1
      have hln : (tk (k + 1)).length = (tk k).length + m := by rw [hst, List.length_append, hml]
      have x1 : (k : Int) < (n : Int) := by omega
      have x3 : (0 : Int) ≤ (k : Int) := by omega
      have Hst := Lib.hid (And.intro hst hln)
      clear hst hml hc h1 h2 hln hx
      go_wp2_with (at_builtin; refine append_bs rfl _ _ rfl w.heap.size _ (tk k).length (tk k) rfl hown pa m pc _ rfl H2.out (by omega) hsz ?_)
      intro v' w3 hown3 hB3
      obtain ⟨ao2, cv2, rfl, _, _⟩ := owns_slice hown3
      rw [← Hst.out.1, ← Hst.out.2] at hown3
      have Hown := Lib.hid hown3
      have HE3 := Lib.hid (show Ext w w3 from Below.trans (B := w.heap.size) hE hB3)
      clear hown3 hown
      go_wp2
      go_roundw
      case rel => exact ⟨k + 1, ao2, cv2, by omega, by go_num, by rw [Hst.out.2], by rw [← Hst.out.2]; exact Hown.out, HE3.out⟩
      case measure => simp [intOf]; omega
    · obtain rfl : k = n := by omega
      rw [Hfull.out] at hown ⊢
      obtain ⟨_, _, he, hc1, hc2⟩ := owns_slice hown
      have hB := owns_bs hown Hby.out (by injection he; subst_vars; unfold maxLen at hc2; omega) hs
      have HB := Lib.hid hB
      clear hB hown he
      go_wp2
      go_ret
      exact ⟨_, _, rfl, HB.out, hE⟩

end Go.Proofs.YtegajjpfcjfadaaDoor
