/-
  The walk of jalousielaw11.few: what it lets through is no more than 30.
-/
import Derived.Test.YtdgbcieopkilcaaDoorTks
namespace Go.Proofs.YtdgbcieopkilcaaDoor
open Go.ChangeShapes Go.WideShapes Go.ChangeAt Go.RowKit

/-- What few answers. -/
def FewSays (n : Nat) (w : World) (e : Ending) (w' : World) : Prop := ∃ R : Bool, e = .returned (.bool R) ∧ (R = true → n ≤ 30) ∧ Ext w w'
set_option maxHeartbeats 1000000 in
set_option maxRecDepth 100000 in
theorem fewS_any (a : Option Addr) (n c : Nat) (ss : List ByteArray) (w : World) (h : SrAt w a n c ss) :
    Calls Tryd.prog 7 #[.slice a n c] w (FewSays n w) := by
  have hcap := h.cap
  have hlim := h.lim
  have H := Lib.hid h
  clear h
  go_enter Tryd.func7, Tryd.ntmps7
  go_wp2
  go_loopw [3, 4] (fun v i y => ∃ (k m : Nat), k ≤ 100 ∧ k ≤ n ∧ m ≤ 1000 * k ∧ i = .int .i64 (k : Int) ∧ v = .int .i64 (m : Int) ∧ Ext w y) (fun _ i _ => n - (intOf i).toNat)
  case atStart => exact ⟨0, 0, by omega, by omega, by omega, rfl, rfl, Ext.refl w⟩
  case round =>
    obtain ⟨k, m, hk1, hk, hm, rfl, rfl, hE⟩ := hrel
    have HE := Lib.hid hE
    rename World => y
    clear hE
    by_cases hlt : k < n ∧ k < 100
    · obtain ⟨h1, h2⟩ := hlt
      have x1 : (k : Int) < (n : Int) := by omega
      have x2 : (k : Int) < 100 := by omega
      obtain ⟨g0, off, rfl, hcell⟩ := (H.out.ext HE.out).at_ (by omega)
      obtain ⟨x, hx⟩ : ∃ x, ss.getD k ⟨#[]⟩ = x := ⟨_, rfl⟩
      have hck := hcell k h1
      rw [hx] at hck
      clear hcell
      have hsz : x.size ≤ 140737488351232 := by rw [← hx]; exact H.out.size _ (H.out.get h1)
      clear hx
      go_wp2
      go_roundw
      case rel => exact ⟨k + 1, m + min x.size 1000, by omega, by omega, by omega, by go_num, by congr 1; omega, HE.out⟩
      case measure => simp [intOf]; omega
    · by_cases h30 : n ≤ 30
      · obtain rfl : k = n := by omega
        have x1 : ¬ (k : Int) < (k : Int) := by omega
        have x3 : (k : Int) ≤ 30 := by omega
        by_cases hm2 : m ≤ 1500
        · have x4 : (m : Int) ≤ 1500 := by omega
          go_wp2
          go_ret
          exact ⟨true, rfl, fun _ => h30, HE.out⟩
        · have x4 : ¬ (m : Int) ≤ 1500 := by omega
          go_wp2
          go_ret
          exact ⟨false, rfl, fun h => (by cases h), HE.out⟩
      · have x3 : ¬ (n : Int) ≤ 30 := by omega
        by_cases h1 : k < n
        · have x1 : (k : Int) < (n : Int) := by omega
          have x2 : ¬ (k : Int) < 100 := by omega
          go_wp2
          go_ret
          exact ⟨false, rfl, fun h => (by cases h), HE.out⟩
        · have x1 : ¬ (k : Int) < (n : Int) := by omega
          go_wp2
          go_ret
          exact ⟨false, rfl, fun h => (by cases h), HE.out⟩

end Go.Proofs.YtdgbcieopkilcaaDoor
