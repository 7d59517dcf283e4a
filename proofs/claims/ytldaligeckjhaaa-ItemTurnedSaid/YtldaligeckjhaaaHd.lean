/-
  Whether a header is formed, in plain words. No conditions.
-/
import Derived.Test.YtldaligeckjhaaaHdA
import Derived.Test.YtldaligeckjhaaaPadIs
namespace Go.Proofs.Ytldaligeckjhaaa
open Go.ChangeShapes Go.WideShapes Go.ChangeAt Go.RowKit

/-- Whether a header's numbers may be. -/
def knB (h : Hd) (k : Nat) : Bool := (List.range k).all fun i => decide (h.knows i ≤ 1048576)
theorem knB_succ (h : Hd) (k : Nat) : knB h (k + 1) = (knB h k && decide (h.knows k ≤ 1048576)) := by
  unfold knB
  rw [List.range_succ, List.all_append]
  simp
theorem knB_bad (h : Hd) (k n : Nat) (hk : k < n) (hb : ¬ h.knows k ≤ 1048576) : knB h n = false := by
  unfold knB
  rw [List.all_eq_false]
  exact ⟨k, List.mem_range.2 hk, by simpa using hb⟩
def numsB (h : Hd) : Bool := decide (1 ≤ h.writer ∧ h.writer ≤ 6 ∧ 1 ≤ h.seq ∧ h.seq ≤ 1048576 ∧ 0 ≤ h.epoch ∧ h.epoch ≤ 255 ∧ h.time ≤ 1099511627776 ∧ h.knows (h.writer - 1).toNat = h.seq - 1)
def placedB (h : Hd) : Bool := numsB h && (knB h 6 && (decide (1 < h.seq) || zeroB 32 h.prev))
/-- Whether a header is formed. -/
def hdB (h : Hd) (ts : List (Nat → Int)) : Bool := placedB h && decide (h.tn ≤ 8) && risesB ts && isB (h.size - 16) && (!h.ctl || (decide (h.tn = 0) && zeroB 16 h.item))

end Go.Proofs.Ytldaligeckjhaaa
