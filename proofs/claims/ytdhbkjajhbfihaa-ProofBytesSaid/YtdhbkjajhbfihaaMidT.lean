/-
  A header whose tokens lie elsewhere; tokens in a block that is kept. No conditions.
-/
import Derived.Test.YtdhbkjajhbfihaaMid
import Derived.Test.YtdhbkjajhbfihaaHdEq
namespace Go.Proofs.Ytdhbkjajhbfihaa
open Go.ChangeAt Go.ChangeShapes Go.RowKit Go.WideShapes

/-- What is behind a slice that is kept. -/
theorem TsAt.blk {w w' : World} {a : Option Addr} {n c : Nat} {ts : List (Nat → Int)} (h : TsAt w a n c ts) (he : 0 < n → ∀ b off, a = some ⟨b, off, none⟩ → w'.heap[b]? = w.heap[b]?) : TsAt w' a n c ts := by
  refine ⟨h.len, h.cap, h.lim, h.small, h.byte, fun hn => ?_, h.nil_⟩
  obtain ⟨b, off, ha, hc⟩ := h.at_ hn
  refine ⟨b, off, ha, fun i hi j hj => ?_⟩
  have h1 := hc i hi j hj
  unfold World.cell? at h1 ⊢
  simp only [he hn b off ha]
  exact h1

/-- The header with its tokens elsewhere. -/
def reT (x : HT) (a : Option Addr) (c : Nat) : HT := ({ x.1 with ta := a, tc := c }, x.2)
/-- What is copied says the same. -/
theorem reT_at {w : World} {B : Nat} {x : HT} {a : Option Addr} {c : Nat} (ho : HdOk x.1) (hb : ∀ t ∈ x.2, ∀ j, j < 16 → 0 ≤ t j ∧ t j < 256) (hs : x.1.tn ≤ 1000000) (h : w.ownsRow B 26 16 (.slice a x.1.tn c) x.1.tn (tkC x.2)) : HtAt w (reT x a c) :=
  ⟨⟨ho.writer, ho.seq, ho.prev, ho.epoch, ho.time, ho.item, ho.knows, ho.sum, ho.size, ho.code⟩, own_ts1 h hb (show x.1.tn ≤ 140737488355328 by omega)⟩

theorem HtAt.lt {w : World} {x : HT} (h : HtAt w x) (h0 : 0 < x.1.tn) {b off : Nat} (hta : x.1.ta = some ⟨b, off, none⟩) : b < w.heap.size := by
  obtain ⟨b', off', hta', hc⟩ := h.toks.at_ h0
  rw [hta] at hta'
  simp only [Option.some.injEq, Addr.mk.injEq, and_true] at hta'
  obtain ⟨rfl, rfl⟩ := hta'
  exact World.block_lt_of_cell? _ _ (hc 0 h0 0 (by omega))

theorem reT_eq (x : HT) (a : Option Addr) (c : Nat) : HdEq (reT x a c).1 x.1 (reT x a c).2 x.2 := ⟨rfl, rfl, fun _ _ => rfl, rfl, rfl, rfl, fun _ _ => rfl, rfl, fun _ _ _ _ => rfl, fun _ _ => rfl, fun _ _ => rfl, rfl, fun _ _ => rfl⟩


end Go.Proofs.Ytdhbkjajhbfihaa
