/-
  Own rows of hashes: what is appended. No conditions but lengths.
-/
import Derived.Test.YtpiebfhcfkncoaaDoorHdR
import Derived.Test.YtpiebfhcfkncoaaDoorHdBy
namespace Go.Proofs.YtpiebfhcfkncoaaDoor
open Go.ChangeShapes Go.WideShapes Go.ChangeAt Go.RowKit

def ep1 (t : Nat → Int) : List Value := (List.range 32).map fun j => .int .u8 (t j)
def epC : List (Nat → Int) → List Value
  | [] => []
  | t :: ts => ep1 t ++ epC ts
theorem ep1_length (t : Nat → Int) : (ep1 t).length = 32 := by simp [ep1]
theorem ep1_get (t : Nat → Int) (j : Nat) (hj : j < 32) : (ep1 t)[j]? = some (.int .u8 (t j)) := by
  unfold ep1
  rw [List.getElem?_map, List.getElem?_range hj]
  rfl
theorem epC_length : ∀ ts : List (Nat → Int), (epC ts).length = ts.length * 32
  | [] => rfl
  | t :: ts => by rw [epC, List.length_append, ep1_length, epC_length ts, List.length_cons]; omega
theorem epC_append : ∀ (ts us : List (Nat → Int)), epC (ts ++ us) = epC ts ++ epC us
  | [], us => rfl
  | t :: ts, us => by rw [List.cons_append, epC, epC, epC_append ts us, List.append_assoc]
theorem epC_get : ∀ (ts : List (Nat → Int)) (i j : Nat), i < ts.length → j < 32 → (epC ts)[i * 32 + j]? = some (.int .u8 ((ts.getD i fun _ => 0) j))
  | [], i, j, h, _ => by simp at h
  | t :: ts, 0, j, _, hj => by
    rw [epC, List.getElem?_append_left (by rw [ep1_length]; omega), Nat.zero_mul, Nat.zero_add, ep1_get t j hj]
    rfl
  | t :: ts, i + 1, j, h, hj => by
    rw [epC, List.getElem?_append_right (by rw [ep1_length]; omega), ep1_length, show (i + 1) * 32 + j - 32 = i * 32 + j by omega, epC_get ts i j (by simpa using h) hj]
    simp
theorem own_ep {w : World} {B : Nat} {v : Value} {n : Nat} {ts : List (Nat → Int)} (h : w.ownsRow B 23 32 v n (epC ts)) (hb : ∀ t ∈ ts, ∀ j, j < 32 → 0 ≤ t j ∧ t j < 256) (hs : n ≤ 140737488355328) : ∃ a c, v = .slice a n c ∧ EpAt w a n c ts := by
  have hl : ts.length = n := by
    have := h.1
    rw [epC_length] at this
    omega
  rcases h.2 with ⟨rfl, rfl⟩ | ⟨g, cap, cur, rfl, _, _, hc1, hc2, _, _⟩
  · exact ⟨none, 0, rfl, hl, Nat.le_refl _, by omega, by omega, hb, fun h0 => by omega, fun _ => rfl⟩
  · refine ⟨_, cap, rfl, hl, hc1, by unfold maxLen at hc2; omega, hs, hb, fun h0 => ⟨g, 0, rfl, fun i hi j hj => ?_⟩, fun h0 => by cases h0⟩
    have h1 := h.cells (g := g) rfl (i * 32 + j) _ (epC_get ts i j (by omega) hj)
    rw [addr_add] at h1
    rw [← h1]
    simp

set_option maxRecDepth 100000 in
theorem info_h32 : (Tryd.prog.info? 23).map (fun i => (i.zero, i.size, i.bytes)) = some (some (.agg (rowArr 32 fun _ => .int .u8 0)), 32, 32) := by kernel_rfl

theorem append_ep {w : World} {ops : Array Oper} {rest : List Oper} {o : Oper} {a : Act} {Q : Exit → Act → World → Prop} (hgd : o.guard = none) (s x : Operand) (ho : o.op = .call { callee := .builtin .append, args := #[s, x], argTypes := #[24, 24] })
    (B : Nat) (v : Value) (n : Nat) (ts : List (Nat → Int)) (hs : a.eval s = v) (hown : w.ownsRow B 23 32 v n (epC ts))
    (q c : Nat) (t : Nat → Int) (hx : a.eval x = .slice (some ⟨q, 0, none⟩) 1 c) (hq : ∀ j, j < 32 → w.cell? ⟨q, j, none⟩ = some (.int .u8 (t j))) (hsz : n ≤ 1000000) (hB : B ≤ w.heap.size)
    (h : ∀ v' w', w'.ownsRow B 23 32 v' (n + 1) (epC (ts ++ [t])) → w.grownBy w' v.ownBlock → wpList Tryd.prog ops Q rest (a.put o.dst v') w') : wpList Tryd.prog ops Q (o :: rest) a w := by
  obtain ⟨i0, hi, hz0, hz1, hz2⟩ := info_parts info_h32
  refine wpList_append_own w hgd s x 24 ho B 23 i0 (.agg (rowArr 32 fun _ => .int .u8 0)) 32 32 Tryd.underlying24 hi hz0 hz1 hz2 (by kernel_rfl) (by decide) v n (epC ts) hs hown ⟨q, 0, none⟩ 1 c (ep1 t) hx (by rw [ep1_length]) (fun j u hu => ?_) (fun u hu => ?_) (by unfold maxLen; omega) (by omega) hB ?_
  · have hj : j < 32 := by
      have := (List.getElem?_eq_some_iff.1 hu).1
      rwa [ep1_length] at this
    rw [ep1_get t j hj] at hu
    obtain rfl := Option.some.inj hu
    rw [addr_add, Nat.zero_add]
    exact hq j hj
  · obtain ⟨j, _, rfl⟩ := List.mem_map.1 hu
    rfl
  · intro v' w' h1 h2 _
    refine h v' w' ?_ h2
    rw [epC_append, epC, epC, List.append_nil]
    exact h1

theorem epC_one : ∀ (ts : List (Nat → Int)), ∀ v ∈ epC ts, v.oneCell' = true := by
  intro ts
  induction ts with
  | nil => intro v hv; simp [epC] at hv
  | cons t ts ih =>
    intro v hv
    rcases List.mem_append.1 (by simpa [epC] using hv) with h | h
    · obtain ⟨j, _, rfl⟩ := List.mem_map.1 h
      rfl
    · exact ih v h
theorem epC_cells {w : World} {b off n c : Nat} {ts : List (Nat → Int)} (h : EpAt w (some ⟨b, off, none⟩) n c ts) : ∀ j u, (epC ts)[j]? = some u → w.cell? ((⟨b, off, none⟩ : Addr).add j) = some u := by
  intro j u hu
  have hl := h.len
  have hj : j < ts.length * 32 := by
    have := (List.getElem?_eq_some_iff.1 hu).1
    rwa [epC_length] at this
  obtain ⟨b', off', ha, hc⟩ := h.at_ (by omega)
  simp only [Option.some.injEq, Addr.mk.injEq, and_true] at ha
  obtain ⟨rfl, rfl⟩ := ha
  have h1 := epC_get ts (j / 32) (j % 32) (by omega) (by omega)
  rw [show j / 32 * 32 + j % 32 = j by omega, hu] at h1
  rw [Option.some.inj h1, addr_add, show off + j = off + j / 32 * 32 + j % 32 by omega]
  exact hc (j / 32) (by omega) (j % 32) (by omega)

theorem append_epG {w : World} {ops : Array Oper} {rest : List Oper} {o : Oper} {a : Act} {Q : Exit → Act → World → Prop} (hgd : o.guard = none) (s x : Operand) (ho : o.op = .call { callee := .builtin .append, args := #[s, x], argTypes := #[24, 24] })
    (B : Nat) (v : Value) (hs : a.eval s = v) (hown : w.ownsRow B 23 32 v 0 [])
    (src : Option Addr) (m c : Nat) (ts : List (Nat → Int)) (hx : a.eval x = .slice src m c) (hb : EpAt w src m c ts) (hsz : m ≤ 1000000) (hB : B ≤ w.heap.size)
    (h : ∀ v' w', w'.ownsRow B 23 32 v' m (epC ts) → w.grownBy w' v.ownBlock → wpList Tryd.prog ops Q rest (a.put o.dst v') w') : wpList Tryd.prog ops Q (o :: rest) a w := by
  obtain ⟨i0, hi, hz0, hz1, hz2⟩ := info_parts info_h32
  have hl := hb.len
  cases src with
  | none =>
    obtain rfl : c = 0 := hb.nil_ rfl
    have hc := hb.cap
    obtain rfl : m = 0 := by omega
    obtain rfl : ts = [] := List.eq_nil_of_length_eq_zero hl
    refine wpList_append_own_none hgd s x 24 ho B 23 i0 32 Tryd.underlying24 hi v 0 [] hs hown hx ?_
    exact h v w hown (World.grownBy.refl w _)
  | some ad =>
    have hcell : ∀ j u, (epC ts)[j]? = some u → w.cell? (ad.add j) = some u := by
      by_cases h0 : m = 0
      · subst h0
        obtain rfl : ts = [] := List.eq_nil_of_length_eq_zero hl
        intro j u hu
        simp [epC] at hu
      · obtain ⟨b, off, ha, _⟩ := hb.at_ (by omega)
        obtain rfl := Option.some.inj ha
        exact epC_cells hb
    refine wpList_append_own w hgd s x 24 ho B 23 i0 (.agg (rowArr 32 fun _ => .int .u8 0)) 32 32 Tryd.underlying24 hi hz0 hz1 hz2 (by kernel_rfl) (by decide) v 0 [] hs hown ad m c (epC ts) hx (by rw [epC_length, hl]) hcell (epC_one ts) (by unfold maxLen; omega) (by omega) hB ?_
    intro v' w' hown' hgrow _
    refine h v' w' ?_ hgrow
    have h2 : w'.ownsRow B 23 32 v' (0 + m) ([] ++ epC ts) := hown'
    rwa [Nat.zero_add, List.nil_append] at h2

end Go.Proofs.YtpiebfhcfkncoaaDoor
