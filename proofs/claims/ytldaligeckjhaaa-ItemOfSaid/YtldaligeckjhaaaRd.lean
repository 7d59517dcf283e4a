/-
  What a row's reading tells of a value of any type: opened field by field, element by element, with the form's reach. No conditions.
-/
import Derived.Test.YtldaligeckjhaaaBys
import Derived.OpenShut
import Derived.ChangeArms
import Derived.ChangeOld
import Derived.SizedLaws
import Derived.DataReads
import Derived.Deep.Slices
namespace Go.Proofs.Ytldaligeckjhaaa
open Go.ChangeShapes Go.WideShapes Go.ChangeAt Go.RowKit

def fldOf (P : Program) (t : TypeId) (i : Nat) : Option (TypeId × Nat) :=
  match P.underlying t with
  | some (.struct fs) => (fs[i]?).map fun f => (f.type, f.offset)
  | _ => none

/-- The cells read as a value of the type, within the form's reach. -/
def Rd {H : Type} (enc : TypeId × Value → H) (P : Program) (W : World) (base : Nat) (t : TypeId) (cs : List Value) : Prop :=
  ∃ fuel d p, DataW.trod enc P W base (fun _ => true) true fuel t cs = some (d, p) ∧ ∀ n ∈ d.weights P t, n ≤ reachBytes

section
variable {H : Type} {enc : TypeId × Value → H} {P : Program} {W : World} {base : Nat} {t e : TypeId} {cs : List Value}

theorem weightsAll_mem {l : List (DataW H)} {d : DataW H} (hd : d ∈ l) : ∀ n ∈ d.weights P e, n ∈ DataW.weightsAll P e l := by
  induction l with
  | nil => cases hd
  | cons x l ih =>
    intro n hn
    simp only [DataW.weightsAll, List.mem_append]
    rcases List.mem_cons.1 hd with rfl | h
    · exact .inl hn
    · exact .inr (ih h n hn)

theorem Rd.of_trod {v : Value} {d : DataW H} {p : List MemPlace} {ts : List TypeId} {ds : List (DataW H)} (h : DataW.Trod enc P W base (fun _ => true) true t v d p)
    (hsz : (DataW.weightsEach P ts ds).all (· ≤ reachBytes) = true) {j : Nat} (ht : ts[j]? = some t) (hd : ds[j]? = some d) : Rd enc P W base t v.cells.toList := by
  obtain ⟨fuel, hf⟩ := h
  exact ⟨fuel, d, p, hf, fun n hn => of_decide_eq_true (List.all_eq_true.1 hsz _ (DataW.weights_mem_each ht hd n hn))⟩

theorem Rd.field (h : Rd enc P W base t cs) {i off : Nat} (hf : fldOf P t i = some (e, off)) : Rd enc P W base e ((cs.drop off).take (P.cellsOf e)) := by
  obtain ⟨fuel, d, p, ht, hw⟩ := h
  unfold fldOf at hf
  split at hf
  · rename_i fs hu
    obtain ⟨xs, n, _, hx, _, hl, hi⟩ := DataW.trod_struct hu ht
    cases hq : fs[i]? with
    | none => rw [hq] at hf; cases hf
    | some f =>
      rw [hq] at hf
      simp only [Option.map_some, Option.some.injEq, Prod.mk.injEq] at hf
      obtain ⟨rfl, rfl⟩ := hf
      have h1 := hi i f hq
      have hlt : i < xs.length := by rw [hl]; exact (Array.getElem?_eq_some_iff.1 hq).1
      rw [List.getElem?_eq_getElem hlt] at h1
      simp only [Prod.mk.injEq] at hx
      refine ⟨n, xs[i].1, xs[i].2, h1, fun m hm => hw m ?_⟩
      rw [hx.1]
      simp only [DataW.weights, hu]
      refine DataW.weights_mem_each (j := i) ?_ ?_ m hm
      · rw [List.getElem?_map, Array.getElem?_toList, hq]; rfl
      · rw [List.getElem?_map, List.getElem?_eq_getElem hlt]; rfl
  · cases hf

theorem Rd.elem (h : Rd enc P W base t cs) {n : Nat} (hu : P.underlying t = some (.array n e)) {i : Nat} (hi : i < n) : Rd enc P W base e ((cs.drop (i * P.cellsOf e)).take (P.cellsOf e)) := by
  obtain ⟨fuel, d, p, ht, hw⟩ := h
  obtain ⟨xs, m, _, hx, _, hl, hget⟩ := DataW.trod_array hu ht
  have h1 := hget i hi
  have hlt : i < xs.length := by omega
  rw [List.getElem?_eq_getElem hlt] at h1
  simp only [Prod.mk.injEq] at hx
  refine ⟨m, xs[i].1, xs[i].2, h1, fun k hk => hw k ?_⟩
  rw [hx.1]
  simp only [DataW.weights, hu]
  exact weightsAll_mem (List.mem_map.2 ⟨xs[i], List.getElem_mem hlt, rfl⟩) k hk

theorem Rd.int (h : Rd enc P W base t cs) {k : IntKind} (hu : P.underlying t = some (.int k)) : ∃ n, cs = [.int k n] ∧ (Lit.int k n).wf = true := by
  obtain ⟨fuel, d, p, ht, _⟩ := h
  obtain ⟨n, h1, _, h2⟩ := DataW.trod_int hu ht
  exact ⟨n, h1, h2⟩

theorem Rd.bool (h : Rd enc P W base t cs) (hu : P.underlying t = some .bool) : ∃ b, cs = [.bool b] := by
  obtain ⟨fuel, d, p, ht, _⟩ := h
  obtain ⟨b, h1, _⟩ := DataW.trod_bool hu ht
  exact ⟨b, h1⟩

theorem Rd.string (h : Rd enc P W base t cs) (hu : P.underlying t = some .string) : ∃ s : ByteArray, cs = [.string s] ∧ s.size ≤ 140737488351232 := by
  obtain ⟨fuel, d, p, ht, hw⟩ := h
  obtain ⟨s, h1, h2, _⟩ := DataW.trod_string hu ht
  simp only [Prod.mk.injEq] at h2
  refine ⟨s, h1, ?_⟩
  have := hw s.data.toList.length (by rw [h2.1]; simp [DataW.weights])
  simpa [reachBytes] using this

theorem Rd.slice (h : Rd enc P W base t cs) (hu : P.underlying t = some (.slice e)) :
    cs = [.slice none 0 0] ∨ ∃ a len cap, cs = [.slice (some a) len cap] ∧ len ≤ cap ∧ cap ≤ maxLen ∧ cap * P.bytesOf e ≤ reachBytes ∧ ∀ i, i < cap → ∃ cs', W.cells? base (a.add (i * P.cellsOf e)) (P.cellsOf e) = some cs' ∧ Rd enc P W base e cs' := by
  obtain ⟨fuel, d, p, ht, hw⟩ := h
  rcases Deep.open_slice hu ht with ⟨h1, _⟩ | ⟨a, len, cap, m, n, D, Pl, h1, _, hl, hc, hm, hx, hi⟩
  · exact .inl h1
  · simp only [if_true] at hm
    subst hm
    simp only [Prod.mk.injEq] at hx
    refine .inr ⟨a, len, m, h1, hl, hc, ?_, fun i hlt => ?_⟩
    · have := hw (m * P.bytesOf e) (by
        rw [hx.1]
        simp only [DataW.weights, hu, List.length_map, List.length_range, List.mem_cons]
        left
        congr 1
        omega)
      exact this
    · obtain ⟨cs', k1, k2⟩ := hi i hlt
      refine ⟨cs', k1, n, D i, Pl i, k2, fun q hq => hw q ?_⟩
      rw [hx.1]
      simp only [DataW.weights, hu, List.mem_cons, List.mem_append]
      right
      by_cases hil : i < len
      · exact .inl (weightsAll_mem (List.mem_map.2 ⟨i, List.mem_range.2 hil, rfl⟩) q hq)
      · refine .inr (weightsAll_mem (List.mem_map.2 ⟨i - len, List.mem_range.2 (by omega), ?_⟩) q hq)
        rw [show len + (i - len) = i by omega]

theorem one_cell {cs : List Value} {off : Nat} {v : Value} (h : (cs.drop off).take 1 = [v]) : cs[off]? = some v := by
  have h2 : ((cs.drop off).take 1)[0]? = some v := by rw [h]; rfl
  rw [List.getElem?_take, if_pos (by omega), List.getElem?_drop] at h2
  simpa using h2

theorem cells_at {cs : List Value} {n : Nat} {a : Addr} (h : W.cells? base a n = some cs) : cs.length = n ∧ ∀ i, i < n → W.cell? (a.add i) = cs[i]? := by
  obtain ⟨_, h2, h3⟩ := World.cells?_some h
  exact ⟨h2, h3⟩
end

/-- A byte in a cell. -/
def intIn (v : Option Value) : Int := match v with | some (.int _ n) => n | _ => 0

theorem Rd.bytes {H : Type} {enc : TypeId × Value → H} {W : World} {base : Nat} {cs : List Value} (h : Rd enc Try.prog W base 70 cs) : ∃ a n c xs, cs = [.slice a n c] ∧ BsAt W a n c xs := by
  rcases h.slice Try.underlying70 with h1 | ⟨a, len, cap, h1, hl, hc, hw, hi⟩
  · exact ⟨none, 0, 0, [], h1, rfl, Nat.le_refl _, by omega, by omega, by simp, fun h => by omega, fun _ => rfl⟩
  · have e1 : Try.prog.bytesOf 5 = 1 := by kernel_rfl
    have e2 : Try.prog.cellsOf 5 = 1 := by kernel_rfl
    rw [e1, Nat.mul_one] at hw
    have hcell : ∀ i, i < cap → ∃ n, W.cell? (a.add i) = some (.int .u8 n) ∧ 0 ≤ n ∧ n < 256 := fun i hlt => by
      obtain ⟨cs', k1, k2⟩ := hi i hlt
      obtain ⟨n, rfl, hwf⟩ := k2.int Try.underlying5
      rw [e2, Nat.mul_one] at k1
      have := (cells_at k1).2 0 (by omega)
      have hb := bounds_u8 hwf
      have e3 : (a.add i).add 0 = a.add i := by unfold Addr.add; split <;> simp_all
      rw [e3] at this
      exact ⟨n, this, by omega, by omega⟩
    refine ⟨some a, len, cap, (List.range len).map fun i => intIn (W.cell? (a.add i)), h1, by simp, hl, by unfold maxLen at hc; omega, by unfold reachBytes at hw; omega, fun x hx => ?_, fun h0 => ?_, by simp⟩
    · obtain ⟨i, hi2, rfl⟩ := List.mem_map.1 hx
      obtain ⟨n, k1, k2⟩ := hcell i (by have := List.mem_range.1 hi2; omega)
      rw [k1]
      exact k2
    · obtain ⟨b, off, spot⟩ := a
      obtain ⟨n0, k0, _⟩ := hcell 0 (by omega)
      have hs : spot = none := by simpa [Addr.add] using World.cell?_spot k0
      subst hs
      refine ⟨b, off, rfl, fun i hlt => ?_⟩
      obtain ⟨n, k1, _⟩ := hcell i (by omega)
      have e4 : ((List.range len).map fun i => intIn (W.cell? ((⟨b, off, none⟩ : Addr).add i))).getD i 0 = n := by
        rw [List.getD_eq_getElem?_getD, List.getElem?_map, List.getElem?_range hlt]
        simp [k1, intIn]
      rw [e4, ← k1, addr_add]

end Go.Proofs.Ytldaligeckjhaaa
