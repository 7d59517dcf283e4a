/-
  What a row's reading tells: the fields of a struct by value.
-/
import Derived.Test.YtegajjpfcjfadaaBase
import Derived.ProofKit
import Derived.OpenShut
import Derived.ChangeArms
import Derived.SizedLaws
import Derived.Deep.DeepHandedRow
namespace Go.Proofs.Ytegajjpfcjfadaa
open Go.ChangeShapes Go.WideShapes Go.ChangeAt Go.RowKit

def fieldOf (P : Program) (t : TypeId) (i : Nat) : Option (TypeId × Nat) :=
  match P.underlying t with
  | some (.struct fs) => (fs[i]?).map fun f => (f.type, f.offset)
  | _ => none

section
variable {H : Type} {enc : TypeId × Value → H} {P : Program} {w : World} {base : Nat} {sp : Nat → Bool} {held : Bool} {fuel : Nat} {t : TypeId} {cs : List Value} {x : DataW H × List MemPlace}

/-- A field, opened. -/
theorem trod_field {i off : Nat} {e : TypeId} (hf : fieldOf P t i = some (e, off)) (h : DataW.trod enc P w base sp held fuel t cs = some x) :
    ∃ n y, DataW.trod enc P w base sp held n e ((cs.drop off).take (P.cellsOf e)) = some y := by
  unfold fieldOf at hf
  split at hf
  · rename_i fs ht
    obtain ⟨xs, n, _, _, _, hl, hi⟩ := DataW.trod_struct ht h
    cases hq : fs[i]? with
    | none => rw [hq] at hf; cases hf
    | some f =>
      rw [hq] at hf
      simp only [Option.map_some, Option.some.injEq, Prod.mk.injEq] at hf
      obtain ⟨rfl, rfl⟩ := hf
      have h1 := hi i f hq
      have hlt : i < xs.length := by rw [hl]; exact (Array.getElem?_eq_some_iff.1 hq).1
      rw [List.getElem?_eq_getElem hlt] at h1
      exact ⟨n, _, h1⟩
  · cases hf

theorem trod_field_int {i off : Nat} {e : TypeId} {k : IntKind} (hf : fieldOf P t i = some (e, off)) (he : P.underlying e = some (.int k)) (hce : P.cellsOf e = 1) (h : DataW.trod enc P w base sp held fuel t cs = some x) :
    ∃ m, cs[off]? = some (.int k m) ∧ (Lit.int k m).wf = true := by
  obtain ⟨n, y, hy⟩ := trod_field hf h
  obtain ⟨m, hm, _, hw⟩ := DataW.trod_int he hy
  rw [hce] at hm
  refine ⟨m, ?_, hw⟩
  have h2 : ((cs.drop off).take 1)[0]? = some (.int k m) := by rw [hm]; rfl
  rw [List.getElem?_take, if_pos (by omega), List.getElem?_drop] at h2
  exact h2
end

end Go.Proofs.Ytegajjpfcjfadaa
