/-
  What a row's reading tells: an array of integers by value.
-/
import Derived.Test.YtppidlpblkihbaaDoorRead
namespace Go.Proofs.YtppidlpblkihbaaDoor
open Go.ChangeShapes Go.WideShapes Go.ChangeAt Go.RowKit

def intAt (cs : List Value) (i : Nat) : Int := match cs[i]? with | some (.int _ m) => m | _ => 0

theorem read_arr {H : Type} {enc : TypeId × Value → H} {P : Program} {W : World} {base : Nat} {sp : Nat → Bool} {held : Bool} {r : Reach} {b0 : Nat} {t e : TypeId} {n : Nat} {k : IntKind} {v : Value} {d : DataW H} {p : List MemPlace}
    (ht : P.underlying t = some (.array n e)) (he : P.underlying e = some (.int k)) (hce : P.cellsOf e = 1) (hct : P.cellsOf t = n)
    (hval : Value.okWide P W r b0 t v) (hd : DataW.Trod enc P W base sp held t v d p) : ∃ f : Nat → Int, v = .agg (rowArr n fun j => .int k (f j)) ∧ ∀ j, j < n → (Lit.int k (f j)).wf = true := by
  unfold Value.okWide at hval
  rw [ht] at hval
  obtain ⟨cs, rfl, hsz, _⟩ := hval
  obtain ⟨fuel, hf⟩ := hd
  obtain ⟨xs, m, _, _, hl, hxl, hi⟩ := DataW.trod_array ht hf
  have hcs : (Value.agg cs).cells.toList = cs.toList := rfl
  rw [hcs] at hl hi
  rw [hct] at hl
  have key : ∀ i (h : i < n), ∃ q, cs.toList[i]? = some (.int k q) ∧ (Lit.int k q).wf = true := fun i h => by
    have h1 := hi i h
    rw [hce, Nat.mul_one, List.getElem?_eq_getElem (by omega)] at h1
    obtain ⟨q, hq, _, hw⟩ := DataW.trod_int he h1
    refine ⟨q, ?_, hw⟩
    have h2 : ((cs.toList.drop i).take 1)[0]? = some (.int k q) := by rw [hq]; rfl
    rw [List.getElem?_take, if_pos (by omega), List.getElem?_drop] at h2
    exact h2
  refine ⟨intAt cs.toList, ?_, fun j hj => ?_⟩
  · congr 1
    apply Array.ext
    · rw [rowArr_size]; have : cs.toList.length = cs.size := rfl; omega
    · intro i h1 h2
      rw [rowArr_size] at h2
      obtain ⟨q, hq, _⟩ := key i h2
      have h3 := rowArr_get n (fun j => Value.int k (intAt cs.toList j)) i h2
      rw [Array.getElem?_eq_getElem (by rw [rowArr_size]; exact h2)] at h3
      rw [Option.some.inj h3]
      unfold intAt
      rw [hq]
      have h4 : cs[i]? = some (.int k q) := by rw [← Array.getElem?_toList]; exact hq
      rw [Array.getElem?_eq_getElem h1] at h4
      exact Option.some.inj h4
  · obtain ⟨q, hq, hw⟩ := key j hj
    unfold intAt
    rw [hq]
    exact hw

theorem wf_u8 {n : Int} (h : (Lit.int .u8 n).wf = true) : 0 ≤ n ∧ n < 256 := by
  have := bounds_u8 h
  omega

end Go.Proofs.YtppidlpblkihbaaDoor
