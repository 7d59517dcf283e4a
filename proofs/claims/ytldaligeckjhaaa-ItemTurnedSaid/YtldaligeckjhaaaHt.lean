/-
  Cells in the middle of a block; a header there. No conditions.
-/
import Derived.Test.YtldaligeckjhaaaHdA
import Derived.Deep.MidRow
namespace Go.Proofs.Ytldaligeckjhaaa
open Go.ChangeAt Go.ChangeShapes Go.RowKit Go.WideShapes

/-- A header and its tokens. -/
abbrev HT := Hd × List (Nat → Int)
def hdN : Hd := ⟨0, 0, fun _ => 0, 0, false, 0, fun _ => 0, none, 0, 0, fun _ => 0, fun _ => 0, 0, fun _ => 0⟩
def htN : HT := (hdN, [])
theorem hdN_ok : HdOk hdN := ⟨by decide, by decide, fun _ _ => ⟨Int.le_refl 0, by show (0 : Int) < 256; omega⟩, by decide, by decide, fun _ _ => ⟨Int.le_refl 0, by show (0 : Int) < 256; omega⟩, fun _ _ => ⟨Int.le_refl 0, by show (0 : Int) < 18446744073709551616; omega⟩, fun _ _ => ⟨Int.le_refl 0, by show (0 : Int) < 256; omega⟩, by decide, fun _ _ => ⟨Int.le_refl 0, by show (0 : Int) < 256; omega⟩⟩
/-- A header that may stand in memory, with its tokens. -/
structure HtAt (w : World) (x : HT) : Prop where
  ok : HdOk x.1
  toks : TsAt w x.1.ta x.1.tn x.1.tc x.2
theorem HtAt.ext {w w' : World} {x : HT} (h : HtAt w x) (he : Ext w w') : HtAt w' x := ⟨h.ok, h.toks.ext he⟩
theorem htN_at (w : World) : HtAt w htN := ⟨hdN_ok, ⟨rfl, Nat.le_refl _, by show (0 : Nat) ≤ _; omega, by show (0 : Nat) ≤ _; omega, fun t ht => by simp [htN] at ht, fun h => by have h0 : (0 : Nat) < 0 := h; omega, fun _ => rfl⟩⟩

def hdL (h : Hd) : List Value := (List.range 125).map (hdC h)
theorem hdL_length (h : Hd) : (hdL h).length = 125 := by simp [hdL]
theorem hdL_get (h : Hd) (j : Nat) (hj : j < 125) : (hdL h)[j]? = some (hdC h j) := by
  unfold hdL
  rw [List.getElem?_map, List.getElem?_range hj]
  rfl

/-- Cells stored one behind the other. -/
theorem rowIs_setCells {t : TypeId} {b n : Nat} : ∀ (vs : List Value) (o : Nat) (w : World) (f : Nat → Value), w.rowIs b t n f → (w.setCells b o vs).rowIs b t n (fun j => if o ≤ j ∧ j < o + vs.length then vs.getD (j - o) undef else f j)
  | [], o, _, f, h => h.congr fun j _ => by rw [if_neg (by simp)]
  | v :: r, o, _, f, h => (rowIs_setCells r (o + 1) _ _ (h.set o v)).congr fun j _ => by
    rw [List.length_cons]
    by_cases h1 : j = o
    · subst h1
      rw [if_neg (by omega), if_pos rfl, if_pos (by omega), Nat.sub_self]
      rfl
    · by_cases h2 : o + 1 ≤ j ∧ j < o + 1 + r.length
      · rw [if_pos h2, if_pos (by omega), show j - o = (j - (o + 1)) + 1 by omega]
        rfl
      · rw [if_neg h2, if_neg h1, if_neg (by omega)]
theorem grown_setCells {a : World} {g : Nat} : ∀ (vs : List Value) (o : Nat) (w : World), a.grownBy w (some g) → a.grownBy (w.setCells g o vs) (some g)
  | [], _, _, h => h
  | v :: r, o, _, h => grown_setCells r (o + 1) _ (grown_setCell h rfl v)


/-- A header loaded out of the middle of a block. -/
theorem range_hd {w : World} {b off : Nat} {h : Hd} (hc : ∀ j, j < 125 → w.cell? ⟨b, off + j, none⟩ = some (hdC h j)) : w.rangeAt b off (hdL h) := fun j v hv => by
  have hj : j < 125 := by
    have := (List.getElem?_eq_some_iff.1 hv).1
    rwa [hdL_length] at this
  rw [hdL_get h j hj] at hv
  rw [← Option.some.inj hv]
  exact hc j hj
theorem hdL_arr (h : Hd) : (hdL h).toArray = hdV h := rfl


theorem info_hd125 : (Try.prog.info? 31).map (·.size) = some 125 := by kernel_rfl
theorem lu_hmid {w : World} {o : Oper} {ev : Operand → Value} {x : Operand} {b off : Nat} {h : Hd} (ho : o.op = .load 31 x) (hx : ev x = .pointer (some ⟨b, off, none⟩)) (hr : w.rangeAt b off (hdL h)) :
    lexUpon Try.prog w (.ex (.agg (hdV h))) ((execOp ev o).run Try.prog w) := by
  simp only [execOp, ho, hx, Instr.loadAt, Instr.sureAddr, Sem.run_bind, Sem.run_pure, Result.andThen_ok, run_loadVar_mid w b off 31 (hdL h) _ hr Try.underlying31 rfl (by rw [hdL_length]; exact info_hd125)]
  exact ⟨Ext.refl _, rfl⟩

end Go.Proofs.Ytldaligeckjhaaa
