/-
  Cells in the middle of a block; a header there. No conditions.
  A row of an item (a header, whether its change is known, the change) by value, and rows side by side. No conditions.
-/
import Derived.Test.YtldaligeckjhaaaHdA
import Derived.Deep.MidRow
import Derived.Test.YtldaligeckjhaaaSrA
import Derived.Test.YtldaligeckjhaaaTagP
namespace Go.Proofs.Ytldaligeckjhaaa
open Go.ChangeAt Go.ChangeShapes Go.RowKit Go.WideShapes

/-- A header and its tokens. -/
abbrev HT := Hd × List (Nat → Int)
def hdN : Hd := ⟨0, 0, fun _ => 0, 0, false, 0, fun _ => 0, none, 0, 0, fun _ => 0, fun _ => 0, 0, fun _ => 0⟩
def htN : HT := (hdN, [])
theorem hdN_ok : HdOk hdN := ⟨by decide, by decide, fun _ _ => ⟨Int.le_refl 0, by show (0 : Int) < 256; omega⟩, by decide, by decide, fun _ _ => ⟨Int.le_refl 0, by show (0 : Int) < 256; omega⟩, fun _ _ => ⟨Int.le_refl 0, by show (0 : Int) < 18446744073709551616; omega⟩, fun _ _ => ⟨Int.le_refl 0, by show (0 : Int) < 256; omega⟩, by decide, fun _ _ => ⟨Int.le_refl 0, by show (0 : Int) < 256; omega⟩⟩
/-- A header that may stand in memory, with its tokens. -/
structure HtAt (w : World) (x : HT) : Prop where
  ok : HdOk x.1
  toks : TsAt w x.1.ta x.1.tn x.1.tc x.2
theorem HtAt.ext {w w' : World} {x : HT} (h : HtAt w x) (he : Ext w w') : HtAt w' x := ⟨h.ok, h.toks.ext he⟩
theorem htN_at (w : World) : HtAt w htN := ⟨hdN_ok, ⟨rfl, Nat.le_refl _, by show (0 : Nat) ≤ _; omega, by show (0 : Nat) ≤ _; omega, fun t ht => by simp [htN] at ht, fun h => by have h0 : (0 : Nat) < 0 := h; omega, fun _ => rfl⟩⟩

def hdL (h : Hd) : List Value := (List.range 125).map (hdC h)
theorem hdL_length (h : Hd) : (hdL h).length = 125 := by simp [hdL]
theorem hdL_get (h : Hd) (j : Nat) (hj : j < 125) : (hdL h)[j]? = some (hdC h j) := by
  unfold hdL
  rw [List.getElem?_map, List.getElem?_range hj]
  rfl

/-- Cells stored one behind the other. -/
theorem rowIs_setCells {t : TypeId} {b n : Nat} : ∀ (vs : List Value) (o : Nat) (w : World) (f : Nat → Value), w.rowIs b t n f → (w.setCells b o vs).rowIs b t n (fun j => if o ≤ j ∧ j < o + vs.length then vs.getD (j - o) undef else f j)
  | [], o, _, f, h => h.congr fun j _ => by rw [if_neg (by simp)]
  | v :: r, o, _, f, h => (rowIs_setCells r (o + 1) _ _ (h.set o v)).congr fun j _ => by
    rw [List.length_cons]
    by_cases h1 : j = o
    · subst h1
      rw [if_neg (by omega), if_pos rfl, if_pos (by omega), Nat.sub_self]
      rfl
    · by_cases h2 : o + 1 ≤ j ∧ j < o + 1 + r.length
      · rw [if_pos h2, if_pos (by omega), show j - o = (j - (o + 1)) + 1 by omega]
        rfl
      · rw [if_neg h2, if_neg h1, if_neg (by omega)]
theorem grown_setCells {a : World} {g : Nat} : ∀ (vs : List Value) (o : Nat) (w : World), a.grownBy w (some g) → a.grownBy (w.setCells g o vs) (some g)
  | [], _, _, h => h
  | v :: r, o, _, h => grown_setCells r (o + 1) _ (grown_setCell h rfl v)


/-- A header loaded out of the middle of a block. -/
theorem range_hd {w : World} {b off : Nat} {h : Hd} (hc : ∀ j, j < 125 → w.cell? ⟨b, off + j, none⟩ = some (hdC h j)) : w.rangeAt b off (hdL h) := fun j v hv => by
  have hj : j < 125 := by
    have := (List.getElem?_eq_some_iff.1 hv).1
    rwa [hdL_length] at this
  rw [hdL_get h j hj] at hv
  rw [← Option.some.inj hv]
  exact hc j hj
theorem hdL_arr (h : Hd) : (hdL h).toArray = hdV h := rfl


theorem info_hd125 : (Try.prog.info? 31).map (·.size) = some 125 := by kernel_rfl
theorem lu_hmid {w : World} {o : Oper} {ev : Operand → Value} {x : Operand} {b off : Nat} {h : Hd} (ho : o.op = .load 31 x) (hx : ev x = .pointer (some ⟨b, off, none⟩)) (hr : w.rangeAt b off (hdL h)) :
    lexUpon Try.prog w (.ex (.agg (hdV h))) ((execOp ev o).run Try.prog w) := by
  simp only [execOp, ho, hx, Instr.loadAt, Instr.sureAddr, Sem.run_bind, Sem.run_pure, Result.andThen_ok, run_loadVar_mid w b off 31 (hdL h) _ hr Try.underlying31 rfl (by rw [hdL_length]; exact info_hd125)]
  exact ⟨Ext.refl _, rfl⟩

/-- A row. -/
structure Rw where
  hd : HT
  kn : Bool
  op : Int
  name : ByteArray
  ta : Option Addr
  tc : Nat
  tags : List ByteArray
  val : ByteArray
/-- A change's cells. -/
def chgC (op : Int) (name : ByteArray) (tags : Value) (val : ByteArray) (i : Nat) : Value := if i < 1 then .int .i64 op else if i < 2 then .string name else if i < 3 then tags else .string val
/-- A row's cells. -/
def rwC (r : Rw) (i : Nat) : Value := if i < 125 then hdC r.hd.1 i else if i < 126 then .bool r.kn else chgC r.op r.name (.slice r.ta r.tags.length r.tc) r.val (i - 126)
def rwV (r : Rw) : Array Value := rowArr 130 (rwC r)
theorem rwV_size (r : Rw) : (rwV r).size = 130 := rowArr_size _ _
theorem rwC_one (r : Rw) (i : Nat) : (rwC r i).oneCell' = true := by
  unfold rwC chgC
  split
  · exact hdC_one _ _
  · repeat (split; rfl)
    rfl
theorem rwV_one (r : Rw) : (rwV r).all (·.oneCell') = true := rowArr_one fun i _ => rwC_one r i
/-- A row that may stand in memory. -/
structure RwAt (w : World) (r : Rw) : Prop where
  hd : HtAt w r.hd
  tags : SrAt w r.ta r.tags.length r.tc r.tags
  tl : r.tags.length ≤ 140737488355328
  op : -9223372036854775808 ≤ r.op ∧ r.op ≤ 9223372036854775807
  name : r.name.size ≤ 140737488351232
  val : r.val.size ≤ 140737488351232
theorem RwAt.ext {w w' : World} {r : Rw} (h : RwAt w r) (he : Ext w w') : RwAt w' r := ⟨h.hd.ext he, h.tags.ext he, h.tl, h.op, h.name, h.val⟩
def rwN : Rw := ⟨htN, false, 0, ⟨#[]⟩, none, 0, [], ⟨#[]⟩⟩
section
variable {w : World} {g : Nat} {r : Rw} {T : TypeId} {fr : Nat × Nat} (hb : w.heap[g]? = some (.cells (rwV r) T fr))
include hb
theorem rw_hd (i : Nat) (hi : i < 125) : w.cell? ⟨g, i, none⟩ = some (hdC r.hd.1 i) := by
  rw [row_cell hb i (by omega)]
  unfold rwC
  rw [if_pos hi]
theorem rw_kn : w.cell? ⟨g, 125, none⟩ = some (.bool r.kn) := row_cell hb 125 (by omega)
theorem rw_op : w.cell? ⟨g, 126, none⟩ = some (.int .i64 r.op) := row_cell hb 126 (by omega)
theorem rw_name : w.cell? ⟨g, 127, none⟩ = some (.string r.name) := row_cell hb 127 (by omega)
theorem rw_tags : w.cell? ⟨g, 128, none⟩ = some (.slice r.ta r.tags.length r.tc) := row_cell hb 128 (by omega)
theorem rw_val : w.cell? ⟨g, 129, none⟩ = some (.string r.val) := row_cell hb 129 (by omega)
theorem rw_ctl : w.cell? ⟨g, 35, none⟩ = some (.bool r.hd.1.ctl) := rw_hd hb 35 (by omega)
theorem rw_rh : w.rangeAt g 0 (hdL r.hd.1) := range_hd (fun j hj => by rw [Nat.zero_add]; exact rw_hd hb j hj)
end
/-- Rows side by side. -/
structure RwsAt (w : World) (a : Option Addr) (n c : Nat) (l : List Rw) : Prop where
  len : l.length = n
  cap : n ≤ c
  lim : c ≤ 9223372036854775807
  small : n ≤ 140737488355328
  each : ∀ x ∈ l, RwAt w x
  at_ : 0 < n → ∃ b off, a = some ⟨b, off, none⟩ ∧ ∀ i, i < n → ∀ j, j < 130 → w.cell? ⟨b, off + i * 130 + j, none⟩ = some (rwC (l.getD i rwN) j)
  nil_ : a = none → c = 0
theorem RwsAt.ext {w w' : World} {a : Option Addr} {n c : Nat} {l : List Rw} (h : RwsAt w a n c l) (he : Ext w w') : RwsAt w' a n c l := by
  refine ⟨h.len, h.cap, h.lim, h.small, fun x hx => (h.each x hx).ext he, fun hn => ?_, h.nil_⟩
  obtain ⟨b, off, ha, hc⟩ := h.at_ hn
  exact ⟨b, off, ha, fun i hi j hj => by rw [Ext.cell he (World.block_lt_of_cell? w _ (hc i hi j hj))]; exact hc i hi j hj⟩
theorem RwsAt.get {w : World} {a : Option Addr} {n c : Nat} {l : List Rw} (h : RwsAt w a n c l) {i : Nat} (hi : i < n) : RwAt w (l.getD i rwN) := by
  have hl := h.len
  refine h.each _ ?_
  rw [List.getD_eq_getElem?_getD, List.getElem?_eq_getElem (by omega)]
  exact List.getElem_mem _

def rwL (r : Rw) : List Value := (List.range 130).map (rwC r)
theorem rwL_length (r : Rw) : (rwL r).length = 130 := by simp [rwL]
theorem rwL_get (r : Rw) (j : Nat) (hj : j < 130) : (rwL r)[j]? = some (rwC r j) := by
  unfold rwL
  rw [List.getElem?_map, List.getElem?_range hj]
  rfl
theorem rwL_arr (r : Rw) : (rwL r).toArray = rwV r := rfl
theorem rwL_one (r : Rw) : ∀ u ∈ rwL r, u.oneCell' = true := fun u hu => by
  obtain ⟨j, _, rfl⟩ := List.mem_map.1 hu
  exact rwC_one _ _
def rwsC : List Rw → List Value
  | [] => []
  | x :: l => rwL x ++ rwsC l
theorem rwsC_length : ∀ l : List Rw, (rwsC l).length = l.length * 130
  | [] => rfl
  | x :: l => by rw [rwsC, List.length_append, rwL_length, rwsC_length l, List.length_cons]; omega
theorem rwsC_append : ∀ (l m : List Rw), rwsC (l ++ m) = rwsC l ++ rwsC m
  | [], m => rfl
  | x :: l, m => by rw [List.cons_append, rwsC, rwsC, rwsC_append l m, List.append_assoc]
theorem rwsC_get : ∀ (l : List Rw) (i j : Nat), i < l.length → j < 130 → (rwsC l)[i * 130 + j]? = some (rwC (l.getD i rwN) j)
  | [], i, j, h, _ => by simp at h
  | x :: l, 0, j, _, hj => by
    rw [rwsC, List.getElem?_append_left (by rw [rwL_length]; omega), Nat.zero_mul, Nat.zero_add, rwL_get x j hj]
    rfl
  | x :: l, i + 1, j, h, hj => by
    rw [rwsC, List.getElem?_append_right (by rw [rwL_length]; omega), rwL_length, show (i + 1) * 130 + j - 130 = i * 130 + j by omega, rwsC_get l i j (by simpa using h) hj]
    simp
theorem rwsC_one : ∀ (l : List Rw), ∀ u ∈ rwsC l, u.oneCell' = true
  | [], u, h => by cases h
  | x :: l, u, h => by
    rw [rwsC, List.mem_append] at h
    rcases h with h | h
    · exact rwL_one x u h
    · exact rwsC_one l u h
theorem own_rwsl {w : World} {B n : Nat} {v : Value} {l : List Rw} (h : w.ownsRow B 36 130 v n (rwsC l)) : ∃ a c, v = .slice a n c := by
  rcases h.2 with ⟨rfl, rfl⟩ | ⟨g, cap, cur, rfl, _⟩
  · exact ⟨none, 0, rfl⟩
  · exact ⟨_, cap, rfl⟩
theorem own_rws {w : World} {B : Nat} {a : Option Addr} {n c : Nat} {l : List Rw} (h : w.ownsRow B 36 130 (.slice a n c) n (rwsC l)) (he : ∀ x ∈ l, RwAt w x) (hs : n ≤ 140737488355328) : RwsAt w a n c l := by
  have hl : l.length = n := by
    have := h.1
    rw [rwsC_length] at this
    omega
  rcases h.2 with ⟨h1, h2⟩ | ⟨g, cap, cur, h1, _, _, hc1, hc2, _, _⟩
  · simp only [Value.slice.injEq] at h1
    obtain ⟨rfl, rfl, rfl⟩ := h1
    exact ⟨hl, Nat.le_refl _, by omega, by omega, he, fun h0 => by omega, fun _ => rfl⟩
  · simp only [Value.slice.injEq] at h1
    obtain ⟨rfl, _, rfl⟩ := h1
    refine ⟨hl, hc1, by unfold maxLen at hc2; omega, hs, he, fun h0 => ⟨g, 0, rfl, fun i hi j hj => ?_⟩, fun h0 => by cases h0⟩
    have h1 := h.cells (g := g) rfl (i * 130 + j) _ (rwsC_get l i j (by omega) hj)
    rw [addr_add] at h1
    rw [← h1]
    simp

end Go.Proofs.Ytldaligeckjhaaa
