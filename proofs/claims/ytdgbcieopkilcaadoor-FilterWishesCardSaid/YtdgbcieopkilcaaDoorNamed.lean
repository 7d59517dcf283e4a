/-
  A map keyed by a key and a text (box.named): two keys compared, a look-up, a store. No conditions.
-/
import Derived.Test.YtdgbcieopkilcaaDoorArB
import Derived.WideKeyElems
namespace Go.Proofs.YtdgbcieopkilcaaDoor
open Go.ChangeShapes Go.WideShapes Go.ChangeAt Go.RowKit

/-- A key with a text. -/
def nmC (f : Nat → Int) (s : ByteArray) (i : Nat) : Value := if i < 32 then .int .u8 (f i) else .string s
def nmV (f : Nat → Int) (s : ByteArray) : Array Value := rowArr 33 (nmC f s)
theorem nmV_size (f : Nat → Int) (s : ByteArray) : (nmV f s).size = 33 := rowArr_size _ _
theorem nmC_one (f : Nat → Int) (s : ByteArray) (i : Nat) : (nmC f s i).oneCell' = true := by unfold nmC; split <;> rfl
theorem nmV_one (f : Nat → Int) (s : ByteArray) : (nmV f s).all (·.oneCell') = true := rowArr_one fun i _ => nmC_one f s i
set_option maxRecDepth 100000 in
theorem part_key (w : World) (f : Nat → Int) (s : ByteArray) : (part 23 (nmV f s) 0).run Tryd.prog w = .ok (.agg (rowArr 32 fun j => .int .u8 (f j))) w := by kernel_rfl
set_option maxRecDepth 100000 in
theorem part_text (w : World) (f : Nat → Int) (s : ByteArray) : (part 9 (nmV f s) 32).run Tryd.prog w = .ok (.string s) w := by kernel_rfl
set_option maxRecDepth 100000 in
theorem check_nm (w : World) (b : Bool) (f : Nat → Int) (s : ByteArray) : (Instr.checkKey b 10000 83 (.agg (nmV f s))).run Tryd.prog w = .ok () w := by kernel_rfl
theorem fields_nm : (Tryd.prog.fieldsOf 83).toList = [⟨"key", 23, 0, false, "", "jalousie/box", 0⟩, ⟨"text", 9, 32, false, "", "jalousie/box", 32⟩] := by kernel_rfl
theorem eq_nm (w : World) (d : Nat) (f g : Nat → Int) (s t : ByteArray) : (Op.equalIn (d + 3) 83 (.agg (nmV f s)) (.agg (nmV g t))).run Tryd.prog w = .ok (arrB 32 f g && (s.toList == t.toList)) w := by
  rw [run_equalIn_struct w (d + 2) _ _ _ (by kernel_rfl) (by kernel_rfl), fields_nm]
  have h1 := run_equalIn_arr w d 23 5 32 .u8 Tryd.underlying23 Tryd.underlying5 size_u8 f g
  have h2 := run_equalIn_string (P := Tryd.prog) w (d + 1) 9 s t Tryd.underlying9
  have n1 : ("key" : String) ≠ "_" := by decide
  have n2 : ("text" : String) ≠ "_" := by decide
  simp only [Op.eqFields, if_pos n1, if_pos n2, Sem.run_bind, part_key, Result.andThen_ok, h1]
  unfold arrB
  by_cases hq : ∀ j, j < 32 → f j = g j
  · rw [decide_eq_true hq]
    simp only [Bool.not_true, Bool.false_eq_true, if_false, Sem.run_bind, part_text, Result.andThen_ok, h2, Bool.true_and]
    cases (s.toList == t.toList) <;> rfl
  · rw [decide_eq_false hq]
    simp

/-- An entry, in plain words: its key, its text, its value, its birth. -/
structure NmE where
  key : Nat → Int
  text : ByteArray
  val : Value
  born : Nat
def nmEntry (e : NmE) : MapEntry := ⟨.agg (nmV e.key e.text), e.val, e.born⟩
def nmHit (f : Nat → Int) (s : ByteArray) (e : NmE) : Bool := arrB 32 f e.key && (s.toList == e.text.toList)
def nmFind (f : Nat → Int) (s : ByteArray) : List NmE → Nat → Option (Nat × Value)
  | [], _ => none
  | e :: l, i => if nmHit f s e = true then some (i, e.val) else nmFind f s l (i + 1)
theorem findAsking_nm (w : World) (f : Nat → Int) (s : ByteArray) : ∀ (l : List NmE) (i : Nat), (Instr.findAsking 83 (.agg (nmV f s)) (l.map nmEntry) i).run Tryd.prog w = .ok (nmFind f s l i) w
  | [], i => rfl
  | e :: l, i => by
    have h1 := eq_nm w 9997 f e.key s e.text
    have h2 := findAsking_nm w f s l (i + 1)
    show (Instr.findAsking 83 (.agg (nmV f s)) (nmEntry e :: l.map nmEntry) i).run Tryd.prog w = _
    unfold Instr.findAsking
    rw [Sem.run_bind]
    show ((Op.equalIn (9997 + 3) 83 (.agg (nmV f s)) (.agg (nmV e.key e.text))).run Tryd.prog w).andThen _ = _
    rw [h1, Result.andThen_ok]
    unfold nmFind nmHit
    cases (arrB 32 f e.key && (s.toList == e.text.toList)) with
    | true => rfl
    | false => exact h2
theorem findKey_nm (w : World) (f : Nat → Int) (s : ByteArray) (l : List NmE) : (Instr.findKey 83 (.agg (nmV f s)) (l.map nmEntry)).run Tryd.prog w = .ok (nmFind f s l 0) w := by
  unfold Instr.findKey
  rw [Sem.run_bind, run_underlying Tryd.underlying83, Result.andThen_ok]
  cases l with
  | nil => rfl
  | cons e l => exact findAsking_nm w f s (e :: l) 0

/-- What a look-up hands back. -/
def nmRes (r : Option (Nat × Value)) (z : Value) : Value := match r with
  | some p => p.2
  | none => z
theorem lookup_nm {w : World} {b clock : Nat} {es : Array MapEntry} {l : List NmE} {T E : TypeId} {z : Value} (ht : Tryd.prog.underlying T = some (.map 83 E)) (hz : (zeroValue E).run Tryd.prog w = .ok z w) (hb : w.heap[b]? = some (.map es clock)) (he : es.toList = l.map nmEntry) (f : Nat → Int) (s : ByteArray) :
    (Instr.lookup T (.map (some b)) (.agg (nmV f s)) true).run Tryd.prog w = .ok (.tuple #[nmRes (nmFind f s l 0) z, .bool (nmFind f s l 0).isSome]) w := by
  have h1 := findKey_nm w f s l
  rw [← he] at h1
  cases hf : nmFind f s l 0 with
  | none =>
    rw [hf] at h1
    simp [Instr.lookup, run_underlying ht, MapKept.run_getObj_map hb, check_nm, h1, hz, Result.andThen, nmRes]
  | some p =>
    rw [hf] at h1
    simp [Instr.lookup, run_underlying ht, MapKept.run_getObj_map hb, check_nm, h1, Result.andThen, nmRes]
/-- A store of a key that isn't there. -/
theorem update_nm {w : World} {b clock : Nat} {es : Array MapEntry} {l : List NmE} {T E : TypeId} (ht : Tryd.prog.underlying T = some (.map 83 E)) (hb : w.heap[b]? = some (.map es clock)) (he : es.toList = l.map nmEntry) (f : Nat → Int) (s : ByteArray) (hn : nmFind f s l 0 = none) (v : Value) :
    (Instr.mapUpdate T (.map (some b)) (.agg (nmV f s)) v).run Tryd.prog w = .ok () (ChangeMaps.setBlock w b (.map (es.push ⟨.agg (nmV f s), v, clock⟩) (clock + 1))) := by
  have h1 := findKey_nm w f s l
  rw [← he, hn] at h1
  simp [Instr.mapUpdate, run_underlying ht, MapKept.run_getObj_map hb, check_nm, h1, MapKept.run_setObj_map _ hb, Result.andThen, ChangeMaps.setBlock]

end Go.Proofs.YtdgbcieopkilcaaDoor
