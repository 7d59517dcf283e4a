/-
  A map whose entries are only put in, keyed by arrays or structs: look-up, entry, store. No conditions.
  Two kinds of keys: tokens; an entry's place (writer, number). No conditions.
-/
import Derived.Test.YtldaligeckjhaaaArB
import Derived.WideKeyElems
import Derived.WideKeyEntry
import Derived.MapKept
namespace Go.Proofs.Ytldaligeckjhaaa
open Go.ChangeAt Go.ChangeShapes Go.RowKit Go.WideShapes

/-- A kind of key. -/
structure KeyK (κ : Type) (T : TypeId) where
  enc : κ → Value
  eq : κ → κ → Bool
  same : ∀ a b, eq a b = true → enc a = enc b
  run : ∀ (w : World) (a b : κ), (Op.equalIn 10000 T (enc a) (enc b)).run Try.prog w = .ok (eq a b) w
  check : ∀ (w : World) (e : Bool) (a : κ), (Instr.checkKey e 10000 T (enc a)).run Try.prog w = .ok () w
  stays : ∀ (w : World) (a : κ), (Instr.keyThatStays (enc a) (enc a)).run Try.prog w = .ok (enc a) w
  nil_ : ∀ (w : World) (a : κ), (Instr.findKey T (enc a) []).run Try.prog w = .ok none w
  cons : ∀ (w : World) (a : κ) (e : MapEntry) (l : List MapEntry), (Instr.findKey T (enc a) (e :: l)).run Try.prog w = (Instr.findAsking T (enc a) (e :: l) 0).run Try.prog w
section
variable {κ : Type} {T : TypeId} (K : KeyK κ T)
/-- The entries, each born at its place. -/
def kvE : List (κ × Value) → Nat → List MapEntry
  | [], _ => []
  | p :: l, i => ⟨K.enc p.1, p.2, i⟩ :: kvE l (i + 1)
theorem kvE_length : ∀ (l : List (κ × Value)) (i : Nat), (kvE K l i).length = l.length
  | [], _ => rfl
  | _ :: l, i => by rw [kvE, List.length_cons, kvE_length l, List.length_cons]
theorem kvE_append : ∀ (l m : List (κ × Value)) (i : Nat), kvE K (l ++ m) i = kvE K l i ++ kvE K m (i + l.length)
  | [], _, _ => rfl
  | p :: l, m, i => by rw [List.cons_append, kvE, kvE, kvE_append l m, List.length_cons, List.cons_append, show i + 1 + l.length = i + (l.length + 1) by omega]
theorem kvE_get : ∀ (l : List (κ × Value)) (i j : Nat), (kvE K l i)[j]? = (l[j]?).map fun p => ⟨K.enc p.1, p.2, i + j⟩
  | [], _, _ => by simp [kvE]
  | p :: l, i, 0 => by simp [kvE]
  | p :: l, i, j + 1 => by
    rw [kvE, List.getElem?_cons_succ, kvE_get l (i + 1) j, List.getElem?_cons_succ, show i + 1 + j = i + (j + 1) by omega]
theorem kvE_set : ∀ (l : List (κ × Value)) (i j : Nat) (k : κ) (u v : Value), l[j]? = some (k, u) → (kvE K l i).modify j (fun e => { e with val := v }) = kvE K (l.set j (k, v)) i
  | [], _, _, _, _, _, h => by simp at h
  | p :: l, i, 0, k, u, v, h => by
    simp only [List.getElem?_cons_zero, Option.some.injEq] at h
    subst h
    simp [kvE]
  | p :: l, i, j + 1, k, u, v, h => by
    rw [List.getElem?_cons_succ] at h
    rw [List.set_cons_succ, kvE, kvE, List.modify_succ_cons, kvE_set l (i + 1) j k u v h]
theorem kvE_keep : ∀ (l : List (κ × Value)) (i j : Nat) (k : κ) (u : Value) (x : κ), l[j]? = some (k, u) → K.enc k = K.enc x → (kvE K l i).modify j (fun e => { e with key := K.enc x }) = kvE K l i
  | [], _, _, _, _, _, h, _ => by simp at h
  | p :: l, i, 0, k, u, x, h, he => by
    simp only [List.getElem?_cons_zero, Option.some.injEq] at h
    subst h
    simp [kvE, ← he]
  | p :: l, i, j + 1, k, u, x, h, he => by
    rw [List.getElem?_cons_succ] at h
    rw [kvE, List.modify_succ_cons, kvE_keep l (i + 1) j k u x h he]
/-- Where a key stands. -/
def kvPos (x : κ) : List (κ × Value) → Nat → Option (Nat × Value)
  | [], _ => none
  | p :: l, i => if K.eq x p.1 = true then some (i, p.2) else kvPos x l (i + 1)
theorem findAsking_kv (w : World) (x : κ) : ∀ (l : List (κ × Value)) (o i : Nat), (Instr.findAsking T (K.enc x) (kvE K l o) i).run Try.prog w = .ok (kvPos K x l i) w
  | [], _, _ => rfl
  | p :: l, o, i => by
    have h2 := findAsking_kv w x l (o + 1) (i + 1)
    show (Instr.findAsking T (K.enc x) (⟨K.enc p.1, p.2, o⟩ :: kvE K l (o + 1)) i).run Try.prog w = _
    unfold Instr.findAsking
    rw [Sem.run_bind]
    show ((Op.equalIn 10000 T (K.enc x) (K.enc p.1)).run Try.prog w).andThen _ = _
    rw [K.run, Result.andThen_ok]
    unfold kvPos
    cases K.eq x p.1 with
    | true => rfl
    | false => exact h2
theorem findKey_kv (w : World) (x : κ) (l : List (κ × Value)) : (Instr.findKey T (K.enc x) (kvE K l 0)).run Try.prog w = .ok (kvPos K x l 0) w := by
  cases l with
  | nil => exact K.nil_ w x
  | cons p l =>
    rw [kvE, K.cons]
    exact findAsking_kv K w x (p :: l) 0 0
theorem kvPos_some : ∀ (x : κ) (l : List (κ × Value)) (i j : Nat) (v : Value), kvPos K x l i = some (j, v) → ∃ m k, j = i + m ∧ l[m]? = some (k, v) ∧ K.eq x k = true
  | _, [], _, _, _, h => by cases h
  | x, p :: l, i, j, v, h => by
    unfold kvPos at h
    split at h
    · rename_i he
      simp only [Option.some.injEq, Prod.mk.injEq] at h
      obtain ⟨rfl, rfl⟩ := h
      exact ⟨0, p.1, rfl, rfl, he⟩
    · obtain ⟨m, k, h1, h2, h3⟩ := kvPos_some x l (i + 1) j v h
      exact ⟨m + 1, k, by omega, h2, h3⟩
theorem kvPos_none : ∀ (x : κ) (l : List (κ × Value)) (i : Nat), kvPos K x l i = none → ∀ p ∈ l, K.eq x p.1 = false
  | _, [], _, _, p, hp => by cases hp
  | x, q :: l, i, h, p, hp => by
    unfold kvPos at h
    split at h
    · cases h
    · rename_i hne
      rcases List.mem_cons.1 hp with rfl | hp
      · simpa using hne
      · exact kvPos_none x l (i + 1) h p hp
/-- A map in memory. -/
structure KvAt (w : World) (b : Nat) (l : List (κ × Value)) : Prop where
  at_ : ∃ es : Array MapEntry, w.heap[b]? = some (.map es l.length) ∧ es.toList = kvE K l 0
variable {K}
theorem KvAt.same {w w' : World} {b : Nat} {l : List (κ × Value)} (h : KvAt K w b l) (he : w'.heap[b]? = w.heap[b]?) : KvAt K w' b l := by
  obtain ⟨es, h1, h2⟩ := h.at_
  exact ⟨es, he.trans h1, h2⟩
theorem KvAt.lt {w : World} {b : Nat} {l : List (κ × Value)} (h : KvAt K w b l) : b < w.heap.size := by
  obtain ⟨es, h1, _⟩ := h.at_
  exact (Array.getElem?_eq_some_iff.1 h1).1
theorem KvAt.ext {w w' : World} {b : Nat} {l : List (κ × Value)} (h : KvAt K w b l) (he : Ext w w') : KvAt K w' b l := h.same (he.block h.lt)
/-- What a look-up hands back. -/
def kvGet (K : KeyK κ T) (x : κ) (l : List (κ × Value)) (z : Value) : Value := match kvPos K x l 0 with
  | some p => p.2
  | none => z
theorem lookup_kv {w : World} {b : Nat} {l : List (κ × Value)} {M E : TypeId} {z : Value} (h : KvAt K w b l) (ht : Try.prog.underlying M = some (.map T E)) (hz : (zeroValue E).run Try.prog w = .ok z w) (x : κ) :
    (Instr.lookup M (.map (some b)) (K.enc x) false).run Try.prog w = .ok (kvGet K x l z) w := by
  obtain ⟨es, h1, h2⟩ := h.at_
  have h3 := findKey_kv K w x l
  rw [← h2] at h3
  unfold kvGet
  cases hf : kvPos K x l 0 with
  | none =>
    rw [hf] at h3
    simp [Instr.lookup, run_underlying ht, MapKept.run_getObj_map h1, K.check, h3, hz, Result.andThen]
  | some p =>
    rw [hf] at h3
    simp [Instr.lookup, run_underlying ht, MapKept.run_getObj_map h1, K.check, h3, Result.andThen]
theorem kv_setBlock {w : World} {b : Nat} {o o' : Obj} (h : w.heap[b]? = some o) : (ChangeMaps.setBlock w b o').heap[b]? = some o' := by
  unfold ChangeMaps.setBlock
  have hlt := (Array.getElem?_eq_some_iff.1 h).1
  simp [hlt]
/-- An entry asked for: it is there, or it is laid. -/
theorem entry_kv {w : World} {b : Nat} {l : List (κ × Value)} {M E : TypeId} {z : Value} (h : KvAt K w b l) (ht : Try.prog.underlying M = some (.map T E)) (hz : (zeroValue E).run Try.prog w = .ok z w) (x : κ) :
    ∃ (o : Obj) (j : Nat) (u : Value) (k : κ) (l' : List (κ × Value)), (Instr.mapEntry M (.map (some b)) (K.enc x)).run Try.prog w = .ok (.tuple #[u, .int .i64 (j : Int)]) (ChangeMaps.setBlock w b o) ∧ KvAt K (ChangeMaps.setBlock w b o) b l' ∧ l'[j]? = some (k, u) ∧
      ((l' = l ∧ K.eq x k = true) ∨ (l' = l ++ [(x, z)] ∧ k = x ∧ u = z ∧ j = l.length ∧ ∀ p ∈ l, K.eq x p.1 = false)) := by
  obtain ⟨es, h1, h2⟩ := h.at_
  have h3 := findKey_kv K w x l
  rw [← h2] at h3
  cases hf : kvPos K x l 0 with
  | none =>
    rw [hf] at h3
    refine ⟨.map (es.push ⟨K.enc x, z, l.length⟩) (l.length + 1), l.length, z, x, l ++ [(x, z)], ?_, ⟨⟨es.push ⟨K.enc x, z, l.length⟩, ?_, ?_⟩⟩, by simp, .inr ⟨rfl, rfl, rfl, rfl, kvPos_none K x l 0 hf⟩⟩
    · simp [Instr.mapEntry, run_underlying ht, MapKept.run_getObj_map h1, K.check, h3, hz, MapKept.run_setObj_map _ h1, Result.andThen, ChangeMaps.setBlock, goInt]
    · rw [kv_setBlock h1, List.length_append]
      rfl
    · rw [Array.toList_push, h2, kvE_append, Nat.zero_add]
      rfl
  | some p =>
    obtain ⟨j, u⟩ := p
    rw [hf] at h3
    obtain ⟨m, k, hj, hl, he⟩ := kvPos_some K x l 0 j u hf
    obtain rfl : j = m := by omega
    have hek := K.same x k he
    have hes : es[j]? = some ⟨K.enc k, u, 0 + j⟩ := by
      rw [← Array.getElem?_toList, h2, kvE_get, hl]
      rfl
    refine ⟨.map es l.length, j, u, k, l, ?_, ⟨⟨es, kv_setBlock h1, h2⟩⟩, hl, .inl ⟨rfl, he⟩⟩
    have hmod : es.modify j (fun e => { e with key := K.enc x }) = es := by
      apply Array.ext'
      rw [Array.toList_modify, h2]
      exact kvE_keep K l 0 j k u x hl hek.symm
    have hst := K.stays w x
    simp [Instr.mapEntry, run_underlying ht, MapKept.run_getObj_map h1, K.check, h3, MapKept.run_setObj_map _ h1, Result.andThen, ChangeMaps.setBlock, goInt, hes, ← hek, hst, hmod]
/-- A value stored at an entry. -/
theorem store_kv {w : World} {b : Nat} {l : List (κ × Value)} {M : TypeId} (h : KvAt K w b l) {j : Nat} {k : κ} {u : Value} (hl : l[j]? = some (k, u)) (v : Value) :
    ∃ o, (Instr.entryStore M (.map (some b)) (.int .i64 (j : Int)) v).run Try.prog w = .ok () (ChangeMaps.setBlock w b o) ∧ KvAt K (ChangeMaps.setBlock w b o) b (l.set j (k, v)) := by
  obtain ⟨es, h1, h2⟩ := h.at_
  have hj : j < l.length := (List.getElem?_eq_some_iff.1 hl).1
  have hidx : es.findIdx? (fun e => ((e.born : Nat) : Int) == ((j : Nat) : Int)) = some j := by
    rw [WideElems.findIdx_arr, h2]
    have hn : ((kvE K l 0).map (·.born)).Nodup := by
      have e : ∀ (l : List (κ × Value)) (i : Nat), (kvE K l i).map (·.born) = List.range' i l.length := fun l => by
        induction l with
        | nil => intro i; rfl
        | cons p l ih => intro i; rw [kvE, List.map_cons, ih, List.length_cons, List.range'_succ]
      rw [e]
      exact List.nodup_range'
    have h4 := WideElems.findIdx_born hn (j := j) (e0 := ⟨K.enc k, u, 0 + j⟩) (by rw [kvE_get, hl]; rfl)
    rw [Nat.zero_add] at h4
    exact h4
  refine ⟨.map (es.modify j fun e => { e with val := v }) l.length, ?_, ⟨⟨es.modify j fun e => { e with val := v }, ?_, ?_⟩⟩⟩
  · simp [Instr.entryStore, MapKept.run_getObj_map h1, asInt, asIntOf, hidx, MapKept.run_setObj_map _ h1, Result.andThen, ChangeMaps.setBlock]
  · rw [kv_setBlock h1, List.length_set]
  · rw [Array.toList_modify, h2]
    exact kvE_set K l 0 j k u v hl
end

theorem stays_agg (xs : Array Value) (h : ∀ v ∈ xs.toList, Instr.sameBits 9999 v v = true) (w : World) : (Instr.keyThatStays (.agg xs) (.agg xs)).run Try.prog w = .ok (.agg xs) w := by
  have hs : Instr.sameBits 10000 (.agg xs) (.agg xs) = true := by
    show Instr.sameBits (9999 + 1) (.agg xs) (.agg xs) = true
    simp only [Instr.sameBits, beq_self_eq_true, Bool.true_and, List.all_eq_true]
    intro p hp
    have e : ∀ l : List Value, ∀ p ∈ l.zip l, p.1 = p.2 ∧ p.1 ∈ l := by
      intro l
      induction l with
      | nil => intro p hp; cases hp
      | cons a l ih =>
        intro p hp
        rw [List.zip_cons_cons, List.mem_cons] at hp
        rcases hp with rfl | hp
        · exact ⟨rfl, List.mem_cons_self ..⟩
        · exact ⟨(ih p hp).1, List.mem_cons_of_mem _ (ih p hp).2⟩
    obtain ⟨h1, h2⟩ := e _ p hp
    rw [← h1]
    exact h _ h2
  simp [Instr.keyThatStays, hs]
theorem same_int (n : Nat) (k : IntKind) (x : Int) : Instr.sameBits (n + 1) (.int k x) (.int k x) = true := by simp [Instr.sameBits]
theorem run_equalIn_num (w : World) (d : Nat) (t : TypeId) (k : IntKind) (ht : Try.prog.underlying t = some (.int k)) (x y : Int) : (Op.equalIn (d + 1) t (.int k x) (.int k y)).run Try.prog w = .ok (x == y) w := by
  simp [Op.equalIn, run_underlying ht]

/-- A token. -/
def tokV (f : Nat → Int) : Value := .agg (rowArr 16 fun j => .int .u8 (f j))
set_option maxRecDepth 100000 in
theorem check_tok (w : World) (b : Bool) (f : Nat → Int) : (Instr.checkKey b 10000 27 (tokV f)).run Try.prog w = .ok () w := by kernel_rfl
theorem nil_tok (w : World) (f : Nat → Int) : (Instr.findKey 27 (tokV f) []).run Try.prog w = .ok none w := by kernel_rfl
theorem cons_tok (w : World) (f : Nat → Int) (e : MapEntry) (l : List MapEntry) : (Instr.findKey 27 (tokV f) (e :: l)).run Try.prog w = (Instr.findAsking 27 (tokV f) (e :: l) 0).run Try.prog w := by
  unfold Instr.findKey
  rw [Sem.run_bind, run_underlying Try.underlying27, Result.andThen_ok]
  rfl
def tokK : KeyK (Nat → Int) 27 where
  enc := tokV
  eq := arrB 16
  same a b h := by
    unfold arrB at h
    have h := of_decide_eq_true h
    unfold tokV
    congr 1
    exact rowArr_congr _ _ _ fun i hi => by rw [h i hi]
  run w a b := run_equalIn_arr w 9998 27 5 16 .u8 Try.underlying27 Try.underlying5 size_u8 a b
  check w e a := check_tok w e a
  stays w a := by
    unfold tokV
    refine stays_agg _ (fun v hv => ?_) w
    simp only [rowArr, List.toList_toArray, List.mem_map] at hv
    obtain ⟨j, _, rfl⟩ := hv
    exact same_int _ _ _
  nil_ := nil_tok
  cons := cons_tok

/-- A place. -/
def plV (p : Int × Int) : Value := .agg #[.int .i64 p.1, .int .u64 p.2]
set_option maxRecDepth 100000 in
theorem check_pl (w : World) (b : Bool) (p : Int × Int) : (Instr.checkKey b 10000 87 (plV p)).run Try.prog w = .ok () w := by kernel_rfl
theorem fields_pl : (Try.prog.fieldsOf 87).toList = [⟨"writer", 3, 0, false, "", "jalousie/item", 0⟩, ⟨"seq", 23, 1, false, "", "jalousie/item", 8⟩] := by kernel_rfl
theorem part_wr (w : World) (p : Int × Int) : (part 3 #[.int .i64 p.1, .int .u64 p.2] 0).run Try.prog w = .ok (.int .i64 p.1) w := by kernel_rfl
theorem part_sq (w : World) (p : Int × Int) : (part 23 #[.int .i64 p.1, .int .u64 p.2] 1).run Try.prog w = .ok (.int .u64 p.2) w := by kernel_rfl
theorem eq_pl (w : World) (d : Nat) (p q : Int × Int) : (Op.equalIn (d + 3) 87 (plV p) (plV q)).run Try.prog w = .ok (p.1 == q.1 && p.2 == q.2) w := by
  unfold plV
  rw [run_equalIn_struct w (d + 2) _ _ _ (by kernel_rfl) (by kernel_rfl), fields_pl]
  have h1 := run_equalIn_num w (d + 1) 3 .i64 Try.underlying3 p.1 q.1
  have h2 := run_equalIn_num w (d + 1) 23 .u64 Try.underlying23 p.2 q.2
  have n1 : ("writer" : String) ≠ "_" := by decide
  have n2 : ("seq" : String) ≠ "_" := by decide
  simp only [Op.eqFields, if_pos n1, if_pos n2, Sem.run_bind, part_wr, Result.andThen_ok, h1]
  cases (p.1 == q.1) with
  | true =>
    simp only [Bool.not_true, Bool.false_eq_true, if_false, Sem.run_bind, part_sq, Result.andThen_ok, h2, Bool.true_and]
    cases (p.2 == q.2) <;> rfl
  | false => simp
theorem nil_pl (w : World) (p : Int × Int) : (Instr.findKey 87 (plV p) []).run Try.prog w = .ok none w := by kernel_rfl
theorem cons_pl (w : World) (p : Int × Int) (e : MapEntry) (l : List MapEntry) : (Instr.findKey 87 (plV p) (e :: l)).run Try.prog w = (Instr.findAsking 87 (plV p) (e :: l) 0).run Try.prog w := by
  unfold Instr.findKey
  rw [Sem.run_bind, run_underlying Try.underlying87, Result.andThen_ok]
  rfl
def plK : KeyK (Int × Int) 87 where
  enc := plV
  eq p q := p.1 == q.1 && p.2 == q.2
  same a b h := by
    simp only [Bool.and_eq_true, beq_iff_eq] at h
    unfold plV
    rw [h.1, h.2]
  run w a b := eq_pl w 9997 a b
  check w e a := check_pl w e a
  stays w a := by
    unfold plV
    refine stays_agg _ (fun v hv => ?_) w
    simp only [List.mem_cons, List.not_mem_nil, or_false] at hv
    rcases hv with rfl | rfl
    · exact same_int _ _ _
    · exact same_int _ _ _
  nil_ := nil_pl
  cons := cons_pl

end Go.Proofs.Ytldaligeckjhaaa
