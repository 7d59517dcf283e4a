/-
  A map whose entries are only put in, keyed by arrays or structs: look-up, entry, store. No conditions.
  Two kinds of keys: tokens; an entry's place (writer, number). No conditions.
  Rows parted by their tokens: the groups as they lie in a map, and what they say. No conditions.
  A map's operations as steps of a walk; an entry of the groups asked for and stored; what the groups say then. No conditions.
  A look-up among the groups. No conditions.
  Where a row was, noted; a row put into its group: the laws for item.parted's steps. No conditions.
-/
import Derived.Test.YtldaligeckjhaaaHdA
import Derived.WideKeyElems
import Derived.WideKeyEntry
import Derived.MapKept
import Derived.Test.YtldaligeckjhaaaRwA
import Derived.Test.YtldaligeckjhaaaRwF
import Derived.Test.YtldaligeckjhaaaLexP
namespace Go.Proofs.Ytldaligeckjhaaa
open Go.ChangeAt Go.ChangeShapes Go.RowKit Go.WideShapes

/-- A kind of key. -/
structure KeyK (κ : Type) (T : TypeId) where
  enc : κ → Value
  eq : κ → κ → Bool
  same : ∀ a b, eq a b = true → enc a = enc b
  run : ∀ (w : World) (a b : κ), (Op.equalIn 10000 T (enc a) (enc b)).run Try.prog w = .ok (eq a b) w
  check : ∀ (w : World) (e : Bool) (a : κ), (Instr.checkKey e 10000 T (enc a)).run Try.prog w = .ok () w
  stays : ∀ (w : World) (a : κ), (Instr.keyThatStays (enc a) (enc a)).run Try.prog w = .ok (enc a) w
  nil_ : ∀ (w : World) (a : κ), (Instr.findKey T (enc a) []).run Try.prog w = .ok none w
  cons : ∀ (w : World) (a : κ) (e : MapEntry) (l : List MapEntry), (Instr.findKey T (enc a) (e :: l)).run Try.prog w = (Instr.findAsking T (enc a) (e :: l) 0).run Try.prog w
section
variable {κ : Type} {T : TypeId} (K : KeyK κ T)
/-- The entries, each born at its place. -/
def kvE : List (κ × Value) → Nat → List MapEntry
  | [], _ => []
  | p :: l, i => ⟨K.enc p.1, p.2, i⟩ :: kvE l (i + 1)
theorem kvE_length : ∀ (l : List (κ × Value)) (i : Nat), (kvE K l i).length = l.length
  | [], _ => rfl
  | _ :: l, i => by rw [kvE, List.length_cons, kvE_length l, List.length_cons]
theorem kvE_append : ∀ (l m : List (κ × Value)) (i : Nat), kvE K (l ++ m) i = kvE K l i ++ kvE K m (i + l.length)
  | [], _, _ => rfl
  | p :: l, m, i => by rw [List.cons_append, kvE, kvE, kvE_append l m, List.length_cons, List.cons_append, show i + 1 + l.length = i + (l.length + 1) by omega]
theorem kvE_get : ∀ (l : List (κ × Value)) (i j : Nat), (kvE K l i)[j]? = (l[j]?).map fun p => ⟨K.enc p.1, p.2, i + j⟩
  | [], _, _ => by simp [kvE]
  | p :: l, i, 0 => by simp [kvE]
  | p :: l, i, j + 1 => by
    rw [kvE, List.getElem?_cons_succ, kvE_get l (i + 1) j, List.getElem?_cons_succ, show i + 1 + j = i + (j + 1) by omega]
theorem kvE_set : ∀ (l : List (κ × Value)) (i j : Nat) (k : κ) (u v : Value), l[j]? = some (k, u) → (kvE K l i).modify j (fun e => { e with val := v }) = kvE K (l.set j (k, v)) i
  | [], _, _, _, _, _, h => by simp at h
  | p :: l, i, 0, k, u, v, h => by
    simp only [List.getElem?_cons_zero, Option.some.injEq] at h
    subst h
    simp [kvE]
  | p :: l, i, j + 1, k, u, v, h => by
    rw [List.getElem?_cons_succ] at h
    rw [List.set_cons_succ, kvE, kvE, List.modify_succ_cons, kvE_set l (i + 1) j k u v h]
theorem kvE_keep : ∀ (l : List (κ × Value)) (i j : Nat) (k : κ) (u : Value) (x : κ), l[j]? = some (k, u) → K.enc k = K.enc x → (kvE K l i).modify j (fun e => { e with key := K.enc x }) = kvE K l i
  | [], _, _, _, _, _, h, _ => by simp at h
  | p :: l, i, 0, k, u, x, h, he => by
    simp only [List.getElem?_cons_zero, Option.some.injEq] at h
    subst h
    simp [kvE, ← he]
  | p :: l, i, j + 1, k, u, x, h, he => by
    rw [List.getElem?_cons_succ] at h
    rw [kvE, List.modify_succ_cons, kvE_keep l (i + 1) j k u x h he]
/-- Where a key stands. -/
def kvPos (x : κ) : List (κ × Value) → Nat → Option (Nat × Value)
  | [], _ => none
  | p :: l, i => if K.eq x p.1 = true then some (i, p.2) else kvPos x l (i + 1)
theorem findAsking_kv (w : World) (x : κ) : ∀ (l : List (κ × Value)) (o i : Nat), (Instr.findAsking T (K.enc x) (kvE K l o) i).run Try.prog w = .ok (kvPos K x l i) w
  | [], _, _ => rfl
  | p :: l, o, i => by
    have h2 := findAsking_kv w x l (o + 1) (i + 1)
    show (Instr.findAsking T (K.enc x) (⟨K.enc p.1, p.2, o⟩ :: kvE K l (o + 1)) i).run Try.prog w = _
    unfold Instr.findAsking
    rw [Sem.run_bind]
    show ((Op.equalIn 10000 T (K.enc x) (K.enc p.1)).run Try.prog w).andThen _ = _
    rw [K.run, Result.andThen_ok]
    unfold kvPos
    cases K.eq x p.1 with
    | true => rfl
    | false => exact h2
theorem findKey_kv (w : World) (x : κ) (l : List (κ × Value)) : (Instr.findKey T (K.enc x) (kvE K l 0)).run Try.prog w = .ok (kvPos K x l 0) w := by
  cases l with
  | nil => exact K.nil_ w x
  | cons p l =>
    rw [kvE, K.cons]
    exact findAsking_kv K w x (p :: l) 0 0
theorem kvPos_some : ∀ (x : κ) (l : List (κ × Value)) (i j : Nat) (v : Value), kvPos K x l i = some (j, v) → ∃ m k, j = i + m ∧ l[m]? = some (k, v) ∧ K.eq x k = true
  | _, [], _, _, _, h => by cases h
  | x, p :: l, i, j, v, h => by
    unfold kvPos at h
    split at h
    · rename_i he
      simp only [Option.some.injEq, Prod.mk.injEq] at h
      obtain ⟨rfl, rfl⟩ := h
      exact ⟨0, p.1, rfl, rfl, he⟩
    · obtain ⟨m, k, h1, h2, h3⟩ := kvPos_some x l (i + 1) j v h
      exact ⟨m + 1, k, by omega, h2, h3⟩
theorem kvPos_none : ∀ (x : κ) (l : List (κ × Value)) (i : Nat), kvPos K x l i = none → ∀ p ∈ l, K.eq x p.1 = false
  | _, [], _, _, p, hp => by cases hp
  | x, q :: l, i, h, p, hp => by
    unfold kvPos at h
    split at h
    · cases h
    · rename_i hne
      rcases List.mem_cons.1 hp with rfl | hp
      · simpa using hne
      · exact kvPos_none x l (i + 1) h p hp
/-- A map in memory. -/
structure KvAt (w : World) (b : Nat) (l : List (κ × Value)) : Prop where
  at_ : ∃ es : Array MapEntry, w.heap[b]? = some (.map es l.length) ∧ es.toList = kvE K l 0
variable {K}
theorem KvAt.same {w w' : World} {b : Nat} {l : List (κ × Value)} (h : KvAt K w b l) (he : w'.heap[b]? = w.heap[b]?) : KvAt K w' b l := by
  obtain ⟨es, h1, h2⟩ := h.at_
  exact ⟨es, he.trans h1, h2⟩
theorem KvAt.lt {w : World} {b : Nat} {l : List (κ × Value)} (h : KvAt K w b l) : b < w.heap.size := by
  obtain ⟨es, h1, _⟩ := h.at_
  exact (Array.getElem?_eq_some_iff.1 h1).1
theorem KvAt.ext {w w' : World} {b : Nat} {l : List (κ × Value)} (h : KvAt K w b l) (he : Ext w w') : KvAt K w' b l := h.same (he.block h.lt)
/-- What a look-up hands back. -/
def kvGet (K : KeyK κ T) (x : κ) (l : List (κ × Value)) (z : Value) : Value := match kvPos K x l 0 with
  | some p => p.2
  | none => z
theorem lookup_kv {w : World} {b : Nat} {l : List (κ × Value)} {M E : TypeId} {z : Value} (h : KvAt K w b l) (ht : Try.prog.underlying M = some (.map T E)) (hz : (zeroValue E).run Try.prog w = .ok z w) (x : κ) :
    (Instr.lookup M (.map (some b)) (K.enc x) false).run Try.prog w = .ok (kvGet K x l z) w := by
  obtain ⟨es, h1, h2⟩ := h.at_
  have h3 := findKey_kv K w x l
  rw [← h2] at h3
  unfold kvGet
  cases hf : kvPos K x l 0 with
  | none =>
    rw [hf] at h3
    simp [Instr.lookup, run_underlying ht, MapKept.run_getObj_map h1, K.check, h3, hz, Result.andThen]
  | some p =>
    rw [hf] at h3
    simp [Instr.lookup, run_underlying ht, MapKept.run_getObj_map h1, K.check, h3, Result.andThen]
theorem kv_setBlock {w : World} {b : Nat} {o o' : Obj} (h : w.heap[b]? = some o) : (ChangeMaps.setBlock w b o').heap[b]? = some o' := by
  unfold ChangeMaps.setBlock
  have hlt := (Array.getElem?_eq_some_iff.1 h).1
  simp [hlt]
/-- An entry asked for: it is there, or it is laid. -/
theorem entry_kv {w : World} {b : Nat} {l : List (κ × Value)} {M E : TypeId} {z : Value} (h : KvAt K w b l) (ht : Try.prog.underlying M = some (.map T E)) (hz : (zeroValue E).run Try.prog w = .ok z w) (x : κ) :
    ∃ (o : Obj) (j : Nat) (u : Value) (k : κ) (l' : List (κ × Value)), (Instr.mapEntry M (.map (some b)) (K.enc x)).run Try.prog w = .ok (.tuple #[u, .int .i64 (j : Int)]) (ChangeMaps.setBlock w b o) ∧ KvAt K (ChangeMaps.setBlock w b o) b l' ∧ l'[j]? = some (k, u) ∧
      ((l' = l ∧ K.eq x k = true) ∨ (l' = l ++ [(x, z)] ∧ k = x ∧ u = z ∧ j = l.length ∧ ∀ p ∈ l, K.eq x p.1 = false)) := by
  obtain ⟨es, h1, h2⟩ := h.at_
  have h3 := findKey_kv K w x l
  rw [← h2] at h3
  cases hf : kvPos K x l 0 with
  | none =>
    rw [hf] at h3
    refine ⟨.map (es.push ⟨K.enc x, z, l.length⟩) (l.length + 1), l.length, z, x, l ++ [(x, z)], ?_, ⟨⟨es.push ⟨K.enc x, z, l.length⟩, ?_, ?_⟩⟩, by simp, .inr ⟨rfl, rfl, rfl, rfl, kvPos_none K x l 0 hf⟩⟩
    · simp [Instr.mapEntry, run_underlying ht, MapKept.run_getObj_map h1, K.check, h3, hz, MapKept.run_setObj_map _ h1, Result.andThen, ChangeMaps.setBlock, goInt]
    · rw [kv_setBlock h1, List.length_append]
      rfl
    · rw [Array.toList_push, h2, kvE_append, Nat.zero_add]
      rfl
  | some p =>
    obtain ⟨j, u⟩ := p
    rw [hf] at h3
    obtain ⟨m, k, hj, hl, he⟩ := kvPos_some K x l 0 j u hf
    obtain rfl : j = m := by omega
    have hek := K.same x k he
    have hes : es[j]? = some ⟨K.enc k, u, 0 + j⟩ := by
      rw [← Array.getElem?_toList, h2, kvE_get, hl]
      rfl
    refine ⟨.map es l.length, j, u, k, l, ?_, ⟨⟨es, kv_setBlock h1, h2⟩⟩, hl, .inl ⟨rfl, he⟩⟩
    have hmod : es.modify j (fun e => { e with key := K.enc x }) = es := by
      apply Array.ext'
      rw [Array.toList_modify, h2]
      exact kvE_keep K l 0 j k u x hl hek.symm
    have hst := K.stays w x
    simp [Instr.mapEntry, run_underlying ht, MapKept.run_getObj_map h1, K.check, h3, MapKept.run_setObj_map _ h1, Result.andThen, ChangeMaps.setBlock, goInt, hes, ← hek, hst, hmod]
/-- A value stored at an entry. -/
theorem store_kv {w : World} {b : Nat} {l : List (κ × Value)} {M : TypeId} (h : KvAt K w b l) {j : Nat} {k : κ} {u : Value} (hl : l[j]? = some (k, u)) (v : Value) :
    ∃ o, (Instr.entryStore M (.map (some b)) (.int .i64 (j : Int)) v).run Try.prog w = .ok () (ChangeMaps.setBlock w b o) ∧ KvAt K (ChangeMaps.setBlock w b o) b (l.set j (k, v)) := by
  obtain ⟨es, h1, h2⟩ := h.at_
  have hj : j < l.length := (List.getElem?_eq_some_iff.1 hl).1
  have hidx : es.findIdx? (fun e => ((e.born : Nat) : Int) == ((j : Nat) : Int)) = some j := by
    rw [WideElems.findIdx_arr, h2]
    have hn : ((kvE K l 0).map (·.born)).Nodup := by
      have e : ∀ (l : List (κ × Value)) (i : Nat), (kvE K l i).map (·.born) = List.range' i l.length := fun l => by
        induction l with
        | nil => intro i; rfl
        | cons p l ih => intro i; rw [kvE, List.map_cons, ih, List.length_cons, List.range'_succ]
      rw [e]
      exact List.nodup_range'
    have h4 := WideElems.findIdx_born hn (j := j) (e0 := ⟨K.enc k, u, 0 + j⟩) (by rw [kvE_get, hl]; rfl)
    rw [Nat.zero_add] at h4
    exact h4
  refine ⟨.map (es.modify j fun e => { e with val := v }) l.length, ?_, ⟨⟨es.modify j fun e => { e with val := v }, ?_, ?_⟩⟩⟩
  · simp [Instr.entryStore, MapKept.run_getObj_map h1, asInt, asIntOf, hidx, MapKept.run_setObj_map _ h1, Result.andThen, ChangeMaps.setBlock]
  · rw [kv_setBlock h1, List.length_set]
  · rw [Array.toList_modify, h2]
    exact kvE_set K l 0 j k u v hl
end

theorem stays_agg (xs : Array Value) (h : ∀ v ∈ xs.toList, Instr.sameBits 9999 v v = true) (w : World) : (Instr.keyThatStays (.agg xs) (.agg xs)).run Try.prog w = .ok (.agg xs) w := by
  have hs : Instr.sameBits 10000 (.agg xs) (.agg xs) = true := by
    show Instr.sameBits (9999 + 1) (.agg xs) (.agg xs) = true
    simp only [Instr.sameBits, beq_self_eq_true, Bool.true_and, List.all_eq_true]
    intro p hp
    have e : ∀ l : List Value, ∀ p ∈ l.zip l, p.1 = p.2 ∧ p.1 ∈ l := by
      intro l
      induction l with
      | nil => intro p hp; cases hp
      | cons a l ih =>
        intro p hp
        rw [List.zip_cons_cons, List.mem_cons] at hp
        rcases hp with rfl | hp
        · exact ⟨rfl, List.mem_cons_self ..⟩
        · exact ⟨(ih p hp).1, List.mem_cons_of_mem _ (ih p hp).2⟩
    obtain ⟨h1, h2⟩ := e _ p hp
    rw [← h1]
    exact h _ h2
  simp [Instr.keyThatStays, hs]
theorem same_int (n : Nat) (k : IntKind) (x : Int) : Instr.sameBits (n + 1) (.int k x) (.int k x) = true := by simp [Instr.sameBits]
theorem run_equalIn_num (w : World) (d : Nat) (t : TypeId) (k : IntKind) (ht : Try.prog.underlying t = some (.int k)) (x y : Int) : (Op.equalIn (d + 1) t (.int k x) (.int k y)).run Try.prog w = .ok (x == y) w := by
  simp [Op.equalIn, run_underlying ht]

/-- A token. -/
def tokV (f : Nat → Int) : Value := .agg (rowArr 16 fun j => .int .u8 (f j))
set_option maxRecDepth 100000 in
theorem check_tok (w : World) (b : Bool) (f : Nat → Int) : (Instr.checkKey b 10000 27 (tokV f)).run Try.prog w = .ok () w := by kernel_rfl
theorem nil_tok (w : World) (f : Nat → Int) : (Instr.findKey 27 (tokV f) []).run Try.prog w = .ok none w := by kernel_rfl
theorem cons_tok (w : World) (f : Nat → Int) (e : MapEntry) (l : List MapEntry) : (Instr.findKey 27 (tokV f) (e :: l)).run Try.prog w = (Instr.findAsking 27 (tokV f) (e :: l) 0).run Try.prog w := by
  unfold Instr.findKey
  rw [Sem.run_bind, run_underlying Try.underlying27, Result.andThen_ok]
  rfl
def tokK : KeyK (Nat → Int) 27 where
  enc := tokV
  eq := arrB 16
  same a b h := by
    unfold arrB at h
    have h := of_decide_eq_true h
    unfold tokV
    congr 1
    exact rowArr_congr _ _ _ fun i hi => by rw [h i hi]
  run w a b := run_equalIn_arr w 9998 27 5 16 .u8 Try.underlying27 Try.underlying5 size_u8 a b
  check w e a := check_tok w e a
  stays w a := by
    unfold tokV
    refine stays_agg _ (fun v hv => ?_) w
    simp only [rowArr, List.toList_toArray, List.mem_map] at hv
    obtain ⟨j, _, rfl⟩ := hv
    exact same_int _ _ _
  nil_ := nil_tok
  cons := cons_tok

/-- A place. -/
def plV (p : Int × Int) : Value := .agg #[.int .i64 p.1, .int .u64 p.2]
set_option maxRecDepth 100000 in
theorem check_pl (w : World) (b : Bool) (p : Int × Int) : (Instr.checkKey b 10000 87 (plV p)).run Try.prog w = .ok () w := by kernel_rfl
theorem fields_pl : (Try.prog.fieldsOf 87).toList = [⟨"writer", 3, 0, false, "", "jalousie/item", 0⟩, ⟨"seq", 23, 1, false, "", "jalousie/item", 8⟩] := by kernel_rfl
theorem part_wr (w : World) (p : Int × Int) : (part 3 #[.int .i64 p.1, .int .u64 p.2] 0).run Try.prog w = .ok (.int .i64 p.1) w := by kernel_rfl
theorem part_sq (w : World) (p : Int × Int) : (part 23 #[.int .i64 p.1, .int .u64 p.2] 1).run Try.prog w = .ok (.int .u64 p.2) w := by kernel_rfl
theorem eq_pl (w : World) (d : Nat) (p q : Int × Int) : (Op.equalIn (d + 3) 87 (plV p) (plV q)).run Try.prog w = .ok (p.1 == q.1 && p.2 == q.2) w := by
  unfold plV
  rw [run_equalIn_struct w (d + 2) _ _ _ (by kernel_rfl) (by kernel_rfl), fields_pl]
  have h1 := run_equalIn_num w (d + 1) 3 .i64 Try.underlying3 p.1 q.1
  have h2 := run_equalIn_num w (d + 1) 23 .u64 Try.underlying23 p.2 q.2
  have n1 : ("writer" : String) ≠ "_" := by decide
  have n2 : ("seq" : String) ≠ "_" := by decide
  simp only [Op.eqFields, if_pos n1, if_pos n2, Sem.run_bind, part_wr, Result.andThen_ok, h1]
  cases (p.1 == q.1) with
  | true =>
    simp only [Bool.not_true, Bool.false_eq_true, if_false, Sem.run_bind, part_sq, Result.andThen_ok, h2, Bool.true_and]
    cases (p.2 == q.2) <;> rfl
  | false => simp
theorem nil_pl (w : World) (p : Int × Int) : (Instr.findKey 87 (plV p) []).run Try.prog w = .ok none w := by kernel_rfl
theorem cons_pl (w : World) (p : Int × Int) (e : MapEntry) (l : List MapEntry) : (Instr.findKey 87 (plV p) (e :: l)).run Try.prog w = (Instr.findAsking 87 (plV p) (e :: l) 0).run Try.prog w := by
  unfold Instr.findKey
  rw [Sem.run_bind, run_underlying Try.underlying87, Result.andThen_ok]
  rfl
def plK : KeyK (Int × Int) 87 where
  enc := plV
  eq p q := p.1 == q.1 && p.2 == q.2
  same a b h := by
    simp only [Bool.and_eq_true, beq_iff_eq] at h
    unfold plV
    rw [h.1, h.2]
  run w a b := eq_pl w 9997 a b
  check w e a := check_pl w e a
  stays w a := by
    unfold plV
    refine stays_agg _ (fun v hv => ?_) w
    simp only [List.mem_cons, List.not_mem_nil, or_false] at hv
    rcases hv with rfl | rfl
    · exact same_int _ _ _
    · exact same_int _ _ _
  nil_ := nil_pl
  cons := cons_pl

/-- A group: a token, and its rows as they lie. -/
structure Gp where
  key : Nat → Int
  a : Option Addr
  c : Nat
  rows : List Rw
def gpV (g : Gp) : Value := .slice g.a g.rows.length g.c
def gpE (g : Gp) : (Nat → Int) × Value := (g.key, gpV g)
structure GpAt (w : World) (B : Nat) (G : List Gp) : Prop where
  each : ∀ (i : Nat) (g : Gp), G[i]? = some g → w.ownsRow B 36 130 (gpV g) g.rows.length (rwsC g.rows)
  apart : ∀ (i j : Nat) (g h : Gp) (b : Nat), i ≠ j → G[i]? = some g → G[j]? = some h → (gpV g).ownBlock = some b → (gpV h).ownBlock ≠ some b
theorem GpAt.kept {w w' : World} {B : Nat} {G : List Gp} (h : GpAt w B G) {b : Nat} (hb : b < B) (hg : w.grownBy w' (some b)) : GpAt w' B G :=
  ⟨fun i g hi => (h.each i g hi).kept hg (.inr fun e => by have := ((h.each i g hi).lt b e).1; omega), h.apart⟩
theorem GpAt.ext {w w' : World} {B : Nat} {G : List Gp} (h : GpAt w B G) (he : Ext w w') : GpAt w' B G :=
  ⟨fun i g hi => (h.each i g hi).kept (grown_ext he none) (by generalize (gpV g).ownBlock = o; cases o <;> simp), h.apart⟩
theorem GpAt.new {w : World} {B : Nat} {G : List Gp} (h : GpAt w B G) (x : Nat → Int) : GpAt w B (G ++ [⟨x, none, 0, []⟩]) := by
  have hc : ∀ (i : Nat) (g : Gp), (G ++ [⟨x, none, 0, []⟩])[i]? = some g → G[i]? = some g ∨ g = ⟨x, none, 0, []⟩ := fun i g hi => by
    rcases Nat.lt_or_ge i G.length with q | q
    · rw [List.getElem?_append_left q] at hi
      exact .inl hi
    · rw [List.getElem?_append_right q] at hi
      refine .inr ?_
      cases hk : i - G.length with
      | zero => rw [hk] at hi; exact (Option.some.inj hi).symm
      | succ k => rw [hk] at hi; simp at hi
  refine ⟨fun i g hi => ?_, fun i j g k b hij hi hj hb => ?_⟩
  · rcases hc i g hi with q | rfl
    · exact h.each i g q
    · exact ⟨rfl, .inl ⟨rfl, rfl⟩⟩
  · rcases hc i g hi with q | rfl
    · rcases hc j k hj with q' | rfl
      · exact h.apart i j g k b hij q q' hb
      · exact fun e => by cases e
    · cases hb
theorem GpAt.put {w w' : World} {B : Nat} {G : List Gp} (h : GpAt w B G) {i : Nat} {g : Gp} (hi : G[i]? = some g) {v : Value} {r : Rw} (hown : w'.ownsRow B 36 130 v (g.rows.length + 1) (rwsC (g.rows ++ [r]))) (hg : w.grownBy w' (gpV g).ownBlock) (hv : v.ownBlock = (gpV g).ownBlock ∨ v.ownBlock = some w.heap.size) :
    ∃ a c, v = gpV ⟨g.key, a, c, g.rows ++ [r]⟩ ∧ GpAt w' B (G.set i ⟨g.key, a, c, g.rows ++ [r]⟩) := by
  obtain ⟨a, c, rfl⟩ := own_rwsl hown
  have hlen : (g.rows ++ [r]).length = g.rows.length + 1 := by simp
  refine ⟨a, c, by unfold gpV; rw [hlen], ?_⟩
  have hil : i < G.length := (List.getElem?_eq_some_iff.1 hi).1
  have hc : ∀ (j : Nat) (k : Gp), (G.set i ⟨g.key, a, c, g.rows ++ [r]⟩)[j]? = some k → (j = i ∧ k = ⟨g.key, a, c, g.rows ++ [r]⟩) ∨ (j ≠ i ∧ G[j]? = some k) := fun j k hj => by
    by_cases e : j = i
    · subst e
      rw [List.getElem?_set_self hil] at hj
      exact .inl ⟨rfl, (Option.some.inj hj).symm⟩
    · rw [List.getElem?_set_ne (Ne.symm e)] at hj
      exact .inr ⟨e, hj⟩
  have hother : ∀ (j : Nat) (k : Gp) (b : Nat), j ≠ i → G[j]? = some k → (gpV k).ownBlock = some b → (Value.slice a (g.rows.length + 1) c).ownBlock ≠ some b := fun j k b hji hj hb e => by
    have hlt := (h.each j k hj).lt b hb
    rcases hv with q | q
    · exact h.apart j i k g b hji hj hi hb (by rw [← q]; exact e)
    · rw [q] at e
      have := Option.some.inj e
      omega
  have hob : (gpV ⟨g.key, a, c, g.rows ++ [r]⟩).ownBlock = (Value.slice a (g.rows.length + 1) c).ownBlock := by unfold gpV; rw [hlen]
  refine ⟨fun j k hj => ?_, fun j j' k k' b hjj hj hj' hb => ?_⟩
  · rcases hc j k hj with ⟨rfl, rfl⟩ | ⟨hne, hj⟩
    · unfold gpV
      rw [hlen]
      exact hown
    · refine (h.each j k hj).kept hg ?_
      cases hb : (gpV k).ownBlock with
      | none => exact .inl rfl
      | some b => exact .inr fun e => h.apart j i k g b hne hj hi hb e.symm
  · rcases hc j k hj with ⟨rfl, rfl⟩ | ⟨hne, hj2⟩
    · rcases hc j' k' hj' with ⟨rfl, rfl⟩ | ⟨hne', hj3⟩
      · exact absurd rfl hjj
      · exact fun e => hother j' k' b hne' hj3 e (by rw [← hob]; exact hb)
    · rcases hc j' k' hj' with ⟨rfl, rfl⟩ | ⟨hne', hj3⟩
      · rw [hob]
        exact hother j k b hne hj2 hb
      · exact h.apart j j' k k' b hjj hj2 hj3 hb

/-- A row's place. -/
def rwPl (r : Rw) : Int × Int := (r.hd.1.writer, r.hd.1.seq)
/-- Whether a place was there. -/
def hasPl (r : Rw) (l : List Rw) : Bool := l.any fun q => plK.eq (rwPl r) (rwPl q)
/-- The rows that count, of the first k. -/
def cntN (l : List Rw) : Nat → List Rw
  | 0 => []
  | k + 1 => if rowB (rwAt l k) = true ∧ hasPl (rwAt l k) (cntN l k) = false then cntN l k ++ [rwAt l k] else cntN l k
theorem cntN_le (l : List Rw) : ∀ k, (cntN l k).length ≤ k
  | 0 => Nat.le_refl _
  | k + 1 => by
    have := cntN_le l k
    unfold cntN
    split
    · rw [List.length_append, List.length_singleton]
      omega
    · omega
def bnE (r : Rw) : (Int × Int) × Value := (rwPl r, .int .i64 1)
theorem kvPos_has (r : Rw) : ∀ (l : List Rw) (i : Nat), (hasPl r l = false → kvPos plK (rwPl r) (l.map bnE) i = none) ∧ (hasPl r l = true → ∃ j, kvPos plK (rwPl r) (l.map bnE) i = some (j, .int .i64 1))
  | [], i => ⟨fun _ => rfl, fun h => by cases h⟩
  | q :: l, i => by
    have ih := kvPos_has r l (i + 1)
    unfold hasPl at ih ⊢
    simp only [List.any_cons, List.map_cons, kvPos]
    cases hq : plK.eq (rwPl r) (rwPl q) with
    | true => simp [bnE, hq]
    | false => simpa [bnE, hq] using ih
theorem kvGet_has (r : Rw) (l : List Rw) : kvGet plK (rwPl r) (l.map bnE) (.int .i64 0) = .int .i64 (if hasPl r l = true then 1 else 0) := by
  have h := kvPos_has r l 0
  unfold kvGet
  cases hq : hasPl r l with
  | false => rw [h.1 hq]; rfl
  | true =>
    obtain ⟨j, e⟩ := h.2 hq
    rw [e]
    rfl

/-- What the groups say of the rows that count. -/
structure GpSays (G : List Gp) (cs : List Rw) : Prop where
  rows : ∀ (i : Nat) (g : Gp), G[i]? = some g → g.rows = cs.filter fun r => arrB 16 g.key r.hd.1.item
  keys : ∀ (i j : Nat) (g h : Gp), i ≠ j → G[i]? = some g → G[j]? = some h → arrB 16 g.key h.key = false
  all : ∀ r ∈ cs, ∃ (i : Nat) (g : Gp), G[i]? = some g ∧ arrB 16 g.key r.hd.1.item = true
  some_ : ∀ (i : Nat) (g : Gp), G[i]? = some g → 0 < g.rows.length

section
variable {w : World} {o : Oper} {ev : Operand → Value}
theorem rx_row {P : Program} {x : Operand} {T : TypeId} {g : Nat} {t : TypeId} {cs : Array Value} {fr : Nat × Nat} {d : TypeDesc} (ho : o.op = .load T x) (hx : ev x = .pointer (some ⟨g, 0, none⟩)) (hg : w.heap[g]? = some (.cells cs t fr))
    (hu : P.underlying T = some d) (hd : (match d with | .struct _ | .array _ _ => true | _ => false) = true) (hi : (P.info? T).map (·.size) = some cs.size) : (execOp ev o).run P w = .ok (.value (.agg cs)) w := by
  simp only [execOp, ho, hx, Instr.loadAt, Instr.sureAddr, Sem.run_bind, Sem.run_pure, Result.andThen_ok, run_loadVar_row w g t T cs fr d hg hu hd hi]
theorem rx_lookup {P : Program} {T : TypeId} {x y : Operand} {vx vy r : Value} (ho : o.op = .lookup T x y false) (hx : ev x = vx) (hy : ev y = vy) (h : (Instr.lookup T vx vy false).run P w = .ok r w) : (execOp ev o).run P w = .ok (.value r) w := by
  simp only [execOp, ho, hx, hy, Sem.run_bind, h, Result.andThen_ok, Sem.run_pure]
theorem rx_entry {P : Program} {T : TypeId} {x y : Operand} {vx vy r : Value} {w' : World} (ho : o.op = .mapEntry T x y) (hx : ev x = vx) (hy : ev y = vy) (h : (Instr.mapEntry T vx vy).run P w = .ok r w') : (execOp ev o).run P w = .ok (.value r) w' := by
  simp only [execOp, ho, hx, hy, Sem.run_bind, h, Result.andThen_ok, Sem.run_pure]
end
theorem wp_lookup0 {ops : Array Oper} {Q : Exit → Act → World → Prop} {rest : List Oper} {o : Oper} {a : Act} {w : World} (hw : Region.wanted o (yielded ops a.tmps) = true) (M : TypeId) (x y : Operand) (ho : o.op = .lookup M x y false) (vx vy r : Value) (hx : a.eval x = vx) (hy : a.eval y = vy)
    (hr : (Instr.lookup M vx vy false).run Try.prog w = .ok r w) (h : wpList Try.prog ops Q rest (a.put o.dst r) w) : wpList Try.prog ops Q (o :: rest) a w := by
  refine wpList_want hw fun K hK => ?_
  unfold Oper.wp execOp
  simp only [ho, hx, hy, Sem.run_bind, hr, Result.andThen_ok, Sem.run_pure]
  exact hK _ _ h
theorem wp_entry {ops : Array Oper} {Q : Exit → Act → World → Prop} {rest : List Oper} {o : Oper} {a : Act} {w : World} (hw : Region.wanted o (yielded ops a.tmps) = true) (M : TypeId) (x y : Operand) (ho : o.op = .mapEntry M x y) (vx vy r : Value) (w' : World) (hx : a.eval x = vx) (hy : a.eval y = vy)
    (hr : (Instr.mapEntry M vx vy).run Try.prog w = .ok r w') (h : wpList Try.prog ops Q rest (a.put o.dst r) w') : wpList Try.prog ops Q (o :: rest) a w := by
  refine wpList_want hw fun K hK => ?_
  unfold Oper.wp execOp
  simp only [ho, hx, hy, Sem.run_bind, hr, Result.andThen_ok, Sem.run_pure]
  exact hK _ _ h
theorem wp_estore {ops : Array Oper} {Q : Exit → Act → World → Prop} {rest : List Oper} {o : Oper} {a : Act} {w : World} (hw : Region.wanted o (yielded ops a.tmps) = true) (M : TypeId) (x y z : Operand) (ho : o.op = .entryStore M x y z) (vx vy vz : Value) (w' : World) (hx : a.eval x = vx) (hy : a.eval y = vy) (hz : a.eval z = vz)
    (hr : (Instr.entryStore M vx vy vz).run Try.prog w = .ok () w') (h : wpList Try.prog ops Q rest (a.put o.dst undef) w') : wpList Try.prog ops Q (o :: rest) a w := by
  refine wpList_want hw fun K hK => ?_
  unfold Oper.wp execOp
  simp only [ho, hx, hy, hz, Sem.run_bind, hr, Result.andThen_ok, Sem.run_pure]
  exact hK _ _ h

theorem grown_setBlock (w : World) (b : Nat) (o : Obj) : w.grownBy (ChangeMaps.setBlock w b o) (some b) := by
  refine ⟨rfl, rfl, rfl, by simp [ChangeMaps.setBlock], fun k _ hne => ?_⟩
  have : b ≠ k := fun e => hne (by rw [e])
  unfold ChangeMaps.setBlock
  rw [Array.getElem?_setIfInBounds_ne this]
theorem ext_grownNew {a b c : World} (h : Ext a b) {g : Nat} (hg : a.heap.size ≤ g) (k : b.grownBy c (some g)) : Ext a c :=
  h.trans' ⟨k.os, k.tape, k.output, k.size, fun i hi => k.block i (by have := Below.size h; omega) fun e => by have := Option.some.inj e; omega⟩

theorem arrB_symm {n : Nat} {f g : Nat → Int} (h : arrB n f g = true) : arrB n g f = true := by
  unfold arrB at h ⊢
  exact decide_eq_true fun j hj => (of_decide_eq_true h j hj).symm
theorem arrB_trans {n : Nat} {f g k : Nat → Int} (h : arrB n f g = true) (h' : arrB n g k = true) : arrB n f k = true := by
  unfold arrB at h h' ⊢
  exact decide_eq_true fun j hj => (of_decide_eq_true h j hj).trans (of_decide_eq_true h' j hj)
theorem arrB_refl (n : Nat) (f : Nat → Int) : arrB n f f = true := by
  unfold arrB
  exact decide_eq_true fun _ _ => rfl

/-- Where an entry is found, or laid. -/
def EntG (x : Nat → Int) (G G0 : List Gp) (j : Nat) (g : Gp) : Prop :=
  (G0 = G ∧ arrB 16 x g.key = true) ∨ (G0 = G ++ [⟨x, none, 0, []⟩] ∧ j = G.length ∧ g = ⟨x, none, 0, []⟩ ∧ ∀ (i : Nat) (h : Gp), G[i]? = some h → arrB 16 x h.key = false)
set_option maxRecDepth 100000 in
theorem zero_rws (w : World) : (zeroValue 22).run Try.prog w = .ok (.slice none 0 0) w := by kernel_rfl
set_option maxRecDepth 100000 in
theorem zero_i64 (w : World) : (zeroValue 3).run Try.prog w = .ok (.int .i64 0) w := by kernel_rfl
theorem entry_gp {w : World} {ob B : Nat} {G : List Gp} (hk : KvAt tokK w ob (G.map gpE)) (hG : GpAt w B G) (hob : ob < B) (x : Nat → Int) :
    ∃ (o : Obj) (j : Nat) (g : Gp) (G0 : List Gp), (Instr.mapEntry 65 (.map (some ob)) (tokV x)).run Try.prog w = .ok (.tuple #[gpV g, .int .i64 (j : Int)]) (ChangeMaps.setBlock w ob o) ∧ KvAt tokK (ChangeMaps.setBlock w ob o) ob (G0.map gpE) ∧ GpAt (ChangeMaps.setBlock w ob o) B G0 ∧ G0[j]? = some g ∧ EntG x G G0 j g := by
  obtain ⟨o, j, u, k, l', h1, h2, h3, h4⟩ := entry_kv (K := tokK) hk Try.underlying65 (zero_rws w) x
  rcases h4 with ⟨rfl, he⟩ | ⟨rfl, hkx, rfl, rfl, hno⟩
  · rw [List.getElem?_map] at h3
    cases hg : G[j]? with
    | none => rw [hg] at h3; cases h3
    | some g =>
      rw [hg] at h3
      have e := Option.some.inj h3
      unfold gpE at e
      have e1 := (Prod.mk.inj e).1
      have e2 := (Prod.mk.inj e).2
      refine ⟨o, j, g, G, ?_, h2, hG.kept hob (grown_setBlock w ob o), hg, .inl ⟨rfl, ?_⟩⟩
      · rw [e2]
        exact h1
      · rw [e1]
        exact he
  · have hkx := hkx.symm
    subst hkx
    refine ⟨o, G.length, ⟨x, none, 0, []⟩, G ++ [⟨x, none, 0, []⟩], ?_, ?_, (hG.kept hob (grown_setBlock w ob o)).new x, by simp, .inr ⟨rfl, rfl, rfl, fun i h hi => ?_⟩⟩
    · rw [List.length_map] at h1
      exact h1
    · rw [List.map_append]
      exact h2
    · exact hno _ (List.mem_of_getElem? (i := i) (by rw [List.getElem?_map, hi]; rfl))
theorem store_gp {w : World} {ob : Nat} {G0 : List Gp} (hk : KvAt tokK w ob (G0.map gpE)) {j : Nat} {g : Gp} (hj : G0[j]? = some g) (g' : Gp) (he : g'.key = g.key) :
    ∃ o, (Instr.entryStore 65 (.map (some ob)) (.int .i64 (j : Int)) (gpV g')).run Try.prog w = .ok () (ChangeMaps.setBlock w ob o) ∧ KvAt tokK (ChangeMaps.setBlock w ob o) ob ((G0.set j g').map gpE) := by
  obtain ⟨o, h1, h2⟩ := store_kv (K := tokK) (M := 65) hk (j := j) (k := g.key) (u := gpV g) (by rw [List.getElem?_map, hj]; rfl) (gpV g')
  refine ⟨o, h1, ?_⟩
  rw [List.map_set]
  have : gpE g' = (g.key, gpV g') := by unfold gpE; rw [he]
  rw [this]
  exact h2
/-- A row put into its group. -/
theorem GpSays.put {G : List Gp} {cs : List Rw} (h : GpSays G cs) {r : Rw} {G0 : List Gp} {j : Nat} {g : Gp} (hE : EntG r.hd.1.item G G0 j g) (hj : G0[j]? = some g) (a : Option Addr) (c : Nat) : GpSays (G0.set j ⟨g.key, a, c, g.rows ++ [r]⟩) (cs ++ [r]) := by
  have hgx : arrB 16 g.key r.hd.1.item = true := by
    rcases hE with ⟨_, e⟩ | ⟨_, _, rfl, _⟩
    · exact arrB_symm e
    · exact arrB_refl _ _
  have hjl : j < G0.length := (List.getElem?_eq_some_iff.1 hj).1
  have hc : ∀ (i : Nat) (k : Gp), (G0.set j ⟨g.key, a, c, g.rows ++ [r]⟩)[i]? = some k → (i = j ∧ k = ⟨g.key, a, c, g.rows ++ [r]⟩) ∨ (i ≠ j ∧ G[i]? = some k ∧ arrB 16 k.key g.key = false) := fun i k hi => by
    by_cases e : i = j
    · subst e
      rw [List.getElem?_set_self hjl] at hi
      exact .inl ⟨rfl, (Option.some.inj hi).symm⟩
    · rw [List.getElem?_set_ne (Ne.symm e)] at hi
      rcases hE with ⟨rfl, _⟩ | ⟨rfl, rfl, rfl, hno⟩
      · exact .inr ⟨e, hi, h.keys i j k g e hi hj⟩
      · have hil : i < G.length := by
          have := (List.getElem?_eq_some_iff.1 hi).1
          rw [List.length_append, List.length_singleton] at this
          omega
        rw [List.getElem?_append_left hil] at hi
        refine .inr ⟨e, hi, ?_⟩
        have := hno i k hi
        cases hq : arrB 16 k.key r.hd.1.item with
        | false => rfl
        | true => rw [arrB_symm hq] at this; cases this
  have hrows : g.rows = cs.filter fun q => arrB 16 g.key q.hd.1.item := by
    rcases hE with ⟨rfl, _⟩ | ⟨_, _, rfl, hno⟩
    · exact h.rows j g hj
    · symm
      rw [List.filter_eq_nil_iff]
      intro q hq hk
      obtain ⟨i, k, hi, hk'⟩ := h.all q hq
      have := hno i k hi
      rw [arrB_trans hk (arrB_symm hk')] at this
      cases this
  refine ⟨fun i k hi => ?_, fun i i' k k' hii hi hi' => ?_, fun q hq => ?_, fun i k hi => ?_⟩
  · rcases hc i k hi with ⟨rfl, rfl⟩ | ⟨hne, hi, hk⟩
    · rw [List.filter_append, ← hrows]
      simp [hgx]
    · have hf : arrB 16 k.key r.hd.1.item = false := by
        cases hq : arrB 16 k.key r.hd.1.item with
        | false => rfl
        | true => rw [arrB_trans hq (arrB_symm hgx)] at hk; cases hk
      rw [List.filter_append, ← h.rows i k hi]
      simp [hf]
  · rcases hc i k hi with ⟨rfl, rfl⟩ | ⟨hne, hi, hk⟩
    · rcases hc i' k' hi' with ⟨rfl, rfl⟩ | ⟨hne', hi2, hk'⟩
      · exact absurd rfl hii
      · cases hq : arrB 16 g.key k'.key with
        | false => rfl
        | true => rw [arrB_symm hq] at hk'; cases hk'
    · rcases hc i' k' hi' with ⟨rfl, rfl⟩ | ⟨hne', hi2, hk'⟩
      · exact hk
      · exact h.keys i i' k k' hii hi hi2
  · have hold : ∀ (i : Nat) (k : Gp), G[i]? = some k → i ≠ j → (G0.set j ⟨g.key, a, c, g.rows ++ [r]⟩)[i]? = some k := fun i k hi hne => by
      rw [List.getElem?_set_ne (Ne.symm hne)]
      rcases hE with ⟨rfl, _⟩ | ⟨rfl, _, _, _⟩
      · exact hi
      · rw [List.getElem?_append_left (List.getElem?_eq_some_iff.1 hi).1]
        exact hi
    rw [List.mem_append, List.mem_singleton] at hq
    rcases hq with hq | rfl
    · obtain ⟨i, k, hi, hk⟩ := h.all q hq
      by_cases e : i = j
      · subst e
        rcases hE with ⟨rfl, _⟩ | ⟨rfl, rfl, rfl, _⟩
        · rw [hj] at hi
          obtain rfl := Option.some.inj hi
          exact ⟨i, ⟨g.key, a, c, g.rows ++ [r]⟩, by rw [List.getElem?_set_self hjl], hk⟩
        · have := (List.getElem?_eq_some_iff.1 hi).1
          omega
      · exact ⟨i, k, hold i k hi e, hk⟩
    · exact ⟨j, ⟨g.key, a, c, g.rows ++ [q]⟩, by rw [List.getElem?_set_self hjl], hgx⟩
  · rcases hc i k hi with ⟨rfl, rfl⟩ | ⟨hne, hi, hk⟩
    · simp
    · exact h.some_ i k hi

/-- The rows of a token. -/
def ofTok (x : Nat → Int) (cs : List Rw) : List Rw := cs.filter fun r => arrB 16 x r.hd.1.item
theorem look_gp {w : World} {ob B : Nat} {G : List Gp} {cs : List Rw} (hk : KvAt tokK w ob (G.map gpE)) (hG : GpAt w B G) (hs : GpSays G cs) (x : Nat → Int) :
    ∃ a c, (Instr.lookup 65 (.map (some ob)) (tokV x) false).run Try.prog w = .ok (.slice a (ofTok x cs).length c) w ∧ w.ownsRow B 36 130 (.slice a (ofTok x cs).length c) (ofTok x cs).length (rwsC (ofTok x cs)) := by
  have h1 := lookup_kv (K := tokK) hk Try.underlying65 (zero_rws w) x
  unfold kvGet at h1
  cases hp : kvPos tokK x (G.map gpE) 0 with
  | none =>
    rw [hp] at h1
    have hno := kvPos_none tokK x (G.map gpE) 0 hp
    have he : ofTok x cs = [] := by
      unfold ofTok
      rw [List.filter_eq_nil_iff]
      intro r hr hx
      obtain ⟨i, g, hi, hg⟩ := hs.all r hr
      have := hno (gpE g) (List.mem_of_getElem? (i := i) (by rw [List.getElem?_map, hi]; rfl))
      have h2 : arrB 16 x g.key = true := arrB_trans hx (arrB_symm hg)
      have h3 : tokK.eq x (gpE g).1 = true := h2
      rw [h3] at this
      cases this
    rw [he]
    exact ⟨none, 0, h1, rfl, .inl ⟨rfl, rfl⟩⟩
  | some p =>
    obtain ⟨j, v⟩ := p
    rw [hp] at h1
    obtain ⟨m, k, hj, hl, he⟩ := kvPos_some tokK x (G.map gpE) 0 j v hp
    rw [List.getElem?_map] at hl
    cases hg : G[m]? with
    | none => rw [hg] at hl; cases hl
    | some g =>
      rw [hg] at hl
      have e := Option.some.inj hl
      unfold gpE at e
      have e1 := (Prod.mk.inj e).1
      have e2 := (Prod.mk.inj e).2
      have hx : arrB 16 x g.key = true := by rw [e1]; exact he
      have hr : g.rows = ofTok x cs := by
        rw [hs.rows m g hg]
        unfold ofTok
        refine List.filter_congr fun r _ => ?_
        cases hq : arrB 16 x r.hd.1.item with
        | true => exact arrB_trans (arrB_symm hx) hq
        | false =>
          cases hq' : arrB 16 g.key r.hd.1.item with
          | false => rfl
          | true => rw [arrB_trans hx hq'] at hq; cases hq
      have ho := hG.each m g hg
      unfold gpV at e2 ho
      rw [hr] at e2 ho
      refine ⟨g.a, g.c, ?_, ho⟩
      rw [e2]
      exact h1

/-- What is known on the way. -/
structure PtSt (w wr : World) (ob : Nat) (l : List Rw) (k : Nat) (G : List Gp) : Prop where
  ext : Ext w wr
  out : KvAt tokK wr ob (G.map gpE)
  been : KvAt plK wr (ob + 1) ((cntN l k).map bnE)
  gps : GpAt wr (ob + 2) G
  says : GpSays G (cntN l k)
theorem PtSt.skip {w wr wr' : World} {ob : Nat} {l : List Rw} {k : Nat} {G : List Gp} (h : PtSt w wr ob l k G) (he : Ext wr wr') (hb : ¬ (rowB (rwAt l k) = true ∧ hasPl (rwAt l k) (cntN l k) = false)) : PtSt w wr' ob l (k + 1) G := by
  have e : cntN l (k + 1) = cntN l k := by
    show (if _ then _ else _) = _
    rw [if_neg hb]
  exact ⟨h.ext.trans he, h.out.ext he, by rw [e]; exact h.been.ext he, h.gps.ext he, by rw [e]; exact h.says⟩
theorem PtSt.start (w : World) (l : List Rw) : PtSt w ((w.alloc (.map #[] 0)).alloc (.map #[] 0)) w.heap.size l 0 [] := by
  have h1 : ((w.alloc (.map #[] 0)).alloc (.map #[] 0)).heap[w.heap.size]? = some (.map #[] 0) := Ext.keep ((Ext.refl (w.alloc (.map #[] 0))).alloc _) (heap_new w _ _ rfl)
  have h2 : ((w.alloc (.map #[] 0)).alloc (.map #[] 0)).heap[w.heap.size + 1]? = some (.map #[] 0) := heap_new _ _ _ (by simp)
  exact ⟨((Ext.refl w).alloc _).alloc _, ⟨⟨#[], h1, rfl⟩⟩, ⟨⟨#[], h2, rfl⟩⟩, ⟨fun i g hi => by simp at hi, fun i j g h b _ hi => by simp at hi⟩, ⟨fun i g hi => by simp at hi, fun i j g h _ hi => by simp at hi, fun r hr => (by cases hr), fun i g hi => by simp at hi⟩⟩

/-- While a place is noted: the map of places ahead of its entry and behind it. -/
structure PtC (y : World) (bb : Nat) (bl : List ((Int × Int) × Value)) (p : Int × Int) (ph : Bool) (w : World) : Prop where
  grown : y.grownBy w (some bb)
  been : KvAt plK w bb (if ph = true then bl ++ [(p, .int .i64 0)] else bl)
theorem PtC.ext {y w w' : World} {bb : Nat} {bl : List ((Int × Int) × Value)} {p : Int × Int} {ph : Bool} (h : PtC y bb bl p ph w) (he : Ext w w') : PtC y bb bl p ph w' := ⟨grown_trans h.grown (grown_ext he _), h.been.ext he⟩
theorem kvPos_new {p : Int × Int} {v : Value} : ∀ (bl : List ((Int × Int) × Value)) (i : Nat), (∀ q ∈ bl, plK.eq p q.1 = false) → kvPos plK p bl i = none ∧ ∃ j, kvPos plK p (bl ++ [(p, v)]) i = some (j, v)
  | [], i, _ => ⟨rfl, i, by
    have : plK.eq p p = true := by simp [plK]
    simp [kvPos, this]⟩
  | q :: bl, i, h => by
    have h1 := h q (List.mem_cons_self ..)
    have ih := kvPos_new (v := v) bl (i + 1) fun q' hq => h q' (List.mem_cons_of_mem _ hq)
    simpa [kvPos, h1] using ih
theorem PtC.lookup {y w : World} {bb : Nat} {bl : List ((Int × Int) × Value)} {p : Int × Int} {ph : Bool} (h : PtC y bb bl p ph w) (hno : ∀ q ∈ bl, plK.eq p q.1 = false) :
    (Instr.lookup 85 (.map (some bb)) (plV p) false).run Try.prog w = .ok (.int .i64 0) w := by
  have h1 := lookup_kv (K := plK) h.been Try.underlying85 (zero_i64 w) p
  have h2 := kvPos_new (v := .int .i64 0) bl 0 hno
  cases ph with
  | false =>
    unfold kvGet at h1
    simp only [Bool.false_eq_true, if_false] at h1
    rw [h2.1] at h1
    exact h1
  | true =>
    obtain ⟨j, e⟩ := h2.2
    unfold kvGet at h1
    simp only [if_true] at h1
    rw [e] at h1
    exact h1
theorem PtC.entry {y w : World} {bb : Nat} {bl : List ((Int × Int) × Value)} {p : Int × Int} (h : PtC y bb bl p false w) (hno : ∀ q ∈ bl, plK.eq p q.1 = false) :
    ∃ w', (Instr.mapEntry 85 (.map (some bb)) (plV p)).run Try.prog w = .ok (.tuple #[.int .i64 0, .int .i64 (bl.length : Int)]) w' ∧ PtC y bb bl p true w' := by
  obtain ⟨o, j, u, k, l', h1, h2, h3, h4⟩ := entry_kv (K := plK) h.been Try.underlying85 (zero_i64 w) p
  simp only [Bool.false_eq_true, if_false] at h4
  rcases h4 with ⟨rfl, he⟩ | ⟨rfl, hkx, rfl, rfl, _⟩
  · have := hno _ (List.mem_of_getElem? h3)
    rw [he] at this
    cases this
  · exact ⟨_, h1, grown_trans h.grown (grown_setBlock w bb o), h2⟩
theorem PtC.store {y w : World} {bb : Nat} {bl : List ((Int × Int) × Value)} {p : Int × Int} (h : PtC y bb bl p true w) :
    ∃ w', (Instr.entryStore 85 (.map (some bb)) (.int .i64 (bl.length : Int)) (.int .i64 1)).run Try.prog w = .ok () w' ∧ y.grownBy w' (some bb) ∧ KvAt plK w' bb (bl ++ [(p, .int .i64 1)]) := by
  obtain ⟨o, h1, h2⟩ := store_kv (K := plK) (M := 85) (l := bl ++ [(p, .int .i64 0)]) h.been (j := bl.length) (k := p) (u := .int .i64 0) (by simp) (.int .i64 1)
  refine ⟨_, h1, grown_trans h.grown (grown_setBlock w bb o), ?_⟩
  simpa using h2

section
variable {w : World} {o : Oper} {ev : Operand → Value}
theorem lx_row {P : Program} {x : Operand} {T : TypeId} {g : Nat} {t : TypeId} {cs : Array Value} {fr : Nat × Nat} {d : TypeDesc} (ho : o.op = .load T x) (hx : ev x = .pointer (some ⟨g, 0, none⟩)) (hg : w.heap[g]? = some (.cells cs t fr))
    (hu : P.underlying T = some d) (hd : (match d with | .struct _ | .array _ _ => true | _ => false) = true) (hi : (P.info? T).map (·.size) = some cs.size) : lexUpon P w (.ex (.agg cs)) ((execOp ev o).run P w) := by
  rw [rx_row ho hx hg hu hd hi]
  exact ⟨Ext.refl _, rfl⟩
theorem lx_lookup {P : Program} {T : TypeId} {x y : Operand} {vx vy r : Value} (ho : o.op = .lookup T x y false) (hx : ev x = vx) (hy : ev y = vy) (h : (Instr.lookup T vx vy false).run P w = .ok r w) : lexUpon P w (.ex r) ((execOp ev o).run P w) := by
  rw [rx_lookup ho hx hy h]
  exact ⟨Ext.refl _, rfl⟩
theorem lx_entry {P : Program} {C : World → Prop} {T : TypeId} {x y : Operand} {vx vy r : Value} (ho : o.op = .mapEntry T x y) (hx : ev x = vx) (hy : ev y = vy) (h : ∃ w', (Instr.mapEntry T vx vy).run P w = .ok r w' ∧ C w') : lexUponC P C (fun _ _ => True) w (.ex r) ((execOp ev o).run P w) := by
  obtain ⟨w', h1, h2⟩ := h
  rw [rx_entry ho hx hy h1]
  exact ⟨h2, trivial, rfl⟩
end

theorem wp_extract {ops : Array Oper} {Q : Exit → Act → World → Prop} {rest : List Oper} {o : Oper} {a : Act} {w : World} (hw : Region.wanted o (yielded ops a.tmps) = true) (x : Operand) (i : Nat) (ho : o.op = .extract x i) (vs : Array Value) (v : Value) (hx : a.eval x = .tuple vs) (hv : vs[i]? = some v)
    (h : wpList Try.prog ops Q rest (a.put o.dst v) w) : wpList Try.prog ops Q (o :: rest) a w := by
  refine wpList_want hw fun K hK => ?_
  unfold Oper.wp execOp
  simp only [ho, hx, Instr.extract, hv, Sem.run_bind, Sem.run_pure, Result.andThen_ok]
  exact hK _ _ h

/-- What putting a row into its group does. -/
def PutR (w y : World) (S q : Nat) (l : List Rw) (k : Nat) (x : Rw) : Prop :=
  ∃ (y1 : World) (j : Nat) (g : Gp), (Instr.mapEntry 65 (.map (some S)) (tokV x.hd.1.item)).run Try.prog y = .ok (.tuple #[gpV g, .int .i64 (j : Int)]) y1 ∧ y1.ownsRow (S + 2) 36 130 (gpV g) g.rows.length (rwsC g.rows) ∧
    (∀ i, i < 130 → y1.cell? ⟨q, i, none⟩ = some (rwC x i)) ∧ g.rows.length ≤ 1000000 ∧ S + 2 ≤ y1.heap.size ∧
    ∀ (v : Value) (y2 : World), y2.ownsRow (S + 2) 36 130 v (g.rows.length + 1) (rwsC (g.rows ++ [x])) → y1.grownBy y2 (gpV g).ownBlock → (v.ownBlock = (gpV g).ownBlock ∨ v.ownBlock = some y1.heap.size) →
      ∃ y3, (Instr.entryStore 65 (.map (some S)) (.int .i64 (j : Int)) v).run Try.prog y2 = .ok () y3 ∧ ∃ G', PtSt w y3 S l (k + 1) G'
theorem put_row {w y : World} {S q : Nat} {l : List Rw} {k : Nat} {G : List Gp} {x : Rw} (hE : Ext w y) (hS : w.heap.size ≤ S) (hout : KvAt tokK y S (G.map gpE)) (hbeen : KvAt plK y (S + 1) ((cntN l (k + 1)).map bnE)) (hgps : GpAt y (S + 2) G) (hsays : GpSays G (cntN l k))
    (hnext : cntN l (k + 1) = cntN l k ++ [x]) (hq : y.heap[q]? = some (.cells (rwV x) 36 (0, 0))) (hqS : q ≠ S) (hk : k ≤ 100000) : PutR w y S q l k x := by
  have hsz : S + 1 < y.heap.size := hbeen.lt
  obtain ⟨o, j, g, G0, h1, h2, h3, h4, h5⟩ := entry_gp hout hgps (by omega) x.hd.1.item
  have hgr := grown_setBlock y S o
  have hql := (Array.getElem?_eq_some_iff.1 hq).1
  have hrl : g.rows.length ≤ k := by
    have h6 := cntN_le l k
    rcases h5 with ⟨rfl, _⟩ | ⟨_, _, rfl, _⟩
    · rw [hsays.rows j g h4]
      exact Nat.le_trans (List.length_filter_le _ _) h6
    · exact Nat.zero_le _
  refine ⟨ChangeMaps.setBlock y S o, j, g, h1, h3.each j g h4, fun i hi => ?_, by omega, by have := hgr.size; omega, fun v y2 hown hg hv => ?_⟩
  · have hb := hgr.block q hql (fun e => hqS (Option.some.inj e))
    exact row_cell (hb.trans hq) i hi
  · obtain ⟨a, c, rfl, hput⟩ := h3.put h4 hown hg hv
    have hblk : ∀ z, z < S + 2 → z < y.heap.size → y2.heap[z]? = (ChangeMaps.setBlock y S o).heap[z]? := fun z hz hzl => hg.block z (Nat.lt_of_lt_of_le hzl hgr.size) fun e => by
      have := ((h3.each j g h4).lt z e.symm).1
      omega
    have hkv : KvAt tokK y2 S (G0.map gpE) := h2.same (hblk S (by omega) (by omega))
    obtain ⟨o', h6, h7⟩ := store_gp hkv h4 ⟨g.key, a, c, g.rows ++ [x]⟩ rfl
    have hgr2 := grown_setBlock y2 S o'
    have hszs := hg.size
    have hszr := hgr.size
    refine ⟨_, h6, G0.set j ⟨g.key, a, c, g.rows ++ [x]⟩, ⟨?_, h7, ?_, hput.kept (by omega) hgr2, ?_⟩⟩
    · have e1 := ext_grownNew hE hS hgr
      refine e1.trans' ⟨hgr2.os.trans hg.os, hgr2.tape.trans hg.tape, hgr2.output.trans hg.output, Nat.le_trans hg.size hgr2.size, fun i hi => ?_⟩
      rw [hgr2.block i (by have := Below.size e1; omega) (fun e => by have := Option.some.inj e; omega), hblk i (by omega) (by have := Below.size hE; omega)]
    · refine hbeen.same ?_
      rw [hgr2.block (S + 1) (by omega) (fun e => by have := Option.some.inj e; omega), hblk (S + 1) (by omega) hsz, hgr.block (S + 1) hsz (fun e => by have := Option.some.inj e; omega)]
    · rw [hnext]
      exact hsays.put h5 h4 a c

end Go.Proofs.Ytldaligeckjhaaa
