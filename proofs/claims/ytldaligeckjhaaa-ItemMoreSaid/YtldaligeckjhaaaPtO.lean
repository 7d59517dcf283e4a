/-
  Rows parted by their tokens: the groups as they lie in a map, and what they say. No conditions.
  A map's operations as steps of a walk; an entry of the groups asked for and stored; what the groups say then. No conditions.
-/
import Derived.Test.YtldaligeckjhaaaKvI
import Derived.Test.YtldaligeckjhaaaRwA
import Derived.Test.YtldaligeckjhaaaRwF
import Derived.Test.YtldaligeckjhaaaLexGd
namespace Go.Proofs.Ytldaligeckjhaaa
open Go.ChangeAt Go.ChangeShapes Go.RowKit Go.WideShapes

/-- A group: a token, and its rows as they lie. -/
structure Gp where
  key : Nat → Int
  a : Option Addr
  c : Nat
  rows : List Rw
def gpV (g : Gp) : Value := .slice g.a g.rows.length g.c
def gpE (g : Gp) : (Nat → Int) × Value := (g.key, gpV g)
structure GpAt (w : World) (B : Nat) (G : List Gp) : Prop where
  each : ∀ (i : Nat) (g : Gp), G[i]? = some g → w.ownsRow B 36 130 (gpV g) g.rows.length (rwsC g.rows)
  apart : ∀ (i j : Nat) (g h : Gp) (b : Nat), i ≠ j → G[i]? = some g → G[j]? = some h → (gpV g).ownBlock = some b → (gpV h).ownBlock ≠ some b
theorem GpAt.kept {w w' : World} {B : Nat} {G : List Gp} (h : GpAt w B G) {b : Nat} (hb : b < B) (hg : w.grownBy w' (some b)) : GpAt w' B G :=
  ⟨fun i g hi => (h.each i g hi).kept hg (.inr fun e => by have := ((h.each i g hi).lt b e).1; omega), h.apart⟩
theorem GpAt.ext {w w' : World} {B : Nat} {G : List Gp} (h : GpAt w B G) (he : Ext w w') : GpAt w' B G :=
  ⟨fun i g hi => (h.each i g hi).kept (grown_ext he none) (by generalize (gpV g).ownBlock = o; cases o <;> simp), h.apart⟩
theorem GpAt.new {w : World} {B : Nat} {G : List Gp} (h : GpAt w B G) (x : Nat → Int) : GpAt w B (G ++ [⟨x, none, 0, []⟩]) := by
  have hc : ∀ (i : Nat) (g : Gp), (G ++ [⟨x, none, 0, []⟩])[i]? = some g → G[i]? = some g ∨ g = ⟨x, none, 0, []⟩ := fun i g hi => by
    rcases Nat.lt_or_ge i G.length with q | q
    · rw [List.getElem?_append_left q] at hi
      exact .inl hi
    · rw [List.getElem?_append_right q] at hi
      refine .inr ?_
      cases hk : i - G.length with
      | zero => rw [hk] at hi; exact (Option.some.inj hi).symm
      | succ k => rw [hk] at hi; simp at hi
  refine ⟨fun i g hi => ?_, fun i j g k b hij hi hj hb => ?_⟩
  · rcases hc i g hi with q | rfl
    · exact h.each i g q
    · exact ⟨rfl, .inl ⟨rfl, rfl⟩⟩
  · rcases hc i g hi with q | rfl
    · rcases hc j k hj with q' | rfl
      · exact h.apart i j g k b hij q q' hb
      · exact fun e => by cases e
    · cases hb
theorem GpAt.put {w w' : World} {B : Nat} {G : List Gp} (h : GpAt w B G) {i : Nat} {g : Gp} (hi : G[i]? = some g) {v : Value} {r : Rw} (hown : w'.ownsRow B 36 130 v (g.rows.length + 1) (rwsC (g.rows ++ [r]))) (hg : w.grownBy w' (gpV g).ownBlock) (hv : v.ownBlock = (gpV g).ownBlock ∨ v.ownBlock = some w.heap.size) :
    ∃ a c, v = gpV ⟨g.key, a, c, g.rows ++ [r]⟩ ∧ GpAt w' B (G.set i ⟨g.key, a, c, g.rows ++ [r]⟩) := by
  obtain ⟨a, c, rfl⟩ := own_rwsl hown
  have hlen : (g.rows ++ [r]).length = g.rows.length + 1 := by simp
  refine ⟨a, c, by unfold gpV; rw [hlen], ?_⟩
  have hil : i < G.length := (List.getElem?_eq_some_iff.1 hi).1
  have hc : ∀ (j : Nat) (k : Gp), (G.set i ⟨g.key, a, c, g.rows ++ [r]⟩)[j]? = some k → (j = i ∧ k = ⟨g.key, a, c, g.rows ++ [r]⟩) ∨ (j ≠ i ∧ G[j]? = some k) := fun j k hj => by
    by_cases e : j = i
    · subst e
      rw [List.getElem?_set_self hil] at hj
      exact .inl ⟨rfl, (Option.some.inj hj).symm⟩
    · rw [List.getElem?_set_ne (Ne.symm e)] at hj
      exact .inr ⟨e, hj⟩
  have hother : ∀ (j : Nat) (k : Gp) (b : Nat), j ≠ i → G[j]? = some k → (gpV k).ownBlock = some b → (Value.slice a (g.rows.length + 1) c).ownBlock ≠ some b := fun j k b hji hj hb e => by
    have hlt := (h.each j k hj).lt b hb
    rcases hv with q | q
    · exact h.apart j i k g b hji hj hi hb (by rw [← q]; exact e)
    · rw [q] at e
      have := Option.some.inj e
      omega
  have hob : (gpV ⟨g.key, a, c, g.rows ++ [r]⟩).ownBlock = (Value.slice a (g.rows.length + 1) c).ownBlock := by unfold gpV; rw [hlen]
  refine ⟨fun j k hj => ?_, fun j j' k k' b hjj hj hj' hb => ?_⟩
  · rcases hc j k hj with ⟨rfl, rfl⟩ | ⟨hne, hj⟩
    · unfold gpV
      rw [hlen]
      exact hown
    · refine (h.each j k hj).kept hg ?_
      cases hb : (gpV k).ownBlock with
      | none => exact .inl rfl
      | some b => exact .inr fun e => h.apart j i k g b hne hj hi hb e.symm
  · rcases hc j k hj with ⟨rfl, rfl⟩ | ⟨hne, hj2⟩
    · rcases hc j' k' hj' with ⟨rfl, rfl⟩ | ⟨hne', hj3⟩
      · exact absurd rfl hjj
      · exact fun e => hother j' k' b hne' hj3 e (by rw [← hob]; exact hb)
    · rcases hc j' k' hj' with ⟨rfl, rfl⟩ | ⟨hne', hj3⟩
      · rw [hob]
        exact hother j k b hne hj2 hb
      · exact h.apart j j' k k' b hjj hj2 hj3 hb

/-- A row's place. -/
def rwPl (r : Rw) : Int × Int := (r.hd.1.writer, r.hd.1.seq)
/-- Whether a place was there. -/
def hasPl (r : Rw) (l : List Rw) : Bool := l.any fun q => plK.eq (rwPl r) (rwPl q)
/-- The rows that count, of the first k. -/
def cntN (l : List Rw) : Nat → List Rw
  | 0 => []
  | k + 1 => if rowB (rwAt l k) = true ∧ hasPl (rwAt l k) (cntN l k) = false then cntN l k ++ [rwAt l k] else cntN l k
theorem cntN_le (l : List Rw) : ∀ k, (cntN l k).length ≤ k
  | 0 => Nat.le_refl _
  | k + 1 => by
    have := cntN_le l k
    unfold cntN
    split
    · rw [List.length_append, List.length_singleton]
      omega
    · omega
def bnE (r : Rw) : (Int × Int) × Value := (rwPl r, .int .i64 1)
theorem kvPos_has (r : Rw) : ∀ (l : List Rw) (i : Nat), (hasPl r l = false → kvPos plK (rwPl r) (l.map bnE) i = none) ∧ (hasPl r l = true → ∃ j, kvPos plK (rwPl r) (l.map bnE) i = some (j, .int .i64 1))
  | [], i => ⟨fun _ => rfl, fun h => by cases h⟩
  | q :: l, i => by
    have ih := kvPos_has r l (i + 1)
    unfold hasPl at ih ⊢
    simp only [List.any_cons, List.map_cons, kvPos]
    cases hq : plK.eq (rwPl r) (rwPl q) with
    | true => simp [bnE, hq]
    | false => simpa [bnE, hq] using ih
theorem kvGet_has (r : Rw) (l : List Rw) : kvGet plK (rwPl r) (l.map bnE) (.int .i64 0) = .int .i64 (if hasPl r l = true then 1 else 0) := by
  have h := kvPos_has r l 0
  unfold kvGet
  cases hq : hasPl r l with
  | false => rw [h.1 hq]; rfl
  | true =>
    obtain ⟨j, e⟩ := h.2 hq
    rw [e]
    rfl

/-- What the groups say of the rows that count. -/
structure GpSays (G : List Gp) (cs : List Rw) : Prop where
  rows : ∀ (i : Nat) (g : Gp), G[i]? = some g → g.rows = cs.filter fun r => arrB 16 g.key r.hd.1.item
  keys : ∀ (i j : Nat) (g h : Gp), i ≠ j → G[i]? = some g → G[j]? = some h → arrB 16 g.key h.key = false
  all : ∀ r ∈ cs, ∃ (i : Nat) (g : Gp), G[i]? = some g ∧ arrB 16 g.key r.hd.1.item = true
  some_ : ∀ (i : Nat) (g : Gp), G[i]? = some g → 0 < g.rows.length

section
variable {w : World} {o : Oper} {ev : Operand → Value}
theorem rx_row {P : Program} {x : Operand} {T : TypeId} {g : Nat} {t : TypeId} {cs : Array Value} {fr : Nat × Nat} {d : TypeDesc} (ho : o.op = .load T x) (hx : ev x = .pointer (some ⟨g, 0, none⟩)) (hg : w.heap[g]? = some (.cells cs t fr))
    (hu : P.underlying T = some d) (hd : (match d with | .struct _ | .array _ _ => true | _ => false) = true) (hi : (P.info? T).map (·.size) = some cs.size) : (execOp ev o).run P w = .ok (.value (.agg cs)) w := by
  simp only [execOp, ho, hx, Instr.loadAt, Instr.sureAddr, Sem.run_bind, Sem.run_pure, Result.andThen_ok, run_loadVar_row w g t T cs fr d hg hu hd hi]
theorem rx_lookup {P : Program} {T : TypeId} {x y : Operand} {vx vy r : Value} (ho : o.op = .lookup T x y false) (hx : ev x = vx) (hy : ev y = vy) (h : (Instr.lookup T vx vy false).run P w = .ok r w) : (execOp ev o).run P w = .ok (.value r) w := by
  simp only [execOp, ho, hx, hy, Sem.run_bind, h, Result.andThen_ok, Sem.run_pure]
theorem rx_entry {P : Program} {T : TypeId} {x y : Operand} {vx vy r : Value} {w' : World} (ho : o.op = .mapEntry T x y) (hx : ev x = vx) (hy : ev y = vy) (h : (Instr.mapEntry T vx vy).run P w = .ok r w') : (execOp ev o).run P w = .ok (.value r) w' := by
  simp only [execOp, ho, hx, hy, Sem.run_bind, h, Result.andThen_ok, Sem.run_pure]
end
theorem wp_lookup0 {ops : Array Oper} {Q : Exit → Act → World → Prop} {rest : List Oper} {o : Oper} {a : Act} {w : World} (hw : Region.wanted o (yielded ops a.tmps) = true) (M : TypeId) (x y : Operand) (ho : o.op = .lookup M x y false) (vx vy r : Value) (hx : a.eval x = vx) (hy : a.eval y = vy)
    (hr : (Instr.lookup M vx vy false).run Try.prog w = .ok r w) (h : wpList Try.prog ops Q rest (a.put o.dst r) w) : wpList Try.prog ops Q (o :: rest) a w := by
  refine wpList_want hw fun K hK => ?_
  unfold Oper.wp execOp
  simp only [ho, hx, hy, Sem.run_bind, hr, Result.andThen_ok, Sem.run_pure]
  exact hK _ _ h
theorem wp_entry {ops : Array Oper} {Q : Exit → Act → World → Prop} {rest : List Oper} {o : Oper} {a : Act} {w : World} (hw : Region.wanted o (yielded ops a.tmps) = true) (M : TypeId) (x y : Operand) (ho : o.op = .mapEntry M x y) (vx vy r : Value) (w' : World) (hx : a.eval x = vx) (hy : a.eval y = vy)
    (hr : (Instr.mapEntry M vx vy).run Try.prog w = .ok r w') (h : wpList Try.prog ops Q rest (a.put o.dst r) w') : wpList Try.prog ops Q (o :: rest) a w := by
  refine wpList_want hw fun K hK => ?_
  unfold Oper.wp execOp
  simp only [ho, hx, hy, Sem.run_bind, hr, Result.andThen_ok, Sem.run_pure]
  exact hK _ _ h
theorem wp_estore {ops : Array Oper} {Q : Exit → Act → World → Prop} {rest : List Oper} {o : Oper} {a : Act} {w : World} (hw : Region.wanted o (yielded ops a.tmps) = true) (M : TypeId) (x y z : Operand) (ho : o.op = .entryStore M x y z) (vx vy vz : Value) (w' : World) (hx : a.eval x = vx) (hy : a.eval y = vy) (hz : a.eval z = vz)
    (hr : (Instr.entryStore M vx vy vz).run Try.prog w = .ok () w') (h : wpList Try.prog ops Q rest (a.put o.dst undef) w') : wpList Try.prog ops Q (o :: rest) a w := by
  refine wpList_want hw fun K hK => ?_
  unfold Oper.wp execOp
  simp only [ho, hx, hy, hz, Sem.run_bind, hr, Result.andThen_ok, Sem.run_pure]
  exact hK _ _ h

theorem grown_setBlock (w : World) (b : Nat) (o : Obj) : w.grownBy (ChangeMaps.setBlock w b o) (some b) := by
  refine ⟨rfl, rfl, rfl, by simp [ChangeMaps.setBlock], fun k _ hne => ?_⟩
  have : b ≠ k := fun e => hne (by rw [e])
  unfold ChangeMaps.setBlock
  rw [Array.getElem?_setIfInBounds_ne this]
theorem ext_grownNew {a b c : World} (h : Ext a b) {g : Nat} (hg : a.heap.size ≤ g) (k : b.grownBy c (some g)) : Ext a c :=
  h.trans' ⟨k.os, k.tape, k.output, k.size, fun i hi => k.block i (by have := Below.size h; omega) fun e => by have := Option.some.inj e; omega⟩

theorem arrB_symm {n : Nat} {f g : Nat → Int} (h : arrB n f g = true) : arrB n g f = true := by
  unfold arrB at h ⊢
  exact decide_eq_true fun j hj => (of_decide_eq_true h j hj).symm
theorem arrB_trans {n : Nat} {f g k : Nat → Int} (h : arrB n f g = true) (h' : arrB n g k = true) : arrB n f k = true := by
  unfold arrB at h h' ⊢
  exact decide_eq_true fun j hj => (of_decide_eq_true h j hj).trans (of_decide_eq_true h' j hj)
theorem arrB_refl (n : Nat) (f : Nat → Int) : arrB n f f = true := by
  unfold arrB
  exact decide_eq_true fun _ _ => rfl

/-- Where an entry is found, or laid. -/
def EntG (x : Nat → Int) (G G0 : List Gp) (j : Nat) (g : Gp) : Prop :=
  (G0 = G ∧ arrB 16 x g.key = true) ∨ (G0 = G ++ [⟨x, none, 0, []⟩] ∧ j = G.length ∧ g = ⟨x, none, 0, []⟩ ∧ ∀ (i : Nat) (h : Gp), G[i]? = some h → arrB 16 x h.key = false)
set_option maxRecDepth 100000 in
theorem zero_rws (w : World) : (zeroValue 22).run Try.prog w = .ok (.slice none 0 0) w := by kernel_rfl
set_option maxRecDepth 100000 in
theorem zero_i64 (w : World) : (zeroValue 3).run Try.prog w = .ok (.int .i64 0) w := by kernel_rfl
theorem entry_gp {w : World} {ob B : Nat} {G : List Gp} (hk : KvAt tokK w ob (G.map gpE)) (hG : GpAt w B G) (hob : ob < B) (x : Nat → Int) :
    ∃ (o : Obj) (j : Nat) (g : Gp) (G0 : List Gp), (Instr.mapEntry 65 (.map (some ob)) (tokV x)).run Try.prog w = .ok (.tuple #[gpV g, .int .i64 (j : Int)]) (ChangeMaps.setBlock w ob o) ∧ KvAt tokK (ChangeMaps.setBlock w ob o) ob (G0.map gpE) ∧ GpAt (ChangeMaps.setBlock w ob o) B G0 ∧ G0[j]? = some g ∧ EntG x G G0 j g := by
  obtain ⟨o, j, u, k, l', h1, h2, h3, h4⟩ := entry_kv (K := tokK) hk Try.underlying65 (zero_rws w) x
  rcases h4 with ⟨rfl, he⟩ | ⟨rfl, hkx, rfl, rfl, hno⟩
  · rw [List.getElem?_map] at h3
    cases hg : G[j]? with
    | none => rw [hg] at h3; cases h3
    | some g =>
      rw [hg] at h3
      have e := Option.some.inj h3
      unfold gpE at e
      have e1 := (Prod.mk.inj e).1
      have e2 := (Prod.mk.inj e).2
      refine ⟨o, j, g, G, ?_, h2, hG.kept hob (grown_setBlock w ob o), hg, .inl ⟨rfl, ?_⟩⟩
      · rw [e2]
        exact h1
      · rw [e1]
        exact he
  · have hkx := hkx.symm
    subst hkx
    refine ⟨o, G.length, ⟨x, none, 0, []⟩, G ++ [⟨x, none, 0, []⟩], ?_, ?_, (hG.kept hob (grown_setBlock w ob o)).new x, by simp, .inr ⟨rfl, rfl, rfl, fun i h hi => ?_⟩⟩
    · rw [List.length_map] at h1
      exact h1
    · rw [List.map_append]
      exact h2
    · exact hno _ (List.mem_of_getElem? (i := i) (by rw [List.getElem?_map, hi]; rfl))
theorem store_gp {w : World} {ob : Nat} {G0 : List Gp} (hk : KvAt tokK w ob (G0.map gpE)) {j : Nat} {g : Gp} (hj : G0[j]? = some g) (g' : Gp) (he : g'.key = g.key) :
    ∃ o, (Instr.entryStore 65 (.map (some ob)) (.int .i64 (j : Int)) (gpV g')).run Try.prog w = .ok () (ChangeMaps.setBlock w ob o) ∧ KvAt tokK (ChangeMaps.setBlock w ob o) ob ((G0.set j g').map gpE) := by
  obtain ⟨o, h1, h2⟩ := store_kv (K := tokK) (M := 65) hk (j := j) (k := g.key) (u := gpV g) (by rw [List.getElem?_map, hj]; rfl) (gpV g')
  refine ⟨o, h1, ?_⟩
  rw [List.map_set]
  have : gpE g' = (g.key, gpV g') := by unfold gpE; rw [he]
  rw [this]
  exact h2
/-- A row put into its group. -/
theorem GpSays.put {G : List Gp} {cs : List Rw} (h : GpSays G cs) {r : Rw} {G0 : List Gp} {j : Nat} {g : Gp} (hE : EntG r.hd.1.item G G0 j g) (hj : G0[j]? = some g) (a : Option Addr) (c : Nat) : GpSays (G0.set j ⟨g.key, a, c, g.rows ++ [r]⟩) (cs ++ [r]) := by
  have hgx : arrB 16 g.key r.hd.1.item = true := by
    rcases hE with ⟨_, e⟩ | ⟨_, _, rfl, _⟩
    · exact arrB_symm e
    · exact arrB_refl _ _
  have hjl : j < G0.length := (List.getElem?_eq_some_iff.1 hj).1
  have hc : ∀ (i : Nat) (k : Gp), (G0.set j ⟨g.key, a, c, g.rows ++ [r]⟩)[i]? = some k → (i = j ∧ k = ⟨g.key, a, c, g.rows ++ [r]⟩) ∨ (i ≠ j ∧ G[i]? = some k ∧ arrB 16 k.key g.key = false) := fun i k hi => by
    by_cases e : i = j
    · subst e
      rw [List.getElem?_set_self hjl] at hi
      exact .inl ⟨rfl, (Option.some.inj hi).symm⟩
    · rw [List.getElem?_set_ne (Ne.symm e)] at hi
      rcases hE with ⟨rfl, _⟩ | ⟨rfl, rfl, rfl, hno⟩
      · exact .inr ⟨e, hi, h.keys i j k g e hi hj⟩
      · have hil : i < G.length := by
          have := (List.getElem?_eq_some_iff.1 hi).1
          rw [List.length_append, List.length_singleton] at this
          omega
        rw [List.getElem?_append_left hil] at hi
        refine .inr ⟨e, hi, ?_⟩
        have := hno i k hi
        cases hq : arrB 16 k.key r.hd.1.item with
        | false => rfl
        | true => rw [arrB_symm hq] at this; cases this
  have hrows : g.rows = cs.filter fun q => arrB 16 g.key q.hd.1.item := by
    rcases hE with ⟨rfl, _⟩ | ⟨_, _, rfl, hno⟩
    · exact h.rows j g hj
    · symm
      rw [List.filter_eq_nil_iff]
      intro q hq hk
      obtain ⟨i, k, hi, hk'⟩ := h.all q hq
      have := hno i k hi
      rw [arrB_trans hk (arrB_symm hk')] at this
      cases this
  refine ⟨fun i k hi => ?_, fun i i' k k' hii hi hi' => ?_, fun q hq => ?_, fun i k hi => ?_⟩
  · rcases hc i k hi with ⟨rfl, rfl⟩ | ⟨hne, hi, hk⟩
    · rw [List.filter_append, ← hrows]
      simp [hgx]
    · have hf : arrB 16 k.key r.hd.1.item = false := by
        cases hq : arrB 16 k.key r.hd.1.item with
        | false => rfl
        | true => rw [arrB_trans hq (arrB_symm hgx)] at hk; cases hk
      rw [List.filter_append, ← h.rows i k hi]
      simp [hf]
  · rcases hc i k hi with ⟨rfl, rfl⟩ | ⟨hne, hi, hk⟩
    · rcases hc i' k' hi' with ⟨rfl, rfl⟩ | ⟨hne', hi2, hk'⟩
      · exact absurd rfl hii
      · cases hq : arrB 16 g.key k'.key with
        | false => rfl
        | true => rw [arrB_symm hq] at hk'; cases hk'
    · rcases hc i' k' hi' with ⟨rfl, rfl⟩ | ⟨hne', hi2, hk'⟩
      · exact hk
      · exact h.keys i i' k k' hii hi hi2
  · have hold : ∀ (i : Nat) (k : Gp), G[i]? = some k → i ≠ j → (G0.set j ⟨g.key, a, c, g.rows ++ [r]⟩)[i]? = some k := fun i k hi hne => by
      rw [List.getElem?_set_ne (Ne.symm hne)]
      rcases hE with ⟨rfl, _⟩ | ⟨rfl, _, _, _⟩
      · exact hi
      · rw [List.getElem?_append_left (List.getElem?_eq_some_iff.1 hi).1]
        exact hi
    rw [List.mem_append, List.mem_singleton] at hq
    rcases hq with hq | rfl
    · obtain ⟨i, k, hi, hk⟩ := h.all q hq
      by_cases e : i = j
      · subst e
        rcases hE with ⟨rfl, _⟩ | ⟨rfl, rfl, rfl, _⟩
        · rw [hj] at hi
          obtain rfl := Option.some.inj hi
          exact ⟨i, ⟨g.key, a, c, g.rows ++ [r]⟩, by rw [List.getElem?_set_self hjl], hk⟩
        · have := (List.getElem?_eq_some_iff.1 hi).1
          omega
      · exact ⟨i, k, hold i k hi e, hk⟩
    · exact ⟨j, ⟨g.key, a, c, g.rows ++ [q]⟩, by rw [List.getElem?_set_self hjl], hgx⟩
  · rcases hc i k hi with ⟨rfl, rfl⟩ | ⟨hne, hi, hk⟩
    · simp
    · exact h.some_ i k hi

end Go.Proofs.Ytldaligeckjhaaa
