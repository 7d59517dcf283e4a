/-
  A look-up among the groups. No conditions.
  Where a row was, noted; a row put into its group: the laws for item.parted's steps. No conditions.
-/
import Derived.Test.YtldaligeckjhaaaPtO
namespace Go.Proofs.Ytldaligeckjhaaa
open Go.ChangeAt Go.ChangeShapes Go.RowKit Go.WideShapes

/-- The rows of a token. -/
def ofTok (x : Nat → Int) (cs : List Rw) : List Rw := cs.filter fun r => arrB 16 x r.hd.1.item
theorem look_gp {w : World} {ob B : Nat} {G : List Gp} {cs : List Rw} (hk : KvAt tokK w ob (G.map gpE)) (hG : GpAt w B G) (hs : GpSays G cs) (x : Nat → Int) :
    ∃ a c, (Instr.lookup 65 (.map (some ob)) (tokV x) false).run Try.prog w = .ok (.slice a (ofTok x cs).length c) w ∧ w.ownsRow B 36 130 (.slice a (ofTok x cs).length c) (ofTok x cs).length (rwsC (ofTok x cs)) := by
  have h1 := lookup_kv (K := tokK) hk Try.underlying65 (zero_rws w) x
  unfold kvGet at h1
  cases hp : kvPos tokK x (G.map gpE) 0 with
  | none =>
    rw [hp] at h1
    have hno := kvPos_none tokK x (G.map gpE) 0 hp
    have he : ofTok x cs = [] := by
      unfold ofTok
      rw [List.filter_eq_nil_iff]
      intro r hr hx
      obtain ⟨i, g, hi, hg⟩ := hs.all r hr
      have := hno (gpE g) (List.mem_of_getElem? (i := i) (by rw [List.getElem?_map, hi]; rfl))
      have h2 : arrB 16 x g.key = true := arrB_trans hx (arrB_symm hg)
      have h3 : tokK.eq x (gpE g).1 = true := h2
      rw [h3] at this
      cases this
    rw [he]
    exact ⟨none, 0, h1, rfl, .inl ⟨rfl, rfl⟩⟩
  | some p =>
    obtain ⟨j, v⟩ := p
    rw [hp] at h1
    obtain ⟨m, k, hj, hl, he⟩ := kvPos_some tokK x (G.map gpE) 0 j v hp
    rw [List.getElem?_map] at hl
    cases hg : G[m]? with
    | none => rw [hg] at hl; cases hl
    | some g =>
      rw [hg] at hl
      have e := Option.some.inj hl
      unfold gpE at e
      have e1 := (Prod.mk.inj e).1
      have e2 := (Prod.mk.inj e).2
      have hx : arrB 16 x g.key = true := by rw [e1]; exact he
      have hr : g.rows = ofTok x cs := by
        rw [hs.rows m g hg]
        unfold ofTok
        refine List.filter_congr fun r _ => ?_
        cases hq : arrB 16 x r.hd.1.item with
        | true => exact arrB_trans (arrB_symm hx) hq
        | false =>
          cases hq' : arrB 16 g.key r.hd.1.item with
          | false => rfl
          | true => rw [arrB_trans hx hq'] at hq; cases hq
      have ho := hG.each m g hg
      unfold gpV at e2 ho
      rw [hr] at e2 ho
      refine ⟨g.a, g.c, ?_, ho⟩
      rw [e2]
      exact h1

/-- What is known on the way. -/
structure PtSt (w wr : World) (ob : Nat) (l : List Rw) (k : Nat) (G : List Gp) : Prop where
  ext : Ext w wr
  out : KvAt tokK wr ob (G.map gpE)
  been : KvAt plK wr (ob + 1) ((cntN l k).map bnE)
  gps : GpAt wr (ob + 2) G
  says : GpSays G (cntN l k)
theorem PtSt.skip {w wr wr' : World} {ob : Nat} {l : List Rw} {k : Nat} {G : List Gp} (h : PtSt w wr ob l k G) (he : Ext wr wr') (hb : ¬ (rowB (rwAt l k) = true ∧ hasPl (rwAt l k) (cntN l k) = false)) : PtSt w wr' ob l (k + 1) G := by
  have e : cntN l (k + 1) = cntN l k := by
    show (if _ then _ else _) = _
    rw [if_neg hb]
  exact ⟨h.ext.trans he, h.out.ext he, by rw [e]; exact h.been.ext he, h.gps.ext he, by rw [e]; exact h.says⟩
theorem PtSt.start (w : World) (l : List Rw) : PtSt w ((w.alloc (.map #[] 0)).alloc (.map #[] 0)) w.heap.size l 0 [] := by
  have h1 : ((w.alloc (.map #[] 0)).alloc (.map #[] 0)).heap[w.heap.size]? = some (.map #[] 0) := Ext.keep ((Ext.refl (w.alloc (.map #[] 0))).alloc _) (heap_new w _ _ rfl)
  have h2 : ((w.alloc (.map #[] 0)).alloc (.map #[] 0)).heap[w.heap.size + 1]? = some (.map #[] 0) := heap_new _ _ _ (by simp)
  exact ⟨((Ext.refl w).alloc _).alloc _, ⟨⟨#[], h1, rfl⟩⟩, ⟨⟨#[], h2, rfl⟩⟩, ⟨fun i g hi => by simp at hi, fun i j g h b _ hi => by simp at hi⟩, ⟨fun i g hi => by simp at hi, fun i j g h _ hi => by simp at hi, fun r hr => (by cases hr), fun i g hi => by simp at hi⟩⟩

/-- While a place is noted: the map of places ahead of its entry and behind it. -/
structure PtC (y : World) (bb : Nat) (bl : List ((Int × Int) × Value)) (p : Int × Int) (ph : Bool) (w : World) : Prop where
  grown : y.grownBy w (some bb)
  been : KvAt plK w bb (if ph = true then bl ++ [(p, .int .i64 0)] else bl)
theorem PtC.ext {y w w' : World} {bb : Nat} {bl : List ((Int × Int) × Value)} {p : Int × Int} {ph : Bool} (h : PtC y bb bl p ph w) (he : Ext w w') : PtC y bb bl p ph w' := ⟨grown_trans h.grown (grown_ext he _), h.been.ext he⟩
theorem kvPos_new {p : Int × Int} {v : Value} : ∀ (bl : List ((Int × Int) × Value)) (i : Nat), (∀ q ∈ bl, plK.eq p q.1 = false) → kvPos plK p bl i = none ∧ ∃ j, kvPos plK p (bl ++ [(p, v)]) i = some (j, v)
  | [], i, _ => ⟨rfl, i, by
    have : plK.eq p p = true := by simp [plK]
    simp [kvPos, this]⟩
  | q :: bl, i, h => by
    have h1 := h q (List.mem_cons_self ..)
    have ih := kvPos_new (v := v) bl (i + 1) fun q' hq => h q' (List.mem_cons_of_mem _ hq)
    simpa [kvPos, h1] using ih
theorem PtC.lookup {y w : World} {bb : Nat} {bl : List ((Int × Int) × Value)} {p : Int × Int} {ph : Bool} (h : PtC y bb bl p ph w) (hno : ∀ q ∈ bl, plK.eq p q.1 = false) :
    (Instr.lookup 85 (.map (some bb)) (plV p) false).run Try.prog w = .ok (.int .i64 0) w := by
  have h1 := lookup_kv (K := plK) h.been Try.underlying85 (zero_i64 w) p
  have h2 := kvPos_new (v := .int .i64 0) bl 0 hno
  cases ph with
  | false =>
    unfold kvGet at h1
    simp only [Bool.false_eq_true, if_false] at h1
    rw [h2.1] at h1
    exact h1
  | true =>
    obtain ⟨j, e⟩ := h2.2
    unfold kvGet at h1
    simp only [if_true] at h1
    rw [e] at h1
    exact h1
theorem PtC.entry {y w : World} {bb : Nat} {bl : List ((Int × Int) × Value)} {p : Int × Int} (h : PtC y bb bl p false w) (hno : ∀ q ∈ bl, plK.eq p q.1 = false) :
    ∃ w', (Instr.mapEntry 85 (.map (some bb)) (plV p)).run Try.prog w = .ok (.tuple #[.int .i64 0, .int .i64 (bl.length : Int)]) w' ∧ PtC y bb bl p true w' := by
  obtain ⟨o, j, u, k, l', h1, h2, h3, h4⟩ := entry_kv (K := plK) h.been Try.underlying85 (zero_i64 w) p
  simp only [Bool.false_eq_true, if_false] at h4
  rcases h4 with ⟨rfl, he⟩ | ⟨rfl, hkx, rfl, rfl, _⟩
  · have := hno _ (List.mem_of_getElem? h3)
    rw [he] at this
    cases this
  · exact ⟨_, h1, grown_trans h.grown (grown_setBlock w bb o), h2⟩
theorem PtC.store {y w : World} {bb : Nat} {bl : List ((Int × Int) × Value)} {p : Int × Int} (h : PtC y bb bl p true w) :
    ∃ w', (Instr.entryStore 85 (.map (some bb)) (.int .i64 (bl.length : Int)) (.int .i64 1)).run Try.prog w = .ok () w' ∧ y.grownBy w' (some bb) ∧ KvAt plK w' bb (bl ++ [(p, .int .i64 1)]) := by
  obtain ⟨o, h1, h2⟩ := store_kv (K := plK) (M := 85) (l := bl ++ [(p, .int .i64 0)]) h.been (j := bl.length) (k := p) (u := .int .i64 0) (by simp) (.int .i64 1)
  refine ⟨_, h1, grown_trans h.grown (grown_setBlock w bb o), ?_⟩
  simpa using h2

section
variable {w : World} {o : Oper} {ev : Operand → Value}
theorem lx_row {P : Program} {x : Operand} {T : TypeId} {g : Nat} {t : TypeId} {cs : Array Value} {fr : Nat × Nat} {d : TypeDesc} (ho : o.op = .load T x) (hx : ev x = .pointer (some ⟨g, 0, none⟩)) (hg : w.heap[g]? = some (.cells cs t fr))
    (hu : P.underlying T = some d) (hd : (match d with | .struct _ | .array _ _ => true | _ => false) = true) (hi : (P.info? T).map (·.size) = some cs.size) : lexUpon P w (.ex (.agg cs)) ((execOp ev o).run P w) := by
  rw [rx_row ho hx hg hu hd hi]
  exact ⟨Ext.refl _, rfl⟩
theorem lx_lookup {P : Program} {T : TypeId} {x y : Operand} {vx vy r : Value} (ho : o.op = .lookup T x y false) (hx : ev x = vx) (hy : ev y = vy) (h : (Instr.lookup T vx vy false).run P w = .ok r w) : lexUpon P w (.ex r) ((execOp ev o).run P w) := by
  rw [rx_lookup ho hx hy h]
  exact ⟨Ext.refl _, rfl⟩
theorem lx_entry {P : Program} {C : World → Prop} {T : TypeId} {x y : Operand} {vx vy r : Value} (ho : o.op = .mapEntry T x y) (hx : ev x = vx) (hy : ev y = vy) (h : ∃ w', (Instr.mapEntry T vx vy).run P w = .ok r w' ∧ C w') : lexUponC P C (fun _ _ => True) w (.ex r) ((execOp ev o).run P w) := by
  obtain ⟨w', h1, h2⟩ := h
  rw [rx_entry ho hx hy h1]
  exact ⟨h2, trivial, rfl⟩
end

theorem wp_extract {ops : Array Oper} {Q : Exit → Act → World → Prop} {rest : List Oper} {o : Oper} {a : Act} {w : World} (hw : Region.wanted o (yielded ops a.tmps) = true) (x : Operand) (i : Nat) (ho : o.op = .extract x i) (vs : Array Value) (v : Value) (hx : a.eval x = .tuple vs) (hv : vs[i]? = some v)
    (h : wpList Try.prog ops Q rest (a.put o.dst v) w) : wpList Try.prog ops Q (o :: rest) a w := by
  refine wpList_want hw fun K hK => ?_
  unfold Oper.wp execOp
  simp only [ho, hx, Instr.extract, hv, Sem.run_bind, Sem.run_pure, Result.andThen_ok]
  exact hK _ _ h

/-- What putting a row into its group does. -/
def PutR (w y : World) (S q : Nat) (l : List Rw) (k : Nat) (x : Rw) : Prop :=
  ∃ (y1 : World) (j : Nat) (g : Gp), (Instr.mapEntry 65 (.map (some S)) (tokV x.hd.1.item)).run Try.prog y = .ok (.tuple #[gpV g, .int .i64 (j : Int)]) y1 ∧ y1.ownsRow (S + 2) 36 130 (gpV g) g.rows.length (rwsC g.rows) ∧
    (∀ i, i < 130 → y1.cell? ⟨q, i, none⟩ = some (rwC x i)) ∧ g.rows.length ≤ 1000000 ∧ S + 2 ≤ y1.heap.size ∧
    ∀ (v : Value) (y2 : World), y2.ownsRow (S + 2) 36 130 v (g.rows.length + 1) (rwsC (g.rows ++ [x])) → y1.grownBy y2 (gpV g).ownBlock → (v.ownBlock = (gpV g).ownBlock ∨ v.ownBlock = some y1.heap.size) →
      ∃ y3, (Instr.entryStore 65 (.map (some S)) (.int .i64 (j : Int)) v).run Try.prog y2 = .ok () y3 ∧ ∃ G', PtSt w y3 S l (k + 1) G'
theorem put_row {w y : World} {S q : Nat} {l : List Rw} {k : Nat} {G : List Gp} {x : Rw} (hE : Ext w y) (hS : w.heap.size ≤ S) (hout : KvAt tokK y S (G.map gpE)) (hbeen : KvAt plK y (S + 1) ((cntN l (k + 1)).map bnE)) (hgps : GpAt y (S + 2) G) (hsays : GpSays G (cntN l k))
    (hnext : cntN l (k + 1) = cntN l k ++ [x]) (hq : y.heap[q]? = some (.cells (rwV x) 36 (0, 0))) (hqS : q ≠ S) (hk : k ≤ 100000) : PutR w y S q l k x := by
  have hsz : S + 1 < y.heap.size := hbeen.lt
  obtain ⟨o, j, g, G0, h1, h2, h3, h4, h5⟩ := entry_gp hout hgps (by omega) x.hd.1.item
  have hgr := grown_setBlock y S o
  have hql := (Array.getElem?_eq_some_iff.1 hq).1
  have hrl : g.rows.length ≤ k := by
    have h6 := cntN_le l k
    rcases h5 with ⟨rfl, _⟩ | ⟨_, _, rfl, _⟩
    · rw [hsays.rows j g h4]
      exact Nat.le_trans (List.length_filter_le _ _) h6
    · exact Nat.zero_le _
  refine ⟨ChangeMaps.setBlock y S o, j, g, h1, h3.each j g h4, fun i hi => ?_, by omega, by have := hgr.size; omega, fun v y2 hown hg hv => ?_⟩
  · have hb := hgr.block q hql (fun e => hqS (Option.some.inj e))
    exact row_cell (hb.trans hq) i hi
  · obtain ⟨a, c, rfl, hput⟩ := h3.put h4 hown hg hv
    have hblk : ∀ z, z < S + 2 → z < y.heap.size → y2.heap[z]? = (ChangeMaps.setBlock y S o).heap[z]? := fun z hz hzl => hg.block z (Nat.lt_of_lt_of_le hzl hgr.size) fun e => by
      have := ((h3.each j g h4).lt z e.symm).1
      omega
    have hkv : KvAt tokK y2 S (G0.map gpE) := h2.same (hblk S (by omega) (by omega))
    obtain ⟨o', h6, h7⟩ := store_gp hkv h4 ⟨g.key, a, c, g.rows ++ [x]⟩ rfl
    have hgr2 := grown_setBlock y2 S o'
    have hszs := hg.size
    have hszr := hgr.size
    refine ⟨_, h6, G0.set j ⟨g.key, a, c, g.rows ++ [x]⟩, ⟨?_, h7, ?_, hput.kept (by omega) hgr2, ?_⟩⟩
    · have e1 := ext_grownNew hE hS hgr
      refine e1.trans' ⟨hgr2.os.trans hg.os, hgr2.tape.trans hg.tape, hgr2.output.trans hg.output, Nat.le_trans hg.size hgr2.size, fun i hi => ?_⟩
      rw [hgr2.block i (by have := Below.size e1; omega) (fun e => by have := Option.some.inj e; omega), hblk i (by omega) (by have := Below.size hE; omega)]
    · refine hbeen.same ?_
      rw [hgr2.block (S + 1) (by omega) (fun e => by have := Option.some.inj e; omega), hblk (S + 1) (by omega) hsz, hgr.block (S + 1) hsz (fun e => by have := Option.some.inj e; omega)]
    · rw [hnext]
      exact hsays.put h5 h4 a c

end Go.Proofs.Ytldaligeckjhaaa
