/-
  The walks of index.behind and index.Batch: the first pieces behind a cursor, cut as a wish has it. Asked: at most 400 pieces of each writer.
-/
import Derived.Test.YtihlpfdhallfpaaDoorBehind
import Derived.Test.YtihlpfdhallfpaaDoorMts
import Derived.RangeFuncLeaves
import Derived.RangeFuncOwn
namespace Go.Proofs.YtihlpfdhallfpaaDoor
open Go.ChangeShapes Go.WideShapes Go.ChangeAt Go.RowKit

/-- A cursor by value. -/
def curV (cu : Nat → Nat) : Array Value := rowArr 6 fun i => .int .u64 (cu i : Int)
set_option maxHeartbeats 1000000 in
set_option maxRecDepth 100000 in
theorem ixBehind_any (gx : Nat) (CV : Array Value) (w : World) :
    Calls Tryd.prog 36 #[.pointer (some ⟨gx, 0, none⟩), .agg CV] w fun e w' => e = .returned (.func (.func 54) #[] #[.pointer (some ⟨w.heap.size, 0, none⟩), .pointer (some ⟨w.heap.size + 1, 0, none⟩)]) ∧
      w' = (w.alloc (.cells #[.pointer (some ⟨gx, 0, none⟩)] 22)).alloc (.cells CV 48) := by
  have hmf : ∀ (fn : Fn) (first cap : Array Value) (w : World), (Instr.makeFunc fn first cap).run Tryd.prog w = .ok (.func fn first cap) w := fun _ _ _ _ => rfl
  go_enter Tryd.func36, Tryd.ntmps36
  go_wp2
  go_ret
  exact ⟨by first | rfl | simp, by first | rfl | simp⟩

/-- All cells are kept. -/
def KAC (A B : World) : Prop := ∀ (b : Nat) (cs : Array Value) (t : TypeId) (fr : Nat × Nat), A.heap[b]? = some (.cells cs t fr) → B.heap[b]? = some (.cells cs t fr)
theorem KAC.ext {A B : World} (h : Ext A B) : KAC A B := fun _ _ _ _ k => h.keep k
theorem KAC.putObj {A : World} {l : Nat} {o : Obj} (h : NoCells A l) : KAC A (A.putObj l o) := fun b cs t fr k => by
  refine (World.putObj_heap_other fun e => ?_).trans k
  subst e
  obtain ⟨o', h1, h2⟩ := h
  rw [k] at h1
  obtain rfl := Option.some.inj h1
  cases h2
theorem KAC.pg {A B : World} (h : KAC A B) (ph : Bool) : PgE ph A B := ⟨fun _ _ _ _ _ k => h _ _ _ _ k, fun _ cs hs k => ⟨cs, hs, h _ _ _ _ k⟩, fun _ _ _ k => h _ _ _ _ k⟩
theorem KAC.own {A B : World} (h : KAC A B) {B0 size n : Nat} {e : TypeId} {v : Value} {xs : List Value} (k : A.ownsRow B0 e size v n xs) : B.ownsRow B0 e size v n xs := by
  rcases k.2 with ⟨h1, h2⟩ | ⟨q, cap, cur, h1, h2, h3, h4⟩
  · exact ⟨k.1, .inl ⟨h1, h2⟩⟩
  · exact ⟨k.1, .inr ⟨q, cap, cur, h1, h2, h _ _ _ _ h3, h4⟩⟩
theorem ext_putObj {w A : World} {l : Nat} {o : Obj} (h : Ext w A) (hl : w.heap.size ≤ l) : Ext w (A.putObj l o) :=
  Below.trans h ((Below.refl w.heap.size A).grown (grownBy_putObj' A l o) (Below.size h) (fun b e => by cases e; exact hl))
/-- A piece cut as a wish has it. -/
def cutP (al : Bool) (ts : List (Nat → Int)) (p : Pc) : Pc := if meetsB al ts p.hd.2 p.hd.1.ctl = true then p else ⟨p.hd, none, 0, []⟩
theorem PcOwn.cut {B : Nat} {w : World} {p : Pc} (h : PcOwn B w p) (al : Bool) (ts : List (Nat → Int)) : PcOwn B w (cutP al ts p) := by
  unfold cutP
  split
  · exact h
  · exact ⟨⟨h.at_.hd, ⟨rfl, Nat.le_refl _, by show (0 : Nat) ≤ _; omega, by show (0 : Nat) ≤ _; omega, (fun x hx => by cases hx), (fun h => absurd h (Nat.lt_irrefl 0)), fun _ => rfl⟩, by show (0 : Nat) ≤ _; omega⟩, h.ts, World.ownsRow_nil _ _ _ _⟩
/-- What is told of a piece that has come. -/
def CutIs (S : Nat → CSt) (al : Bool) (ts : List (Nat → Int)) (q : Nat × Nat) (p : Pc) : Prop := ∃ p0, IsGot S q p0 ∧ p = cutP al ts p0
/-- Between two rounds. -/
structure BaI (w : World) (s : Nat) (CV FV : Array Value) (most : Int) (gx T : Nat) (Rel : Nat × Nat → Pc → Prop) (all : List (Nat × Nat)) (st : List (Nat × Nat)) (A : World) : Prop where
  ext : Ext w A
  b1 : A.heap[s + 1]? = some (.cells FV 58 (0, 0))
  b2 : A.heap[s + 2]? = some (.cells #[.int .i64 most] 3 (0, 0))
  b4 : A.heap[s + 4]? = some (.cells #[.pointer (some ⟨gx, 0, none⟩)] 22 (0, 0))
  b5 : A.heap[s + 5]? = some (.cells CV 48 (0, 0))
  out : ∃ (v : Value) (ps : List Pc), A.heap[s + 3]? = some (.cells #[v] 24 (0, 0)) ∧ A.ownsRow (s + 6) 37 126 v ps.length (pisC ps) ∧ (∀ p ∈ ps, PcOwn 0 A p) ∧ ps.length = st.length ∧ ∀ j, j < st.length → Rel (st.getD j (0, 0)) (ps.getD j pcZ)
  pre : st <+: all
  len : st.length ≤ T
section
variable {w : World} {s : Nat} {CV FV : Array Value} {most : Int} {gx T : Nat} {Rel : Nat × Nat → Pc → Prop} {all : List (Nat × Nat)} {st : List (Nat × Nat)} {A B : World}
theorem BaI.keep (h : BaI w s CV FV most gx T Rel all st A) (hE : Ext w B) (hK : KAC A B) : BaI w s CV FV most gx T Rel all st B := by
  obtain ⟨v, ps, h1, h2, h3, h4, h5⟩ := h.out
  exact ⟨hE, hK _ _ _ _ h.b1, hK _ _ _ _ h.b2, hK _ _ _ _ h.b4, hK _ _ _ _ h.b5, ⟨v, ps, hK _ _ _ _ h1, hK.own h2, fun p hp => (h3 p hp).pg (hK.pg true), h4, h5⟩, h.pre, h.len⟩
theorem BaI.more (h : BaI w s CV FV most gx T Rel all st A) (hE : Ext A B) : BaI w s CV FV most gx T Rel all st B := h.keep (h.ext.trans hE) (KAC.ext hE)
theorem BaI.put {l : Nat} {o : Obj} (h : BaI w s CV FV most gx T Rel all st A) (hl : w.heap.size ≤ l) (hn : NoCells A l) : BaI w s CV FV most gx T Rel all st (A.putObj l o) := h.keep (ext_putObj h.ext hl) (KAC.putObj hn)
end
theorem row_cellK {w : World} {g : Nat} {cs : Array Value} {t : TypeId} {fr : Nat × Nat} (h : w.heap[g]? = some (.cells cs t fr)) {i : Nat} {v : Value} (hi : cs[i]? = some v) : w.cell? ⟨g, i, none⟩ = some v := by
  unfold World.cell?
  simp only [h]
  exact hi
theorem NxB.ext {S : Nat → CSt} {cu : Nat → Nat} {st st' : List (Nat × Nat)} {p : Pc} {A B : World} (h : NxB 0 S cu st p A st') (hK : KAC A B) : NxB 0 S cu st p B st' := by
  obtain ⟨q, h1, h2, h3, h4, h5, h6⟩ := h
  exact ⟨q, h1, h2, h3, h4, h5, h6.pg (hK.pg true)⟩
/-- The activation where a round's body begins. -/
def baA (gx s : Nat) (CV FV : Array Value) (most : Int) (PV : Array Value) (g : Nat) : Act := { tmps := #[.pointer (some ⟨gx, 0, none⟩), .agg CV, .agg FV, .int .i64 most, undef, .pointer (some ⟨s, 0, none⟩), .pointer (some ⟨s + 1, 0, none⟩), .pointer (some ⟨s + 2, 0, none⟩), .slice none 0 0, .pointer (some ⟨s + 3, 0, none⟩), .pointer (some ⟨g, 0, none⟩), .pointer (some ⟨gx, 0, none⟩), .agg CV, .func (.func 54) #[] #[.pointer (some ⟨s + 4, 0, none⟩), .pointer (some ⟨s + 5, 0, none⟩)], .agg PV, undef, undef, undef, undef, undef, undef, undef, undef, undef, undef, undef, undef, undef, undef, undef, undef], defers := [] }
/-- What the assignment leaves. -/
def BaX (gx s : Nat) (CV FV : Array Value) (most : Int) (p : Pc) (a' : Act) (A : World) : Prop := ∃ g, (s + 6 ≤ g ∧ ∃ v, A.heap[s + 3]? = some (.cells #[v] 24 (0, 0)) ∧ v.ownBlock ≠ some g) ∧ A.heap[g]? = some (.cells (pcV p) 37 (0, 0)) ∧ a' = baA gx s CV FV most (pcV p) g

/-- What Batch answers. -/
def BatchSays (S : Nat → CSt) (cu : Nat → Nat) (al : Bool) (ts : List (Nat → Int)) (most : Int) (w : World) (e : Ending) (w' : World) : Prop :=
  ∃ (v : Value) (ps : List Pc), e = .returned v ∧ Ext w w' ∧ w'.ownsRow w.heap.size 37 126 v ps.length (pisC ps) ∧ (∀ p ∈ ps, PcAt w' p) ∧ ps.length = ((allB (lenS S) cu).take (min most 8).toNat).length ∧
    ∀ j, j < ((allB (lenS S) cu).take (min most 8).toNat).length → CutIs S al ts (((allB (lenS S) cu).take (min most 8).toNat).getD j (0, 0)) (ps.getD j pcZ)
/-- What Batch answers: the pieces lie in rows of their own. -/
def BatchSaysO (S : Nat → CSt) (cu : Nat → Nat) (al : Bool) (ts : List (Nat → Int)) (most : Int) (w : World) (e : Ending) (w' : World) : Prop :=
  ∃ (v : Value) (ps : List Pc), e = .returned v ∧ Ext w w' ∧ w'.ownsRow w.heap.size 37 126 v ps.length (pisC ps) ∧ (∀ p ∈ ps, PcOwn 0 w' p) ∧ ps.length = ((allB (lenS S) cu).take (min most 8).toNat).length ∧
    ∀ j, j < ((allB (lenS S) cu).take (min most 8).toNat).length → CutIs S al ts (((allB (lenS S) cu).take (min most 8).toNat).getD j (0, 0)) (ps.getD j pcZ)
/-- What is kept while a round's body runs. -/
structure BaK (w : World) (s : Nat) (A B : World) : Prop where
  ext : Ext w B
  size : A.heap.size ≤ B.heap.size
  nc : ∀ l, NoCells A l → B.heap[l]? = A.heap[l]?
  low : ∀ (b : Nat) (cs : Array Value) (t : TypeId) (fr : Nat × Nat), b < s + 6 → b ≠ s + 3 → A.heap[b]? = some (.cells cs t fr) → B.heap[b]? = some (.cells cs t fr)
  pcs : ∀ p, PcOwn 0 A p → PcOwn 0 B p
theorem BaK.start {w : World} {s : Nat} {A : World} (h : Ext w A) : BaK w s A A := ⟨h, Nat.le_refl _, fun _ _ => rfl, fun _ _ _ _ _ _ k => k, fun _ k => k⟩
theorem own_grown {A B : World} {row : Option Nat} (hg : A.grownBy B row) {B0 size n : Nat} {e : TypeId} {v : Value} {xs : List Value} (k : A.ownsRow B0 e size v n xs) (hr : ∀ b, row = some b → ∃ cs t fr, A.heap[b]? = some (.cells cs t fr) ∧ t ≠ e) : B.ownsRow B0 e size v n xs := by
  rcases k.2 with ⟨h1, h2⟩ | ⟨q, cap, cur, h1, h2, h3, h4⟩
  · exact ⟨k.1, .inl ⟨h1, h2⟩⟩
  · refine ⟨k.1, .inr ⟨q, cap, cur, h1, h2, ?_, h4⟩⟩
    rw [hg.block q (Array.getElem?_eq_some_iff.1 h3).1 (fun e2 => ?_)]
    · exact h3
    · obtain ⟨cs, t, fr, k1, k2⟩ := hr q e2.symm
      rw [h3] at k1
      simp only [Option.some.injEq, Obj.cells.injEq] at k1
      exact k2 k1.2.1.symm
theorem PcOwn.grown {A B : World} {row : Option Nat} (hg : A.grownBy B row) {p : Pc} (h : PcOwn 0 A p) (hr : ∀ b, row = some b → ∃ cs t fr, A.heap[b]? = some (.cells cs t fr) ∧ t ≠ 30 ∧ t ≠ 5) : PcOwn 0 B p := by
  have h1 := own_grown hg h.ts fun b e => let ⟨cs, t, fr, k1, k2, _⟩ := hr b e; ⟨cs, t, fr, k1, k2⟩
  have h2 := own_grown hg h.bs fun b e => let ⟨cs, t, fr, k1, _, k2⟩ := hr b e; ⟨cs, t, fr, k1, k2⟩
  refine ⟨⟨⟨h.at_.hd.ok, own_ts1 h1 h.at_.hd.toks.byte h.at_.hd.toks.small⟩, ?_, h.at_.room⟩, h1, h2⟩
  have h3 := h2
  obtain ⟨_, cc, e, _, h4⟩ := owns_slice1 h3
  simp only [Value.slice.injEq, true_and] at e
  obtain ⟨rfl, rfl⟩ := e
  exact owns_bs h3 h.at_.body.byte (by unfold maxLen at h4; omega) h.at_.body.small
theorem BaK.step {w : World} {s : Nat} {A B C : World} {row : Option Nat} (h : BaK w s A B) (hs : w.heap.size = s) (hg : B.grownBy C row) (hr : ∀ b, row = some b → (b = s + 3 ∨ s + 6 ≤ b) ∧ ∃ cs t fr, B.heap[b]? = some (.cells cs t fr) ∧ t ≠ 30 ∧ t ≠ 5) : BaK w s A C := by
  refine ⟨Below.trans h.ext ((Below.refl w.heap.size B).grown hg (Below.size h.ext) (fun b e => by have := (hr b e).1; omega)), Nat.le_trans h.size hg.size, fun l hn => ?_, fun b cs t fr h1 h2 k => ?_, fun p hp => (h.pcs p hp).grown hg fun b e => (hr b e).2⟩
  · have h1 := h.nc l hn
    obtain ⟨o, h2, h3⟩ := hn
    rw [h2] at h1
    rw [hg.block l (Array.getElem?_eq_some_iff.1 h1).1 (fun e => ?_), h1, h2]
    obtain ⟨_, cs, t, fr, k1, _⟩ := hr l e.symm
    rw [h1] at k1
    obtain rfl := Option.some.inj k1
    cases h3
  · have h3 := h.low b cs t fr h1 h2 k
    rw [hg.block b (Array.getElem?_eq_some_iff.1 h3).1 (fun e => ?_)]
    · exact h3
    · have := (hr b e.symm).1
      omega
theorem BaK.grow {w : World} {s : Nat} {A B C : World} (h : BaK w s A B) (hs : w.heap.size = s) (hE : Ext B C) : BaK w s A C := h.step hs (grown_ext hE none) (fun b e => by cases e)

set_option maxHeartbeats 4000000 in
set_option maxRecDepth 100000 in
theorem batchO_any {B gx : Nat} {G : Nat → Nat} {S : Nat → CSt} {cnt : Int} {cu : Nat → Nat} (hm : Modest S) (he : Even S) (hl : ∀ i, i < 6 → (S i).l.length ≤ 400) (hcu : ∀ i, i < 6 → cu i < 18446744073709551616)
    (al : Bool) (a : Option Addr) (n c : Nat) (ts : List (Nat → Int)) (most : Int) (hmo : -9223372036854775808 ≤ most ∧ most ≤ 9223372036854775807) (w : World) (h0 : IxAt w B gx G S cnt) (hts : TsAt w a n c ts) :
    Calls Tryd.prog 19 #[.pointer (some ⟨gx, 0, none⟩), .agg (curV cu), .agg (fltV al (.slice a n c)), .int .i64 most] w (BatchSaysO S cu al ts most w) := by
  obtain ⟨CV, hCV⟩ : ∃ z, curV cu = z := ⟨_, rfl⟩
  have HCs := Lib.hid (show CV.size = 6 by rw [← hCV]; exact rowArr_size _ _)
  have HCi := Lib.hid (show ∀ i, i < 6 → CV[i]? = some (.int .u64 (cu i : Int)) from fun i hi => by rw [← hCV]; exact rowArr_get _ _ _ hi)
  obtain ⟨FV, hFV⟩ : ∃ z, fltV al (.slice a n c) = z := ⟨_, rfl⟩
  have HFV := Lib.hid hFV
  obtain ⟨w2, hw2⟩ : ∃ z, ((((w.alloc (.cells CV 48)).alloc (.cells FV 58)).alloc (.cells #[.int .i64 most] 3)).alloc (.cells #[.slice none 0 0] 24)) = z := ⟨_, rfl⟩
  have HE2 := Lib.hid (show Ext w w2 by rw [← hw2]; exact ((((Ext.refl w).alloc _).alloc _).alloc _).alloc _)
  obtain ⟨s, hs⟩ : ∃ z, w.heap.size = z := ⟨_, rfl⟩
  have HCu := Lib.hid (show w2.heap[s]? = some (.cells CV 48 (0, 0)) by
    rw [← hw2]
    exact Ext.keep ((((Ext.refl _).alloc _).alloc _).alloc _) (heap_new w _ _ hs.symm))
  have HB1 := Lib.hid (show w2.heap[s + 1]? = some (.cells FV 58 (0, 0)) by
    rw [← hw2]
    exact Ext.keep (((Ext.refl _).alloc _).alloc _) (heap_new _ _ _ (by simp [hs])))
  have HB2 := Lib.hid (show w2.heap[s + 2]? = some (.cells #[.int .i64 most] 3 (0, 0)) by
    rw [← hw2]
    exact Ext.keep ((Ext.refl _).alloc _) (heap_new _ _ _ (by simp [hs])))
  have HB3 := Lib.hid (show w2.heap[s + 3]? = some (.cells #[.slice none 0 0] 24 (0, 0)) by
    rw [← hw2]
    exact heap_new _ _ _ (by simp [hs]))
  have HS2 := Lib.hid (show w2.heap.size = s + 4 by rw [← hw2]; simp [hs])
  rw [hCV]
  have Hw2 := Lib.hid hw2
  have Hs := Lib.hid hs
  have HMo := Lib.hid hmo
  have Hm := Lib.hid hm
  have He := Lib.hid he
  have Hl := Lib.hid hl
  have Hcu := Lib.hid hcu
  have H0 := Lib.hid h0
  have HTs := Lib.hid hts
  rw [hFV]
  clear hCV hFV hw2 hs hm he hl hcu h0 hts hmo
  refine (callsIn_wide (n := 3)).1 ?_
  refine callsIn_of_wp_marks Tryd.func19 rfl trivial ?_
  simp only [Tryd.ntmps19, List.size_toArray, List.length_cons, List.length_nil, Nat.reduceAdd, Nat.reduceSub, Array.replicate_succ, Array.replicate_zero, List.push_toArray, List.append_toArray, List.nil_append, List.cons_append]
  refine (wpIn_wide (n := 3)).2 ?_
  obtain ⟨QM, hQM⟩ : ∃ z, bodyPostM Fence.wide 3 Tryd.prog Tryd.f19 (BatchSaysO S cu al ts most w) = z := ⟨_, rfl⟩
  have HQM := Lib.hid hQM
  rw [hQM]
  clear hQM
  go_upto_region 2 with (fail)
  refine wp_world (w' := w2) Hw2.out ?_
  rw [Hs.out]
  go_wp2_with (first | (refine wpList_load_rowW rfl 48 (.tmp 5) rfl s rfl _ _ _ _ HCu.out Tryd.underlying48 rfl (by rw [HCs.out]; kernel_rfl) ?_))
  refine (ixBehind_any gx CV w2).mono ?_
  rintro e w3' ⟨rfl, rfl⟩
  go_wp2_with fail
  rename_i K0 hK0
  rw [HS2.out]
  obtain ⟨w3, hw3⟩ : ∃ z, (w2.alloc (.cells #[.pointer (some ⟨gx, 0, none⟩)] 22)).alloc (.cells CV 48) = z := ⟨_, rfl⟩
  have HE3 := Lib.hid (show Ext w2 w3 by rw [← hw3]; exact ((Ext.refl w2).alloc _).alloc _)
  have HB4 := Lib.hid (show w3.heap[s + 4]? = some (.cells #[.pointer (some ⟨gx, 0, none⟩)] 22 (0, 0)) by
    rw [← hw3]
    exact Ext.keep ((Ext.refl _).alloc _) (heap_new _ _ _ HS2.out.symm))
  have HB5 := Lib.hid (show w3.heap[s + 5]? = some (.cells CV 48 (0, 0)) by
    rw [← hw3]
    exact heap_new _ _ _ (by simp [HS2.out]))
  have HS3 := Lib.hid (show w3.heap.size = s + 6 by rw [← hw3]; simp [HS2.out])
  obtain ⟨m8, hm8⟩ : ∃ z : Int, min most 8 = z := ⟨_, rfl⟩
  have HM8 := Lib.hid hm8
  refine wp_world (w' := w3) hw3 ?_
  clear hw3 hm8
  have HFin := Lib.hid (show ∀ (A : World) (st : List (Nat × Nat)), BaI w s CV FV most gx m8.toNat (CutIs S al ts) (allB (lenS S) cu) st A → st = (allB (lenS S) cu).take (min most 8).toNat → A.heap[w3.heap.size]? = some (.deferred (some [])) →
      K0 { tmps := #[.pointer (some ⟨gx, 0, none⟩), .agg CV, .agg FV, .int .i64 most, undef, .pointer (some ⟨s, 0, none⟩), .pointer (some ⟨s + 1, 0, none⟩), .pointer (some ⟨s + 2, 0, none⟩), .slice none 0 0, .pointer (some ⟨s + 3, 0, none⟩), undef, .pointer (some ⟨gx, 0, none⟩), .agg CV, .func (.func 54) #[] #[.pointer (some ⟨s + 4, 0, none⟩), .pointer (some ⟨s + 5, 0, none⟩)], undef, undef, undef, undef, undef, undef, undef, undef, undef, undef, undef, undef, undef, undef, undef, undef, undef], defers := [{ target := .collected w3.heap.size, args := #[] }] } A from by
    intro A st hI hst hD
    obtain ⟨v, ps, h3, ho, hps, hpl, hrel⟩ := hI.out
    obtain ⟨va, vc, hv⟩ := own_pisl ho
    subst hv
    have hc3 := row_cellK h3 (i := 0) rfl
    have HI := Lib.hid hI
    have HO := Lib.hid ho
    have HPs := Lib.hid hps
    have Hpl := Lib.hid hpl
    have Hrel := Lib.hid hrel
    have Hst := Lib.hid hst
    have HD := Lib.hid hD
    obtain ⟨N, hN⟩ : ∃ z, ps.length = z := ⟨_, rfl⟩
    have HN := Lib.hid hN
    rw [hN] at hc3 HO
    clear hI h3 ho hps hpl hrel hst hD hN
    refine hK0 _ _ ?_
    go_wp2
    have hnc : NoCells A w3.heap.size := ⟨_, HD.out, rfl⟩
    have hE : Ext w (A.putObj w3.heap.size (.deferred none)) := ext_putObj HI.out.ext (by have := HS3.out; have := Hs.out; omega)
    have hka : KAC A (A.putObj w3.heap.size (.deferred none)) := KAC.putObj hnc
    rw [← HQM.out]
    refine ⟨by simp, .inl ⟨_, _, rfl, run_takeDeferred HD.out, ?_⟩⟩
    refine ⟨_, results_tmp rfl _ _ _, ?_⟩
    refine ⟨.slice va N vc, ps, rfl, hE, ?_, fun p hp => (HPs.out p hp).pg (hka.pg true), ?_, ?_⟩
    · rw [HN.out]
      exact own_mono (hka.own HO.out) (by have := Hs.out; omega)
    · rw [← Hst.out]
      exact Hpl.out
    · rw [← Hst.out]
      exact Hrel.out)
  refine (wpIn_wide (n := 3)).1 ?_
  refine wpIn_each (F := Fence.wide) (n := 3) (α := Pc) (σ := List (Nat × Nat)) (gf := 54) (lb := #[.pointer (some ⟨s + 4, 0, none⟩), .pointer (some ⟨s + 5, 0, none⟩)]) rfl (by omega) rfl trivial (enters_of Tryd.func54 (by kernel_rfl) rfl)
    (behind1_it (B := B) (gx := gx) (G := G) (cnt := cnt) (gp := s + 4) (gc := s + 5) Hm.out He.out Hl.out Hcu.out 2) (fun _ => rfl)
    (fun st A => BaI w s CV FV most gx m8.toNat (CutIs S al ts) (allB (lenS S) cu) st A)
    (fun c A => c = .exit 0 ∧ ∃ st, BaI w s CV FV most gx m8.toNat (CutIs S al ts) (allB (lenS S) cu) st A ∧ st.length = m8.toNat)
    (BaX gx s CV FV most) (fun _ _ _ h hE => h.more hE) ?src (fun _ _ _ _ _ h hE => h.ext (KAC.ext hE)) (fun _ _ _ _ hl hn h => h.put (by have := HS3.out; have := Hs.out; omega) hn)
    (fun c A l o hl hn h => ⟨h.1, h.2.imp fun st k => ⟨k.1.put (by have := HS3.out; have := Hs.out; omega) hn, k.2⟩⟩) (fun _ _ _ _ _ _ hn h => h.ext (KAC.putObj hn))
    (fun p a' A l o hn ⟨g, ⟨h1, v, h4, h5⟩, h2, h3⟩ => ⟨g, ⟨h1, v, KAC.putObj hn _ _ _ _ h4, h5⟩, KAC.putObj hn _ _ _ _ h2, h3⟩) ?start ?assign ?body ?done ?stop
  case src =>
    intro st A h
    exact ⟨H0.out.ext h.ext, row_cellK h.b4 rfl, fun i hi => row_cellK h.b5 (HCi.out i hi)⟩
  case start =>
    exact ⟨HE2.out.trans HE3.out, HE3.out.keep HB1.out, HE3.out.keep HB2.out, HB4.out, HB5.out, ⟨.slice none 0 0, [], HE3.out.keep HB3.out, World.ownsRow_nil _ _ _ _, (fun p hp => by cases hp), rfl, (fun j hj => absurd hj (Nat.not_lt_zero _))⟩, List.nil_prefix, Nat.zero_le _⟩
  case assign =>
    intro l st p st' A K hI hN hK
    obtain ⟨v, ps, h3, ho, -⟩ := hI.out
    have hvb : v.ownBlock ≠ some A.heap.size := fun e => by
      have := (ho.lt _ e).2
      omega
    have hsz : s + 6 ≤ A.heap.size := by
      have h1 := (Array.getElem?_eq_some_iff.1 hI.b5).1
      omega
    have HKd := Lib.hid hK
    have H3 := Lib.hid h3
    have hzp := pcZ0
    obtain ⟨ZP, hZP⟩ : ∃ z, pcV pcZ = z := ⟨_, rfl⟩
    have HZs := Lib.hid (show ZP.size = 126 by rw [← hZP]; exact pcV_size _)
    rw [hZP] at hzp
    obtain ⟨PV, hPV⟩ : ∃ z, pcV p = z := ⟨_, rfl⟩
    have HPV := Lib.hid hPV
    have HPs := Lib.hid (show PV.size = 126 ∧ PV.all (·.oneCell') = true by rw [← hPV]; exact ⟨pcV_size _, pcV_one _⟩)
    have Hvb := Lib.hid hvb
    have Hsz := Lib.hid hsz
    rw [hPV]
    clear hZP hPV hI hN hK h3 ho hvb hsz
    obtain ⟨K3, hK3⟩ : ∃ z : Act → World → Prop, (fun a' B => a' = baA gx s CV FV most PV A.heap.size ∧ B = A.alloc (.cells PV 37)) = z := ⟨_, rfl⟩
    have HK3 := Lib.hid hK3
    clear hK3
    refine regionN_in (K := K3) (by kernel_rfl) ?_ ?_
    · intro a' B hk
      rw [← HK3.out] at hk
      obtain ⟨rfl, rfl⟩ := hk
      refine HKd.out _ _ ((Ext.refl A).alloc _) ⟨A.heap.size, ⟨Hsz.out, v, Ext.keep ((Ext.refl A).alloc _) H3.out, Hvb.out⟩, ?_, by rw [HPV.out]⟩
      rw [HPV.out]
      exact heap_new _ _ _ rfl
    · simp only [List.zip_toArray, List.zip_cons_cons, List.zip_nil_right, List.foldl_toArray, List.foldl_cons, List.foldl_nil, List.setIfInBounds_toArray, List.set_cons_zero, List.set_cons_succ]
      go_wp2_with (refine wpList_store_row rfl 37 _ _ rfl A.heap.size _ rfl rfl _ _ (heap_new A _ _ rfl) (by rw [HPs.out.1]; kernel_rfl) (by rw [HPs.out.1, HZs.out]) HPs.out.2 ?_; rw [setRow_new A _ _ _ _ rfl])
      rw [← HK3.out]
      exact ⟨by unfold baA; rfl, rfl⟩
  case body =>
    rintro l st p st' a' A hI ⟨q, rfl, hpre, hq1, hq2, hgot, hown⟩ ⟨g, ⟨hg, v0, hv0, hvg⟩, hP, rfl⟩ hz hn1 hn2
    obtain ⟨v, ps, h3, ho, hps, hpl, hrel⟩ := hI.out
    obtain rfl : v = v0 := by
      rw [h3] at hv0
      simpa using hv0
    obtain ⟨va, vc, hv⟩ := own_pisl ho
    subst hv
    obtain ⟨N, hN⟩ : ∃ z, ps.length = z := ⟨_, rfl⟩
    rw [hN] at ho h3 hvg hpl
    have hc3 := row_cellK h3 (i := 0) rfl
    have hc2 := row_cellK hI.b2 (i := 0) rfl
    have HI := Lib.hid hI
    have HO := Lib.hid ho
    have HPs := Lib.hid hps
    have HPl := Lib.hid hpl
    have HNl := Lib.hid hN
    have Hrel := Lib.hid hrel
    have Hpre := Lib.hid hpre
    have Hgot := Lib.hid hgot
    have Hown := Lib.hid hown
    have Hn1 := Lib.hid hn1
    have Hn2 := Lib.hid hn2
    have Hg := Lib.hid hg
    have Hvg := Lib.hid hvg
    have HP := Lib.hid hP
    have H3 := Lib.hid h3
    have HLen := Lib.hid hI.len
    obtain ⟨bb, hbb⟩ : ∃ z, decide (m8 ≤ (N : Int)) = z := ⟨_, rfl⟩
    have Hbb := Lib.hid hbb
    obtain ⟨PV, hPV⟩ : ∃ z, pcV p = z := ⟨_, rfl⟩
    have HPV := Lib.hid hPV
    rw [hPV]
    clear hI hpre hq1 hq2 hgot hown hg hv0 hvg hP hz hn1 hn2 h3 ho hps hpl hrel hN hbb hPV
    unfold baA
    refine wpIn_block ?_
    refine wpIn_seq ?_
    refine wpIn_seq ?_
    obtain ⟨K4, hK4⟩ : ∃ z : Act → World → Prop, (fun a' B => B = A ∧ ∃ x15 x16 x17 x18, a' = { tmps := #[.pointer (some ⟨gx, 0, none⟩), .agg CV, .agg FV, .int .i64 most, undef, .pointer (some ⟨s, 0, none⟩), .pointer (some ⟨s + 1, 0, none⟩), .pointer (some ⟨s + 2, 0, none⟩), .slice none 0 0, .pointer (some ⟨s + 3, 0, none⟩), .pointer (some ⟨g, 0, none⟩), .pointer (some ⟨gx, 0, none⟩), .agg CV, .func (.func 54) #[] #[.pointer (some ⟨s + 4, 0, none⟩), .pointer (some ⟨s + 5, 0, none⟩)], .agg PV, x15, x16, x17, x18, .bool (decide (min most 8 ≤ (N : Int))), undef, undef, undef, undef, undef, undef, undef, undef, undef, undef, undef], defers := [] }) = z := ⟨_, rfl⟩
    have HK4 := Lib.hid hK4
    clear hK4
    refine regionN_in (K := K4) (by kernel_rfl) ?_ ?_
    rotate_left
    · go_wp2_with fail
      rw [← HK4.out]
      exact ⟨rfl, _, _, _, _, rfl⟩
    intro a4 B4 hk
    rw [← HK4.out] at hk
    obtain ⟨rfl, x15, x16, x17, x18, rfl⟩ := hk
    clear HK4 K4
    rw [HM8.out, Hbb.out]
    cases bb with
    | true =>
      have hx : m8 ≤ (N : Int) := of_decide_eq_true Hbb.out
      show Code.wpIn _ _ _ _ _ _ _
      refine wpIn_cond_true rfl (wpIn_exit ?_)
      exact (show Keeps2 w3.heap.size B4 B4 ∧ Code.exit 0 = Code.exit 0 ∧ ∃ st, BaI w s CV FV most gx m8.toNat (CutIs S al ts) (allB (lenS S) cu) st B4 ∧ st.length = m8.toNat from ⟨⟨rfl, rfl⟩, rfl, st, HI.out, by have h1 := HLen.out; have h2 := HPl.out; omega⟩)
    | false =>
      have hx : ¬ m8 ≤ (N : Int) := of_decide_eq_false Hbb.out
      have Hx := Lib.hid hx
      clear hx
      show Code.wpIn _ _ _ _ _ _ _
      refine wpIn_cond_false rfl (wpIn_skip ?_)
      show Code.wpIn _ _ _ _ _ _ _
      refine wpIn_seq ?_
      refine wpIn_seq ?_
      have HMe := Lib.hid (meets_any al a n c ts p.hd.1 p.hd.2 B4 (HTs.out.ext HI.out.ext) Hown.out.at_.hd.toks)
      rw [HFV.out] at HMe
      obtain ⟨HV, hHV⟩ : ∃ z, hdV p.hd.1 = z := ⟨_, rfl⟩
      have HHa := Lib.hid (show (hdL p.hd.1).toArray = HV by rw [hdL_arr, hHV])
      have HRh := Lib.hid (pc_rh HP.out)
      rw [hHV] at HMe
      obtain ⟨mb, hmb⟩ : ∃ z, meetsB al ts p.hd.2 p.hd.1.ctl = z := ⟨_, rfl⟩
      have Hmb := Lib.hid hmb
      rw [hmb] at HMe
      have HFs := Lib.hid (show FV.size = 2 by rw [← HFV.out]; rfl)
      have HB1' := Lib.hid HI.out.b1
      clear hHV hmb
      obtain ⟨K5, hK5⟩ : ∃ z : Act → World → Prop, (fun a' B => Ext B4 B ∧ ∃ x20 x21 x22 x23, a' = { tmps := #[.pointer (some ⟨gx, 0, none⟩), .agg CV, .agg FV, .int .i64 most, undef, .pointer (some ⟨s, 0, none⟩), .pointer (some ⟨s + 1, 0, none⟩), .pointer (some ⟨s + 2, 0, none⟩), .slice none 0 0, .pointer (some ⟨s + 3, 0, none⟩), .pointer (some ⟨g, 0, none⟩), .pointer (some ⟨gx, 0, none⟩), .agg CV, .func (.func 54) #[] #[.pointer (some ⟨s + 4, 0, none⟩), .pointer (some ⟨s + 5, 0, none⟩)], .agg PV, x15, x16, x17, x18, .bool false, x20, x21, x22, x23, .bool (!mb), undef, undef, undef, undef, undef, undef], defers := [] }) = z := ⟨_, rfl⟩
      have HK5 := Lib.hid hK5
      clear hK5
      refine regionN_in (K := K5) (by kernel_rfl) ?_ ?_
      rotate_left
      · go_wp2_with (first | (refine wpList_load_rowW rfl 58 (.tmp 6) rfl (s + 1) rfl _ _ _ _ HB1'.out Tryd.underlying58 rfl (by rw [HFs.out]; kernel_rfl) ?_) | (refine wpList_load_mid rfl 34 (.tmp 21) rfl g _ rfl (hdL p.hd.1) _ HRh.out Tryd.underlying34 rfl (by rw [hdL_length]; kernel_rfl) ?_; rw [HHa.out]))
        refine HMe.out.mono ?_
        rintro e B5 ⟨rfl, hE5⟩
        have HE5 := Lib.hid hE5
        clear hE5
        go_wp2_with fail
        rw [← HK5.out]
        exact ⟨HE5.out, _, _, _, _, rfl⟩
      intro a5 B5 hk
      rw [← HK5.out] at hk
      obtain ⟨hE5, x20, x21, x22, x23, rfl⟩ := hk
      have HE5 := Lib.hid hE5
      clear HK5 K5 hE5 HMe
      show Code.wpIn _ _ _ _ _ _ _
      have HCut := Lib.hid (Hown.out.cut al ts)
      obtain ⟨p', hp'⟩ : ∃ z, cutP al ts p = z := ⟨_, rfl⟩
      have Hp' := Lib.hid hp'
      rw [hp'] at HCut
      obtain ⟨K6, hK6⟩ : ∃ z : Act → World → Prop, (fun a' B => (∃ x24 x25, a' = { tmps := #[.pointer (some ⟨gx, 0, none⟩), .agg CV, .agg FV, .int .i64 most, undef, .pointer (some ⟨s, 0, none⟩), .pointer (some ⟨s + 1, 0, none⟩), .pointer (some ⟨s + 2, 0, none⟩), .slice none 0 0, .pointer (some ⟨s + 3, 0, none⟩), .pointer (some ⟨g, 0, none⟩), .pointer (some ⟨gx, 0, none⟩), .agg CV, .func (.func 54) #[] #[.pointer (some ⟨s + 4, 0, none⟩), .pointer (some ⟨s + 5, 0, none⟩)], .agg PV, x15, x16, x17, x18, .bool false, x20, x21, x22, x23, x24, x25, undef, undef, undef, undef, undef], defers := [] }) ∧ BaK w s B4 B ∧ B.heap[g]? = some (.cells (pcV p') 37 (0, 0)) ∧ B.heap[s + 3]? = some (.cells #[.slice va N vc] 24 (0, 0)) ∧ B.ownsRow (s + 6) 37 126 (.slice va N vc) N (pisC ps)) = z := ⟨_, rfl⟩
      have HK6 := Lib.hid hK6
      have HB5 := Lib.hid ((BaK.start (s := s) HI.out.ext).grow Hs.out HE5.out)
      clear hK6 hp'
      refine wpIn_mono (Q := Exit.then K6 fun _ _ _ => False) ?_ ?_
      · cases mb with
        | true =>
          refine wpIn_cond_false rfl (wpIn_skip ?_)
          show K6 _ _
          rw [← HK6.out]
          refine ⟨⟨_, _, rfl⟩, HB5.out, ?_, HE5.out.keep H3.out, own_ext9 HO.out HE5.out⟩
          rw [← Hp'.out, show cutP al ts p = p by unfold cutP; rw [if_pos Hmb.out]]
          exact HE5.out.keep HP.out
        | false =>
          refine wpIn_cond_true rfl ?_
          have HR5 := Lib.hid (rowIs_of (f := pcC p) (HE5.out.keep HP.out))
          have x1 := HR5.out.cell (i := 125) (by omega)
          have f1 := HR5.out.frozen 125
          refine regionN_in (K := K6) (by kernel_rfl) (fun a w h => h) ?_
          go_wp2_with fail
          rw [← HK6.out]
          have hg6 : B5.grownBy (B5.setCell ⟨g, 125, none⟩ (.slice none 0 0)) (some g) := grown_setCell (World.grownBy.refl B5 _) rfl _
          refine ⟨⟨_, _, rfl⟩, HB5.out.step Hs.out hg6 (fun b e => by cases e; exact ⟨Or.inr Hg.out, _, _, _, rowIs_cells HR5.out, by decide, by decide⟩), ?_, ?_, ?_⟩
          · have hcut : p' = ⟨p.hd, none, 0, []⟩ := by
              rw [← Hp'.out]
              unfold cutP
              rw [if_neg (by rw [Hmb.out]; exact Bool.false_ne_true)]
            rw [hcut]
            have h1 := rowIs_cells ((HR5.out.set 125 (.slice none 0 0)).congr (g := pcC ⟨p.hd, none, 0, []⟩) fun j hj => by
              unfold pcC
              by_cases e : j = 125
              · rw [if_pos e, if_neg (by omega)]
                rfl
              · rw [if_neg e, if_pos (by omega), if_pos (by omega)])
            exact h1
          · rw [hg6.block (s + 3) (Array.getElem?_eq_some_iff.1 (HE5.out.keep H3.out)).1 (fun e => by have := Hg.out; have := Option.some.inj e; omega)]
            exact HE5.out.keep H3.out
          · exact (own_ext9 HO.out HE5.out).kept hg6 (Or.inr Hvg.out)
      · intro e a6 B6 hk
        cases e with
        | normal =>
          have hk' : K6 a6 B6 := hk
          rw [← HK6.out] at hk'
          obtain ⟨⟨x24, x25, rfl⟩, hb6, hp6, h36, ho6⟩ := hk'
          have HB6 := Lib.hid hb6
          have H36 := Lib.hid h36
          have HO6 := Lib.hid ho6
          have HPc := Lib.hid hp6
          have hc6 := row_cellK h36 (i := 0) rfl
          obtain ⟨PV', hPV'⟩ : ∃ z, pcV p' = z := ⟨_, rfl⟩
          have HPV' := Lib.hid hPV'
          have HPs' := Lib.hid (show PV'.size = 126 by rw [← hPV']; exact pcV_size _)
          have HP6 := Lib.hid (show B6.heap[g]? = some (.cells PV' 37 (0, 0)) by rw [← hPV']; exact hp6)
          have HSz := Lib.hid (show s + 6 ≤ B6.heap.size by
            have h1 := (Array.getElem?_eq_some_iff.1 (HB6.out.low _ _ _ _ (by omega) (by omega) HI.out.b5)).1
            omega)
          have HNs := Lib.hid (show N ≤ 100000 by
            have h1 := HLen.out
            have h2 := HPl.out
            have h3 : m8 ≤ 8 := by rw [← HM8.out]; omega
            omega)
          clear hk hb6 h36 ho6 hp6 hPV' HK6
          show Code.wpIn _ _ _ _ _ _ _
          obtain ⟨K7, hK7⟩ : ∃ z : Act → World → Prop, (fun _ B => Keeps2 w3.heap.size B4 B ∧ BaI w s CV FV most gx m8.toNat (CutIs S al ts) (allB (lenS S) cu) (st ++ [q]) B) = z := ⟨_, rfl⟩
          have HK7 := Lib.hid hK7
          clear hK7
          refine regionN_in (K := K7) (by kernel_rfl) (fun a w h => by rw [← HK7.out] at h; exact h) ?_
          go_wp2_with (first | (refine wpList_load_rowW rfl 37 (.tmp 10) rfl g rfl _ _ _ _ HP6.out Tryd.underlying37 rfl (by rw [HPs'.out]; kernel_rfl) ?_; simp only [Act.put, List.setIfInBounds_toArray, List.set_cons_zero, List.set_cons_succ]; refine wp_build_pc1 rfl (.tmp 27) rfl p' PV' HPV'.out rfl ?_; simp only [Act.put, List.setIfInBounds_toArray, List.set_cons_zero, List.set_cons_succ]; refine append_pc rfl (.tmp 26) (.tmp 28) rfl (s + 6) _ N ps rfl (own_ext9 HO6.out ((Ext.refl B6).alloc _)) B6.heap.size 1 p' rfl (fun j hj => row_cell (show (B6.alloc (.cells PV' 37)).heap[B6.heap.size]? = some (.cells (pcV p') 37 (0, 0)) by rw [HPV'.out]; exact heap_new B6 _ _ rfl) j hj) HNs.out (Nat.le_trans HSz.out (by simp)) ?_; intro v5 y5 ho5 hg5 _; obtain ⟨va5, vc5, hv5⟩ := own_pisl ho5; subst hv5; have HO5 := Lib.hid ho5; have HG5 := Lib.hid hg5; clear ho5 hg5; have H35 := Lib.hid (show y5.heap[s + 3]? = some (.cells #[.slice va N vc] 24 (0, 0)) from (HG5.out.block (s + 3) (Array.getElem?_eq_some_iff.1 (Ext.keep ((Ext.refl B6).alloc (.cells PV' 37)) H36.out)).1 (fun e => by have := ((HO6.out.lt _ e.symm)).1; omega)).trans (Ext.keep ((Ext.refl B6).alloc _) H36.out)); have HR5 := Lib.hid (rowIs_of (n := 1) (f := fun _ => .slice va N vc) (show y5.heap[s + 3]? = some (.cells (rowArr 1 fun _ => .slice va N vc) 24 (0, 0)) from H35.out)); have x1 := HR5.out.cell (i := 0) (by omega); have f1 := HR5.out.frozen 0; simp only [Act.put, List.setIfInBounds_toArray, List.set_cons_zero, List.set_cons_succ]))
          have HL := Lib.hid (show BaK w s B4 (B6.alloc (.cells PV' 37)) from HB6.out.grow Hs.out ((Ext.refl B6).alloc _))
          have HO7 := Lib.hid (own_ext9 HO6.out ((Ext.refl B6).alloc (.cells PV' 37)))
          have HM := Lib.hid (HL.out.step Hs.out HG5.out (fun b e => by
            refine ⟨Or.inr (HO7.out.lt b e).1, ?_⟩
            rcases HO7.out.2 with ⟨h1, _⟩ | ⟨g', cap, cur, h1, _, h3, _⟩
            · rw [h1] at e
              cases e
            · rw [h1] at e
              obtain rfl := Option.some.inj e
              exact ⟨_, _, _, h3, by decide, by decide⟩))
          have hg7 : y5.grownBy (y5.setCell ⟨s + 3, 0, none⟩ (.slice va5 (N + 1) vc5)) (some (s + 3)) := grown_setCell (World.grownBy.refl y5 _) rfl _
          have HZ := Lib.hid (HM.out.step Hs.out hg7 (fun b e => by cases e; exact ⟨Or.inl rfl, _, _, _, H35.out, by decide, by decide⟩))
          have hl7 : (ps ++ [p']).length = N + 1 := by rw [List.length_append, HNl.out]; rfl
          rw [← HK7.out]
          refine ⟨⟨HZ.out.nc _ (by rw [HS3.out] at Hn1 ⊢; exact Hn1.out), HZ.out.nc _ (by rw [HS3.out] at Hn2 ⊢; exact Hn2.out)⟩, HZ.out.ext, HZ.out.low _ _ _ _ (by omega) (by omega) HI.out.b1, HZ.out.low _ _ _ _ (by omega) (by omega) HI.out.b2, HZ.out.low _ _ _ _ (by omega) (by omega) HI.out.b4, HZ.out.low _ _ _ _ (by omega) (by omega) HI.out.b5, ⟨.slice va5 (N + 1) vc5, ps ++ [p'], rowIs_cells (HR5.out.set 0 (.slice va5 (N + 1) vc5)), ?_, ?_, ?_, ?_⟩, Hpre.out, ?_⟩
          · rw [hl7]
            exact HO5.out.kept hg7 (Or.inr fun e => by have := (HO5.out.lt _ e).1; omega)
          · intro x hx
            rcases List.mem_append.1 hx with h1 | h1
            · exact HZ.out.pcs x (HPs.out x h1)
            · obtain rfl := List.mem_singleton.1 h1
              exact HZ.out.pcs _ HCut.out
          · rw [hl7, List.length_append, HPl.out]
            rfl
          · intro j hj
            rw [List.length_append, List.length_singleton] at hj
            by_cases hjl : j < st.length
            · have h1 := Hrel.out j hjl
              rw [List.getD_eq_getElem?_getD, List.getElem?_append_left hjl, List.getD_eq_getElem?_getD, List.getElem?_append_left (by rw [HNl.out, HPl.out]; exact hjl), ← List.getD_eq_getElem?_getD, ← List.getD_eq_getElem?_getD]
              exact h1
            · obtain rfl : j = st.length := by omega
              have e1 : (st ++ [q]).getD st.length (0, 0) = q := by
                rw [List.getD_eq_getElem?_getD, List.getElem?_append_right (Nat.le_refl _), Nat.sub_self]
                rfl
              have e2 : (ps ++ [p']).getD st.length pcZ = p' := by
                rw [List.getD_eq_getElem?_getD, List.getElem?_append_right (by rw [HNl.out, HPl.out]; exact Nat.le_refl _), HNl.out, HPl.out, Nat.sub_self]
                rfl
              rw [e1, e2, ← Hp'.out]
              exact ⟨p, Hgot.out, rfl⟩
          · rw [List.length_append, List.length_singleton]
            have h1 := HLen.out
            have h2 := HPl.out
            have h3 := Hx.out
            omega
        | _ => exact False.elim hk
  case done =>
    intro st A hst hI hD
    have hst' : st = allB (lenS S) cu := hst
    refine HFin.out A st hI ?_ hD
    rw [hst', List.take_of_length_le]
    have h1 := hI.len
    rw [hst', ← HM8.out] at h1
    exact h1
  case stop =>
    rintro c A ⟨rfl, st, hI, hlen⟩ hD
    refine wpIn_exit ?_
    refine HFin.out A st hI ?_ hD
    rw [HM8.out, ← hlen]
    exact (List.prefix_iff_eq_take.1 hI.pre)
theorem batch_any {B gx : Nat} {G : Nat → Nat} {S : Nat → CSt} {cnt : Int} {cu : Nat → Nat} (hm : Modest S) (he : Even S) (hl : ∀ i, i < 6 → (S i).l.length ≤ 400) (hcu : ∀ i, i < 6 → cu i < 18446744073709551616)
    (al : Bool) (a : Option Addr) (n c : Nat) (ts : List (Nat → Int)) (most : Int) (hmo : -9223372036854775808 ≤ most ∧ most ≤ 9223372036854775807) (w : World) (h0 : IxAt w B gx G S cnt) (hts : TsAt w a n c ts) :
    Calls Tryd.prog 19 #[.pointer (some ⟨gx, 0, none⟩), .agg (curV cu), .agg (fltV al (.slice a n c)), .int .i64 most] w (BatchSays S cu al ts most w) := by
  refine (batchO_any hm he hl hcu al a n c ts most hmo w h0 hts).mono ?_
  rintro e w' ⟨v, ps, h1, h2, h3, h4, h5⟩
  exact ⟨v, ps, h1, h2, h3, fun p hp => (h4 p hp).at_, h5⟩

end Go.Proofs.YtihlpfdhallfpaaDoor
