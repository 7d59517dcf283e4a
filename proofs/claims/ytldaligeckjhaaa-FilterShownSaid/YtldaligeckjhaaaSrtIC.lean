/-
  Rows of items: appended to; an item as a slice of one. No conditions but the length.
  Items sorted by their tokens: slices.SortFunc by item.Fold's own comparison, at rows of items of a call's own. No conditions.
  slices.SortFunc at rows of items of a call's own: a permutation, sorted. No conditions.
-/
import Derived.Test.YtldaligeckjhaaaMade
import Derived.Test.YtldaligeckjhaaaTwP
import Derived.Sort.OwnSortedInts
import Derived.Deep.QuietTactic
import Derived.WalkKit
import Derived.ProofKit
import Derived.BigQuiet
import Derived.Shelf.SlSortCmp.WholeK
import Derived.Test.YtldaligeckjhaaaSort
import Derived.Shelf.SlSortCmp.NoneTotal
namespace Go.Proofs.Ytldaligeckjhaaa
open Go.ChangeAt Go.ChangeShapes Go.RowKit Go.Sort Go.WideShapes

def itL (t : It) : List Value := (List.range 146).map (itC t)
theorem itL_length (t : It) : (itL t).length = 146 := by simp [itL]
theorem itL_get (t : It) (j : Nat) (hj : j < 146) : (itL t)[j]? = some (itC t j) := by
  unfold itL
  rw [List.getElem?_map, List.getElem?_range hj]
  rfl
theorem itL_arr (t : It) : (itL t).toArray = itV t := rfl
theorem itL_one (t : It) : ∀ u ∈ itL t, u.oneCell' = true := fun u hu => by
  obtain ⟨j, _, rfl⟩ := List.mem_map.1 hu
  exact itC_one _ _
def itsC : List It → List Value
  | [] => []
  | x :: l => itL x ++ itsC l
theorem itsC_length : ∀ l : List It, (itsC l).length = l.length * 146
  | [] => rfl
  | x :: l => by rw [itsC, List.length_append, itL_length, itsC_length l, List.length_cons]; omega
theorem itsC_append : ∀ (l m : List It), itsC (l ++ m) = itsC l ++ itsC m
  | [], m => rfl
  | x :: l, m => by rw [List.cons_append, itsC, itsC, itsC_append l m, List.append_assoc]
theorem itsC_get : ∀ (l : List It) (i j : Nat), i < l.length → j < 146 → (itsC l)[i * 146 + j]? = some (itC (l.getD i itN) j)
  | [], i, j, h, _ => by simp at h
  | x :: l, 0, j, _, hj => by
    rw [itsC, List.getElem?_append_left (by rw [itL_length]; omega), Nat.zero_mul, Nat.zero_add, itL_get x j hj]
    rfl
  | x :: l, i + 1, j, h, hj => by
    rw [itsC, List.getElem?_append_right (by rw [itL_length]; omega), itL_length, show (i + 1) * 146 + j - 146 = i * 146 + j by omega, itsC_get l i j (by simpa using h) hj]
    simp
theorem itsC_one : ∀ (l : List It), ∀ u ∈ itsC l, u.oneCell' = true
  | [], u, h => by cases h
  | x :: l, u, h => by
    rw [itsC, List.mem_append] at h
    rcases h with h | h
    · exact itL_one x u h
    · exact itsC_one l u h
set_option maxRecDepth 100000 in
theorem info_it : (Try.prog.info? 41).map (fun i => (i.zero, i.size, i.bytes)) = some (some (.agg (itV itN)), 146, 312) := by kernel_rfl
theorem own_itsl {w : World} {B n : Nat} {v : Value} {l : List It} (h : w.ownsRow B 41 146 v n (itsC l)) : ∃ a c, v = .slice a n c := by
  rcases h.2 with ⟨rfl, rfl⟩ | ⟨g, cap, cur, rfl, _⟩
  · exact ⟨none, 0, rfl⟩
  · exact ⟨_, cap, rfl⟩
theorem exec_append_it {w : World} {o : Oper} {ev : Operand → Value} (s x : Operand) (ho : o.op = .call { callee := .builtin .append, args := #[s, x], argTypes := #[49, 49] })
    (B : Nat) (v : Value) (n : Nat) (l : List It) (hs : ev s = v) (hown : w.ownsRow B 41 146 v n (itsC l))
    (q c : Nat) (y : It) (hx : ev x = .slice (some ⟨q, 0, none⟩) 1 c) (hq : ∀ j, j < 146 → w.cell? ⟨q, j, none⟩ = some (itC y j)) (hsz : n ≤ 1000000) (hB : B ≤ w.heap.size) :
    ∃ v' w', (execOp ev o).run Try.prog w = .ok (.value v') w' ∧ w'.ownsRow B 41 146 v' (n + 1) (itsC (l ++ [y])) ∧ w.grownBy w' v.ownBlock ∧ (v'.ownBlock = v.ownBlock ∨ v'.ownBlock = some w.heap.size) := by
  obtain ⟨i0, hi, hz0, hz1, hz2⟩ := info_parts info_it
  have hnews : ∀ j u, (itL y)[j]? = some u → w.cell? ((⟨q, 0, none⟩ : Addr).add j) = some u := fun j u hu => by
    have hj : j < 146 := by
      have := (List.getElem?_eq_some_iff.1 hu).1
      rwa [itL_length] at this
    rw [itL_get y j hj] at hu
    obtain rfl := Option.some.inj hu
    rw [addr_add, Nat.zero_add]
    exact hq j hj
  have h63 : n + 1 ≤ maxLen := by unfold maxLen; omega
  obtain ⟨v', w', hr, h2, h3, _⟩ := run_append_own (P := Try.prog) w B 49 o.type 41 i0 (.agg (itV itN)) 146 312 Try.underlying49 hi hz0 hz1 hz2 (by kernel_rfl) (by decide) v n (itsC l) hown ⟨q, 0, none⟩ 1 c (itL y) (by rw [itL_length]) hnews (itL_one y) h63 (by omega) hB
  have h4 := append_where (P := Try.prog) Try.underlying49 hi hz0 hz1 hz2 hown (by rw [itL_length]) hnews (itL_one y) h63 (by omega) hr
  refine ⟨v', w', ?_, by rw [itsC_append, itsC, itsC, List.append_nil]; exact h2, h3, h4⟩
  simp only [execOp, ho, resolve, invoke, builtin, Sem.run_bind, Sem.run_pure, Result.andThen_ok, List.map_toArray, List.map_cons, List.map_nil, hs, hx, hr]
theorem append_it {w : World} {ops : Array Oper} {rest : List Oper} {o : Oper} {a : Act} {Q : Exit → Act → World → Prop} (hw : Region.wanted o (yielded ops a.tmps) = true) (s x : Operand) (ho : o.op = .call { callee := .builtin .append, args := #[s, x], argTypes := #[49, 49] })
    (B : Nat) (v : Value) (n : Nat) (l : List It) (hs : a.eval s = v) (hown : w.ownsRow B 41 146 v n (itsC l))
    (q c : Nat) (y : It) (hx : a.eval x = .slice (some ⟨q, 0, none⟩) 1 c) (hq : ∀ j, j < 146 → w.cell? ⟨q, j, none⟩ = some (itC y j)) (hsz : n ≤ 1000000) (hB : B ≤ w.heap.size)
    (h : ∀ v' w', w'.ownsRow B 41 146 v' (n + 1) (itsC (l ++ [y])) → w.grownBy w' v.ownBlock → (v'.ownBlock = v.ownBlock ∨ v'.ownBlock = some w.heap.size) → wpList Try.prog ops Q rest (a.put o.dst v') w') : wpList Try.prog ops Q (o :: rest) a w := by
  obtain ⟨v', w', hr, h1, h2, h3⟩ := exec_append_it (ev := a.eval) s x ho B v n l hs hown q c y hx hq hsz hB
  refine wpList_want hw fun K hK => ?_
  unfold Oper.wp
  rw [hr]
  exact hK _ _ (h v' w' h1 h2 h3)
set_option maxRecDepth 100000 in
theorem build_its1 (w : World) (p : It) : (Instr.buildSlice 49 1 #[(0, .agg (itV p))]).run Try.prog w = .ok (.slice (some ⟨w.heap.size, 0, none⟩) 1 1) (w.alloc (.cells (itV p) 41)) := by kernel_rfl
theorem wp_build_its1 {ops : Array Oper} {Q : Exit → Act → World → Prop} {rest : List Oper} {o : Oper} {a : Act} {w : World} (hw : Region.wanted o (yielded ops a.tmps) = true) (x : Operand) (ho : o.op = .buildSlice 49 1 #[(0, x)])
    (p : It) (A : Array Value) (hA : itV p = A) (hx : a.eval x = .agg A)
    (k : wpList Try.prog ops Q rest (a.put o.dst (.slice (some ⟨w.heap.size, 0, none⟩) 1 1)) (w.alloc (.cells A 41))) : wpList Try.prog ops Q (o :: rest) a w := by
  subst hA
  refine wpList_want hw fun K hK => ?_
  unfold Oper.wp execOp
  simp only [ho, List.map_toArray, List.map_cons, List.map_nil, hx, Sem.run_bind, build_its1, Result.andThen_ok, Sem.run_pure]
  exact hK _ _ k

/-- An item whose token is bytes. -/
abbrev SIt := { t : It // ∀ j, j < 16 → 0 ≤ t.tok j ∧ t.tok j < 256 }
instance : Inhabited SIt := ⟨⟨itN, fun _ _ => ⟨Int.le_refl 0, by show (0 : Int) < 256; omega⟩⟩⟩
def encI (t : SIt) : List Value := itL t.1
def cfI (a b : SIt) : Int := cmpTok a.1.tok b.1.tok
theorem encI_length (t : SIt) : (encI t).length = 146 := itL_length _
theorem encI_one (t : SIt) : ∀ v ∈ encI t, v.oneCell' = true := itL_one _
theorem swoI : SWO (Go.Proofs.ltOf cfI) where
  irrefl x := by
    unfold Go.Proofs.ltOf cfI cmpTok
    rw [cmpI_self]
    rfl
  trans x y z h1 h2 := by
    unfold Go.Proofs.ltOf cfI cmpTok at *
    exact decide_eq_true (cmpI_lt _ _ _ (by simp) (by simp) (of_decide_eq_true h1) (of_decide_eq_true h2))
  ntrans x y z h1 h2 := by
    unfold Go.Proofs.ltOf cfI cmpTok at *
    exact decide_eq_false (cmpI_ge _ _ _ (by simp) (by simp) (of_decide_eq_false h1) (of_decide_eq_false h2))
theorem it_tk {w : World} {g : Nat} {t : It} {T : TypeId} {fr : Nat × Nat} (hb : w.heap[g]? = some (.cells (itV t) T fr)) (ht : ∀ j, j < 16 → 0 ≤ t.tok j ∧ t.tok j < 256) : BsAt w (some ⟨g, 0, none⟩) 16 16 ((List.range 16).map t.tok) :=
  bs_cells (fun i hi => by
    rw [Nat.zero_add, row_cell hb i (by omega)]
    unfold itC
    rw [if_pos hi]) ht (by omega)
theorem encI_arr (t : SIt) : (encI t).toArray = itV t.1 := rfl
set_option maxHeartbeats 1000000 in
set_option maxRecDepth 100000 in
theorem compareI_any (f g : SIt) (w : World) :
    Calls Try.prog 44 #[.agg (encI f).toArray, .agg (encI g).toArray] w fun e w' => e = .returned (.int .i64 (cfI f g)) ∧ ∃ q os', w' = grow (w.drewN q) os' := by
  obtain ⟨w2, hw2⟩ : ∃ x, (w.alloc (.cells (encI f).toArray 41)).alloc (.cells (encI g).toArray 41) = x := ⟨_, rfl⟩
  have h1 : w2.heap[w.heap.size]? = some (.cells (itV f.1) 41 (0, 0)) := by
    rw [← hw2, Below.heap_alloc _ _ _ (by simp)]
    exact heap_new w _ _ rfl
  have h2 : w2.heap[w.heap.size + 1]? = some (.cells (itV g.1) 41 (0, 0)) := by
    rw [← hw2]
    exact heap_new _ _ _ (by simp)
  have HA := Lib.hid (it_tk h1 f.2)
  have HB := Lib.hid (it_tk h2 g.2)
  have hG : w2 = grow w #[.cells (encI f).toArray 41, .cells (encI g).toArray 41] := by
    rw [← hw2, alloc_eq_grow, alloc_eq_grow, grow_grow]
    rfl
  have HG := Lib.hid hG
  have Hw2 := Lib.hid hw2
  have hcf : cfI f g = cmpTok f.1.tok g.1.tok := rfl
  have HBC := Lib.hid (show ∀ n, Calls Try.prog 45 #[.slice (some ⟨w.heap.size, 0, none⟩) 16 16, .slice (some ⟨w.heap.size + 1, 0, none⟩) 16 16] (w2.drewN n) fun e w' => e = .returned (.int .i64 (cfI f g)) ∧ w' = w2.drewN n from fun n => by
    have e : Ext w2 (w2.drewN n) := (Ext.refl w2).drewN' n
    exact bytesCompare_any (HA.out.ext e) (HB.out.ext e))
  obtain ⟨V, hV⟩ : ∃ V, cfI f g = V := ⟨_, rfl⟩
  rw [hV] at HBC ⊢
  obtain ⟨FA, hFA⟩ : ∃ A, (encI f).toArray = A := ⟨_, rfl⟩
  obtain ⟨GA, hGA⟩ : ∃ A, (encI g).toArray = A := ⟨_, rfl⟩
  rw [hFA, hGA] at Hw2 HG ⊢
  clear hw2 h1 h2 HA HB hG hcf hV hFA hGA
  obtain ⟨k, hk⟩ : ∃ k, w.heap.size = k := ⟨_, rfl⟩
  have Hk := Lib.hid hk
  rw [hk] at HBC
  clear hk
  go_enter Try.func44, Try.ntmps44
  go_upto_region 1 with (fail)
  refine wp_world (w' := w2) Hw2.out ?_
  rw [Hk.out]
  clear Hw2 Hk
  go_quiet (first | (go_at_call 45; exact Calls.quiet_of_same (HBC.out _)))
  go_wp2
  go_ret
  exact ⟨rfl, _, _, by rw [HG.out]; rfl⟩

def itLs (ts : List SIt) : List Value := itsC (ts.map (·.1))
theorem flat_get (d : Array SIt) (j : Nat) (hj : j < d.size * 146) : (flatK encI 146 d)[j]! = (itLs d.toList)[j]?.getD undef := by
  rw [get_flatK _ _ _ _ hj]
  have h1 : j / 146 < d.size := by omega
  have h2 := itsC_get (d.toList.map (·.1)) (j / 146) (j % 146) (by simpa using h1) (by omega)
  rw [show j / 146 * 146 + j % 146 = j by omega] at h2
  unfold itLs
  rw [h2, List.getD_eq_getElem?_getD, List.getElem?_map, Array.getElem?_toList, Array.getElem?_eq_getElem h1, getElem!_pos d (j / 146) h1]
  have h3 := itL_get (d[j / 146]).1 (j % 146) (by omega)
  have h4 : (encI d[j / 146])[j % 146]? = some (itC (d[j / 146]).1 (j % 146)) := h3
  rw [List.getElem!_eq_getElem?_getD, h4]
  rfl
theorem put_take (d : Array SIt) (cur : Array Value) (h : d.size * 146 ≤ cur.size) : (putCells id 0 (flatK encI 146 d) cur).toList.take (d.size * 146) = itLs d.toList := by
  apply List.ext_getElem?
  intro j
  by_cases hj : j < d.size * 146
  · rw [List.getElem?_take_of_lt hj, Array.getElem?_toList]
    have h1 := flat_get d j hj
    have h2 : (itLs d.toList)[j]? = some ((flatK encI 146 d)[j]!) := by
      rw [h1, List.getElem?_eq_getElem (by unfold itLs; rw [itsC_length]; simpa using hj)]
      rfl
    rw [h2]
    simp [putCells, hj, show j < cur.size by omega]
  · rw [List.getElem?_take_eq_none (by omega), List.getElem?_eq_none (by unfold itLs; rw [itsC_length]; simp; omega)]
theorem heap_srt {w : World} {g n : Nat} {os : Array Obj} {cur : Array Value} {e : TypeId} {fr : Nat × Nat} (d : Array SIt) (hb : w.heap[g]? = some (.cells cur e fr)) :
    (sortWorldK encI 146 w g 0 n d os).heap[g]? = some (.cells (putCells id 0 (flatK encI 146 d) cur) e fr) := by
  have hg : g < w.heap.size := (Array.getElem?_eq_some_iff.1 hb).1
  unfold sortWorldK putRowK
  rw [heap_grow_old _ _ (by simpa using hg)]
  simp [putRow, mapBlock, Sort.ahead, Array.getElem?_modify, hb, onCells]
theorem grownBy_srt {w : World} {g n : Nat} {os : Array Obj} (d : Array SIt) : w.grownBy (sortWorldK encI 146 w g 0 n d os) (some g) := by
  unfold sortWorldK putRowK
  refine ⟨rfl, rfl, rfl, by simp, fun k hk hne => ?_⟩
  rw [heap_grow_old _ _ (by simpa using hk)]
  have : g ≠ k := fun e => hne (by rw [e])
  simp [putRow, mapBlock, Sort.ahead, Array.getElem?_modify, this]

set_option maxRecDepth 100000 in
theorem sortIt_any {w : World} {B g cap n : Nat} {ts : List SIt} (hn : ts.length = n) (hown : w.ownsRow B 41 146 (.slice (some ⟨g, 0, none⟩) n cap) n (itLs ts)) (hs : n ≤ 1000000) :
    Calls Try.prog 43 #[.slice (some ⟨g, 0, none⟩) n cap, .func (.func 44) #[] #[]] w fun e w' => e = .returned (.tuple #[]) ∧ ∃ us : List SIt, us.length = n ∧ us.Perm ts ∧ (∀ i j, i < j → j < n → ¬ cfI (us.getD j default) (us.getD i default) < 0) ∧ w'.ownsRow B 41 146 (.slice (some ⟨g, 0, none⟩) n cap) n (itLs us) ∧ w.grownBy w' (some g) := by
  have hlt := (hown.lt g rfl).2
  obtain ⟨cur, hB, hb, h1, h2, h3, h4⟩ : ∃ cur, B ≤ g ∧ w.heap[g]? = some (.cells cur 41 (0, 0)) ∧ n ≤ cap ∧ cap ≤ maxLen ∧ cur.size = cap * 146 ∧ cur.toList.take (n * 146) = itLs ts := by
    rcases hown.2 with ⟨e, _⟩ | ⟨g', cap', cur, e, k1, k2, k3, k4, k5, k6⟩
    · cases e
    · simp only [Value.slice.injEq, Option.some.injEq, Addr.mk.injEq, and_true, true_and] at e
      obtain ⟨rfl, rfl⟩ := e
      exact ⟨cur, k1, k2, k3, k4, k5, k6⟩
  have hH : HoldsK encI 146 w g 0 ts.toArray := by
    unfold HoldsK Holds
    intro j hj
    have hj2 : j < n * 146 := by
      rw [size_flatK] at hj
      simpa [hn] using hj
    refine ⟨?_, ?_⟩
    · rw [flat_get _ _ (by rw [size_flatK] at hj; exact hj)]
      have h5 := hown.cells (g := g) rfl j _ (by
        rw [List.getElem?_eq_getElem (by unfold itLs; rw [itsC_length]; simpa [hn] using hj2)])
      rw [addr_add] at h5
      show w.cell? ⟨g, 0 + j, none⟩ = some (id _)
      rw [h5, List.getElem?_eq_getElem (by unfold itLs; rw [itsC_length]; simpa [hn] using hj2)]
      rfl
    · unfold World.frozen?
      simp only [hb]
      simp
  have hcon := AnyQ.slices_SortFunc Try.sortIt 146 Try.isAgg41 Try.sizeOf41 encI encI_length encI_one cfI swoI 44 #[] g 0 cap ts.toArray w (enters_of Try.func44 (by kernel_rfl) rfl) (fun _ _ _ _ x y => compareI_any x y _) hH hlt (by simp [hn]; omega)
  rw [show ts.toArray.size = n by simpa using hn] at hcon
  change Calls Try.prog 43 _ _ _ at hcon
  refine hcon.mono ?_
  rintro e w' ⟨rfl, d', m, os, hp, hso, rfl⟩
  have hsz : d'.size = n := by rw [hp.1]; simpa using hn
  refine ⟨rfl, d'.toList, by simpa using hsz, ?_, fun i j hij hj => ?_, ?_, grownBy_srt d'⟩
  · have h5 := hp.2.2
    have e1 : (d'.extract 0 n).toList = d'.toList := by
      rw [← hsz]
      simp
    have e2 : (ts.toArray.extract 0 n).toList = ts := by
      rw [← hn]
      simp
    rw [e1, e2] at h5
    exact h5
  · have h5 := hso i j (Nat.zero_le _) hij hj
    have e : ∀ k, k < n → d'.toList.getD k default = d'[k]! := fun k hk => by
      rw [List.getD_eq_getElem?_getD, Array.getElem?_toList, Array.getElem?_eq_getElem (by omega), getElem!_pos d' k (by omega)]
      rfl
    rw [e i (by omega), e j hj]
    exact of_decide_eq_false h5
  · refine ⟨by unfold itLs; rw [itsC_length]; simp [hsz], .inr ⟨g, cap, _, rfl, hB, heap_srt d' hb, h1, h2, by simp [putCells, h3], ?_⟩⟩
    rw [← hsz]
    exact put_take d' cur (by rw [h3, hsz]; exact Nat.mul_le_mul_right _ h1)

theorem sortIt_all {w : World} {B c n : Nat} {a : Option Addr} {ts : List SIt} (hn : ts.length = n) (hown : w.ownsRow B 41 146 (.slice a n c) n (itLs ts)) (hs : n ≤ 1000000) :
    Calls Try.prog 43 #[.slice a n c, .func (.func 44) #[] #[]] w fun e w' => e = .returned (.tuple #[]) ∧ ∃ us : List SIt, us.length = n ∧ us.Perm ts ∧ (∀ i j, i < j → j < n → ¬ cfI (us.getD j default) (us.getD i default) < 0) ∧ w'.ownsRow B 41 146 (.slice a n c) n (itLs us) ∧ w.grownBy w' (Value.slice a n c).ownBlock := by
  by_cases h0 : n = 0
  · subst h0
    have hcon := AnyF.slices_SortFunc_none Try.sortIt a c (.func (.func 44) #[] #[]) w
    change Calls Try.prog 43 _ _ _ at hcon
    refine hcon.mono ?_
    rintro e w' ⟨rfl, rfl⟩
    obtain rfl := List.eq_nil_of_length_eq_zero hn
    exact ⟨rfl, [], rfl, List.Perm.refl _, fun i j _ h => by omega, hown, World.grownBy.refl _ _⟩
  · obtain ⟨g, rfl⟩ : ∃ g, a = some ⟨g, 0, none⟩ := by
      rcases hown.2 with ⟨e, h⟩ | ⟨g', cap', cur, e, _⟩
      · exact absurd h h0
      · simp only [Value.slice.injEq] at e
        exact ⟨g', e.1⟩
    exact sortIt_any hn hown hs

end Go.Proofs.Ytldaligeckjhaaa
