/-
  Rows of pieces of a call's own: appended to; pieces, and their headers, built. No conditions.
-/
import Derived.Test.YtihlpfdhallfpaaDoorIxR
namespace Go.Proofs.YtihlpfdhallfpaaDoor
open Go.ChangeShapes Go.WideShapes Go.ChangeAt Go.RowKit

def pcL (p : Pc) : List Value := (List.range 126).map (pcC p)
theorem pcL_length (p : Pc) : (pcL p).length = 126 := by simp [pcL]
theorem pcL_get (p : Pc) (j : Nat) (hj : j < 126) : (pcL p)[j]? = some (pcC p j) := by
  unfold pcL
  rw [List.getElem?_map, List.getElem?_range hj]
  rfl
theorem pcL_one (p : Pc) : ∀ u ∈ pcL p, u.oneCell' = true := fun u hu => by
  obtain ⟨j, _, rfl⟩ := List.mem_map.1 hu
  exact pcC_one _ _
def pisC : List Pc → List Value
  | [] => []
  | x :: l => pcL x ++ pisC l
theorem pisC_length : ∀ l : List Pc, (pisC l).length = l.length * 126
  | [] => rfl
  | x :: l => by rw [pisC, List.length_append, pcL_length, pisC_length l, List.length_cons]; omega
theorem pisC_append : ∀ (l m : List Pc), pisC (l ++ m) = pisC l ++ pisC m
  | [], m => rfl
  | x :: l, m => by rw [List.cons_append, pisC, pisC, pisC_append l m, List.append_assoc]
theorem pisC_get : ∀ (l : List Pc) (i j : Nat), i < l.length → j < 126 → (pisC l)[i * 126 + j]? = some (pcC (l.getD i pcN) j)
  | [], i, j, h, _ => by simp at h
  | x :: l, 0, j, _, hj => by
    rw [pisC, List.getElem?_append_left (by rw [pcL_length]; omega), Nat.zero_mul, Nat.zero_add, pcL_get x j hj]
    rfl
  | x :: l, i + 1, j, h, hj => by
    rw [pisC, List.getElem?_append_right (by rw [pcL_length]; omega), pcL_length, show (i + 1) * 126 + j - 126 = i * 126 + j by omega, pisC_get l i j (by simpa using h) hj]
    simp
theorem own_pisl {w : World} {B n : Nat} {v : Value} {l : List Pc} (h : w.ownsRow B 37 126 v n (pisC l)) : ∃ a c, v = .slice a n c := by
  rcases h.2 with ⟨rfl, rfl⟩ | ⟨g, cap, cur, rfl, _⟩
  · exact ⟨none, 0, rfl⟩
  · exact ⟨_, cap, rfl⟩
theorem own_pis {w : World} {B : Nat} {a : Option Addr} {n c : Nat} {l : List Pc} (h : w.ownsRow B 37 126 (.slice a n c) n (pisC l)) (he : ∀ x ∈ l, PcAt w x) (hs : n ≤ 140737488355328) : PisAt w a n c l := by
  have hl : l.length = n := by
    have := h.1
    rw [pisC_length] at this
    omega
  rcases h.2 with ⟨h1, h2⟩ | ⟨g, cap, cur, h1, _, _, hc1, hc2, _, _⟩
  · simp only [Value.slice.injEq] at h1
    obtain ⟨rfl, rfl, rfl⟩ := h1
    exact ⟨hl, Nat.le_refl _, by omega, by omega, he, fun h0 => by omega, fun _ => rfl⟩
  · simp only [Value.slice.injEq] at h1
    obtain ⟨rfl, _, rfl⟩ := h1
    refine ⟨hl, hc1, by unfold maxLen at hc2; omega, hs, he, fun h0 => ⟨g, 0, rfl, fun i hi j hj => ?_⟩, fun h0 => by cases h0⟩
    have h1 := h.cells (g := g) rfl (i * 126 + j) _ (pisC_get l i j (by omega) hj)
    rw [addr_add] at h1
    rw [← h1]
    simp
set_option maxRecDepth 100000 in
theorem info_pc : (Tryd.prog.info? 37).map (fun i => (i.zero, i.size, i.bytes)) = some (some (.agg (pcV pcZ)), 126, 256) := by kernel_rfl

theorem exec_append_pc {w : World} {o : Oper} {ev : Operand → Value} (s x : Operand) (ho : o.op = .call { callee := .builtin .append, args := #[s, x], argTypes := #[24, 24] })
    (B : Nat) (v : Value) (n : Nat) (l : List Pc) (hs : ev s = v) (hown : w.ownsRow B 37 126 v n (pisC l))
    (q c : Nat) (y : Pc) (hx : ev x = .slice (some ⟨q, 0, none⟩) 1 c) (hq : ∀ j, j < 126 → w.cell? ⟨q, j, none⟩ = some (pcC y j)) (hsz : n ≤ 100000) (hB : B ≤ w.heap.size) :
    ∃ v' w', (execOp ev o).run Tryd.prog w = .ok (.value v') w' ∧ w'.ownsRow B 37 126 v' (n + 1) (pisC (l ++ [y])) ∧ w.grownBy w' v.ownBlock ∧ (v'.ownBlock = v.ownBlock ∨ v'.ownBlock = some w.heap.size) := by
  obtain ⟨i0, hi, hz0, hz1, hz2⟩ := info_parts info_pc
  have hnews : ∀ j u, (pcL y)[j]? = some u → w.cell? ((⟨q, 0, none⟩ : Addr).add j) = some u := fun j u hu => by
    have hj : j < 126 := by
      have := (List.getElem?_eq_some_iff.1 hu).1
      rwa [pcL_length] at this
    rw [pcL_get y j hj] at hu
    obtain rfl := Option.some.inj hu
    rw [addr_add, Nat.zero_add]
    exact hq j hj
  have h63 : n + 1 ≤ maxLen := by unfold maxLen; omega
  obtain ⟨v', w', hr, h2, h3, _⟩ := run_append_own (P := Tryd.prog) w B 24 o.type 37 i0 (.agg (pcV pcZ)) 126 256 Tryd.underlying24 hi hz0 hz1 hz2 (by kernel_rfl) (by decide) v n (pisC l) hown ⟨q, 0, none⟩ 1 c (pcL y) (by rw [pcL_length]) hnews (pcL_one y) h63 (by omega) hB
  have h4 := append_where (P := Tryd.prog) Tryd.underlying24 hi hz0 hz1 hz2 hown (by rw [pcL_length]) hnews (pcL_one y) h63 (by omega) hr
  refine ⟨v', w', ?_, by rw [pisC_append, pisC, pisC, List.append_nil]; exact h2, h3, h4⟩
  simp only [execOp, ho, resolve, invoke, builtin, Sem.run_bind, Sem.run_pure, Result.andThen_ok, List.map_toArray, List.map_cons, List.map_nil, hs, hx, hr]
theorem append_pc {w : World} {ops : Array Oper} {rest : List Oper} {o : Oper} {a : Act} {Q : Exit → Act → World → Prop} (hw : Region.wanted o (yielded ops a.tmps) = true) (s x : Operand) (ho : o.op = .call { callee := .builtin .append, args := #[s, x], argTypes := #[24, 24] })
    (B : Nat) (v : Value) (n : Nat) (l : List Pc) (hs : a.eval s = v) (hown : w.ownsRow B 37 126 v n (pisC l))
    (q c : Nat) (y : Pc) (hx : a.eval x = .slice (some ⟨q, 0, none⟩) 1 c) (hq : ∀ j, j < 126 → w.cell? ⟨q, j, none⟩ = some (pcC y j)) (hsz : n ≤ 100000) (hB : B ≤ w.heap.size)
    (h : ∀ v' w', w'.ownsRow B 37 126 v' (n + 1) (pisC (l ++ [y])) → w.grownBy w' v.ownBlock → (v'.ownBlock = v.ownBlock ∨ v'.ownBlock = some w.heap.size) → wpList Tryd.prog ops Q rest (a.put o.dst v') w') : wpList Tryd.prog ops Q (o :: rest) a w := by
  obtain ⟨v', w', hr, h1, h2, h3⟩ := exec_append_pc (ev := a.eval) s x ho B v n l hs hown q c y hx hq hsz hB
  refine wpList_want hw fun K hK => ?_
  unfold Oper.wp
  rw [hr]
  exact hK _ _ (h v' w' h1 h2 h3)
theorem luc_append_pc {w : World} {o : Oper} {ev : Operand → Value} {C : World → Prop} {E : World → World → Prop} {sp : Sp} (s x : Operand) (ho : o.op = .call { callee := .builtin .append, args := #[s, x], argTypes := #[24, 24] })
    (B : Nat) (v : Value) (n : Nat) (l : List Pc) (hs : ev s = v) (hown : w.ownsRow B 37 126 v n (pisC l))
    (q c : Nat) (y : Pc) (hx : ev x = .slice (some ⟨q, 0, none⟩) 1 c) (hq : ∀ j, j < 126 → w.cell? ⟨q, j, none⟩ = some (pcC y j)) (hsz : n ≤ 100000) (hB : B ≤ w.heap.size)
    (hf : ∀ v' w', w'.ownsRow B 37 126 v' (n + 1) (pisC (l ++ [y])) → w.grownBy w' v.ownBlock → (v'.ownBlock = v.ownBlock ∨ v'.ownBlock = some w.heap.size) → C w' ∧ E w w' ∧ sp.holds v' w') : lexUponC Tryd.prog C E w sp ((execOp ev o).run Tryd.prog w) := by
  obtain ⟨v', w', hr, h1, h2, h3⟩ := exec_append_pc s x ho B v n l hs hown q c y hx hq hsz hB
  rw [hr]
  exact hf v' w' h1 h2 h3
set_option maxRecDepth 100000 in
theorem build_pc1 (w : World) (p : Pc) : (Instr.buildSlice 24 1 #[(0, .agg (pcV p))]).run Tryd.prog w = .ok (.slice (some ⟨w.heap.size, 0, none⟩) 1 1) (w.alloc (.cells (pcV p) 37)) := by kernel_rfl
theorem lu_pc1 {w : World} {o : Oper} {ev : Operand → Value} {x : Operand} {p : Pc} {F : Value → World → Prop} (ho : o.op = .buildSlice 24 1 #[(0, x)]) (hx : ev x = .agg (pcV p)) (hf : F (.slice (some ⟨w.heap.size, 0, none⟩) 1 1) (w.alloc (.cells (pcV p) 37))) : lexUpon Tryd.prog w (.ab F) ((execOp ev o).run Tryd.prog w) := by
  simp only [execOp, ho, List.map_toArray, List.map_cons, List.map_nil, hx, Sem.run_bind, build_pc1, Result.andThen_ok, Sem.run_pure]
  exact ⟨(Ext.refl w).alloc _, hf⟩
theorem wp_build_pc1 {ops : Array Oper} {Q : Exit → Act → World → Prop} {rest : List Oper} {o : Oper} {a : Act} {w : World} (hw : Region.wanted o (yielded ops a.tmps) = true) (x : Operand) (ho : o.op = .buildSlice 24 1 #[(0, x)])
    (p : Pc) (A : Array Value) (hA : pcV p = A) (hx : a.eval x = .agg A)
    (k : wpList Tryd.prog ops Q rest (a.put o.dst (.slice (some ⟨w.heap.size, 0, none⟩) 1 1)) (w.alloc (.cells A 37))) : wpList Tryd.prog ops Q (o :: rest) a w := by
  subst hA
  refine wpList_want hw fun K hK => ?_
  unfold Oper.wp execOp
  simp only [ho, List.map_toArray, List.map_cons, List.map_nil, hx, Sem.run_bind, build_pc1, Result.andThen_ok, Sem.run_pure]
  exact hK _ _ k

/-- A header of a writer's own, of 80 bytes. -/
def hdW (wr sq : Int) : Hd := { hdN with writer := wr, seq := sq, size := 80 }
set_option maxRecDepth 100000 in
theorem build_hdW (w : World) (wr sq : Int) : (Instr.build 34 #[(0, .int .i64 wr), (1, .int .u64 sq), (10, .int .i64 80)]).run Tryd.prog w = .ok (.agg (hdV (hdW wr sq))) w := by kernel_rfl
theorem wp_build_hdW {ops : Array Oper} {Q : Exit → Act → World → Prop} {rest : List Oper} {o : Oper} {a : Act} {w : World} (hw : Region.wanted o (yielded ops a.tmps) = true) (x y z : Operand) (ho : o.op = .build 34 #[(0, x), (1, y), (10, z)])
    (wr sq : Int) (hx : a.eval x = .int .i64 wr) (hy : a.eval y = .int .u64 sq) (hz : a.eval z = .int .i64 80) (A : Array Value) (hA : hdV (hdW wr sq) = A)
    (k : wpList Tryd.prog ops Q rest (a.put o.dst (.agg A)) w) : wpList Tryd.prog ops Q (o :: rest) a w := by
  subst hA
  refine wpList_want hw fun K hK => ?_
  unfold Oper.wp execOp
  simp only [ho, List.map_toArray, List.map_cons, List.map_nil, hx, hy, hz, Sem.run_bind, build_hdW, Result.andThen_ok, Sem.run_pure]
  exact hK _ _ k
theorem pcV_of (p : Pc) : pcV p = rowArr 126 (fun i => if i < 125 then hdC p.hd.1 i else .slice p.ba p.bd.length p.bc) := rfl
set_option maxRecDepth 100000 in
theorem build_pcW (w : World) (h : Hd) (a : Option Addr) (n c : Nat) : (Instr.build 37 #[(0, .agg (hdV h)), (1, .slice a n c)]).run Tryd.prog w = .ok (.agg (rowArr 126 (fun i => if i < 125 then hdC h i else .slice a n c))) w := by kernel_rfl
theorem wp_build_pcW {ops : Array Oper} {Q : Exit → Act → World → Prop} {rest : List Oper} {o : Oper} {a : Act} {w : World} (hw : Region.wanted o (yielded ops a.tmps) = true) (x y : Operand) (ho : o.op = .build 37 #[(0, x), (1, y)])
    (p : Pc) (H : Array Value) (hH : hdV p.hd.1 = H) (n : Nat) (hn : p.bd.length = n) (hx : a.eval x = .agg H) (hy : a.eval y = .slice p.ba n p.bc) (A : Array Value) (hA : pcV p = A)
    (k : wpList Tryd.prog ops Q rest (a.put o.dst (.agg A)) w) : wpList Tryd.prog ops Q (o :: rest) a w := by
  subst hA hH hn
  refine wpList_want hw fun K hK => ?_
  unfold Oper.wp execOp
  simp only [ho, List.map_toArray, List.map_cons, List.map_nil, hx, hy, Sem.run_bind, build_pcW, Result.andThen_ok, Sem.run_pure]
  exact hK _ _ k

/-- What a header must be to be formed, where it has no tokens. -/
theorem hdB_plain (h : Hd) (hw : 1 ≤ h.writer ∧ h.writer ≤ 6) (hs : 1 ≤ h.seq ∧ h.seq ≤ 1048576) (he : 0 ≤ h.epoch ∧ h.epoch ≤ 255) (ht : h.time ≤ 1099511627776) (hk : h.knows (h.writer - 1).toNat = h.seq - 1) (hkn : ∀ j, j < 6 → h.knows j ≤ 1048576)
    (hp : 1 < h.seq ∨ ∀ j, j < 32 → h.prev j = 0) (htn : h.tn = 0) (hsz : h.size = 80) (hc : h.ctl = false) : hdB h [] = true := by
  unfold hdB placedB numsB knB
  have h1 : (decide (1 ≤ h.writer ∧ h.writer ≤ 6 ∧ 1 ≤ h.seq ∧ h.seq ≤ 1048576 ∧ 0 ≤ h.epoch ∧ h.epoch ≤ 255 ∧ h.time ≤ 1099511627776 ∧ h.knows (h.writer - 1).toNat = h.seq - 1)) = true := decide_eq_true ⟨hw.1, hw.2, hs.1, hs.2, he.1, he.2, ht, hk⟩
  have h2 : ((List.range 6).all fun i => decide (h.knows i ≤ 1048576)) = true := by
    rw [List.all_eq_true]
    intro i hi
    exact decide_eq_true (hkn i (List.mem_range.1 hi))
  have h3 : (decide (1 < h.seq) || zeroB 32 h.prev) = true := by
    rcases hp with q | q
    · rw [decide_eq_true q]; rfl
    · unfold zeroB
      rw [decide_eq_true q, Bool.or_true]
  have h4 : isB (h.size - 16) = true := by rw [hsz]; decide
  rw [h1, h2, h3, h4, htn, hc]
  rfl
theorem arrB_self (n : Nat) (f : Nat → Int) : arrB n f f = true := by
  unfold arrB
  exact decide_eq_true (fun _ _ => rfl)

end Go.Proofs.YtihlpfdhallfpaaDoor
