/-
  Rows turned round, no place being there twice: the same items. Plain Lean. No conditions.
  The walk of jalousielaw18.ItemTwice: it answers true. No conditions.
  The walk of jalousielaw18.ItemTurned: it answers true. No conditions.
-/
import Derived.Test.YtldaligeckjhaaaTwP
import Derived.Test.YtldaligeckjhaaaFold
import Derived.Test.YtldaligeckjhaaaLater
namespace Go.Proofs.Ytldaligeckjhaaa
open Go.ChangeAt Go.ChangeShapes Go.RowKit Go.WideShapes

/-- Rows of one place. -/
def samP (a b : Rw) : Prop := a.hd.1.writer = b.hd.1.writer ∧ a.hd.1.seq = b.hd.1.seq
/-- No place is there twice. -/
def PlD (l : List Rw) : Prop := ∀ i j, i < j → j < l.length → ¬ samP (l.getD j rwN) (l.getD i rwN)
theorem PlD.ne {l : List Rw} (h : PlD l) {i j : Nat} (hi : i < l.length) (hj : j < l.length) (he : samP (l.getD i rwN) (l.getD j rwN)) : i = j := by
  rcases Nat.lt_trichotomy i j with q | q | q
  · exact absurd ⟨he.1.symm, he.2.symm⟩ (h i j q hj)
  · exact q
  · exact absurd he (h j i q hi)
theorem getD_of_mem {l : List Rw} {r : Rw} (h : r ∈ l) : ∃ i, i < l.length ∧ l.getD i rwN = r := by
  obtain ⟨i, hi, rfl⟩ := List.getElem_of_mem h
  exact ⟨i, hi, by rw [List.getD_eq_getElem?_getD, List.getElem?_eq_getElem hi]; rfl⟩
theorem mem_of_getD {l : List Rw} {i : Nat} (h : i < l.length) : l.getD i rwN ∈ l := by
  rw [List.getD_eq_getElem?_getD, List.getElem?_eq_getElem h]
  exact List.getElem_mem _
theorem PlD.eq {l : List Rw} (h : PlD l) {a b : Rw} (ha : a ∈ l) (hb : b ∈ l) (he : samP a b) : a = b := by
  obtain ⟨i, hi, rfl⟩ := getD_of_mem ha
  obtain ⟨j, hj, rfl⟩ := getD_of_mem hb
  rw [h.ne hi hj he]
theorem cntD {l : List Rw} (h : PlD l) : ∀ k, k ≤ l.length → cntN l k = (l.take k).filter rowB
  | 0, _ => by simp [cntN]
  | k + 1, hk => by
    have ih := cntD h k (by omega)
    have e0 : l.take (k + 1) = l.take k ++ [rwAt l k] := by
      unfold rwAt
      rw [List.take_add_one, List.getElem?_eq_getElem (show k < l.length by omega), List.getD_eq_getElem?_getD, List.getElem?_eq_getElem (show k < l.length by omega)]
      rfl
    have hp : hasPl (rwAt l k) (cntN l k) = false := by
      rw [Bool.eq_false_iff]
      intro hq
      unfold hasPl at hq
      obtain ⟨q, hm, hb⟩ := List.any_eq_true.1 hq
      rw [ih] at hm
      have hm2 := (List.mem_filter.1 hm).1
      obtain ⟨i, hi, e⟩ := List.getElem_of_mem hm2
      rw [List.length_take] at hi
      have e1 : l.getD i rwN = q := by
        rw [List.getD_eq_getElem?_getD, List.getElem?_eq_getElem (show i < l.length by omega), ← e, List.getElem_take]
        rfl
      simp only [plK, rwPl, Bool.and_eq_true, beq_iff_eq] at hb
      have h1 := h i k (by omega) (by omega)
      rw [e1] at h1
      exact h1 ⟨hb.1, hb.2⟩
    show (if _ then _ else _) = _
    rw [hp, ih, e0, List.filter_append]
    by_cases hr : rowB (rwAt l k) = true
    · rw [if_pos ⟨hr, rfl⟩]
      simp [hr]
    · rw [if_neg (fun k => hr k.1)]
      simp [hr]
theorem cntD_mem {l : List Rw} (h : PlD l) (r : Rw) : r ∈ cntN l l.length ↔ r ∈ l ∧ rowB r = true := by
  rw [cntD h l.length (Nat.le_refl _), List.take_length, List.mem_filter]
/-- The rows turned round. -/
def othR (l : List Rw) (q k : Nat) : List Rw := (List.range k).map fun i => l.getD (l.length - 1 - (i + q) % l.length) rwN
theorem othR_length (l : List Rw) (q k : Nat) : (othR l q k).length = k := by simp [othR]
theorem othR_get (l : List Rw) (q k : Nat) {i : Nat} (hi : i < k) : (othR l q k).getD i rwN = l.getD (l.length - 1 - (i + q) % l.length) rwN := by
  unfold othR
  rw [List.getD_eq_getElem?_getD, List.getElem?_map, List.getElem?_range hi]
  rfl
theorem othR_succ (l : List Rw) (q k : Nat) : othR l q (k + 1) = othR l q k ++ [l.getD (l.length - 1 - (k + q) % l.length) rwN] := by
  unfold othR
  rw [List.range_succ, List.map_append]
  rfl
theorem othR_mem (l : List Rw) (q : Nat) (r : Rw) : r ∈ othR l q l.length ↔ r ∈ l := by
  constructor
  · intro h
    obtain ⟨i, hi, rfl⟩ := getD_of_mem h
    rw [othR_length] at hi
    rw [othR_get _ _ _ hi]
    exact mem_of_getD (by omega)
  · intro h
    obtain ⟨j, hj, rfl⟩ := getD_of_mem h
    have h0 : 0 < l.length := by omega
    have h2 := Nat.mod_lt q h0
    have e : ((l.length - 1 - j + (l.length - q % l.length)) % l.length + q) % l.length = l.length - 1 - j := by
      rw [Nat.mod_add_mod, ← Nat.add_mod_mod, show l.length - 1 - j + (l.length - q % l.length) + q % l.length = l.length - 1 - j + l.length by omega, Nat.add_mod_right, Nat.mod_eq_of_lt (by omega)]
    have h3 := othR_get l q l.length (Nat.mod_lt (l.length - 1 - j + (l.length - q % l.length)) h0)
    rw [e, show l.length - 1 - (l.length - 1 - j) = j by omega] at h3
    rw [← h3]
    exact mem_of_getD (by rw [othR_length]; exact Nat.mod_lt _ h0)
theorem othR_pl {l : List Rw} (h : PlD l) (q : Nat) : PlD (othR l q l.length) := fun i j hij hj he => by
  rw [othR_length] at hj
  rw [othR_get _ _ _ hj, othR_get _ _ _ (show i < l.length by omega)] at he
  have h0 : 0 < l.length := by omega
  have a1 := Nat.mod_lt (j + q) h0
  have a2 := Nat.mod_lt (i + q) h0
  have h1 := h.ne (show l.length - 1 - (j + q) % l.length < l.length by omega) (show l.length - 1 - (i + q) % l.length < l.length by omega) he
  have h2 : (j + q) % l.length = (i + q) % l.length := by omega
  have h3 := Nat.div_add_mod (j + q) l.length
  have h4 := Nat.div_add_mod (i + q) l.length
  rw [h2] at h3
  have h5 : l.length * ((j + q) / l.length) + i = l.length * ((i + q) / l.length) + j := by omega
  rcases Nat.lt_trichotomy ((j + q) / l.length) ((i + q) / l.length) with t | t | t
  · have h6 := Nat.mul_le_mul_left l.length (show (j + q) / l.length + 1 ≤ (i + q) / l.length from t)
    rw [Nat.mul_add, Nat.mul_one] at h6
    omega
  · rw [t] at h5
    omega
  · have h6 := Nat.mul_le_mul_left l.length (show (i + q) / l.length + 1 ≤ (j + q) / l.length from t)
    rw [Nat.mul_add, Nat.mul_one] at h6
    omega
/-- Of rows of different places the latest is one, whatever their order. -/
theorem topR_perm {p : Rw → Bool} {L M : List Rw} (hm : ∀ r, r ∈ L ↔ r ∈ M) (hd : ∀ a ∈ L, ∀ b ∈ L, samP a b → a = b) : topR p L = topR p M ∧ (L.filter p = [] ↔ M.filter p = []) := by
  have hf : ∀ r, r ∈ L.filter p ↔ r ∈ M.filter p := fun r => by rw [List.mem_filter, List.mem_filter, hm r]
  have he : L.filter p = [] ↔ M.filter p = [] := by
    rw [List.eq_nil_iff_forall_not_mem, List.eq_nil_iff_forall_not_mem]
    exact ⟨fun h r hr => h r ((hf r).2 hr), fun h r hr => h r ((hf r).1 hr)⟩
  refine ⟨?_, he⟩
  by_cases h0 : L.filter p = []
  · rw [show topR p L = rwN by unfold topR; rw [h0]; rfl, show topR p M = rwN by unfold topR; rw [he.1 h0]; rfl]
  · have h1 := fun e => h0 (he.2 e)
    have key : ∀ (A B : List Rw), (∀ r, r ∈ A ↔ r ∈ B) → B ≠ [] → ∀ r ∈ A, ¬ latB r (maxN B B.length) = true := fun A B hAB hB r hr => by
      obtain ⟨i, hi, e⟩ := getD_of_mem ((hAB r).1 hr)
      have h2 := maxN_top B B.length (Nat.le_refl _) i hi
      have e2 : rwAt B i = r := e
      rw [e2] at h2
      exact h2
    have hl : 0 < (L.filter p).length := List.length_pos_iff.2 h0
    have hl2 : 0 < (M.filter p).length := List.length_pos_iff.2 h1
    have m1 := maxN_mem (L.filter p) _ hl (Nat.le_refl _)
    have m2 := maxN_mem (M.filter p) _ hl2 (Nat.le_refl _)
    have k1 := key (L.filter p) (M.filter p) hf h1 _ m1
    have k2 := key (M.filter p) (L.filter p) (fun r => (hf r).symm) h0 _ m2
    unfold topR
    refine hd _ (List.mem_filter.1 m1).1 _ ((hm _).2 (List.mem_filter.1 m2).1) ?_
    rw [latB_iff] at k1 k2
    unfold samP
    omega
theorem made_perm {x : Nat → Int} {L M : List Rw} {t : It} (hm : ∀ r, r ∈ L ↔ r ∈ M) (hd : ∀ a ∈ L, ∀ b ∈ L, samP a b → a = b) (h : IsMade x L t) : IsMade x M t := by
  have e1 := (topR_perm (p := fun _ => true) hm hd).1
  have e2 := (topR_perm (p := fun r => r.kn) hm hd).1
  have e3 := topR_perm (p := valB) hm hd
  have el : livB L = livB M := by
    unfold livB
    rw [e3.1]
    congr 1
    refine decide_eq_decide.2 ?_
    rw [List.length_pos_iff, List.length_pos_iff]
    exact not_congr e3.2
  obtain ⟨a, c, eh⟩ := h.hd
  exact ⟨h.tok, ⟨a, c, by rw [eh, e1]⟩, by rw [h.kn, e1], by rw [h.name, e2], by rw [h.al, el], by rw [h.tags, el, e2], by rw [h.val, el, e3.1]⟩
theorem FoldIs.perm {cs ds : List Rw} {its : List It} (hm : ∀ r, r ∈ cs ↔ r ∈ ds) (hd : ∀ a ∈ cs, ∀ b ∈ cs, samP a b → a = b) (h : FoldIs cs its) : FoldIs ds its := by
  have hf : ∀ x r, r ∈ ofTok x cs ↔ r ∈ ofTok x ds := fun x r => by
    unfold ofTok
    rw [List.mem_filter, List.mem_filter, hm r]
  refine ⟨h.rise, fun t ht => ?_, fun r hr => h.all r ((hm r).2 hr)⟩
  obtain ⟨h1, h2⟩ := h.made t ht
  refine ⟨made_perm (hf t.tok) (fun a ha b hb => hd a (ofTok_mem ha).1 b (ofTok_mem hb).1) h1, fun e => h2 ?_⟩
  rw [List.eq_nil_iff_forall_not_mem] at e ⊢
  exact fun r hr => e r ((hf t.tok r).1 hr)
/-- Turned round, the rows that count are the same. -/
theorem turn_is {l : List Rw} (h : PlD l) (q : Nat) {its : List It} (k : FoldIs (cntN (othR l q l.length) l.length) its) : FoldIs (cntN l l.length) its := by
  have h2 := othR_pl h q
  have hl : (othR l q l.length).length = l.length := othR_length _ _ _
  have c2 := fun r => cntD_mem h2 r
  rw [hl] at c2
  refine k.perm (fun r => ?_) (fun a ha b hb hs => h2.eq ((c2 a).1 ha).1 ((c2 b).1 hb).1 hs)
  rw [c2 r, cntD_mem h r, othR_mem]

/-- Rows joined to rows of one's own. -/
theorem wp_app {w : World} {ops : Array Oper} {rest : List Oper} {o : Oper} {a : Act} {Q : Exit → Act → World → Prop} (hw : Region.wanted o (yielded ops a.tmps) = true) (s x : Operand) (ho : o.op = .call { callee := .builtin .append, args := #[s, x], argTypes := #[22, 22] })
    {S n : Nat} {l : List Rw} {v : Value} (hs : a.eval s = v) (hown : OwnR S n l v w) {u : Value} {m : Nat} {l2 : List Rw} (hu : a.eval x = u) (hx : ∃ b c, u = .slice b m c ∧ RwsAt w b m c l2) (hsz : n + m ≤ 1000000) (hS : S ≤ w.heap.size)
    (h : ∀ v' w', OwnR S (n + m) (l ++ l2) v' w' → Below S w w' → wpList Try.prog ops Q rest (a.put o.dst v') w') : wpList Try.prog ops Q (o :: rest) a w := by
  obtain ⟨v', w', hr, h1, h2⟩ := app_own hown hx hsz hS o.type
  refine wpList_want hw fun K hK => ?_
  have e : (execOp a.eval o).run Try.prog w = .ok (.value v') w' := by
    simp only [execOp, ho, resolve, invoke, builtin, Sem.run_bind, Sem.run_pure, Result.andThen_ok, List.map_toArray, List.map_cons, List.map_nil, hs, hu, hr]
  unfold Oper.wp
  rw [e]
  refine hK _ _ (h v' w' h1 ?_)
  rcases h2 with h2 | ⟨_, _, _, h3⟩
  · exact Below.mono h2 hS
  · exact h3
theorem wp_build_rws0 {ops : Array Oper} {Q : Exit → Act → World → Prop} {rest : List Oper} {o : Oper} {a : Act} {w : World} (hw : Region.wanted o (yielded ops a.tmps) = true) (ho : o.op = .buildSlice 22 0 #[])
    (k : wpList Try.prog ops Q rest (a.put o.dst (.slice (some ⟨w.heap.size, 0, none⟩) 0 0)) (w.alloc (.cells #[] 36))) : wpList Try.prog ops Q (o :: rest) a w := by
  refine wpList_want hw fun K hK => ?_
  unfold Oper.wp execOp
  simp only [ho, List.map_toArray, List.map_nil, Sem.run_bind, build_rw0, Result.andThen_ok, Sem.run_pure]
  exact hK _ _ k
set_option maxRecDepth 100000 in
theorem size_itm (w : World) : (sizeOf 41).run Try.prog w = .ok 146 w := by kernel_rfl
theorem lu_iidx {w : World} {o : Oper} {ev : Operand → Value} {x y : Operand} {b off n c k : Nat} (ho : o.op = .indexAddr 49 x y) (hx : ev x = .slice (some ⟨b, off, none⟩) n c) (hy : ev y = .int .i64 (k : Int)) (hk : k < n) :
    lexUpon Try.prog w (.ex (.pointer (some ⟨b, off + k * 146, none⟩))) ((execOp ev o).run Try.prog w) := by
  have hr : (Instr.indexAt 49 (.slice (some ⟨b, off, none⟩) n c) (.int .i64 (k : Int))).run Try.prog w = .ok (.pointer (some ⟨b, off + k * 146, none⟩)) w := by
    have hb : (0 : Int) ≤ (k : Int) ∧ (k : Int) < (n : Int) := by omega
    simp only [Instr.indexAt, asIntOf, Sem.run_bind, Sem.run_pure, Result.andThen_ok, run_underlying Try.underlying49, hb, and_self, if_true, size_itm, Int.toNat_natCast, add_none]
  simp only [execOp, ho, hx, hy, Sem.run_bind, hr, Result.andThen_ok, Sem.run_pure]
  exact ⟨Ext.refl _, rfl⟩
/-- Items side by side. -/
theorem own_its {w : World} {B n c : Nat} {a : Option Addr} {l : List It} (h : w.ownsRow B 41 146 (.slice a n c) n (itsC l)) : n ≤ 9223372036854775807 ∧ (0 < n → ∃ g, a = some ⟨g, 0, none⟩ ∧ ∀ i, i < n → w.rangeAt g (i * 146) (itL (l.getD i itN))) := by
  have hl : l.length = n := by
    have := h.1
    rw [itsC_length] at this
    omega
  refine ⟨?_, fun h0 => ?_⟩
  · rcases h.2 with ⟨_, e⟩ | ⟨g, cap, cur, e, _, _, k1, k2, _⟩
    · omega
    · unfold maxLen at k2
      omega
  rcases h.2 with ⟨_, e⟩ | ⟨g, cap, cur, e, _⟩
  · omega
  · simp only [Value.slice.injEq] at e
    obtain ⟨rfl, _⟩ := e
    refine ⟨g, rfl, fun i hi j u hu => ?_⟩
    have hj : j < 146 := by
      have := (List.getElem?_eq_some_iff.1 hu).1
      rwa [itL_length] at this
    rw [itL_get _ j hj] at hu
    obtain rfl := Option.some.inj hu
    have h2 := h.cells (g := g) rfl (i * 146 + j) _ (itsC_get l i j (by omega) hj)
    rw [addr_add, Nat.zero_add] at h2
    exact h2
set_option maxHeartbeats 8000000 in
set_option maxRecDepth 100000 in
theorem lawTw_any (a : Option Addr) (n c : Nat) (l : List Rw) (w : World) (h : RwsAt w a n c l) :
    Calls Try.prog 5 #[.slice a n c] w fun e w' => e = .returned (.bool true) ∧ Ext w w' := by
  have hcap := h.cap
  have hlim := h.lim
  have H := Lib.hid h
  have HLen := Lib.hid h.len
  have HAw := Lib.hid (awake18_any w)
  clear h
  go_enter Try.func5, Try.ntmps5
  go_wp2_with fail
  refine HAw.out.mono ?_
  rintro e w3 ⟨rfl, hE3⟩
  have HE3 := Lib.hid hE3
  have HFew := Lib.hid (fewR_any a n c l 25 w3 (H.out.ext hE3))
  clear hE3 HAw
  go_wp2_with fail
  refine HFew.out.mono ?_
  rintro e w4 ⟨R, rfl, hR, hE4⟩
  have HE4 := Lib.hid (HE3.out.trans hE4)
  have HRn := Lib.hid hR
  clear hE4 hR HFew HE3
  have HA4 := Lib.hid (awake18_any w4)
  cases R with
  | false =>
    go_wp2_with fail
    refine HA4.out.mono ?_
    rintro e w5 ⟨rfl, hE5⟩
    go_wp2
    go_ret
    exact ⟨rfl, HE4.out.trans hE5⟩
  | true =>
    have hn : n ≤ 25 := by
      have := HRn.out rfl
      omega
    clear HRn HA4
    obtain ⟨S, hS⟩ : ∃ z, w4.heap.size = z := ⟨_, rfl⟩
    have HS := Lib.hid hS
    clear hS
    go_wp2_with fail
    go_loopw [3, 4] (fun o i y => ∃ (k : Nat), k ≤ n ∧ i = .int .i64 (k : Int) ∧ Ext w4 y ∧ y.ownsRow S 36 130 o ((l.take k).filter rowB).length (rwsC ((l.take k).filter rowB))) (fun _ i _ => n - (intOf i).toNat)
    case atStart => exact ⟨0, by omega, rfl, Ext.refl w4, World.ownsRow_nil w4 S 36 130⟩
    case round =>
      obtain ⟨k, hk, rfl, hE, hown⟩ := hrel
      rename World => y
      obtain ⟨oa, oc, hsl⟩ := own_rwsl hown
      subst hsl
      have HE := Lib.hid hE
      have HOwn := Lib.hid hown
      clear hE hown
      obtain ⟨fl, hfl⟩ : ∃ z, (l.take k).filter rowB = z := ⟨_, rfl⟩
      have Hfl := Lib.hid hfl
      rw [hfl] at HOwn
      rw [hfl]
      have hMk : fl.length ≤ k := by
        rw [← hfl]
        exact Nat.le_trans (List.length_filter_le _ _) (by rw [List.length_take]; omega)
      obtain ⟨M, hM⟩ : ∃ z, fl.length = z := ⟨_, rfl⟩
      have HM := Lib.hid hM
      rw [hM] at HOwn hMk
      rw [hM]
      have HEy := Lib.hid (HE4.out.trans HE.out)
      have hflm : ∀ q ∈ fl, q ∈ l := fun q hq => by
        rw [← hfl] at hq
        exact List.mem_of_mem_take (List.mem_filter.1 hq).1
      have HRw := Lib.hid (own_rws HOwn.out (fun q hq => (H.out.each q (hflm q hq)).ext HEy.out) (by omega))
      clear hfl hM hflm
      by_cases hlt : k < n
      · have x1 : (k : Int) < (n : Int) := by omega
        obtain ⟨b, off, rfl, hcell⟩ := (H.out.ext HEy.out).at_ (by omega)
        obtain ⟨x, hx⟩ : ∃ x, l.getD k rwN = x := ⟨_, rfl⟩
        have hck := hcell k hlt
        rw [hx] at hck
        have HRx := Lib.hid (show RwAt y x by rw [← hx]; exact (H.out.get hlt).ext HEy.out)
        have Hflk := Lib.hid (show (l.take (k + 1)).filter rowB = if rowB x = true then fl ++ [x] else fl by
          have hkl : k < l.length := by rw [HLen.out]; exact hlt
          have e0 : l.take (k + 1) = l.take k ++ [x] := by
            rw [List.take_add_one, List.getElem?_eq_getElem hkl, ← hx, List.getD_eq_getElem?_getD, List.getElem?_eq_getElem hkl]
            rfl
          rw [e0, List.filter_append, Hfl.out]
          by_cases hb : rowB x = true
          · simp [hb]
          · simp [hb])
        obtain ⟨X, hX⟩ : ∃ X, rwV x = X := ⟨_, rfl⟩
        have HX := Lib.hid hX
        have HXa := Lib.hid (show (rwL x).toArray = X by rw [rwL_arr, hX])
        have HRg := Lib.hid (show y.rangeAt b (off + k * 130) (rwL x) from rwL_range hck)
        obtain ⟨FB, hFB⟩ : ∃ z, rowB x = z := ⟨_, rfl⟩
        have HFm := Lib.hid (rowFormed_any x y HRx.out)
        rw [hX, hFB] at HFm
        rw [hFB] at Hflk
        clear hcell hck hx hX hFB
        cases FB with
        | false =>
          go_wp2_with (first | (refine wp_ridx rfl _ _ rfl b off n c k rfl (by first | rfl | simp [Act.eval]) hlt ?_) | (refine wpList_load_mid rfl 36 (.tmp 24) rfl b _ rfl (rwL x) _ HRg.out Try.underlying36 rfl (by rw [rwL_length]; kernel_rfl) ?_; rw [HXa.out]) | (go_at_call 19; refine HFm.out.mono ?_; rintro e y1 ⟨rfl, hE1⟩; have HE1 := Lib.hid hE1; clear hE1))
          go_roundw
          case rel =>
            refine ⟨k + 1, by omega, by go_num, HE.out.trans HE1.out, ?_⟩
            rw [Hflk.out, if_neg Bool.false_ne_true, HM.out]
            exact own_extM HOwn.out HE1.out
          case measure => simp [intOf]; omega
        | true =>
          go_upto_region 8 with (first | (refine wp_ridx rfl _ _ rfl b off n c k rfl (by first | rfl | simp [Act.eval]) hlt ?_) | (refine wpList_load_mid rfl 36 (.tmp 24) rfl b _ rfl (rwL x) _ HRg.out Try.underlying36 rfl (by rw [rwL_length]; kernel_rfl) ?_; rw [HXa.out]) | (go_at_call 19; refine HFm.out.mono ?_; rintro e y1 ⟨rfl, hE1⟩; have HE1 := Lib.hid hE1; clear hE1))
          have HRg2 := Lib.hid (show y1.rangeAt b (off + k * 130) (rwL x) from fun j u hu => by
            have h1 := HRg.out j u hu
            rw [HE1.out.cell (World.block_lt_of_cell? _ _ h1)]
            exact h1)
          obtain ⟨y3, hy3⟩ : ∃ z, y1.alloc (.cells X 36) = z := ⟨_, rfl⟩
          obtain ⟨g, hg⟩ : ∃ z, y1.heap.size = z := ⟨_, rfl⟩
          have HE3 := Lib.hid (show Ext y1 y3 by rw [← hy3]; exact (Ext.refl y1).alloc _)
          have HB3 := Lib.hid (show ∀ j, j < 130 → y3.cell? ⟨g, j, none⟩ = some (rwC x j) from fun j hj => by
            have hb : y3.heap[g]? = some (.cells (rwV x) 36 (0, 0)) := by rw [HX.out, ← hy3]; exact heap_new y1 _ _ hg.symm
            exact row_cell hb j hj)
          have HOw3 := Lib.hid (own_extM HOwn.out (HE1.out.trans HE3.out))
          have HSz := Lib.hid (show S ≤ y3.heap.size by have h1 := Below.size (HE.out.trans (HE1.out.trans HE3.out)); rw [HS.out] at h1; exact h1)
          have Hy3 := Lib.hid hy3
          have Hg := Lib.hid hg
          clear hy3 hg
          go_wp2_with (first | (refine wp_ridx rfl _ _ rfl b off n c k rfl (by first | rfl | simp [Act.eval]) hlt ?_) | (refine wpList_load_mid rfl 36 (.tmp 30) rfl b _ rfl (rwL x) _ HRg2.out Try.underlying36 rfl (by rw [rwL_length]; kernel_rfl) ?_; rw [HXa.out]; simp only [Act.put, List.setIfInBounds_toArray, List.set_cons_zero, List.set_cons_succ]; refine wp_build_rw1 rfl (.tmp 31) rfl x X HX.out rfl ?_; rw [Hg.out, Hy3.out]; simp only [Act.put, List.setIfInBounds_toArray, List.set_cons_zero, List.set_cons_succ]; refine append_rw rfl (.tmp 27) (.tmp 32) rfl S _ M fl rfl HOw3.out g 1 x rfl HB3.out (by omega) HSz.out ?_; intro v4 y4 ho4 hg4 hv4; have HO4 := Lib.hid ho4; have HG4 := Lib.hid hg4; clear ho4 hg4 hv4; simp only [Act.put, List.setIfInBounds_toArray, List.set_cons_zero, List.set_cons_succ]))
          refine ⟨⟨k + 1, by omega, by go_num, ?_, ?_⟩, by simp [intOf]; omega⟩
          · have h1 : Below S y3 y4 := (Below.refl S y3).grown HG4.out HSz.out (fun q hq => (HOw3.out.lt q hq).1)
            rw [← HS.out] at h1
            exact Below.trans (HE.out.trans (HE1.out.trans HE3.out)) h1
          · rw [show (l.take (k + 1)).filter rowB = fl ++ [x] from by rw [Hflk.out]; simp, List.length_append, List.length_singleton, HM.out]
            exact HO4.out
      · obtain rfl : k = n := by omega
        have x1 : ¬ (k : Int) < (k : Int) := by omega
        have Hfl2 := Lib.hid (show l.filter rowB = fl by
          have h1 := Hfl.out
          rw [← HLen.out, List.take_length] at h1
          exact h1)
        have HFo := Lib.hid (fold_any a k c l y (H.out.ext HEy.out) (by omega))
        clear hlt
        go_upto_region 9 with (fail)
        go_wp2_with fail
        refine HFo.out.mono ?_
        rintro e y1 ⟨vx, xs, rfl, hE, ho, hat, hfi⟩
        obtain ⟨xa, xc, hvx⟩ := own_itsl ho
        subst hvx
        have HE1 := Lib.hid hE
        have HOx := Lib.hid ho
        have HAx := Lib.hid hat
        have HFx := Lib.hid hfi
        clear hE ho hat hfi
        dsimp only
        refine (‹∀ (a : Act) (w : World), wpList Try.prog _ _ _ a w → _›) _ _ ?_
        refine wp_build_rws0 rfl rfl ?_
        simp only [Act.put, List.setIfInBounds_toArray, List.set_cons_zero, List.set_cons_succ]
        obtain ⟨y2, hy2⟩ : ∃ z, y1.alloc (.cells #[] 36) = z := ⟨_, rfl⟩
        obtain ⟨S1, hS1⟩ : ∃ z, y1.heap.size = z := ⟨_, rfl⟩
        have HE2 := Lib.hid (show Ext y1 y2 by rw [← hy2]; exact (Ext.refl y1).alloc _)
        have HO0 := Lib.hid (show OwnR S1 0 [] (.slice (some ⟨S1, 0, none⟩) 0 0) y2 by rw [← hy2, ← hS1]; exact own_rw0 (Nat.le_refl _))
        have HS1 := Lib.hid hS1
        rw [hS1, hy2]
        clear hS1 hy2
        refine wp_yes (v := .slice oa M oc) rfl (by exact run_move) ?_
        simp only [Act.put, List.setIfInBounds_toArray, List.set_cons_zero, List.set_cons_succ]
        have hR2 : RwsAt y2 oa M oc fl := HRw.out.ext (HE1.out.trans HE2.out)
        have hz2 : S1 ≤ y2.heap.size := by rw [← HS1.out]; exact Below.size HE2.out
        refine wp_app rfl (.tmp 36) (.tmp 37) rfl rfl HO0.out rfl ⟨oa, oc, rfl, hR2⟩ (by omega) hz2 ?_
        intro v3 y3 ho3 hb3
        rw [Nat.zero_add, List.nil_append] at ho3
        have hE3 : Ext y1 y3 := HE2.out.trans' (by rw [HS1.out]; exact hb3)
        simp only [Act.put, List.setIfInBounds_toArray, List.set_cons_zero, List.set_cons_succ]
        refine wp_yes (v := .slice oa M oc) rfl (by exact run_move) ?_
        simp only [Act.put, List.setIfInBounds_toArray, List.set_cons_zero, List.set_cons_succ]
        refine wp_app rfl (.tmp 38) (.tmp 39) rfl rfl ho3 rfl ⟨oa, oc, rfl, HRw.out.ext (HE1.out.trans hE3)⟩ (by omega) (Nat.le_trans hz2 (Below.size hb3)) ?_
        intro v4 y4 ho4 hb4
        have hE4 : Ext y1 y4 := hE3.trans' (by rw [HS1.out]; exact hb4)
        obtain ⟨a4, c4, hv4⟩ := own_t ho4
        subst hv4
        simp only [Act.put, List.setIfInBounds_toArray, List.set_cons_zero, List.set_cons_succ]
        have HE14 := Lib.hid (HE1.out.trans hE4)
        have HEn := Lib.hid hE4
        have hflm : ∀ q ∈ fl, q ∈ l := fun q hq => by
          rw [← Hfl2.out] at hq
          exact (List.mem_filter.1 hq).1
        have hR4 := own_rws ho4.1 (fun q hq => (H.out.each q (by
          rcases List.mem_append.1 hq with h1 | h1
          · exact hflm q h1
          · exact hflm q h1)).ext (HEy.out.trans HE14.out)) (by omega)
        have hF2 := fold_any a4 (M + M) c4 (fl ++ fl) y4 hR4 (by omega)
        have hcn : cntN (fl ++ fl) (M + M) = cntN l k := by
          have h1 := cnt_twice l
          rw [Hfl2.out, HLen.out, List.length_append, HM.out] at h1
          exact h1
        rw [hcn] at hF2
        have HF2 := Lib.hid hF2
        clear hR2 hz2 ho3 hb3 hE3 ho4 hb4 hE4 hflm hR4 hF2 hcn
        go_wp2_with fail
        refine HF2.out.mono ?_
        rintro e y5 ⟨vy, ys, rfl, hE, ho, hat, hfi⟩
        obtain ⟨ya, yc, hvy⟩ := own_itsl ho
        subst hvy
        have HE5 := Lib.hid hE
        have HOy := Lib.hid (own_its ho)
        have HOx5 := Lib.hid (own_its (own_extM HOx.out (HEn.out.trans hE)))
        have HSame := Lib.hid (HFx.out.same hfi)
        have HAx5 := Lib.hid (show ∀ t ∈ xs, ItAt y5 t from fun t ht => (HAx.out t ht).ext (HEn.out.trans hE))
        have HAy := Lib.hid hat
        have HEw := Lib.hid (HEy.out.trans (HE14.out.trans hE))
        clear hE ho hat hfi
        have hlen := HSame.out.1
        obtain ⟨m, hm⟩ : ∃ z, xs.length = z := ⟨_, rfl⟩
        rw [← hlen] at HOy ⊢
        rw [hm] at HOy HOx5 HSame ⊢
        have HXl := Lib.hid hm
        have HYl := Lib.hid (hlen.symm.trans hm)
        have hmx := HOx5.out.1
        clear hlen hm
        dsimp only
        refine (‹∀ (a : Act) (w : World), wpList Try.prog _ _ _ a w → _›) _ _ ?_
        go_wp2_with fail
        go_loopw [7] (fun i y => ∃ j : Nat, j ≤ m ∧ i = .int .i64 (j : Int) ∧ Ext y5 y) (fun i _ => m - (intOf i).toNat)
        case atStart => exact ⟨0, by omega, rfl, Ext.refl _⟩
        case round =>
          obtain ⟨j, hj, rfl, hE⟩ := hrel
          rename World => z
          have HEz := Lib.hid hE
          clear hE
          by_cases hjm : j < m
          · have x2 : (j : Int) < (m : Int) := by omega
            obtain ⟨g1, e1, hx1⟩ := HOx5.out.2 (by omega)
            obtain ⟨g2, e2, hx2⟩ := HOy.out.2 (by omega)
            subst e1
            subst e2
            have hx1' := hx1 j hjm
            have hx2' := hx2 j hjm
            obtain ⟨p, hp⟩ : ∃ q, xs.getD j itN = q := ⟨_, rfl⟩
            obtain ⟨q, hq⟩ : ∃ r, ys.getD j itN = r := ⟨_, rfl⟩
            rw [hp] at hx1'
            rw [hq] at hx2'
            have HV := Lib.hid (show ∀ B, SmR p q (bytesL p.hd.1 p.hd.2) (bytesL q.hd.1 q.hd.2) B → B = true from by
              rw [← hp, ← hq]
              exact HSame.out.2 j hjm)
            have HAp := Lib.hid (show ItAt y5 p by
              rw [← hp, List.getD_eq_getElem?_getD, List.getElem?_eq_getElem (by rw [HXl.out]; exact hjm)]
              exact HAx5.out _ (List.getElem_mem _))
            have HAq := Lib.hid (show ItAt y5 q by
              rw [← hq, List.getD_eq_getElem?_getD, List.getElem?_eq_getElem (by rw [HYl.out]; exact hjm)]
              exact HAy.out _ (List.getElem_mem _))
            obtain ⟨PV, hPV⟩ : ∃ q, itV p = q := ⟨_, rfl⟩
            obtain ⟨QV, hQV⟩ : ∃ r, itV q = r := ⟨_, rfl⟩
            have HPa := Lib.hid (show (itL p).toArray = PV by rw [itL_arr, hPV])
            have HQa := Lib.hid (show (itL q).toArray = QV by rw [itL_arr, hQV])
            have HX1 := Lib.hid hx1'
            have HX2 := Lib.hid hx2'
            have HSm := Lib.hid (show ∀ u, Ext y5 u → Calls Try.prog 18 #[.agg PV, .agg QV] u fun e w' => e = .returned (.bool true) ∧ Ext u w' from fun u hu => by
              have h := refSameW_any p q u (HAp.out.ext hu) (HAq.out.ext hu)
              rw [hPV, hQV] at h
              refine h.mono ?_
              rintro e w' ⟨B, rfl, hE, hB⟩
              exact ⟨by rw [HV.out B hB], hE⟩)
            clear hx1 hx2 hx1' hx2' hp hq hPV hQV
            go_upto_region 13 with (fail)
            have HY := Lib.hid (show ∀ u, Ext z.drew u → Ext y5 u from fun u hu => HEz.out.trans (Ext.trans (Ext.refl z).drew hu))
            refine wp_region_lexA (by kernel_rfl) (by kernel_rfl) ?_
            refine lx_e (.slice (some ⟨g1, 0, none⟩) m xc) [] (by kernel_rfl) rfl (by rfl) (fun w1 hw1 => ?_) ?_
            · simp only [pk, lexVals]
              go_simp
              exact ⟨Ext.refl _, rfl⟩
            refine lx_e (.int .i64 (j : Int)) [] (by kernel_rfl) rfl (by rfl) (fun w1 hw1 => ?_) ?_
            · simp only [pk, lexVals]
              go_simp
              exact ⟨Ext.refl _, rfl⟩
            refine lx_e (.pointer (some ⟨g1, 0 + j * 146, none⟩)) [(1, 55), (0, 56)] (by kernel_rfl) rfl (by rfl) (fun w1 hw1 => ?_) ?_
            · simp only [pk, nthSp, lexVals]
              exact lu_iidx rfl rfl rfl hjm
            refine lx_e (.agg PV) [(0, 57)] (by kernel_rfl) rfl (by rfl) (fun w1 hw1 => ?_) ?_
            · simp only [pk, nthSp, lexVals]
              exact lu_mid rfl rfl (itL p) (fun i u hu => by
                have h1 := HX1.out i u hu
                rw [Nat.zero_add, (HY.out w1 hw1).cell (World.block_lt_of_cell? _ _ h1)]
                exact h1) Try.underlying41 rfl (by rw [itL_length]; kernel_rfl) PV HPa.out
            refine lx_e (.slice (some ⟨g2, 0, none⟩) m yc) [] (by kernel_rfl) rfl (by rfl) (fun w1 hw1 => ?_) ?_
            · simp only [pk, lexVals]
              go_simp
              exact ⟨Ext.refl _, rfl⟩
            refine lx_e (.int .i64 (j : Int)) [] (by kernel_rfl) rfl (by rfl) (fun w1 hw1 => ?_) ?_
            · simp only [pk, lexVals]
              go_simp
              exact ⟨Ext.refl _, rfl⟩
            refine lx_e (.pointer (some ⟨g2, 0 + j * 146, none⟩)) [(1, 59), (0, 60)] (by kernel_rfl) rfl (by rfl) (fun w1 hw1 => ?_) ?_
            · simp only [pk, nthSp, lexVals]
              exact lu_iidx rfl rfl rfl hjm
            refine lx_e (.agg QV) [(0, 61)] (by kernel_rfl) rfl (by rfl) (fun w1 hw1 => ?_) ?_
            · simp only [pk, nthSp, lexVals]
              exact lu_mid rfl rfl (itL q) (fun i u hu => by
                have h1 := HX2.out i u hu
                rw [Nat.zero_add, (HY.out w1 hw1).cell (World.block_lt_of_cell? _ _ h1)]
                exact h1) Try.underlying41 rfl (by rw [itL_length]; kernel_rfl) QV HQa.out
            refine lx_e (.bool true) [(4, 58), (0, 62)] (by kernel_rfl) rfl (by rfl) (fun w1 hw1 => ?_) ?_
            · simp only [pk, nthSp, lexVals]
              have HM := Lib.hid (HSm.out w1 (HY.out w1 hw1))
              clear hw1
              go_simp
              refine HM.out.mono ?_
              rintro e w2 ⟨rfl, hE2⟩
              exact ⟨_, rfl, hE2, rfl⟩
            refine lx_e (.bool false) [(0, 63)] (by kernel_rfl) rfl (by rfl) (fun w1 hw1 => ?_) ?_
            · simp only [pk, nthSp, lexVals]
              clear hw1
              go_simp
              exact ⟨Ext.refl _, by first | rfl | simp⟩
            refine lx_stopA (by rfl) fun z3 hz3 => ?_
            have HE3 := Lib.hid (HY.out z3 hz3)
            clear hz3
            simp only [rv, pf, lexVals]
            simp only [Act.put, List.setIfInBounds_toArray, List.set_cons_zero, List.set_cons_succ]
            go_wp2
            go_roundw
            case rel => exact ⟨j + 1, by omega, by go_num, HE3.out⟩
            case measure => simp [intOf]; omega
          · obtain rfl : j = m := by omega
            have x2 : ¬ (j : Int) < (j : Int) := by omega
            go_wp2_with fail
            go_ret
            exact ⟨rfl, HEw.out.trans HEz.out⟩

set_option maxHeartbeats 8000000 in
set_option maxRecDepth 100000 in
theorem lawTu_any (a : Option Addr) (n c : Nat) (l : List Rw) (q : Nat) (w : World) (h : RwsAt w a n c l) (hq : q < 256) :
    Calls Try.prog 6 #[.slice a n c, .int .u8 (q : Int)] w fun e w' => e = .returned (.bool true) ∧ Ext w w' := by
  have hcap := h.cap
  have hlim := h.lim
  have H := Lib.hid h
  have HLen := Lib.hid h.len
  have HAw := Lib.hid (awake18_any w)
  clear h
  go_enter Try.func6, Try.ntmps6
  go_wp2_with fail
  refine HAw.out.mono ?_
  rintro e w3 ⟨rfl, hE3⟩
  have HE3 := Lib.hid hE3
  have HFew := Lib.hid (fewR_any a n c l 25 w3 (H.out.ext hE3))
  clear hE3 HAw
  go_wp2_with fail
  refine HFew.out.mono ?_
  rintro e w4 ⟨R, rfl, hR, hE4⟩
  have HE4 := Lib.hid (HE3.out.trans hE4)
  have HRn := Lib.hid hR
  clear hE4 hR HFew HE3
  have HA4 := Lib.hid (awake18_any w4)
  cases R with
  | false =>
    go_wp2_with fail
    refine HA4.out.mono ?_
    rintro e w5 ⟨rfl, hE5⟩
    go_wp2
    go_ret
    exact ⟨rfl, HE4.out.trans hE5⟩
  | true =>
    have hn : n ≤ 25 := by
      have := HRn.out rfl
      omega
    clear HRn HA4
    obtain ⟨S, hS⟩ : ∃ z, w4.heap.size = z := ⟨_, rfl⟩
    have HS := Lib.hid hS
    clear hS
    go_wp2_with fail
    go_loopw [5, 6] (fun o i y => ∃ (k : Nat), k ≤ n ∧ i = .int .i64 (k : Int) ∧ Ext w4 y ∧ y.ownsRow S 36 130 o k (rwsC (othR l q k)) ∧ ∀ i j, i < j → j < k → ¬ samP (l.getD j rwN) (l.getD i rwN)) (fun _ i _ => n - (intOf i).toNat)
    case atStart => exact ⟨0, by omega, rfl, Ext.refl w4, World.ownsRow_nil w4 S 36 130, fun i j _ h => by omega⟩
    case round =>
      obtain ⟨k, hk, rfl, hE, hown, hpl⟩ := hrel
      rename World => y
      obtain ⟨oa, oc, hsl⟩ := own_rwsl hown
      subst hsl
      have HE := Lib.hid hE
      have HOwn := Lib.hid hown
      have HPl := Lib.hid hpl
      clear hE hown hpl
      have HEy := Lib.hid (HE4.out.trans HE.out)
      by_cases hlt : k < n
      · have x1 : (k : Int) < (n : Int) := by omega
        obtain ⟨b, off, hab, hcell⟩ := (H.out.ext HEy.out).at_ (by omega)
        subst hab
        have HCell := Lib.hid hcell
        obtain ⟨x, hx⟩ : ∃ x, l.getD k rwN = x := ⟨_, rfl⟩
        have hck := hcell k hlt
        rw [hx] at hck
        obtain ⟨X1, hX1⟩ : ∃ z, x.hd.1.writer = z := ⟨_, rfl⟩
        obtain ⟨X2, hX2⟩ : ∃ z, x.hd.1.seq = z := ⟨_, rfl⟩
        have HC1 := Lib.hid (show y.cell? ⟨b, off + k * 130, none⟩ = some (.int .i64 X1) by rw [← hX1]; exact hck 0 (by omega))
        have HC2 := Lib.hid (show y.cell? ⟨b, off + k * 130 + 1, none⟩ = some (.int .u64 X2) by rw [← hX2]; exact hck 1 (by omega))
        have Hx := Lib.hid hx
        have HX1 := Lib.hid hX1
        have HX2 := Lib.hid hX2
        clear hcell hck hx hX1 hX2
        go_wp2_with fail
        go_loopw [7] (fun i y' => ∃ m : Nat, m ≤ k ∧ i = .int .i64 (m : Int) ∧ Ext y y' ∧ ∀ i, i < m → ¬ samP x (l.getD i rwN)) (fun i _ => k - (intOf i).toNat)
        case atStart => exact ⟨0, by omega, rfl, Ext.refl _, fun i h => by omega⟩
        case round =>
          obtain ⟨m, hm, rfl, hE2, hno⟩ := hrel
          rename World => y2
          have HE2 := Lib.hid hE2
          have HNo := Lib.hid hno
          clear hE2 hno
          by_cases hml : m < k
          · have x2 : (m : Int) < (k : Int) := by omega
            have hmn : m < n := by omega
            obtain ⟨p, hp⟩ : ∃ z, l.getD m rwN = z := ⟨_, rfl⟩
            have hck := HCell.out m hmn
            rw [hp] at hck
            obtain ⟨Q1, hQ1⟩ : ∃ z, p.hd.1.writer = z := ⟨_, rfl⟩
            obtain ⟨Q2, hQ2⟩ : ∃ z, p.hd.1.seq = z := ⟨_, rfl⟩
            have hd1 : y2.cell? ⟨b, off + m * 130, none⟩ = some (.int .i64 Q1) := by
              have h1 : y.cell? ⟨b, off + m * 130, none⟩ = some (rwC p 0) := hck 0 (by omega)
              rw [← hQ1, HE2.out.cell (World.block_lt_of_cell? _ _ h1)]
              exact h1
            have hd2 : y2.cell? ⟨b, off + m * 130 + 1, none⟩ = some (.int .u64 Q2) := by
              have h1 := hck 1 (by omega)
              rw [← hQ2, HE2.out.cell (World.block_lt_of_cell? _ _ h1)]
              exact h1
            have hc1 : y2.cell? ⟨b, off + k * 130, none⟩ = some (.int .i64 X1) := by rw [HE2.out.cell (World.block_lt_of_cell? _ _ HC1.out)]; exact HC1.out
            have hc2 : y2.cell? ⟨b, off + k * 130 + 1, none⟩ = some (.int .u64 X2) := by rw [HE2.out.cell (World.block_lt_of_cell? _ _ HC2.out)]; exact HC2.out
            have Hp := Lib.hid hp
            have HQ1 := Lib.hid hQ1
            have HQ2 := Lib.hid hQ2
            clear hck hp hQ1 hQ2
            go_upto_region 10 with (fail)
            by_cases e1 : X1 = Q1
            · have e1t : decide (X1 = Q1) = true := decide_eq_true e1
              by_cases e2 : X2 = Q2
              · subst e1
                subst e2
                go_quiet (first | (refine wp_ridx rfl (.tmp 30) (.tmp 31) rfl b off n c k rfl rfl hlt ?_) | (refine wp_ridx rfl (.tmp 36) (.tmp 37) rfl b off n c m rfl rfl hmn ?_) | (refine wp_ridx rfl (.tmp 44) (.tmp 45) rfl b off n c k rfl rfl hlt ?_) | (refine wp_ridx rfl (.tmp 50) (.tmp 51) rfl b off n c m rfl rfl hmn ?_))
                go_wp2
                go_ret
                exact ⟨rfl, HEy.out.trans (HE2.out.drewN' _)⟩
              · subst e1
                have e2' : decide (X2 = Q2) = false := decide_eq_false e2
                go_quiet (first | (refine wp_ridx rfl (.tmp 30) (.tmp 31) rfl b off n c k rfl rfl hlt ?_) | (refine wp_ridx rfl (.tmp 36) (.tmp 37) rfl b off n c m rfl rfl hmn ?_) | (refine wp_ridx rfl (.tmp 44) (.tmp 45) rfl b off n c k rfl rfl hlt ?_) | (refine wp_ridx rfl (.tmp 50) (.tmp 51) rfl b off n c m rfl rfl hmn ?_))
                go_wp2
                go_roundw
                case rel =>
                  refine ⟨m + 1, by omega, by go_num, HE2.out.drewN' _, fun i hi => ?_⟩
                  rcases Nat.lt_or_ge i m with t | t
                  · exact HNo.out i t
                  · obtain rfl : i = m := by omega
                    rw [Hp.out]
                    exact fun h => e2 (HX2.out.symm.trans (h.2.trans HQ2.out))
                case measure => simp [intOf]; omega
            · have e1' : decide (X1 = Q1) = false := decide_eq_false e1
              go_quiet (first | (refine wp_ridx rfl (.tmp 30) (.tmp 31) rfl b off n c k rfl rfl hlt ?_) | (refine wp_ridx rfl (.tmp 36) (.tmp 37) rfl b off n c m rfl rfl hmn ?_))
              go_wp2
              go_roundw
              case rel =>
                refine ⟨m + 1, by omega, by go_num, HE2.out.drewN' _, fun i hi => ?_⟩
                rcases Nat.lt_or_ge i m with t | t
                · exact HNo.out i t
                · obtain rfl : i = m := by omega
                  rw [Hp.out]
                  exact fun h => e1 (HX1.out.symm.trans (h.1.trans HQ1.out))
              case measure => simp [intOf]; omega
          · obtain rfl : m = k := by omega
            have x2 : ¬ (m : Int) < (m : Int) := by omega
            clear hml
            obtain ⟨r, hr⟩ : ∃ r, (m + q) % n = r := ⟨_, rfl⟩
            have hrn : r < n := by rw [← hr]; exact Nat.mod_lt _ (by omega)
            have x3 : ((m : Int) + (q : Int)).tmod (n : Int) = (r : Int) := by
              show (((m + q : Nat) : Int)).tmod (n : Int) = _
              rw [← Int.ofNat_tmod, hr]
            have n0 : (n : Int) ≠ 0 := by omega
            have i1 : (((n - 1 - r : Nat)) : Int) = (n : Int) - 1 - (r : Int) := by omega
            have hir : n - 1 - r < n := by omega
            obtain ⟨t, ht⟩ : ∃ x, l.getD (n - 1 - r) rwN = x := ⟨_, rfl⟩
            have hck := HCell.out (n - 1 - r) hir
            rw [ht] at hck
            have Hoth := Lib.hid (show othR l q (m + 1) = othR l q m ++ [t] by rw [othR_succ, HLen.out, hr, ht])
            obtain ⟨T, hT⟩ : ∃ X, rwV t = X := ⟨_, rfl⟩
            have HT := Lib.hid hT
            have HTa := Lib.hid (show (rwL t).toArray = T by rw [rwL_arr, hT])
            have HRg2 := Lib.hid (show y2.rangeAt b (off + (n - 1 - r) * 130) (rwL t) from fun j u hu => by
              have h1 := (rwL_range hck) j u hu
              rw [HE2.out.cell (World.block_lt_of_cell? _ _ h1)]
              exact h1)
            obtain ⟨y3, hy3⟩ : ∃ z, y2.alloc (.cells T 36) = z := ⟨_, rfl⟩
            obtain ⟨g, hg⟩ : ∃ z, y2.heap.size = z := ⟨_, rfl⟩
            have HE3 := Lib.hid (show Ext y2 y3 by rw [← hy3]; exact (Ext.refl y2).alloc _)
            have HB3 := Lib.hid (show ∀ j, j < 130 → y3.cell? ⟨g, j, none⟩ = some (rwC t j) from fun j hj => by
              have hb : y3.heap[g]? = some (.cells (rwV t) 36 (0, 0)) := by rw [HT.out, ← hy3]; exact heap_new y2 _ _ hg.symm
              exact row_cell hb j hj)
            have HOw3 := Lib.hid (own_extM HOwn.out (HE2.out.trans HE3.out))
            have HSz := Lib.hid (show S ≤ y3.heap.size by have h1 := Below.size (HE.out.trans (HE2.out.trans HE3.out)); rw [HS.out] at h1; exact h1)
            have Hy3 := Lib.hid hy3
            have Hg := Lib.hid hg
            clear hy3 hg hr ht hck hT
            go_wp2_with (first | (refine wp_ridx rfl (.tmp 59) (.tmp 70) rfl b off n c (n - 1 - r) rfl (congrArg (Value.int .i64) i1.symm) hir ?_) | (refine wpList_load_mid rfl 36 (.tmp 71) rfl b _ rfl (rwL t) _ HRg2.out Try.underlying36 rfl (by rw [rwL_length]; kernel_rfl) ?_; rw [HTa.out]; simp only [Act.put, List.setIfInBounds_toArray, List.set_cons_zero, List.set_cons_succ]; refine wp_build_rw1 rfl (.tmp 72) rfl t T HT.out rfl ?_; rw [Hg.out, Hy3.out]; simp only [Act.put, List.setIfInBounds_toArray, List.set_cons_zero, List.set_cons_succ]; refine append_rw rfl (.tmp 58) (.tmp 73) rfl S _ m (othR l q m) rfl HOw3.out g 1 t rfl HB3.out (by omega) HSz.out ?_; intro v4 y4 ho4 hg4 hv4; have HO4 := Lib.hid ho4; have HG4 := Lib.hid hg4; clear ho4 hg4 hv4; simp only [Act.put, List.setIfInBounds_toArray, List.set_cons_zero, List.set_cons_succ]))
            refine ⟨⟨m + 1, by omega, by go_num, ?_, ?_, fun i j hij hj => ?_⟩, by simp [intOf]; omega⟩
            · have h1 : Below S y3 y4 := (Below.refl S y3).grown HG4.out HSz.out (fun q hq => (HOw3.out.lt q hq).1)
              rw [← HS.out] at h1
              exact Below.trans (HE.out.trans (HE2.out.trans HE3.out)) h1
            · rw [Hoth.out]
              exact HO4.out
            · rcases Nat.lt_or_ge j m with t' | t'
              · exact HPl.out i j hij t'
              · obtain rfl : j = m := by omega
                rw [Hx.out]
                exact HNo.out i hij
      · obtain rfl : k = n := by omega
        have x1 : ¬ (k : Int) < (k : Int) := by omega
        have HPD := Lib.hid (show PlD l from fun i j hij hj => HPl.out i j hij (by rw [← HLen.out]; exact hj))
        have HFo := Lib.hid (fold_any a k c l y (H.out.ext HEy.out) (by omega))
        have HRw := Lib.hid (own_rws HOwn.out (fun q' hq' => (H.out.each q' (by
          have h1 := othR_mem l q q'
          rw [HLen.out] at h1
          exact h1.1 hq')).ext HEy.out) (by omega))
        clear hlt
        go_upto_region 13 with (fail)
        go_wp2_with fail
        refine HFo.out.mono ?_
        rintro e y1 ⟨vx, xs, rfl, hE, ho, hat, hfi⟩
        obtain ⟨xa, xc, hvx⟩ := own_itsl ho
        subst hvx
        have HE1 := Lib.hid hE
        have HOx := Lib.hid ho
        have HAx := Lib.hid hat
        have HFx := Lib.hid hfi
        have HF2 := Lib.hid (fold_any oa k oc (othR l q k) y1 (HRw.out.ext hE) (by omega))
        clear hE ho hat hfi
        go_wp2_with fail
        refine HF2.out.mono ?_
        rintro e y5 ⟨vy, ys, rfl, hE, ho, hat, hfi⟩
        obtain ⟨ya, yc, hvy⟩ := own_itsl ho
        subst hvy
        have HE5 := Lib.hid hE
        have HOy := Lib.hid (own_its ho)
        have HOx5 := Lib.hid (own_its (own_extM HOx.out hE))
        have hturn := turn_is HPD.out q (its := ys) (by rw [HLen.out]; exact hfi)
        rw [HLen.out] at hturn
        have HSame := Lib.hid (HFx.out.same hturn)
        have HAx5 := Lib.hid (show ∀ t ∈ xs, ItAt y5 t from fun t ht => (HAx.out t ht).ext hE)
        have HAy := Lib.hid hat
        have HEw := Lib.hid (HEy.out.trans (HE1.out.trans hE))
        clear hE ho hat hfi hturn
        have hlen := HSame.out.1
        obtain ⟨m, hm⟩ : ∃ z, xs.length = z := ⟨_, rfl⟩
        rw [← hlen] at HOy ⊢
        rw [hm] at HOy HOx5 HSame ⊢
        have HXl := Lib.hid hm
        have HYl := Lib.hid (hlen.symm.trans hm)
        have hmx := HOx5.out.1
        clear hlen hm
        dsimp only
        refine (‹∀ (a : Act) (w : World), wpList Try.prog _ _ _ a w → _›) _ _ ?_
        go_wp2_with fail
        go_loopw [10] (fun i y => ∃ j : Nat, j ≤ m ∧ i = .int .i64 (j : Int) ∧ Ext y5 y) (fun i _ => m - (intOf i).toNat)
        case atStart => exact ⟨0, by omega, rfl, Ext.refl _⟩
        case round =>
          obtain ⟨j, hj, rfl, hE⟩ := hrel
          rename World => z
          have HEz := Lib.hid hE
          clear hE
          by_cases hjm : j < m
          · have x2 : (j : Int) < (m : Int) := by omega
            obtain ⟨g1, e1, hx1⟩ := HOx5.out.2 (by omega)
            obtain ⟨g2, e2, hx2⟩ := HOy.out.2 (by omega)
            subst e1
            subst e2
            have hx1' := hx1 j hjm
            have hx2' := hx2 j hjm
            obtain ⟨p, hp⟩ : ∃ q, xs.getD j itN = q := ⟨_, rfl⟩
            obtain ⟨q, hq⟩ : ∃ r, ys.getD j itN = r := ⟨_, rfl⟩
            rw [hp] at hx1'
            rw [hq] at hx2'
            have HV := Lib.hid (show ∀ B, SmR p q (bytesL p.hd.1 p.hd.2) (bytesL q.hd.1 q.hd.2) B → B = true from by
              rw [← hp, ← hq]
              exact HSame.out.2 j hjm)
            have HAp := Lib.hid (show ItAt y5 p by
              rw [← hp, List.getD_eq_getElem?_getD, List.getElem?_eq_getElem (by rw [HXl.out]; exact hjm)]
              exact HAx5.out _ (List.getElem_mem _))
            have HAq := Lib.hid (show ItAt y5 q by
              rw [← hq, List.getD_eq_getElem?_getD, List.getElem?_eq_getElem (by rw [HYl.out]; exact hjm)]
              exact HAy.out _ (List.getElem_mem _))
            obtain ⟨PV, hPV⟩ : ∃ q, itV p = q := ⟨_, rfl⟩
            obtain ⟨QV, hQV⟩ : ∃ r, itV q = r := ⟨_, rfl⟩
            have HPa := Lib.hid (show (itL p).toArray = PV by rw [itL_arr, hPV])
            have HQa := Lib.hid (show (itL q).toArray = QV by rw [itL_arr, hQV])
            have HX1 := Lib.hid hx1'
            have HX2 := Lib.hid hx2'
            have HSm := Lib.hid (show ∀ u, Ext y5 u → Calls Try.prog 18 #[.agg PV, .agg QV] u fun e w' => e = .returned (.bool true) ∧ Ext u w' from fun u hu => by
              have h := refSameW_any p q u (HAp.out.ext hu) (HAq.out.ext hu)
              rw [hPV, hQV] at h
              refine h.mono ?_
              rintro e w' ⟨B, rfl, hE, hB⟩
              exact ⟨by rw [HV.out B hB], hE⟩)
            clear hx1 hx2 hx1' hx2' hp hq hPV hQV
            go_upto_region 19 with (fail)
            have HY := Lib.hid (show ∀ u, Ext z.drew u → Ext y5 u from fun u hu => HEz.out.trans (Ext.trans (Ext.refl z).drew hu))
            refine wp_region_lexA (by kernel_rfl) (by kernel_rfl) ?_
            refine lx_e (.slice (some ⟨g1, 0, none⟩) m xc) [] (by kernel_rfl) rfl (by rfl) (fun w1 hw1 => ?_) ?_
            · simp only [pk, lexVals]
              go_simp
              exact ⟨Ext.refl _, rfl⟩
            refine lx_e (.int .i64 (j : Int)) [] (by kernel_rfl) rfl (by rfl) (fun w1 hw1 => ?_) ?_
            · simp only [pk, lexVals]
              go_simp
              exact ⟨Ext.refl _, rfl⟩
            refine lx_e (.pointer (some ⟨g1, 0 + j * 146, none⟩)) [(1, 90), (0, 91)] (by kernel_rfl) rfl (by rfl) (fun w1 hw1 => ?_) ?_
            · simp only [pk, nthSp, lexVals]
              exact lu_iidx rfl rfl rfl hjm
            refine lx_e (.agg PV) [(0, 92)] (by kernel_rfl) rfl (by rfl) (fun w1 hw1 => ?_) ?_
            · simp only [pk, nthSp, lexVals]
              exact lu_mid rfl rfl (itL p) (fun i u hu => by
                have h1 := HX1.out i u hu
                rw [Nat.zero_add, (HY.out w1 hw1).cell (World.block_lt_of_cell? _ _ h1)]
                exact h1) Try.underlying41 rfl (by rw [itL_length]; kernel_rfl) PV HPa.out
            refine lx_e (.slice (some ⟨g2, 0, none⟩) m yc) [] (by kernel_rfl) rfl (by rfl) (fun w1 hw1 => ?_) ?_
            · simp only [pk, lexVals]
              go_simp
              exact ⟨Ext.refl _, rfl⟩
            refine lx_e (.int .i64 (j : Int)) [] (by kernel_rfl) rfl (by rfl) (fun w1 hw1 => ?_) ?_
            · simp only [pk, lexVals]
              go_simp
              exact ⟨Ext.refl _, rfl⟩
            refine lx_e (.pointer (some ⟨g2, 0 + j * 146, none⟩)) [(1, 94), (0, 95)] (by kernel_rfl) rfl (by rfl) (fun w1 hw1 => ?_) ?_
            · simp only [pk, nthSp, lexVals]
              exact lu_iidx rfl rfl rfl hjm
            refine lx_e (.agg QV) [(0, 96)] (by kernel_rfl) rfl (by rfl) (fun w1 hw1 => ?_) ?_
            · simp only [pk, nthSp, lexVals]
              exact lu_mid rfl rfl (itL q) (fun i u hu => by
                have h1 := HX2.out i u hu
                rw [Nat.zero_add, (HY.out w1 hw1).cell (World.block_lt_of_cell? _ _ h1)]
                exact h1) Try.underlying41 rfl (by rw [itL_length]; kernel_rfl) QV HQa.out
            refine lx_e (.bool true) [(4, 93), (0, 97)] (by kernel_rfl) rfl (by rfl) (fun w1 hw1 => ?_) ?_
            · simp only [pk, nthSp, lexVals]
              have HM := Lib.hid (HSm.out w1 (HY.out w1 hw1))
              clear hw1
              go_simp
              refine HM.out.mono ?_
              rintro e w2 ⟨rfl, hE2⟩
              exact ⟨_, rfl, hE2, rfl⟩
            refine lx_e (.bool false) [(0, 98)] (by kernel_rfl) rfl (by rfl) (fun w1 hw1 => ?_) ?_
            · simp only [pk, nthSp, lexVals]
              clear hw1
              go_simp
              exact ⟨Ext.refl _, by first | rfl | simp⟩
            refine lx_stopA (by rfl) fun z3 hz3 => ?_
            have HE3 := Lib.hid (HY.out z3 hz3)
            clear hz3
            simp only [rv, pf, lexVals]
            simp only [Act.put, List.setIfInBounds_toArray, List.set_cons_zero, List.set_cons_succ]
            go_wp2
            go_roundw
            case rel => exact ⟨j + 1, by omega, by go_num, HE3.out⟩
            case measure => simp [intOf]; omega
          · obtain rfl : j = m := by omega
            have x2 : ¬ (j : Int) < (j : Int) := by omega
            go_wp2_with fail
            go_ret
            exact ⟨rfl, HEw.out.trans HEz.out⟩

end Go.Proofs.Ytldaligeckjhaaa
