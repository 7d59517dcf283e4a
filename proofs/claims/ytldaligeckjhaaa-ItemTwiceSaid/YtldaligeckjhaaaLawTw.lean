/-
  The walk of jalousielaw18.ItemTwice: it answers true. No conditions.
-/
import Derived.Test.YtldaligeckjhaaaFold
import Derived.Test.YtldaligeckjhaaaLater
namespace Go.Proofs.Ytldaligeckjhaaa
open Go.ChangeShapes Go.WideShapes Go.ChangeAt Go.RowKit

/-- Rows joined to rows of one's own. -/
theorem wp_app {w : World} {ops : Array Oper} {rest : List Oper} {o : Oper} {a : Act} {Q : Exit → Act → World → Prop} (hw : Region.wanted o (yielded ops a.tmps) = true) (s x : Operand) (ho : o.op = .call { callee := .builtin .append, args := #[s, x], argTypes := #[22, 22] })
    {S n : Nat} {l : List Rw} {v : Value} (hs : a.eval s = v) (hown : OwnR S n l v w) {u : Value} {m : Nat} {l2 : List Rw} (hu : a.eval x = u) (hx : ∃ b c, u = .slice b m c ∧ RwsAt w b m c l2) (hsz : n + m ≤ 1000000) (hS : S ≤ w.heap.size)
    (h : ∀ v' w', OwnR S (n + m) (l ++ l2) v' w' → Below S w w' → wpList Try.prog ops Q rest (a.put o.dst v') w') : wpList Try.prog ops Q (o :: rest) a w := by
  obtain ⟨v', w', hr, h1, h2⟩ := app_own hown hx hsz hS o.type
  refine wpList_want hw fun K hK => ?_
  have e : (execOp a.eval o).run Try.prog w = .ok (.value v') w' := by
    simp only [execOp, ho, resolve, invoke, builtin, Sem.run_bind, Sem.run_pure, Result.andThen_ok, List.map_toArray, List.map_cons, List.map_nil, hs, hu, hr]
  unfold Oper.wp
  rw [e]
  refine hK _ _ (h v' w' h1 ?_)
  rcases h2 with h2 | ⟨_, _, _, h3⟩
  · exact Below.mono h2 hS
  · exact h3
theorem wp_build_rws0 {ops : Array Oper} {Q : Exit → Act → World → Prop} {rest : List Oper} {o : Oper} {a : Act} {w : World} (hw : Region.wanted o (yielded ops a.tmps) = true) (ho : o.op = .buildSlice 22 0 #[])
    (k : wpList Try.prog ops Q rest (a.put o.dst (.slice (some ⟨w.heap.size, 0, none⟩) 0 0)) (w.alloc (.cells #[] 36))) : wpList Try.prog ops Q (o :: rest) a w := by
  refine wpList_want hw fun K hK => ?_
  unfold Oper.wp execOp
  simp only [ho, List.map_toArray, List.map_nil, Sem.run_bind, build_rw0, Result.andThen_ok, Sem.run_pure]
  exact hK _ _ k
set_option maxRecDepth 100000 in
theorem size_itm (w : World) : (sizeOf 41).run Try.prog w = .ok 146 w := by kernel_rfl
theorem lu_iidx {w : World} {o : Oper} {ev : Operand → Value} {x y : Operand} {b off n c k : Nat} (ho : o.op = .indexAddr 49 x y) (hx : ev x = .slice (some ⟨b, off, none⟩) n c) (hy : ev y = .int .i64 (k : Int)) (hk : k < n) :
    lexUpon Try.prog w (.ex (.pointer (some ⟨b, off + k * 146, none⟩))) ((execOp ev o).run Try.prog w) := by
  have hr : (Instr.indexAt 49 (.slice (some ⟨b, off, none⟩) n c) (.int .i64 (k : Int))).run Try.prog w = .ok (.pointer (some ⟨b, off + k * 146, none⟩)) w := by
    have hb : (0 : Int) ≤ (k : Int) ∧ (k : Int) < (n : Int) := by omega
    simp only [Instr.indexAt, asIntOf, Sem.run_bind, Sem.run_pure, Result.andThen_ok, run_underlying Try.underlying49, hb, and_self, if_true, size_itm, Int.toNat_natCast, add_none]
  simp only [execOp, ho, hx, hy, Sem.run_bind, hr, Result.andThen_ok, Sem.run_pure]
  exact ⟨Ext.refl _, rfl⟩
/-- Items side by side. -/
theorem own_its {w : World} {B n c : Nat} {a : Option Addr} {l : List It} (h : w.ownsRow B 41 146 (.slice a n c) n (itsC l)) : n ≤ 9223372036854775807 ∧ (0 < n → ∃ g, a = some ⟨g, 0, none⟩ ∧ ∀ i, i < n → w.rangeAt g (i * 146) (itL (l.getD i itN))) := by
  have hl : l.length = n := by
    have := h.1
    rw [itsC_length] at this
    omega
  refine ⟨?_, fun h0 => ?_⟩
  · rcases h.2 with ⟨_, e⟩ | ⟨g, cap, cur, e, _, _, k1, k2, _⟩
    · omega
    · unfold maxLen at k2
      omega
  rcases h.2 with ⟨_, e⟩ | ⟨g, cap, cur, e, _⟩
  · omega
  · simp only [Value.slice.injEq] at e
    obtain ⟨rfl, _⟩ := e
    refine ⟨g, rfl, fun i hi j u hu => ?_⟩
    have hj : j < 146 := by
      have := (List.getElem?_eq_some_iff.1 hu).1
      rwa [itL_length] at this
    rw [itL_get _ j hj] at hu
    obtain rfl := Option.some.inj hu
    have h2 := h.cells (g := g) rfl (i * 146 + j) _ (itsC_get l i j (by omega) hj)
    rw [addr_add, Nat.zero_add] at h2
    exact h2
set_option maxHeartbeats 8000000 in
set_option maxRecDepth 100000 in
theorem lawTw_any (a : Option Addr) (n c : Nat) (l : List Rw) (w : World) (h : RwsAt w a n c l) :
    Calls Try.prog 5 #[.slice a n c] w fun e w' => e = .returned (.bool true) ∧ Ext w w' := by
  have hcap := h.cap
  have hlim := h.lim
  have H := Lib.hid h
  have HLen := Lib.hid h.len
  have HAw := Lib.hid (awake18_any w)
  clear h
  go_enter Try.func5, Try.ntmps5
  go_wp2_with fail
  refine HAw.out.mono ?_
  rintro e w3 ⟨rfl, hE3⟩
  have HE3 := Lib.hid hE3
  have HFew := Lib.hid (fewR_any a n c l 25 w3 (H.out.ext hE3))
  clear hE3 HAw
  go_wp2_with fail
  refine HFew.out.mono ?_
  rintro e w4 ⟨R, rfl, hR, hE4⟩
  have HE4 := Lib.hid (HE3.out.trans hE4)
  have HRn := Lib.hid hR
  clear hE4 hR HFew HE3
  have HA4 := Lib.hid (awake18_any w4)
  cases R with
  | false =>
    go_wp2_with fail
    refine HA4.out.mono ?_
    rintro e w5 ⟨rfl, hE5⟩
    go_wp2
    go_ret
    exact ⟨rfl, HE4.out.trans hE5⟩
  | true =>
    have hn : n ≤ 25 := by
      have := HRn.out rfl
      omega
    clear HRn HA4
    obtain ⟨S, hS⟩ : ∃ z, w4.heap.size = z := ⟨_, rfl⟩
    have HS := Lib.hid hS
    clear hS
    go_wp2_with fail
    go_loopw [3, 4] (fun o i y => ∃ (k : Nat), k ≤ n ∧ i = .int .i64 (k : Int) ∧ Ext w4 y ∧ y.ownsRow S 36 130 o ((l.take k).filter rowB).length (rwsC ((l.take k).filter rowB))) (fun _ i _ => n - (intOf i).toNat)
    case atStart => exact ⟨0, by omega, rfl, Ext.refl w4, World.ownsRow_nil w4 S 36 130⟩
    case round =>
      obtain ⟨k, hk, rfl, hE, hown⟩ := hrel
      rename World => y
      obtain ⟨oa, oc, hsl⟩ := own_rwsl hown
      subst hsl
      have HE := Lib.hid hE
      have HOwn := Lib.hid hown
      clear hE hown
      obtain ⟨fl, hfl⟩ : ∃ z, (l.take k).filter rowB = z := ⟨_, rfl⟩
      have Hfl := Lib.hid hfl
      rw [hfl] at HOwn
      rw [hfl]
      have hMk : fl.length ≤ k := by
        rw [← hfl]
        exact Nat.le_trans (List.length_filter_le _ _) (by rw [List.length_take]; omega)
      obtain ⟨M, hM⟩ : ∃ z, fl.length = z := ⟨_, rfl⟩
      have HM := Lib.hid hM
      rw [hM] at HOwn hMk
      rw [hM]
      have HEy := Lib.hid (HE4.out.trans HE.out)
      have hflm : ∀ q ∈ fl, q ∈ l := fun q hq => by
        rw [← hfl] at hq
        exact List.mem_of_mem_take (List.mem_filter.1 hq).1
      have HRw := Lib.hid (own_rws HOwn.out (fun q hq => (H.out.each q (hflm q hq)).ext HEy.out) (by omega))
      clear hfl hM hflm
      by_cases hlt : k < n
      · have x1 : (k : Int) < (n : Int) := by omega
        obtain ⟨b, off, rfl, hcell⟩ := (H.out.ext HEy.out).at_ (by omega)
        obtain ⟨x, hx⟩ : ∃ x, l.getD k rwN = x := ⟨_, rfl⟩
        have hck := hcell k hlt
        rw [hx] at hck
        have HRx := Lib.hid (show RwAt y x by rw [← hx]; exact (H.out.get hlt).ext HEy.out)
        have Hflk := Lib.hid (show (l.take (k + 1)).filter rowB = if rowB x = true then fl ++ [x] else fl by
          have hkl : k < l.length := by rw [HLen.out]; exact hlt
          have e0 : l.take (k + 1) = l.take k ++ [x] := by
            rw [List.take_add_one, List.getElem?_eq_getElem hkl, ← hx, List.getD_eq_getElem?_getD, List.getElem?_eq_getElem hkl]
            rfl
          rw [e0, List.filter_append, Hfl.out]
          by_cases hb : rowB x = true
          · simp [hb]
          · simp [hb])
        obtain ⟨X, hX⟩ : ∃ X, rwV x = X := ⟨_, rfl⟩
        have HX := Lib.hid hX
        have HXa := Lib.hid (show (rwL x).toArray = X by rw [rwL_arr, hX])
        have HRg := Lib.hid (show y.rangeAt b (off + k * 130) (rwL x) from rwL_range hck)
        obtain ⟨FB, hFB⟩ : ∃ z, rowB x = z := ⟨_, rfl⟩
        have HFm := Lib.hid (rowFormed_any x y HRx.out)
        rw [hX, hFB] at HFm
        rw [hFB] at Hflk
        clear hcell hck hx hX hFB
        cases FB with
        | false =>
          go_wp2_with (first | (refine wp_ridx rfl _ _ rfl b off n c k rfl (by first | rfl | simp [Act.eval]) hlt ?_) | (refine wpList_load_mid rfl 36 (.tmp 24) rfl b _ rfl (rwL x) _ HRg.out Try.underlying36 rfl (by rw [rwL_length]; kernel_rfl) ?_; rw [HXa.out]) | (go_at_call 19; refine HFm.out.mono ?_; rintro e y1 ⟨rfl, hE1⟩; have HE1 := Lib.hid hE1; clear hE1))
          go_roundw
          case rel =>
            refine ⟨k + 1, by omega, by go_num, HE.out.trans HE1.out, ?_⟩
            rw [Hflk.out, if_neg Bool.false_ne_true, HM.out]
            exact own_extM HOwn.out HE1.out
          case measure => simp [intOf]; omega
        | true =>
          go_upto_region 8 with (first | (refine wp_ridx rfl _ _ rfl b off n c k rfl (by first | rfl | simp [Act.eval]) hlt ?_) | (refine wpList_load_mid rfl 36 (.tmp 24) rfl b _ rfl (rwL x) _ HRg.out Try.underlying36 rfl (by rw [rwL_length]; kernel_rfl) ?_; rw [HXa.out]) | (go_at_call 19; refine HFm.out.mono ?_; rintro e y1 ⟨rfl, hE1⟩; have HE1 := Lib.hid hE1; clear hE1))
          have HRg2 := Lib.hid (show y1.rangeAt b (off + k * 130) (rwL x) from fun j u hu => by
            have h1 := HRg.out j u hu
            rw [HE1.out.cell (World.block_lt_of_cell? _ _ h1)]
            exact h1)
          obtain ⟨y3, hy3⟩ : ∃ z, y1.alloc (.cells X 36) = z := ⟨_, rfl⟩
          obtain ⟨g, hg⟩ : ∃ z, y1.heap.size = z := ⟨_, rfl⟩
          have HE3 := Lib.hid (show Ext y1 y3 by rw [← hy3]; exact (Ext.refl y1).alloc _)
          have HB3 := Lib.hid (show ∀ j, j < 130 → y3.cell? ⟨g, j, none⟩ = some (rwC x j) from fun j hj => by
            have hb : y3.heap[g]? = some (.cells (rwV x) 36 (0, 0)) := by rw [HX.out, ← hy3]; exact heap_new y1 _ _ hg.symm
            exact row_cell hb j hj)
          have HOw3 := Lib.hid (own_extM HOwn.out (HE1.out.trans HE3.out))
          have HSz := Lib.hid (show S ≤ y3.heap.size by have h1 := Below.size (HE.out.trans (HE1.out.trans HE3.out)); rw [HS.out] at h1; exact h1)
          have Hy3 := Lib.hid hy3
          have Hg := Lib.hid hg
          clear hy3 hg
          go_wp2_with (first | (refine wp_ridx rfl _ _ rfl b off n c k rfl (by first | rfl | simp [Act.eval]) hlt ?_) | (refine wpList_load_mid rfl 36 (.tmp 30) rfl b _ rfl (rwL x) _ HRg2.out Try.underlying36 rfl (by rw [rwL_length]; kernel_rfl) ?_; rw [HXa.out]; simp only [Act.put, List.setIfInBounds_toArray, List.set_cons_zero, List.set_cons_succ]; refine wp_build_rw1 rfl (.tmp 31) rfl x X HX.out rfl ?_; rw [Hg.out, Hy3.out]; simp only [Act.put, List.setIfInBounds_toArray, List.set_cons_zero, List.set_cons_succ]; refine append_rw rfl (.tmp 27) (.tmp 32) rfl S _ M fl rfl HOw3.out g 1 x rfl HB3.out (by omega) HSz.out ?_; intro v4 y4 ho4 hg4 hv4; have HO4 := Lib.hid ho4; have HG4 := Lib.hid hg4; clear ho4 hg4 hv4; simp only [Act.put, List.setIfInBounds_toArray, List.set_cons_zero, List.set_cons_succ]))
          refine ⟨⟨k + 1, by omega, by go_num, ?_, ?_⟩, by simp [intOf]; omega⟩
          · have h1 : Below S y3 y4 := (Below.refl S y3).grown HG4.out HSz.out (fun q hq => (HOw3.out.lt q hq).1)
            rw [← HS.out] at h1
            exact Below.trans (HE.out.trans (HE1.out.trans HE3.out)) h1
          · rw [show (l.take (k + 1)).filter rowB = fl ++ [x] from by rw [Hflk.out]; simp, List.length_append, List.length_singleton, HM.out]
            exact HO4.out
      · obtain rfl : k = n := by omega
        have x1 : ¬ (k : Int) < (k : Int) := by omega
        have Hfl2 := Lib.hid (show l.filter rowB = fl by
          have h1 := Hfl.out
          rw [← HLen.out, List.take_length] at h1
          exact h1)
        have HFo := Lib.hid (fold_any a k c l y (H.out.ext HEy.out) (by omega))
        clear hlt
        go_upto_region 9 with (fail)
        go_wp2_with fail
        refine HFo.out.mono ?_
        rintro e y1 ⟨vx, xs, rfl, hE, ho, hat, hfi⟩
        obtain ⟨xa, xc, hvx⟩ := own_itsl ho
        subst hvx
        have HE1 := Lib.hid hE
        have HOx := Lib.hid ho
        have HAx := Lib.hid hat
        have HFx := Lib.hid hfi
        clear hE ho hat hfi
        dsimp only
        refine (‹∀ (a : Act) (w : World), wpList Try.prog _ _ _ a w → _›) _ _ ?_
        refine wp_build_rws0 rfl rfl ?_
        simp only [Act.put, List.setIfInBounds_toArray, List.set_cons_zero, List.set_cons_succ]
        obtain ⟨y2, hy2⟩ : ∃ z, y1.alloc (.cells #[] 36) = z := ⟨_, rfl⟩
        obtain ⟨S1, hS1⟩ : ∃ z, y1.heap.size = z := ⟨_, rfl⟩
        have HE2 := Lib.hid (show Ext y1 y2 by rw [← hy2]; exact (Ext.refl y1).alloc _)
        have HO0 := Lib.hid (show OwnR S1 0 [] (.slice (some ⟨S1, 0, none⟩) 0 0) y2 by rw [← hy2, ← hS1]; exact own_rw0 (Nat.le_refl _))
        have HS1 := Lib.hid hS1
        rw [hS1, hy2]
        clear hS1 hy2
        refine wp_yes (v := .slice oa M oc) rfl (by exact run_move) ?_
        simp only [Act.put, List.setIfInBounds_toArray, List.set_cons_zero, List.set_cons_succ]
        have hR2 : RwsAt y2 oa M oc fl := HRw.out.ext (HE1.out.trans HE2.out)
        have hz2 : S1 ≤ y2.heap.size := by rw [← HS1.out]; exact Below.size HE2.out
        refine wp_app rfl (.tmp 36) (.tmp 37) rfl rfl HO0.out rfl ⟨oa, oc, rfl, hR2⟩ (by omega) hz2 ?_
        intro v3 y3 ho3 hb3
        rw [Nat.zero_add, List.nil_append] at ho3
        have hE3 : Ext y1 y3 := HE2.out.trans' (by rw [HS1.out]; exact hb3)
        simp only [Act.put, List.setIfInBounds_toArray, List.set_cons_zero, List.set_cons_succ]
        refine wp_yes (v := .slice oa M oc) rfl (by exact run_move) ?_
        simp only [Act.put, List.setIfInBounds_toArray, List.set_cons_zero, List.set_cons_succ]
        refine wp_app rfl (.tmp 38) (.tmp 39) rfl rfl ho3 rfl ⟨oa, oc, rfl, HRw.out.ext (HE1.out.trans hE3)⟩ (by omega) (Nat.le_trans hz2 (Below.size hb3)) ?_
        intro v4 y4 ho4 hb4
        have hE4 : Ext y1 y4 := hE3.trans' (by rw [HS1.out]; exact hb4)
        obtain ⟨a4, c4, hv4⟩ := own_t ho4
        subst hv4
        simp only [Act.put, List.setIfInBounds_toArray, List.set_cons_zero, List.set_cons_succ]
        have HE14 := Lib.hid (HE1.out.trans hE4)
        have HEn := Lib.hid hE4
        have hflm : ∀ q ∈ fl, q ∈ l := fun q hq => by
          rw [← Hfl2.out] at hq
          exact (List.mem_filter.1 hq).1
        have hR4 := own_rws ho4.1 (fun q hq => (H.out.each q (by
          rcases List.mem_append.1 hq with h1 | h1
          · exact hflm q h1
          · exact hflm q h1)).ext (HEy.out.trans HE14.out)) (by omega)
        have hF2 := fold_any a4 (M + M) c4 (fl ++ fl) y4 hR4 (by omega)
        have hcn : cntN (fl ++ fl) (M + M) = cntN l k := by
          have h1 := cnt_twice l
          rw [Hfl2.out, HLen.out, List.length_append, HM.out] at h1
          exact h1
        rw [hcn] at hF2
        have HF2 := Lib.hid hF2
        clear hR2 hz2 ho3 hb3 hE3 ho4 hb4 hE4 hflm hR4 hF2 hcn
        go_wp2_with fail
        refine HF2.out.mono ?_
        rintro e y5 ⟨vy, ys, rfl, hE, ho, hat, hfi⟩
        obtain ⟨ya, yc, hvy⟩ := own_itsl ho
        subst hvy
        have HE5 := Lib.hid hE
        have HOy := Lib.hid (own_its ho)
        have HOx5 := Lib.hid (own_its (own_extM HOx.out (HEn.out.trans hE)))
        have HSame := Lib.hid (HFx.out.same hfi)
        have HAx5 := Lib.hid (show ∀ t ∈ xs, ItAt y5 t from fun t ht => (HAx.out t ht).ext (HEn.out.trans hE))
        have HAy := Lib.hid hat
        have HEw := Lib.hid (HEy.out.trans (HE14.out.trans hE))
        clear hE ho hat hfi
        have hlen := HSame.out.1
        obtain ⟨m, hm⟩ : ∃ z, xs.length = z := ⟨_, rfl⟩
        rw [← hlen] at HOy ⊢
        rw [hm] at HOy HOx5 HSame ⊢
        have HXl := Lib.hid hm
        have HYl := Lib.hid (hlen.symm.trans hm)
        have hmx := HOx5.out.1
        clear hlen hm
        dsimp only
        refine (‹∀ (a : Act) (w : World), wpList Try.prog _ _ _ a w → _›) _ _ ?_
        go_wp2_with fail
        go_loopw [7] (fun i y => ∃ j : Nat, j ≤ m ∧ i = .int .i64 (j : Int) ∧ Ext y5 y) (fun i _ => m - (intOf i).toNat)
        case atStart => exact ⟨0, by omega, rfl, Ext.refl _⟩
        case round =>
          obtain ⟨j, hj, rfl, hE⟩ := hrel
          rename World => z
          have HEz := Lib.hid hE
          clear hE
          by_cases hjm : j < m
          · have x2 : (j : Int) < (m : Int) := by omega
            obtain ⟨g1, e1, hx1⟩ := HOx5.out.2 (by omega)
            obtain ⟨g2, e2, hx2⟩ := HOy.out.2 (by omega)
            subst e1
            subst e2
            have hx1' := hx1 j hjm
            have hx2' := hx2 j hjm
            obtain ⟨p, hp⟩ : ∃ q, xs.getD j itN = q := ⟨_, rfl⟩
            obtain ⟨q, hq⟩ : ∃ r, ys.getD j itN = r := ⟨_, rfl⟩
            rw [hp] at hx1'
            rw [hq] at hx2'
            have HV := Lib.hid (show ∀ B, SmR p q (bytesL p.hd.1 p.hd.2) (bytesL q.hd.1 q.hd.2) B → B = true from by
              rw [← hp, ← hq]
              exact HSame.out.2 j hjm)
            have HAp := Lib.hid (show ItAt y5 p by
              rw [← hp, List.getD_eq_getElem?_getD, List.getElem?_eq_getElem (by rw [HXl.out]; exact hjm)]
              exact HAx5.out _ (List.getElem_mem _))
            have HAq := Lib.hid (show ItAt y5 q by
              rw [← hq, List.getD_eq_getElem?_getD, List.getElem?_eq_getElem (by rw [HYl.out]; exact hjm)]
              exact HAy.out _ (List.getElem_mem _))
            obtain ⟨PV, hPV⟩ : ∃ q, itV p = q := ⟨_, rfl⟩
            obtain ⟨QV, hQV⟩ : ∃ r, itV q = r := ⟨_, rfl⟩
            have HPa := Lib.hid (show (itL p).toArray = PV by rw [itL_arr, hPV])
            have HQa := Lib.hid (show (itL q).toArray = QV by rw [itL_arr, hQV])
            have HX1 := Lib.hid hx1'
            have HX2 := Lib.hid hx2'
            have HSm := Lib.hid (show ∀ u, Ext y5 u → Calls Try.prog 18 #[.agg PV, .agg QV] u fun e w' => e = .returned (.bool true) ∧ Ext u w' from fun u hu => by
              have h := refSameW_any p q u (HAp.out.ext hu) (HAq.out.ext hu)
              rw [hPV, hQV] at h
              refine h.mono ?_
              rintro e w' ⟨B, rfl, hE, hB⟩
              exact ⟨by rw [HV.out B hB], hE⟩)
            clear hx1 hx2 hx1' hx2' hp hq hPV hQV
            go_upto_region 13 with (fail)
            have HY := Lib.hid (show ∀ u, Ext z.drew u → Ext y5 u from fun u hu => HEz.out.trans (Ext.trans (Ext.refl z).drew hu))
            refine wp_region_lexA (by kernel_rfl) (by kernel_rfl) ?_
            refine lx_e (.slice (some ⟨g1, 0, none⟩) m xc) [] (by kernel_rfl) rfl (by rfl) (fun w1 hw1 => ?_) ?_
            · simp only [pk, lexVals]
              go_simp
              exact ⟨Ext.refl _, rfl⟩
            refine lx_e (.int .i64 (j : Int)) [] (by kernel_rfl) rfl (by rfl) (fun w1 hw1 => ?_) ?_
            · simp only [pk, lexVals]
              go_simp
              exact ⟨Ext.refl _, rfl⟩
            refine lx_e (.pointer (some ⟨g1, 0 + j * 146, none⟩)) [(1, 55), (0, 56)] (by kernel_rfl) rfl (by rfl) (fun w1 hw1 => ?_) ?_
            · simp only [pk, nthSp, lexVals]
              exact lu_iidx rfl rfl rfl hjm
            refine lx_e (.agg PV) [(0, 57)] (by kernel_rfl) rfl (by rfl) (fun w1 hw1 => ?_) ?_
            · simp only [pk, nthSp, lexVals]
              exact lu_mid rfl rfl (itL p) (fun i u hu => by
                have h1 := HX1.out i u hu
                rw [Nat.zero_add, (HY.out w1 hw1).cell (World.block_lt_of_cell? _ _ h1)]
                exact h1) Try.underlying41 rfl (by rw [itL_length]; kernel_rfl) PV HPa.out
            refine lx_e (.slice (some ⟨g2, 0, none⟩) m yc) [] (by kernel_rfl) rfl (by rfl) (fun w1 hw1 => ?_) ?_
            · simp only [pk, lexVals]
              go_simp
              exact ⟨Ext.refl _, rfl⟩
            refine lx_e (.int .i64 (j : Int)) [] (by kernel_rfl) rfl (by rfl) (fun w1 hw1 => ?_) ?_
            · simp only [pk, lexVals]
              go_simp
              exact ⟨Ext.refl _, rfl⟩
            refine lx_e (.pointer (some ⟨g2, 0 + j * 146, none⟩)) [(1, 59), (0, 60)] (by kernel_rfl) rfl (by rfl) (fun w1 hw1 => ?_) ?_
            · simp only [pk, nthSp, lexVals]
              exact lu_iidx rfl rfl rfl hjm
            refine lx_e (.agg QV) [(0, 61)] (by kernel_rfl) rfl (by rfl) (fun w1 hw1 => ?_) ?_
            · simp only [pk, nthSp, lexVals]
              exact lu_mid rfl rfl (itL q) (fun i u hu => by
                have h1 := HX2.out i u hu
                rw [Nat.zero_add, (HY.out w1 hw1).cell (World.block_lt_of_cell? _ _ h1)]
                exact h1) Try.underlying41 rfl (by rw [itL_length]; kernel_rfl) QV HQa.out
            refine lx_e (.bool true) [(4, 58), (0, 62)] (by kernel_rfl) rfl (by rfl) (fun w1 hw1 => ?_) ?_
            · simp only [pk, nthSp, lexVals]
              have HM := Lib.hid (HSm.out w1 (HY.out w1 hw1))
              clear hw1
              go_simp
              refine HM.out.mono ?_
              rintro e w2 ⟨rfl, hE2⟩
              exact ⟨_, rfl, hE2, rfl⟩
            refine lx_e (.bool false) [(0, 63)] (by kernel_rfl) rfl (by rfl) (fun w1 hw1 => ?_) ?_
            · simp only [pk, nthSp, lexVals]
              clear hw1
              go_simp
              exact ⟨Ext.refl _, by first | rfl | simp⟩
            refine lx_stopA (by rfl) fun z3 hz3 => ?_
            have HE3 := Lib.hid (HY.out z3 hz3)
            clear hz3
            simp only [rv, pf, lexVals]
            simp only [Act.put, List.setIfInBounds_toArray, List.set_cons_zero, List.set_cons_succ]
            go_wp2
            go_roundw
            case rel => exact ⟨j + 1, by omega, by go_num, HE3.out⟩
            case measure => simp [intOf]; omega
          · obtain rfl : j = m := by omega
            have x2 : ¬ (j : Int) < (j : Int) := by omega
            go_wp2_with fail
            go_ret
            exact ⟨rfl, HEw.out.trans HEz.out⟩

end Go.Proofs.Ytldaligeckjhaaa
