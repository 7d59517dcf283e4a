/-
  The walk of jalousieref18.Counting. No conditions but the length.
  The walk of jalousieref18.Of. No conditions but the length.
-/
import Derived.Test.YtldaligeckjhaaaPtC
import Derived.Test.YtldaligeckjhaaaMoreA
namespace Go.Proofs.Ytldaligeckjhaaa
open Go.ChangeAt Go.ChangeShapes Go.RowKit Go.WideShapes

/-- Whether a row is the first of its place, so far. -/
def fstB (x : Rw) (cs : List Rw) (m : Nat) : Bool := rowB x && !hasPl x (cs.take m)
theorem fstB_all (x : Rw) (cs : List Rw) : fstB x cs cs.length = decide (rowB x = true ∧ hasPl x cs = false) := by
  unfold fstB
  rw [List.take_length]
  cases rowB x <;> cases hasPl x cs <;> rfl
theorem fstB_succ (x : Rw) (cs : List Rw) (m : Nat) (hm : m < cs.length) : fstB x cs (m + 1) = (fstB x cs m && !(decide ((cs.getD m rwN).hd.1.writer = x.hd.1.writer) && decide ((cs.getD m rwN).hd.1.seq = x.hd.1.seq))) := by
  unfold fstB hasPl
  have e0 : cs.take (m + 1) = cs.take m ++ [cs[m]] := by rw [List.take_add_one, List.getElem?_eq_getElem hm]; rfl
  rw [e0, List.any_append]
  have e : cs.getD m rwN = cs[m] := by rw [List.getD_eq_getElem?_getD, List.getElem?_eq_getElem hm]; rfl
  rw [e]
  have e2 : ([cs[m]].any fun q => plK.eq (rwPl x) (rwPl q)) = (decide (cs[m].hd.1.writer = x.hd.1.writer) && decide (cs[m].hd.1.seq = x.hd.1.seq)) := by
    simp only [List.any_cons, List.any_nil, Bool.or_false, plK, rwPl]
    by_cases h1 : cs[m].hd.1.writer = x.hd.1.writer <;> by_cases h2 : cs[m].hd.1.seq = x.hd.1.seq
    · rw [h1, h2]; simp
    · rw [h1]; simp [h2, Ne.symm h2]
    · rw [h2]; simp [h1, Ne.symm h1]
    · simp [h1, Ne.symm h1]
  rw [e2]
  cases rowB x <;> cases (cs.take m).any fun q => plK.eq (rwPl x) (rwPl q) <;> simp
set_option maxHeartbeats 4000000 in
set_option maxRecDepth 100000 in
theorem refCnt_any (a : Option Addr) (n c : Nat) (l : List Rw) (w : World) (h : RwsAt w a n c l) (hs : n ≤ 100000) :
    Calls Try.prog 16 #[.slice a n c] w fun e w' => ∃ v, e = .returned v ∧ Ext w w' ∧ w'.ownsRow w.heap.size 36 130 v (cntN l n).length (rwsC (cntN l n)) := by
  have hcap := h.cap
  have hlim := h.lim
  have H := Lib.hid h
  obtain ⟨S, hS⟩ : ∃ z, w.heap.size = z := ⟨_, rfl⟩
  have HS := Lib.hid hS
  rw [hS]
  clear h hS
  go_enter Try.func16, Try.ntmps16
  go_wp2
  go_loopw [3, 4] (fun o i y => ∃ (k : Nat), k ≤ n ∧ i = .int .i64 (k : Int) ∧ Ext w y ∧ y.ownsRow S 36 130 o (cntN l k).length (rwsC (cntN l k))) (fun _ i _ => n - (intOf i).toNat)
  case atStart => exact ⟨0, by omega, rfl, Ext.refl w, World.ownsRow_nil _ _ _ _⟩
  case round =>
    obtain ⟨k, hk, rfl, hE, hown⟩ := hrel
    rename World => y
    obtain ⟨oa, oc, hsl⟩ := own_rwsl hown
    subst hsl
    have HE := Lib.hid hE
    have HOwn := Lib.hid hown
    clear hE hown
    obtain ⟨M, hM⟩ : ∃ z, (cntN l k).length = z := ⟨_, rfl⟩
    obtain ⟨cs, hcs⟩ : ∃ z, cntN l k = z := ⟨_, rfl⟩
    rw [hM, hcs] at HOwn
    rw [hM]
    rw [hcs] at hM
    have HM := Lib.hid hM
    have HCs := Lib.hid hcs
    have hMk : M ≤ k := by rw [← hM, ← hcs]; exact cntN_le l k
    clear hM hcs
    by_cases hlt : k < n
    · have x1 : (k : Int) < (n : Int) := by omega
      obtain ⟨b, off, rfl, hcell⟩ := (H.out.ext HE.out).at_ (by omega)
      obtain ⟨x, hx⟩ : ∃ x, l.getD k rwN = x := ⟨_, rfl⟩
      have hck := hcell k hlt
      rw [hx] at hck
      have Hx := Lib.hid (show rwAt l k = x from hx)
      have HRx := Lib.hid (show RwAt y x by rw [← hx]; exact (H.out.get hlt).ext HE.out)
      obtain ⟨X, hX⟩ : ∃ X, rwV x = X := ⟨_, rfl⟩
      have HX := Lib.hid hX
      have HXa := Lib.hid (show (rwL x).toArray = X by rw [rwL_arr, hX])
      have HRg := Lib.hid (show y.rangeAt b (off + k * 130) (rwL x) from rwL_range hck)
      obtain ⟨X1, hX1⟩ : ∃ z, x.hd.1.writer = z := ⟨_, rfl⟩
      obtain ⟨X2, hX2⟩ : ∃ z, x.hd.1.seq = z := ⟨_, rfl⟩
      have HC1 := Lib.hid (show y.cell? ⟨b, off + k * 130, none⟩ = some (.int .i64 X1) by rw [← hX1]; exact hck 0 (by omega))
      have HC2 := Lib.hid (show y.cell? ⟨b, off + k * 130 + 1, none⟩ = some (.int .u64 X2) by rw [← hX2]; exact hck 1 (by omega))
      have HX1 := Lib.hid hX1
      have HX2 := Lib.hid hX2
      obtain ⟨FB, hFB⟩ : ∃ z, rowB x = z := ⟨_, rfl⟩
      have HFm := Lib.hid (refRow_any x y HRx.out)
      rw [hX, hFB] at HFm
      have HFB := Lib.hid (show fstB x cs 0 = FB by rw [← hFB]; simp [fstB, hasPl])
      clear hcell hck hx hX hX1 hX2 hFB
      go_upto_region 6 with (first | (refine wp_ridx rfl _ _ rfl b off n c k rfl (by first | rfl | simp [Act.eval]) hlt ?_) | (refine wpList_load_mid rfl 36 (.tmp 15) rfl b _ rfl (rwL x) _ HRg.out Try.underlying36 rfl (by rw [rwL_length]; kernel_rfl) ?_; rw [HXa.out]) | (go_at_call 12; refine HFm.out.mono ?_; rintro e y1 ⟨rfl, hE1⟩; have HE1 := Lib.hid hE1; clear hE1))
      go_wp2
      have HRw := Lib.hid (own_rws (HOwn.out) (fun q hq => (H.out.each q (by rw [← HCs.out] at hq; exact (cntN_mem l k (by have := H.out.len; omega) q hq).1)).ext HE.out) (by omega))
      go_loopw [5, 6] (fun f j y' => ∃ m : Nat, m ≤ M ∧ f = .bool (fstB x cs m) ∧ j = .int .i64 (m : Int) ∧ Ext y1 y') (fun _ j _ => M - (intOf j).toNat)
      case atStart => exact ⟨0, by omega, by rw [HFB.out], rfl, Ext.refl _⟩
      case round =>
        obtain ⟨m, hm, rfl, rfl, hE2⟩ := hrel
        rename World => y2
        have HE2 := Lib.hid hE2
        clear hE2
        obtain ⟨FS, hFS⟩ : ∃ z, fstB x cs m = z := ⟨_, rfl⟩
        have HFS := Lib.hid hFS
        rw [hFS]
        clear hFS
        by_cases hml : m < M
        · have x2 : (m : Int) < (M : Int) := by omega
          have HNx := Lib.hid (fstB_succ x cs m (by rw [HM.out]; exact hml))
          obtain ⟨b2, o2, rfl, hcell⟩ := HRw.out.at_ (by omega)
          obtain ⟨q, hq⟩ : ∃ z, cs.getD m rwN = z := ⟨_, rfl⟩
          have hck := hcell m hml
          rw [hq] at hck
          obtain ⟨Q1, hQ1⟩ : ∃ z, q.hd.1.writer = z := ⟨_, rfl⟩
          obtain ⟨Q2, hQ2⟩ : ∃ z, q.hd.1.seq = z := ⟨_, rfl⟩
          have hEy := HE1.out.trans HE2.out
          have hd1 : y2.cell? ⟨b2, o2 + m * 130, none⟩ = some (.int .i64 Q1) := by
            have h1 : y.cell? ⟨b2, o2 + m * 130, none⟩ = some (rwC q 0) := hck 0 (by omega)
            rw [← hQ1, hEy.cell (World.block_lt_of_cell? _ _ h1)]
            exact h1
          have hd2 : y2.cell? ⟨b2, o2 + m * 130 + 1, none⟩ = some (.int .u64 Q2) := by
            have h1 := hck 1 (by omega)
            rw [← hQ2, hEy.cell (World.block_lt_of_cell? _ _ h1)]
            exact h1
          have hc1 : y2.cell? ⟨b, off + k * 130, none⟩ = some (.int .i64 X1) := by rw [hEy.cell (World.block_lt_of_cell? _ _ HC1.out)]; exact HC1.out
          have hc2 : y2.cell? ⟨b, off + k * 130 + 1, none⟩ = some (.int .u64 X2) := by rw [hEy.cell (World.block_lt_of_cell? _ _ HC2.out)]; exact HC2.out
          rw [hq, hQ1, hQ2, HX1.out, HX2.out, HFS.out] at HNx
          clear hcell hck hq hQ1 hQ2 hEy
          go_upto_region 9 with (fail)
          cases FS with
          | false =>
            go_quiet (fail)
            go_wp2
            go_roundw
            case rel => exact ⟨m + 1, by omega, by rw [HNx.out]; rfl, by go_num, HE2.out.drewN' _⟩
            case measure => simp [intOf]; omega
          | true =>
            by_cases e1 : Q1 = X1
            · subst e1
              by_cases e2 : Q2 = X2
              · subst e2
                go_quiet (first | (refine wp_ridx rfl _ _ rfl b off n c k rfl (by first | rfl | simp [Act.eval]) hlt ?_) | (refine wp_ridx rfl _ _ rfl b2 o2 M oc m rfl (by first | rfl | simp [Act.eval]) hml ?_))
                go_wp2
                go_roundw
                case rel => exact ⟨m + 1, by omega, by rw [HNx.out]; simp, by go_num, HE2.out.drewN' _⟩
                case measure => simp [intOf]; omega
              · have e2' : decide (Q2 = X2) = false := decide_eq_false e2
                go_quiet (first | (refine wp_ridx rfl _ _ rfl b off n c k rfl (by first | rfl | simp [Act.eval]) hlt ?_) | (refine wp_ridx rfl _ _ rfl b2 o2 M oc m rfl (by first | rfl | simp [Act.eval]) hml ?_))
                go_wp2
                go_roundw
                case rel => exact ⟨m + 1, by omega, by rw [HNx.out]; simp [e2], by go_num, HE2.out.drewN' _⟩
                case measure => simp [intOf]; omega
            · have e1' : decide (Q1 = X1) = false := decide_eq_false e1
              go_quiet (first | (refine wp_ridx rfl _ _ rfl b off n c k rfl (by first | rfl | simp [Act.eval]) hlt ?_) | (refine wp_ridx rfl _ _ rfl b2 o2 M oc m rfl (by first | rfl | simp [Act.eval]) hml ?_))
              go_wp2
              go_roundw
              case rel => exact ⟨m + 1, by omega, by rw [HNx.out]; simp [e1], by go_num, HE2.out.drewN' _⟩
              case measure => simp [intOf]; omega
        · obtain rfl : m = M := by omega
          have x2 : ¬ (m : Int) < (m : Int) := by omega
          have HAll := Lib.hid (fstB_all x cs)
          rw [HM.out, HFS.out] at HAll
          have HNext := Lib.hid (show cntN l (k + 1) = if FS = true then cs ++ [x] else cs by
            show (if _ then _ else _) = _
            rw [Hx.out, HCs.out, HAll.out]
            simp only [decide_eq_true_eq])
          have HEy := Lib.hid (HE.out.trans (HE1.out.trans HE2.out))
          clear hml
          cases FS with
          | false =>
            go_wp2_with fail
            go_roundw
            case rel =>
              refine ⟨k + 1, by omega, by go_num, HEy.out, ?_⟩
              rw [HNext.out, if_neg Bool.false_ne_true, HM.out]
              exact own_extM HOwn.out (HE1.out.trans HE2.out)
            case measure => simp [intOf]; omega
          | true =>
            have HRg2 := Lib.hid (show y2.rangeAt b (off + k * 130) (rwL x) from fun j u hu => by
              have h1 := HRg.out j u hu
              rw [(HE1.out.trans HE2.out).cell (World.block_lt_of_cell? _ _ h1)]
              exact h1)
            obtain ⟨y3, hy3⟩ : ∃ z, y2.alloc (.cells X 36) = z := ⟨_, rfl⟩
            obtain ⟨g, hg⟩ : ∃ z, y2.heap.size = z := ⟨_, rfl⟩
            have HE3 := Lib.hid (show Ext y2 y3 by rw [← hy3]; exact (Ext.refl y2).alloc _)
            have HB3 := Lib.hid (show ∀ j, j < 130 → y3.cell? ⟨g, j, none⟩ = some (rwC x j) from fun j hj => by
              have hb : y3.heap[g]? = some (.cells (rwV x) 36 (0, 0)) := by rw [HX.out, ← hy3]; exact heap_new y2 _ _ hg.symm
              exact row_cell hb j hj)
            have HOw3 := Lib.hid (own_extM HOwn.out (HE1.out.trans (HE2.out.trans HE3.out)))
            have HSz := Lib.hid (show S ≤ y3.heap.size by have h1 := Below.size (HEy.out.trans HE3.out); rw [HS.out] at h1; exact h1)
            have Hy3 := Lib.hid hy3
            have Hg := Lib.hid hg
            clear hy3 hg
            go_wp2_with (first | (refine wp_ridx rfl _ _ rfl b off n c k rfl (by first | rfl | simp [Act.eval]) hlt ?_) | (refine wpList_load_mid rfl 36 (.tmp 59) rfl b _ rfl (rwL x) _ HRg2.out Try.underlying36 rfl (by rw [rwL_length]; kernel_rfl) ?_; rw [HXa.out]; simp only [Act.put, List.setIfInBounds_toArray, List.set_cons_zero, List.set_cons_succ]; refine wp_build_rw1 rfl (.tmp 60) rfl x X HX.out rfl ?_; rw [Hg.out, Hy3.out]; simp only [Act.put, List.setIfInBounds_toArray, List.set_cons_zero, List.set_cons_succ]; refine append_rw rfl (.tmp 56) (.tmp 61) rfl S _ m cs rfl HOw3.out g 1 x rfl HB3.out (by omega) HSz.out ?_; intro v4 y4 ho4 hg4 hv4; have HO4 := Lib.hid ho4; have HG4 := Lib.hid hg4; have HV4 := Lib.hid hv4; clear ho4 hg4 hv4; simp only [Act.put, List.setIfInBounds_toArray, List.set_cons_zero, List.set_cons_succ]))
            refine ⟨⟨k + 1, by omega, by go_num, ?_, ?_⟩, by simp [intOf]; omega⟩
            · have h1 : Below S y3 y4 := (Below.refl S y3).grown HG4.out HSz.out (fun q hq => (HOw3.out.lt q hq).1)
              rw [← HS.out] at h1
              exact Below.trans (HEy.out.trans HE3.out) h1
            · rw [HNext.out, if_pos rfl, List.length_append, List.length_singleton, HM.out]
              exact HO4.out
    · obtain rfl : k = n := by omega
      have x1 : ¬ (k : Int) < (k : Int) := by omega
      go_wp2_with fail
      go_ret
      exact ⟨_, rfl, HE.out, by rw [HCs.out, HM.out]; exact HOwn.out⟩

/-- Whether a row becomes the newest of a kind. -/
def upR (p : Rw → Bool) (L : List Rw) (r : Rw) : Bool := p r && (decide (L.filter p = []) || latB r (topR p L))
theorem topR_up (p : Rw → Bool) (L : List Rw) (r : Rw) : topR p (L ++ [r]) = if upR p L r = true then r else topR p L := by
  rw [topR_snoc]
  unfold upR
  cases p r with
  | false => rfl
  | true =>
    by_cases h : L.filter p = []
    · simp [h]
    · simp [h]
/-- Where the newest of a kind stands, if there is one. -/
def Ix (p : Rw → Bool) (cs : List Rw) (k : Nat) (z : Value) : Prop :=
  (z = .int .i64 (-1) ∧ (cs.take k).filter p = []) ∨ ∃ j : Nat, z = .int .i64 (j : Int) ∧ j < k ∧ (cs.take k).filter p ≠ [] ∧ cs.getD j rwN = topR p (cs.take k)
theorem Ix.step {p : Rw → Bool} {cs : List Rw} {k : Nat} {z z' : Value} {x : Rw} (h : Ix p cs k z) (hk : k < cs.length) (hx : cs.getD k rwN = x) (hz : z' = if upR p (cs.take k) x = true then .int .i64 (k : Int) else z) : Ix p cs (k + 1) z' := by
  have e0 : cs.take (k + 1) = cs.take k ++ [x] := by
    rw [List.take_add_one, List.getElem?_eq_getElem hk, ← hx, List.getD_eq_getElem?_getD, List.getElem?_eq_getElem hk]
    rfl
  have hp : upR p (cs.take k) x = true → p x = true := fun h => by
    unfold upR at h
    rw [Bool.and_eq_true] at h
    exact h.1
  unfold Ix
  rw [e0, topR_up, List.filter_append]
  by_cases hu : upR p (cs.take k) x = true
  · rw [if_pos hu] at hz
    refine .inr ⟨k, hz, by omega, ?_, ?_⟩
    · simp [hp hu]
    · rw [if_pos hu, hx]
  · rw [if_neg hu] at hz
    subst hz
    rcases h with ⟨h1, h2⟩ | ⟨j, h1, h2, h3, h4⟩
    · refine .inl ⟨h1, ?_⟩
      rw [h2]
      have : p x = false := by
        rw [Bool.eq_false_iff]
        intro h
        exact hu (by unfold upR; rw [h, h2]; simp)
      simp [this]
    · refine .inr ⟨j, h1, by omega, ?_, ?_⟩
      · intro h
        exact h3 (List.append_eq_nil_iff.1 h).1
      · rw [if_neg hu]
        exact h4
theorem Ix.skip {p : Rw → Bool} {cs : List Rw} {k : Nat} {z : Value} {x : Rw} (h : Ix p cs k z) (hk : k < cs.length) (hx : cs.getD k rwN = x) (hp : p x = false) : Ix p cs (k + 1) z :=
  h.step hk hx (by rw [if_neg]; unfold upR; rw [hp]; exact Bool.false_ne_true)
theorem Ix.start (p : Rw → Bool) (cs : List Rw) : Ix p cs 0 (.int .i64 (-1)) := .inl ⟨rfl, by simp⟩
theorem arrB_swap (n : Nat) (f g : Nat → Int) : arrB n f g = arrB n g f := by
  unfold arrB
  exact decide_eq_decide.2 ⟨fun h j hj => (h j hj).symm, fun h j hj => (h j hj).symm⟩
def pN (x : Nat → Int) (r : Rw) : Bool := arrB 16 x r.hd.1.item
def pL (x : Nat → Int) (r : Rw) : Bool := pN x r && r.kn
def pV (x : Nat → Int) (r : Rw) : Bool := pN x r && valB r
theorem top_tok (x : Nat → Int) (cs : List Rw) (p : Rw → Bool) : topR p (ofTok x cs) = topR (fun r => pN x r && p r) cs ∧ (ofTok x cs).filter p = cs.filter fun r => pN x r && p r := by
  have e : (ofTok x cs).filter p = cs.filter fun r => pN x r && p r := by
    unfold ofTok pN
    rw [List.filter_filter]
    refine List.filter_congr fun r _ => ?_
    rw [Bool.and_comm]
  exact ⟨by unfold topR; rw [e], e⟩

section
variable {P : Program} {w : World} {o : Oper} {ev : Operand → Value} {x y : Operand}
theorem rq_row {T : TypeId} {g : Nat} {t : TypeId} {cs : Array Value} {fr : Nat × Nat} {d : TypeDesc} (ho : o.op = .load T x) (hx : ev x = .pointer (some ⟨g, 0, none⟩)) (hg : w.heap[g]? = some (.cells cs t fr))
    (hu : P.underlying T = some d) (hd : (match d with | .struct _ | .array _ _ => true | _ => false) = true) (hi : (P.info? T).map (·.size) = some cs.size) : (execOp ev o).run P w = .ok (.value (.agg cs)) w := by
  simp only [execOp, ho, hx, Instr.loadAt, Instr.sureAddr, Sem.run_bind, Sem.run_pure, Result.andThen_ok, run_loadVar_row w g t T cs fr d hg hu hd hi]
theorem rq_mid {T : TypeId} {b off : Nat} {d : TypeDesc} (ho : o.op = .load T x) (hx : ev x = .pointer (some ⟨b, off, none⟩)) (cs : List Value) (hr : w.rangeAt b off cs) (hu : P.underlying T = some d) (hd : d.isRow = true) (hi : (P.info? T).map (·.size) = some cs.length) (A : Array Value) (hA : cs.toArray = A) : (execOp ev o).run P w = .ok (.value (.agg A)) w := by
  subst hA
  simp only [execOp, ho, hx, Instr.loadAt, Instr.sureAddr, Sem.run_bind, Sem.run_pure, Result.andThen_ok, run_loadVar_mid w b off T cs d hr hu hd hi]
theorem rq_ridx {b off n c k : Nat} (ho : o.op = .indexAddr 22 x y) (hx : ev x = .slice (some ⟨b, off, none⟩) n c) (hy : ev y = .int .i64 (k : Int)) (hk : k < n) : (execOp ev o).run Try.prog w = .ok (.value (.pointer (some ⟨b, off + k * 130, none⟩))) w := by
  have hr : (Instr.indexAt 22 (.slice (some ⟨b, off, none⟩) n c) (.int .i64 (k : Int))).run Try.prog w = .ok (.pointer (some ⟨b, off + k * 130, none⟩)) w := by
    have hb : (0 : Int) ≤ (k : Int) ∧ (k : Int) < (n : Int) := by omega
    simp only [Instr.indexAt, asIntOf, Sem.run_bind, Sem.run_pure, Result.andThen_ok, run_underlying Try.underlying22, hb, and_self, if_true, size_rw, Int.toNat_natCast, add_none]
  simp only [execOp, ho, hx, hy, Sem.run_bind, hr, Result.andThen_ok, Sem.run_pure]
end
set_option maxRecDepth 100000 in
theorem build_it3 (w : World) (x : Nat → Int) (h : HT) (k : Bool) : (Instr.build 41 #[(0, .agg (rowArr 16 fun j => .int .u8 (x j))), (1, .agg (hdV h.1)), (2, .bool k)]).run Try.prog w = .ok (.agg (itV ⟨x, h, k, false, ⟨#[]⟩, none, 0, [], ⟨#[]⟩⟩)) w := by kernel_rfl
theorem rq_build3 {w : World} {o : Oper} {ev : Operand → Value} {p q r : Operand} (ho : o.op = .build 41 #[(0, p), (1, q), (2, r)]) (x : Nat → Int) (h : HT) (k : Bool) (X H I : Array Value) (hX : (rowArr 16 fun j => Value.int .u8 (x j)) = X) (hH : hdV h.1 = H) (hI : itV ⟨x, h, k, false, ⟨#[]⟩, none, 0, [], ⟨#[]⟩⟩ = I)
    (hp : ev p = .agg X) (hq : ev q = .agg H) (hr : ev r = .bool k) : (execOp ev o).run Try.prog w = .ok (.value (.agg I)) w := by
  subst hX hH hI
  simp only [execOp, ho, List.map_toArray, List.map_cons, List.map_nil, hp, hq, hr, Sem.run_bind, build_it3, Result.andThen_ok, Sem.run_pure]
/-- Where the item stands while its cells are written. -/
structure OfC (v : World) (T0 : Nat) (t : It) (w : World) : Prop where
  grown : v.grownBy w (some T0)
  row : w.rowIs T0 41 146 (itC t)
theorem itC_far (t u : It) (i : Nat) (h : i ≠ 142 ∧ i ≠ 143 ∧ i ≠ 144 ∧ i ≠ 145) (hi : i < 146) (h1 : t.tok = u.tok) (h2 : t.hd = u.hd) (h3 : t.kn = u.kn) : itC t i = itC u i := by
  unfold itC
  rw [h1, h2, h3]
  by_cases k1 : i < 16
  · rw [if_pos k1, if_pos k1]
  · rw [if_neg k1, if_neg k1]
    by_cases k2 : i < 141
    · rw [if_pos k2, if_pos k2]
    · rw [if_neg k2, if_neg k2]
      by_cases k3 : i < 142
      · rw [if_pos k3, if_pos k3]
      · omega
theorem OfC.put {v w : World} {T0 : Nat} {t : It} (h : OfC v T0 t w) (u : It) (j : Nat) (x : Value) (h1 : t.tok = u.tok) (h2 : t.hd = u.hd) (h3 : t.kn = u.kn) (hj : itC u j = x) (hr : ∀ i, i ≠ j → (i = 142 ∨ i = 143 ∨ i = 144 ∨ i = 145) → itC t i = itC u i) (hj2 : j = 142 ∨ j = 143 ∨ j = 144 ∨ j = 145) : OfC v T0 u (w.setCell ⟨T0, j, none⟩ x) := by
  refine ⟨grown_setCell h.grown rfl _, (h.row.set j x).congr fun i hi => ?_⟩
  by_cases e : i = j
  · subst e
    rw [if_pos rfl, hj]
  · rw [if_neg e]
    by_cases k : i = 142 ∨ i = 143 ∨ i = 144 ∨ i = 145
    · exact hr i e k
    · exact itC_far t u i (by omega) hi h1 h2 h3
theorem made_of {x : Nat → Int} {cs : List Rw} {q0 : Rw} {t : It} (hq0 : q0 = topR (fun _ => true) (ofTok x cs)) (htok : t.tok = x) (hhd : t.hd = q0.hd) (hkn : t.kn = q0.kn) (hname : t.name = (topR (pL x) cs).name)
    (hal : t.al = (decide (0 < (cs.filter (pV x)).length) && (topR (pV x) cs).op == 1)) (htags : t.tags = if t.al = true then (topR (pL x) cs).tags else []) (hval : t.val = if t.al = true then (topR (pV x) cs).val else ⟨#[]⟩) : IsMade x (ofTok x cs) t := by
  have hl : t.al = livB (ofTok x cs) := by
    unfold livB
    rw [(top_tok x cs valB).1, (top_tok x cs valB).2]
    exact hal
  refine ⟨htok, ⟨q0.hd.1.ta, q0.hd.1.tc, by rw [hhd, ← hq0]⟩, by rw [hkn, hq0], ?_, hl, ?_, ?_⟩
  · rw [hname, (top_tok x cs fun r => r.kn).1]
    rfl
  · rw [htags, hl, (top_tok x cs fun r => r.kn).1]
    rfl
  · rw [hval, hl, (top_tok x cs valB).1]
    rfl
theorem topR_none {p : Rw → Bool} {cs : List Rw} (h : cs.filter p = []) : topR p cs = rwN := by
  unfold topR
  rw [h]
  rfl
theorem refof_box (w : World) (X : Array Value) : ∃ w2, (w.alloc (.cells X 27)).alloc (.cells (itV itN) 41) = w2 ∧ Ext w w2 ∧ w2.heap[w.heap.size]? = some (.cells X 27 (0, 0)) ∧ w2.heap[w.heap.size + 1]? = some (.cells (itV itN) 41 (0, 0)) := made_box w X
set_option maxHeartbeats 8000000 in
set_option maxRecDepth 100000 in
theorem refOf_any (x : Nat → Int) (a : Option Addr) (n c : Nat) (cs : List Rw) (w : World) (h : RwsAt w a n c cs) (hs : n ≤ 100000) :
    Calls Try.prog 17 #[.slice a n c, .agg (rowArr 16 fun j => .int .u8 (x j))] w fun e w' => ∃ t : It, e = .returned (.tuple #[.agg (itV t), .bool (decide (ofTok x cs ≠ []))]) ∧ Ext w w' ∧ ItAt w' t ∧ Was x (ofTok x cs) t := by
  have hcap := h.cap
  have hlim := h.lim
  have H := Lib.hid h
  obtain ⟨X, hX⟩ : ∃ z, (rowArr 16 fun j => Value.int .u8 (x j)) = z := ⟨_, rfl⟩
  have HX := Lib.hid hX
  have HXs := Lib.hid (show X.size = 16 ∧ X.all (·.oneCell') = true by rw [← hX]; exact ⟨rowArr_size _ _, rowArr_one fun _ _ => rfl⟩)
  obtain ⟨w2, hw2, hE2, hb2, hZ2⟩ := made_box w X
  obtain ⟨S, hS⟩ : ∃ S, w.heap.size = S := ⟨_, rfl⟩
  have HS := Lib.hid hS
  rw [hS] at hb2 hZ2
  have hzi := it_zero
  have HZi := Lib.hid it_zero
  obtain ⟨ZI, hZI⟩ : ∃ z, itV itN = z := ⟨_, rfl⟩
  have HZI := Lib.hid hZI
  rw [hZI] at hw2 hZ2 hzi
  have HZs := Lib.hid (show ZI.size = 146 ∧ ZI.all (·.oneCell') = true by rw [← hZI]; exact ⟨itV_size _, itV_one _⟩)
  have Hw2 := Lib.hid hw2
  have HE2 := Lib.hid hE2
  have HB2 := Lib.hid hb2
  have HZ2 := Lib.hid hZ2
  have HLen := Lib.hid h.len
  rw [hX]
  clear h hX hw2 hE2 hb2 hZ2 hS hZI
  go_enter Try.func17, Try.ntmps17
  go_upto_region 1 with (fail)
  rw [HS.out]
  refine wp_world (w' := w2) Hw2.out ?_
  clear Hw2 hzi
  go_wp2_with fail
  go_loopw [6, 7, 8, 9] (fun z0 z1 z2 i y => ∃ k : Nat, k ≤ n ∧ i = .int .i64 (k : Int) ∧ Ext w2 y ∧ Ix (pN x) cs k z0 ∧ Ix (pL x) cs k z1 ∧ Ix (pV x) cs k z2) (fun _ _ _ i _ => n - (intOf i).toNat)
  case atStart => exact ⟨0, by omega, rfl, Ext.refl w2, Ix.start _ _, Ix.start _ _, Ix.start _ _⟩
  case round =>
    obtain ⟨k, hk, rfl, hE, hi0, hi1, hi2⟩ := hrel
    rename World => y
    have HE := Lib.hid hE
    have HI0 := Lib.hid hi0
    have HI1 := Lib.hid hi1
    have HI2 := Lib.hid hi2
    clear hE hi0 hi1 hi2
    by_cases hlt : k < n
    · have x1 : (k : Int) < (n : Int) := by omega
      obtain ⟨b, off, rfl, hcell⟩ := (H.out.ext (HE2.out.trans HE.out)).at_ (by omega)
      have HCell := Lib.hid hcell
      have HKl := Lib.hid (show k < cs.length by rw [HLen.out]; exact hlt)
      obtain ⟨r, hr⟩ : ∃ x, cs.getD k rwN = x := ⟨_, rfl⟩
      have hck := hcell k hlt
      rw [hr] at hck
      have Hr := Lib.hid hr
      obtain ⟨R, hR⟩ : ∃ X, rwV r = X := ⟨_, rfl⟩
      have HR := Lib.hid hR
      have HRa := Lib.hid (show (rwL r).toArray = R by rw [rwL_arr, hR])
      have HRs := Lib.hid (show R.size = 130 ∧ R.all (·.oneCell') = true by rw [← hR]; exact ⟨rwV_size r, rwV_one r⟩)
      have HRg := Lib.hid (show y.rangeAt b (off + k * 130) (rwL r) from rwL_range hck)
      have hzr := rw_zero
      obtain ⟨ZR, hZR⟩ : ∃ Z, rwV rwN = Z := ⟨_, rfl⟩
      have HZRs := Lib.hid (show ZR.size = 130 by rw [← hZR]; exact rwV_size _)
      rw [hZR] at hzr
      clear hZR hr hR hcell hck
      go_upto_region 6 with (first | (refine wp_ridx rfl _ _ rfl b off n c k rfl (by first | rfl | simp [Act.eval]) hlt ?_) | (refine wpList_load_mid rfl 36 (.tmp 20) rfl b _ rfl (rwL r) _ HRg.out Try.underlying36 rfl (by rw [rwL_length]; kernel_rfl) ?_; rw [HRa.out]) | (refine wpList_store_row rfl 36 _ _ rfl y.heap.size _ rfl rfl _ _ (heap_new y _ _ rfl) (by rw [HRs.out.1]; kernel_rfl) (by rw [HRs.out.1, HZRs.out]) HRs.out.2 ?_; rw [setRow_new y _ _ _ _ rfl]))
      obtain ⟨y1, hy1⟩ : ∃ z, y.alloc (.cells R 36) = z := ⟨_, rfl⟩
      obtain ⟨t, ht⟩ : ∃ z, y.heap.size = z := ⟨_, rfl⟩
      have HE1 := Lib.hid (show Ext y y1 by rw [← hy1]; exact (Ext.refl y).alloc _)
      have HB1 := Lib.hid (show y1.heap[t]? = some (.cells (rwV r) 36 (0, 0)) by rw [HR.out, ← hy1]; exact heap_new y _ _ ht.symm)
      rw [ht]
      refine wp_world (w' := y1) hy1 ?_
      clear hy1 ht hzr
      obtain ⟨LI, hLI⟩ : ∃ z, (List.range 16).map (fun j => Value.int .u8 (r.hd.1.item j)) = z := ⟨_, rfl⟩
      obtain ⟨TK, hTK⟩ : ∃ z, (rowArr 16 fun j => Value.int .u8 (r.hd.1.item j)) = z := ⟨_, rfl⟩
      have HLa := Lib.hid (show LI.toArray = TK by rw [← hLI, ← hTK]; rfl)
      have HLl := Lib.hid (show LI.length = 16 by rw [← hLI]; simp)
      have HRi := Lib.hid (show y1.rangeAt t 37 LI from fun j v hv => by
        rw [← hLI] at hv
        have hj : j < 16 := by
          have := (List.getElem?_eq_some_iff.1 hv).1
          simpa using this
        rw [List.getElem?_map, List.getElem?_range hj] at hv
        obtain rfl := Option.some.inj hv
        rw [rw_hd HB1.out (37 + j) (by omega)]
        exact hdC_item r.hd.1 j hj)
      obtain ⟨SB, hSB⟩ : ∃ z, pN x r = z := ⟨_, rfl⟩
      have hneq : ∀ w, (binOp .neq 27 (.agg TK) (.agg X)).run Try.prog w = .ok (.bool (!SB)) w := fun w => by
        have h1 := neq_t w r.hd.1.item x
        rw [hTK, HX.out, arrB_swap] at h1
        rw [← hSB]
        exact h1
      have HSB := Lib.hid hSB
      have HXy := Lib.hid ((HE.out.trans HE1.out).keep HB2.out)
      have HL := Lib.hid (show ∀ (j : Nat) (z : World), j < n → Ext y1 z → z.rangeAt b (off + j * 130) (hdL (cs.getD j rwN).hd.1) from fun j z hj hz => range_hd fun i hi => by
        have h1 := HCell.out j hj i (by omega)
        have e : rwC (cs.getD j rwN) i = hdC (cs.getD j rwN).hd.1 i := by
          unfold rwC
          rw [if_pos hi]
        rw [e] at h1
        rw [(HE1.out.trans hz).cell (World.block_lt_of_cell? _ _ h1)]
        exact h1)
      have HLr := Lib.hid (show ∀ z, Ext y1 z → z.rangeAt t 0 (hdL r.hd.1) ∧ z.cell? ⟨t, 125, none⟩ = some (.bool r.kn) ∧ z.cell? ⟨t, 126, none⟩ = some (.int .i64 r.op) from fun z hz => by
        have hb := hz.keep HB1.out
        exact ⟨rw_rh hb, rw_kn hb, rw_op hb⟩)
      clear hLI hTK hSB
      cases SB with
      | false =>
        go_wp2_with (first | (refine wpList_load_mid rfl 27 (.tmp 23) rfl t _ rfl LI _ HRi.out Try.underlying27 rfl (by rw [HLl.out]; kernel_rfl) ?_; rw [HLa.out]; simp only [Act.put, List.setIfInBounds_toArray, List.set_cons_zero, List.set_cons_succ]) | (refine wpList_load_rowW rfl 27 (.tmp 3) rfl S rfl _ _ _ _ HXy.out Try.underlying27 rfl (by rw [HXs.out.1]; kernel_rfl) ?_; simp only [Act.put, List.setIfInBounds_toArray, List.set_cons_zero, List.set_cons_succ]))
        go_roundw
        case rel => exact ⟨k + 1, by omega, by go_num, HE.out.trans HE1.out, HI0.out.skip HKl.out Hr.out HSB.out, HI1.out.skip HKl.out Hr.out (by unfold pL; rw [HSB.out]; rfl), HI2.out.skip HKl.out Hr.out (by unfold pV; rw [HSB.out]; rfl)⟩
        case measure => simp [intOf]; omega
      | true =>
        go_upto_region 7 with (first | (refine wpList_load_mid rfl 27 (.tmp 23) rfl t _ rfl LI _ HRi.out Try.underlying27 rfl (by rw [HLl.out]; kernel_rfl) ?_; rw [HLa.out]; simp only [Act.put, List.setIfInBounds_toArray, List.set_cons_zero, List.set_cons_succ]) | (refine wpList_load_rowW rfl 27 (.tmp 3) rfl S rfl _ _ _ _ HXy.out Try.underlying27 rfl (by rw [HXs.out.1]; kernel_rfl) ?_; simp only [Act.put, List.setIfInBounds_toArray, List.set_cons_zero, List.set_cons_succ]))
        clear hneq
        have HLt := Lib.hid (show ∀ (q : Rw) (z : World), Calls Try.prog 37 #[.agg (hdV r.hd.1), .agg (hdV q.hd.1)] z fun e w' => e = .returned (.bool (latB r q)) ∧ Ext z w' from fun q z => refLater_any _ _ _ _ _ _ _ _ z (hdAtR r) (hdAtR q))
        obtain ⟨HVr, hHVr⟩ : ∃ z, hdV r.hd.1 = z := ⟨_, rfl⟩
        obtain ⟨LR, hLR⟩ : ∃ z, hdL r.hd.1 = z := ⟨_, rfl⟩
        have HLR := Lib.hid (show LR.toArray = HVr ∧ LR.length = 125 by rw [← hLR, ← hHVr]; exact ⟨rfl, hdL_length _⟩)
        rw [hHVr] at HLt
        rw [hLR] at HLr
        clear hHVr hLR
        have HC := Lib.hid (Ext.refl y1)
        obtain ⟨PR, hPR⟩ : ∃ z : World → World → Prop, Ext = z := ⟨_, rfl⟩
        clear hPR
        go_cut [38] from 12 to 79 (fun v yc => ∃ U : Bool, v = .bool U ∧ U = upR (pN x) (cs.take k) r ∧ Ext y1 yc)
        case first =>
          rcases HI0.out with ⟨rfl, hf⟩ | ⟨j, rfl, hj, hf, hq⟩
          · have HU := Lib.hid (show true = upR (pN x) (cs.take k) r by unfold upR; rw [HSB.out, hf]; rfl)
            clear hf
            have HY := Lib.hid (show ∀ z, Ext y1.drew z → Ext y1 z from fun z hz => HC.out.trans (Ext.trans (Ext.refl y1).drew hz))
            refine wp_region_lexA (by kernel_rfl) (by kernel_rfl) ?_
            refine lx_e (.int .i64 (-1)) [] (by kernel_rfl) rfl (by rfl) (fun w1 hw1 => ?_) ?_
            · simp only [pk, lexVals]
              go_simp
              exact ⟨Ext.refl _, rfl⟩
            refine lx_e (.bool true) [(0, 27)] (by kernel_rfl) rfl (by rfl) (fun w1 hw1 => ?_) ?_
            · simp only [pk, nthSp, lexVals]
              go_simp
              exact ⟨Ext.refl _, rfl⟩
            refine lx_e (.bool true) [(0, 28)] (by kernel_rfl) rfl (by rfl) (fun w1 hw1 => ?_) ?_
            · simp only [pk, nthSp, lexVals]
              go_simp
              exact ⟨Ext.refl _, rfl⟩
            refine lx_no [(0, 29)] 29 (by kernel_rfl) rfl (by kernel_rfl) (by rfl) (fun w1 => ?_) ?_
            · simp only [pk, nthSp, lexVals]
              first | (go_simp; done) | (go_simp; exact fun h => by cases h)
            refine lx_no [(0, 30), (1, 29)] 29 (by kernel_rfl) rfl (by kernel_rfl) (by rfl) (fun w1 => ?_) ?_
            · simp only [pk, nthSp, lexVals]
              first | (go_simp; done) | (go_simp; exact fun h => by cases h)
            refine lx_no [(2, 29)] 29 (by kernel_rfl) rfl (by kernel_rfl) (by rfl) (fun w1 => ?_) ?_
            · simp only [pk, nthSp, lexVals]
              first | (go_simp; done) | (go_simp; exact fun h => by cases h)
            refine lx_no [(3, 29)] 29 (by kernel_rfl) rfl (by kernel_rfl) (by rfl) (fun w1 => ?_) ?_
            · simp only [pk, nthSp, lexVals]
              first | (go_simp; done) | (go_simp; exact fun h => by cases h)
            refine lx_no [(1, 32), (0, 33), (4, 29)] 29 (by kernel_rfl) rfl (by kernel_rfl) (by rfl) (fun w1 => ?_) ?_
            · simp only [pk, nthSp, lexVals]
              first | (go_simp; done) | (go_simp; exact fun h => by cases h)
            refine lx_no [(0, 34), (5, 29)] 29 (by kernel_rfl) rfl (by kernel_rfl) (by rfl) (fun w1 => ?_) ?_
            · simp only [pk, nthSp, lexVals]
              first | (go_simp; done) | (go_simp; exact fun h => by cases h)
            refine lx_no [(0, 35), (6, 29)] 29 (by kernel_rfl) rfl (by kernel_rfl) (by rfl) (fun w1 => ?_) ?_
            · simp only [pk, nthSp, lexVals]
              first | (go_simp; done) | (go_simp; exact fun h => by cases h)
            refine lx_no [(5, 31), (0, 36), (7, 29)] 29 (by kernel_rfl) rfl (by kernel_rfl) (by rfl) (fun w1 => ?_) ?_
            · simp only [pk, nthSp, lexVals]
              first | (go_simp; done) | (go_simp; exact fun h => by cases h)
            refine lx_e (.bool true) [(8, 29), (0, 37)] (by kernel_rfl) rfl (by rfl) (fun w1 hw1 => ?_) ?_
            · simp only [pk, nthSp, lexVals]
              go_simp
              exact ⟨Ext.refl _, rfl⟩
            refine lx_stopA (by rfl) fun w3 hw3 => ?_
            simp only [rv, pf, lexVals]
            simp only [Act.put, List.setIfInBounds_toArray, List.set_cons_zero, List.set_cons_succ]
            go_wp2
            go_meet
            case rel => exact ⟨_, rfl, HU.out, HY.out w3 hw3⟩
          · have hj : j < n := by omega
            have x0 : ¬ (j : Int) < 0 := by omega
            have hq0 := hq
            obtain ⟨q, hq⟩ : ∃ z, cs.getD j rwN = z := ⟨_, rfl⟩
            rw [hq] at hq0
            have hlq : ∀ z, Ext y1 z → z.rangeAt b (off + j * 130) (hdL q.hd.1) := fun z hz => by rw [← hq]; exact HL.out j z hj hz
            obtain ⟨HVq, hHVq⟩ : ∃ z, hdV q.hd.1 = z := ⟨_, rfl⟩
            obtain ⟨LQ, hLQ⟩ : ∃ z, hdL q.hd.1 = z := ⟨_, rfl⟩
            have HLQ := Lib.hid (show LQ.toArray = HVq ∧ LQ.length = 125 by rw [← hLQ, ← hHVq]; exact ⟨rfl, hdL_length _⟩)
            rw [hLQ] at hlq
            have HLq := Lib.hid hlq
            have HHq := Lib.hid hHVq
            obtain ⟨LB, hLB⟩ : ∃ z, latB r q = z := ⟨_, rfl⟩
            have HLB := Lib.hid hLB
            have HU := Lib.hid (show LB = upR (pN x) (cs.take k) r by unfold upR; rw [HSB.out, ← hq0, hLB, decide_eq_false hf]; rfl)
            clear hf hq0 hq hHVq hLQ hLB hlq
            have HY := Lib.hid (show ∀ z, Ext y1.drew z → Ext y1 z from fun z hz => HC.out.trans (Ext.trans (Ext.refl y1).drew hz))
            refine wp_region_lexA (by kernel_rfl) (by kernel_rfl) ?_
            refine lx_e (.int .i64 (j : Int)) [] (by kernel_rfl) rfl (by rfl) (fun w1 hw1 => ?_) ?_
            · simp only [pk, lexVals]
              go_simp
              exact ⟨Ext.refl _, rfl⟩
            refine lx_e (.bool false) [(0, 27)] (by kernel_rfl) rfl (by rfl) (fun w1 hw1 => ?_) ?_
            · simp only [pk, nthSp, lexVals]
              go_simp
              exact ⟨Ext.refl _, rfl⟩
            refine lx_e (.bool false) [(0, 28)] (by kernel_rfl) rfl (by rfl) (fun w1 hw1 => ?_) ?_
            · simp only [pk, nthSp, lexVals]
              go_simp
              exact ⟨Ext.refl _, rfl⟩
            refine lx_ge (.pointer (some ⟨t, 0, none⟩)) [(0, 29)] 29 (by kernel_rfl) rfl (by kernel_rfl) (by rfl) (fun w1 => ?_) (fun w1 hw1 => ?_) ?_
            · simp only [pk, nthSp, lexVals]
              rfl
            · simp only [pk, nthSp, lexVals]
              go_simp
              exact ⟨Ext.refl _, rfl⟩
            refine lx_ge (.agg HVr) [(0, 30), (1, 29)] 29 (by kernel_rfl) rfl (by kernel_rfl) (by rfl) (fun w1 => ?_) (fun w1 hw1 => ?_) ?_
            · simp only [pk, nthSp, lexVals]
              rfl
            · simp only [pk, nthSp, lexVals]
              exact lu_mid rfl rfl LR (HLr.out w1 (HY.out w1 hw1)).1 Try.underlying31 rfl (by rw [HLR.out.2]; kernel_rfl) HVr HLR.out.1
            refine lx_ge (.slice (some ⟨b, off, none⟩) n c) [(2, 29)] 29 (by kernel_rfl) rfl (by kernel_rfl) (by rfl) (fun w1 => ?_) (fun w1 hw1 => ?_) ?_
            · simp only [pk, nthSp, lexVals]
              rfl
            · simp only [pk, nthSp, lexVals]
              go_simp
              exact ⟨Ext.refl _, rfl⟩
            refine lx_ge (.int .i64 (j : Int)) [(3, 29)] 29 (by kernel_rfl) rfl (by kernel_rfl) (by rfl) (fun w1 => ?_) (fun w1 hw1 => ?_) ?_
            · simp only [pk, nthSp, lexVals]
              rfl
            · simp only [pk, nthSp, lexVals]
              go_simp
              exact ⟨Ext.refl _, rfl⟩
            refine lx_ge (.pointer (some ⟨b, off + j * 130, none⟩)) [(1, 32), (0, 33), (4, 29)] 29 (by kernel_rfl) rfl (by kernel_rfl) (by rfl) (fun w1 => ?_) (fun w1 hw1 => ?_) ?_
            · simp only [pk, nthSp, lexVals]
              rfl
            · simp only [pk, nthSp, lexVals]
              exact lu_ridx rfl rfl rfl hj
            refine lx_ge (.pointer (some ⟨b, off + j * 130, none⟩)) [(0, 34), (5, 29)] 29 (by kernel_rfl) rfl (by kernel_rfl) (by rfl) (fun w1 => ?_) (fun w1 hw1 => ?_) ?_
            · simp only [pk, nthSp, lexVals]
              rfl
            · simp only [pk, nthSp, lexVals]
              go_simp
              exact ⟨Ext.refl _, rfl⟩
            refine lx_ge (.agg HVq) [(0, 35), (6, 29)] 29 (by kernel_rfl) rfl (by kernel_rfl) (by rfl) (fun w1 => ?_) (fun w1 hw1 => ?_) ?_
            · simp only [pk, nthSp, lexVals]
              rfl
            · simp only [pk, nthSp, lexVals]
              exact lu_mid rfl rfl LQ (HLq.out w1 (HY.out w1 hw1)) Try.underlying31 rfl (by rw [HLQ.out.2]; kernel_rfl) HVq HLQ.out.1
            refine lx_ge (.bool LB) [(5, 31), (0, 36), (7, 29)] 29 (by kernel_rfl) rfl (by kernel_rfl) (by rfl) (fun w1 => ?_) (fun w1 hw1 => ?_) ?_
            · simp only [pk, nthSp, lexVals]
              rfl
            · simp only [pk, nthSp, lexVals]
              have HM := Lib.hid (HLt.out q w1)
              rw [HHq.out, HLB.out] at HM
              clear hw1
              go_simp
              refine HM.out.mono ?_
              rintro e w2 ⟨rfl, hE2⟩
              exact ⟨_, rfl, hE2, rfl⟩
            refine lx_e (.bool LB) [(8, 29), (0, 37)] (by kernel_rfl) rfl (by rfl) (fun w1 hw1 => ?_) ?_
            · simp only [pk, nthSp, lexVals]
              go_simp
              exact ⟨Ext.refl _, rfl⟩
            refine lx_stopA (by rfl) fun w3 hw3 => ?_
            simp only [rv, pf, lexVals]
            simp only [Act.put, List.setIfInBounds_toArray, List.set_cons_zero, List.set_cons_succ]
            go_wp2
            go_meet
            case rel => exact ⟨_, rfl, HU.out, HY.out w3 hw3⟩
        case rest =>
          obtain ⟨U2, rfl, hU2, hC2⟩ := hcut
          have HU2 := Lib.hid hU2
          have HC := Lib.hid hC2
          clear hU2 hC2
          rename World => y2
          go_upto_if 38 with (fail)
          go_cut [6] from 12 to 79 (fun v yd => v = (if U2 = true then Value.int .i64 (k : Int) else u6) ∧ yd = y2)
          case first =>
            cases U2 <;>
            · go_wp2_with fail
              go_meet
              case rel => exact ⟨rfl, rfl⟩
          case rest =>
            obtain ⟨hv, hyd⟩ := hcut
            subst hyd
            have HJ0 := Lib.hid (show Ix (pN x) cs (k + 1) u6 from HI0.out.step HKl.out Hr.out (by rw [← HU2.out]; exact hv))
            clear hv
            go_upto_region 9 with (fail)
            go_cut [55] from 12 to 79 (fun v yc => ∃ U : Bool, v = .bool U ∧ U = upR (pL x) (cs.take k) r ∧ Ext y1 yc)
            case first =>
              have hc9 := HLr.out _ HC.out
              obtain ⟨KN, hKN⟩ : ∃ z, r.kn = z := ⟨_, rfl⟩
              have HKN := Lib.hid (show ∀ z, Ext y1 z → z.cell? ⟨t, 125, none⟩ = some (.bool KN) from fun z hz => by rw [← hKN]; exact (HLr.out z hz).2.1)
              have HPL := Lib.hid (show pL x r = KN by unfold pL; rw [HSB.out, hKN]; rfl)
              clear hc9 hKN
              cases KN with
              | false =>
                have HU := Lib.hid (show false = upR (pL x) (cs.take k) r by unfold upR; rw [HPL.out]; rfl)
                have HY := Lib.hid (show ∀ z, Ext wc.drew z → Ext y1 z from fun z hz => HC.out.trans (Ext.trans (Ext.refl wc).drew hz))
                refine wp_region_lexA (by kernel_rfl) (by kernel_rfl) ?_
                refine lx_e (.pointer (some ⟨t, 125, none⟩)) [] (by kernel_rfl) rfl (by rfl) (fun w1 hw1 => ?_) ?_
                · simp only [pk, lexVals]
                  go_simp
                  exact ⟨Ext.refl _, rfl⟩
                refine lx_e (.bool false) [(0, 40)] (by kernel_rfl) rfl (by rfl) (fun w1 hw1 => ?_) ?_
                · simp only [pk, nthSp, lexVals]
                  have hc := HKN.out w1 (HY.out w1 hw1)
                  clear hw1
                  go_simp
                  exact ⟨Ext.refl _, by first | rfl | simp⟩
                refine lx_e (.bool false) [(0, 41)] (by kernel_rfl) rfl (by rfl) (fun w1 hw1 => ?_) ?_
                · simp only [pk, nthSp, lexVals]
                  go_simp
                  exact ⟨Ext.refl _, rfl⟩
                refine lx_no [(0, 42)] 42 (by kernel_rfl) rfl (by kernel_rfl) (by rfl) (fun w1 => ?_) ?_
                · simp only [pk, nthSp, lexVals]
                  first | (go_simp; done) | (go_simp; exact fun h => by cases h)
                refine lx_no [(0, 43), (1, 42)] 42 (by kernel_rfl) rfl (by kernel_rfl) (by rfl) (fun w1 => ?_) ?_
                · simp only [pk, nthSp, lexVals]
                  first | (go_simp; done) | (go_simp; exact fun h => by cases h)
                refine lx_no [(0, 44), (2, 42)] 42 (by kernel_rfl) rfl (by kernel_rfl) (by rfl) (fun w1 => ?_) ?_
                · simp only [pk, nthSp, lexVals]
                  first | (go_simp; done) | (go_simp; exact fun h => by cases h)
                refine lx_no [(0, 45)] 45 (by kernel_rfl) rfl (by kernel_rfl) (by rfl) (fun w1 => ?_) ?_
                · simp only [pk, nthSp, lexVals]
                  first | (go_simp; done) | (go_simp; exact fun h => by cases h)
                refine lx_no [(0, 46), (1, 45)] 45 (by kernel_rfl) rfl (by kernel_rfl) (by rfl) (fun w1 => ?_) ?_
                · simp only [pk, nthSp, lexVals]
                  first | (go_simp; done) | (go_simp; exact fun h => by cases h)
                refine lx_no [(2, 45)] 45 (by kernel_rfl) rfl (by kernel_rfl) (by rfl) (fun w1 => ?_) ?_
                · simp only [pk, nthSp, lexVals]
                  first | (go_simp; done) | (go_simp; exact fun h => by cases h)
                refine lx_no [(3, 45)] 45 (by kernel_rfl) rfl (by kernel_rfl) (by rfl) (fun w1 => ?_) ?_
                · simp only [pk, nthSp, lexVals]
                  first | (go_simp; done) | (go_simp; exact fun h => by cases h)
                refine lx_no [(1, 48), (0, 49), (4, 45)] 45 (by kernel_rfl) rfl (by kernel_rfl) (by rfl) (fun w1 => ?_) ?_
                · simp only [pk, nthSp, lexVals]
                  first | (go_simp; done) | (go_simp; exact fun h => by cases h)
                refine lx_no [(0, 50), (5, 45)] 45 (by kernel_rfl) rfl (by kernel_rfl) (by rfl) (fun w1 => ?_) ?_
                · simp only [pk, nthSp, lexVals]
                  first | (go_simp; done) | (go_simp; exact fun h => by cases h)
                refine lx_no [(0, 51), (6, 45)] 45 (by kernel_rfl) rfl (by kernel_rfl) (by rfl) (fun w1 => ?_) ?_
                · simp only [pk, nthSp, lexVals]
                  first | (go_simp; done) | (go_simp; exact fun h => by cases h)
                refine lx_no [(5, 47), (0, 52), (7, 45)] 45 (by kernel_rfl) rfl (by kernel_rfl) (by rfl) (fun w1 => ?_) ?_
                · simp only [pk, nthSp, lexVals]
                  first | (go_simp; done) | (go_simp; exact fun h => by cases h)
                refine lx_no [(8, 45), (0, 53), (11, 42)] 42 (by kernel_rfl) rfl (by kernel_rfl) (by rfl) (fun w1 => ?_) ?_
                · simp only [pk, nthSp, lexVals]
                  first | (go_simp; done) | (go_simp; exact fun h => by cases h)
                refine lx_e (.bool false) [(12, 42), (0, 54)] (by kernel_rfl) rfl (by rfl) (fun w1 hw1 => ?_) ?_
                · simp only [pk, nthSp, lexVals]
                  go_simp
                  exact ⟨Ext.refl _, rfl⟩
                refine lx_stopA (by rfl) fun w3 hw3 => ?_
                simp only [rv, pf, lexVals]
                simp only [Act.put, List.setIfInBounds_toArray, List.set_cons_zero, List.set_cons_succ]
                go_wp2
                go_meet
                case rel => exact ⟨_, rfl, HU.out, HY.out w3 hw3⟩
              | true =>
                rcases HI1.out with ⟨rfl, hf⟩ | ⟨j, rfl, hj, hf, hq⟩
                · have HU := Lib.hid (show true = upR (pL x) (cs.take k) r by unfold upR; rw [HPL.out, hf]; rfl)
                  clear hf
                  have HY := Lib.hid (show ∀ z, Ext wc.drew z → Ext y1 z from fun z hz => HC.out.trans (Ext.trans (Ext.refl wc).drew hz))
                  refine wp_region_lexA (by kernel_rfl) (by kernel_rfl) ?_
                  refine lx_e (.pointer (some ⟨t, 125, none⟩)) [] (by kernel_rfl) rfl (by rfl) (fun w1 hw1 => ?_) ?_
                  · simp only [pk, lexVals]
                    go_simp
                    exact ⟨Ext.refl _, rfl⟩
                  refine lx_e (.bool true) [(0, 40)] (by kernel_rfl) rfl (by rfl) (fun w1 hw1 => ?_) ?_
                  · simp only [pk, nthSp, lexVals]
                    have hc := HKN.out w1 (HY.out w1 hw1)
                    clear hw1
                    go_simp
                    exact ⟨Ext.refl _, by first | rfl | simp⟩
                  refine lx_e (.bool true) [(0, 41)] (by kernel_rfl) rfl (by rfl) (fun w1 hw1 => ?_) ?_
                  · simp only [pk, nthSp, lexVals]
                    go_simp
                    exact ⟨Ext.refl _, rfl⟩
                  refine lx_ge (.int .i64 (-1)) [(0, 42)] 42 (by kernel_rfl) rfl (by kernel_rfl) (by rfl) (fun w1 => ?_) (fun w1 hw1 => ?_) ?_
                  · simp only [pk, nthSp, lexVals]
                    rfl
                  · simp only [pk, nthSp, lexVals]
                    go_simp
                    exact ⟨Ext.refl _, rfl⟩
                  refine lx_ge (.bool true) [(0, 43), (1, 42)] 42 (by kernel_rfl) rfl (by kernel_rfl) (by rfl) (fun w1 => ?_) (fun w1 hw1 => ?_) ?_
                  · simp only [pk, nthSp, lexVals]
                    rfl
                  · simp only [pk, nthSp, lexVals]
                    go_simp
                    exact ⟨Ext.refl _, rfl⟩
                  refine lx_ge (.bool true) [(0, 44), (2, 42)] 42 (by kernel_rfl) rfl (by kernel_rfl) (by rfl) (fun w1 => ?_) (fun w1 hw1 => ?_) ?_
                  · simp only [pk, nthSp, lexVals]
                    rfl
                  · simp only [pk, nthSp, lexVals]
                    go_simp
                    exact ⟨Ext.refl _, rfl⟩
                  refine lx_no [(0, 45)] 45 (by kernel_rfl) rfl (by kernel_rfl) (by rfl) (fun w1 => ?_) ?_
                  · simp only [pk, nthSp, lexVals]
                    first | (go_simp; done) | (go_simp; exact fun h => by cases h)
                  refine lx_no [(0, 46), (1, 45)] 45 (by kernel_rfl) rfl (by kernel_rfl) (by rfl) (fun w1 => ?_) ?_
                  · simp only [pk, nthSp, lexVals]
                    first | (go_simp; done) | (go_simp; exact fun h => by cases h)
                  refine lx_no [(2, 45)] 45 (by kernel_rfl) rfl (by kernel_rfl) (by rfl) (fun w1 => ?_) ?_
                  · simp only [pk, nthSp, lexVals]
                    first | (go_simp; done) | (go_simp; exact fun h => by cases h)
                  refine lx_no [(3, 45)] 45 (by kernel_rfl) rfl (by kernel_rfl) (by rfl) (fun w1 => ?_) ?_
                  · simp only [pk, nthSp, lexVals]
                    first | (go_simp; done) | (go_simp; exact fun h => by cases h)
                  refine lx_no [(1, 48), (0, 49), (4, 45)] 45 (by kernel_rfl) rfl (by kernel_rfl) (by rfl) (fun w1 => ?_) ?_
                  · simp only [pk, nthSp, lexVals]
                    first | (go_simp; done) | (go_simp; exact fun h => by cases h)
                  refine lx_no [(0, 50), (5, 45)] 45 (by kernel_rfl) rfl (by kernel_rfl) (by rfl) (fun w1 => ?_) ?_
                  · simp only [pk, nthSp, lexVals]
                    first | (go_simp; done) | (go_simp; exact fun h => by cases h)
                  refine lx_no [(0, 51), (6, 45)] 45 (by kernel_rfl) rfl (by kernel_rfl) (by rfl) (fun w1 => ?_) ?_
                  · simp only [pk, nthSp, lexVals]
                    first | (go_simp; done) | (go_simp; exact fun h => by cases h)
                  refine lx_no [(5, 47), (0, 52), (7, 45)] 45 (by kernel_rfl) rfl (by kernel_rfl) (by rfl) (fun w1 => ?_) ?_
                  · simp only [pk, nthSp, lexVals]
                    first | (go_simp; done) | (go_simp; exact fun h => by cases h)
                  refine lx_ge (.bool true) [(8, 45), (0, 53), (11, 42)] 42 (by kernel_rfl) rfl (by kernel_rfl) (by rfl) (fun w1 => ?_) (fun w1 hw1 => ?_) ?_
                  · simp only [pk, nthSp, lexVals]
                    rfl
                  · simp only [pk, nthSp, lexVals]
                    go_simp
                    exact ⟨Ext.refl _, rfl⟩
                  refine lx_e (.bool true) [(12, 42), (0, 54)] (by kernel_rfl) rfl (by rfl) (fun w1 hw1 => ?_) ?_
                  · simp only [pk, nthSp, lexVals]
                    go_simp
                    exact ⟨Ext.refl _, rfl⟩
                  refine lx_stopA (by rfl) fun w3 hw3 => ?_
                  simp only [rv, pf, lexVals]
                  simp only [Act.put, List.setIfInBounds_toArray, List.set_cons_zero, List.set_cons_succ]
                  go_wp2
                  go_meet
                  case rel => exact ⟨_, rfl, HU.out, HY.out w3 hw3⟩
                · have hj : j < n := by omega
                  have x0 : ¬ (j : Int) < 0 := by omega
                  have hq0 := hq
                  obtain ⟨q, hq⟩ : ∃ z, cs.getD j rwN = z := ⟨_, rfl⟩
                  rw [hq] at hq0
                  have hlq : ∀ z, Ext y1 z → z.rangeAt b (off + j * 130) (hdL q.hd.1) := fun z hz => by rw [← hq]; exact HL.out j z hj hz
                  obtain ⟨HVq, hHVq⟩ : ∃ z, hdV q.hd.1 = z := ⟨_, rfl⟩
                  obtain ⟨LQ, hLQ⟩ : ∃ z, hdL q.hd.1 = z := ⟨_, rfl⟩
                  have HLQ := Lib.hid (show LQ.toArray = HVq ∧ LQ.length = 125 by rw [← hLQ, ← hHVq]; exact ⟨rfl, hdL_length _⟩)
                  rw [hLQ] at hlq
                  have HLq := Lib.hid hlq
                  have HHq := Lib.hid hHVq
                  obtain ⟨LB, hLB⟩ : ∃ z, latB r q = z := ⟨_, rfl⟩
                  have HLB := Lib.hid hLB
                  have HU := Lib.hid (show LB = upR (pL x) (cs.take k) r by unfold upR; rw [HPL.out, ← hq0, hLB, decide_eq_false hf]; rfl)
                  clear hf hq0 hq hHVq hLQ hLB hlq
                  have HY := Lib.hid (show ∀ z, Ext wc.drew z → Ext y1 z from fun z hz => HC.out.trans (Ext.trans (Ext.refl wc).drew hz))
                  refine wp_region_lexA (by kernel_rfl) (by kernel_rfl) ?_
                  refine lx_e (.pointer (some ⟨t, 125, none⟩)) [] (by kernel_rfl) rfl (by rfl) (fun w1 hw1 => ?_) ?_
                  · simp only [pk, lexVals]
                    go_simp
                    exact ⟨Ext.refl _, rfl⟩
                  refine lx_e (.bool true) [(0, 40)] (by kernel_rfl) rfl (by rfl) (fun w1 hw1 => ?_) ?_
                  · simp only [pk, nthSp, lexVals]
                    have hc := HKN.out w1 (HY.out w1 hw1)
                    clear hw1
                    go_simp
                    exact ⟨Ext.refl _, by first | rfl | simp⟩
                  refine lx_e (.bool true) [(0, 41)] (by kernel_rfl) rfl (by rfl) (fun w1 hw1 => ?_) ?_
                  · simp only [pk, nthSp, lexVals]
                    go_simp
                    exact ⟨Ext.refl _, rfl⟩
                  refine lx_ge (.int .i64 (j : Int)) [(0, 42)] 42 (by kernel_rfl) rfl (by kernel_rfl) (by rfl) (fun w1 => ?_) (fun w1 hw1 => ?_) ?_
                  · simp only [pk, nthSp, lexVals]
                    rfl
                  · simp only [pk, nthSp, lexVals]
                    go_simp
                    exact ⟨Ext.refl _, rfl⟩
                  refine lx_ge (.bool false) [(0, 43), (1, 42)] 42 (by kernel_rfl) rfl (by kernel_rfl) (by rfl) (fun w1 => ?_) (fun w1 hw1 => ?_) ?_
                  · simp only [pk, nthSp, lexVals]
                    rfl
                  · simp only [pk, nthSp, lexVals]
                    go_simp
                    exact ⟨Ext.refl _, rfl⟩
                  refine lx_ge (.bool false) [(0, 44), (2, 42)] 42 (by kernel_rfl) rfl (by kernel_rfl) (by rfl) (fun w1 => ?_) (fun w1 hw1 => ?_) ?_
                  · simp only [pk, nthSp, lexVals]
                    rfl
                  · simp only [pk, nthSp, lexVals]
                    go_simp
                    exact ⟨Ext.refl _, rfl⟩
                  refine lx_ge (.pointer (some ⟨t, 0, none⟩)) [(0, 45)] 45 (by kernel_rfl) rfl (by kernel_rfl) (by rfl) (fun w1 => ?_) (fun w1 hw1 => ?_) ?_
                  · simp only [pk, nthSp, lexVals]
                    rfl
                  · simp only [pk, nthSp, lexVals]
                    go_simp
                    exact ⟨Ext.refl _, rfl⟩
                  refine lx_ge (.agg HVr) [(0, 46), (1, 45)] 45 (by kernel_rfl) rfl (by kernel_rfl) (by rfl) (fun w1 => ?_) (fun w1 hw1 => ?_) ?_
                  · simp only [pk, nthSp, lexVals]
                    rfl
                  · simp only [pk, nthSp, lexVals]
                    exact lu_mid rfl rfl LR (HLr.out w1 (HY.out w1 hw1)).1 Try.underlying31 rfl (by rw [HLR.out.2]; kernel_rfl) HVr HLR.out.1
                  refine lx_ge (.slice (some ⟨b, off, none⟩) n c) [(2, 45)] 45 (by kernel_rfl) rfl (by kernel_rfl) (by rfl) (fun w1 => ?_) (fun w1 hw1 => ?_) ?_
                  · simp only [pk, nthSp, lexVals]
                    rfl
                  · simp only [pk, nthSp, lexVals]
                    go_simp
                    exact ⟨Ext.refl _, rfl⟩
                  refine lx_ge (.int .i64 (j : Int)) [(3, 45)] 45 (by kernel_rfl) rfl (by kernel_rfl) (by rfl) (fun w1 => ?_) (fun w1 hw1 => ?_) ?_
                  · simp only [pk, nthSp, lexVals]
                    rfl
                  · simp only [pk, nthSp, lexVals]
                    go_simp
                    exact ⟨Ext.refl _, rfl⟩
                  refine lx_ge (.pointer (some ⟨b, off + j * 130, none⟩)) [(1, 48), (0, 49), (4, 45)] 45 (by kernel_rfl) rfl (by kernel_rfl) (by rfl) (fun w1 => ?_) (fun w1 hw1 => ?_) ?_
                  · simp only [pk, nthSp, lexVals]
                    rfl
                  · simp only [pk, nthSp, lexVals]
                    exact lu_ridx rfl rfl rfl hj
                  refine lx_ge (.pointer (some ⟨b, off + j * 130, none⟩)) [(0, 50), (5, 45)] 45 (by kernel_rfl) rfl (by kernel_rfl) (by rfl) (fun w1 => ?_) (fun w1 hw1 => ?_) ?_
                  · simp only [pk, nthSp, lexVals]
                    rfl
                  · simp only [pk, nthSp, lexVals]
                    go_simp
                    exact ⟨Ext.refl _, rfl⟩
                  refine lx_ge (.agg HVq) [(0, 51), (6, 45)] 45 (by kernel_rfl) rfl (by kernel_rfl) (by rfl) (fun w1 => ?_) (fun w1 hw1 => ?_) ?_
                  · simp only [pk, nthSp, lexVals]
                    rfl
                  · simp only [pk, nthSp, lexVals]
                    exact lu_mid rfl rfl LQ (HLq.out w1 (HY.out w1 hw1)) Try.underlying31 rfl (by rw [HLQ.out.2]; kernel_rfl) HVq HLQ.out.1
                  refine lx_ge (.bool LB) [(5, 47), (0, 52), (7, 45)] 45 (by kernel_rfl) rfl (by kernel_rfl) (by rfl) (fun w1 => ?_) (fun w1 hw1 => ?_) ?_
                  · simp only [pk, nthSp, lexVals]
                    rfl
                  · simp only [pk, nthSp, lexVals]
                    have HM := Lib.hid (HLt.out q w1)
                    rw [HHq.out, HLB.out] at HM
                    clear hw1
                    go_simp
                    refine HM.out.mono ?_
                    rintro e w2 ⟨rfl, hE2⟩
                    exact ⟨_, rfl, hE2, rfl⟩
                  refine lx_ge (.bool LB) [(8, 45), (0, 53), (11, 42)] 42 (by kernel_rfl) rfl (by kernel_rfl) (by rfl) (fun w1 => ?_) (fun w1 hw1 => ?_) ?_
                  · simp only [pk, nthSp, lexVals]
                    rfl
                  · simp only [pk, nthSp, lexVals]
                    go_simp
                    exact ⟨Ext.refl _, rfl⟩
                  refine lx_e (.bool LB) [(12, 42), (0, 54)] (by kernel_rfl) rfl (by rfl) (fun w1 hw1 => ?_) ?_
                  · simp only [pk, nthSp, lexVals]
                    go_simp
                    exact ⟨Ext.refl _, rfl⟩
                  refine lx_stopA (by rfl) fun w3 hw3 => ?_
                  simp only [rv, pf, lexVals]
                  simp only [Act.put, List.setIfInBounds_toArray, List.set_cons_zero, List.set_cons_succ]
                  go_wp2
                  go_meet
                  case rel => exact ⟨_, rfl, HU.out, HY.out w3 hw3⟩
            case rest =>
              obtain ⟨U3, rfl, hU3, hC3⟩ := hcut
              have HU3 := Lib.hid hU3
              have HC := Lib.hid hC3
              clear hU3 hC3
              rename World => y3
              go_upto_if 55 with (fail)
              go_cut [7] from 12 to 79 (fun v yd => v = (if U3 = true then Value.int .i64 (k : Int) else u7) ∧ yd = y3)
              case first =>
                cases U3 <;>
                · go_wp2_with fail
                  go_meet
                  case rel => exact ⟨rfl, rfl⟩
              case rest =>
                obtain ⟨hv, hyd⟩ := hcut
                subst hyd
                have HJ1 := Lib.hid (show Ix (pL x) cs (k + 1) u7 from HI1.out.step HKl.out Hr.out (by rw [← HU3.out]; exact hv))
                clear hv
                go_upto_region 11 with (fail)
                go_cut [78] from 12 to 79 (fun v yc => ∃ U : Bool, v = .bool U ∧ U = upR (pV x) (cs.take k) r ∧ Ext y1 yc)
                case first =>
                  obtain ⟨KN, hKN⟩ : ∃ z, r.kn = z := ⟨_, rfl⟩
                  have HKN := Lib.hid (show ∀ z, Ext y1 z → z.cell? ⟨t, 125, none⟩ = some (.bool KN) from fun z hz => by rw [← hKN]; exact (HLr.out z hz).2.1)
                  obtain ⟨OP, hOP⟩ : ∃ z, r.op = z := ⟨_, rfl⟩
                  have HOP := Lib.hid (show ∀ z, Ext y1 z → z.cell? ⟨t, 126, none⟩ = some (.int .i64 OP) from fun z hz => by rw [← hOP]; exact (HLr.out z hz).2.2)
                  have HPV := Lib.hid (show pV x r = (KN && !(OP == 3)) by unfold pV valB; rw [HSB.out, hKN, hOP]; rfl)
                  clear hKN hOP
                  cases KN with
                  | false =>
                    have HU := Lib.hid (show false = upR (pV x) (cs.take k) r by unfold upR; rw [HPV.out]; rfl)
                    have HY := Lib.hid (show ∀ z, Ext wc.drew z → Ext y1 z from fun z hz => HC.out.trans (Ext.trans (Ext.refl wc).drew hz))
                    refine wp_region_lexA (by kernel_rfl) (by kernel_rfl) ?_
                    refine lx_e (.pointer (some ⟨t, 125, none⟩)) [] (by kernel_rfl) rfl (by rfl) (fun w1 hw1 => ?_) ?_
                    · simp only [pk, lexVals]
                      go_simp
                      exact ⟨Ext.refl _, rfl⟩
                    refine lx_e (.bool false) [(0, 57)] (by kernel_rfl) rfl (by rfl) (fun w1 hw1 => ?_) ?_
                    · simp only [pk, nthSp, lexVals]
                      have hc := HKN.out w1 (HY.out w1 hw1)
                      clear hw1
                      go_simp
                      exact ⟨Ext.refl _, by first | rfl | simp⟩
                    refine lx_e (.bool false) [(0, 58)] (by kernel_rfl) rfl (by rfl) (fun w1 hw1 => ?_) ?_
                    · simp only [pk, nthSp, lexVals]
                      go_simp
                      exact ⟨Ext.refl _, rfl⟩
                    refine lx_no [(0, 59)] 59 (by kernel_rfl) rfl (by kernel_rfl) (by rfl) (fun w1 => ?_) ?_
                    · simp only [pk, nthSp, lexVals]
                      first | (go_simp; done) | (go_simp; exact fun h => by cases h)
                    refine lx_no [(0, 60), (1, 59)] 59 (by kernel_rfl) rfl (by kernel_rfl) (by rfl) (fun w1 => ?_) ?_
                    · simp only [pk, nthSp, lexVals]
                      first | (go_simp; done) | (go_simp; exact fun h => by cases h)
                    refine lx_no [(0, 61), (2, 59)] 59 (by kernel_rfl) rfl (by kernel_rfl) (by rfl) (fun w1 => ?_) ?_
                    · simp only [pk, nthSp, lexVals]
                      first | (go_simp; done) | (go_simp; exact fun h => by cases h)
                    refine lx_no [(0, 62), (3, 59)] 59 (by kernel_rfl) rfl (by kernel_rfl) (by rfl) (fun w1 => ?_) ?_
                    · simp only [pk, nthSp, lexVals]
                      first | (go_simp; done) | (go_simp; exact fun h => by cases h)
                    refine lx_e (.bool false) [(4, 59), (0, 63)] (by kernel_rfl) rfl (by rfl) (fun w1 hw1 => ?_) ?_
                    · simp only [pk, nthSp, lexVals]
                      go_simp
                      exact ⟨Ext.refl _, rfl⟩
                    refine lx_e (.bool false) [(0, 64)] (by kernel_rfl) rfl (by rfl) (fun w1 hw1 => ?_) ?_
                    · simp only [pk, nthSp, lexVals]
                      go_simp
                      exact ⟨Ext.refl _, rfl⟩
                    refine lx_no [(0, 65)] 65 (by kernel_rfl) rfl (by kernel_rfl) (by rfl) (fun w1 => ?_) ?_
                    · simp only [pk, nthSp, lexVals]
                      first | (go_simp; done) | (go_simp; exact fun h => by cases h)
                    refine lx_no [(0, 66), (1, 65)] 65 (by kernel_rfl) rfl (by kernel_rfl) (by rfl) (fun w1 => ?_) ?_
                    · simp only [pk, nthSp, lexVals]
                      first | (go_simp; done) | (go_simp; exact fun h => by cases h)
                    refine lx_no [(0, 67), (2, 65)] 65 (by kernel_rfl) rfl (by kernel_rfl) (by rfl) (fun w1 => ?_) ?_
                    · simp only [pk, nthSp, lexVals]
                      first | (go_simp; done) | (go_simp; exact fun h => by cases h)
                    refine lx_no [(0, 68)] 68 (by kernel_rfl) rfl (by kernel_rfl) (by rfl) (fun w1 => ?_) ?_
                    · simp only [pk, nthSp, lexVals]
                      first | (go_simp; done) | (go_simp; exact fun h => by cases h)
                    refine lx_no [(0, 69), (1, 68)] 68 (by kernel_rfl) rfl (by kernel_rfl) (by rfl) (fun w1 => ?_) ?_
                    · simp only [pk, nthSp, lexVals]
                      first | (go_simp; done) | (go_simp; exact fun h => by cases h)
                    refine lx_no [(2, 68)] 68 (by kernel_rfl) rfl (by kernel_rfl) (by rfl) (fun w1 => ?_) ?_
                    · simp only [pk, nthSp, lexVals]
                      first | (go_simp; done) | (go_simp; exact fun h => by cases h)
                    refine lx_no [(3, 68)] 68 (by kernel_rfl) rfl (by kernel_rfl) (by rfl) (fun w1 => ?_) ?_
                    · simp only [pk, nthSp, lexVals]
                      first | (go_simp; done) | (go_simp; exact fun h => by cases h)
                    refine lx_no [(1, 71), (0, 72), (4, 68)] 68 (by kernel_rfl) rfl (by kernel_rfl) (by rfl) (fun w1 => ?_) ?_
                    · simp only [pk, nthSp, lexVals]
                      first | (go_simp; done) | (go_simp; exact fun h => by cases h)
                    refine lx_no [(0, 73), (5, 68)] 68 (by kernel_rfl) rfl (by kernel_rfl) (by rfl) (fun w1 => ?_) ?_
                    · simp only [pk, nthSp, lexVals]
                      first | (go_simp; done) | (go_simp; exact fun h => by cases h)
                    refine lx_no [(0, 74), (6, 68)] 68 (by kernel_rfl) rfl (by kernel_rfl) (by rfl) (fun w1 => ?_) ?_
                    · simp only [pk, nthSp, lexVals]
                      first | (go_simp; done) | (go_simp; exact fun h => by cases h)
                    refine lx_no [(5, 70), (0, 75), (7, 68)] 68 (by kernel_rfl) rfl (by kernel_rfl) (by rfl) (fun w1 => ?_) ?_
                    · simp only [pk, nthSp, lexVals]
                      first | (go_simp; done) | (go_simp; exact fun h => by cases h)
                    refine lx_no [(8, 68), (0, 76), (11, 65)] 65 (by kernel_rfl) rfl (by kernel_rfl) (by rfl) (fun w1 => ?_) ?_
                    · simp only [pk, nthSp, lexVals]
                      first | (go_simp; done) | (go_simp; exact fun h => by cases h)
                    refine lx_e (.bool false) [(12, 65), (0, 77)] (by kernel_rfl) rfl (by rfl) (fun w1 hw1 => ?_) ?_
                    · simp only [pk, nthSp, lexVals]
                      go_simp
                      exact ⟨Ext.refl _, rfl⟩
                    refine lx_stopA (by rfl) fun w3 hw3 => ?_
                    simp only [rv, pf, lexVals]
                    simp only [Act.put, List.setIfInBounds_toArray, List.set_cons_zero, List.set_cons_succ]
                    go_wp2
                    go_meet
                    case rel => exact ⟨_, rfl, HU.out, HY.out w3 hw3⟩
                  | true =>
                    by_cases h3 : OP = 3
                    · subst h3
                      have HU := Lib.hid (show false = upR (pV x) (cs.take k) r by unfold upR; rw [HPV.out]; rfl)
                      have HY := Lib.hid (show ∀ z, Ext wc.drew z → Ext y1 z from fun z hz => HC.out.trans (Ext.trans (Ext.refl wc).drew hz))
                      refine wp_region_lexA (by kernel_rfl) (by kernel_rfl) ?_
                      refine lx_e (.pointer (some ⟨t, 125, none⟩)) [] (by kernel_rfl) rfl (by rfl) (fun w1 hw1 => ?_) ?_
                      · simp only [pk, lexVals]
                        go_simp
                        exact ⟨Ext.refl _, rfl⟩
                      refine lx_e (.bool true) [(0, 57)] (by kernel_rfl) rfl (by rfl) (fun w1 hw1 => ?_) ?_
                      · simp only [pk, nthSp, lexVals]
                        have hc := HKN.out w1 (HY.out w1 hw1)
                        clear hw1
                        go_simp
                        exact ⟨Ext.refl _, by first | rfl | simp⟩
                      refine lx_e (.bool true) [(0, 58)] (by kernel_rfl) rfl (by rfl) (fun w1 hw1 => ?_) ?_
                      · simp only [pk, nthSp, lexVals]
                        go_simp
                        exact ⟨Ext.refl _, rfl⟩
                      refine lx_ge (.pointer (some ⟨t, 126, none⟩)) [(0, 59)] 59 (by kernel_rfl) rfl (by kernel_rfl) (by rfl) (fun w1 => ?_) (fun w1 hw1 => ?_) ?_
                      · simp only [pk, nthSp, lexVals]
                        rfl
                      · simp only [pk, nthSp, lexVals]
                        go_simp
                        exact ⟨Ext.refl _, rfl⟩
                      refine lx_ge (.pointer (some ⟨t, 126, none⟩)) [(0, 60), (1, 59)] 59 (by kernel_rfl) rfl (by kernel_rfl) (by rfl) (fun w1 => ?_) (fun w1 hw1 => ?_) ?_
                      · simp only [pk, nthSp, lexVals]
                        rfl
                      · simp only [pk, nthSp, lexVals]
                        go_simp
                        exact ⟨Ext.refl _, rfl⟩
                      refine lx_ge (.int .i64 3) [(0, 61), (2, 59)] 59 (by kernel_rfl) rfl (by kernel_rfl) (by rfl) (fun w1 => ?_) (fun w1 hw1 => ?_) ?_
                      · simp only [pk, nthSp, lexVals]
                        rfl
                      · simp only [pk, nthSp, lexVals]
                        have hc := HOP.out w1 (HY.out w1 hw1)
                        clear hw1
                        go_simp
                        exact ⟨Ext.refl _, by first | rfl | simp⟩
                      refine lx_ge (.bool false) [(0, 62), (3, 59)] 59 (by kernel_rfl) rfl (by kernel_rfl) (by rfl) (fun w1 => ?_) (fun w1 hw1 => ?_) ?_
                      · simp only [pk, nthSp, lexVals]
                        rfl
                      · simp only [pk, nthSp, lexVals]
                        clear hw1
                        go_simp
                        exact ⟨Ext.refl _, by first | rfl | simp⟩
                      refine lx_e (.bool false) [(4, 59), (0, 63)] (by kernel_rfl) rfl (by rfl) (fun w1 hw1 => ?_) ?_
                      · simp only [pk, nthSp, lexVals]
                        go_simp
                        exact ⟨Ext.refl _, rfl⟩
                      refine lx_e (.bool false) [(0, 64)] (by kernel_rfl) rfl (by rfl) (fun w1 hw1 => ?_) ?_
                      · simp only [pk, nthSp, lexVals]
                        go_simp
                        exact ⟨Ext.refl _, rfl⟩
                      refine lx_no [(0, 65)] 65 (by kernel_rfl) rfl (by kernel_rfl) (by rfl) (fun w1 => ?_) ?_
                      · simp only [pk, nthSp, lexVals]
                        first | (go_simp; done) | (go_simp; exact fun h => by cases h)
                      refine lx_no [(0, 66), (1, 65)] 65 (by kernel_rfl) rfl (by kernel_rfl) (by rfl) (fun w1 => ?_) ?_
                      · simp only [pk, nthSp, lexVals]
                        first | (go_simp; done) | (go_simp; exact fun h => by cases h)
                      refine lx_no [(0, 67), (2, 65)] 65 (by kernel_rfl) rfl (by kernel_rfl) (by rfl) (fun w1 => ?_) ?_
                      · simp only [pk, nthSp, lexVals]
                        first | (go_simp; done) | (go_simp; exact fun h => by cases h)
                      refine lx_no [(0, 68)] 68 (by kernel_rfl) rfl (by kernel_rfl) (by rfl) (fun w1 => ?_) ?_
                      · simp only [pk, nthSp, lexVals]
                        first | (go_simp; done) | (go_simp; exact fun h => by cases h)
                      refine lx_no [(0, 69), (1, 68)] 68 (by kernel_rfl) rfl (by kernel_rfl) (by rfl) (fun w1 => ?_) ?_
                      · simp only [pk, nthSp, lexVals]
                        first | (go_simp; done) | (go_simp; exact fun h => by cases h)
                      refine lx_no [(2, 68)] 68 (by kernel_rfl) rfl (by kernel_rfl) (by rfl) (fun w1 => ?_) ?_
                      · simp only [pk, nthSp, lexVals]
                        first | (go_simp; done) | (go_simp; exact fun h => by cases h)
                      refine lx_no [(3, 68)] 68 (by kernel_rfl) rfl (by kernel_rfl) (by rfl) (fun w1 => ?_) ?_
                      · simp only [pk, nthSp, lexVals]
                        first | (go_simp; done) | (go_simp; exact fun h => by cases h)
                      refine lx_no [(1, 71), (0, 72), (4, 68)] 68 (by kernel_rfl) rfl (by kernel_rfl) (by rfl) (fun w1 => ?_) ?_
                      · simp only [pk, nthSp, lexVals]
                        first | (go_simp; done) | (go_simp; exact fun h => by cases h)
                      refine lx_no [(0, 73), (5, 68)] 68 (by kernel_rfl) rfl (by kernel_rfl) (by rfl) (fun w1 => ?_) ?_
                      · simp only [pk, nthSp, lexVals]
                        first | (go_simp; done) | (go_simp; exact fun h => by cases h)
                      refine lx_no [(0, 74), (6, 68)] 68 (by kernel_rfl) rfl (by kernel_rfl) (by rfl) (fun w1 => ?_) ?_
                      · simp only [pk, nthSp, lexVals]
                        first | (go_simp; done) | (go_simp; exact fun h => by cases h)
                      refine lx_no [(5, 70), (0, 75), (7, 68)] 68 (by kernel_rfl) rfl (by kernel_rfl) (by rfl) (fun w1 => ?_) ?_
                      · simp only [pk, nthSp, lexVals]
                        first | (go_simp; done) | (go_simp; exact fun h => by cases h)
                      refine lx_no [(8, 68), (0, 76), (11, 65)] 65 (by kernel_rfl) rfl (by kernel_rfl) (by rfl) (fun w1 => ?_) ?_
                      · simp only [pk, nthSp, lexVals]
                        first | (go_simp; done) | (go_simp; exact fun h => by cases h)
                      refine lx_e (.bool false) [(12, 65), (0, 77)] (by kernel_rfl) rfl (by rfl) (fun w1 hw1 => ?_) ?_
                      · simp only [pk, nthSp, lexVals]
                        go_simp
                        exact ⟨Ext.refl _, rfl⟩
                      refine lx_stopA (by rfl) fun w3 hw3 => ?_
                      simp only [rv, pf, lexVals]
                      simp only [Act.put, List.setIfInBounds_toArray, List.set_cons_zero, List.set_cons_succ]
                      go_wp2
                      go_meet
                      case rel => exact ⟨_, rfl, HU.out, HY.out w3 hw3⟩
                    · have HPV1 := Lib.hid (show pV x r = true by rw [HPV.out]; simp [h3])
                      rcases HI2.out with ⟨rfl, hf⟩ | ⟨j, rfl, hj, hf, hq⟩
                      · have HU := Lib.hid (show true = upR (pV x) (cs.take k) r by unfold upR; rw [HPV1.out, hf]; rfl)
                        clear hf
                        have HY := Lib.hid (show ∀ z, Ext wc.drew z → Ext y1 z from fun z hz => HC.out.trans (Ext.trans (Ext.refl wc).drew hz))
                        refine wp_region_lexA (by kernel_rfl) (by kernel_rfl) ?_
                        refine lx_e (.pointer (some ⟨t, 125, none⟩)) [] (by kernel_rfl) rfl (by rfl) (fun w1 hw1 => ?_) ?_
                        · simp only [pk, lexVals]
                          go_simp
                          exact ⟨Ext.refl _, rfl⟩
                        refine lx_e (.bool true) [(0, 57)] (by kernel_rfl) rfl (by rfl) (fun w1 hw1 => ?_) ?_
                        · simp only [pk, nthSp, lexVals]
                          have hc := HKN.out w1 (HY.out w1 hw1)
                          clear hw1
                          go_simp
                          exact ⟨Ext.refl _, by first | rfl | simp⟩
                        refine lx_e (.bool true) [(0, 58)] (by kernel_rfl) rfl (by rfl) (fun w1 hw1 => ?_) ?_
                        · simp only [pk, nthSp, lexVals]
                          go_simp
                          exact ⟨Ext.refl _, rfl⟩
                        refine lx_ge (.pointer (some ⟨t, 126, none⟩)) [(0, 59)] 59 (by kernel_rfl) rfl (by kernel_rfl) (by rfl) (fun w1 => ?_) (fun w1 hw1 => ?_) ?_
                        · simp only [pk, nthSp, lexVals]
                          rfl
                        · simp only [pk, nthSp, lexVals]
                          go_simp
                          exact ⟨Ext.refl _, rfl⟩
                        refine lx_ge (.pointer (some ⟨t, 126, none⟩)) [(0, 60), (1, 59)] 59 (by kernel_rfl) rfl (by kernel_rfl) (by rfl) (fun w1 => ?_) (fun w1 hw1 => ?_) ?_
                        · simp only [pk, nthSp, lexVals]
                          rfl
                        · simp only [pk, nthSp, lexVals]
                          go_simp
                          exact ⟨Ext.refl _, rfl⟩
                        refine lx_ge (.int .i64 OP) [(0, 61), (2, 59)] 59 (by kernel_rfl) rfl (by kernel_rfl) (by rfl) (fun w1 => ?_) (fun w1 hw1 => ?_) ?_
                        · simp only [pk, nthSp, lexVals]
                          rfl
                        · simp only [pk, nthSp, lexVals]
                          have hc := HOP.out w1 (HY.out w1 hw1)
                          clear hw1
                          go_simp
                          exact ⟨Ext.refl _, by first | rfl | simp⟩
                        refine lx_ge (.bool true) [(0, 62), (3, 59)] 59 (by kernel_rfl) rfl (by kernel_rfl) (by rfl) (fun w1 => ?_) (fun w1 hw1 => ?_) ?_
                        · simp only [pk, nthSp, lexVals]
                          rfl
                        · simp only [pk, nthSp, lexVals]
                          clear hw1
                          go_simp
                          exact ⟨Ext.refl _, by first | rfl | (show Value.bool _ = Value.bool true; simp [h3])⟩
                        refine lx_e (.bool true) [(4, 59), (0, 63)] (by kernel_rfl) rfl (by rfl) (fun w1 hw1 => ?_) ?_
                        · simp only [pk, nthSp, lexVals]
                          go_simp
                          exact ⟨Ext.refl _, rfl⟩
                        refine lx_e (.bool true) [(0, 64)] (by kernel_rfl) rfl (by rfl) (fun w1 hw1 => ?_) ?_
                        · simp only [pk, nthSp, lexVals]
                          go_simp
                          exact ⟨Ext.refl _, rfl⟩
                        refine lx_ge (.int .i64 (-1)) [(0, 65)] 65 (by kernel_rfl) rfl (by kernel_rfl) (by rfl) (fun w1 => ?_) (fun w1 hw1 => ?_) ?_
                        · simp only [pk, nthSp, lexVals]
                          rfl
                        · simp only [pk, nthSp, lexVals]
                          go_simp
                          exact ⟨Ext.refl _, rfl⟩
                        refine lx_ge (.bool true) [(0, 66), (1, 65)] 65 (by kernel_rfl) rfl (by kernel_rfl) (by rfl) (fun w1 => ?_) (fun w1 hw1 => ?_) ?_
                        · simp only [pk, nthSp, lexVals]
                          rfl
                        · simp only [pk, nthSp, lexVals]
                          go_simp
                          exact ⟨Ext.refl _, rfl⟩
                        refine lx_ge (.bool true) [(0, 67), (2, 65)] 65 (by kernel_rfl) rfl (by kernel_rfl) (by rfl) (fun w1 => ?_) (fun w1 hw1 => ?_) ?_
                        · simp only [pk, nthSp, lexVals]
                          rfl
                        · simp only [pk, nthSp, lexVals]
                          go_simp
                          exact ⟨Ext.refl _, rfl⟩
                        refine lx_no [(0, 68)] 68 (by kernel_rfl) rfl (by kernel_rfl) (by rfl) (fun w1 => ?_) ?_
                        · simp only [pk, nthSp, lexVals]
                          first | (go_simp; done) | (go_simp; exact fun h => by cases h)
                        refine lx_no [(0, 69), (1, 68)] 68 (by kernel_rfl) rfl (by kernel_rfl) (by rfl) (fun w1 => ?_) ?_
                        · simp only [pk, nthSp, lexVals]
                          first | (go_simp; done) | (go_simp; exact fun h => by cases h)
                        refine lx_no [(2, 68)] 68 (by kernel_rfl) rfl (by kernel_rfl) (by rfl) (fun w1 => ?_) ?_
                        · simp only [pk, nthSp, lexVals]
                          first | (go_simp; done) | (go_simp; exact fun h => by cases h)
                        refine lx_no [(3, 68)] 68 (by kernel_rfl) rfl (by kernel_rfl) (by rfl) (fun w1 => ?_) ?_
                        · simp only [pk, nthSp, lexVals]
                          first | (go_simp; done) | (go_simp; exact fun h => by cases h)
                        refine lx_no [(1, 71), (0, 72), (4, 68)] 68 (by kernel_rfl) rfl (by kernel_rfl) (by rfl) (fun w1 => ?_) ?_
                        · simp only [pk, nthSp, lexVals]
                          first | (go_simp; done) | (go_simp; exact fun h => by cases h)
                        refine lx_no [(0, 73), (5, 68)] 68 (by kernel_rfl) rfl (by kernel_rfl) (by rfl) (fun w1 => ?_) ?_
                        · simp only [pk, nthSp, lexVals]
                          first | (go_simp; done) | (go_simp; exact fun h => by cases h)
                        refine lx_no [(0, 74), (6, 68)] 68 (by kernel_rfl) rfl (by kernel_rfl) (by rfl) (fun w1 => ?_) ?_
                        · simp only [pk, nthSp, lexVals]
                          first | (go_simp; done) | (go_simp; exact fun h => by cases h)
                        refine lx_no [(5, 70), (0, 75), (7, 68)] 68 (by kernel_rfl) rfl (by kernel_rfl) (by rfl) (fun w1 => ?_) ?_
                        · simp only [pk, nthSp, lexVals]
                          first | (go_simp; done) | (go_simp; exact fun h => by cases h)
                        refine lx_ge (.bool true) [(8, 68), (0, 76), (11, 65)] 65 (by kernel_rfl) rfl (by kernel_rfl) (by rfl) (fun w1 => ?_) (fun w1 hw1 => ?_) ?_
                        · simp only [pk, nthSp, lexVals]
                          rfl
                        · simp only [pk, nthSp, lexVals]
                          go_simp
                          exact ⟨Ext.refl _, rfl⟩
                        refine lx_e (.bool true) [(12, 65), (0, 77)] (by kernel_rfl) rfl (by rfl) (fun w1 hw1 => ?_) ?_
                        · simp only [pk, nthSp, lexVals]
                          go_simp
                          exact ⟨Ext.refl _, rfl⟩
                        refine lx_stopA (by rfl) fun w3 hw3 => ?_
                        simp only [rv, pf, lexVals]
                        simp only [Act.put, List.setIfInBounds_toArray, List.set_cons_zero, List.set_cons_succ]
                        go_wp2
                        go_meet
                        case rel => exact ⟨_, rfl, HU.out, HY.out w3 hw3⟩
                      · have hj : j < n := by omega
                        have x0 : ¬ (j : Int) < 0 := by omega
                        have hq0 := hq
                        obtain ⟨q, hq⟩ : ∃ z, cs.getD j rwN = z := ⟨_, rfl⟩
                        rw [hq] at hq0
                        have hlq : ∀ z, Ext y1 z → z.rangeAt b (off + j * 130) (hdL q.hd.1) := fun z hz => by rw [← hq]; exact HL.out j z hj hz
                        obtain ⟨HVq, hHVq⟩ : ∃ z, hdV q.hd.1 = z := ⟨_, rfl⟩
                        obtain ⟨LQ, hLQ⟩ : ∃ z, hdL q.hd.1 = z := ⟨_, rfl⟩
                        have HLQ := Lib.hid (show LQ.toArray = HVq ∧ LQ.length = 125 by rw [← hLQ, ← hHVq]; exact ⟨rfl, hdL_length _⟩)
                        rw [hLQ] at hlq
                        have HLq := Lib.hid hlq
                        have HHq := Lib.hid hHVq
                        obtain ⟨LB, hLB⟩ : ∃ z, latB r q = z := ⟨_, rfl⟩
                        have HLB := Lib.hid hLB
                        have HU := Lib.hid (show LB = upR (pV x) (cs.take k) r by unfold upR; rw [HPV1.out, ← hq0, hLB, decide_eq_false hf]; rfl)
                        clear hf hq0 hq hHVq hLQ hLB hlq
                        have HY := Lib.hid (show ∀ z, Ext wc.drew z → Ext y1 z from fun z hz => HC.out.trans (Ext.trans (Ext.refl wc).drew hz))
                        refine wp_region_lexA (by kernel_rfl) (by kernel_rfl) ?_
                        refine lx_e (.pointer (some ⟨t, 125, none⟩)) [] (by kernel_rfl) rfl (by rfl) (fun w1 hw1 => ?_) ?_
                        · simp only [pk, lexVals]
                          go_simp
                          exact ⟨Ext.refl _, rfl⟩
                        refine lx_e (.bool true) [(0, 57)] (by kernel_rfl) rfl (by rfl) (fun w1 hw1 => ?_) ?_
                        · simp only [pk, nthSp, lexVals]
                          have hc := HKN.out w1 (HY.out w1 hw1)
                          clear hw1
                          go_simp
                          exact ⟨Ext.refl _, by first | rfl | simp⟩
                        refine lx_e (.bool true) [(0, 58)] (by kernel_rfl) rfl (by rfl) (fun w1 hw1 => ?_) ?_
                        · simp only [pk, nthSp, lexVals]
                          go_simp
                          exact ⟨Ext.refl _, rfl⟩
                        refine lx_ge (.pointer (some ⟨t, 126, none⟩)) [(0, 59)] 59 (by kernel_rfl) rfl (by kernel_rfl) (by rfl) (fun w1 => ?_) (fun w1 hw1 => ?_) ?_
                        · simp only [pk, nthSp, lexVals]
                          rfl
                        · simp only [pk, nthSp, lexVals]
                          go_simp
                          exact ⟨Ext.refl _, rfl⟩
                        refine lx_ge (.pointer (some ⟨t, 126, none⟩)) [(0, 60), (1, 59)] 59 (by kernel_rfl) rfl (by kernel_rfl) (by rfl) (fun w1 => ?_) (fun w1 hw1 => ?_) ?_
                        · simp only [pk, nthSp, lexVals]
                          rfl
                        · simp only [pk, nthSp, lexVals]
                          go_simp
                          exact ⟨Ext.refl _, rfl⟩
                        refine lx_ge (.int .i64 OP) [(0, 61), (2, 59)] 59 (by kernel_rfl) rfl (by kernel_rfl) (by rfl) (fun w1 => ?_) (fun w1 hw1 => ?_) ?_
                        · simp only [pk, nthSp, lexVals]
                          rfl
                        · simp only [pk, nthSp, lexVals]
                          have hc := HOP.out w1 (HY.out w1 hw1)
                          clear hw1
                          go_simp
                          exact ⟨Ext.refl _, by first | rfl | simp⟩
                        refine lx_ge (.bool true) [(0, 62), (3, 59)] 59 (by kernel_rfl) rfl (by kernel_rfl) (by rfl) (fun w1 => ?_) (fun w1 hw1 => ?_) ?_
                        · simp only [pk, nthSp, lexVals]
                          rfl
                        · simp only [pk, nthSp, lexVals]
                          clear hw1
                          go_simp
                          exact ⟨Ext.refl _, by first | rfl | (show Value.bool _ = Value.bool true; simp [h3])⟩
                        refine lx_e (.bool true) [(4, 59), (0, 63)] (by kernel_rfl) rfl (by rfl) (fun w1 hw1 => ?_) ?_
                        · simp only [pk, nthSp, lexVals]
                          go_simp
                          exact ⟨Ext.refl _, rfl⟩
                        refine lx_e (.bool true) [(0, 64)] (by kernel_rfl) rfl (by rfl) (fun w1 hw1 => ?_) ?_
                        · simp only [pk, nthSp, lexVals]
                          go_simp
                          exact ⟨Ext.refl _, rfl⟩
                        refine lx_ge (.int .i64 (j : Int)) [(0, 65)] 65 (by kernel_rfl) rfl (by kernel_rfl) (by rfl) (fun w1 => ?_) (fun w1 hw1 => ?_) ?_
                        · simp only [pk, nthSp, lexVals]
                          rfl
                        · simp only [pk, nthSp, lexVals]
                          go_simp
                          exact ⟨Ext.refl _, rfl⟩
                        refine lx_ge (.bool false) [(0, 66), (1, 65)] 65 (by kernel_rfl) rfl (by kernel_rfl) (by rfl) (fun w1 => ?_) (fun w1 hw1 => ?_) ?_
                        · simp only [pk, nthSp, lexVals]
                          rfl
                        · simp only [pk, nthSp, lexVals]
                          go_simp
                          exact ⟨Ext.refl _, rfl⟩
                        refine lx_ge (.bool false) [(0, 67), (2, 65)] 65 (by kernel_rfl) rfl (by kernel_rfl) (by rfl) (fun w1 => ?_) (fun w1 hw1 => ?_) ?_
                        · simp only [pk, nthSp, lexVals]
                          rfl
                        · simp only [pk, nthSp, lexVals]
                          go_simp
                          exact ⟨Ext.refl _, rfl⟩
                        refine lx_ge (.pointer (some ⟨t, 0, none⟩)) [(0, 68)] 68 (by kernel_rfl) rfl (by kernel_rfl) (by rfl) (fun w1 => ?_) (fun w1 hw1 => ?_) ?_
                        · simp only [pk, nthSp, lexVals]
                          rfl
                        · simp only [pk, nthSp, lexVals]
                          go_simp
                          exact ⟨Ext.refl _, rfl⟩
                        refine lx_ge (.agg HVr) [(0, 69), (1, 68)] 68 (by kernel_rfl) rfl (by kernel_rfl) (by rfl) (fun w1 => ?_) (fun w1 hw1 => ?_) ?_
                        · simp only [pk, nthSp, lexVals]
                          rfl
                        · simp only [pk, nthSp, lexVals]
                          exact lu_mid rfl rfl LR (HLr.out w1 (HY.out w1 hw1)).1 Try.underlying31 rfl (by rw [HLR.out.2]; kernel_rfl) HVr HLR.out.1
                        refine lx_ge (.slice (some ⟨b, off, none⟩) n c) [(2, 68)] 68 (by kernel_rfl) rfl (by kernel_rfl) (by rfl) (fun w1 => ?_) (fun w1 hw1 => ?_) ?_
                        · simp only [pk, nthSp, lexVals]
                          rfl
                        · simp only [pk, nthSp, lexVals]
                          go_simp
                          exact ⟨Ext.refl _, rfl⟩
                        refine lx_ge (.int .i64 (j : Int)) [(3, 68)] 68 (by kernel_rfl) rfl (by kernel_rfl) (by rfl) (fun w1 => ?_) (fun w1 hw1 => ?_) ?_
                        · simp only [pk, nthSp, lexVals]
                          rfl
                        · simp only [pk, nthSp, lexVals]
                          go_simp
                          exact ⟨Ext.refl _, rfl⟩
                        refine lx_ge (.pointer (some ⟨b, off + j * 130, none⟩)) [(1, 71), (0, 72), (4, 68)] 68 (by kernel_rfl) rfl (by kernel_rfl) (by rfl) (fun w1 => ?_) (fun w1 hw1 => ?_) ?_
                        · simp only [pk, nthSp, lexVals]
                          rfl
                        · simp only [pk, nthSp, lexVals]
                          exact lu_ridx rfl rfl rfl hj
                        refine lx_ge (.pointer (some ⟨b, off + j * 130, none⟩)) [(0, 73), (5, 68)] 68 (by kernel_rfl) rfl (by kernel_rfl) (by rfl) (fun w1 => ?_) (fun w1 hw1 => ?_) ?_
                        · simp only [pk, nthSp, lexVals]
                          rfl
                        · simp only [pk, nthSp, lexVals]
                          go_simp
                          exact ⟨Ext.refl _, rfl⟩
                        refine lx_ge (.agg HVq) [(0, 74), (6, 68)] 68 (by kernel_rfl) rfl (by kernel_rfl) (by rfl) (fun w1 => ?_) (fun w1 hw1 => ?_) ?_
                        · simp only [pk, nthSp, lexVals]
                          rfl
                        · simp only [pk, nthSp, lexVals]
                          exact lu_mid rfl rfl LQ (HLq.out w1 (HY.out w1 hw1)) Try.underlying31 rfl (by rw [HLQ.out.2]; kernel_rfl) HVq HLQ.out.1
                        refine lx_ge (.bool LB) [(5, 70), (0, 75), (7, 68)] 68 (by kernel_rfl) rfl (by kernel_rfl) (by rfl) (fun w1 => ?_) (fun w1 hw1 => ?_) ?_
                        · simp only [pk, nthSp, lexVals]
                          rfl
                        · simp only [pk, nthSp, lexVals]
                          have HM := Lib.hid (HLt.out q w1)
                          rw [HHq.out, HLB.out] at HM
                          clear hw1
                          go_simp
                          refine HM.out.mono ?_
                          rintro e w2 ⟨rfl, hE2⟩
                          exact ⟨_, rfl, hE2, rfl⟩
                        refine lx_ge (.bool LB) [(8, 68), (0, 76), (11, 65)] 65 (by kernel_rfl) rfl (by kernel_rfl) (by rfl) (fun w1 => ?_) (fun w1 hw1 => ?_) ?_
                        · simp only [pk, nthSp, lexVals]
                          rfl
                        · simp only [pk, nthSp, lexVals]
                          go_simp
                          exact ⟨Ext.refl _, rfl⟩
                        refine lx_e (.bool LB) [(12, 65), (0, 77)] (by kernel_rfl) rfl (by rfl) (fun w1 hw1 => ?_) ?_
                        · simp only [pk, nthSp, lexVals]
                          go_simp
                          exact ⟨Ext.refl _, rfl⟩
                        refine lx_stopA (by rfl) fun w3 hw3 => ?_
                        simp only [rv, pf, lexVals]
                        simp only [Act.put, List.setIfInBounds_toArray, List.set_cons_zero, List.set_cons_succ]
                        go_wp2
                        go_meet
                        case rel => exact ⟨_, rfl, HU.out, HY.out w3 hw3⟩
                case rest =>
                  obtain ⟨U4, rfl, hU4, hC4⟩ := hcut
                  have HU4 := Lib.hid hU4
                  have HC := Lib.hid hC4
                  clear hU4 hC4
                  have HJ2 := Lib.hid (show Ix (pV x) cs (k + 1) (if U4 = true then Value.int .i64 (k : Int) else u8) from HI2.out.step HKl.out Hr.out (by rw [← HU4.out]))
                  cases U4 with
                  | false =>
                    go_wp2_with fail
                    go_roundw
                    case rel => exact ⟨k + 1, by omega, by go_num, HE.out.trans (HE1.out.trans HC.out), HJ0.out, HJ1.out, HJ2.out⟩
                    case measure => simp [intOf]; omega
                  | true =>
                    go_wp2_with fail
                    go_roundw
                    case rel => exact ⟨k + 1, by omega, by go_num, HE.out.trans (HE1.out.trans HC.out), HJ0.out, HJ1.out, HJ2.out⟩
                    case measure => simp [intOf]; omega
    · obtain rfl : k = n := by omega
      have x1 : ¬ (k : Int) < (k : Int) := by omega
      clear hlt
      have hti : cs.take k = cs := by rw [← HLen.out, List.take_length]
      obtain ⟨i0, i1, i2⟩ : Ix (pN x) cs k u6 ∧ Ix (pL x) cs k u7 ∧ Ix (pV x) cs k u8 := ⟨HI0.out, HI1.out, HI2.out⟩
      unfold Ix at i0 i1 i2
      rw [hti] at i0 i1 i2
      have HI1 := Lib.hid i1
      have HI2 := Lib.hid i2
      clear hti HI0 i1 i2
      have HEy := Lib.hid (HE2.out.trans HE.out)
      have HZy := Lib.hid (HE.out.keep HZ2.out)
      have HBy := Lib.hid (HE.out.keep HB2.out)
      have hSw : w.heap.size ≤ S + 1 := by rw [HS.out]; omega
      have HSw := Lib.hid hSw
      clear hSw
      rcases i0 with ⟨rfl, hf⟩ | ⟨j0, rfl, hj0, hf, hq0⟩
      · have HL0 := Lib.hid (show ofTok x cs = [] from hf)
        clear hf
        go_wp2_with (first | (refine wp_build_it0 rfl rfl ZI HZI.out ?_) | (refine wpList_store_row rfl 41 _ _ rfl (S + 1) _ rfl rfl _ _ HZy.out (by rw [HZs.out.1]; kernel_rfl) rfl HZs.out.2 ?_))
        refine bodyPost_ret (results_row_tmp rfl _ _ (S + 1) _ _ _ _ rfl (setRow_heap y (S + 1) _ _ _ _ HZy.out) Try.underlying41 rfl (by rw [HZs.out.1]; kernel_rfl)) rfl ?_
        refine ⟨itN, ?_, below_setRow HEy.out HSw.out ZI, (itN_own 0 _).at, by unfold Was; rw [if_pos HL0.out]⟩
        rw [HZI.out, HL0.out]
        rfl
      · have x0 : ¬ (j0 : Int) < 0 := by omega
        have HL0 := Lib.hid (show ofTok x cs ≠ [] from hf)
        have HQ0 := Lib.hid (show cs.getD j0 rwN = topR (fun _ => true) (ofTok x cs) by
          rw [hq0, (top_tok x cs fun _ => true).1]
          congr 1
          funext r
          rw [Bool.and_true])
        obtain ⟨b, off, rfl, hcell⟩ := (H.out.ext HEy.out).at_ (by omega)
        have HCell := Lib.hid hcell
        clear hf hq0 hcell
        go_upto_region 15 with (fail)
        obtain ⟨q0, hq⟩ : ∃ z, cs.getD j0 rwN = z := ⟨_, rfl⟩
        have HRq := Lib.hid (show RwAt w q0 by rw [← hq]; exact H.out.get hj0)
        have HQ0 := Lib.hid (show q0 = topR (fun _ => true) (ofTok x cs) by rw [← hq]; exact HQ0.out)
        have hlq : y.rangeAt b (off + j0 * 130) (hdL q0.hd.1) := range_hd fun i hi => by
          have h1 := HCell.out j0 hj0 i (by omega)
          rw [hq] at h1
          rw [h1]
          unfold rwC
          rw [if_pos hi]
        have hkq : y.cell? ⟨b, off + j0 * 130 + 125, none⟩ = some (.bool q0.kn) := by
          have h1 := HCell.out j0 hj0 125 (by omega)
          rw [hq] at h1
          exact h1
        obtain ⟨KN, hKN⟩ : ∃ z, q0.kn = z := ⟨_, rfl⟩
        rw [hKN] at hkq
        obtain ⟨HVq, hHVq⟩ : ∃ z, hdV q0.hd.1 = z := ⟨_, rfl⟩
        obtain ⟨LQ, hLQ⟩ : ∃ z, hdL q0.hd.1 = z := ⟨_, rfl⟩
        have HLQ := Lib.hid (show LQ.toArray = HVq ∧ LQ.length = 125 by rw [← hLQ, ← hHVq]; exact ⟨rfl, hdL_length _⟩)
        rw [hLQ] at hlq
        have HLq := Lib.hid hlq
        have HKq := Lib.hid hkq
        have HHq := Lib.hid hHVq
        have HKN := Lib.hid hKN
        obtain ⟨I0, hI0⟩ : ∃ z, itV ⟨x, q0.hd, KN, false, ⟨#[]⟩, none, 0, [], ⟨#[]⟩⟩ = z := ⟨_, rfl⟩
        have HI0' := Lib.hid hI0
        have HIs := Lib.hid (show I0.size = 146 ∧ I0.all (·.oneCell') = true by rw [← hI0]; exact ⟨itV_size _, itV_one _⟩)
        have hbl := World.block_lt_of_cell? _ _ hkq
        clear hq hlq hkq hHVq hLQ hI0 hKN
        obtain ⟨T0, hT0⟩ : ∃ S, y.heap.size = S := ⟨_, rfl⟩
        have HX := Lib.hid (show rowArr 16 (fun j => Value.int .u8 (x j)) = X from HX.out)
        have HXb := Lib.hid (show ∀ z, Below T0 y z → Ext y z from fun z hz => by rw [← hT0] at hz; exact hz)
        have hst : RowR T0 41 146 y false y.drew := by rw [← hT0]; exact RowR.start y 41 146
        have HT0 := Lib.hid hT0
        have hbT : b < T0 := by rw [← hT0]; exact hbl
        have HbT := Lib.hid hbT
        clear hT0 hbl hbT
        refine lq_start (E := fun _ => RowE T0 (.cells I0 41 (0, 0))) 14 12 (by omega) (by kernel_rfl) (by kernel_rfl) (fun _ w => RowE.refl _ _ w) (fun _ _ h => h) hst ?_
        simp only [List.take_succ_cons, List.take_zero]
        refine lr_p (.agg X) [] (by decide) (by kernel_rfl) rfl (by rfl) (fun w1 hw1 => ?_) ?_
        · simp only [pk, lexVals]
          exact rq_row rfl rfl ((HXb.out w1 hw1).keep HBy.out) Try.underlying27 rfl (by rw [HXs.out.1]; kernel_rfl)
        refine lr_p (.slice (some ⟨b, off, none⟩) k c) [] (by decide) (by kernel_rfl) rfl (by rfl) (fun w1 hw1 => ?_) ?_
        · simp only [pk, lexVals]
          first | (go_simp; done) | (go_simp; rfl)
        refine lr_p (.int .i64 (j0 : Int)) [] (by decide) (by kernel_rfl) rfl (by rfl) (fun w1 hw1 => ?_) ?_
        · simp only [pk, lexVals]
          first | (go_simp; done) | (go_simp; rfl)
        refine lr_p (.pointer (some ⟨b, off + j0 * 130, none⟩)) [(1, 84), (0, 85)] (by decide) (by kernel_rfl) rfl (by rfl) (fun w1 hw1 => ?_) ?_
        · simp only [pk, nthSp, lexVals]
          exact rq_ridx rfl rfl rfl hj0
        refine lr_p (.pointer (some ⟨b, off + j0 * 130, none⟩)) [(0, 86)] (by decide) (by kernel_rfl) rfl (by rfl) (fun w1 hw1 => ?_) ?_
        · simp only [pk, nthSp, lexVals]
          first | (go_simp; done) | (go_simp; rfl)
        refine lr_p (.agg HVq) [(0, 87)] (by decide) (by kernel_rfl) rfl (by rfl) (fun w1 hw1 => ?_) ?_
        · simp only [pk, nthSp, lexVals]
          exact rq_mid rfl rfl LQ (fun j u hu => by
            have h1 := HLq.out j u hu
            rw [(HXb.out w1 hw1).cell (World.block_lt_of_cell? _ _ h1)]
            exact h1) Try.underlying31 rfl (by rw [HLQ.out.2]; kernel_rfl) HVq HLQ.out.1
        refine lr_p (.slice (some ⟨b, off, none⟩) k c) [] (by decide) (by kernel_rfl) rfl (by rfl) (fun w1 hw1 => ?_) ?_
        · simp only [pk, lexVals]
          first | (go_simp; done) | (go_simp; rfl)
        refine lr_p (.int .i64 (j0 : Int)) [] (by decide) (by kernel_rfl) rfl (by rfl) (fun w1 hw1 => ?_) ?_
        · simp only [pk, lexVals]
          first | (go_simp; done) | (go_simp; rfl)
        refine lr_p (.pointer (some ⟨b, off + j0 * 130, none⟩)) [(1, 89), (0, 90)] (by decide) (by kernel_rfl) rfl (by rfl) (fun w1 hw1 => ?_) ?_
        · simp only [pk, nthSp, lexVals]
          exact rq_ridx rfl rfl rfl hj0
        refine lr_p (.pointer (some ⟨b, off + j0 * 130 + 125, none⟩)) [(0, 91)] (by decide) (by kernel_rfl) rfl (by rfl) (fun w1 hw1 => ?_) ?_
        · simp only [pk, nthSp, lexVals]
          first | (go_simp; done) | (go_simp; rfl)
        refine lr_p (.bool KN) [(0, 92)] (by decide) (by kernel_rfl) rfl (by rfl) (fun w1 hw1 => ?_) ?_
        · simp only [pk, nthSp, lexVals]
          have hc : w1.cell? ⟨b, off + j0 * 130 + 125, none⟩ = some (.bool KN) := by rw [(HXb.out w1 hw1).cell (World.block_lt_of_cell? _ _ HKq.out)]; exact HKq.out
          clear hw1
          first | (go_simp; done) | (go_simp; rfl)
        refine lr_p (.agg I0) [(10, 83), (5, 88), (0, 93)] (by decide) (by kernel_rfl) rfl (by rfl) (fun w1 hw1 => ?_) ?_
        · simp only [pk, nthSp, lexVals]
          exact rq_build3 rfl x q0.hd KN X HVq I0 HX.out HHq.out HI0'.out rfl rfl rfl
        refine lr_new ZI [] rfl (by kernel_rfl) rfl (by rfl) HZs.out.1 (fun w1 => ?_) ?_
        · simp only [pk, lexVals]
          have hzi := it_zero
          rw [HZI.out] at hzi
          first | (go_simp; done) | (go_simp; rfl)
        refine lr_put I0 41 _ _ rfl [(0, 11), (1, 94)] (by decide) (by kernel_rfl) rfl (by rfl) rfl HIs.out.1 (by rw [HIs.out.1]; kernel_rfl) HIs.out.2 (fun w1 hw1 => ?_) ?_
        · simp only [pk, nthSp, lexVals]
          rintro u11 ⟨rfl, h11⟩
          exact ⟨rfl, h11, rfl⟩
        refine lq_stop (by rfl) (by decide) fun w7 hw7 => ?_
        have HE7 := Lib.hid (HXb.out w7 hw7.1)
        clear hw7 hst
        simp only [rv, pf, lexVals, List.drop_succ_cons, List.drop_zero]
        rintro u11 ⟨rfl, -⟩ u00 hF7
        simp only [Act.put, List.setIfInBounds_toArray, List.set_cons_zero, List.set_cons_succ]
        have hF7' : w7.heap[T0]? = some (.cells (itV ⟨x, q0.hd, KN, false, ⟨#[]⟩, none, 0, [], ⟨#[]⟩⟩) 41 (0, 0)) := by rw [HI0'.out]; exact hF7
        have HO := Lib.hid (show OfC w7 T0 ⟨x, q0.hd, KN, false, ⟨#[]⟩, none, 0, [], ⟨#[]⟩⟩ w7 from ⟨World.grownBy.refl w7 _, rowIs_of hF7'⟩)
        clear hF7 hF7'
        have HCl7 := Lib.hid (show ∀ (j i : Nat), j < k → i < 130 → w7.cell? ⟨b, off + j * 130 + i, none⟩ = some (rwC (cs.getD j rwN) i) from fun j i hj hi => by
          have h1 := HCell.out j hj i hi
          rw [HE7.out.cell (World.block_lt_of_cell? _ _ h1)]
          exact h1)
        rcases HI1.out with ⟨rfl, hf1⟩ | ⟨j1, rfl, hj1, hf1, hq1⟩
        · -- none of them is known
          have hf2 : cs.filter (pV x) = [] := by
            rw [List.filter_eq_nil_iff] at hf1 ⊢
            intro r hr h
            refine hf1 r hr ?_
            unfold pV valB at h
            unfold pL
            simp only [Bool.and_eq_true] at h ⊢
            exact ⟨h.1, h.2.1⟩
          rcases HI2.out with ⟨rfl, hf3⟩ | ⟨j2, rfl, hj2, hf3, hq2⟩
          · have HNone := Lib.hid hf1
            have HNone2 := Lib.hid hf2
            clear hf1 hf2 hf3
            go_upto_region 22 with (fail)
            obtain ⟨J, hJ⟩ : ∃ z, itV ⟨x, q0.hd, KN, false, ⟨#[]⟩, none, 0, [], ⟨#[]⟩⟩ = z := ⟨_, rfl⟩
            have HJ := Lib.hid hJ
            have HJs := Lib.hid (show J.size = 146 ∧ J.all (·.oneCell') = true by rw [← hJ]; exact ⟨itV_size _, itV_one _⟩)
            have HC8 := Lib.hid (show w7.heap[T0]? = some (.cells J 41 (0, 0)) by rw [← hJ]; exact rowIs_cells HO.out.row)
            have hS1 := (Array.getElem?_eq_some_iff.1 HZy.out).1
            have HZ8 := Lib.hid (show w7.heap[S + 1]? = some (.cells ZI 41 (0, 0)) by
              have h1 := HE7.out.keep HZy.out
              rw [HO.out.grown.block (S + 1) (Array.getElem?_eq_some_iff.1 h1).1 (fun e => by have := Option.some.inj e; have := HT0.out; omega)]
              exact h1)
            have HE8 := Lib.hid (show Ext w w7 from ext_gn (HEy.out.trans HE7.out) (by have h1 := Below.size HEy.out; rw [HT0.out] at h1; exact h1) HO.out.grown)
            clear hJ hS1
            go_wp2_with (first | (refine wpList_load_rowW rfl 41 (.tmp 11) rfl T0 rfl _ _ _ _ HC8.out Try.underlying41 rfl (by rw [HJs.out.1]; kernel_rfl) ?_; simp only [Act.put, List.setIfInBounds_toArray, List.set_cons_zero, List.set_cons_succ]) | (refine wpList_store_row rfl 41 (.tmp 4) (.tmp 130) rfl (S + 1) _ rfl rfl _ _ HZ8.out (by rw [HJs.out.1]; kernel_rfl) (by rw [HJs.out.1, HZs.out.1]) HJs.out.2 ?_))
            refine bodyPost_ret (results_row_tmp rfl _ _ (S + 1) _ _ _ _ rfl (setRow_heap w7 (S + 1) _ _ _ _ HZ8.out) Try.underlying41 rfl (by rw [HJs.out.1]; kernel_rfl)) rfl ?_
            have hE8 : Ext w (w7.setRow (S + 1) J) := below_setRow HE8.out HSw.out J
            refine ⟨⟨x, q0.hd, KN, false, ⟨#[]⟩, none, 0, [], ⟨#[]⟩⟩, by rw [HJ.out, decide_eq_false HL0.out]; rfl, hE8, ⟨HRq.out.hd.ext hE8, ⟨rfl, Nat.le_refl _, (by show (0 : Nat) ≤ _; omega), (fun s (hs : s ∈ ([] : List ByteArray)) => by cases hs), (fun h => by have h0 : (0 : Nat) < 0 := h; omega)⟩, (by show (0 : Nat) ≤ _; omega), (by show (0 : Nat) ≤ _; omega)⟩, ?_⟩
            unfold Was
            rw [if_neg HL0.out]
            exact made_of HQ0.out rfl rfl HKN.out.symm (by rw [topR_none HNone.out]; rfl) (by rw [HNone2.out]; rfl) (by rw [if_neg Bool.false_ne_true]) (by rw [if_neg Bool.false_ne_true])
          · exact absurd hf2 hf3
        · obtain ⟨q1, hq⟩ : ∃ z, cs.getD j1 rwN = z := ⟨_, rfl⟩
          have HR1 := Lib.hid (show RwAt w q1 by rw [← hq]; exact H.out.get hj1)
          have HQ1 := Lib.hid (show q1 = topR (pL x) cs by rw [← hq]; exact hq1)
          have hy0 : ¬ (j1 : Int) < 0 := by omega
          have hc1 : ∀ i, i < 130 → w7.cell? ⟨b, off + j1 * 130 + i, none⟩ = some (rwC q1 i) := fun i hi => by
            have h1 := HCl7.out j1 i hj1 hi
            rw [hq] at h1
            exact h1
          have HC1 := Lib.hid hc1
          have hcn : w7.cell? ⟨b, off + j1 * 130 + 127, none⟩ = some (.string q1.name) := hc1 127 (by omega)
          obtain ⟨NM, hNM⟩ : ∃ z, q1.name = z := ⟨_, rfl⟩
          rw [hNM] at hcn
          have HNM := Lib.hid hNM
          have hx1 := HO.out.row.cell (i := 143) (by omega)
          have hf1' := HO.out.row.frozen 143
          clear hq hq1 hf1 hc1 hNM
          go_upto_region 18 with (refine wp_ridx rfl _ _ rfl b off k c j1 rfl (by first | rfl | simp [Act.eval]) hj1 ?_)
          have HO8 := Lib.hid (show OfC w7 T0 ⟨x, q0.hd, KN, false, q1.name, none, 0, [], ⟨#[]⟩⟩ (w7.setCell ⟨T0, 143, none⟩ (.string NM)) from HO.out.put _ 143 _ rfl rfl rfl (by rw [← HNM.out]; rfl) (fun i hi h => by
              rcases h with rfl | rfl | rfl | rfl <;> first | rfl | exact absurd rfl hi) (by omega))
          obtain ⟨v8, hv8⟩ : ∃ z, w7.setCell ⟨T0, 143, none⟩ (.string NM) = z := ⟨_, rfl⟩
          rw [hv8] at HO8
          refine wp_world (w' := v8) hv8 ?_
          clear hv8 hcn hx1 hf1'
          rcases HI2.out with ⟨rfl, hf3⟩ | ⟨j2, rfl, hj2, hf3, hq2⟩
          · have HNone2 := Lib.hid hf3
            clear hf3
            go_upto_region 22 with (fail)
            obtain ⟨J, hJ⟩ : ∃ z, itV ⟨x, q0.hd, KN, false, q1.name, none, 0, [], ⟨#[]⟩⟩ = z := ⟨_, rfl⟩
            have HJ := Lib.hid hJ
            have HJs := Lib.hid (show J.size = 146 ∧ J.all (·.oneCell') = true by rw [← hJ]; exact ⟨itV_size _, itV_one _⟩)
            have HC8 := Lib.hid (show v8.heap[T0]? = some (.cells J 41 (0, 0)) by rw [← hJ]; exact rowIs_cells HO8.out.row)
            have hS1 := (Array.getElem?_eq_some_iff.1 HZy.out).1
            have HZ8 := Lib.hid (show v8.heap[S + 1]? = some (.cells ZI 41 (0, 0)) by
              have h1 := HE7.out.keep HZy.out
              rw [HO8.out.grown.block (S + 1) (Array.getElem?_eq_some_iff.1 h1).1 (fun e => by have := Option.some.inj e; have := HT0.out; omega)]
              exact h1)
            have HE8 := Lib.hid (show Ext w v8 from ext_gn (HEy.out.trans HE7.out) (by have h1 := Below.size HEy.out; rw [HT0.out] at h1; exact h1) HO8.out.grown)
            clear hJ hS1
            go_wp2_with (first | (refine wpList_load_rowW rfl 41 (.tmp 11) rfl T0 rfl _ _ _ _ HC8.out Try.underlying41 rfl (by rw [HJs.out.1]; kernel_rfl) ?_; simp only [Act.put, List.setIfInBounds_toArray, List.set_cons_zero, List.set_cons_succ]) | (refine wpList_store_row rfl 41 (.tmp 4) (.tmp 130) rfl (S + 1) _ rfl rfl _ _ HZ8.out (by rw [HJs.out.1]; kernel_rfl) (by rw [HJs.out.1, HZs.out.1]) HJs.out.2 ?_))
            refine bodyPost_ret (results_row_tmp rfl _ _ (S + 1) _ _ _ _ rfl (setRow_heap v8 (S + 1) _ _ _ _ HZ8.out) Try.underlying41 rfl (by rw [HJs.out.1]; kernel_rfl)) rfl ?_
            have hE8 : Ext w (v8.setRow (S + 1) J) := below_setRow HE8.out HSw.out J
            refine ⟨⟨x, q0.hd, KN, false, q1.name, none, 0, [], ⟨#[]⟩⟩, by rw [HJ.out, decide_eq_false HL0.out]; rfl, hE8, ⟨HRq.out.hd.ext hE8, ⟨rfl, Nat.le_refl _, (by show (0 : Nat) ≤ _; omega), (fun s (hs : s ∈ ([] : List ByteArray)) => by cases hs), (fun h => by have h0 : (0 : Nat) < 0 := h; omega)⟩, HR1.out.name, (by show (0 : Nat) ≤ _; omega)⟩, ?_⟩
            unfold Was
            rw [if_neg HL0.out]
            exact made_of HQ0.out rfl rfl HKN.out.symm (by rw [← HQ1.out]) (by rw [HNone2.out]; rfl) (by rw [if_neg Bool.false_ne_true]) (by rw [if_neg Bool.false_ne_true])
          · obtain ⟨q2, hq⟩ : ∃ z, cs.getD j2 rwN = z := ⟨_, rfl⟩
            have HR2 := Lib.hid (show RwAt w q2 by rw [← hq]; exact H.out.get hj2)
            have HQ2 := Lib.hid (show q2 = topR (pV x) cs by rw [← hq]; exact hq2)
            have HF2 := Lib.hid hf3
            have hz0 : ¬ (j2 : Int) < 0 := by omega
            have hbT : b ≠ T0 := Nat.ne_of_lt HbT.out
            have HC2 := Lib.hid (show ∀ (t : It) (z : World), OfC w7 T0 t z → ∀ i, i < 130 → z.cell? ⟨b, off + j2 * 130 + i, none⟩ = some (rwC q2 i) from fun t z hz i hi => by
              have h1 := HCl7.out j2 i hj2 hi
              rw [hq] at h1
              exact grown_cellM hz.grown h1 hbT)
            have HC1' := Lib.hid (show ∀ (t : It) (z : World), OfC w7 T0 t z → ∀ i, i < 130 → z.cell? ⟨b, off + j1 * 130 + i, none⟩ = some (rwC q1 i) from fun t z hz i hi => grown_cellM hz.grown (HC1.out i hi) hbT)
            obtain ⟨OP, hOP⟩ : ∃ z, q2.op = z := ⟨_, rfl⟩
            have HOP := Lib.hid hOP
            have hco : v8.cell? ⟨b, off + j2 * 130 + 126, none⟩ = some (.int .i64 OP) := by rw [← hOP]; exact HC2.out _ _ HO8.out 126 (by omega)
            clear hq hq2 hf3 hOP hbT
            have HPos := Lib.hid (show decide (0 < (cs.filter (pV x)).length) = true from decide_eq_true (by
              rcases Nat.eq_zero_or_pos (cs.filter (pV x)).length with h | h
              · exact absurd (List.eq_nil_of_length_eq_zero h) HF2.out
              · exact h))
            by_cases h1 : OP = 1
            · subst h1
              go_upto_region 19 with (refine wp_ridx rfl _ _ rfl b off k c j2 rfl (by first | rfl | simp [Act.eval]) hj2 ?_)
              clear hco
              have hx1 := HO8.out.row.cell (i := 142) (by omega)
              have hf1' := HO8.out.row.frozen 142
              go_upto_region 20 with (fail)
              have HO9 := Lib.hid (show OfC w7 T0 ⟨x, q0.hd, KN, true, q1.name, none, 0, [], ⟨#[]⟩⟩ (v8.setCell ⟨T0, 142, none⟩ (.bool true)) from HO8.out.put _ 142 _ rfl rfl rfl (rfl) (fun i hi h => by
                rcases h with rfl | rfl | rfl | rfl <;> first | rfl | exact absurd rfl hi) (by omega))
              obtain ⟨v9, hv8⟩ : ∃ z, v8.setCell ⟨T0, 142, none⟩ (.bool true) = z := ⟨_, rfl⟩
              rw [hv8] at HO9
              refine wp_world (w' := v9) hv8 ?_
              clear hv8 hx1 hf1'
              have hcv : v9.cell? ⟨b, off + j2 * 130 + 129, none⟩ = some (.string q2.val) := HC2.out _ _ HO9.out 129 (by omega)
              obtain ⟨VL, hVL⟩ : ∃ z, q2.val = z := ⟨_, rfl⟩
              rw [hVL] at hcv
              have HVL := Lib.hid hVL
              clear hVL
              have hx1 := HO9.out.row.cell (i := 145) (by omega)
              have hf1' := HO9.out.row.frozen 145
              go_upto_region 21 with (refine wp_ridx rfl _ _ rfl b off k c j2 rfl (by first | rfl | simp [Act.eval]) hj2 ?_)
              have HO10 := Lib.hid (show OfC w7 T0 ⟨x, q0.hd, KN, true, q1.name, none, 0, [], q2.val⟩ (v9.setCell ⟨T0, 145, none⟩ (.string VL)) from HO9.out.put _ 145 _ rfl rfl rfl (by rw [← HVL.out]; rfl) (fun i hi h => by
                rcases h with rfl | rfl | rfl | rfl <;> first | rfl | exact absurd rfl hi) (by omega))
              obtain ⟨v10, hv8⟩ : ∃ z, v9.setCell ⟨T0, 145, none⟩ (.string VL) = z := ⟨_, rfl⟩
              rw [hv8] at HO10
              refine wp_world (w' := v10) hv8 ?_
              clear hv8 hx1 hf1'
              have hct : v10.cell? ⟨b, off + j1 * 130 + 128, none⟩ = some (.slice q1.ta q1.tags.length q1.tc) := HC1'.out _ _ HO10.out 128 (by omega)
              obtain ⟨ta, hta⟩ : ∃ z, q1.ta = z := ⟨_, rfl⟩
              obtain ⟨tl, htl⟩ : ∃ z, q1.tags.length = z := ⟨_, rfl⟩
              obtain ⟨tc, htc⟩ : ∃ z, q1.tc = z := ⟨_, rfl⟩
              rw [hta, htl, htc] at hct
              have HTt := Lib.hid (And.intro hta (And.intro htl htc))
              clear hta htl htc hcv
              have hx1 := HO10.out.row.cell (i := 144) (by omega)
              have hf1' := HO10.out.row.frozen 144
              go_upto_region 22 with (refine wp_ridx rfl _ _ rfl b off k c j1 rfl (by first | rfl | simp [Act.eval]) hj1 ?_)
              have HO11 := Lib.hid (show OfC w7 T0 ⟨x, q0.hd, KN, true, q1.name, q1.ta, q1.tc, q1.tags, q2.val⟩ (v10.setCell ⟨T0, 144, none⟩ (.slice ta tl tc)) from HO10.out.put _ 144 _ rfl rfl rfl (by rw [← HTt.out.1, ← HTt.out.2.1, ← HTt.out.2.2]; rfl) (fun i hi h => by
                rcases h with rfl | rfl | rfl | rfl <;> first | rfl | exact absurd rfl hi) (by omega))
              obtain ⟨v11, hv8⟩ : ∃ z, v10.setCell ⟨T0, 144, none⟩ (.slice ta tl tc) = z := ⟨_, rfl⟩
              rw [hv8] at HO11
              refine wp_world (w' := v11) hv8 ?_
              clear hv8 hx1 hf1'
              clear hct
              obtain ⟨J, hJ⟩ : ∃ z, itV ⟨x, q0.hd, KN, true, q1.name, q1.ta, q1.tc, q1.tags, q2.val⟩ = z := ⟨_, rfl⟩
              have HJ := Lib.hid hJ
              have HJs := Lib.hid (show J.size = 146 ∧ J.all (·.oneCell') = true by rw [← hJ]; exact ⟨itV_size _, itV_one _⟩)
              have HC8 := Lib.hid (show v11.heap[T0]? = some (.cells J 41 (0, 0)) by rw [← hJ]; exact rowIs_cells HO11.out.row)
              have hS1 := (Array.getElem?_eq_some_iff.1 HZy.out).1
              have HZ8 := Lib.hid (show v11.heap[S + 1]? = some (.cells ZI 41 (0, 0)) by
                have h1 := HE7.out.keep HZy.out
                rw [HO11.out.grown.block (S + 1) (Array.getElem?_eq_some_iff.1 h1).1 (fun e => by have := Option.some.inj e; have := HT0.out; omega)]
                exact h1)
              have HE8 := Lib.hid (show Ext w v11 from ext_gn (HEy.out.trans HE7.out) (by have h1 := Below.size HEy.out; rw [HT0.out] at h1; exact h1) HO11.out.grown)
              clear hJ hS1
              go_wp2_with (first | (refine wpList_load_rowW rfl 41 (.tmp 11) rfl T0 rfl _ _ _ _ HC8.out Try.underlying41 rfl (by rw [HJs.out.1]; kernel_rfl) ?_; simp only [Act.put, List.setIfInBounds_toArray, List.set_cons_zero, List.set_cons_succ]) | (refine wpList_store_row rfl 41 (.tmp 4) (.tmp 130) rfl (S + 1) _ rfl rfl _ _ HZ8.out (by rw [HJs.out.1]; kernel_rfl) (by rw [HJs.out.1, HZs.out.1]) HJs.out.2 ?_))
              refine bodyPost_ret (results_row_tmp rfl _ _ (S + 1) _ _ _ _ rfl (setRow_heap v11 (S + 1) _ _ _ _ HZ8.out) Try.underlying41 rfl (by rw [HJs.out.1]; kernel_rfl)) rfl ?_
              have hE8 : Ext w (v11.setRow (S + 1) J) := below_setRow HE8.out HSw.out J
              refine ⟨⟨x, q0.hd, KN, true, q1.name, q1.ta, q1.tc, q1.tags, q2.val⟩, by rw [HJ.out, decide_eq_false HL0.out]; rfl, hE8, ⟨HRq.out.hd.ext hE8, HR1.out.tags.ext hE8, HR1.out.name, HR2.out.val⟩, ?_⟩
              unfold Was
              rw [if_neg HL0.out]
              exact made_of HQ0.out rfl rfl HKN.out.symm (by rw [← HQ1.out]) (by rw [HPos.out, ← HQ2.out, HOP.out]; rfl) (by rw [if_pos rfl, ← HQ1.out]) (by rw [if_pos rfl, ← HQ2.out])
            · go_upto_region 22 with (refine wp_ridx rfl _ _ rfl b off k c j2 rfl (by first | rfl | simp [Act.eval]) hj2 ?_)
              clear hco
              obtain ⟨J, hJ⟩ : ∃ z, itV ⟨x, q0.hd, KN, false, q1.name, none, 0, [], ⟨#[]⟩⟩ = z := ⟨_, rfl⟩
              have HJ := Lib.hid hJ
              have HJs := Lib.hid (show J.size = 146 ∧ J.all (·.oneCell') = true by rw [← hJ]; exact ⟨itV_size _, itV_one _⟩)
              have HC8 := Lib.hid (show v8.heap[T0]? = some (.cells J 41 (0, 0)) by rw [← hJ]; exact rowIs_cells HO8.out.row)
              have hS1 := (Array.getElem?_eq_some_iff.1 HZy.out).1
              have HZ8 := Lib.hid (show v8.heap[S + 1]? = some (.cells ZI 41 (0, 0)) by
                have h1 := HE7.out.keep HZy.out
                rw [HO8.out.grown.block (S + 1) (Array.getElem?_eq_some_iff.1 h1).1 (fun e => by have := Option.some.inj e; have := HT0.out; omega)]
                exact h1)
              have HE8 := Lib.hid (show Ext w v8 from ext_gn (HEy.out.trans HE7.out) (by have h1 := Below.size HEy.out; rw [HT0.out] at h1; exact h1) HO8.out.grown)
              clear hJ hS1
              go_wp2_with (first | (refine wpList_load_rowW rfl 41 (.tmp 11) rfl T0 rfl _ _ _ _ HC8.out Try.underlying41 rfl (by rw [HJs.out.1]; kernel_rfl) ?_; simp only [Act.put, List.setIfInBounds_toArray, List.set_cons_zero, List.set_cons_succ]) | (refine wpList_store_row rfl 41 (.tmp 4) (.tmp 130) rfl (S + 1) _ rfl rfl _ _ HZ8.out (by rw [HJs.out.1]; kernel_rfl) (by rw [HJs.out.1, HZs.out.1]) HJs.out.2 ?_))
              refine bodyPost_ret (results_row_tmp rfl _ _ (S + 1) _ _ _ _ rfl (setRow_heap v8 (S + 1) _ _ _ _ HZ8.out) Try.underlying41 rfl (by rw [HJs.out.1]; kernel_rfl)) rfl ?_
              have hE8 : Ext w (v8.setRow (S + 1) J) := below_setRow HE8.out HSw.out J
              refine ⟨⟨x, q0.hd, KN, false, q1.name, none, 0, [], ⟨#[]⟩⟩, by rw [HJ.out, decide_eq_false HL0.out]; rfl, hE8, ⟨HRq.out.hd.ext hE8, ⟨rfl, Nat.le_refl _, (by show (0 : Nat) ≤ _; omega), (fun s (hs : s ∈ ([] : List ByteArray)) => by cases hs), (fun h => by have h0 : (0 : Nat) < 0 := h; omega)⟩, HR1.out.name, (by show (0 : Nat) ≤ _; omega)⟩, ?_⟩
              unfold Was
              rw [if_neg HL0.out]
              exact made_of HQ0.out rfl rfl HKN.out.symm (by rw [← HQ1.out]) (by rw [HPos.out, ← HQ2.out, HOP.out, Bool.true_and, beq_eq_false_iff_ne.2 h1]) (by rw [if_neg Bool.false_ne_true]) (by rw [if_neg Bool.false_ne_true])

end Go.Proofs.Ytldaligeckjhaaa
