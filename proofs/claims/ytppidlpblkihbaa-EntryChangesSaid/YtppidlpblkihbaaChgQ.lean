/-
  What holds while a change is parsed. No conditions.
-/
import Derived.Test.YtppidlpblkihbaaChgPk
import Derived.Test.YtppidlpblkihbaaLexP
namespace Go.Proofs.Ytppidlpblkihbaa
open Go.ChangeShapes Go.WideShapes Go.ChangeAt Go.RowKit

def nilT : Value := .slice none 0 0
def sv (ss : List ByteArray) : List Value := ss.map Value.string
theorem sv_length (ss : List ByteArray) : (sv ss).length = ss.length := by simp [sv]
theorem info_str : (Try.prog.info? 9).map (fun i => (i.zero, i.size, i.bytes)) = some (some (.string ⟨#[]⟩), 1, 16) := by kernel_rfl

/-- One string more. -/
theorem append_str {w : World} {ops : Array Oper} {rest : List Oper} {o : Oper} {a : Act} {Q : Exit → Act → World → Prop} (hgd : o.guard = none) (s x : Operand) (ho : o.op = .call { callee := .builtin .append, args := #[s, x], argTypes := #[22, 22] })
    (B : Nat) (v : Value) (n : Nat) (ss : List ByteArray) (hs : a.eval s = v) (hown : w.ownsRow B 9 1 v n (sv ss))
    (b : Nat) (S : ByteArray) (hx : a.eval x = .slice (some ⟨b, 0, none⟩) 1 1) (hc : w.cell? ⟨b, 0, none⟩ = some (.string S)) (hsz : n ≤ 1000) (hB : B ≤ w.heap.size)
    (h : ∀ v' w', w'.ownsRow B 9 1 v' (n + 1) (sv (ss ++ [S])) → w.grownBy w' v.ownBlock → wpList Try.prog ops Q rest (a.put o.dst v') w') : wpList Try.prog ops Q (o :: rest) a w := by
  obtain ⟨i0, hi, hz0, hz1, hz2⟩ := info_parts info_str
  refine wpList_append_own w hgd s x 22 ho B 9 i0 (.string ⟨#[]⟩) 1 16 Try.underlying22 hi hz0 hz1 hz2 rfl (by decide) v n (sv ss) hs hown ⟨b, 0, none⟩ 1 1 [.string S] hx rfl ?_ (by simp [Value.oneCell']) (by unfold maxLen; omega) (by omega) hB ?_
  · intro j u hu
    cases j with
    | zero =>
      simp only [List.getElem?_cons_zero, Option.some.injEq] at hu
      subst hu
      rw [addr_add]
      exact hc
    | succ j => simp at hu
  · intro v' w' hown' hgrow _
    exact h v' w' (by unfold sv at hown' ⊢; rw [List.map_append]; exact hown') hgrow

theorem own_slice {w : World} {base e n : Nat} {v : Value} {xs : List Value} (h : w.ownsRow base e 1 v n xs) : ∃ a c, v = .slice a n c ∧ n ≤ c ∧ c ≤ maxLen := by
  rcases h.2 with ⟨rfl, rfl⟩ | ⟨g, cap, cur, rfl, _, _, h1, h2, _⟩
  · exact ⟨none, 0, rfl, Nat.le_refl _, by unfold maxLen; omega⟩
  · exact ⟨_, cap, rfl, h1, h2⟩

theorem ch_set2 {w : World} {g : Nat} {op : Int} {name : ByteArray} {tags : Value} {value : ByteArray} (h : w.heap[g]? = some (.cells (chV op name tags value) 24 (0, 0))) (v : Value) :
    (w.setCell ⟨g, 2, none⟩ v).heap[g]? = some (.cells (chV op name v value) 24 (0, 0)) := by
  simp only [World.setCell, Array.getElem?_modify, h, if_true, Option.map_some]
  rfl
theorem ch_set3 {w : World} {g : Nat} {op : Int} {name : ByteArray} {tags : Value} {value : ByteArray} (h : w.heap[g]? = some (.cells (chV op name tags value) 24 (0, 0))) (v : ByteArray) :
    (w.setCell ⟨g, 3, none⟩ (.string v)).heap[g]? = some (.cells (chV op name tags v) 24 (0, 0)) := by
  simp only [World.setCell, Array.getElem?_modify, h, if_true, Option.map_some]
  rfl
theorem ch_frozen {w : World} {g : Nat} {op : Int} {name : ByteArray} {tags : Value} {value : ByteArray} (h : w.heap[g]? = some (.cells (chV op name tags value) 24 (0, 0))) (k : Nat) : w.frozen? ⟨g, k, none⟩ = false := by
  unfold World.frozen?
  simp [h]
theorem ch_noBytes {w : World} {g : Nat} {op : Int} {name : ByteArray} {a : Option Addr} {n c : Nat} {value : ByteArray} (h : w.heap[g]? = some (.cells (chV op name (.slice a n c) value) 24 (0, 0))) : ∀ k x, w.cell? ⟨g, k, none⟩ ≠ some (.int .u8 x) := by
  intro k x
  unfold World.cell?
  simp only [h]
  by_cases hk : k < 4
  · rcases (by omega : k = 0 ∨ k = 1 ∨ k = 2 ∨ k = 3) with rfl | rfl | rfl | rfl <;> simp [chV]
  · have : (chV op name (.slice a n c) value).size = 4 := rfl
    simp [hk, this]

theorem InAt.ext {w w' : World} {g : Nat} {xs : List Int} {bad : Bool} (h : InAt w g xs bad) (hE : Ext w w') : InAt w' g xs bad := by
  obtain ⟨a, n, c, hg, hb⟩ := h
  exact ⟨a, n, c, hE.keep hg, hb.ext hE⟩

/-- What holds where k tags have been taken. -/
structure PcInv (w : World) (B r : Nat) (xs : List Int) (bad : Bool) (gI gC g2 : Nat) (O : Int) (nm : ByteArray) (k : Nat) (ak : Option Addr) (ck : Nat) (wr : World) : Prop where
  inn : InAt wr gI (tagS xs bad k).1 (tagS xs bad k).2
  blk : InBlk wr gI r
  chg : wr.heap[gC]? = some (.cells (chV O nm (.slice ak k ck) ⟨#[]⟩) 24 (0, 0))
  own : wr.ownsRow B 9 1 (.slice ak k ck) k (sv (tagsOf xs bad k))
  res : wr.heap[g2]? = some (.cells (chV 0 ⟨#[]⟩ nilT ⟨#[]⟩) 24 (0, 0))
  ext : Ext w wr
  low : B ≤ wr.heap.size

/-- What stays where the row of tags is written. -/
theorem InAt.row {w1 w2 : World} {B r gI : Nat} {ys : List Int} {bad : Bool} {row : Option Nat} (hI : InAt w1 gI ys bad) (hB : InBlk w1 gI r) (hG : w1.grownBy w2 row) (hrow : ∀ q, row = some q → B ≤ q) (hr : r < B) (hg : gI < B) : InAt w2 gI ys bad ∧ InBlk w2 gI r := by
  obtain ⟨a, n, c, hg1, hb⟩ := hI
  obtain ⟨a', n', c', v', T', fr', hg2, hr2⟩ := hB
  have hkeep : w2.heap[gI]? = w1.heap[gI]? := hG.block gI (Array.getElem?_eq_some_iff.1 hg1).1 (fun e => by have := hrow gI e.symm; omega)
  rw [hg1] at hg2
  simp only [Option.some.injEq, Obj.cells.injEq, Array.mk.injEq, List.cons.injEq, Value.slice.injEq, and_true] at hg2
  obtain ⟨⟨⟨rfl, rfl, rfl⟩, rfl⟩, rfl, rfl⟩ := hg2
  rw [hg1] at hkeep
  refine ⟨⟨a, n, c, hkeep, hb.grownO hG (fun h0 b off e e2 => ?_)⟩, a, n, c, _, _, _, hkeep, hr2⟩
  have h1 := hr2 b off e h0
  have h2 := hrow b e2.symm
  omega

theorem PcInv.step {w wr w1 w2 : World} {B r : Nat} {xs : List Int} {bad : Bool} {gI gC g2 : Nat} {O : Int} {nm : ByteArray} {k : Nat} {ak : Option Addr} {ck : Nat} (h : PcInv w B r xs bad gI gC g2 O nm k ak ck wr)
    (hlo : w.heap.size ≤ gI ∧ w.heap.size ≤ gC ∧ w.heap.size ≤ B ∧ gI < B ∧ gC < B ∧ g2 < B ∧ r < B ∧ gC ≠ g2 ∧ gC ≠ gI ∧ g2 ≠ gI)
    (hG : wr.grownBy w1 (some gI)) (hS : InSame wr w1 gI) (hI : InAt w1 gI (tagS xs bad (k + 1)).1 (tagS xs bad (k + 1)).2)
    {a2 : Option Addr} {c2 : Nat} (hown : w2.ownsRow B 9 1 (.slice a2 (k + 1) c2) (k + 1) (sv (tagsOf xs bad (k + 1)))) (hG2 : w1.grownBy w2 (Value.slice ak k ck).ownBlock) :
    w2.cell? ⟨gC, 2, none⟩ = some (.slice ak k ck) ∧ w2.frozen? ⟨gC, 2, none⟩ = false ∧ PcInv w B r xs bad gI gC g2 O nm (k + 1) a2 c2 (w2.setCell ⟨gC, 2, none⟩ (.slice a2 (k + 1) c2)) := by
  obtain ⟨l1, l2, l3, l4, l5, l6, l7, l8, l9, l10⟩ := hlo
  obtain ⟨hinn, hblk, hchg, how, hres, hext, hlow⟩ := h
  have hrow : ∀ q, (Value.slice ak k ck).ownBlock = some q → B ≤ q := fun q hq => (how.lt q hq).1
  have k1 : w1.heap[gC]? = some (.cells (chV O nm (.slice ak k ck) ⟨#[]⟩) 24 (0, 0)) := by
    rw [hG.block gC (Array.getElem?_eq_some_iff.1 hchg).1 (fun e => l9 (Option.some.inj e))]
    exact hchg
  have k2 : w2.heap[gC]? = some (.cells (chV O nm (.slice ak k ck) ⟨#[]⟩) 24 (0, 0)) := by
    rw [hG2.block gC (Array.getElem?_eq_some_iff.1 k1).1 (fun e => by have := hrow gC e.symm; omega)]
    exact k1
  have m1 : w1.heap[g2]? = some (.cells (chV 0 ⟨#[]⟩ nilT ⟨#[]⟩) 24 (0, 0)) := by
    rw [hG.block g2 (Array.getElem?_eq_some_iff.1 hres).1 (fun e => l10 (Option.some.inj e))]
    exact hres
  have m2 : w2.heap[g2]? = some (.cells (chV 0 ⟨#[]⟩ nilT ⟨#[]⟩) 24 (0, 0)) := by
    rw [hG2.block g2 (Array.getElem?_eq_some_iff.1 m1).1 (fun e => by have := hrow g2 e.symm; omega)]
    exact m1
  obtain ⟨i2, b2⟩ := hI.row (hS r hblk) hG2 hrow l7 l4
  have hnb := ch_noBytes k2
  have hG3 : w2.grownBy (w2.setCell ⟨gC, 2, none⟩ (.slice a2 (k + 1) c2)) (some gC) := grown_setCell (World.grownBy.refl w2 _) rfl _
  have e1 : Ext w w1 := Below.grown hext hG (Below.size hext) (fun q e => by have := Option.some.inj e; omega)
  have e2 : Ext w w2 := Below.grown e1 hG2 (Below.size e1) (fun q e => by have := hrow q e; omega)
  refine ⟨(ch_cell k2).2.2.1, ch_frozen k2 _, ?_, ?_, ch_set2 k2 _, ?_, ?_, Below.setCell e2 l2 _, ?_⟩
  · obtain ⟨a, n, c, hg1, hb⟩ := i2
    refine ⟨a, n, c, ?_, hb.beside hG3 hnb⟩
    rw [hG3.block gI (Array.getElem?_eq_some_iff.1 hg1).1 (fun e => l9 (Option.some.inj e).symm)]
    exact hg1
  · obtain ⟨a, n, c, v, T, fr, hg1, hr1⟩ := b2
    refine ⟨a, n, c, v, T, fr, ?_, hr1⟩
    rw [hG3.block gI (Array.getElem?_eq_some_iff.1 hg1).1 (fun e => l9 (Option.some.inj e).symm)]
    exact hg1
  · refine hown.kept hG3 ?_
    cases hv : (Value.slice a2 (k + 1) c2).ownBlock with
    | none => exact .inl rfl
    | some q => exact .inr (fun e => by have h5 := (hown.lt q hv).1; have h6 := Option.some.inj e; omega)
  · rw [hG3.block g2 (Array.getElem?_eq_some_iff.1 m2).1 (fun e => l8 (Option.some.inj e).symm)]
    exact m2
  · have h1 := hG.size
    have h2 := hG2.size
    have h3 := hG3.size
    omega

theorem own_ss {w : World} {B : Nat} {a : Option Addr} {n c : Nat} {ss : List ByteArray} (h : w.ownsRow B 9 1 (.slice a n c) n (sv ss)) (hn : n ≤ 1000) : SsAt w a n c ss := by
  have hl := h.1
  rw [sv_length, Nat.mul_one] at hl
  have h2 := own_slice h
  obtain ⟨a', c', he, h3, h4⟩ := h2
  simp only [Value.slice.injEq, true_and] at he
  obtain ⟨rfl, rfl⟩ := he
  refine ⟨hl, h3, by unfold maxLen at h4; omega, by omega, fun h0 => ?_⟩
  rcases h.2 with ⟨h5, h6⟩ | ⟨g, cap, cur, h5, _⟩
  · omega
  · simp only [Value.slice.injEq, true_and] at h5
    obtain ⟨rfl, rfl⟩ := h5
    refine ⟨g, 0, rfl, fun i hi => ?_⟩
    have h6 := h.cellAt i (by omega)
    rw [Nat.zero_add, h6, sv, List.getElem?_map, List.getElem?_eq_getElem (by omega)]
    simp [List.getD_eq_getElem?_getD, List.getElem?_eq_getElem (show i < ss.length by omega)]

theorem SsAt.grown {w w' : World} {a : Option Addr} {n c g : Nat} {ss : List ByteArray} (h : SsAt w a n c ss) (hG : w.grownBy w' (some g)) (hne : 0 < n → ∀ b off, a = some ⟨b, off, none⟩ → b ≠ g) : SsAt w' a n c ss := by
  refine ⟨h.len, h.cap, h.lim, h.small, fun h0 => ?_⟩
  obtain ⟨b, off, ha, hc⟩ := h.at_ h0
  exact ⟨b, off, ha, fun i hi => World.grownBy.cell hG (hc i hi) (fun e => hne h0 b off ha (Option.some.inj e))⟩
theorem SsAt.clip {w : World} {a : Option Addr} {n c : Nat} {ss : List ByteArray} (h : SsAt w a n c ss) : SsAt w a n n ss := ⟨h.len, Nat.le_refl _, by have := h.small; omega, h.small, h.at_⟩

set_option maxRecDepth 100000 in
theorem build_ch (w : World) (op : Int) (name : ByteArray) : (Instr.build 24 #[(0, .int .i64 op), (1, .string name)]).run Try.prog w = .ok (.agg (chV op name nilT ⟨#[]⟩)) w := by kernel_rfl
set_option maxRecDepth 100000 in
theorem build_ch0 (w : World) : (Instr.build 24 #[]).run Try.prog w = .ok (.agg (chV 0 ⟨#[]⟩ nilT ⟨#[]⟩)) w := by kernel_rfl

set_option maxRecDepth 100000 in
theorem clip_any (a : Option Addr) (n c : Nat) (w : World) (hn : n ≤ c) : Calls Try.prog 37 #[.slice a n c] w fun e w' => e = .returned (.slice a n n) ∧ w' = w := by
  have x1 : (n : Int) ≤ (c : Int) := by omega
  have x2 : (0 : Int) ≤ (n : Int) := by omega
  go_enter Try.func37, Try.ntmps37
  go_wp2_with fail
  go_ret
  exact ⟨rfl, rfl⟩

/-- A change as it lies in memory. -/
def ChAt (w : World) (v : Value) (op : Int) (name : ByteArray) (ss : List ByteArray) (value : ByteArray) : Prop :=
  ∃ ta tn tc, v = .agg (chV op name (.slice ta tn tc) value) ∧ SsAt w ta tn tc ss

end Go.Proofs.Ytppidlpblkihbaa
