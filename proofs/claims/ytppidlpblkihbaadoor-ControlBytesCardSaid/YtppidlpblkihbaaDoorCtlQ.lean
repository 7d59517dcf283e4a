/-
  The walk of control.Parse. No conditions.
-/
import Derived.Test.YtppidlpblkihbaaDoorFormed
import Derived.Test.YtppidlpblkihbaaDoorCtlP
namespace Go.Proofs.YtppidlpblkihbaaDoor
open Go.ChangeShapes Go.WideShapes Go.ChangeAt Go.RowKit

/-- A control as it lies in memory. -/
def CtlAt (w : World) (v : Value) (c : Ctl) : Prop :=
  ∃ (A : Nat → Option Addr) (l C : Nat → Nat) (ha : Option Addr) (hl hc : Nat), v = .agg (ctlV c.op c.mem c.cut (fun i => .slice (A i) (l i) (C i)) (.slice ha hl hc)) ∧ (∀ i, i < 6 → BsAt w (A i) (l i) (C i) (c.slots i)) ∧ BsAt w ha hl hc c.hand

def nilV : Value := .slice none 0 0

theorem ctl_set {w : World} {g : Nat} {op mem cut : Int} {s : Nat → Value} {hand : Value} (h : w.heap[g]? = some (.cells (ctlV op mem cut s hand) 45 (0, 0))) (k : Nat) (hk : k < 6) (v : Value) :
    (w.setCell ⟨g, 3 + k, none⟩ v).heap[g]? = some (.cells (ctlV op mem cut (fun i => if i = k then v else s i) hand) 45 (0, 0)) := by
  simp only [World.setCell, Array.getElem?_modify, h, if_true, Option.map_some]
  rcases (by omega : k = 0 ∨ k = 1 ∨ k = 2 ∨ k = 3 ∨ k = 4 ∨ k = 5) with rfl | rfl | rfl | rfl | rfl | rfl <;> rfl

theorem ctl_set9 {w : World} {g : Nat} {op mem cut : Int} {s : Nat → Value} {hand : Value} (h : w.heap[g]? = some (.cells (ctlV op mem cut s hand) 45 (0, 0))) (v : Value) :
    (w.setCell ⟨g, 9, none⟩ v).heap[g]? = some (.cells (ctlV op mem cut s v) 45 (0, 0)) := by
  simp only [World.setCell, Array.getElem?_modify, h, if_true, Option.map_some]
  rfl

theorem ctl_noBytes {w : World} {g : Nat} {op mem cut : Int} {s : Nat → Value} {hand : Value} (h : w.heap[g]? = some (.cells (ctlV op mem cut s hand) 45 (0, 0))) (hs : ∀ i x, s i ≠ .int .u8 x) (hh : ∀ x, hand ≠ .int .u8 x) : ∀ k x, w.cell? ⟨g, k, none⟩ ≠ some (.int .u8 x) := by
  intro k x
  unfold World.cell?
  simp only [h]
  by_cases hk : k < 10
  · rcases (by omega : k = 0 ∨ k = 1 ∨ k = 2 ∨ k = 3 ∨ k = 4 ∨ k = 5 ∨ k = 6 ∨ k = 7 ∨ k = 8 ∨ k = 9) with rfl | rfl | rfl | rfl | rfl | rfl | rfl | rfl | rfl | rfl <;> simp [ctlV, hs, hh]
  · have : (ctlV op mem cut s hand).size = 10 := rfl
    simp [hk, this]

theorem ctl_frozen {w : World} {g : Nat} {op mem cut : Int} {s : Nat → Value} {hand : Value} (h : w.heap[g]? = some (.cells (ctlV op mem cut s hand) 45 (0, 0))) (k : Nat) : w.frozen? ⟨g, k, none⟩ = false := by
  unfold World.frozen?
  simp [h]

/-- What holds where k slots have been taken. -/
structure PInv (w : World) (xs : List Int) (bad : Bool) (gI gC g2 : Nat) (O M K : Int) (k : Nat) (wr : World) : Prop where
  inn : InAt wr gI (slotS xs bad k).1 (slotS xs bad k).2
  slots : ∃ (A : Nat → Option Addr) (l C : Nat → Nat), wr.heap[gC]? = some (.cells (ctlV O M K (fun i => if i < k then .slice (A i) (l i) (C i) else nilV) nilV) 45 (0, 0)) ∧ ∀ i, i < k → BsAt wr (A i) (l i) (C i) (slotX xs bad i)
  res : wr.heap[g2]? = some (.cells (ctlV 0 0 0 (fun _ => nilV) nilV) 45 (0, 0))
  ext : Ext w wr

theorem PInv.step {w wr w' : World} {xs : List Int} {bad : Bool} {gI gC g2 : Nat} {O M K : Int} {k : Nat} (h : PInv w xs bad gI gC g2 O M K k wr) (hk : k < 6) (hne : gC ≠ g2) (hlo : w.heap.size ≤ gI ∧ w.heap.size ≤ gC)
    {a : Option Addr} {n c : Nat} (hb : BsAt w' a n c (slotX xs bad k)) (hI : InAt w' gI (slotS xs bad (k + 1)).1 (slotS xs bad (k + 1)).2) (hG : wr.grownBy w' (some gI)) :
    w'.cell? ⟨gC, 3 + k, none⟩ = some nilV ∧ w'.frozen? ⟨gC, 3 + k, none⟩ = false ∧ PInv w xs bad gI gC g2 O M K (k + 1) (w'.setCell ⟨gC, 3 + k, none⟩ (.slice a n c)) := by
  obtain ⟨⟨a0, n0, c0, hg0, hb0⟩, ⟨A, l, C, hblk, hbs⟩, hres, hext⟩ := h
  have hneI : gC ≠ gI := by
    intro e
    subst e
    rw [hg0] at hblk
    simp at hblk
  have hneI2 : g2 ≠ gI := by
    intro e
    subst e
    rw [hg0] at hres
    simp at hres
  have hblk' : w'.heap[gC]? = some (.cells (ctlV O M K (fun i => if i < k then .slice (A i) (l i) (C i) else nilV) nilV) 45 (0, 0)) := by
    rw [hG.block gC (Array.getElem?_eq_some_iff.1 hblk).1 (fun e => hneI (Option.some.inj e))]
    exact hblk
  have hres' : w'.heap[g2]? = some (.cells (ctlV 0 0 0 (fun _ => nilV) nilV) 45 (0, 0)) := by
    rw [hG.block g2 (Array.getElem?_eq_some_iff.1 hres).1 (fun e => hneI2 (Option.some.inj e))]
    exact hres
  have hnb := ctl_noBytes hblk' (fun i x => by by_cases h : i < k <;> simp [h, nilV]) (fun x => by simp [nilV])
  have hG2 : w'.grownBy (w'.setCell ⟨gC, 3 + k, none⟩ (.slice a n c)) (some gC) := grown_setCell (World.grownBy.refl w' _) rfl _
  have hcell := (ctl_cell hblk').2.2.2.1 k hk
  refine ⟨by simpa using hcell, ctl_frozen hblk' _, ?_, ?_, ?_, ?_⟩
  · obtain ⟨a1, n1, c1, hg1, hb1⟩ := hI
    refine ⟨a1, n1, c1, ?_, hb1.beside hG2 hnb⟩
    rw [hG2.block gI (Array.getElem?_eq_some_iff.1 hg1).1 (fun e => hneI (Option.some.inj e).symm)]
    exact hg1
  · refine ⟨fun i => if i = k then a else A i, fun i => if i = k then n else l i, fun i => if i = k then c else C i, ?_, fun i hi => ?_⟩
    · rw [ctl_set hblk' k hk]
      congr 3
      funext i
      by_cases h1 : i = k
      · subst h1
        simp
      · have : i < k + 1 ↔ i < k := by omega
        simp [h1, this]
    · by_cases h1 : i = k
      · subst h1
        simpa using hb.beside hG2 hnb
      · simp only [h1, if_false]
        exact ((hbs i (by omega)).beside hG (in_noBytes hg0)).beside hG2 hnb
  · rw [hG2.block g2 (Array.getElem?_eq_some_iff.1 hres').1 (fun e => hne (Option.some.inj e).symm)]
    exact hres'
  · have h1 : Ext w w' := Below.grown hext hG (Below.size hext) (fun k e => by have := Option.some.inj e; omega)
    exact Below.setCell h1 hlo.2 _

/-- What holds where all has been taken. -/
structure PEnd (w : World) (xs : List Int) (bad : Bool) (hd xs4 : List Int) (b4 : Bool) (gI gC g2 : Nat) (O M K : Int) (A : Nat → Option Addr) (l C : Nat → Nat) (ha : Option Addr) (hl hc : Nat) (wr : World) : Prop where
  inn : InAt wr gI xs4 b4
  blk : wr.heap[gC]? = some (.cells (ctlV O M K (fun i => .slice (A i) (l i) (C i)) (.slice ha hl hc)) 45 (0, 0))
  slots : ∀ i, i < 6 → BsAt wr (A i) (l i) (C i) (slotX xs bad i)
  hand : BsAt wr ha hl hc hd
  res : wr.heap[g2]? = some (.cells (ctlV 0 0 0 (fun _ => nilV) nilV) 45 (0, 0))
  ext : Ext w wr

theorem PInv.fin {w wr w' : World} {xs hd xs4 : List Int} {bad b4 : Bool} {gI gC g2 : Nat} {O M K : Int} (h : PInv w xs bad gI gC g2 O M K 6 wr) (hne : gC ≠ g2) (hlo : w.heap.size ≤ gI ∧ w.heap.size ≤ gC)
    {a : Option Addr} {n c : Nat} (hb : BsAt w' a n c hd) (hI : InAt w' gI xs4 b4) (hG : wr.grownBy w' (some gI)) :
    w'.cell? ⟨gC, 9, none⟩ = some nilV ∧ w'.frozen? ⟨gC, 9, none⟩ = false ∧ ∃ A l C, PEnd w xs bad hd xs4 b4 gI gC g2 O M K A l C a n c (w'.setCell ⟨gC, 9, none⟩ (.slice a n c)) := by
  obtain ⟨⟨a0, n0, c0, hg0, hb0⟩, ⟨A, l, C, hblk, hbs⟩, hres, hext⟩ := h
  have hneI : gC ≠ gI := by
    intro e
    subst e
    rw [hg0] at hblk
    simp at hblk
  have hneI2 : g2 ≠ gI := by
    intro e
    subst e
    rw [hg0] at hres
    simp at hres
  have hblk' : w'.heap[gC]? = some (.cells (ctlV O M K (fun i => .slice (A i) (l i) (C i)) nilV) 45 (0, 0)) := by
    rw [hG.block gC (Array.getElem?_eq_some_iff.1 hblk).1 (fun e => hneI (Option.some.inj e))]
    exact hblk
  have hres' : w'.heap[g2]? = some (.cells (ctlV 0 0 0 (fun _ => nilV) nilV) 45 (0, 0)) := by
    rw [hG.block g2 (Array.getElem?_eq_some_iff.1 hres).1 (fun e => hneI2 (Option.some.inj e))]
    exact hres
  have hnb := ctl_noBytes hblk' (fun i x => by simp) (fun x => by simp [nilV])
  have hG2 : w'.grownBy (w'.setCell ⟨gC, 9, none⟩ (.slice a n c)) (some gC) := grown_setCell (World.grownBy.refl w' _) rfl _
  refine ⟨(ctl_cell hblk').2.2.2.2, ctl_frozen hblk' _, A, l, C, ?_, ctl_set9 hblk' _, fun i hi => ((hbs i hi).beside hG (in_noBytes hg0)).beside hG2 hnb, hb.beside hG2 hnb, ?_, ?_⟩
  · obtain ⟨a1, n1, c1, hg1, hb1⟩ := hI
    refine ⟨a1, n1, c1, ?_, hb1.beside hG2 hnb⟩
    rw [hG2.block gI (Array.getElem?_eq_some_iff.1 hg1).1 (fun e => hneI (Option.some.inj e).symm)]
    exact hg1
  · rw [hG2.block g2 (Array.getElem?_eq_some_iff.1 hres').1 (fun e => hne (Option.some.inj e).symm)]
    exact hres'
  · have h1 : Ext w w' := Below.grown hext hG (Below.size hext) (fun k e => by have := Option.some.inj e; omega)
    exact Below.setCell h1 hlo.2 _

theorem numP_bd {xs : List Int} {bad : Bool} {most : Int} (hb : ∀ c ∈ xs, 0 ≤ c ∧ c < 256) (h0 : 0 ≤ most) : 0 ≤ (numP xs bad most).1 ∧ (numP xs bad most).1 ≤ most := by
  unfold numP
  split
  · exact ⟨Int.le_refl _, h0⟩
  · rename_i hn
    rw [not_or, not_or] at hn
    have := numT_back hb (x := (numT xs).1) (m := (numT xs).2) rfl (by omega)
    exact ⟨this.1, by omega⟩

set_option maxRecDepth 100000 in
theorem build_ctl (w : World) (op mem cut : Int) : (Instr.build 45 #[(0, .int .i64 op), (1, .int .i64 mem), (2, .int .u64 cut)]).run Tryd.prog w = .ok (.agg (ctlV op mem cut (fun _ => nilV) nilV)) w := by kernel_rfl
set_option maxRecDepth 100000 in
theorem build_ctl0 (w : World) : (Instr.build 45 #[]).run Tryd.prog w = .ok (.agg (ctlV 0 0 0 (fun _ => nilV) nilV)) w := by kernel_rfl

end Go.Proofs.YtppidlpblkihbaaDoor
