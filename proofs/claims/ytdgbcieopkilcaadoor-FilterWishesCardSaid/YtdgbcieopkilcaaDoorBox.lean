/-
  The walk of box.New in real mode. Asked: the table of 64 words lies as the text lays it.
-/
import Derived.Test.YtdgbcieopkilcaaDoorKeyB
namespace Go.Proofs.YtdgbcieopkilcaaDoor
open Go.ChangeShapes Go.WideShapes Go.ChangeAt Go.RowKit

/-- The label "jalousie draw". -/
def labDraw : ByteArray := ⟨#[106, 97, 108, 111, 117, 115, 105, 101, 32, 100, 114, 97, 119]⟩
/-- A box's cells. -/
def boxA (b : Bool) (h : Nat → Value) (m1 m2 m3 : Option Nat) : Array Value := rowArr 37 fun i => if i = 0 then .bool b else if i < 33 then h (i - 1) else if i = 33 then .int .u64 0 else if i = 34 then .map m1 else if i = 35 then .map m2 else .map m3
set_option maxRecDepth 100000 in
theorem build_boxx (w : World) (b : Bool) (h : Nat → Value) (m1 m2 m3 : Option Nat) : (Instr.build 61 #[(0, .bool b), (1, .agg (rowArr 32 h)), (3, .map m1), (4, .map m2), (5, .map m3)]).run Tryd.prog w = .ok (.agg (boxA b h m1 m2 m3)) w := by kernel_rfl

theorem wp_build_box {ops : Array Oper} {Q : Exit → Act → World → Prop} {rest : List Oper} {o : Oper} {a : Act} {w : World} (hgd : o.guard = none) (x0 x1 x3 x4 x5 : Operand) (ho : o.op = .build 61 #[(0, x0), (1, x1), (3, x3), (4, x4), (5, x5)])
    (b : Bool) (h : Nat → Value) (m1 m2 m3 : Option Nat) (e0 : a.eval x0 = .bool b) (e1 : a.eval x1 = .agg (rowArr 32 h)) (e3 : a.eval x3 = .map m1) (e4 : a.eval x4 = .map m2) (e5 : a.eval x5 = .map m3)
    (hh : ∀ cs : Array Value, cs[0]? = some (.bool b) → wpList Tryd.prog ops Q rest (a.put o.dst (.agg cs)) w) : wpList Tryd.prog ops Q (o :: rest) a w := by
  refine wpList_plain hgd fun K hK => ?_
  unfold Oper.wp execOp
  simp only [ho, List.map_toArray, List.map_cons, List.map_nil, e0, e1, e3, e4, e5, Sem.run_bind, build_boxx, Result.andThen_ok, Sem.run_pure]
  exact hK _ _ (hh _ rfl)

set_option maxHeartbeats 1000000 in
set_option maxRecDepth 100000 in
theorem boxNew_new (f : Nat → Int) (hf : ∀ j, j < 32 → 0 ≤ f j ∧ f j < 256) (w : World) (hk : KsAt 2 w) :
    Calls Tryd.prog 8 #[.bool false, .agg (rowArr 32 fun j => .int .u8 (f j))] w fun e w' => ∃ g, e = .returned (.pointer (some ⟨g, 0, none⟩)) ∧ w'.cell? ⟨g, 0, none⟩ = some (.bool false) ∧ Ext w w' ∧ w.heap.size ≤ g := by
  have HK := Lib.hid hk
  have Hf := Lib.hid hf
  have hmm := @run_makeMap Tryd.prog
  clear hk hf
  obtain ⟨w2, hw2⟩ : ∃ w2, w.alloc (.cells (rowArr 32 fun j => .int .u8 (f j)) 23) = w2 := ⟨_, rfl⟩
  have hE2 : Ext w w2 := by rw [← hw2]; exact (Ext.refl w).alloc _
  have hR2 : w2.heap[w.heap.size]? = some (.cells (rowArr 32 fun j => .int .u8 (f j)) 23 (0, 0)) := by rw [← hw2]; exact heap_new w _ _ rfl
  have HD := Lib.hid (derive_dv f Hf.out labDraw w2 (by decide) (HK.out.ext' hE2))
  have Hw2 := Lib.hid hw2
  have HE2 := Lib.hid hE2
  have HC2 := Lib.hid hR2
  clear hw2 hE2 hR2
  go_enter Tryd.func8, Tryd.ntmps8
  go_upto_region 1 with (fail)
  refine wp_world (w' := w2) Hw2.out ?_
  obtain ⟨g, hg⟩ : ∃ g, w.heap.size = g := ⟨_, rfl⟩
  rw [hg] at HC2 ⊢
  clear hg Hw2
  go_wp2_with (refine wpList_load_row rfl 23 _ rfl g rfl _ _ _ _ HC2.out Tryd.underlying23 rfl (by kernel_rfl) ?_)
  refine HD.out.mono ?_
  rintro e w3 ⟨rfl, hE3⟩
  have HE3 := Lib.hid (HE2.out.trans hE3)
  clear hE3 HD HC2 HE2
  go_wp2_with (refine wp_build_box rfl _ _ _ _ _ rfl false _ _ _ _ rfl rfl rfl rfl rfl ?_)
  intro cs hcs
  have Hcs := Lib.hid hcs
  clear hcs
  go_wp2_with fail
  go_ret
  refine ⟨_, rfl, ?_, (((HE3.out.alloc _).alloc _).alloc _).alloc _, by have := HE3.out.size; simp; omega⟩
  unfold World.cell?
  have e3 : (((w3.alloc (.map #[] 0)).alloc (.map #[] 0)).alloc (.map #[] 0)).heap.size = w3.heap.size + 1 + 1 + 1 := by simp
  have h4 := heap_new (((w3.alloc (.map #[] 0)).alloc (.map #[] 0)).alloc (.map #[] 0)) (.cells cs 61) _ rfl
  rw [e3] at h4
  simp only [h4]
  exact Hcs.out
theorem boxNew_any (f : Nat → Int) (hf : ∀ j, j < 32 → 0 ≤ f j ∧ f j < 256) (w : World) (hk : KsAt 2 w) :
    Calls Tryd.prog 8 #[.bool false, .agg (rowArr 32 fun j => .int .u8 (f j))] w fun e w' => ∃ g, e = .returned (.pointer (some ⟨g, 0, none⟩)) ∧ w'.cell? ⟨g, 0, none⟩ = some (.bool false) ∧ Ext w w' :=
  (boxNew_new f hf w hk).mono fun _ _ ⟨g, h1, h2, h3, _⟩ => ⟨g, h1, h2, h3⟩

end Go.Proofs.YtdgbcieopkilcaaDoor
