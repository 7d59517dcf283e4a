/-
  A box in ideal mode: the walks of box.New, appendBig and Box.draw. Asked: the table of 64 words lies as the text lays it.
-/
import Derived.Test.YtdgbcieopkilcaaDoorBox
import Derived.Test.YtdgbcieopkilcaaDoorNamed
namespace Go.Proofs.YtdgbcieopkilcaaDoor
open Go.ChangeShapes Go.WideShapes Go.ChangeAt Go.RowKit

/-- A box's cells, in ideal mode. -/
def boxJ (h : Nat → Int) (dr : Int) (m1 m2 m3 : Nat) (i : Nat) : Value := if i = 0 then .bool true else if i < 33 then .int .u8 (h (i - 1)) else if i = 33 then .int .u64 dr else if i = 34 then .map (some m1) else if i = 35 then .map (some m2) else .map (some m3)
theorem boxA_J (h : Nat → Int) (m1 m2 m3 : Nat) : boxA true (fun j => .int .u8 (h j)) (some m1) (some m2) (some m3) = rowArr 37 (boxJ h 0 m1 m2 m3) := rfl

theorem wp_build_boxI {ops : Array Oper} {Q : Exit → Act → World → Prop} {rest : List Oper} {o : Oper} {a : Act} {w : World} (hgd : o.guard = none) (x0 x1 x3 x4 x5 : Operand) (ho : o.op = .build 61 #[(0, x0), (1, x1), (3, x3), (4, x4), (5, x5)])
    (b : Bool) (h : Nat → Value) (m1 m2 m3 : Option Nat) (e0 : a.eval x0 = .bool b) (e1 : a.eval x1 = .agg (rowArr 32 h)) (e3 : a.eval x3 = .map m1) (e4 : a.eval x4 = .map m2) (e5 : a.eval x5 = .map m3)
    (hh : ∀ cs : Array Value, cs = boxA b h m1 m2 m3 → wpList Tryd.prog ops Q rest (a.put o.dst (.agg cs)) w) : wpList Tryd.prog ops Q (o :: rest) a w := by
  refine wpList_plain hgd fun K hK => ?_
  unfold Oper.wp execOp
  simp only [ho, List.map_toArray, List.map_cons, List.map_nil, e0, e1, e3, e4, e5, Sem.run_bind, build_boxx, Result.andThen_ok, Sem.run_pure]
  exact hK _ _ (hh _ rfl)

set_option maxHeartbeats 2000000 in
set_option maxRecDepth 100000 in
theorem boxNewI_any (f : Nat → Int) (hf : ∀ j, j < 32 → 0 ≤ f j ∧ f j < 256) (w : World) (hk : KsAt 2 w) :
    Calls Tryd.prog 8 #[.bool true, .agg (rowArr 32 fun j => .int .u8 (f j))] w fun e w' => ∃ g m1 m2 m3, e = .returned (.pointer (some ⟨g, 0, none⟩)) ∧ w'.heap[g]? = some (.cells (rowArr 37 (boxJ (dvF f (strB labDraw)) 0 m1 m2 m3)) 61 (0, 0)) ∧ w'.heap[m2]? = some (.map #[] 0) ∧ w'.heap[m3]? = some (.map #[] 0) ∧ w.heap.size ≤ m1 ∧ m1 < m2 ∧ m2 < m3 ∧ m3 < g ∧ Ext w w' := by
  have HK := Lib.hid hk
  have Hf := Lib.hid hf
  have hmm := @run_makeMap Tryd.prog
  clear hk hf
  obtain ⟨w2, hw2⟩ : ∃ w2, w.alloc (.cells (rowArr 32 fun j => .int .u8 (f j)) 23) = w2 := ⟨_, rfl⟩
  have hE2 : Ext w w2 := by rw [← hw2]; exact (Ext.refl w).alloc _
  have hR2 : w2.heap[w.heap.size]? = some (.cells (rowArr 32 fun j => .int .u8 (f j)) 23 (0, 0)) := by rw [← hw2]; exact heap_new w _ _ rfl
  have HD := Lib.hid (derive_dv f Hf.out labDraw w2 (by decide) (HK.out.ext' hE2))
  obtain ⟨D, hD⟩ : ∃ D, dvF f (strB labDraw) = D := ⟨_, rfl⟩
  rw [hD] at HD ⊢
  have Hw2 := Lib.hid hw2
  have HE2 := Lib.hid hE2
  have HC2 := Lib.hid hR2
  clear hw2 hE2 hR2 hD
  go_enter Tryd.func8, Tryd.ntmps8
  go_upto_region 1 with (fail)
  refine wp_world (w' := w2) Hw2.out ?_
  obtain ⟨g, hg⟩ : ∃ g, w.heap.size = g := ⟨_, rfl⟩
  rw [hg] at HC2 ⊢
  have Hg := Lib.hid hg
  clear hg Hw2
  go_wp2_with (refine wpList_load_row rfl 23 _ rfl g rfl _ _ _ _ HC2.out Tryd.underlying23 rfl (by kernel_rfl) ?_)
  refine HD.out.mono ?_
  rintro e w3 ⟨rfl, hE3⟩
  have HE3 := Lib.hid (HE2.out.trans hE3)
  clear hE3 HD HC2 HE2
  go_wp2_with (refine wp_build_boxI rfl _ _ _ _ _ rfl true _ _ _ _ rfl rfl rfl rfl rfl ?_)
  go_ret
  have e3 : (((w3.alloc (.map #[] 0)).alloc (.map #[] 0)).alloc (.map #[] 0)).heap.size = w3.heap.size + 1 + 1 + 1 := by simp
  have e2 : ((w3.alloc (.map #[] 0)).alloc (.map #[] 0)).heap.size = w3.heap.size + 1 + 1 := by simp
  have e1 : (w3.alloc (.map #[] 0)).heap.size = w3.heap.size + 1 := by simp
  have h4 := heap_new (((w3.alloc (.map #[] 0)).alloc (.map #[] 0)).alloc (.map #[] 0)) (.cells (boxA true (fun j => .int .u8 (D j)) (some w3.heap.size) (some (w3.heap.size + 1)) (some (w3.heap.size + 1 + 1))) 61) _ rfl
  rw [e3] at h4
  have h3 := heap_new ((w3.alloc (.map #[] 0)).alloc (.map #[] 0)) (.map #[] 0) _ rfl
  rw [e2] at h3
  have h2 := heap_new (w3.alloc (.map #[] 0)) (.map #[] 0) _ rfl
  rw [e1] at h2
  have hs := Below.size HE3.out
  refine ⟨_, w3.heap.size, w3.heap.size + 1, w3.heap.size + 1 + 1, rfl, ?_, ?_, ?_, by omega, by omega, by omega, by omega, (((HE3.out.alloc _).alloc _).alloc _).alloc _⟩
  · rw [← boxA_J]
    exact h4
  · exact Ext.keep (((Ext.refl ((w3.alloc (.map #[] 0)).alloc (.map #[] 0))).alloc _).alloc _) h2
  · exact Ext.keep ((Ext.refl (((w3.alloc (.map #[] 0)).alloc (.map #[] 0)).alloc (.map #[] 0))).alloc _) h3

set_option maxRecDepth 100000 in
theorem boxBig_any (B : Nat) (v : Value) (n : Nat) (xs : List Int) (x : Int) (w : World) (hown : w.ownsRow B 5 1 v n (bv xs)) (hB : B ≤ w.heap.size) (hn : n ≤ 140737488355000) :
    Calls Tryd.prog 60 #[v, .int .u64 x] w fun e w' => ∃ v', e = .returned v' ∧ w'.ownsRow B 5 1 v' (n + 8) (bv (xs ++ beB x 8)) ∧ Below B w w' := by
  obtain ⟨i0, hi, hz0, hz1, hz2⟩ := info_parts info_u8
  go_enter Tryd.func60, Tryd.ntmps60
  go_wp2
  go_loopw [0, 5] (fun u i wr => ∃ j : Nat, j ≤ 8 ∧ i = .int .i64 (56 - 8 * (j : Int)) ∧ wr.ownsRow B 5 1 u (n + j) (bv (xs ++ (beB x 8).take j)) ∧ Below B w wr) (fun _ i _ => (intOf i + 8).toNat)
  case atStart => exact ⟨0, by omega, by simp, by simpa using hown, Below.refl _ _⟩
  case round =>
    obtain ⟨j, hj, rfl, hown, hb⟩ := hrel
    have hs := hb.size
    by_cases hlt : j < 8
    · have hl : (bv (xs ++ (beB x 8).take j)).length = n + j := by have := hown.1; omega
      go_wp2_with (at_builtin; refine wpList_append_own _ rfl _ _ 40 rfl B 5 i0 (.int .u8 0) 1 1 Tryd.underlying40 hi hz0 hz1 hz2 rfl (by decide) _ (n + j) _ rfl (hown.alloc _) ⟨wr.heap.size, 0, none⟩ 1 1 [_] rfl rfl (cell_one_new _ _ _) ?c3 ?c4 ?c5 ?c6 ?_)
      case c3 => simp [Value.oneCell']
      case c4 => unfold maxLen; omega
      case c5 => omega
      case c6 => simp; omega
      intro v' w3 hown' hgrow _
      go_wp2
      go_roundw
      case rel =>
        refine ⟨j + 1, by omega, val_int (by omega), ?_, (hb.alloc (by omega) _).grown hgrow (by simp; omega) (fun k hk => (hown.lt k hk).1)⟩
        have e : (beB x 8).take (j + 1) = (beB x 8).take j ++ [x / 2 ^ (8 * (7 - j)) % 256] := by
          rw [take_snoc (by rw [beB_length]; omega), beB_get x 8 j hlt]
        rw [e, ← List.append_assoc, bv_append]
        have e2 : 56 - 8 * j = 8 * (7 - j) := by omega
        rw [e2] at hown'
        exact hown'
      case measure => simp [intOf]; omega
    · obtain rfl : j = 8 := by omega
      go_wp2
      go_ret
      refine ⟨_, rfl, ?_, hb⟩
      rw [List.take_of_length_le (by rw [beB_length]; omega)] at hown
      exact hown

end Go.Proofs.YtdgbcieopkilcaaDoor
