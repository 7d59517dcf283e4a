/-
  The walk of jalousielaw11.awake: it answers true. Asked: the table of 64 words lies as the text lays it.
-/
import Derived.Test.YtdgbcieopkilcaaDoorSorted
import Derived.Test.YtdgbcieopkilcaaDoorFirst
namespace Go.Proofs.YtdgbcieopkilcaaDoor
open Go.ChangeShapes Go.WideShapes Go.ChangeAt Go.RowKit

theorem one_set : (rowArr 32 fun _ => Value.int .u8 0).setIfInBounds 0 (.int .u8 1) = rowArr 32 (fun j => .int .u8 (oneF j)) := by kernel_rfl
theorem one_size : (rowArr 32 fun _ => Value.int .u8 0).size = 32 := rfl
theorem one_byte : ∀ j, j < 32 → 0 ≤ oneF j ∧ oneF j < 256 := fun j _ => by unfold oneF; split <;> omega
theorem zeroF_byte : ∀ j, j < 32 → 0 ≤ zeroF j ∧ zeroF j < 256 := fun j _ => by unfold zeroF; omega
def twoF : Nat → Int := fun j => if j = 0 then 2 else 0
theorem zero_tok (w : World) : (zeroValue 35).run Tryd.prog w = .ok (.agg (rowArr 16 fun _ => .int .u8 0)) w := by kernel_rfl
theorem tok1_set : (rowArr 16 fun _ => Value.int .u8 0).setIfInBounds 0 (.int .u8 1) = rowArr 16 (fun j => .int .u8 (oneF j)) := by kernel_rfl
theorem tok2_set : (rowArr 16 fun _ => Value.int .u8 0).setIfInBounds 0 (.int .u8 2) = rowArr 16 (fun j => .int .u8 (twoF j)) := by kernel_rfl
theorem tok_size : (rowArr 16 fun _ => Value.int .u8 0).size = 16 := rfl

def bothF : Nat → Int := fun j => if j < 16 then oneF j else twoF (j - 16)
set_option maxRecDepth 100000 in
theorem build_toks (w : World) : (Instr.buildSlice 32 2 #[(0, .agg (rowArr 16 fun j => .int .u8 (oneF j))), (1, .agg (rowArr 16 fun j => .int .u8 (twoF j)))]).run Tryd.prog w = .ok (.slice (some ⟨w.heap.size, 0, none⟩) 2 2) (w.alloc (.cells (rowArr 32 fun j => .int .u8 (bothF j)) 35)) := by
  kernel_rfl

theorem toks_at (w : World) : TsAt (w.alloc (.cells (rowArr 32 fun j => .int .u8 (bothF j)) 35)) (some ⟨w.heap.size, 0, none⟩) 2 2 [oneF, twoF] := by
  have hR := rowIs_of (heap_new w (.cells (rowArr 32 fun j => .int .u8 (bothF j)) 35) _ rfl)
  refine ⟨rfl, by omega, by omega, by omega, fun t ht j hj => ?_, fun _ => ⟨_, 0, rfl, fun i hi j hj => ?_⟩, fun h => by cases h⟩
  · rcases List.mem_cons.1 ht with rfl | ht
    · exact one_byte j (by omega)
    · obtain rfl : t = twoF := by simpa using ht
      unfold twoF
      split <;> omega
  · rw [Nat.zero_add, hR.cell (by omega)]
    rcases (by omega : i = 0 ∨ i = 1) with rfl | rfl
    · rw [Nat.zero_mul, Nat.zero_add]
      unfold bothF
      rw [if_pos hj]
      rfl
    · unfold bothF
      rw [if_neg (by omega), show 1 * 16 + j - 16 = j by omega]
      rfl

theorem rises_two : risesB [oneF, twoF] = true := by kernel_rfl

theorem eql_same11 (w : World) (f : Nat → Int) : (binOp .eql 23 (.agg (rowArr 32 fun j => .int .u8 (f j))) (.agg (rowArr 32 fun j => .int .u8 (f j)))).run Tryd.prog w = .ok (.bool true) w := by
  rw [run_eql_arr w 23 5 32 .u8 Tryd.underlying23 Tryd.underlying5 size_byte11 f f]
  simp

theorem neq_first (w : World) (f g : Nat → Int) (h : f 0 ≠ g 0) : (binOp .neq 23 (.agg (rowArr 32 fun j => .int .u8 (f j))) (.agg (rowArr 32 fun j => .int .u8 (g j)))).run Tryd.prog w = .ok (.bool true) w := by
  rw [run_neq_arr w 23 5 32 .u8 Tryd.underlying23 Tryd.underlying5 size_byte11 f g]
  rw [decide_eq_false (fun hn => h (hn 0 (by omega)))]
  rfl

set_option maxRecDepth 100000 in
theorem field_body (w : World) (f : Nat → Int) : (Instr.field 30 (.agg (rowArr 128 (ofV f))) 0).run Tryd.prog w = .ok (.agg (rowArr 32 fun j => .int .u8 (dvF f (strB labBody) j))) w := by kernel_rfl

theorem wp_build_toks {ops : Array Oper} {Q : Exit → Act → World → Prop} {rest : List Oper} {o : Oper} {a : Act} {w : World} (hw : Region.wanted o (yielded ops a.tmps) = true) (x y : Operand) (ho : o.op = .buildSlice 32 2 #[(0, x), (1, y)])
    (hx : a.eval x = .agg (rowArr 16 fun j => .int .u8 (oneF j))) (hy : a.eval y = .agg (rowArr 16 fun j => .int .u8 (twoF j)))
    (h : wpList Tryd.prog ops Q rest (a.put o.dst (.slice (some ⟨w.heap.size, 0, none⟩) 2 2)) (w.alloc (.cells (rowArr 32 fun j => .int .u8 (bothF j)) 35))) : wpList Tryd.prog ops Q (o :: rest) a w := by
  refine wpList_want hw fun K hK => ?_
  unfold Oper.wp execOp
  simp only [ho, List.map_toArray, List.map_cons, List.map_nil, hx, hy, Sem.run_bind, build_toks, Result.andThen_ok, Sem.run_pure]
  exact hK _ _ h

set_option maxHeartbeats 1000000 in
set_option maxRecDepth 100000 in
theorem awake11_any (w : World) (hk : KsAt 2 w) : Calls Tryd.prog 6 #[] w fun e w' => e = .returned (.bool true) ∧ Ext w w' := by
  have HK := Lib.hid hk
  have hz := zero_hash
  have hs := one_size
  have hs1 := one_set
  have hzt := zero_tok
  have hst := tok_size
  have ht1 := tok1_set
  have ht2 := tok2_set
  have hfb := field_body
  have kne := fun w => neq_first w (fun j => dvF zeroF (strB labBody) j) (fun j => dvF oneF (strB labBody) j) (by show dvF zeroF (strB labBody) 0 ≠ dvF oneF (strB labBody) 0; rw [body0, body1]; decide)
  have HO := Lib.hid (of_any zeroF zeroF_byte w hk)
  clear hk
  go_enter Tryd.func6, Tryd.ntmps6
  go_wp2_with fail
  refine HO.out.mono ?_
  rintro e w1 ⟨rfl, hE⟩
  have HE1 := Lib.hid hE
  have HO1 := Lib.hid (of_any oneF one_byte w1 (HK.out.ext' hE))
  clear hE HO
  go_wp2_with fail
  refine HO1.out.mono ?_
  rintro e w2 ⟨rfl, hE⟩
  have HE2 := Lib.hid (HE1.out.trans hE)
  clear hE HO1
  go_wp2_with (refine wp_build_toks rfl _ _ rfl rfl rfl ?_)
  have hts := toks_at w2
  have HS := Lib.hid (sorted_any _ _ _ _ _ hts)
  have HE3 := Lib.hid (HE2.out.alloc (.cells (rowArr 32 fun j => .int .u8 (bothF j)) 35))
  clear hts
  refine HS.out.mono ?_
  rintro e w3 ⟨rfl, hE⟩
  have HE4 := Lib.hid (HE3.out.trans hE)
  rw [rises_two]
  clear hE
  go_wp2_with fail
  go_ret
  exact ⟨rfl, HE4.out⟩

end Go.Proofs.YtdgbcieopkilcaaDoor
