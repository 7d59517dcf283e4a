/-
  The walk of entry.Same. No conditions.
-/
import Derived.Test.YthdgnahokmjkpaaDoorTsEq
import Derived.Test.YthdgnahokmjkpaaDoorAnds
namespace Go.Proofs.YthdgnahokmjkpaaDoor
open Go.ChangeShapes Go.WideShapes Go.ChangeAt Go.RowKit

def sm0 (h g : Hd) : Bool := (h.writer == g.writer)
def sm1 (h g : Hd) : Bool := sm0 h g && (h.seq == g.seq)
def sm2 (h g : Hd) : Bool := sm1 h g && arrB 32 h.prev g.prev
def sm3 (h g : Hd) : Bool := sm2 h g && (h.epoch == g.epoch)
def sm4 (h g : Hd) : Bool := sm3 h g && (h.ctl == g.ctl)
def sm5 (h g : Hd) : Bool := sm4 h g && (h.time == g.time)
def sm6 (h g : Hd) : Bool := sm5 h g && arrB 16 h.item g.item
def sm7 (h g : Hd) : Bool := sm6 h g && arrB 6 h.knows g.knows
def sm8 (h g : Hd) : Bool := sm7 h g && arrB 32 h.sum g.sum
def sm9 (h g : Hd) : Bool := sm8 h g && (h.size == g.size)
def sm10 (h g : Hd) : Bool := sm9 h g && arrB 32 h.code g.code
/-- Two headers are the same. -/
def sameB (h g : Hd) (ts us : List (Nat → Int)) : Bool := tsB ts us && sm10 h g
theorem hd_box (w : World) (h g : Hd) : ∃ w2, (w.alloc (.cells (hdV h) 35)).alloc (.cells (hdV g) 35) = w2 ∧ Ext w w2 ∧ w2.heap[w.heap.size]? = some (.cells (hdV h) 35 (0, 0)) ∧ w2.heap[w.heap.size + 1]? = some (.cells (hdV g) 35 (0, 0)) := by
  refine ⟨_, rfl, ((Ext.refl w).alloc _).alloc _, ?_, ?_⟩
  · exact Ext.keep ((Ext.refl (w.alloc (.cells (hdV h) 35))).alloc _) (heap_new w _ _ rfl)
  · exact heap_new _ _ _ (by simp)
set_option maxRecDepth 100000 in
theorem size_t16 (w : World) : (sizeOf 31).run Tryd.prog w = .ok 16 w := by kernel_rfl

section
variable {ev : Operand → Value} {x y : Operand} {d : Option Tmp} {ty : TypeId} {ps : String} {af : Array Edge} {gd : Option (Nat × Bool)} {p : Nat} {w : World}
set_option maxRecDepth 100000 in
theorem fld_hd0 (he : ev x = .pointer (some ⟨p, 0, none⟩)) : (execOp ev ⟨d, .fieldAddr 35 x 0, ty, ps, af, gd⟩).run Tryd.prog w = .ok (.value (.pointer (some ⟨p, 0, none⟩))) w := by
  simp only [execOp, he]
  kernel_rfl
set_option maxRecDepth 100000 in
theorem fld_hd1 (he : ev x = .pointer (some ⟨p, 0, none⟩)) : (execOp ev ⟨d, .fieldAddr 35 x 1, ty, ps, af, gd⟩).run Tryd.prog w = .ok (.value (.pointer (some ⟨p, 1, none⟩))) w := by
  simp only [execOp, he]
  kernel_rfl
set_option maxRecDepth 100000 in
theorem fld_hd2 (he : ev x = .pointer (some ⟨p, 0, none⟩)) : (execOp ev ⟨d, .fieldAddr 35 x 2, ty, ps, af, gd⟩).run Tryd.prog w = .ok (.value (.pointer (some ⟨p, 2, none⟩))) w := by
  simp only [execOp, he]
  kernel_rfl
set_option maxRecDepth 100000 in
theorem fld_hd3 (he : ev x = .pointer (some ⟨p, 0, none⟩)) : (execOp ev ⟨d, .fieldAddr 35 x 3, ty, ps, af, gd⟩).run Tryd.prog w = .ok (.value (.pointer (some ⟨p, 34, none⟩))) w := by
  simp only [execOp, he]
  kernel_rfl
set_option maxRecDepth 100000 in
theorem fld_hd4 (he : ev x = .pointer (some ⟨p, 0, none⟩)) : (execOp ev ⟨d, .fieldAddr 35 x 4, ty, ps, af, gd⟩).run Tryd.prog w = .ok (.value (.pointer (some ⟨p, 35, none⟩))) w := by
  simp only [execOp, he]
  kernel_rfl
set_option maxRecDepth 100000 in
theorem fld_hd5 (he : ev x = .pointer (some ⟨p, 0, none⟩)) : (execOp ev ⟨d, .fieldAddr 35 x 5, ty, ps, af, gd⟩).run Tryd.prog w = .ok (.value (.pointer (some ⟨p, 36, none⟩))) w := by
  simp only [execOp, he]
  kernel_rfl
set_option maxRecDepth 100000 in
theorem fld_hd6 (he : ev x = .pointer (some ⟨p, 0, none⟩)) : (execOp ev ⟨d, .fieldAddr 35 x 6, ty, ps, af, gd⟩).run Tryd.prog w = .ok (.value (.pointer (some ⟨p, 37, none⟩))) w := by
  simp only [execOp, he]
  kernel_rfl
set_option maxRecDepth 100000 in
theorem fld_hd8 (he : ev x = .pointer (some ⟨p, 0, none⟩)) : (execOp ev ⟨d, .fieldAddr 35 x 8, ty, ps, af, gd⟩).run Tryd.prog w = .ok (.value (.pointer (some ⟨p, 54, none⟩))) w := by
  simp only [execOp, he]
  kernel_rfl
set_option maxRecDepth 100000 in
theorem fld_hd9 (he : ev x = .pointer (some ⟨p, 0, none⟩)) : (execOp ev ⟨d, .fieldAddr 35 x 9, ty, ps, af, gd⟩).run Tryd.prog w = .ok (.value (.pointer (some ⟨p, 60, none⟩))) w := by
  simp only [execOp, he]
  kernel_rfl
set_option maxRecDepth 100000 in
theorem fld_hd10 (he : ev x = .pointer (some ⟨p, 0, none⟩)) : (execOp ev ⟨d, .fieldAddr 35 x 10, ty, ps, af, gd⟩).run Tryd.prog w = .ok (.value (.pointer (some ⟨p, 92, none⟩))) w := by
  simp only [execOp, he]
  kernel_rfl
set_option maxRecDepth 100000 in
theorem fld_hd11 (he : ev x = .pointer (some ⟨p, 0, none⟩)) : (execOp ev ⟨d, .fieldAddr 35 x 11, ty, ps, af, gd⟩).run Tryd.prog w = .ok (.value (.pointer (some ⟨p, 93, none⟩))) w := by
  simp only [execOp, he]
  kernel_rfl
theorem ld_i64 {off : Nat} {a : Int} (hc : w.cell? ⟨p, off, none⟩ = some (.int .i64 a)) (he : ev x = .pointer (some ⟨p, off, none⟩)) : (execOp ev ⟨d, .load 3 x, ty, ps, af, gd⟩).run Tryd.prog w = .ok (.value (.int .i64 a)) w := by
  have hu := Tryd.underlying3
  go_simp
theorem eq_i64 {T2 : TypeId} {a b : Int} (h1 : ev x = .int .i64 a) (h2 : ev y = .int .i64 b) : (execOp ev ⟨d, .binOp .eql 3 x y T2, ty, ps, af, gd⟩).run Tryd.prog w = .ok (.value (.bool (a == b))) w := by
  have hu := Tryd.underlying3
  go_simp
theorem ld_u64 {off : Nat} {a : Int} (hc : w.cell? ⟨p, off, none⟩ = some (.int .u64 a)) (he : ev x = .pointer (some ⟨p, off, none⟩)) : (execOp ev ⟨d, .load 27 x, ty, ps, af, gd⟩).run Tryd.prog w = .ok (.value (.int .u64 a)) w := by
  have hu := Tryd.underlying27
  go_simp
theorem eq_u64 {T2 : TypeId} {a b : Int} (h1 : ev x = .int .u64 a) (h2 : ev y = .int .u64 b) : (execOp ev ⟨d, .binOp .eql 27 x y T2, ty, ps, af, gd⟩).run Tryd.prog w = .ok (.value (.bool (a == b))) w := by
  have hu := Tryd.underlying27
  go_simp
theorem ld_b {off : Nat} {a : Bool} (hc : w.cell? ⟨p, off, none⟩ = some (.bool a)) (he : ev x = .pointer (some ⟨p, off, none⟩)) : (execOp ev ⟨d, .load 4 x, ty, ps, af, gd⟩).run Tryd.prog w = .ok (.value (.bool a)) w := by
  have hu := Tryd.underlying4
  go_simp
theorem eq_b {T2 : TypeId} {a b : Bool} (h1 : ev x = .bool a) (h2 : ev y = .bool b) : (execOp ev ⟨d, .binOp .eql 4 x y T2, ty, ps, af, gd⟩).run Tryd.prog w = .ok (.value (.bool (a == b))) w := by
  have hu := Tryd.underlying4
  go_simp
theorem ld_h {off : Nat} {f : Nat → Int} (hc : ∀ i, i < 32 → w.cell? ⟨p, off + i, none⟩ = some (.int .u8 (f i))) (he : ev x = .pointer (some ⟨p, off, none⟩)) : (execOp ev ⟨d, .load 29 x, ty, ps, af, gd⟩).run Tryd.prog w = .ok (.value (.agg (rowArr 32 fun j => .int .u8 (f j)))) w := by
  simp only [execOp, he, Instr.loadAt, Instr.sureAddr, Sem.run_bind, Sem.run_pure, Result.andThen_ok, run_loadSub Tryd.underlying29 (size_h32 w) hc]
theorem eq_h {T2 : TypeId} {f g : Nat → Int} (h1 : ev x = .agg (rowArr 32 fun j => .int .u8 (f j))) (h2 : ev y = .agg (rowArr 32 fun j => .int .u8 (g j))) : (execOp ev ⟨d, .binOp .eql 29 x y T2, ty, ps, af, gd⟩).run Tryd.prog w = .ok (.value (.bool (arrB 32 f g))) w := by
  have hk := fun w => eql_h w f g
  simp only [execOp, h1, h2]
  go_simp
theorem ld_t {off : Nat} {f : Nat → Int} (hc : ∀ i, i < 16 → w.cell? ⟨p, off + i, none⟩ = some (.int .u8 (f i))) (he : ev x = .pointer (some ⟨p, off, none⟩)) : (execOp ev ⟨d, .load 31 x, ty, ps, af, gd⟩).run Tryd.prog w = .ok (.value (.agg (rowArr 16 fun j => .int .u8 (f j)))) w := by
  simp only [execOp, he, Instr.loadAt, Instr.sureAddr, Sem.run_bind, Sem.run_pure, Result.andThen_ok, run_loadSub Tryd.underlying31 (size_t16 w) hc]
theorem eq_t {T2 : TypeId} {f g : Nat → Int} (h1 : ev x = .agg (rowArr 16 fun j => .int .u8 (f j))) (h2 : ev y = .agg (rowArr 16 fun j => .int .u8 (g j))) : (execOp ev ⟨d, .binOp .eql 31 x y T2, ty, ps, af, gd⟩).run Tryd.prog w = .ok (.value (.bool (arrB 16 f g))) w := by
  have hk := fun w => eql_t w f g
  simp only [execOp, h1, h2]
  go_simp
theorem ld_k {off : Nat} {f : Nat → Int} (hc : ∀ i, i < 6 → w.cell? ⟨p, off + i, none⟩ = some (.int .u64 (f i))) (he : ev x = .pointer (some ⟨p, off, none⟩)) : (execOp ev ⟨d, .load 33 x, ty, ps, af, gd⟩).run Tryd.prog w = .ok (.value (.agg (rowArr 6 fun j => .int .u64 (f j)))) w := by
  simp only [execOp, he, Instr.loadAt, Instr.sureAddr, Sem.run_bind, Sem.run_pure, Result.andThen_ok, run_loadSub Tryd.underlying33 (size_k6 w) hc]
theorem eq_k {T2 : TypeId} {f g : Nat → Int} (h1 : ev x = .agg (rowArr 6 fun j => .int .u64 (f j))) (h2 : ev y = .agg (rowArr 6 fun j => .int .u64 (g j))) : (execOp ev ⟨d, .binOp .eql 33 x y T2, ty, ps, af, gd⟩).run Tryd.prog w = .ok (.value (.bool (arrB 6 f g))) w := by
  have hk := fun w => eql_k w f g
  simp only [execOp, h1, h2]
  go_simp
end

set_option maxHeartbeats 4000000 in
set_option maxRecDepth 100000 in
theorem sameHd_any (h g : Hd) (ts us : List (Nat → Int)) (w : World) (ht : TsAt w h.ta h.tn h.tc ts) (hu : TsAt w g.ta g.tn g.tc us) :
    Calls Tryd.prog 20 #[.agg (hdV h), .agg (hdV g)] w fun e w' => e = .returned (.bool (sameB h g ts us)) ∧ Ext w w' := by
  obtain ⟨w2, hw2, hE2, hB, hG⟩ := hd_box w h g
  have HE2 := Lib.hid hE2
  have Hw2 := Lib.hid hw2
  have Heq := Lib.hid (tsEq_any _ _ _ ts _ _ _ us w2 (ht.ext hE2) (hu.ext hE2))
  clear ht hu hw2
  obtain ⟨p, hp⟩ : ∃ p, w.heap.size = p := ⟨_, rfl⟩
  rw [hp] at hB hG
  obtain ⟨q, hq⟩ : ∃ q, p + 1 = q := ⟨_, rfl⟩
  rw [hq] at hG
  have Hp := Lib.hid hp
  have Hq := Lib.hid hq
  clear hp hq
  have c53 := hd_toks hB
  have d53 := hd_toks hG
  obtain ⟨R, hR⟩ : ∃ R, sameB h g ts us = R := ⟨_, rfl⟩
  rw [hR]
  unfold sameB at hR
  obtain ⟨t0, ht0⟩ : ∃ t, tsB ts us = t := ⟨_, rfl⟩
  rw [ht0] at Heq hR
  cases t0 with
  | false =>
    have HR := Lib.hid (show R = false from hR.symm)
    clear ht0 hB hG hR
    go_enter Tryd.func20, Tryd.ntmps20
    go_upto_region 1 with (fail)
    refine wp_world (w' := w2) Hw2.out ?_
    rw [Hp.out, Hq.out]
    clear Hw2
    go_wp2_with fail
    refine Heq.out.mono ?_
    rintro e w3 ⟨rfl, hE⟩
    have HE3 := Lib.hid (HE2.out.trans hE)
    clear hE
    go_wp2
    go_ret
    exact ⟨by rw [HR.out]; rfl, HE3.out⟩
  | true =>
  rw [Bool.true_and] at hR
  have HHB := Lib.hid hB
  have HHG := Lib.hid hG
  have HR := Lib.hid hR
  clear ht0 hB hG hR
  go_enter Tryd.func20, Tryd.ntmps20
  go_upto_region 1 with (fail)
  refine wp_world (w' := w2) Hw2.out ?_
  rw [Hp.out, Hq.out]
  clear Hw2
  go_wp2_with fail
  refine Heq.out.mono ?_
  rintro e w3 ⟨rfl, hE⟩
  have hB := hE.keep HHB.out
  have hG := hE.keep HHG.out
  have HE3 := Lib.hid (HE2.out.trans hE)
  clear hE
  go_upto_region 3 with (fail)
  go_step
  refine wp_and0 (s := 10) (p := some ⟨p, 0, none⟩) (q := some ⟨q, 0, none⟩) (sp := 2) (sq := 3) (n := 86) (t := false) ⟨rfl, rfl, rfl, rfl, rfl⟩ (by omega) (by omega) (by omega) (fun ev he => fld_hd0 he) (fun ev he => fld_hd0 he) (fun ev he => ld_i64 (hd_writer hB) he) (fun ev he => ld_i64 (hd_writer hG) he) (fun ev h1 h2 => eq_i64 h1 h2) ?_
  intro a0 F
  refine wp_and F (by omega) (by omega) (by omega) 5 rfl (fun ev he => fld_hd1 he) (fun ev he => fld_hd1 he) (fun ev he => ld_u64 (hd_seq hB) he) (fun ev he => ld_u64 (hd_seq hG) he) (fun ev h1 h2 => eq_u64 h1 h2) ?_
  intro a1 F
  refine wp_andMove F (by omega) (by omega) (by omega) ?_
  intro b1 F
  refine wp_and F (by omega) (by omega) (by omega) 12 rfl (fun ev he => fld_hd2 he) (fun ev he => fld_hd2 he) (fun ev he => ld_h (hd_prev hB) he) (fun ev he => ld_h (hd_prev hG) he) (fun ev h1 h2 => eq_h h1 h2) ?_
  intro a2 F
  refine wp_andMove F (by omega) (by omega) (by omega) ?_
  intro b2 F
  refine wp_and F (by omega) (by omega) (by omega) 19 rfl (fun ev he => fld_hd3 he) (fun ev he => fld_hd3 he) (fun ev he => ld_i64 (hd_epoch hB) he) (fun ev he => ld_i64 (hd_epoch hG) he) (fun ev h1 h2 => eq_i64 h1 h2) ?_
  intro a3 F
  refine wp_andMove F (by omega) (by omega) (by omega) ?_
  intro b3 F
  refine wp_and F (by omega) (by omega) (by omega) 26 rfl (fun ev he => fld_hd4 he) (fun ev he => fld_hd4 he) (fun ev he => ld_b (hd_ctl hB) he) (fun ev he => ld_b (hd_ctl hG) he) (fun ev h1 h2 => eq_b h1 h2) ?_
  intro a4 F
  refine wp_andMove F (by omega) (by omega) (by omega) ?_
  intro b4 F
  refine wp_and F (by omega) (by omega) (by omega) 33 rfl (fun ev he => fld_hd5 he) (fun ev he => fld_hd5 he) (fun ev he => ld_u64 (hd_time hB) he) (fun ev he => ld_u64 (hd_time hG) he) (fun ev h1 h2 => eq_u64 h1 h2) ?_
  intro a5 F
  refine wp_andMove F (by omega) (by omega) (by omega) ?_
  intro b5 F
  refine wp_and F (by omega) (by omega) (by omega) 40 rfl (fun ev he => fld_hd6 he) (fun ev he => fld_hd6 he) (fun ev he => ld_t (hd_item hB) he) (fun ev he => ld_t (hd_item hG) he) (fun ev h1 h2 => eq_t h1 h2) ?_
  intro a6 F
  refine wp_andMove F (by omega) (by omega) (by omega) ?_
  intro b6 F
  refine wp_and F (by omega) (by omega) (by omega) 47 rfl (fun ev he => fld_hd8 he) (fun ev he => fld_hd8 he) (fun ev he => ld_k (hd_knows hB) he) (fun ev he => ld_k (hd_knows hG) he) (fun ev h1 h2 => eq_k h1 h2) ?_
  intro a7 F
  refine wp_andMove F (by omega) (by omega) (by omega) ?_
  intro b7 F
  refine wp_and F (by omega) (by omega) (by omega) 54 rfl (fun ev he => fld_hd9 he) (fun ev he => fld_hd9 he) (fun ev he => ld_h (hd_sum hB) he) (fun ev he => ld_h (hd_sum hG) he) (fun ev h1 h2 => eq_h h1 h2) ?_
  intro a8 F
  refine wp_andMove F (by omega) (by omega) (by omega) ?_
  intro b8 F
  refine wp_and F (by omega) (by omega) (by omega) 61 rfl (fun ev he => fld_hd10 he) (fun ev he => fld_hd10 he) (fun ev he => ld_i64 (hd_size hB) he) (fun ev he => ld_i64 (hd_size hG) he) (fun ev h1 h2 => eq_i64 h1 h2) ?_
  intro a9 F
  refine wp_andMove F (by omega) (by omega) (by omega) ?_
  intro b9 F
  refine wp_and F (by omega) (by omega) (by omega) 68 rfl (fun ev he => fld_hd11 he) (fun ev he => fld_hd11 he) (fun ev he => ld_h (hd_code hB) he) (fun ev he => ld_h (hd_code hG) he) (fun ev h1 h2 => eq_h h1 h2) ?_
  intro a10 F
  refine wp_andAssign F (by omega) (by omega) (by omega) ?_
  intro aL F
  go_wp2
  (try simp only [Exit.inBlock, Exit.then])
  refine bodyPost_ret (results_tmp rfl _ _ _) F.defers ?_
  exact ⟨by rw [← HR.out]; exact congrArg Ending.returned (eval_of F.hs), HE3.out⟩

end Go.Proofs.YthdgnahokmjkpaaDoor
