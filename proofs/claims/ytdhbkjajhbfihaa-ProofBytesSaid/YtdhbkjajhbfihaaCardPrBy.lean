/-
  THE STATEMENT ProofBytes: the row. The walk: lawPrBy_any; the reading: XRd.
-/
import Derived.Test.YtdhbkjajhbfihaaLawPrBy
import Derived.Test.YtdhbkjajhbfihaaReadPr
import Derived.Test.YtdhbkjajhbfihaaRd
import Derived.Test.YtdhbkjajhbfihaaChecked
import Derived.Stop.LaidErr
import Derived.WideMake
import Derived.ProofKit
import Derived.Deep.DeepHandedRow
namespace Go.Proofs.Ytdhbkjajhbfihaa.proofBytes
open Go.ChangeShapes Go.WideShapes Go.ChangeAt Go.RowKit

theorem own : ownKnob Try.prog.godebug = none := by kernel_rfl
theorem laidOut : laidOutB Try.prog = true := by kernel_rfl

set_option maxRecDepth 100000 in
theorem contract (H : Type) (enc : TypeId × Value → H) (W : World) (base : Nat) (args : Array Value) (ds gs : List (DataW H)) (before : List MemPlace)
    (hval : ∀ (j : Nat) t v, Try.f3.params[j]? = some t → args[j]? = some v → Value.okWide Try.prog W .any base t v)
    (hW : DataW.Whole enc Try.prog Try.f3.params.toList Rows.proofBytesSpec.vars false W args.toList ds gs before)
    (hsz : (DataW.weightsEach Try.prog (Try.f3.params.toList ++ (OpenSpec.ofChange Rows.proofBytesSpec).bare.plain.varTypes Try.prog) (ds ++ gs)).all (· ≤ reachBytes) = true) :
    Calls Try.prog 3 args W fun e W' => ∃ v, e = .returned v ∧ Rows.proofBytesSpec.post enc Try.prog Try.f3 false true false false W args v W' := by
  have hW' := hW
  obtain ⟨p, q, hA0, hV, rfl, hfz, hnd⟩ := hW
  have hA : DataW.TrodAll enc Try.prog W 0 (fun _ => true) true Try.f3.params.toList args.toList ds p := hA0
  rw [Try.params3] at hA hval hsz
  obtain ⟨v0, vs0, d0, ds0, p0, q0, hargs, rfl, rfl, h0, r0⟩ := trodAll_cons hA
  obtain ⟨rfl, rfl, rfl⟩ := trodAll_nil r0
  obtain rfl : args = #[v0] := by cases args; simp_all
  obtain ⟨rfl, rfl⟩ := trodVars_none hV
  have lt0 : ∀ x ∈ p0, x.block < W.heap.size := by obtain ⟨m, hm⟩ := h0; exact DataW.trod_lt m _ _ _ hm
  obtain ⟨p0, rfl, hp0⟩ := read_pr (hval 0 32 v0 rfl rfl) (Rd.of_trod h0 hsz (j := 0) rfl rfl)
  clear hA0
  simp only [List.append_nil] at hW'
  refine (lawPrBy_any p0 W hp0).mono fun e W' ⟨he, bel⟩ => ?_
  subst he
  exact ⟨_, rfl, _, _, _, [], _, [], hW', trodAll_mk1 (shut_bool Try.underlying4 _), (trodAll_cons_mk (Below.trod laidOut (by kernel_rfl) (of_decide_eq_true (by kernel_rfl)) h0 bel lt0) trodAll_mk0), rfl, Below.frame bel _, fun h => by cases h⟩

/-- A WORLD FOR THE WITNESS: the settled one. -/
noncomputable def laidWorld (os : Os) : World := World.holding Try.prog os ⟨#[], #[], []⟩
def wv0 : Value := .agg (prV (prZ 0))
def wd0 {H : Type} : DataW H := .agg [.lit (.int .i64 0), .agg [.lit (.int .i64 0), .lit (.int .u64 0), .agg (List.replicate 32 (.lit (.int .u8 0))), .lit (.int .i64 0), .lit (.bool false), .lit (.int .u64 0), .agg (List.replicate 16 (.lit (.int .u8 0))), .nil, .agg (List.replicate 6 (.lit (.int .u64 0))), .agg (List.replicate 32 (.lit (.int .u8 0))), .lit (.int .i64 0), .agg (List.replicate 32 (.lit (.int .u8 0)))], .agg [.lit (.int .i64 0), .lit (.int .u64 0), .agg (List.replicate 32 (.lit (.int .u8 0))), .lit (.int .i64 0), .lit (.bool false), .lit (.int .u64 0), .agg (List.replicate 16 (.lit (.int .u8 0))), .nil, .agg (List.replicate 6 (.lit (.int .u64 0))), .agg (List.replicate 32 (.lit (.int .u8 0))), .lit (.int .i64 0), .agg (List.replicate 32 (.lit (.int .u8 0)))], .lit (.int .i64 0), .lit (.int .u64 0), .lit (.int .u64 0), .nil]
theorem laid_met (os : Os) : laidMet Try.prog Rows.proofBytesRow.laid ((laidWorld os).forCall (fun _ _ => 0) ⟨#[], #[wv0], []⟩).memory :=
  laidMet_of_run' 8 (by kernel_rfl) (by kernel_rfl)
theorem reads (os : Os) {H : Type} (enc : TypeId × Value → H) : ∃ places, DataW.whole enc Try.prog ((laidWorld os).forCall (fun _ _ => 0) ⟨#[], #[wv0], []⟩).memory Try.f3.params.toList Rows.proofBytesSpec.vars false (#[wv0] : Array Value).toList 8 = some ([wd0], [], places) :=
  ⟨[], by kernel_rfl⟩

set_option maxRecDepth 100000 in
/-- THE ROW's STEP. -/
theorem lifted (os : Os) (started : os.Started) (H : Type) (enc : TypeId × Value → H) (F : Stop.Interp) :
    ReturnsInHanded {} Try.checked os 3 .any ((OpenSpec.ofChange Rows.proofBytesSpec).preRow enc Try.prog Try.f3 Rows.proofBytesRow.domain false Rows.proofBytesRow.laid) (((OpenSpec.ofChange Rows.proofBytesSpec).at F).post enc Try.prog Try.f3 false true false false) := by
  obtain ⟨places, hx⟩ := reads os enc
  refine returnsInHanded_of_row (C := Try.checked) (s := OpenSpec.ofChange Rows.proofBytesSpec) own started (by kernel_rfl) Try.func3
    (witness_row_at (enc := enc) (C := Try.checked) false (laidWorld os) #[wv0] rfl (by kernel_rfl) (by kernel_rfl) (by kernel_rfl)
      (OpenSpec.preRow_of_cond 8 hx (by kernel_rfl) (fun k hk => by cases hk) (by kernel_rfl) (laid_met os))) ?_
  intro W base args ds gs before hval hW _ _ hsz _ _ _
  exact contract H enc W base args ds gs before hval hW hsz

theorem said : Rows.ProofBytesSaid :=
  OpenClaim.holds_of_cond 3 Try.f3 rfl rfl rfl rfl rfl rfl rfl ⟨rfl, rfl, rfl, rfl, rfl⟩ rfl rfl rfl rfl rfl (by kernel_rfl) Try.func3 (by kernel_rfl)
    (of_decide_eq_true (by kernel_rfl)) (by unfold Func.isWrapper; first | (rw [if_pos (by decide +kernel)]; kernel_rfl) | (rw [if_neg (by decide +kernel)]; exact ⟨rfl, rfl⟩))
    (fun os started H enc _ F => by rw [OpenClaim.pre_eq_preRow]; exact lifted os started H enc F)

end Go.Proofs.Ytdhbkjajhbfihaa.proofBytes
