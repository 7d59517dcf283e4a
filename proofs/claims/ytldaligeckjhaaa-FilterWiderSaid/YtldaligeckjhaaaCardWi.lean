/-
  THE STATEMENT FilterWider: the row. The walk: lawWi_any; the reading: XRd.
-/
import Derived.Test.YtldaligeckjhaaaLawWi
import Derived.Test.YtldaligeckjhaaaReadRw
import Derived.Test.YtldaligeckjhaaaReadRw
import Derived.Test.YtldaligeckjhaaaChecked
import Derived.Stop.LaidErr
import Derived.WideMake
import Derived.ProofKit
import Derived.Deep.DeepHandedRow
namespace Go.Proofs.Ytldaligeckjhaaa.filterWider
open Go.ChangeShapes Go.WideShapes Go.ChangeAt Go.RowKit

theorem own : ownKnob Try.prog.godebug = none := by kernel_rfl
theorem laidOut : laidOutB Try.prog = true := by kernel_rfl

set_option maxRecDepth 100000 in
theorem contract (H : Type) (enc : TypeId × Value → H) (W : World) (base : Nat) (args : Array Value) (ds gs : List (DataW H)) (before : List MemPlace)
    (hval : ∀ (j : Nat) t v, Try.f9.params[j]? = some t → args[j]? = some v → Value.okWide Try.prog W .any base t v)
    (hW : DataW.Whole enc Try.prog Try.f9.params.toList Rows.filterWiderSpec.vars false W args.toList ds gs before)
    (hsz : (DataW.weightsEach Try.prog (Try.f9.params.toList ++ (OpenSpec.ofChange Rows.filterWiderSpec).bare.plain.varTypes Try.prog) (ds ++ gs)).all (· ≤ reachBytes) = true) :
    Calls Try.prog 9 args W fun e W' => ∃ v, e = .returned v ∧ Rows.filterWiderSpec.post enc Try.prog Try.f9 false true false false W args v W' := by
  have hW' := hW
  obtain ⟨p, q, hA0, hV, rfl, hfz, hnd⟩ := hW
  have hA : DataW.TrodAll enc Try.prog W 0 (fun _ => true) true Try.f9.params.toList args.toList ds p := hA0
  rw [Try.params9] at hA hval hsz
  obtain ⟨v0, vs0, d0, ds0, p0, q0, hargs, rfl, rfl, h0, r0⟩ := trodAll_cons hA
  obtain ⟨v1, vs1, d1, ds1, p1, q1, e1, rfl, rfl, h1, r1⟩ := trodAll_cons r0
  obtain ⟨v2, vs2, d2, ds2, p2, q2, e2, rfl, rfl, h2, r2⟩ := trodAll_cons r1
  obtain ⟨rfl, rfl, rfl⟩ := trodAll_nil r2
  subst e1
  subst e2
  obtain rfl : args = #[v0, v1, v2] := by cases args; simp_all
  obtain ⟨rfl, rfl⟩ := trodVars_none hV
  have lt0 : ∀ x ∈ p0, x.block < W.heap.size := by obtain ⟨m, hm⟩ := h0; exact DataW.trod_lt m _ _ _ hm
  obtain ⟨al0, a0, n0, c0, ss0, rfl, hf0⟩ := read_fl (hval 0 55 v0 rfl rfl) (Rd.of_trod h0 hsz (j := 0) rfl rfl)
  have lt1 : ∀ x ∈ p1, x.block < W.heap.size := by obtain ⟨m, hm⟩ := h1; exact DataW.trod_lt m _ _ _ hm
  obtain ⟨al1, a1, n1, c1, ss1, rfl, hf1⟩ := read_fl (hval 1 55 v1 rfl rfl) (Rd.of_trod h1 hsz (j := 1) rfl rfl)
  have lt2 : ∀ x ∈ p2, x.block < W.heap.size := by obtain ⟨m, hm⟩ := h2; exact DataW.trod_lt m _ _ _ hm
  obtain ⟨a2, n2, c2, l2, rfl, hb2⟩ := read_rws (hval 2 22 v2 rfl rfl) (Rd.of_trod h2 hsz (j := 2) rfl rfl)
  clear hA0
  simp only [List.append_nil] at hW'
  refine (lawWi_any al0 a0 n0 c0 ss0 al1 a1 n1 c1 ss1 a2 n2 c2 l2 W hf0 hf1 hb2).mono fun e W' ⟨he, bel⟩ => ?_
  subst he
  exact ⟨_, rfl, _, _, _, [], _, [], hW', trodAll_mk1 (shut_bool Try.underlying4 _), (trodAll_cons_mk (Below.trod laidOut (by kernel_rfl) (of_decide_eq_true (by kernel_rfl)) h0 bel lt0) (trodAll_cons_mk (Below.trod laidOut (by kernel_rfl) (of_decide_eq_true (by kernel_rfl)) h1 bel lt1) (trodAll_cons_mk (Below.trod laidOut (by kernel_rfl) (of_decide_eq_true (by kernel_rfl)) h2 bel lt2) trodAll_mk0))), rfl, Below.frame bel _, fun h => by cases h⟩

/-- A WORLD FOR THE WITNESS: the settled one. -/
noncomputable def laidWorld (os : Os) : World := World.holding Try.prog os ⟨#[], #[], []⟩
def wv0 : Value := .agg #[.bool false, .slice none 0 0]
def wd0 {H : Type} : DataW H := .agg [.lit (.bool false), .nil]
def wv1 : Value := .agg #[.bool false, .slice none 0 0]
def wd1 {H : Type} : DataW H := .agg [.lit (.bool false), .nil]
def wv2 : Value := .slice none 0 0
def wd2 {H : Type} : DataW H := .nil
theorem laid_met (os : Os) : laidMet Try.prog Rows.filterWiderRow.laid ((laidWorld os).forCall (fun _ _ => 0) ⟨#[], #[wv0, wv1, wv2], []⟩).memory :=
  laidMet_of_run' 8 (by kernel_rfl) (by kernel_rfl)
theorem reads (os : Os) {H : Type} (enc : TypeId × Value → H) : ∃ places, DataW.whole enc Try.prog ((laidWorld os).forCall (fun _ _ => 0) ⟨#[], #[wv0, wv1, wv2], []⟩).memory Try.f9.params.toList Rows.filterWiderSpec.vars false (#[wv0, wv1, wv2] : Array Value).toList 8 = some ([wd0, wd1, wd2], [], places) :=
  ⟨[], by kernel_rfl⟩

set_option maxRecDepth 100000 in
/-- THE ROW's STEP. -/
theorem lifted (os : Os) (started : os.Started) (H : Type) (enc : TypeId × Value → H) (F : Stop.Interp) :
    ReturnsInHanded {} Try.checked os 9 .any ((OpenSpec.ofChange Rows.filterWiderSpec).preRow enc Try.prog Try.f9 Rows.filterWiderRow.domain false Rows.filterWiderRow.laid) (((OpenSpec.ofChange Rows.filterWiderSpec).at F).post enc Try.prog Try.f9 false true false false) := by
  obtain ⟨places, hx⟩ := reads os enc
  refine returnsInHanded_of_row (C := Try.checked) (s := OpenSpec.ofChange Rows.filterWiderSpec) own started (by kernel_rfl) Try.func9
    (witness_row_at (enc := enc) (C := Try.checked) false (laidWorld os) #[wv0, wv1, wv2] rfl (by kernel_rfl) (by kernel_rfl) (by kernel_rfl)
      (OpenSpec.preRow_of_cond 8 hx (by kernel_rfl) (fun k hk => by cases hk) (by kernel_rfl) (laid_met os))) ?_
  intro W base args ds gs before hval hW _ _ hsz _ _ _
  exact contract H enc W base args ds gs before hval hW hsz

theorem said : Rows.FilterWiderSaid :=
  OpenClaim.holds_of_cond 9 Try.f9 rfl rfl rfl rfl rfl rfl rfl ⟨rfl, rfl, rfl, rfl, rfl⟩ rfl rfl rfl rfl rfl (by kernel_rfl) Try.func9 (by kernel_rfl)
    (of_decide_eq_true (by kernel_rfl)) (by unfold Func.isWrapper; first | (rw [if_pos (by decide +kernel)]; kernel_rfl) | (rw [if_neg (by decide +kernel)]; exact ⟨rfl, rfl⟩))
    (fun os started H enc _ F => by rw [OpenClaim.pre_eq_preRow]; exact lifted os started H enc F)

end Go.Proofs.Ytldaligeckjhaaa.filterWider
