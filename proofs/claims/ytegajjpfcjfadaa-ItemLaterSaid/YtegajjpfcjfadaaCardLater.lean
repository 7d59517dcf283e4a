/-
  THE STATEMENT ItemLater: the row. The walk: LawLater; the reading: ReadSt.
-/
import Derived.Test.YtegajjpfcjfadaaLawLater
import Derived.Test.YtegajjpfcjfadaaReadSt
import Derived.Test.YtegajjpfcjfadaaChecked
import Derived.Stop.LaidErr
import Derived.WideMake
namespace Go.Proofs.Ytegajjpfcjfadaa.itemLater
open Go.ChangeShapes Go.WideShapes Go.ChangeAt Go.RowKit

theorem own : ownKnob Try.prog.godebug = none := by kernel_rfl
theorem laidOut : laidOutB Try.prog = true := by kernel_rfl
theorem cellsH : Try.prog.cellsOf 30 = 125 := by kernel_rfl

theorem read_hd {H : Type} {enc : TypeId × Value → H} {W : World} {base : Nat} {sp : Nat → Bool} {held : Bool} {r : Reach} {b0 : Nat} {v : Value} {d : DataW H} {p : List MemPlace}
    (hval : Value.okWide Try.prog W r b0 30 v) (hd : DataW.Trod enc Try.prog W base sp held 30 v d p) : ∃ cs t n s, v = .agg cs ∧ HdAt cs t n s := by
  obtain ⟨cs, rfl, hsz⟩ := okWide_struct Try.underlying30 hval
  rw [cellsH] at hsz
  obtain ⟨fuel, hf⟩ := hd
  have hcs : (Value.agg cs).cells.toList = cs.toList := rfl
  rw [hcs] at hf
  obtain ⟨t, h1, _⟩ := trod_field_int (i := 5) (off := 36) (e := 22) (k := .u64) (by kernel_rfl) Try.underlying22 (by kernel_rfl) hf
  obtain ⟨n, h2, _⟩ := trod_field_int (i := 0) (off := 0) (e := 3) (k := .i64) (by kernel_rfl) Try.underlying3 (by kernel_rfl) hf
  obtain ⟨s, h3, _⟩ := trod_field_int (i := 1) (off := 1) (e := 22) (k := .u64) (by kernel_rfl) Try.underlying22 (by kernel_rfl) hf
  rw [Array.getElem?_toList] at h1 h2 h3
  exact ⟨cs, t, n, s, rfl, hsz, h1, h2, h3⟩

set_option maxRecDepth 100000 in
theorem contract (H : Type) (enc : TypeId × Value → H) (W : World) (base : Nat) (args : Array Value) (ds gs : List (DataW H)) (before : List MemPlace)
    (hval : ∀ (j : Nat) t v, Try.f3.params[j]? = some t → args[j]? = some v → Value.okWide Try.prog W .any base t v)
    (hW : DataW.Whole enc Try.prog Try.f3.params.toList Rows.itemLaterSpec.vars false W args.toList ds gs before) :
    Calls Try.prog 3 args W fun e W' => ∃ v, e = .returned v ∧ Rows.itemLaterSpec.post enc Try.prog Try.f3 false true false false W args v W' := by
  have hW' := hW
  obtain ⟨p, q, hA0, hV, rfl, hfz, hnd⟩ := hW
  have hA : DataW.TrodAll enc Try.prog W 0 (fun _ => true) true Try.f3.params.toList args.toList ds p := hA0
  rw [Try.params3] at hA hval
  obtain ⟨v0, vs0, d0, ds0, p0, q0, hargs, rfl, rfl, h0, r0⟩ := trodAll_cons hA
  obtain ⟨v1, vs1, d1, ds1, p1, q1, e1, rfl, rfl, h1, r1⟩ := trodAll_cons r0
  obtain ⟨v2, vs2, d2, ds2, p2, q2, e2, rfl, rfl, h2, r2⟩ := trodAll_cons r1
  obtain ⟨rfl, rfl, rfl⟩ := trodAll_nil r2
  subst e1
  subst e2
  obtain rfl : args = #[v0, v1, v2] := by cases args; simp_all
  obtain ⟨rfl, rfl⟩ := trodVars_none hV
  have lt0 : ∀ x ∈ p0, x.block < W.heap.size := by obtain ⟨m, hm⟩ := h0; exact DataW.trod_lt m _ _ _ hm
  have lt1 : ∀ x ∈ p1, x.block < W.heap.size := by obtain ⟨m, hm⟩ := h1; exact DataW.trod_lt m _ _ _ hm
  have lt2 : ∀ x ∈ p2, x.block < W.heap.size := by obtain ⟨m, hm⟩ := h2; exact DataW.trod_lt m _ _ _ hm
  obtain ⟨c0, t0, n0, s0, rfl, hH0⟩ := read_hd (hval 0 30 v0 rfl rfl) h0
  obtain ⟨c1, t1, n1, s1, rfl, hH1⟩ := read_hd (hval 1 30 v1 rfl rfl) h1
  obtain ⟨c2, t2, n2, s2, rfl, hH2⟩ := read_hd (hval 2 30 v2 rfl rfl) h2
  clear hA0
  simp only [List.append_nil] at hW'
  refine (lawLater_any c0 c1 c2 t0 n0 s0 t1 n1 s1 t2 n2 s2 W hH0 hH1 hH2).mono fun e W' ⟨he, bel⟩ => ?_
  subst he
  exact ⟨_, rfl, _, _, _, [], _, [], hW', trodAll_mk1 (shut_bool Try.underlying4 _), (trodAll_cons_mk (Below.trod laidOut (by kernel_rfl) (of_decide_eq_true (by kernel_rfl)) h0 bel lt0) (trodAll_cons_mk (Below.trod laidOut (by kernel_rfl) (of_decide_eq_true (by kernel_rfl)) h1 bel lt1) (trodAll_cons_mk (Below.trod laidOut (by kernel_rfl) (of_decide_eq_true (by kernel_rfl)) h2 bel lt2) trodAll_mk0))), rfl, Below.frame bel _, fun h => by cases h⟩

/-- A WORLD FOR THE WITNESS: the settled one. -/
noncomputable def laidWorld (os : Os) : World := World.holding Try.prog os ⟨#[], #[], []⟩
def zh : Value := .agg zHd
theorem laid_met (os : Os) : laidMet Try.prog Rows.itemLaterRow.laid ((laidWorld os).forCall (fun _ _ => 0) ⟨#[], #[zh, zh, zh], []⟩).memory :=
  laidMet_of_run' 8 (by kernel_rfl) (by kernel_rfl)
def zd {H : Type} : DataW H := .agg [.lit (.int .i64 0), .lit (.int .u64 0), .agg (List.replicate 32 (.lit (.int .u8 0))), .lit (.int .i64 0), .lit (.bool false), .lit (.int .u64 0), .agg (List.replicate 16 (.lit (.int .u8 0))), .nil, .agg (List.replicate 6 (.lit (.int .u64 0))), .agg (List.replicate 32 (.lit (.int .u8 0))), .lit (.int .i64 0), .agg (List.replicate 32 (.lit (.int .u8 0)))]
theorem reads (os : Os) {H : Type} (enc : TypeId × Value → H) : ∃ places, DataW.whole enc Try.prog ((laidWorld os).forCall (fun _ _ => 0) ⟨#[], #[zh, zh, zh], []⟩).memory Try.f3.params.toList Rows.itemLaterSpec.vars false (#[zh, zh, zh] : Array Value).toList 8 = some ([zd, zd, zd], [], places) :=
  ⟨[], by kernel_rfl⟩

set_option maxRecDepth 100000 in
/-- THE ROW's STEP. -/
theorem lifted (os : Os) (started : os.Started) (H : Type) (enc : TypeId × Value → H) (F : Stop.Interp) :
    ReturnsInHanded {} Try.checked os 3 .any ((OpenSpec.ofChange Rows.itemLaterSpec).preRow enc Try.prog Try.f3 Rows.itemLaterRow.domain false Rows.itemLaterRow.laid) (((OpenSpec.ofChange Rows.itemLaterSpec).at F).post enc Try.prog Try.f3 false true false false) := by
  obtain ⟨places, hx⟩ := reads os enc
  refine returnsInHanded_of_row (C := Try.checked) (s := OpenSpec.ofChange Rows.itemLaterSpec) own started (by kernel_rfl) Try.func3
    (witness_row_at (enc := enc) (C := Try.checked) false (laidWorld os) #[zh, zh, zh] rfl (by kernel_rfl) (by kernel_rfl) (by kernel_rfl)
      (OpenSpec.preRow_of_cond 8 hx (by kernel_rfl) (fun k hk => by cases hk) (by kernel_rfl) (laid_met os))) ?_
  intro W base args ds gs before hval hW _ _ _ _ _ _
  exact contract H enc W base args ds gs before hval hW

theorem said : Rows.ItemLaterSaid :=
  OpenClaim.holds_of_cond 3 Try.f3 rfl rfl rfl rfl rfl rfl rfl ⟨rfl, rfl, rfl, rfl, rfl⟩ rfl rfl rfl rfl rfl (by kernel_rfl) Try.func3 (by kernel_rfl)
    (of_decide_eq_true (by kernel_rfl)) (by unfold Func.isWrapper; first | (rw [if_pos (by decide +kernel)]; kernel_rfl) | (rw [if_neg (by decide +kernel)]; exact ⟨rfl, rfl⟩))
    (fun os started H enc _ F => by rw [OpenClaim.pre_eq_preRow]; exact lifted os started H enc F)

end Go.Proofs.Ytegajjpfcjfadaa.itemLater
