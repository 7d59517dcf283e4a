/-
  THE STATEMENT IndexFull: the card. The walk: lawFull_any; the reading: XRead.
-/
import Derived.Test.YtihlpfdhallfpaaDoorCards
import Derived.Test.YtihlpfdhallfpaaDoorTie
import Derived.Test.YtihlpfdhallfpaaDoorLawFull
import Derived.Test.YtihlpfdhallfpaaDoorRead
import Derived.Stop.LaidErr
namespace Go.Proofs.YtihlpfdhallfpaaDoor.indexFull
open Go.ChangeShapes Go.WideShapes Go.ChangeAt Go.RowKit

theorem own : ownKnob Tryd.prog.godebug = none := by kernel_rfl
theorem laidOut : laidOutB Tryd.prog = true := by kernel_rfl
theorem gR : Tryd.prog.globalNamed "jalousie/hash.rounds" = some 1 := by kernel_rfl
theorem tR : (Tryd.prog.globals[1]?).map (·.type) = some 79 := by kernel_rfl
theorem gW : Tryd.prog.globalNamed "jalousie/jalousieref01.words" = some 0 := by kernel_rfl
theorem tW : (Tryd.prog.globals[0]?).map (·.type) = some 79 := by kernel_rfl
theorem cellsA : Tryd.prog.cellsOf 79 = 64 := by kernel_rfl
theorem cellsE : Tryd.prog.cellsOf 77 = 1 := by kernel_rfl
theorem bytesP : Tryd.prog.bytesOf 5 = 1 := by kernel_rfl

/-- WHAT THE ROW's LIST GIVES. -/
theorem tables {W : World} (h : laidMetH Tryd.prog Rows.indexFullRow.laid W) : KsAt 1 W ∧ KsAt 0 W := by
  have h1 : laidMet Tryd.prog [("jalousie/jalousieref01.words", Lib.tabData .u32 kz), ("jalousie/hash.rounds", Lib.tabData .u32 kz)] W := h
  exact ⟨ks_of_tab gR (Lib.tabIs_of_head (rest := []) gR tR Tryd.underlying79 Tryd.underlying77 cellsE cellsA h1.tail), ks_of_tab gW (Lib.tabIs_of_head gW tW Tryd.underlying79 Tryd.underlying77 cellsE cellsA h1)⟩

set_option maxRecDepth 100000 in
theorem contract (H : Type) (enc : TypeId × Value → H) (W : World) (base : Nat) (args : Array Value) (ds gs : List (DataW H)) (before : List MemPlace)
    (hval : ∀ (j : Nat) t v, Tryd.f3.params[j]? = some t → args[j]? = some v → Value.okWide Tryd.prog W .any base t v)
    (hW : DataW.Whole enc Tryd.prog Tryd.f3.params.toList Rows.indexFullSpec.vars false W args.toList ds gs before) (hL : laidMetH Tryd.prog Rows.indexFullRow.laid W)
    (hsz : (DataW.weightsEach Tryd.prog (Tryd.f3.params.toList ++ (OpenSpec.ofChange Rows.indexFullSpec).bare.plain.varTypes Tryd.prog) (ds ++ gs)).all (· ≤ reachBytes) = true) :
    Calls Tryd.prog 3 args W fun e W' => ∃ v, e = .returned v ∧ Rows.indexFullSpec.post enc Tryd.prog Tryd.f3 false true false false W args v W' := by
  have hW' := hW
  obtain ⟨p, q, hA0, hV, rfl, hfz, hnd⟩ := hW
  have hA : DataW.TrodAll enc Tryd.prog W 0 (fun _ => true) true Tryd.f3.params.toList args.toList ds p := hA0
  rw [Tryd.params3] at hA hval hsz
  obtain ⟨v0, vs0, d0, ds0, p0, q0, hargs, rfl, rfl, h0, r0⟩ := trodAll_cons hA
  obtain ⟨rfl, rfl, rfl⟩ := trodAll_nil r0
  obtain rfl : args = #[v0] := by cases args; simp_all
  obtain ⟨rfl, rfl⟩ := trodVars_none hV
  have lt0 : ∀ x ∈ p0, x.block < W.heap.size := by obtain ⟨m, hm⟩ := h0; exact DataW.trod_lt m _ _ _ hm
  have k0 := h0
  obtain ⟨n0, rfl, rfl, rfl, hw0⟩ := open_int Tryd.underlying5 (hval 0 5 v0 rfl rfl) h0
  obtain ⟨hk, hk2⟩ := tables hL
  clear hA0
  simp only [List.append_nil] at hW'
  refine (lawFull_any n0 W (bounds_u8 hw0) hk hk2).mono fun e W' ⟨he, bel⟩ => ?_
  subst he
  exact ⟨_, rfl, _, _, _, [], _, [], hW', trodAll_mk1 (shut_bool Tryd.underlying4 _), (trodAll_cons_mk (Below.trod laidOut (by kernel_rfl) (of_decide_eq_true (by kernel_rfl)) k0 bel lt0) trodAll_mk0), rfl, Below.frame bel _, fun h => by cases h⟩

/-- A table's block as its initialiser lays it. -/
def layTab : Obj → Obj
  | .cells _ t frozen => .cells ⟨kz.map (Value.int .u32)⟩ t frozen
  | o => o
noncomputable def laidWorld (os : Os) : World :=
  { World.holding Tryd.prog os ⟨#[], #[], []⟩ with heap := ((World.holding Tryd.prog os ⟨#[], #[], []⟩).heap.modify 0 layTab).modify 1 layTab }
theorem laid_met (os : Os) : laidMet Tryd.prog Rows.indexFullRow.laid ((laidWorld os).forCall (fun _ _ => 0) ⟨#[], #[.int .u8 0], []⟩).memory :=
  laidMet_of_run' 8 (by kernel_rfl) (by kernel_rfl)
theorem reads (os : Os) {H : Type} (enc : TypeId × Value → H) : ∃ places, DataW.whole enc Tryd.prog ((laidWorld os).forCall (fun _ _ => 0) ⟨#[], #[.int .u8 0], []⟩).memory Tryd.f3.params.toList Rows.indexFullSpec.vars false (#[Value.int .u8 0] : Array Value).toList 8 = some ([.lit (.int .u8 0)], [], places) :=
  ⟨[], by kernel_rfl⟩

set_option maxRecDepth 100000 in
/-- THE ROW's STEP. -/
theorem lifted (os : Os) (started : os.Started) (H : Type) (enc : TypeId × Value → H) (F : Stop.Interp) :
    ReturnsInHanded {} Tryd.checked os 3 .any ((OpenSpec.ofChange Rows.indexFullSpec).preRow enc Tryd.prog Tryd.f3 Rows.indexFullRow.domain false Rows.indexFullRow.laid) (((OpenSpec.ofChange Rows.indexFullSpec).at F).post enc Tryd.prog Tryd.f3 false true false false) := by
  obtain ⟨places, hx⟩ := reads os enc
  refine returnsInHanded_of_row (C := Tryd.checked) (s := OpenSpec.ofChange Rows.indexFullSpec) own started (by kernel_rfl) Tryd.func3
    (witness_row_at (enc := enc) (C := Tryd.checked) false (laidWorld os) #[.int .u8 0] rfl (by kernel_rfl) (by kernel_rfl) (by kernel_rfl)
      (OpenSpec.preRow_of_cond 8 hx (by kernel_rfl) (fun k hk => by cases hk) (by kernel_rfl) (laid_met os))) ?_
  intro W base args ds gs before hval hW _ _ hsz hL _ _
  exact contract H enc W base args ds gs before hval hW hL hsz

theorem said : Rows.IndexFullSaid :=
  OpenClaim.holds_of_cond 3 Tryd.f3 rfl rfl rfl rfl rfl rfl rfl ⟨rfl, rfl, rfl, rfl, rfl⟩ rfl rfl rfl rfl rfl (by kernel_rfl) Tryd.func3 (by kernel_rfl)
    (of_decide_eq_true (by kernel_rfl)) (by unfold Func.isWrapper; first | (rw [if_pos (by decide +kernel)]; kernel_rfl) | (rw [if_neg (by decide +kernel)]; exact ⟨rfl, rfl⟩))
    (fun os started H enc _ F => by rw [OpenClaim.pre_eq_preRow]; exact lifted os started H enc F)

/-- No parameter wants a stand-in; the program's own looks are off. -/
theorem plain (f : FuncId) (fn : Func) (hf : Tryd.pinned.checked.prog.funcNamed "jalousie/jalousielaw20.IndexFull" = some f) (hfn : Tryd.pinned.checked.prog.funcs[f]? = some fn) :
    false = Tryd.pinned.checked.prog.looks [] ∧ ∀ (j : Nat) t, fn.params[j]? = some t → Tryd.pinned.checked.prog.wantsStandIn t = false := by
  obtain rfl : f = 3 := Option.some.inj ((show Tryd.prog.funcNamed "jalousie/jalousielaw20.IndexFull" = some 3 by kernel_rfl).symm.trans hf) |>.symm
  obtain rfl : fn = Tryd.f3 := (Option.some.inj (Tryd.func3.symm.trans hfn)).symm
  refine ⟨by kernel_rfl, fun j t ht => ?_⟩
  rw [Tryd.params3] at ht
  have hm := Array.mem_of_getElem? ht
  simp only [List.mem_toArray, List.mem_cons, List.not_mem_nil, or_false] at hm
  rcases hm with rfl
  · exact (show Tryd.prog.wantsStandIn 5 = false by kernel_rfl)

/-- THE CARD. -/
theorem card : Rows.IndexFullCardSaid :=
  Claim7.holds_tied_plain_at .later [] _ _ _ _ said (fun _ h => by cases h) (by kernel_rfl) (fun _ h => by cases h) indexFull_row_tie rfl ⟨rfl, rfl⟩ (by kernel_rfl) rfl plain (by kernel_rfl)

end Go.Proofs.YtihlpfdhallfpaaDoor.indexFull
