/-
  THE STATEMENT FilterWishes: the card. The walk: lawFilterWishes_any; the reading: XRead.
-/
import Derived.Test.YtdgbcieopkilcaaDoorCards
import Derived.Test.YtdgbcieopkilcaaDoorTie
import Derived.Test.YtdgbcieopkilcaaDoorReadFl
import Derived.Test.YtdgbcieopkilcaaDoorRead
import Derived.Stop.LaidErr
namespace Go.Proofs.YtdgbcieopkilcaaDoor.filterWishes
open Go.ChangeShapes Go.WideShapes Go.ChangeAt Go.RowKit

theorem own : ownKnob Tryd.prog.godebug = none := by kernel_rfl
theorem laidOut : laidOutB Tryd.prog = true := by kernel_rfl
theorem gR : Tryd.prog.globalNamed "jalousie/hash.rounds" = some 2 := by kernel_rfl
theorem tR : (Tryd.prog.globals[2]?).map (·.type) = some 88 := by kernel_rfl
theorem cellsA : Tryd.prog.cellsOf 88 = 64 := by kernel_rfl
theorem cellsE : Tryd.prog.cellsOf 86 = 1 := by kernel_rfl
theorem bytesP : Tryd.prog.bytesOf 5 = 1 := by kernel_rfl

/-- WHAT THE ROW's LIST GIVES. -/
theorem tables {W : World} (h : laidMetH Tryd.prog Rows.filterWishesRow.laid W) : KsAt 2 W := by
  have h1 : laidMet Tryd.prog [("jalousie/hash.rounds", Lib.tabData .u32 kz)] W := h
  exact ks_of_tab gR (Lib.tabIs_of_head (rest := []) gR tR Tryd.underlying88 Tryd.underlying86 cellsE cellsA h1)

set_option maxRecDepth 100000 in
theorem contract (H : Type) (enc : TypeId × Value → H) (W : World) (base : Nat) (args : Array Value) (ds gs : List (DataW H)) (before : List MemPlace)
    (hval : ∀ (j : Nat) t v, Tryd.f5.params[j]? = some t → args[j]? = some v → Value.okWide Tryd.prog W .any base t v)
    (hW : DataW.Whole enc Tryd.prog Tryd.f5.params.toList Rows.filterWishesSpec.vars false W args.toList ds gs before) (hL : laidMetH Tryd.prog Rows.filterWishesRow.laid W)
    (hsz : (DataW.weightsEach Tryd.prog (Tryd.f5.params.toList ++ (OpenSpec.ofChange Rows.filterWishesSpec).bare.plain.varTypes Tryd.prog) (ds ++ gs)).all (· ≤ reachBytes) = true) :
    Calls Tryd.prog 5 args W fun e W' => ∃ v, e = .returned v ∧ Rows.filterWishesSpec.post enc Tryd.prog Tryd.f5 false true false false W args v W' := by
  have hW' := hW
  obtain ⟨p, q, hA0, hV, rfl, hfz, hnd⟩ := hW
  have hA : DataW.TrodAll enc Tryd.prog W 0 (fun _ => true) true Tryd.f5.params.toList args.toList ds p := hA0
  rw [Tryd.params5] at hA hval hsz
  obtain ⟨v0, vs0, d0, ds0, p0, q0, hargs, rfl, rfl, h0, r0⟩ := trodAll_cons hA
  obtain ⟨v1, vs1, d1, ds1, p1, q1, e1, rfl, rfl, h1, r1⟩ := trodAll_cons r0
  obtain ⟨v2, vs2, d2, ds2, p2, q2, e2, rfl, rfl, h2, r2⟩ := trodAll_cons r1
  obtain ⟨rfl, rfl, rfl⟩ := trodAll_nil r2
  subst e1
  subst e2
  obtain rfl : args = #[v0, v1, v2] := by cases args; simp_all
  obtain ⟨rfl, rfl⟩ := trodVars_none hV
  have lt0 : ∀ x ∈ p0, x.block < W.heap.size := by obtain ⟨m, hm⟩ := h0; exact DataW.trod_lt m _ _ _ hm
  have lt1 : ∀ x ∈ p1, x.block < W.heap.size := by obtain ⟨m, hm⟩ := h1; exact DataW.trod_lt m _ _ _ hm
  have lt2 : ∀ x ∈ p2, x.block < W.heap.size := by obtain ⟨m, hm⟩ := h2; exact DataW.trod_lt m _ _ _ hm
  have k0 := h0
  obtain ⟨n0, rfl, rfl, rfl⟩ := open_bool Tryd.underlying4 (hval 0 4 v0 rfl rfl) h0
  have k1 := h1
  obtain ⟨b1, a1, n1, c1, l1, rfl, hl1⟩ := read_fl (hval 1 44 v1 rfl rfl) (Rd.of_trod h1 hsz (j := 1) rfl rfl)
  have k2 := h2
  obtain ⟨x2, ts2, rfl, ho2, ht2⟩ := read_hd (hval 2 48 v2 rfl rfl) (Rd.of_trod h2 hsz (j := 2) rfl rfl)
  have hk := tables hL
  clear hA0
  simp only [List.append_nil] at hW'
  refine (lawFilterWishes_any n0 b1 a1 n1 c1 l1 x2 ts2 W hl1 ho2 ht2 hk).mono fun e W' ⟨he, bel⟩ => ?_
  subst he
  exact ⟨_, rfl, _, _, _, [], _, [], hW', trodAll_mk1 (shut_bool Tryd.underlying4 _), (trodAll_cons_mk (Below.trod laidOut (by kernel_rfl) (of_decide_eq_true (by kernel_rfl)) k0 bel lt0) (trodAll_cons_mk (Below.trod laidOut (by kernel_rfl) (of_decide_eq_true (by kernel_rfl)) k1 bel lt1) (trodAll_cons_mk (Below.trod laidOut (by kernel_rfl) (of_decide_eq_true (by kernel_rfl)) k2 bel lt2) trodAll_mk0))), rfl, Below.frame bel _, fun h => by cases h⟩

/-- A table's block as its initialiser lays it. -/
def layTab : Obj → Obj
  | .cells _ t frozen => .cells ⟨kz.map (Value.int .u32)⟩ t frozen
  | o => o
noncomputable def laidWorld (os : Os) : World :=
  { World.holding Tryd.prog os ⟨#[], #[], []⟩ with heap := (World.holding Tryd.prog os ⟨#[], #[], []⟩).heap.modify 2 layTab }
theorem laid_met (os : Os) : laidMet Tryd.prog Rows.filterWishesRow.laid ((laidWorld os).forCall (fun _ _ => 0) ⟨#[], #[.bool false, .agg #[.bool false, .slice none 0 0], .agg (hdV hdZz)], []⟩).memory :=
  laidMet_of_run' 8 (by kernel_rfl) (by kernel_rfl)
theorem reads (os : Os) {H : Type} (enc : TypeId × Value → H) : ∃ places, DataW.whole enc Tryd.prog ((laidWorld os).forCall (fun _ _ => 0) ⟨#[], #[.bool false, .agg #[.bool false, .slice none 0 0], .agg (hdV hdZz)], []⟩).memory Tryd.f5.params.toList Rows.filterWishesSpec.vars false (#[Value.bool false, .agg #[.bool false, .slice none 0 0], .agg (hdV hdZz)] : Array Value).toList 8 = some ([.lit (.bool false), .agg [.lit (.bool false), .nil], .agg [.lit (.int .i64 0), .lit (.int .u64 0), .agg (List.replicate 32 (.lit (.int .u8 0))), .lit (.int .i64 0), .lit (.bool false), .lit (.int .u64 0), .agg (List.replicate 16 (.lit (.int .u8 0))), .nil, .agg (List.replicate 6 (.lit (.int .u64 0))), .agg (List.replicate 32 (.lit (.int .u8 0))), .lit (.int .i64 0), .agg (List.replicate 32 (.lit (.int .u8 0)))]], [], places) :=
  ⟨[], by kernel_rfl⟩

set_option maxRecDepth 100000 in
/-- THE ROW's STEP. -/
theorem lifted (os : Os) (started : os.Started) (H : Type) (enc : TypeId × Value → H) (F : Stop.Interp) :
    ReturnsInHanded {} Tryd.checked os 5 .any ((OpenSpec.ofChange Rows.filterWishesSpec).preRow enc Tryd.prog Tryd.f5 Rows.filterWishesRow.domain false Rows.filterWishesRow.laid) (((OpenSpec.ofChange Rows.filterWishesSpec).at F).post enc Tryd.prog Tryd.f5 false true false false) := by
  obtain ⟨places, hx⟩ := reads os enc
  refine returnsInHanded_of_row (C := Tryd.checked) (s := OpenSpec.ofChange Rows.filterWishesSpec) own started (by kernel_rfl) Tryd.func5
    (witness_row_at (enc := enc) (C := Tryd.checked) false (laidWorld os) #[.bool false, .agg #[.bool false, .slice none 0 0], .agg (hdV hdZz)] rfl (by kernel_rfl) (by kernel_rfl) (by kernel_rfl)
      (OpenSpec.preRow_of_cond 8 hx (by kernel_rfl) (fun k hk => by cases hk) (by kernel_rfl) (laid_met os))) ?_
  intro W base args ds gs before hval hW _ _ hsz hL _ _
  exact contract H enc W base args ds gs before hval hW hL hsz

theorem said : Rows.FilterWishesSaid :=
  OpenClaim.holds_of_cond 5 Tryd.f5 rfl rfl rfl rfl rfl rfl rfl ⟨rfl, rfl, rfl, rfl, rfl⟩ rfl rfl rfl rfl rfl (by kernel_rfl) Tryd.func5 (by kernel_rfl)
    (of_decide_eq_true (by kernel_rfl)) (by unfold Func.isWrapper; first | (rw [if_pos (by decide +kernel)]; kernel_rfl) | (rw [if_neg (by decide +kernel)]; exact ⟨rfl, rfl⟩))
    (fun os started H enc _ F => by rw [OpenClaim.pre_eq_preRow]; exact lifted os started H enc F)

/-- No parameter wants a stand-in; the program's own looks are off. -/
theorem plain (f : FuncId) (fn : Func) (hf : Tryd.pinned.checked.prog.funcNamed "jalousie/jalousielaw19.FilterWishes" = some f) (hfn : Tryd.pinned.checked.prog.funcs[f]? = some fn) :
    false = Tryd.pinned.checked.prog.looks [] ∧ ∀ (j : Nat) t, fn.params[j]? = some t → Tryd.pinned.checked.prog.wantsStandIn t = false := by
  obtain rfl : f = 5 := Option.some.inj ((show Tryd.prog.funcNamed "jalousie/jalousielaw19.FilterWishes" = some 5 by kernel_rfl).symm.trans hf) |>.symm
  obtain rfl : fn = Tryd.f5 := (Option.some.inj (Tryd.func5.symm.trans hfn)).symm
  refine ⟨by kernel_rfl, fun j t ht => ?_⟩
  rw [Tryd.params5] at ht
  have hm := Array.mem_of_getElem? ht
  simp only [List.mem_toArray, List.mem_cons, List.not_mem_nil, or_false] at hm
  rcases hm with rfl | rfl | rfl
  · exact (show Tryd.prog.wantsStandIn 4 = false by kernel_rfl)
  · exact (show Tryd.prog.wantsStandIn 44 = false by kernel_rfl)
  · exact (show Tryd.prog.wantsStandIn 48 = false by kernel_rfl)

/-- THE CARD. -/
theorem card : Rows.FilterWishesCardSaid :=
  Claim7.holds_tied_plain_at .later [] _ _ _ _ said (fun _ h => by cases h) (by kernel_rfl) (fun _ h => by cases h) filterWishes_row_tie rfl ⟨rfl, rfl⟩ (by kernel_rfl) rfl plain (by kernel_rfl)

end Go.Proofs.YtdgbcieopkilcaaDoor.filterWishes
