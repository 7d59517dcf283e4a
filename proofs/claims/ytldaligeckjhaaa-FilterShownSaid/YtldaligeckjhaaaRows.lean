/-
  No cell of these rows narrows 'for every input' (looked for: loops, veiled, ifaces, maps, wideKeys, modest, calm, conditions, laid).
  DERIVED. THE GIVEN ROWS OF THIS SEAT. 7 by the template 'for every input the law returns true; each argument reads behind the call as it read before'; 0 by the template 'total and deterministic' (their statements: YtldaligeckjhaaaTotals.lean).
  GIVEN WITH THE SEED: the statements are not yours to turn. If you find one false, say at which input.
  Laid BY PROGRAM, IN A SANDBOX (cutbox-rows.mjs): the forced cells as the released guide's own fill.sh prints them over the translation e187ea9da297156d… (all of the seat's roots in one cut). By AI agents, Wed Nov 11 2026. No macro, syntax, notation, axiom, sorry.
-/
import Derived.Test.YtldaligeckjhaaaChecked
import GoSem.Claim
import GoSem.ClaimJoined
import GoSem.ClaimMapViews
import Derived.JoinedTies
import Derived.KernelRfl
namespace Go.Proofs.Ytldaligeckjhaaa
/- THE CELL 'sum', in the pinned program and in every row, IS THE sha256 OF THE DUMP (.gsa) THAT YtldaligeckjhaaaProg.lean LOADS. Nothing in Lean hashes anything: it is a label: what it is worth is what the hold of that sum in a sandbox is worth. -/
noncomputable def Try.pinned : Pinned := { name := "ytldaligeckjhaaa", sum := "e187ea9da297156d69010b369ba29a33137e4662bcfe04d055a2591dc3e16bc9", checked := Try.checked }
namespace Rows
def none {H : Type} : Left H := { results := [], args := [] }

/-- 'jalousielaw18.ItemMore': WHATEVER THE INPUT: true; the input reads as it did. -/
def itemMoreSpec : ChangeSpec := { name := "itemMore", fn := fun _ => fun
  | [d1, d2] => { results := [.lit (.bool true)], args := [d1, d2] }
  | _ => none }
def itemMoreRow : OpenClaim := { program := "ytldaligeckjhaaa", sum := "e187ea9da297156d69010b369ba29a33137e4662bcfe04d055a2591dc3e16bc9", func := "jalousie/jalousielaw18.ItemMore", spec := "itemMore", inPlace := ["internal/bytealg.Compare"], unfollowed := true, recurses := true, plainKeys := false, apart := false }
def ItemMoreSaid : Prop := itemMoreRow.holds Try.pinned (OpenSpec.ofChange itemMoreSpec)

/-- ITS FALSE NEIGHBOUR: 'it returns false'. Refute it at one input. -/
def itemMoreWrong : ChangeSpec := { name := "itemMore", fn := fun _ => fun
  | [d1, d2] => { results := [.lit (.bool false)], args := [d1, d2] }
  | _ => none }
def ItemMoreWrongFalsely : Prop := itemMoreRow.holds Try.pinned (OpenSpec.ofChange itemMoreWrong)

/-- 'jalousielaw18.ItemOf': WHATEVER THE INPUT: true; the input reads as it did. -/
def itemOfSpec : ChangeSpec := { name := "itemOf", fn := fun _ => fun
  | [d1, d2] => { results := [.lit (.bool true)], args := [d1, d2] }
  | _ => none }
def itemOfRow : OpenClaim := { program := "ytldaligeckjhaaa", sum := "e187ea9da297156d69010b369ba29a33137e4662bcfe04d055a2591dc3e16bc9", func := "jalousie/jalousielaw18.ItemOf", spec := "itemOf", inPlace := ["internal/bytealg.Compare"], unfollowed := true, recurses := true, plainKeys := false, apart := false }
def ItemOfSaid : Prop := itemOfRow.holds Try.pinned (OpenSpec.ofChange itemOfSpec)

/-- ITS FALSE NEIGHBOUR: 'it returns false'. Refute it at one input. -/
def itemOfWrong : ChangeSpec := { name := "itemOf", fn := fun _ => fun
  | [d1, d2] => { results := [.lit (.bool false)], args := [d1, d2] }
  | _ => none }
def ItemOfWrongFalsely : Prop := itemOfRow.holds Try.pinned (OpenSpec.ofChange itemOfWrong)

/-- 'jalousielaw18.ItemTwice': WHATEVER THE INPUT: true; the input reads as it did. -/
def itemTwiceSpec : ChangeSpec := { name := "itemTwice", fn := fun _ => fun
  | [d] => { results := [.lit (.bool true)], args := [d] }
  | _ => none }
def itemTwiceRow : OpenClaim := { program := "ytldaligeckjhaaa", sum := "e187ea9da297156d69010b369ba29a33137e4662bcfe04d055a2591dc3e16bc9", func := "jalousie/jalousielaw18.ItemTwice", spec := "itemTwice", inPlace := ["internal/bytealg.Compare"], unfollowed := true, recurses := true, plainKeys := false, apart := false }
def ItemTwiceSaid : Prop := itemTwiceRow.holds Try.pinned (OpenSpec.ofChange itemTwiceSpec)

/-- ITS FALSE NEIGHBOUR: 'it returns false'. Refute it at one input. -/
def itemTwiceWrong : ChangeSpec := { name := "itemTwice", fn := fun _ => fun
  | [d] => { results := [.lit (.bool false)], args := [d] }
  | _ => none }
def ItemTwiceWrongFalsely : Prop := itemTwiceRow.holds Try.pinned (OpenSpec.ofChange itemTwiceWrong)

/-- 'jalousielaw18.ItemTurned': WHATEVER THE INPUT: true; the input reads as it did. -/
def itemTurnedSpec : ChangeSpec := { name := "itemTurned", fn := fun _ => fun
  | [d1, d2] => { results := [.lit (.bool true)], args := [d1, d2] }
  | _ => none }
def itemTurnedRow : OpenClaim := { program := "ytldaligeckjhaaa", sum := "e187ea9da297156d69010b369ba29a33137e4662bcfe04d055a2591dc3e16bc9", func := "jalousie/jalousielaw18.ItemTurned", spec := "itemTurned", inPlace := ["internal/bytealg.Compare"], unfollowed := true, recurses := true, plainKeys := false, apart := false }
def ItemTurnedSaid : Prop := itemTurnedRow.holds Try.pinned (OpenSpec.ofChange itemTurnedSpec)

/-- ITS FALSE NEIGHBOUR: 'it returns false'. Refute it at one input. -/
def itemTurnedWrong : ChangeSpec := { name := "itemTurned", fn := fun _ => fun
  | [d1, d2] => { results := [.lit (.bool false)], args := [d1, d2] }
  | _ => none }
def ItemTurnedWrongFalsely : Prop := itemTurnedRow.holds Try.pinned (OpenSpec.ofChange itemTurnedWrong)

/-- 'jalousielaw19.FilterAll': WHATEVER THE INPUT: true; the input reads as it did. -/
def filterAllSpec : ChangeSpec := { name := "filterAll", fn := fun _ => fun
  | [d] => { results := [.lit (.bool true)], args := [d] }
  | _ => none }
def filterAllRow : OpenClaim := { program := "ytldaligeckjhaaa", sum := "e187ea9da297156d69010b369ba29a33137e4662bcfe04d055a2591dc3e16bc9", func := "jalousie/jalousielaw19.FilterAll", spec := "filterAll", inPlace := ["internal/bytealg.Compare"], unfollowed := true, recurses := true, plainKeys := false, apart := false }
def FilterAllSaid : Prop := filterAllRow.holds Try.pinned (OpenSpec.ofChange filterAllSpec)

/-- ITS FALSE NEIGHBOUR: 'it returns false'. Refute it at one input. -/
def filterAllWrong : ChangeSpec := { name := "filterAll", fn := fun _ => fun
  | [d] => { results := [.lit (.bool false)], args := [d] }
  | _ => none }
def FilterAllWrongFalsely : Prop := filterAllRow.holds Try.pinned (OpenSpec.ofChange filterAllWrong)

/-- 'jalousielaw19.FilterShown': WHATEVER THE INPUT: true; the input reads as it did. -/
def filterShownSpec : ChangeSpec := { name := "filterShown", fn := fun _ => fun
  | [d1, d2] => { results := [.lit (.bool true)], args := [d1, d2] }
  | _ => none }
def filterShownRow : OpenClaim := { program := "ytldaligeckjhaaa", sum := "e187ea9da297156d69010b369ba29a33137e4662bcfe04d055a2591dc3e16bc9", func := "jalousie/jalousielaw19.FilterShown", spec := "filterShown", inPlace := ["internal/bytealg.Compare"], unfollowed := true, recurses := true, plainKeys := false, apart := false }
def FilterShownSaid : Prop := filterShownRow.holds Try.pinned (OpenSpec.ofChange filterShownSpec)

/-- ITS FALSE NEIGHBOUR: 'it returns false'. Refute it at one input. -/
def filterShownWrong : ChangeSpec := { name := "filterShown", fn := fun _ => fun
  | [d1, d2] => { results := [.lit (.bool false)], args := [d1, d2] }
  | _ => none }
def FilterShownWrongFalsely : Prop := filterShownRow.holds Try.pinned (OpenSpec.ofChange filterShownWrong)

/-- 'jalousielaw19.FilterWider': WHATEVER THE INPUT: true; the input reads as it did. -/
def filterWiderSpec : ChangeSpec := { name := "filterWider", fn := fun _ => fun
  | [d1, d2, d3] => { results := [.lit (.bool true)], args := [d1, d2, d3] }
  | _ => none }
def filterWiderRow : OpenClaim := { program := "ytldaligeckjhaaa", sum := "e187ea9da297156d69010b369ba29a33137e4662bcfe04d055a2591dc3e16bc9", func := "jalousie/jalousielaw19.FilterWider", spec := "filterWider", inPlace := ["internal/bytealg.Compare"], unfollowed := true, recurses := true, plainKeys := false, apart := false }
def FilterWiderSaid : Prop := filterWiderRow.holds Try.pinned (OpenSpec.ofChange filterWiderSpec)

/-- ITS FALSE NEIGHBOUR: 'it returns false'. Refute it at one input. -/
def filterWiderWrong : ChangeSpec := { name := "filterWider", fn := fun _ => fun
  | [d1, d2, d3] => { results := [.lit (.bool false)], args := [d1, d2, d3] }
  | _ => none }
def FilterWiderWrongFalsely : Prop := filterWiderRow.holds Try.pinned (OpenSpec.ofChange filterWiderWrong)

/- THE SECOND FORM. 'bulk': how many values and letters a reading holds, each counted each time it is reached (what is shared counts as often as it is met; a slice's spare places count too). A statement '..UptoSaid' is the law's where the arguments, and the package variables that the reading takes, are together of bulk at most 1048576: NARROWER than '..Said'. Prove '..Said' where nothing that the law and all that it calls make is longer than what came in: it says more and counts as full. Else prove '..UptoSaid'. A law counts once. -/
mutual
def uptoBulk {H : Type} : DataW H → Nat
  | .lit (.string bytes) => bytes.length + 1
  | .lit _ => 1
  | .nil => 1
  | .ptr d => uptoBulk d + 1
  | .slice elems spare => uptoBulkAll elems + uptoBulkAll spare + 1
  | .agg parts => uptoBulkAll parts + 1
  | .iface _ d => uptoBulk d + 1
  | .map entries => uptoBulkEntries entries + 1
  | .held _ => 1
def uptoBulkAll {H : Type} : List (DataW H) → Nat
  | [] => 0
  | d :: r => uptoBulk d + uptoBulkAll r
def uptoBulkEntries {H : Type} : List (Lit × DataW H) → Nat
  | [] => 0
  | x :: r => uptoBulkEntry x + uptoBulkEntries r
def uptoBulkEntry {H : Type} : Lit × DataW H → Nat
  | (.string bytes, d) => bytes.length + uptoBulk d + 1
  | (_, d) => uptoBulk d + 1
 end
def uptoSmall : (H : Type) → List (DataW H) → Bool := fun _ ds => decide (uptoBulkAll ds ≤ 1048576)
def OpenSpec.upto (s : _root_.Go.ChangeSpec) : _root_.Go.OpenSpec := { _root_.Go.OpenSpec.ofChange s with cond := some uptoSmall }

/-- 'jalousielaw18.ItemMore', WHERE WHAT IT READS IS OF BULK AT MOST 1048576: true; the input reads as it did. -/
def itemMoreUptoRow : OpenClaim := { program := "ytldaligeckjhaaa", sum := "e187ea9da297156d69010b369ba29a33137e4662bcfe04d055a2591dc3e16bc9", func := "jalousie/jalousielaw18.ItemMore", spec := "itemMore", inPlace := ["internal/bytealg.Compare"], unfollowed := true, recurses := true, plainKeys := false, apart := false, narrowed := true }
def ItemMoreUptoSaid : Prop := itemMoreUptoRow.holds Try.pinned (OpenSpec.upto itemMoreSpec)

/-- 'jalousielaw18.ItemOf', WHERE WHAT IT READS IS OF BULK AT MOST 1048576: true; the input reads as it did. -/
def itemOfUptoRow : OpenClaim := { program := "ytldaligeckjhaaa", sum := "e187ea9da297156d69010b369ba29a33137e4662bcfe04d055a2591dc3e16bc9", func := "jalousie/jalousielaw18.ItemOf", spec := "itemOf", inPlace := ["internal/bytealg.Compare"], unfollowed := true, recurses := true, plainKeys := false, apart := false, narrowed := true }
def ItemOfUptoSaid : Prop := itemOfUptoRow.holds Try.pinned (OpenSpec.upto itemOfSpec)

/-- 'jalousielaw18.ItemTwice', WHERE WHAT IT READS IS OF BULK AT MOST 1048576: true; the input reads as it did. -/
def itemTwiceUptoRow : OpenClaim := { program := "ytldaligeckjhaaa", sum := "e187ea9da297156d69010b369ba29a33137e4662bcfe04d055a2591dc3e16bc9", func := "jalousie/jalousielaw18.ItemTwice", spec := "itemTwice", inPlace := ["internal/bytealg.Compare"], unfollowed := true, recurses := true, plainKeys := false, apart := false, narrowed := true }
def ItemTwiceUptoSaid : Prop := itemTwiceUptoRow.holds Try.pinned (OpenSpec.upto itemTwiceSpec)

/-- 'jalousielaw18.ItemTurned', WHERE WHAT IT READS IS OF BULK AT MOST 1048576: true; the input reads as it did. -/
def itemTurnedUptoRow : OpenClaim := { program := "ytldaligeckjhaaa", sum := "e187ea9da297156d69010b369ba29a33137e4662bcfe04d055a2591dc3e16bc9", func := "jalousie/jalousielaw18.ItemTurned", spec := "itemTurned", inPlace := ["internal/bytealg.Compare"], unfollowed := true, recurses := true, plainKeys := false, apart := false, narrowed := true }
def ItemTurnedUptoSaid : Prop := itemTurnedUptoRow.holds Try.pinned (OpenSpec.upto itemTurnedSpec)

/-- 'jalousielaw19.FilterAll', WHERE WHAT IT READS IS OF BULK AT MOST 1048576: true; the input reads as it did. -/
def filterAllUptoRow : OpenClaim := { program := "ytldaligeckjhaaa", sum := "e187ea9da297156d69010b369ba29a33137e4662bcfe04d055a2591dc3e16bc9", func := "jalousie/jalousielaw19.FilterAll", spec := "filterAll", inPlace := ["internal/bytealg.Compare"], unfollowed := true, recurses := true, plainKeys := false, apart := false, narrowed := true }
def FilterAllUptoSaid : Prop := filterAllUptoRow.holds Try.pinned (OpenSpec.upto filterAllSpec)

/-- 'jalousielaw19.FilterShown', WHERE WHAT IT READS IS OF BULK AT MOST 1048576: true; the input reads as it did. -/
def filterShownUptoRow : OpenClaim := { program := "ytldaligeckjhaaa", sum := "e187ea9da297156d69010b369ba29a33137e4662bcfe04d055a2591dc3e16bc9", func := "jalousie/jalousielaw19.FilterShown", spec := "filterShown", inPlace := ["internal/bytealg.Compare"], unfollowed := true, recurses := true, plainKeys := false, apart := false, narrowed := true }
def FilterShownUptoSaid : Prop := filterShownUptoRow.holds Try.pinned (OpenSpec.upto filterShownSpec)

/-- 'jalousielaw19.FilterWider', WHERE WHAT IT READS IS OF BULK AT MOST 1048576: true; the input reads as it did. -/
def filterWiderUptoRow : OpenClaim := { program := "ytldaligeckjhaaa", sum := "e187ea9da297156d69010b369ba29a33137e4662bcfe04d055a2591dc3e16bc9", func := "jalousie/jalousielaw19.FilterWider", spec := "filterWider", inPlace := ["internal/bytealg.Compare"], unfollowed := true, recurses := true, plainKeys := false, apart := false, narrowed := true }
def FilterWiderUptoSaid : Prop := filterWiderUptoRow.holds Try.pinned (OpenSpec.upto filterWiderSpec)

end Rows
end Go.Proofs.Ytldaligeckjhaaa
