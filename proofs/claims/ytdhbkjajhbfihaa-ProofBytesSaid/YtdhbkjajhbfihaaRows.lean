/-
  No cell of these rows narrows 'for every input' (looked for: loops, veiled, ifaces, maps, wideKeys, modest, calm, conditions, laid).
  DERIVED. THE GIVEN ROWS OF THIS SEAT. 2 by the template 'for every input the law returns true; each argument reads behind the call as it read before'; 0 by the template 'total and deterministic' (their statements: YtdhbkjajhbfihaaTotals.lean).
  GIVEN WITH THE SEED: the statements are not yours to turn. If you find one false, say at which input.
  Laid BY PROGRAM, IN A SANDBOX (cutbox-rows.mjs): the forced cells as the released guide's own fill.sh prints them over the translation 96eb67bc91f1e1df… (all of the seat's roots in one cut). By AI agents, Wed Nov 11 2026. No macro, syntax, notation, axiom, sorry.
-/
import Derived.Test.YtdhbkjajhbfihaaChecked
import GoSem.Claim
import GoSem.ClaimJoined
import GoSem.ClaimMapViews
import Derived.JoinedTies
import Derived.KernelRfl
namespace Go.Proofs.Ytdhbkjajhbfihaa
/- THE CELL 'sum', in the pinned program and in every row, IS THE sha256 OF THE DUMP (.gsa) THAT YtdhbkjajhbfihaaProg.lean LOADS. Nothing in Lean hashes anything: it is a label: what it is worth is what the hold of that sum in a sandbox is worth. -/
noncomputable def Try.pinned : Pinned := { name := "ytdhbkjajhbfihaa", sum := "96eb67bc91f1e1dff35e3861b4000e5c44cdfd93a8276aa76ac3a6064d74ed85", checked := Try.checked }
namespace Rows
def none {H : Type} : Left H := { results := [], args := [] }

/-- 'jalousielaw15.ProofBytes': WHATEVER THE INPUT: true; the input reads as it did. -/
def proofBytesSpec : ChangeSpec := { name := "proofBytes", fn := fun _ => fun
  | [d] => { results := [.lit (.bool true)], args := [d] }
  | _ => none }
def proofBytesRow : OpenClaim := { program := "ytdhbkjajhbfihaa", sum := "96eb67bc91f1e1dff35e3861b4000e5c44cdfd93a8276aa76ac3a6064d74ed85", func := "jalousie/jalousielaw15.ProofBytes", spec := "proofBytes", inPlace := ["internal/bytealg.Compare"], unfollowed := true, recurses := true, apart := false }
def ProofBytesSaid : Prop := proofBytesRow.holds Try.pinned (OpenSpec.ofChange proofBytesSpec)

/-- ITS FALSE NEIGHBOUR: 'it returns false'. Refute it at one input. -/
def proofBytesWrong : ChangeSpec := { name := "proofBytes", fn := fun _ => fun
  | [d] => { results := [.lit (.bool false)], args := [d] }
  | _ => none }
def ProofBytesWrongFalsely : Prop := proofBytesRow.holds Try.pinned (OpenSpec.ofChange proofBytesWrong)

/-- 'jalousielaw15.ProofParses': WHATEVER THE INPUT: true; the input reads as it did. -/
def proofParsesSpec : ChangeSpec := { name := "proofParses", fn := fun _ => fun
  | [d] => { results := [.lit (.bool true)], args := [d] }
  | _ => none }
def proofParsesRow : OpenClaim := { program := "ytdhbkjajhbfihaa", sum := "96eb67bc91f1e1dff35e3861b4000e5c44cdfd93a8276aa76ac3a6064d74ed85", func := "jalousie/jalousielaw15.ProofParses", spec := "proofParses", inPlace := ["internal/bytealg.Compare"], unfollowed := true, recurses := true, apart := false }
def ProofParsesSaid : Prop := proofParsesRow.holds Try.pinned (OpenSpec.ofChange proofParsesSpec)

/-- ITS FALSE NEIGHBOUR: 'it returns false'. Refute it at one input. -/
def proofParsesWrong : ChangeSpec := { name := "proofParses", fn := fun _ => fun
  | [d] => { results := [.lit (.bool false)], args := [d] }
  | _ => none }
def ProofParsesWrongFalsely : Prop := proofParsesRow.holds Try.pinned (OpenSpec.ofChange proofParsesWrong)

/- THE SECOND FORM. 'bulk': how many values and letters a reading holds, each counted each time it is reached (what is shared counts as often as it is met; a slice's spare places count too). A statement '..UptoSaid' is the law's where the arguments, and the package variables that the reading takes, are together of bulk at most 1048576: NARROWER than '..Said'. Prove '..Said' where nothing that the law and all that it calls make is longer than what came in: it says more and counts as full. Else prove '..UptoSaid'. A law counts once. -/
mutual
def uptoBulk {H : Type} : DataW H → Nat
  | .lit (.string bytes) => bytes.length + 1
  | .lit _ => 1
  | .nil => 1
  | .ptr d => uptoBulk d + 1
  | .slice elems spare => uptoBulkAll elems + uptoBulkAll spare + 1
  | .agg parts => uptoBulkAll parts + 1
  | .iface _ d => uptoBulk d + 1
  | .map entries => uptoBulkEntries entries + 1
  | .held _ => 1
def uptoBulkAll {H : Type} : List (DataW H) → Nat
  | [] => 0
  | d :: r => uptoBulk d + uptoBulkAll r
def uptoBulkEntries {H : Type} : List (Lit × DataW H) → Nat
  | [] => 0
  | x :: r => uptoBulkEntry x + uptoBulkEntries r
def uptoBulkEntry {H : Type} : Lit × DataW H → Nat
  | (.string bytes, d) => bytes.length + uptoBulk d + 1
  | (_, d) => uptoBulk d + 1
 end
def uptoSmall : (H : Type) → List (DataW H) → Bool := fun _ ds => decide (uptoBulkAll ds ≤ 1048576)
def OpenSpec.upto (s : _root_.Go.ChangeSpec) : _root_.Go.OpenSpec := { _root_.Go.OpenSpec.ofChange s with cond := some uptoSmall }

/-- 'jalousielaw15.ProofBytes', WHERE WHAT IT READS IS OF BULK AT MOST 1048576: true; the input reads as it did. -/
def proofBytesUptoRow : OpenClaim := { program := "ytdhbkjajhbfihaa", sum := "96eb67bc91f1e1dff35e3861b4000e5c44cdfd93a8276aa76ac3a6064d74ed85", func := "jalousie/jalousielaw15.ProofBytes", spec := "proofBytes", inPlace := ["internal/bytealg.Compare"], unfollowed := true, recurses := true, apart := false, narrowed := true }
def ProofBytesUptoSaid : Prop := proofBytesUptoRow.holds Try.pinned (OpenSpec.upto proofBytesSpec)

/-- 'jalousielaw15.ProofParses', WHERE WHAT IT READS IS OF BULK AT MOST 1048576: true; the input reads as it did. -/
def proofParsesUptoRow : OpenClaim := { program := "ytdhbkjajhbfihaa", sum := "96eb67bc91f1e1dff35e3861b4000e5c44cdfd93a8276aa76ac3a6064d74ed85", func := "jalousie/jalousielaw15.ProofParses", spec := "proofParses", inPlace := ["internal/bytealg.Compare"], unfollowed := true, recurses := true, apart := false, narrowed := true }
def ProofParsesUptoSaid : Prop := proofParsesUptoRow.holds Try.pinned (OpenSpec.upto proofParsesSpec)

end Rows
end Go.Proofs.Ytdhbkjajhbfihaa
