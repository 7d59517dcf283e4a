/-
  DERIVED. GIVEN WITH THE SEED: THE CARDS: each row of YtpiebfhcfkncoaaDoorRows.lean that lists a variable, with what it lists TIED to the program's text (the seventh form; the later family's looks); each row that meets fmt, with fmt's text TOLD by the authors' own Lean function (tested against real Go, not proved from fmt's source: count such statements apart). THE CARD IS WHAT COUNTS. Prove the row's statement (the work); the ties are given (YtpiebfhcfkncoaaDoorTie.lean); close each card by the builder's one call (the guide's Derived/Test/ToyasCard.lean, 'card_holds'). Laid BY PROGRAM, IN A SANDBOX (cutbox-door.mjs). By AI agents, Wed Nov 11 2026. No macro, syntax, notation, axiom, sorry.
-/
import Derived.Test.YtpiebfhcfkncoaaDoorRows
import GoSem.ClaimSeven
namespace Go.Proofs.YtpiebfhcfkncoaaDoor
namespace Rows

/-- THE TIED CARD OF 'jalousielaw15.ProofTurns'. -/
def proofTurnsCard : Claim7 := { stood := { row := proofTurnsRow, standIns := [], harness := (true, "76811692cdfaddb0d926d6679a6671e0e763e63e3c41409ea445f9364eb4b436"), looks := false }, kinds := [], alts := [], laidByText := true, laidKinds := [.data, .data], laidTests := true, laidLooks := .later }
def ProofTurnsCardSaid : Prop := Claim7.holds Tryd.pinned (.plain (OpenSpec.ofChange proofTurnsSpec)) proofTurnsCard

/-- THE TIED CARD OF 'jalousielaw15.ProofChecks'. -/
def proofChecksCard : Claim7 := { stood := { row := proofChecksRow, standIns := [], harness := (true, "76811692cdfaddb0d926d6679a6671e0e763e63e3c41409ea445f9364eb4b436"), looks := false }, kinds := [], alts := [], laidByText := true, laidKinds := [.data, .data], laidTests := true, laidLooks := .later }
def ProofChecksCardSaid : Prop := Claim7.holds Tryd.pinned (.plain (OpenSpec.ofChange proofChecksSpec)) proofChecksCard

/-- THE TIED CARD OF 'jalousielaw15.ProofIdeal'. -/
def proofIdealCard : Claim7 := { stood := { row := proofIdealRow, standIns := [], harness := (true, "76811692cdfaddb0d926d6679a6671e0e763e63e3c41409ea445f9364eb4b436"), looks := false }, kinds := [], alts := [], laidByText := true, laidKinds := [.data], laidTests := true, laidLooks := .later }
def ProofIdealCardSaid : Prop := Claim7.holds Tryd.pinned (.plain (OpenSpec.ofChange proofIdealSpec)) proofIdealCard

/-- THE SECOND FORM's CARD OF 'jalousielaw15.ProofTurns'. -/
def proofTurnsUptoCard : Claim7 := { stood := { row := proofTurnsUptoRow, standIns := [], harness := (true, "76811692cdfaddb0d926d6679a6671e0e763e63e3c41409ea445f9364eb4b436"), looks := false }, kinds := [], alts := [], laidByText := true, laidKinds := [.data, .data], laidTests := true, laidLooks := .later }
def ProofTurnsUptoCardSaid : Prop := Claim7.holds Tryd.pinned (.plain (OpenSpec.upto proofTurnsSpec)) proofTurnsUptoCard

/-- THE SECOND FORM's CARD OF 'jalousielaw15.ProofChecks'. -/
def proofChecksUptoCard : Claim7 := { stood := { row := proofChecksUptoRow, standIns := [], harness := (true, "76811692cdfaddb0d926d6679a6671e0e763e63e3c41409ea445f9364eb4b436"), looks := false }, kinds := [], alts := [], laidByText := true, laidKinds := [.data, .data], laidTests := true, laidLooks := .later }
def ProofChecksUptoCardSaid : Prop := Claim7.holds Tryd.pinned (.plain (OpenSpec.upto proofChecksSpec)) proofChecksUptoCard

/-- THE SECOND FORM's CARD OF 'jalousielaw15.ProofIdeal'. -/
def proofIdealUptoCard : Claim7 := { stood := { row := proofIdealUptoRow, standIns := [], harness := (true, "76811692cdfaddb0d926d6679a6671e0e763e63e3c41409ea445f9364eb4b436"), looks := false }, kinds := [], alts := [], laidByText := true, laidKinds := [.data], laidTests := true, laidLooks := .later }
def ProofIdealUptoCardSaid : Prop := Claim7.holds Tryd.pinned (.plain (OpenSpec.upto proofIdealSpec)) proofIdealUptoCard
end Rows
end Go.Proofs.YtpiebfhcfkncoaaDoor
