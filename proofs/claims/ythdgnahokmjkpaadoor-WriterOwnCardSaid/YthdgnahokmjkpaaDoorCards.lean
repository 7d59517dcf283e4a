/-
  DERIVED. GIVEN WITH THE SEED: THE CARDS: each row of YthdgnahokmjkpaaDoorRows.lean that lists a variable, with what it lists TIED to the program's text (the seventh form; the later family's looks); each row that meets fmt, with fmt's text TOLD by the authors' own Lean function (tested against real Go, not proved from fmt's source: count such statements apart). THE CARD IS WHAT COUNTS. Prove the row's statement (the work); the ties are given (YthdgnahokmjkpaaDoorTie.lean); close each card by the builder's one call (the guide's Derived/Test/ToyasCard.lean, 'card_holds'). Laid BY PROGRAM, IN A SANDBOX (cutbox-door.mjs). By AI agents, Wed Nov 11 2026. No macro, syntax, notation, axiom, sorry.
-/
import Derived.Test.YthdgnahokmjkpaaDoorRows
import GoSem.ClaimSeven
namespace Go.Proofs.YthdgnahokmjkpaaDoor
namespace Rows

/-- THE TIED CARD OF 'jalousielaw13.WriterAsks'. -/
def writerAsksCard : Claim7 := { stood := { row := writerAsksRow, standIns := [], harness := (true, "752c0f0884d59ad1d35480a3cbcce539d087732fcb49b9c026f1b6ecce218f39"), looks := false }, kinds := [], alts := [], laidByText := true, laidKinds := [.data, .data], laidTests := true, laidLooks := .later }
def WriterAsksCardSaid : Prop := Claim7.holds Tryd.pinned (.plain (OpenSpec.ofChange writerAsksSpec)) writerAsksCard

/-- THE TIED CARD OF 'jalousielaw13.WriterPlays'. -/
def writerPlaysCard : Claim7 := { stood := { row := writerPlaysRow, standIns := [], harness := (true, "752c0f0884d59ad1d35480a3cbcce539d087732fcb49b9c026f1b6ecce218f39"), looks := false }, kinds := [], alts := [], laidByText := true, laidKinds := [.data, .data], laidTests := true, laidLooks := .later }
def WriterPlaysCardSaid : Prop := Claim7.holds Tryd.pinned (.plain (OpenSpec.ofChange writerPlaysSpec)) writerPlaysCard

/-- THE TIED CARD OF 'jalousielaw13.WriterOwn'. -/
def writerOwnCard : Claim7 := { stood := { row := writerOwnRow, standIns := [], harness := (true, "752c0f0884d59ad1d35480a3cbcce539d087732fcb49b9c026f1b6ecce218f39"), looks := false }, kinds := [], alts := [], laidByText := true, laidKinds := [.data, .data], laidTests := true, laidLooks := .later }
def WriterOwnCardSaid : Prop := Claim7.holds Tryd.pinned (.plain (OpenSpec.ofChange writerOwnSpec)) writerOwnCard

/-- THE TIED CARD OF 'jalousielaw13.WriterLinked'. -/
def writerLinkedCard : Claim7 := { stood := { row := writerLinkedRow, standIns := [], harness := (true, "752c0f0884d59ad1d35480a3cbcce539d087732fcb49b9c026f1b6ecce218f39"), looks := false }, kinds := [], alts := [], laidByText := true, laidKinds := [.data, .data], laidTests := true, laidLooks := .later }
def WriterLinkedCardSaid : Prop := Claim7.holds Tryd.pinned (.plain (OpenSpec.ofChange writerLinkedSpec)) writerLinkedCard

/-- THE TIED CARD OF 'jalousielaw13.WriterFrom'. -/
def writerFromCard : Claim7 := { stood := { row := writerFromRow, standIns := [], harness := (true, "752c0f0884d59ad1d35480a3cbcce539d087732fcb49b9c026f1b6ecce218f39"), looks := false }, kinds := [], alts := [], laidByText := true, laidKinds := [.data, .data], laidTests := true, laidLooks := .later }
def WriterFromCardSaid : Prop := Claim7.holds Tryd.pinned (.plain (OpenSpec.ofChange writerFromSpec)) writerFromCard

/-- THE SECOND FORM's CARD OF 'jalousielaw13.WriterAsks'. -/
def writerAsksUptoCard : Claim7 := { stood := { row := writerAsksUptoRow, standIns := [], harness := (true, "752c0f0884d59ad1d35480a3cbcce539d087732fcb49b9c026f1b6ecce218f39"), looks := false }, kinds := [], alts := [], laidByText := true, laidKinds := [.data, .data], laidTests := true, laidLooks := .later }
def WriterAsksUptoCardSaid : Prop := Claim7.holds Tryd.pinned (.plain (OpenSpec.upto writerAsksSpec)) writerAsksUptoCard

/-- THE SECOND FORM's CARD OF 'jalousielaw13.WriterPlays'. -/
def writerPlaysUptoCard : Claim7 := { stood := { row := writerPlaysUptoRow, standIns := [], harness := (true, "752c0f0884d59ad1d35480a3cbcce539d087732fcb49b9c026f1b6ecce218f39"), looks := false }, kinds := [], alts := [], laidByText := true, laidKinds := [.data, .data], laidTests := true, laidLooks := .later }
def WriterPlaysUptoCardSaid : Prop := Claim7.holds Tryd.pinned (.plain (OpenSpec.upto writerPlaysSpec)) writerPlaysUptoCard

/-- THE SECOND FORM's CARD OF 'jalousielaw13.WriterOwn'. -/
def writerOwnUptoCard : Claim7 := { stood := { row := writerOwnUptoRow, standIns := [], harness := (true, "752c0f0884d59ad1d35480a3cbcce539d087732fcb49b9c026f1b6ecce218f39"), looks := false }, kinds := [], alts := [], laidByText := true, laidKinds := [.data, .data], laidTests := true, laidLooks := .later }
def WriterOwnUptoCardSaid : Prop := Claim7.holds Tryd.pinned (.plain (OpenSpec.upto writerOwnSpec)) writerOwnUptoCard

/-- THE SECOND FORM's CARD OF 'jalousielaw13.WriterLinked'. -/
def writerLinkedUptoCard : Claim7 := { stood := { row := writerLinkedUptoRow, standIns := [], harness := (true, "752c0f0884d59ad1d35480a3cbcce539d087732fcb49b9c026f1b6ecce218f39"), looks := false }, kinds := [], alts := [], laidByText := true, laidKinds := [.data, .data], laidTests := true, laidLooks := .later }
def WriterLinkedUptoCardSaid : Prop := Claim7.holds Tryd.pinned (.plain (OpenSpec.upto writerLinkedSpec)) writerLinkedUptoCard

/-- THE SECOND FORM's CARD OF 'jalousielaw13.WriterFrom'. -/
def writerFromUptoCard : Claim7 := { stood := { row := writerFromUptoRow, standIns := [], harness := (true, "752c0f0884d59ad1d35480a3cbcce539d087732fcb49b9c026f1b6ecce218f39"), looks := false }, kinds := [], alts := [], laidByText := true, laidKinds := [.data, .data], laidTests := true, laidLooks := .later }
def WriterFromUptoCardSaid : Prop := Claim7.holds Tryd.pinned (.plain (OpenSpec.upto writerFromSpec)) writerFromUptoCard
end Rows
end Go.Proofs.YthdgnahokmjkpaaDoor
