/-
  DERIVED. GIVEN WITH THE SEED: THE CARDS: each row of YtppidlpblkihbaaDoorRows.lean that lists a variable, with what it lists TIED to the program's text (the seventh form; the later family's looks); each row that meets fmt, with fmt's text TOLD by the authors' own Lean function (tested against real Go, not proved from fmt's source: count such statements apart). THE CARD IS WHAT COUNTS. Prove the row's statement (the work); the ties are given (YtppidlpblkihbaaDoorTie.lean); close each card by the builder's one call (the guide's Derived/Test/ToyasCard.lean, 'card_holds'). Laid BY PROGRAM, IN A SANDBOX (cutbox-door.mjs). By AI agents, Wed Nov 11 2026. No macro, syntax, notation, axiom, sorry.
-/
import Derived.Test.YtppidlpblkihbaaDoorRows
import GoSem.ClaimSeven
namespace Go.Proofs.YtppidlpblkihbaaDoor
namespace Rows

/-- THE TIED CARD OF 'jalousielaw16.ControlKeys'. -/
def controlKeysCard : Claim7 := { stood := { row := controlKeysRow, standIns := [], harness := (true, "83fda29c9b306a14d3b78c8f7dbd9231f8250b2701241cc271ee08e813db8dbd"), looks := false }, kinds := [], alts := [], laidByText := true, laidKinds := [.data, .data], laidTests := true, laidLooks := .later }
def ControlKeysCardSaid : Prop := Claim7.holds Tryd.pinned (.plain (OpenSpec.ofChange controlKeysSpec)) controlKeysCard

/-- THE TIED CARD OF 'jalousielaw11.KeysSets'. -/
def keysSetsCard : Claim7 := { stood := { row := keysSetsRow, standIns := [], harness := (true, "83fda29c9b306a14d3b78c8f7dbd9231f8250b2701241cc271ee08e813db8dbd"), looks := false }, kinds := [], alts := [], laidByText := true, laidKinds := [.data, .data], laidTests := true, laidLooks := .later }
def KeysSetsCardSaid : Prop := Claim7.holds Tryd.pinned (.plain (OpenSpec.ofChange keysSetsSpec)) keysSetsCard

/-- THE TIED CARD OF 'jalousielaw11.KeysMeet'. -/
def keysMeetCard : Claim7 := { stood := { row := keysMeetRow, standIns := [], harness := (true, "83fda29c9b306a14d3b78c8f7dbd9231f8250b2701241cc271ee08e813db8dbd"), looks := false }, kinds := [], alts := [], laidByText := true, laidKinds := [.data], laidTests := true, laidLooks := .later }
def KeysMeetCardSaid : Prop := Claim7.holds Tryd.pinned (.plain (OpenSpec.ofChange keysMeetSpec)) keysMeetCard

/-- THE TIED CARD OF 'jalousielaw16.ControlParses'. -/
def controlParsesCard : Claim7 := { stood := { row := controlParsesRow, standIns := [], harness := (true, "83fda29c9b306a14d3b78c8f7dbd9231f8250b2701241cc271ee08e813db8dbd"), looks := false }, kinds := [], alts := [], laidByText := true, laidKinds := [.data], laidTests := true, laidLooks := .later }
def ControlParsesCardSaid : Prop := Claim7.holds Tryd.pinned (.plain (OpenSpec.ofChange controlParsesSpec)) controlParsesCard

/-- THE TIED CARD OF 'jalousielaw16.ControlBytes'. -/
def controlBytesCard : Claim7 := { stood := { row := controlBytesRow, standIns := [], harness := (true, "83fda29c9b306a14d3b78c8f7dbd9231f8250b2701241cc271ee08e813db8dbd"), looks := false }, kinds := [], alts := [], laidByText := true, laidKinds := [.data], laidTests := true, laidLooks := .later }
def ControlBytesCardSaid : Prop := Claim7.holds Tryd.pinned (.plain (OpenSpec.ofChange controlBytesSpec)) controlBytesCard

/-- THE TIED CARD OF 'jalousielaw12.EntryBytes'. -/
def entryBytesCard : Claim7 := { stood := { row := entryBytesRow, standIns := [], harness := (true, "83fda29c9b306a14d3b78c8f7dbd9231f8250b2701241cc271ee08e813db8dbd"), looks := false }, kinds := [], alts := [], laidByText := true, laidKinds := [.data, .data], laidTests := true, laidLooks := .later }
def EntryBytesCardSaid : Prop := Claim7.holds Tryd.pinned (.plain (OpenSpec.ofChange entryBytesSpec)) entryBytesCard

/-- THE SECOND FORM's CARD OF 'jalousielaw16.ControlKeys'. -/
def controlKeysUptoCard : Claim7 := { stood := { row := controlKeysUptoRow, standIns := [], harness := (true, "83fda29c9b306a14d3b78c8f7dbd9231f8250b2701241cc271ee08e813db8dbd"), looks := false }, kinds := [], alts := [], laidByText := true, laidKinds := [.data, .data], laidTests := true, laidLooks := .later }
def ControlKeysUptoCardSaid : Prop := Claim7.holds Tryd.pinned (.plain (OpenSpec.upto controlKeysSpec)) controlKeysUptoCard

/-- THE SECOND FORM's CARD OF 'jalousielaw11.KeysSets'. -/
def keysSetsUptoCard : Claim7 := { stood := { row := keysSetsUptoRow, standIns := [], harness := (true, "83fda29c9b306a14d3b78c8f7dbd9231f8250b2701241cc271ee08e813db8dbd"), looks := false }, kinds := [], alts := [], laidByText := true, laidKinds := [.data, .data], laidTests := true, laidLooks := .later }
def KeysSetsUptoCardSaid : Prop := Claim7.holds Tryd.pinned (.plain (OpenSpec.upto keysSetsSpec)) keysSetsUptoCard

/-- THE SECOND FORM's CARD OF 'jalousielaw11.KeysMeet'. -/
def keysMeetUptoCard : Claim7 := { stood := { row := keysMeetUptoRow, standIns := [], harness := (true, "83fda29c9b306a14d3b78c8f7dbd9231f8250b2701241cc271ee08e813db8dbd"), looks := false }, kinds := [], alts := [], laidByText := true, laidKinds := [.data], laidTests := true, laidLooks := .later }
def KeysMeetUptoCardSaid : Prop := Claim7.holds Tryd.pinned (.plain (OpenSpec.upto keysMeetSpec)) keysMeetUptoCard

/-- THE SECOND FORM's CARD OF 'jalousielaw16.ControlParses'. -/
def controlParsesUptoCard : Claim7 := { stood := { row := controlParsesUptoRow, standIns := [], harness := (true, "83fda29c9b306a14d3b78c8f7dbd9231f8250b2701241cc271ee08e813db8dbd"), looks := false }, kinds := [], alts := [], laidByText := true, laidKinds := [.data], laidTests := true, laidLooks := .later }
def ControlParsesUptoCardSaid : Prop := Claim7.holds Tryd.pinned (.plain (OpenSpec.upto controlParsesSpec)) controlParsesUptoCard

/-- THE SECOND FORM's CARD OF 'jalousielaw16.ControlBytes'. -/
def controlBytesUptoCard : Claim7 := { stood := { row := controlBytesUptoRow, standIns := [], harness := (true, "83fda29c9b306a14d3b78c8f7dbd9231f8250b2701241cc271ee08e813db8dbd"), looks := false }, kinds := [], alts := [], laidByText := true, laidKinds := [.data], laidTests := true, laidLooks := .later }
def ControlBytesUptoCardSaid : Prop := Claim7.holds Tryd.pinned (.plain (OpenSpec.upto controlBytesSpec)) controlBytesUptoCard

/-- THE SECOND FORM's CARD OF 'jalousielaw12.EntryBytes'. -/
def entryBytesUptoCard : Claim7 := { stood := { row := entryBytesUptoRow, standIns := [], harness := (true, "83fda29c9b306a14d3b78c8f7dbd9231f8250b2701241cc271ee08e813db8dbd"), looks := false }, kinds := [], alts := [], laidByText := true, laidKinds := [.data, .data], laidTests := true, laidLooks := .later }
def EntryBytesUptoCardSaid : Prop := Claim7.holds Tryd.pinned (.plain (OpenSpec.upto entryBytesSpec)) entryBytesUptoCard
end Rows
end Go.Proofs.YtppidlpblkihbaaDoor
