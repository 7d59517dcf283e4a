/-
  DERIVED. GIVEN WITH THE SEED: THE CARDS: each row of YtdgbcieopkilcaaDoorRows.lean that lists a variable, with what it lists TIED to the program's text (the seventh form; the later family's looks); each row that meets fmt, with fmt's text TOLD by the authors' own Lean function (tested against real Go, not proved from fmt's source: count such statements apart). THE CARD IS WHAT COUNTS. Prove the row's statement (the work); the ties are given (YtdgbcieopkilcaaDoorTie.lean); close each card by the builder's one call (the guide's Derived/Test/ToyasCard.lean, 'card_holds'). Laid BY PROGRAM, IN A SANDBOX (cutbox-door.mjs). By AI agents, Wed Nov 11 2026. No macro, syntax, notation, axiom, sorry.
-/
import Derived.Test.YtdgbcieopkilcaaDoorRows
import GoSem.ClaimSeven
namespace Go.Proofs.YtdgbcieopkilcaaDoor
namespace Rows

/-- THE TIED CARD OF 'jalousielaw11.KeysOrder'. -/
def keysOrderCard : Claim7 := { stood := { row := keysOrderRow, standIns := [], harness := (true, "967f3c6cee279f7eba48c363f7723594f468d3a0bfd3d41d98fe572a616dffc9"), looks := false }, kinds := [], alts := [], laidByText := true, laidKinds := [.data], laidTests := true, laidLooks := .later }
def KeysOrderCardSaid : Prop := Claim7.holds Tryd.pinned (.plain (OpenSpec.ofChange keysOrderSpec)) keysOrderCard

/-- THE TIED CARD OF 'jalousielaw11.KeysTokens'. -/
def keysTokensCard : Claim7 := { stood := { row := keysTokensRow, standIns := [], harness := (true, "967f3c6cee279f7eba48c363f7723594f468d3a0bfd3d41d98fe572a616dffc9"), looks := false }, kinds := [], alts := [], laidByText := true, laidKinds := [.data, .data], laidTests := true, laidLooks := .later }
def KeysTokensCardSaid : Prop := Claim7.holds Tryd.pinned (.plain (OpenSpec.ofChange keysTokensSpec)) keysTokensCard

/-- THE TIED CARD OF 'jalousielaw19.FilterWishes'. -/
def filterWishesCard : Claim7 := { stood := { row := filterWishesRow, standIns := [], harness := (true, "967f3c6cee279f7eba48c363f7723594f468d3a0bfd3d41d98fe572a616dffc9"), looks := false }, kinds := [], alts := [], laidByText := true, laidKinds := [.data], laidTests := true, laidLooks := .later }
def FilterWishesCardSaid : Prop := Claim7.holds Tryd.pinned (.plain (OpenSpec.ofChange filterWishesSpec)) filterWishesCard

/-- THE SECOND FORM's CARD OF 'jalousielaw11.KeysOrder'. -/
def keysOrderUptoCard : Claim7 := { stood := { row := keysOrderUptoRow, standIns := [], harness := (true, "967f3c6cee279f7eba48c363f7723594f468d3a0bfd3d41d98fe572a616dffc9"), looks := false }, kinds := [], alts := [], laidByText := true, laidKinds := [.data], laidTests := true, laidLooks := .later }
def KeysOrderUptoCardSaid : Prop := Claim7.holds Tryd.pinned (.plain (OpenSpec.upto keysOrderSpec)) keysOrderUptoCard

/-- THE SECOND FORM's CARD OF 'jalousielaw11.KeysTokens'. -/
def keysTokensUptoCard : Claim7 := { stood := { row := keysTokensUptoRow, standIns := [], harness := (true, "967f3c6cee279f7eba48c363f7723594f468d3a0bfd3d41d98fe572a616dffc9"), looks := false }, kinds := [], alts := [], laidByText := true, laidKinds := [.data, .data], laidTests := true, laidLooks := .later }
def KeysTokensUptoCardSaid : Prop := Claim7.holds Tryd.pinned (.plain (OpenSpec.upto keysTokensSpec)) keysTokensUptoCard

/-- THE SECOND FORM's CARD OF 'jalousielaw19.FilterWishes'. -/
def filterWishesUptoCard : Claim7 := { stood := { row := filterWishesUptoRow, standIns := [], harness := (true, "967f3c6cee279f7eba48c363f7723594f468d3a0bfd3d41d98fe572a616dffc9"), looks := false }, kinds := [], alts := [], laidByText := true, laidKinds := [.data], laidTests := true, laidLooks := .later }
def FilterWishesUptoCardSaid : Prop := Claim7.holds Tryd.pinned (.plain (OpenSpec.upto filterWishesSpec)) filterWishesUptoCard
end Rows
end Go.Proofs.YtdgbcieopkilcaaDoor
