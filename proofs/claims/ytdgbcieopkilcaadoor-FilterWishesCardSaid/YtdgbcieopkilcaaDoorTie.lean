/-
  DERIVED. GIVEN WITH THE SEED: THE PROGRAM's TIES (one call each: nine closed facts by the kernel) AND EACH ROW's TIE, after the 31st guide's Derived/Test/Toyas{Tie, Card}.lean. No idea stands in it: it is a product of the set-up. Laid BY PROGRAM, IN A SANDBOX (cutbox-door.mjs). By AI agents, Wed Nov 11 2026. No macro, syntax, notation, axiom, sorry.
-/
import Derived.Test.YtdgbcieopkilcaaDoorRows
import Derived.LaidByTextLater
import Derived.SevenTiedAt
import Derived.LaidSub
import Derived.LaidOnce
namespace Go.Proofs.YtdgbcieopkilcaaDoor
open Go
set_option maxRecDepth 100000
theorem seatTie1 : Tryd.prog.laidByTextLater [("jalousie/jalousieref01.words", Rows.laid_jalousie_jalousieref01_words), ("jalousie/hash.rounds", Rows.laid_jalousie_hash_rounds)] [.data, .data] true :=
  Program.laidByTextLater_by_one 19 8 65 (by kernel_rfl) (by kernel_rfl) (by kernel_rfl) (by kernel_rfl) (by kernel_rfl) (by kernel_rfl) (fun _ _ => by kernel_rfl)
theorem noOwnUnsafe : Tryd.pinned.checked.prog.headLifts.contains "ownunsafe" = false := by kernel_rfl
theorem tie : Tryd.prog.laidByTextLater [("jalousie/hash.rounds", Rows.laid_jalousie_hash_rounds)] [.data] true :=
  Program.laidByTextLater.sub seatTie1 ["jalousie/hash.rounds"] (by kernel_rfl) (by kernel_rfl)
theorem keysOrder_row_tie : Rows.keysOrderRow.laidByTextAt .later Tryd.pinned [.data] true :=
  OpenClaim.laidByTextAt_later rfl rfl tie noOwnUnsafe
theorem filterWishes_row_tie : Rows.filterWishesRow.laidByTextAt .later Tryd.pinned [.data] true :=
  OpenClaim.laidByTextAt_later rfl rfl tie noOwnUnsafe
theorem tie2 : Tryd.prog.laidByTextLater [("jalousie/jalousieref01.words", Rows.laid_jalousie_jalousieref01_words), ("jalousie/hash.rounds", Rows.laid_jalousie_hash_rounds)] [.data, .data] true :=
  Program.laidByTextLater.sub seatTie1 ["jalousie/jalousieref01.words", "jalousie/hash.rounds"] (by kernel_rfl) (by kernel_rfl)
theorem keysTokens_row_tie : Rows.keysTokensRow.laidByTextAt .later Tryd.pinned [.data, .data] true :=
  OpenClaim.laidByTextAt_later rfl rfl tie2 noOwnUnsafe
theorem keysOrderUpto_row_tie : Rows.keysOrderUptoRow.laidByTextAt .later Tryd.pinned [.data] true :=
  OpenClaim.laidByTextAt_later rfl rfl tie noOwnUnsafe
theorem keysTokensUpto_row_tie : Rows.keysTokensUptoRow.laidByTextAt .later Tryd.pinned [.data, .data] true :=
  OpenClaim.laidByTextAt_later rfl rfl tie2 noOwnUnsafe
theorem filterWishesUpto_row_tie : Rows.filterWishesUptoRow.laidByTextAt .later Tryd.pinned [.data] true :=
  OpenClaim.laidByTextAt_later rfl rfl tie noOwnUnsafe
end Go.Proofs.YtdgbcieopkilcaaDoor
