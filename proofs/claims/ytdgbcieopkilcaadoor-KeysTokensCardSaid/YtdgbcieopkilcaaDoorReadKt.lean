/-
  KeysTokens as the card wants it. No conditions.
-/
import Derived.Test.YtdgbcieopkilcaaDoorRdSr
import Derived.Test.YtdgbcieopkilcaaDoorLawKt
namespace Go.Proofs.YtdgbcieopkilcaaDoor
open Go.ChangeShapes Go.WideShapes Go.ChangeAt Go.RowKit

set_option maxRecDepth 100000 in
theorem lawKeysTokens_any (K : Bool) (f : Nat → Int) (a : Option Addr) (n c : Nat) (ss : List ByteArray) (w : World) (hf : ∀ j, j < 32 → 0 ≤ f j ∧ f j < 256) (h : SrAt w a n c ss) (hk : KsAt 2 w) (hkw : KsAt 0 w) :
    Calls Tryd.prog 4 #[.bool K, .agg (rowArr 32 fun j => .int .u8 (f j)), .slice a n c] w fun e w' => e = .returned (.bool true) ∧ Ext w w' := by
  have hb := World.block_lt_of_cell? w _ (hk 0 (by omega))
  exact lawKt_any K f hf a n c ss w h hk hkw hb

end Go.Proofs.YtdgbcieopkilcaaDoor
