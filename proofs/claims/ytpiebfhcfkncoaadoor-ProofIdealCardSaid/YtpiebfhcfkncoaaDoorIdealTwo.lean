/-
  ProofIdeal's walk, its values in the order in which the card's reading tells them.
-/
import Derived.Test.YtpiebfhcfkncoaaDoorLawIdeal
import Derived.Test.YtpiebfhcfkncoaaDoorReadRg
namespace Go.Proofs.YtpiebfhcfkncoaaDoor

theorem lawIdeal_two (r : Rg) (h : Hd) (wa : Option Addr) (wn wc : Nat) (ws : List (Nat → Int)) (ts : List (Nat → Int)) (w : World) (hr : RgAt w r) (ho : HdOk h) (hws : TsAt w wa wn wc ws) (ht : TsAt w h.ta h.tn h.tc ts) (hk : KsAt 1 w) :
    Calls Tryd.prog 5 #[.agg (rgV r), .agg (hdV h), .slice wa wn wc] w fun e w' => e = .returned (.bool true) ∧ Ext w w' := lawIdeal_any r h ts wa wn wc ws w hr ho ht hws hk

end Go.Proofs.YtpiebfhcfkncoaaDoor
