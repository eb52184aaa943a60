/-
  What lies behind a node's base, by the node's type. Plain. Conditions: none.
-/
import Derived.Test.YtjdpnljaichdmaaGreatDoorFresh
import Derived.Test.YtjdpnljaichdmaaGreatDoorProg
namespace Go.Proofs.YtjdpnljaichdmaaGreatDoor
open Go.RowKit
set_option linter.unusedVariables false
/-- A caller's name. -/
def extra (T : TypeId) (text : ByteArray) : List Value := if T = 127 then [.string text] else []
end Go.Proofs.YtjdpnljaichdmaaGreatDoor
