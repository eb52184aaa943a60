/-
  What lies behind a node's base, by the node's type. Plain. Conditions: none.
-/
import Derived.Test.YtcldbjgikkfnbaaGreatDoorCBase
import Derived.Test.YtcldbjgikkfnbaaGreatDoorProg
namespace Go.Proofs.YtcldbjgikkfnbaaGreatDoor
open Go.RowKit
set_option linter.unusedVariables false
/-- A caller's name. -/
def extra (_T : TypeId) (_text : ByteArray) : List Value := []
end Go.Proofs.YtcldbjgikkfnbaaGreatDoor
