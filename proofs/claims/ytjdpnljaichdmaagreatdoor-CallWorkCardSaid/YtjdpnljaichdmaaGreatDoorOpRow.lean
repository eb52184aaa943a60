/-
  What the rows over operations share: a world for the witness, in which the listed tables lie. Conditions: none.
-/
import Derived.Test.YtjdpnljaichdmaaGreatDoorCards
import Derived.Test.YtjdpnljaichdmaaGreatDoorTie
import Derived.Test.YtjdpnljaichdmaaGreatDoorPlRow
import Derived.Deep.DeepHandedRow
import Derived.Stop.LaidErr
import Derived.Lib.SmallJoins
import Derived.SizedLaws
import Derived.SevenTiedAt
namespace Go.Proofs.YtjdpnljaichdmaaGreatDoor
open Go.ChangeShapes Go.WideShapes Go.ChangeAt Go.RowKit Go.Joins
set_option linter.unusedVariables false
theorem opOwn : ownKnob Tryz.prog.godebug = none := by kernel_rfl
/-- A datum's cells. -/
def opLitV : DataW Unit → Value
  | .lit (.int k n) => .int k n
  | _ => undef
def opFlat1 : DataW Unit → List Value
  | .agg ds => ds.map opLitV
  | d => [opLitV d]
def opFlat2 : DataW Unit → List Value
  | .agg ds => ds.flatMap opFlat1
  | d => [opLitV d]
def opLay (cs : List Value) : Obj → Obj
  | .cells _ t frozen => .cells cs.toArray t frozen
  | o => o
noncomputable def opWorld (os : Os) : World :=
  { World.holding Tryz.prog os ⟨#[], #[], []⟩ with heap := ((World.holding Tryz.prog os ⟨#[], #[], []⟩).heap.modify 2 (opLay (opFlat2 Rows.laid_unicode_utf8_acceptRanges))).modify 1 (opLay (opFlat2 Rows.laid_unicode_utf8_first)) }
def opWit : Array Value := #[.slice none 0 0]
end Go.Proofs.YtjdpnljaichdmaaGreatDoor
