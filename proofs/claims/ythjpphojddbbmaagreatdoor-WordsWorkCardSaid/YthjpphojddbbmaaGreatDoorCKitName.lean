/-
  Kit.Name: a walk. Conditions: the kit lies in memory.
-/
import Derived.Test.YthjpphojddbbmaaGreatDoorCKitNew
namespace Go.Proofs.YthjpphojddbbmaaGreatDoor
open Go.RowKit
set_option linter.unusedVariables false

theorem kit_Name {w : World} {M KB : Nat} {name : ByteArray} {m v : Value} {ts : List RowAt} (h : KitIn w M KB name m v ts) : Calls Tryz.prog 21 #[.pointer (some ⟨KB, 0, none⟩)] w fun e w' => e = .returned (.string name) ∧ w = w' := by
  have hc : w.cell? ⟨KB, 0, none⟩ = some (.string name) := by simp [World.cell?, h.kit]
  clear h
  go_enter Tryz.func21, Tryz.ntmps21
  go_wp2
  go_ret
  exact ⟨rfl, rfl⟩
end Go.Proofs.YthjpphojddbbmaaGreatDoor
