/-
  espalierlaw8.Worked: a walk, given what Fits comes to. Written by a program of mine (gen_packw.py). Conditions: none.
-/
import Derived.Test.YthjpphojddbbmaaGreatDoorCPlFits
namespace Go.Proofs.YthjpphojddbbmaaGreatDoor
open Go.RowKit
set_option linter.unusedVariables false

set_option maxRecDepth 100000 in
theorem law_Worked (v : Value) (e : Int) (said : ByteArray) (p : Pl) (A : Option Addr) (c : Nat) (w : World)
    (hF : ∀ w', Below w.heap.size w w' → Calls Tryz.prog 31 #[v, .int .i64 e, p.arg A c, .int .i64 e] w' (Bel (.bool true) w')) :
    Calls Tryz.prog 12 #[v, .int .i64 e, .string said, p.arg A c, .int .i64 e, .string said] w (Bel (.bool true) w) := by
  have HB := Lib.hid ((Below.refl w.heap.size w).alloc (Nat.le_refl _) (.cells #[.int .i64 p.kind, .int .i64 p.num, .string p.text, .slice A p.list.length c] 34))
  have K := Lib.hid (hF _ HB.out)
  have hs : (said.toList == said.toList) = true := by simp
  unfold Pl.arg at K ⊢
  clear hF
  go_enter Tryz.func12, Tryz.ntmps12
  go_wp2_with fail
  refine K.out.mono ?_
  rintro e w1 ⟨rfl, hb⟩
  have HB1 := Lib.hid (HB.out.trans (hb.mono (by simp)))
  clear hb
  go_wp2
  go_ret
  exact ⟨rfl, HB1.out⟩
end Go.Proofs.YthjpphojddbbmaaGreatDoor
