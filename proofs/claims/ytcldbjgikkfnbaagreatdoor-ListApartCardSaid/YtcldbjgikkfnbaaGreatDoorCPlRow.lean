/-
  Texts of a proof in one: PlRow, OpRow. Conditions: each names its own.
-/
import Derived.Test.YtcldbjgikkfnbaaGreatDoorCPlMarks
import Derived.ProofKit
import Derived.OpenShut
import Derived.Carry
import Derived.SizedLaws
import Derived.Test.YtcldbjgikkfnbaaGreatDoorCards
import Derived.Test.YtcldbjgikkfnbaaGreatDoorTie
import Derived.Deep.DeepHandedRow
import Derived.Stop.LaidErr
import Derived.Lib.SmallJoins
import Derived.SevenTiedAt
/-
  A row's last lines: arguments read again behind new memory. Conditions: none.
-/
namespace Go.Proofs.YtcldbjgikkfnbaaGreatDoor
open Go.RowKit Go.WideShapes Go.ChangeShapes Go.ChangeAt
set_option linter.unusedVariables false

section
variable {H : Type} {enc : TypeId × Value → H} {P : Program}
theorem trodAll_keeps (hl : laidOutB P = true) {W W' : World} {sp : Nat → Bool} (hb : Below W.heap.size W W') : ∀ {ts : List TypeId} {vs : List Value} {ds : List (DataW H)} {ps : List MemPlace},
    ts.all (fun t => P.readableRec t && decide (t < P.types.size)) = true → DataW.TrodAll enc P W 0 (fun _ => true) true ts vs ds ps → (∀ p ∈ ps, p.block < W.heap.size) → (∀ p ∈ ps, sp p.block = true) → DataW.TrodAll enc P W' 0 sp true ts vs ds ps
  | [], vs, ds, ps, _, h, _, _ => by
    obtain ⟨rfl, rfl, rfl⟩ := trodAll_nil h
    exact trodAll_mk0
  | t :: ts, vs, ds, ps, hr, h, hlt, hsp => by
    obtain ⟨v, vs', d, ds', p, q, rfl, rfl, rfl, hd, hds⟩ := trodAll_cons h
    simp only [List.all_cons, Bool.and_eq_true, decide_eq_true_eq] at hr
    refine trodAll_cons_mk (WideElems.Trod_stays hl hr.1.1 hr.1.2 hd (fun x hx => hb.same (hlt x (by simp [hx]))) (fun x hx => hsp x (by simp [hx]))) (trodAll_keeps hl hb hr.2 hds (fun x hx => hlt x (by simp [hx])) (fun x hx => hsp x (by simp [hx])))
end
theorem plLaid : laidOutB Tryz.prog = true := by kernel_rfl
theorem len2 {α : Type} {l : List α} (h : l.length = 2) : ∃ a b, l = [a, b] := by
  match l, h with
  | [a, b], _ => exact ⟨a, b, rfl⟩
theorem add_add_two (b o i j : Nat) : ((⟨b, o, none⟩ : Addr).add i).add j = ⟨b, o + i + j, none⟩ := add_add_none b o i j
end Go.Proofs.YtcldbjgikkfnbaaGreatDoor

/-
  What the rows over operations share: a world for the witness, in which the listed tables lie. Conditions: none.
-/
namespace Go.Proofs.YtcldbjgikkfnbaaGreatDoor
open Go.ChangeShapes Go.WideShapes Go.ChangeAt Go.RowKit Go.Joins
set_option linter.unusedVariables false
theorem opOwn : ownKnob Tryz.prog.godebug = none := by kernel_rfl
/-- A datum's cells. -/
def opLitV : DataW Unit → Value
  | .lit (.int k n) => .int k n
  | _ => undef
def opFlat1 : DataW Unit → List Value
  | .agg ds => ds.map opLitV
  | d => [opLitV d]
def opFlat2 : DataW Unit → List Value
  | .agg ds => ds.flatMap opFlat1
  | d => [opLitV d]
def opLay (cs : List Value) : Obj → Obj
  | .cells _ t frozen => .cells cs.toArray t frozen
  | o => o
noncomputable def opWorld (os : Os) : World :=
  { World.holding Tryz.prog os ⟨#[], #[], []⟩ with heap := ((World.holding Tryz.prog os ⟨#[], #[], []⟩).heap.modify 2 (opLay (opFlat2 Rows.laid_unicode_utf8_acceptRanges))).modify 1 (opLay (opFlat2 Rows.laid_unicode_utf8_first)) }
def opWit : Array Value := #[.slice none 0 0]
end Go.Proofs.YtcldbjgikkfnbaaGreatDoor
