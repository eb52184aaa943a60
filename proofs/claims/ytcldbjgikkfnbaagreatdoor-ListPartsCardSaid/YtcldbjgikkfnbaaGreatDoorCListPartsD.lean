/-
  espalierlaw11.ListParts, as the row asks. Conditions: the values lie in memory; the slice is no longer than its capacity.
-/
import Derived.Test.YtcldbjgikkfnbaaGreatDoorCListPartsC
import Derived.Test.YtcldbjgikkfnbaaGreatDoorCPlMarks
namespace Go.Proofs.YtcldbjgikkfnbaaGreatDoor
open Go.RowKit Go.WideShapes Go.ChangeShapes Go.ChangeAt
set_option linter.unusedVariables false

theorem cap_top {H : Type} {enc : TypeId × Value → H} {w : World} {spare : Nat → Bool} {held : Bool} {fuel : Nat} {l c : Nat} {A : Option Addr} {x : DataW H × List MemPlace}
    (h : DataW.trod enc Tryz.prog w 0 spare held fuel 25 [.slice A l c] = some x) : l ≤ c := by
  rcases DataW.trod_slice Tryz.underlying25 h with ⟨hcs, rfl⟩ | ⟨a, len, cap, elems, rest, n2, hn2, hcs, rfl, _, hle, hmx, hel, hx, _, _⟩
  · simp only [List.cons.injEq, and_true] at hcs
    injection hcs with e1 e2 e3
    omega
  · simp only [List.cons.injEq, and_true] at hcs
    injection hcs with e1 e2 e3
    omega
theorem law_ListPartsI (ps : List Pl) (A : Option Addr) (c : Nat) (hn : ps.length * 56 ≤ 140737488351232) (n : Int) (w : World) (hl : Pls.lies w w.heap.size ps A) (hcap : ps.length ≤ c) (hw : (Lit.int .u16 n).wf = true) :
    Calls Tryz.prog 4 #[.slice A ps.length c, .int .u16 n] w (Bel (.bool true) w) := by
  have h' : IntKind.u16.min ≤ n ∧ n ≤ IntKind.u16.max := by simpa [Lit.wf] using hw
  have h1 : n ≤ 65535 := h'.2
  have h0 : (0 : Int) ≤ n := h'.1
  obtain ⟨z, rfl⟩ := Int.eq_ofNat_of_zero_le h0
  exact law_ListParts ps A c z w (by omega) hn hcap hl
end Go.Proofs.YtcldbjgikkfnbaaGreatDoor
