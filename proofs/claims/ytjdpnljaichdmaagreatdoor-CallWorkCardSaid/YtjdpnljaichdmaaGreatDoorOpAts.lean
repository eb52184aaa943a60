/-
  A call (an operation's name, plain values), as it lies in memory. Plain. Conditions: none.
-/
import Derived.Test.YtjdpnljaichdmaaGreatDoorTwOwn
namespace Go.Proofs.YtjdpnljaichdmaaGreatDoor
open Go.RowKit
set_option linter.unusedVariables false

/-- A call, as it lies in memory. -/
structure CallAt (w : World) (b o : Nat) (op : ByteArray) (ps : List Pl) (A : Option Addr) (c : Nat) : Prop where
  op_ : w.cell? ⟨b, o, none⟩ = some (.string op)
  args : w.cell? ⟨b, o + 1, none⟩ = some (.slice A ps.length c)
  len : ps.length * 56 ≤ 140737488351232
  lies : Pls.lies w w.heap.size ps A
theorem CallAt.below {w w' : World} {b o : Nat} {op : ByteArray} {ps : List Pl} {A : Option Addr} {c : Nat} (h : CallAt w b o op ps A c) (hb : Below w.heap.size w w') : CallAt w' b o op ps A c :=
  ⟨(hb.cell (p := ⟨b, o, none⟩) (World.block_lt_of_cell? _ _ h.op_)).trans h.op_, (hb.cell (p := ⟨b, o + 1, none⟩) (World.block_lt_of_cell? _ _ h.args)).trans h.args, h.len, h.lies.below hb hb.size⟩
end Go.Proofs.YtjdpnljaichdmaaGreatDoor
