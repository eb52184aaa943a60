/-
  guard.Kit: a walk. Conditions: none.
-/
import Derived.Test.YtjdpnljaichdmaaGreatDoorKitLit
namespace Go.Proofs.YtjdpnljaichdmaaGreatDoor
open Go.RowKit
set_option linter.unusedVariables false

def guardRows : List RowD := [⟨⟨#[103, 117, 97, 114, 100, 46, 114, 97, 105, 115, 101]⟩, 1, 1, false, 0, [⟨#[83, 116, 114, 105, 99, 116]⟩, ⟨#[83, 111, 114, 116, 101, 100]⟩]⟩, ⟨⟨#[103, 117, 97, 114, 100, 46, 99, 104, 101, 99, 107]⟩, 2, 2, false, 0, [⟨#[83, 116, 114, 105, 99, 116]⟩, ⟨#[83, 111, 114, 116, 101, 100]⟩]⟩, ⟨⟨#[103, 117, 97, 114, 100, 46, 116, 114, 121]⟩, 2, 2, false, 0, [⟨#[76, 97, 122, 121]⟩, ⟨#[80, 117, 114, 101]⟩, ⟨#[84, 111, 116, 97, 108]⟩, ⟨#[83, 111, 114, 116, 101, 100]⟩]⟩, ⟨⟨#[103, 117, 97, 114, 100, 46, 99, 97, 116, 99, 104]⟩, 2, 2, false, 2, [⟨#[76, 97, 122, 121]⟩, ⟨#[66, 105, 110, 100, 101, 114]⟩, ⟨#[80, 117, 114, 101]⟩, ⟨#[84, 111, 116, 97, 108]⟩, ⟨#[83, 111, 114, 116, 101, 100]⟩]⟩]
theorem guard_kitB : kitB ⟨#[103, 117, 97, 114, 100]⟩ guardRows = true := by kernel_rfl
/-- Rows that a call gives: in new memory. -/
def RowsNew (rs : List RowD) (w : World) (e : Ending) (w' : World) : Prop := ∃ A c ts, e = .returned (.slice A rs.length c) ∧ ts.map RowAt.row = rs ∧ RowsIn w' (fresh w w') ts A ∧ Below w.heap.size w w'
theorem guard_rows (w : World) : Calls Tryz.prog 45 #[] w (RowsNew guardRows w) := by
  have HL := Lib.hid (lit_rows w guardRows)
  go_enter Tryz.func45, Tryz.ntmps45
  go_wp2
  go_ret
  exact ⟨_, 4, litRows w.heap.size guardRows, rfl, litRows_row _ _, HL.out.1, HL.out.2⟩
theorem guard_Kit (w : World) : Calls Tryz.prog 28 #[] w (KitPost ⟨#[103, 117, 97, 114, 100]⟩ 46 guardRows w) := by
  go_enter Tryz.func28, Tryz.ntmps28
  go_wp2_with fail
  refine (guard_rows w).mono ?_
  rintro e w1 ⟨A, c, ts, rfl, hts, hA, hb⟩
  have HB := Lib.hid hb
  have KN := Lib.hid (kit_new_of guard_kitB 46 ts hts A c w1 (hA.keep (fun _ _ _ => rfl) (fun b hb => hb.2)))
  rw [show ts.length = guardRows.length by rw [← hts, List.length_map]] at KN
  clear hts hA hb
  go_wp2_with fail
  refine KN.out.mono ?_
  rintro e w2 ⟨M, v, us, hM, rfl, hK, hu, hb2⟩
  have H1 := Lib.hid hK
  have H2 := Lib.hid hu
  have H3 := Lib.hid (HB.out.trans (hb2.mono HB.out.size))
  have H4 := Lib.hid (Nat.le_trans HB.out.size hM)
  clear hM hK hu hb2
  go_wp2
  go_ret
  exact ⟨M, v, us, H4.out, rfl, H1.out, H2.out, H3.out⟩
end Go.Proofs.YtjdpnljaichdmaaGreatDoor
