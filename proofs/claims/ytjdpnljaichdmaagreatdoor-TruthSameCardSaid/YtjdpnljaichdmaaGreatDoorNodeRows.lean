/-
  node.Rows: a walk. Conditions: none.
-/
import Derived.Test.YtjdpnljaichdmaaGreatDoorNodeLay
import Derived.Test.YtjdpnljaichdmaaGreatDoorKitRows
namespace Go.Proofs.YtjdpnljaichdmaaGreatDoor
open Go.RowKit
set_option linter.unusedVariables false

theorem heap_at {w : World} {o : Obj} {n : Nat} (h : w.heap.size = n) : (w.alloc o).heap[n]? = some o := h ▸ heap_alloc_new w o
theorem node_Rows1 (kind : ByteArray) (num : Bool) (text : Int) (w : World) : Calls Tryz.prog 106 #[.string kind, .bool num, .int .i64 text] w
    (Bel (.agg #[.string kind, .int .i64 0, .int .i64 0, .bool num, .int .i64 text, .slice (some ⟨w.heap.size + 1, 0, none⟩) 4 4]) w) := by
  have HB := Lib.hid (((Below.refl w.heap.size w).alloc (Nat.le_refl _) (.cells #[.string kind, .int .i64 0, .int .i64 0, .bool num, .int .i64 text, .slice (some ⟨w.heap.size + 1, 0, none⟩) 4 4] 93)).alloc (by simp) (.cells #[.string ⟨#[76, 105, 116, 101, 114, 97, 108]⟩, .string ⟨#[80, 117, 114, 101]⟩, .string ⟨#[84, 111, 116, 97, 108]⟩, .string ⟨#[83, 111, 114, 116, 101, 100]⟩] 9))
  go_enter Tryz.func106, Tryz.ntmps106
  go_wp2
  refine bodyPost_ret (fn := Tryz.f106) (v := .agg #[.string kind, .int .i64 0, .int .i64 0, .bool num, .int .i64 text, .slice (some ⟨w.heap.size + 1, 0, none⟩) 4 4]) (results_cell (p := 6) (ty := 93) (a := ⟨w.heap.size, 0, none⟩) Tryz.results106 rfl (run_loadVar_row (P := Tryz.prog) _ _ _ 93 _ _ _ (heap_alloc2 w _ _).1 Tryz.underlying93 rfl (by kernel_rfl))) rfl ⟨rfl, HB.out⟩

set_option maxRecDepth 100000 in
set_option maxHeartbeats 4000000 in
theorem node_Rows (w : World) : Calls Tryz.prog 91 #[] w fun e w' => ∃ (R : Nat) (a0 a1 : Option Addr) (cs : List Value), e = .returned (.slice (some ⟨R, 0, none⟩) 7 7) ∧
    w'.heap[R]? = some (.cells (Value.string ⟨#[98, 97, 115, 101, 46, 117, 110, 105, 116]⟩ :: .int .i64 0 :: .int .i64 0 :: .bool false :: .int .i64 0 :: .slice a0 4 4 :: .string ⟨#[98, 97, 115, 101, 46, 121, 101, 115]⟩ :: .int .i64 0 :: .int .i64 0 :: .bool false :: .int .i64 0 :: .slice a1 4 4 :: cs).toArray 93) ∧ Below w.heap.size w w' := by
  have H0 := Lib.hid (Below.refl w.heap.size w)
  go_enter Tryz.func91, Tryz.ntmps91
  go_wp2_with fail
  refine (node_Rows1 _ _ _ _).mono ?_
  rintro e w1 ⟨rfl, hb⟩
  have H1 := Lib.hid (H0.out.trans (hb.mono H0.out.size))
  clear hb
  go_wp2_with fail
  refine (node_Rows1 _ _ _ _).mono ?_
  rintro e w2 ⟨rfl, hb⟩
  have H2 := Lib.hid (H1.out.trans (hb.mono H1.out.size))
  clear hb
  go_wp2_with fail
  refine (node_Rows1 _ _ _ _).mono ?_
  rintro e w3 ⟨rfl, hb⟩
  have H3 := Lib.hid (H2.out.trans (hb.mono H2.out.size))
  clear hb
  go_wp2_with fail
  refine (node_Rows1 _ _ _ _).mono ?_
  rintro e w4 ⟨rfl, hb⟩
  have H4 := Lib.hid (H3.out.trans (hb.mono H3.out.size))
  clear hb
  go_wp2_with fail
  refine (node_Rows1 _ _ _ _).mono ?_
  rintro e w5 ⟨rfl, hb⟩
  have H5 := Lib.hid (H4.out.trans (hb.mono H4.out.size))
  clear hb
  have hs := H5.out.size
  go_wp2
  go_ret
  refine ⟨_, _, _, _, rfl, heap_at (by simp), ?_⟩
  refine Below.alloc (Below.alloc (Below.alloc H5.out ?_ _) ?_ _) ?_ _ <;> first | omega | (simp; omega)

end Go.Proofs.YtjdpnljaichdmaaGreatDoor
