/-
  espalierref10.Work: a walk, given what is asked, the sorts and the operation. Printed by a program of mine (gen_r10g.py). Conditions: the plain values lie in memory.
-/
import Derived.Test.YthjpphojddbbmaaGreatDoorCR10f
import Derived.Test.YthjpphojddbbmaaGreatDoorCRefAsked10
namespace Go.Proofs.YthjpphojddbbmaaGreatDoor
open Go.RowKit
set_option linter.unusedVariables false
set_option linter.unusedSimpArgs false

/-- Nothing beside a fault; a value. -/
def badP (e : Int) : Value := .tuple #[(Pl.mk 0 0 ⟨#[]⟩ []).arg none 0, .int .i64 e, .string ⟨#[]⟩]
def okP (x : Vl) : Value := .tuple #[x.toPl.arg none 0, .int .i64 0, .string ⟨#[]⟩]
def outP (r : Int × Vl) : Value := if r.1 = 0 then okP r.2 else badP r.1
theorem outP_eq (r : Int × Vl) : outP r = .tuple #[(if r.1 = 0 then r.2.toPl else .mk 0 0 ⟨#[]⟩ []).arg none 0, .int .i64 r.1, .string ⟨#[]⟩] := by
  unfold outP okP badP
  by_cases h : r.1 = 0
  · rw [if_pos h, if_pos h, h]
  · rw [if_neg h, if_neg h]
set_option maxRecDepth 100000 in
set_option maxHeartbeats 4000000 in
theorem r10_fault (op : ByteArray) (ps : List Pl) (A : Option Addr) (c : Nat) (w : World) (hlen : ps.length * 56 ≤ 140737488351232) (hl : Pls.lies w w.heap.size ps A) (E : Int) (hE : askedR op ps wordsRows = E) (he : E ≠ 0) :
    Calls Tryz.prog 11 #[.string op, .slice A ps.length c] w (Bel (badP E) w) := by
  have HX0 := Lib.hid (heap_alloc_new w (.cells #[.int .i64 0, .int .i64 0, .string ⟨#[]⟩, .slice none 0 0] 34))
  have HB0 := Lib.hid ((Below.refl w.heap.size w).alloc (Nat.le_refl _) (.cells #[.int .i64 0, .int .i64 0, .string ⟨#[]⟩, .slice none 0 0] 34))
  have KA := Lib.hid (ref_asked op ps A c _ hlen (hl.below HB0.out HB0.out.size))
  rw [hE] at KA
  have hne : (E != 0) = true := by simpa using he
  have hne2 : (E == 0) = false := by simpa using he
  clear hl hE he
  go_enter Tryz.func11, Tryz.ntmps11
  go_wp2_with fail
  refine KA.out.mono ?_
  rintro e w1 ⟨rfl, hb1⟩
  have HX1 := Lib.hid ((hb1.block _ (lt_of_block HX0.out)).trans HX0.out)
  have HB1 := Lib.hid (HB0.out.trans (hb1.mono HB0.out.size))
  have x1 := blk_cells9 HX1.out
  obtain ⟨x1, y1⟩ := x1
  clear hb1 KA
  go_wp2
  refine bodyPost_ret (fn := Tryz.f11) (v := badP E) (res_cell_t2 (p := 4) (q := 5) (r := 6) (ty := 34) (a := ⟨w.heap.size, 0, none⟩) Tryz.results11 rfl (run_loadVar_row (P := Tryz.prog) _ _ _ 34 _ _ _ (blk_set (blk_set (blk_set (blk_set HX1.out 0 (.int .i64 0)) 1 (.int .i64 0)) 2 (.string ⟨#[]⟩)) 3 (.slice none 0 0)) Tryz.underlying34 rfl (by kernel_rfl)) rfl rfl) rfl ?_
  exact ⟨rfl, below_put4 HB1.out _ _ _ _⟩
set_option maxRecDepth 100000 in
set_option maxHeartbeats 4000000 in
theorem r10_sort (op : ByteArray) (ps : List Pl) (A : Option Addr) (c : Nat) (w : World) (hlen : ps.length * 56 ≤ 140737488351232) (hl : Pls.lies w w.heap.size ps A) (hE : askedR op ps wordsRows = 0)
    (hS : ∀ w', Below w.heap.size w w' → Calls Tryz.prog 29 #[.string op, .slice A ps.length c] w' (Bel (.bool false) w')) :
    Calls Tryz.prog 11 #[.string op, .slice A ps.length c] w (Bel (badP 20) w) := by
  have HX0 := Lib.hid (heap_alloc_new w (.cells #[.int .i64 0, .int .i64 0, .string ⟨#[]⟩, .slice none 0 0] 34))
  have HB0 := Lib.hid ((Below.refl w.heap.size w).alloc (Nat.le_refl _) (.cells #[.int .i64 0, .int .i64 0, .string ⟨#[]⟩, .slice none 0 0] 34))
  have KA := Lib.hid (ref_asked op ps A c _ hlen (hl.below HB0.out HB0.out.size))
  rw [hE] at KA
  have HS := Lib.hid hS
  clear hl hE hS
  go_enter Tryz.func11, Tryz.ntmps11
  go_wp2_with fail
  refine KA.out.mono ?_
  rintro e w1 ⟨rfl, hb1⟩
  have HX1 := Lib.hid ((hb1.block _ (lt_of_block HX0.out)).trans HX0.out)
  have HB1 := Lib.hid (HB0.out.trans (hb1.mono HB0.out.size))
  have x1 := blk_cells9 HX1.out
  obtain ⟨x1, y1⟩ := x1
  clear hb1 KA
  go_wp2_with fail
  refine (HS.out w1 HB1.out).mono ?_
  rintro e w2 ⟨rfl, hb2⟩
  have HX2 := Lib.hid ((hb2.block _ (lt_of_block HX1.out)).trans HX1.out)
  have HB2 := Lib.hid (HB1.out.trans (hb2.mono HB1.out.size))
  have x2 := blk_cells9 HX2.out
  obtain ⟨x2, y2⟩ := x2
  clear hb2 x1 y1
  go_wp2
  refine bodyPost_ret (fn := Tryz.f11) (v := badP 20) (res_cell_t2 (p := 4) (q := 5) (r := 6) (ty := 34) (a := ⟨w.heap.size, 0, none⟩) Tryz.results11 rfl (run_loadVar_row (P := Tryz.prog) _ _ _ 34 _ _ _ (blk_set (blk_set (blk_set (blk_set HX2.out 0 (.int .i64 0)) 1 (.int .i64 0)) 2 (.string ⟨#[]⟩)) 3 (.slice none 0 0)) Tryz.underlying34 rfl (by kernel_rfl)) rfl rfl) rfl ?_
  exact ⟨rfl, below_put4 HB2.out _ _ _ _⟩
set_option maxRecDepth 100000 in
set_option maxHeartbeats 4000000 in
theorem r10_ok (op : ByteArray) (ps : List Pl) (A : Option Addr) (c : Nat) (w : World) (hlen : ps.length * 56 ≤ 140737488351232) (hl : Pls.lies w w.heap.size ps A) (hE : askedR op ps wordsRows = 0)
    (hS : ∀ w', Below w.heap.size w w' → Calls Tryz.prog 29 #[.string op, .slice A ps.length c] w' (Bel (.bool true) w')) (r : Int × Vl)
    (hW : ∀ w', Below w.heap.size w w' → Calls Tryz.prog 30 #[.string op, .slice A ps.length c] w' (Bel (pairW r) w')) :
    Calls Tryz.prog 11 #[.string op, .slice A ps.length c] w (Bel (outP r) w) := by
  have HX0 := Lib.hid (heap_alloc_new w (.cells #[.int .i64 0, .int .i64 0, .string ⟨#[]⟩, .slice none 0 0] 34))
  have HB0 := Lib.hid ((Below.refl w.heap.size w).alloc (Nat.le_refl _) (.cells #[.int .i64 0, .int .i64 0, .string ⟨#[]⟩, .slice none 0 0] 34))
  have KA := Lib.hid (ref_asked op ps A c _ hlen (hl.below HB0.out HB0.out.size))
  rw [hE] at KA
  have HS := Lib.hid hS
  have HW := Lib.hid hW
  rw [outP_eq]
  unfold pairW at HW
  generalize (if r.1 = 0 then r.2.toPl else Pl.mk 0 0 ⟨#[]⟩ []) = pl at *
  generalize r.1 = k at *
  unfold Pl.arg at HW
  clear hl hE hS hW
  go_enter Tryz.func11, Tryz.ntmps11
  go_wp2_with fail
  refine KA.out.mono ?_
  rintro e w1 ⟨rfl, hb1⟩
  have HX1 := Lib.hid ((hb1.block _ (lt_of_block HX0.out)).trans HX0.out)
  have HB1 := Lib.hid (HB0.out.trans (hb1.mono HB0.out.size))
  have x1 := blk_cells9 HX1.out
  obtain ⟨x1, y1⟩ := x1
  clear hb1 KA
  go_wp2_with fail
  refine (HS.out w1 HB1.out).mono ?_
  rintro e w2 ⟨rfl, hb2⟩
  have HX2 := Lib.hid ((hb2.block _ (lt_of_block HX1.out)).trans HX1.out)
  have HB2 := Lib.hid (HB1.out.trans (hb2.mono HB1.out.size))
  clear hb2 x1 y1
  go_wp2_with fail
  refine (HW.out w2 HB2.out).mono ?_
  rintro e w3 ⟨rfl, hb3⟩
  have HX3 := Lib.hid ((hb3.block _ (lt_of_block HX2.out)).trans HX2.out)
  have HB3 := Lib.hid (HB2.out.trans (hb3.mono HB2.out.size))
  have HX4 := Lib.hid ((Below.heap_alloc w3 (.cells #[.int .i64 pl.kind, .int .i64 pl.num, .string pl.text, .slice none pl.list.length 0] 34) _ (lt_of_block HX3.out)).trans HX3.out)
  have HB4 := Lib.hid (HB3.out.alloc HB3.out.size (.cells #[.int .i64 pl.kind, .int .i64 pl.num, .string pl.text, .slice none pl.list.length 0] 34))
  have HP4 := Lib.hid (heap_alloc_new w3 (.cells #[.int .i64 pl.kind, .int .i64 pl.num, .string pl.text, .slice none pl.list.length 0] 34))
  clear hb3
  go_upto_region 7 with fail
  generalize w3.heap.size = P at *
  generalize w3.alloc (.cells #[.int .i64 pl.kind, .int .i64 pl.num, .string pl.text, .slice none pl.list.length 0] 34) = w4 at *
  have x4 := blk_cells9 HX4.out
  obtain ⟨x4, y4⟩ := x4
  have z4_ := blk_cells9 HP4.out
  obtain ⟨z4_, z5_⟩ := z4_
  go_wp2
  refine bodyPost_ret (fn := Tryz.f11) (v := .tuple #[pl.arg none 0, .int .i64 k, .string ⟨#[]⟩]) (res_cell_t2 (p := 4) (q := 5) (r := 6) (ty := 34) (a := ⟨w.heap.size, 0, none⟩) Tryz.results11 rfl (run_loadVar_row (P := Tryz.prog) _ _ _ 34 _ _ _ (blk_set (blk_set (blk_set (blk_set HX4.out 0 (.int .i64 pl.kind)) 1 (.int .i64 pl.num)) 2 (.string pl.text)) 3 (.slice none pl.list.length 0)) Tryz.underlying34 rfl (by kernel_rfl)) rfl rfl) rfl ?_
  exact ⟨rfl, below_put4 HB4.out _ _ _ _⟩
end Go.Proofs.YthjpphojddbbmaaGreatDoor
