/-
  Texts of a proof in one: NodeRows, NodeMake. Conditions: each names its own.
-/
import Derived.Test.YtcldbjgikkfnbaaGreatDoorCNodeLay
import Derived.Test.YtcldbjgikkfnbaaGreatDoorCSignKind
/-
  node.Rows: a walk. Conditions: none.
-/
namespace Go.Proofs.YtcldbjgikkfnbaaGreatDoor
open Go.RowKit
set_option linter.unusedVariables false

theorem heap_at {w : World} {o : Obj} {n : Nat} (h : w.heap.size = n) : (w.alloc o).heap[n]? = some o := h ▸ heap_alloc_new w o
theorem node_Rows1 (kind : ByteArray) (num : Bool) (text : Int) (w : World) : Calls Tryz.prog 107 #[.string kind, .bool num, .int .i64 text] w
    (Bel (.agg #[.string kind, .int .i64 0, .int .i64 0, .bool num, .int .i64 text, .slice (some ⟨w.heap.size + 1, 0, none⟩) 4 4]) w) := by
  have HB := Lib.hid (((Below.refl w.heap.size w).alloc (Nat.le_refl _) (.cells #[.string kind, .int .i64 0, .int .i64 0, .bool num, .int .i64 text, .slice (some ⟨w.heap.size + 1, 0, none⟩) 4 4] 123)).alloc (by simp) (.cells #[.string ⟨#[76, 105, 116, 101, 114, 97, 108]⟩, .string ⟨#[80, 117, 114, 101]⟩, .string ⟨#[84, 111, 116, 97, 108]⟩, .string ⟨#[83, 111, 114, 116, 101, 100]⟩] 9))
  go_enter Tryz.func107, Tryz.ntmps107
  go_wp2
  refine bodyPost_ret (fn := Tryz.f107) (v := .agg #[.string kind, .int .i64 0, .int .i64 0, .bool num, .int .i64 text, .slice (some ⟨w.heap.size + 1, 0, none⟩) 4 4]) (results_cell (p := 6) (ty := 123) (a := ⟨w.heap.size, 0, none⟩) Tryz.results107 rfl (run_loadVar_row (P := Tryz.prog) _ _ _ 123 _ _ _ (heap_alloc2 w _ _).1 Tryz.underlying123 rfl (by kernel_rfl))) rfl ⟨rfl, HB.out⟩

set_option maxRecDepth 100000 in
set_option maxHeartbeats 4000000 in
theorem node_Rows (w : World) : Calls Tryz.prog 96 #[] w fun e w' => ∃ (R : Nat) (a0 a1 : Option Addr) (cs : List Value), e = .returned (.slice (some ⟨R, 0, none⟩) 7 7) ∧
    w'.heap[R]? = some (.cells (Value.string ⟨#[98, 97, 115, 101, 46, 117, 110, 105, 116]⟩ :: .int .i64 0 :: .int .i64 0 :: .bool false :: .int .i64 0 :: .slice a0 4 4 :: .string ⟨#[98, 97, 115, 101, 46, 121, 101, 115]⟩ :: .int .i64 0 :: .int .i64 0 :: .bool false :: .int .i64 0 :: .slice a1 4 4 :: cs).toArray 123) ∧ Below w.heap.size w w' := by
  have H0 := Lib.hid (Below.refl w.heap.size w)
  go_enter Tryz.func96, Tryz.ntmps96
  go_wp2_with fail
  refine (node_Rows1 _ _ _ _).mono ?_
  rintro e w1 ⟨rfl, hb⟩
  have H1 := Lib.hid (H0.out.trans (hb.mono H0.out.size))
  clear hb
  go_wp2_with fail
  refine (node_Rows1 _ _ _ _).mono ?_
  rintro e w2 ⟨rfl, hb⟩
  have H2 := Lib.hid (H1.out.trans (hb.mono H1.out.size))
  clear hb
  go_wp2_with fail
  refine (node_Rows1 _ _ _ _).mono ?_
  rintro e w3 ⟨rfl, hb⟩
  have H3 := Lib.hid (H2.out.trans (hb.mono H2.out.size))
  clear hb
  go_wp2_with fail
  refine (node_Rows1 _ _ _ _).mono ?_
  rintro e w4 ⟨rfl, hb⟩
  have H4 := Lib.hid (H3.out.trans (hb.mono H3.out.size))
  clear hb
  go_wp2_with fail
  refine (node_Rows1 _ _ _ _).mono ?_
  rintro e w5 ⟨rfl, hb⟩
  have H5 := Lib.hid (H4.out.trans (hb.mono H4.out.size))
  clear hb
  have hs := H5.out.size
  go_wp2
  go_ret
  refine ⟨_, _, _, _, rfl, heap_at (by simp), ?_⟩
  refine Below.alloc (Below.alloc (Below.alloc H5.out ?_ _) ?_ _) ?_ _ <;> first | omega | (simp; omega)

end Go.Proofs.YtcldbjgikkfnbaaGreatDoor

/-
  node.fits, node.Make for 'base.yes' without kids: walks. Conditions: none.
-/
namespace Go.Proofs.YtcldbjgikkfnbaaGreatDoor
open Go.RowKit
set_option linter.unusedVariables false

def baseYes : ByteArray := ⟨#[98, 97, 115, 101, 46, 121, 101, 115]⟩
def yesTree : Value := .agg #[.string ⟨#[98, 97, 115, 101, 46, 121, 101, 115]⟩, .int .i64 0, .string ⟨#[]⟩, .slice none 0 0]
set_option maxRecDepth 100000 in
set_option maxHeartbeats 4000000 in
theorem node_fits (w : World) : Calls Tryz.prog 71 #[yesTree, .slice none 0 0] w (Bel (.int .i64 0) w) := by
  have H0 := Lib.hid ((Below.refl w.heap.size w).alloc (Nat.le_refl _) (.cells #[.string ⟨#[98, 97, 115, 101, 46, 121, 101, 115]⟩, .int .i64 0, .string ⟨#[]⟩, .slice none 0 0] 65))
  unfold yesTree
  go_enter Tryz.func71, Tryz.ntmps71
  go_wp2_with fail
  refine (node_Rows _).mono ?_
  rintro e w1 ⟨R, a0, a1, cs, rfl, hR, hb⟩
  have H1 := Lib.hid (H0.out.trans (hb.mono H0.out.size))
  have hx := (hb.block w.heap.size (by simp)).trans (heap_alloc_new w _)
  have t0 := fun j => show w1.cell? ⟨w.heap.size, j, none⟩ = (#[.string ⟨#[98, 97, 115, 101, 46, 121, 101, 115]⟩, .int .i64 0, .string ⟨#[]⟩, .slice none 0 0] : Array Value)[j]? by simp [World.cell?, hx]
  have r0 : ∀ j u, [Value.string ⟨#[98, 97, 115, 101, 46, 117, 110, 105, 116]⟩, .int .i64 0, .int .i64 0, .bool false, .int .i64 0, .slice a0 4 4, .string ⟨#[98, 97, 115, 101, 46, 121, 101, 115]⟩, .int .i64 0, .int .i64 0, .bool false, .int .i64 0, .slice a1 4 4][j]? = some u → w1.cell? ⟨R, j, none⟩ = some u := fun j u hu => by
    have hj : j < 12 := (List.getElem?_eq_some_iff.1 hu).1
    simp only [World.cell?, hR, List.getElem?_toArray]
    match j, hj, hu with
    | 0, _, hu | 1, _, hu | 2, _, hu | 3, _, hu | 4, _, hu | 5, _, hu | 6, _, hu | 7, _, hu | 8, _, hu | 9, _, hu | 10, _, hu | 11, _, hu => simpa using hu
  have c0 : w1.cell? ⟨R, 0, none⟩ = some (.string ⟨#[98, 97, 115, 101, 46, 117, 110, 105, 116]⟩) := r0 0 _ rfl
  have c1 : w1.cell? ⟨R, 1, none⟩ = some (.int .i64 0) := r0 1 _ rfl
  have c2 : w1.cell? ⟨R, 2, none⟩ = some (.int .i64 0) := r0 2 _ rfl
  have c3 : w1.cell? ⟨R, 3, none⟩ = some (.bool false) := r0 3 _ rfl
  have c4 : w1.cell? ⟨R, 4, none⟩ = some (.int .i64 0) := r0 4 _ rfl
  have c5 : w1.cell? ⟨R, 5, none⟩ = some (.slice a0 4 4) := r0 5 _ rfl
  have d0 : w1.cell? ⟨R, 6, none⟩ = some (.string ⟨#[98, 97, 115, 101, 46, 121, 101, 115]⟩) := r0 6 _ rfl
  have d1 : w1.cell? ⟨R, 7, none⟩ = some (.int .i64 0) := r0 7 _ rfl
  have d2 : w1.cell? ⟨R, 8, none⟩ = some (.int .i64 0) := r0 8 _ rfl
  have d3 : w1.cell? ⟨R, 9, none⟩ = some (.bool false) := r0 9 _ rfl
  have d4 : w1.cell? ⟨R, 10, none⟩ = some (.int .i64 0) := r0 10 _ rfl
  have d5 : w1.cell? ⟨R, 11, none⟩ = some (.slice a1 4 4) := r0 11 _ rfl
  have hRlt := lt_of_block hR
  have hwlt := lt_of_block hx
  have hs := H1.out.size
  clear hb hx r0 hR
  go_wp2_with fail
  refine wp_loop_rounds 2 ?_
  rw [rounds_succ]
  go_wp2
  rw [rounds_succ]
  go_wp2_with fail
  refine wp_loop_rounds 1 ?_
  rw [rounds_succ]
  go_wp2
  go_ret
  refine ⟨rfl, Below.alloc (Below.alloc H1.out ?_ _) ?_ _⟩ <;> first | omega | (simp; omega)
theorem truth_Sort (q : Bool) (w : World) : Calls Tryz.prog 179 #[.bool q] w fun e w' => e = .returned (.string ⟨#[116, 114, 117, 116, 104]⟩) ∧ w = w' := by
  go_enter Tryz.func179, Tryz.ntmps179
  go_wp2
  go_ret
  exact ⟨rfl, rfl⟩
theorem node_worth (w : World) : Calls Tryz.prog 72 #[yesTree] w (Bel (.iface 119 (.bool true)) w) := by
  have H0 := Lib.hid ((Below.refl w.heap.size w).alloc (Nat.le_refl _) (.cells #[.string baseYes, .int .i64 0, .string ⟨#[]⟩, .slice none 0 0] 65))
  unfold baseYes at H0
  unfold yesTree
  go_enter Tryz.func72, Tryz.ntmps72
  go_wp2
  go_ret
  exact ⟨rfl, H0.out⟩
/-- A node that is a literal. -/
def IsLit (v : Value) : Prop := ∃ p, v = .iface 182 (.pointer (some p))
/-- What a maker of nodes gives: a handle of a literal in new memory. -/
def HandlePost (w : World) (e : Ending) (w' : World) : Prop := ∃ k : Kd, e = .returned (.tuple #[k.ptr, .nilIface]) ∧ w.heap.size ≤ k.blk ∧ k.at_ w' ∧ IsLit k.n ∧ Below w.heap.size w w'
set_option maxRecDepth 100000 in
set_option maxHeartbeats 4000000 in
theorem node_Make (w : World) : Calls Tryz.prog 38 #[yesTree, .slice none 0 0] w (HandlePost w) := by
  have H0 := Lib.hid ((Below.refl w.heap.size w).alloc (Nat.le_refl _) (.cells #[.string baseYes, .int .i64 0, .string ⟨#[]⟩, .slice none 0 0] 65))
  unfold baseYes at H0
  have KF := Lib.hid (fun w' => node_fits w')
  have KL := Lib.hid (fun w' => node_Lay baseYes 0 ⟨#[]⟩ (.slice none 0 0) [] none 0 w' ⟨_, _, _, rfl⟩ (by simp) ⟨fun h => absurd h (by simp), fun k hk => absurd hk List.not_mem_nil⟩)
  have KW := Lib.hid (fun w' => node_worth w')
  unfold yesTree at KF KW ⊢
  unfold baseYes at KL
  simp only [List.length_nil, List.map_nil] at KL
  go_enter Tryz.func38, Tryz.ntmps38
  go_wp2_with fail
  refine (KF.out _).mono ?_
  rintro e w1 ⟨rfl, hb1⟩
  have H1 := Lib.hid (H0.out.trans (hb1.mono H0.out.size))
  have hx1 := (hb1.block w.heap.size (by simp)).trans (heap_alloc_new w _)
  have t1 := fun j => show w1.cell? ⟨w.heap.size, j, none⟩ = (#[.string ⟨#[98, 97, 115, 101, 46, 121, 101, 115]⟩, .int .i64 0, .string ⟨#[]⟩, .slice none 0 0] : Array Value)[j]? by simp [World.cell?, hx1]
  have HX1 := Lib.hid hx1
  clear hb1 hx1
  go_wp2_with fail
  refine (KL.out _).mono ?_
  rintro e w2 ⟨A, c, rfl, hv, hb2⟩
  have H2 := Lib.hid (H1.out.trans (hb2.mono H1.out.size))
  have hl1 := lt_of_block HX1.out
  have hx2 := (hb2.block w.heap.size hl1).trans HX1.out
  have t2 := fun j => show w2.cell? ⟨w.heap.size, j, none⟩ = (#[.string ⟨#[98, 97, 115, 101, 46, 121, 101, 115]⟩, .int .i64 0, .string ⟨#[]⟩, .slice none 0 0] : Array Value)[j]? by simp [World.cell?, hx2]
  have HX2 := Lib.hid hx2
  have hl2 := lt_of_block hx2
  clear hb2 hx2 hv t1 HX1
  go_wp2_with fail
  refine (KW.out _).mono ?_
  rintro e w3 ⟨rfl, hb3⟩
  have H3 := Lib.hid ((H2.out.alloc H2.out.size (.cells #[.string ⟨#[98, 97, 115, 101, 46, 121, 101, 115]⟩, .int .i64 0, .string ⟨#[]⟩, .slice A 0 c] 138)).trans (hb3.mono (Nat.le_trans H2.out.size (by simp))))
  have hx3 := (hb3.block w2.heap.size (by simp)).trans (heap_alloc_new w2 _)
  have t3 := fun j => show w3.cell? ⟨w2.heap.size, j, none⟩ = (#[.string ⟨#[98, 97, 115, 101, 46, 121, 101, 115]⟩, .int .i64 0, .string ⟨#[]⟩, .slice A 0 c] : Array Value)[j]? by simp [World.cell?, hx3]
  have e0 : w3.cell? ⟨w2.heap.size, 0, none⟩ = some (.string ⟨#[98, 97, 115, 101, 46, 121, 101, 115]⟩) := t3 0
  have e1 : w3.cell? ⟨w2.heap.size, 1, none⟩ = some (.int .i64 0) := t3 1
  have e2 : w3.cell? ⟨w2.heap.size, 2, none⟩ = some (.string ⟨#[]⟩) := t3 2
  have e3 : w3.cell? ⟨w2.heap.size, 3, none⟩ = some (.slice A 0 c) := t3 3
  have hm : ∀ w, (method 416 119 (.bool true) "Sort").run Tryz.prog w = .ok (179, .bool true) w := fun _ => by kernel_rfl
  clear hb3 hx3 t2 t3 KF KL KW H0 H1 H2 HX2 hl1
  go_wp2
  go_region_held3 (fun w' => w'.cell? ⟨w2.heap.size, 0, none⟩ = some (.string ⟨#[98, 97, 115, 101, 46, 121, 101, 115]⟩) ∧ w'.cell? ⟨w2.heap.size, 1, none⟩ = some (.int .i64 0) ∧ w'.cell? ⟨w2.heap.size, 2, none⟩ = some (.string ⟨#[]⟩) ∧ w'.cell? ⟨w2.heap.size, 3, none⟩ = some (.slice A 0 c))
    (first | exact ⟨e0, e1, e2, e3⟩ | exact ⟨alloc_cell _ e0, alloc_cell _ e1, alloc_cell _ e2, alloc_cell _ e3⟩ | exact ⟨alloc_cell _ (alloc_cell _ e0), alloc_cell _ (alloc_cell _ e1), alloc_cell _ (alloc_cell _ e2), alloc_cell _ (alloc_cell _ e3)⟩)
    (first
      | ((go_at_call 179; refine (truth_Sort _ _).mono ?_; rintro e w4 ⟨rfl, rfl⟩))
      | ((go_at_call 70; refine (node_Of _ _ _).mono ?_; rintro e w4 ⟨rfl, rfl⟩)))
  have hs3 := H3.out.size
  go_wp2
  go_ret2
  refine ⟨⟨w3.heap.size + 1, _⟩, rfl, by show w.heap.size ≤ w3.heap.size + 1; omega, ⟨heap_at (by simp), _, _, rfl⟩, ⟨_, rfl⟩, (Below.alloc (Below.alloc H3.out (by omega) _) (by simp; omega) _).drew⟩
end Go.Proofs.YtcldbjgikkfnbaaGreatDoor
