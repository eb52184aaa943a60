/-
  What is proved: 'espalierlaw0.Values' returns true (Rows.ValuesSaid): the types of values tell their sorts' names, and an interface that holds one holds no other one. Conditions: none (the function takes no argument).
-/
import Derived.Test.YthhacpfgcaplcaaBase
import Derived.Test.YthhacpfgcaplcaaRows
import Derived.WalkKit
import Derived.ProofKit
import Derived.OpenShut
namespace Go.Proofs.Ythhacpfgcaplcaa.values
open Go.ChangeShapes Go.WideShapes Go.ChangeAt Go.RowKit
set_option linter.unusedVariables false      -- a walk need not use every 'w<i>' (that an integer argument fits its kind)

theorem own : ownKnob Try.prog.godebug = none := by kernel_rfl

theorem sort_unit (w : World) : Calls Try.prog 21 #[.agg #[]] w fun e w' => e = .returned (.string ⟨#[117, 110, 105, 116]⟩) ∧ Below w.heap.size w w' := by
  go_enter Try.func21, Try.ntmps21
  go_wp2
  go_ret
  exact ⟨rfl, (Below.refl _ _).alloc (Nat.le_refl _) _⟩
theorem sort_truth (b : Bool) (w : World) : Calls Try.prog 22 #[.bool b] w fun e w' => e = .returned (.string ⟨#[116, 114, 117, 116, 104]⟩) ∧ Below w.heap.size w w' := by
  go_enter Try.func22, Try.ntmps22
  go_wp2
  go_ret
  exact ⟨rfl, Below.refl _ _⟩
theorem sort_int (n : Int) (w : World) : Calls Try.prog 23 #[.int .i64 n] w fun e w' => e = .returned (.string ⟨#[105, 110, 116]⟩) ∧ Below w.heap.size w w' := by
  go_enter Try.func23, Try.ntmps23
  go_wp2
  go_ret
  exact ⟨rfl, Below.refl _ _⟩
theorem sort_text (s : ByteArray) (w : World) : Calls Try.prog 24 #[.string s] w fun e w' => e = .returned (.string ⟨#[116, 101, 120, 116]⟩) ∧ Below w.heap.size w w' := by
  go_enter Try.func24, Try.ntmps24
  go_wp2
  go_ret
  exact ⟨rfl, Below.refl _ _⟩
theorem sort_list (a : Option Addr) (n c : Nat) (w : World) : Calls Try.prog 25 #[.slice a n c] w fun e w' => e = .returned (.string ⟨#[108, 105, 115, 116]⟩) ∧ Below w.heap.size w w' := by
  go_enter Try.func25, Try.ntmps25
  go_wp2
  go_ret
  exact ⟨rfl, Below.refl _ _⟩


theorem ta27_27 (w : World) (v : Value) : (Instr.typeAssert (.iface 27 v) 36 27 true).run Try.prog w = .ok (.tuple #[v, .bool true]) w := by kernel_rfl
theorem ta27_28 (w : World) (v : Value) : (Instr.typeAssert (.iface 27 v) 36 28 true).run Try.prog w = .ok (.tuple #[.bool false, .bool false]) w := by kernel_rfl
theorem ta27_29 (w : World) (v : Value) : (Instr.typeAssert (.iface 27 v) 36 29 true).run Try.prog w = .ok (.tuple #[.int .i64 0, .bool false]) w := by kernel_rfl
theorem ta27_30 (w : World) (v : Value) : (Instr.typeAssert (.iface 27 v) 36 30 true).run Try.prog w = .ok (.tuple #[.string ⟨#[]⟩, .bool false]) w := by kernel_rfl
theorem ta27_32 (w : World) (v : Value) : (Instr.typeAssert (.iface 27 v) 36 32 true).run Try.prog w = .ok (.tuple #[.slice none 0 0, .bool false]) w := by kernel_rfl
theorem ta28_27 (w : World) (v : Value) : (Instr.typeAssert (.iface 28 v) 36 27 true).run Try.prog w = .ok (.tuple #[.agg #[], .bool false]) w := by kernel_rfl
theorem ta28_28 (w : World) (v : Value) : (Instr.typeAssert (.iface 28 v) 36 28 true).run Try.prog w = .ok (.tuple #[v, .bool true]) w := by kernel_rfl
theorem ta28_29 (w : World) (v : Value) : (Instr.typeAssert (.iface 28 v) 36 29 true).run Try.prog w = .ok (.tuple #[.int .i64 0, .bool false]) w := by kernel_rfl
theorem ta28_30 (w : World) (v : Value) : (Instr.typeAssert (.iface 28 v) 36 30 true).run Try.prog w = .ok (.tuple #[.string ⟨#[]⟩, .bool false]) w := by kernel_rfl
theorem ta28_32 (w : World) (v : Value) : (Instr.typeAssert (.iface 28 v) 36 32 true).run Try.prog w = .ok (.tuple #[.slice none 0 0, .bool false]) w := by kernel_rfl
theorem ta29_27 (w : World) (v : Value) : (Instr.typeAssert (.iface 29 v) 36 27 true).run Try.prog w = .ok (.tuple #[.agg #[], .bool false]) w := by kernel_rfl
theorem ta29_28 (w : World) (v : Value) : (Instr.typeAssert (.iface 29 v) 36 28 true).run Try.prog w = .ok (.tuple #[.bool false, .bool false]) w := by kernel_rfl
theorem ta29_29 (w : World) (v : Value) : (Instr.typeAssert (.iface 29 v) 36 29 true).run Try.prog w = .ok (.tuple #[v, .bool true]) w := by kernel_rfl
theorem ta29_30 (w : World) (v : Value) : (Instr.typeAssert (.iface 29 v) 36 30 true).run Try.prog w = .ok (.tuple #[.string ⟨#[]⟩, .bool false]) w := by kernel_rfl
theorem ta29_32 (w : World) (v : Value) : (Instr.typeAssert (.iface 29 v) 36 32 true).run Try.prog w = .ok (.tuple #[.slice none 0 0, .bool false]) w := by kernel_rfl
theorem ta30_27 (w : World) (v : Value) : (Instr.typeAssert (.iface 30 v) 36 27 true).run Try.prog w = .ok (.tuple #[.agg #[], .bool false]) w := by kernel_rfl
theorem ta30_28 (w : World) (v : Value) : (Instr.typeAssert (.iface 30 v) 36 28 true).run Try.prog w = .ok (.tuple #[.bool false, .bool false]) w := by kernel_rfl
theorem ta30_29 (w : World) (v : Value) : (Instr.typeAssert (.iface 30 v) 36 29 true).run Try.prog w = .ok (.tuple #[.int .i64 0, .bool false]) w := by kernel_rfl
theorem ta30_30 (w : World) (v : Value) : (Instr.typeAssert (.iface 30 v) 36 30 true).run Try.prog w = .ok (.tuple #[v, .bool true]) w := by kernel_rfl
theorem ta30_32 (w : World) (v : Value) : (Instr.typeAssert (.iface 30 v) 36 32 true).run Try.prog w = .ok (.tuple #[.slice none 0 0, .bool false]) w := by kernel_rfl
theorem ta32_27 (w : World) (v : Value) : (Instr.typeAssert (.iface 32 v) 36 27 true).run Try.prog w = .ok (.tuple #[.agg #[], .bool false]) w := by kernel_rfl
theorem ta32_28 (w : World) (v : Value) : (Instr.typeAssert (.iface 32 v) 36 28 true).run Try.prog w = .ok (.tuple #[.bool false, .bool false]) w := by kernel_rfl
theorem ta32_29 (w : World) (v : Value) : (Instr.typeAssert (.iface 32 v) 36 29 true).run Try.prog w = .ok (.tuple #[.int .i64 0, .bool false]) w := by kernel_rfl
theorem ta32_30 (w : World) (v : Value) : (Instr.typeAssert (.iface 32 v) 36 30 true).run Try.prog w = .ok (.tuple #[.string ⟨#[]⟩, .bool false]) w := by kernel_rfl
theorem ta32_32 (w : World) (v : Value) : (Instr.typeAssert (.iface 32 v) 36 32 true).run Try.prog w = .ok (.tuple #[v, .bool true]) w := by kernel_rfl

theorem me27 (w : World) : (method 158 27 (.agg #[]) "Sort").run Try.prog w = .ok (21, .agg #[]) w := by kernel_rfl
theorem me28 (b : Bool) (w : World) : (method 158 28 (.bool b) "Sort").run Try.prog w = .ok (22, .bool b) w := by kernel_rfl
theorem me29 (n : Int) (w : World) : (method 158 29 (.int .i64 n) "Sort").run Try.prog w = .ok (23, .int .i64 n) w := by kernel_rfl
theorem me30 (s : ByteArray) (w : World) : (method 158 30 (.string s) "Sort").run Try.prog w = .ok (24, .string s) w := by kernel_rfl
theorem me32 (a : Option Addr) (n c : Nat) (w : World) : (method 158 32 (.slice a n c) "Sort").run Try.prog w = .ok (25, .slice a n c) w := by kernel_rfl

def vals (a : Addr) : Array Value := #[.iface 27 (.agg #[]), .iface 28 (.bool true), .iface 29 (.int .i64 5), .iface 30 (.string ⟨#[120]⟩), .iface 32 (.slice (some a) 1 1)]
def nms : Array Value := #[.string ⟨#[117, 110, 105, 116]⟩, .string ⟨#[116, 114, 117, 116, 104]⟩, .string ⟨#[105, 110, 116]⟩, .string ⟨#[116, 101, 120, 116]⟩, .string ⟨#[108, 105, 115, 116]⟩]

/-- One more empty block, or a draw: what was there is there. -/
theorem step {v wr : World} {p q : Addr} {x z : Value} {o : Obj} (h : Below v.heap.size v wr) (g1 : wr.cell? p = some x) (g2 : wr.cell? q = some z) :
    Below v.heap.size v (wr.alloc o) ∧ (wr.alloc o).cell? p = some x ∧ (wr.alloc o).cell? q = some z :=
  ⟨h.alloc h.size o, (World.cell?_alloc_lt _ _ _ (World.block_lt_of_cell? _ _ g1)).trans g1, (World.cell?_alloc_lt _ _ _ (World.block_lt_of_cell? _ _ g2)).trans g2⟩

set_option maxRecDepth 100000 in
set_option maxHeartbeats 4000000 in
theorem walk  (w : World) :
    Calls Try.prog 4 #[] w fun e w' => e = .returned (.bool true) ∧ Below w.heap.size w w' := by
  go_enter Try.func4, Try.ntmps4
  go_wp2
  refine gen (fun v => Below w.heap.size w v ∧ (∀ k, v.cell? ⟨w.heap.size + 1, k, none⟩ = (vals ⟨w.heap.size, 0, none⟩)[k]?) ∧ (∀ k, v.cell? ⟨w.heap.size + 1 + 1, k, none⟩ = nms[k]?)) ?_ ?_
  · refine ⟨(((Below.refl _ _).alloc (Nat.le_refl _) _).alloc (by simp) _).alloc (by simp; omega) _, fun k => ?_, fun k => ?_⟩
    · rw [World.cell?_alloc_lt _ _ _ (by simp), ← size_alloc, World.cell?_alloc_new]; rfl
    · rw [← size_alloc w, ← size_alloc, World.cell?_alloc_new]; rfl
  intro v ⟨hb, h1, h2⟩
  go_loopw [3] (fun i wr => ∃ k : Int, 0 ≤ k ∧ k ≤ 5 ∧ i = .int .i64 k ∧ Below v.heap.size v wr) (fun i _ => (5 - intOf i).toNat)
  case atStart => exact ⟨0, by omega, by omega, rfl, Below.refl _ _⟩
  case round =>
    obtain ⟨k, hk0, hk, rfl, hbr⟩ := hrel
    rcases (show k = 0 ∨ k = 1 ∨ k = 2 ∨ k = 3 ∨ k = 4 ∨ k = 5 by omega) with rfl | rfl | rfl | rfl | rfl | rfl
    · have g1 : wr.cell? ⟨w.heap.size + 1, 0, none⟩ = some (.iface 27 (.agg #[])) := (hbr.cell (World.block_lt_of_cell? _ _ (h1 0))).trans (h1 0)
      have g2 : wr.cell? ⟨w.heap.size + 1 + 1, 0, none⟩ = some (.string ⟨#[117, 110, 105, 116]⟩) := (hbr.cell (World.block_lt_of_cell? _ _ (h2 0))).trans (h2 0)
      have a27 := ta27_27
      have a28 := ta27_28
      have a29 := ta27_29
      have a30 := ta27_30
      have a32 := ta27_32
      have n1 := World.block_lt_of_cell? _ _ g1
      have n2 := World.block_lt_of_cell? _ _ g2
      dsimp only at n1 n2
      clear h1 h2
      go_wp2
      clear a27 a28 a29 a30 a32
      refine gen (fun y => Below v.heap.size v y ∧ y.cell? ⟨w.heap.size + 1, 0, none⟩ = some (.iface 27 (.agg #[])) ∧ y.cell? ⟨w.heap.size + 1 + 1, 0, none⟩ = some (.string ⟨#[117, 110, 105, 116]⟩)) (step hbr g1 g2) ?_
      clear g1 g2 n1 n2 hbr
      intro y ⟨hby, g1, g2⟩
      have e1 := Ext.cell g1
      have e2 := Ext.cell g2
      have m := me27
      refine wp_region_ext (by kernel_rfl) (by kernel_rfl) ?_
      repeat (go_big_quiet_step ((go_at_call 21; exact Calls.ext_of (sort_unit _))))
      refine wpQuiet_nil ?_
      rintro _ ⟨z, rfl⟩
      have hz := hby.trans (z.ok.mono hby.size)
      clear m e1 e2 g1 g2
      go_wp2
      go_roundw
      case rel => exact ⟨0 + 1, by omega, by omega, rfl, hz⟩
      case measure => simp [intOf]
    · have g1 : wr.cell? ⟨w.heap.size + 1, 1, none⟩ = some (.iface 28 (.bool true)) := (hbr.cell (World.block_lt_of_cell? _ _ (h1 1))).trans (h1 1)
      have g2 : wr.cell? ⟨w.heap.size + 1 + 1, 1, none⟩ = some (.string ⟨#[116, 114, 117, 116, 104]⟩) := (hbr.cell (World.block_lt_of_cell? _ _ (h2 1))).trans (h2 1)
      have a27 := ta28_27
      have a28 := ta28_28
      have a29 := ta28_29
      have a30 := ta28_30
      have a32 := ta28_32
      have n1 := World.block_lt_of_cell? _ _ g1
      have n2 := World.block_lt_of_cell? _ _ g2
      dsimp only at n1 n2
      clear h1 h2
      go_wp2
      clear a27 a28 a29 a30 a32
      refine gen (fun y => Below v.heap.size v y ∧ y.cell? ⟨w.heap.size + 1, 1, none⟩ = some (.iface 28 (.bool true)) ∧ y.cell? ⟨w.heap.size + 1 + 1, 1, none⟩ = some (.string ⟨#[116, 114, 117, 116, 104]⟩)) (step hbr g1 g2) ?_
      clear g1 g2 n1 n2 hbr
      intro y ⟨hby, g1, g2⟩
      have e1 := Ext.cell g1
      have e2 := Ext.cell g2
      have m := me28
      refine wp_region_ext (by kernel_rfl) (by kernel_rfl) ?_
      repeat (go_big_quiet_step ((go_at_call 22; exact Calls.ext_of (sort_truth _ _))))
      refine wpQuiet_nil ?_
      rintro _ ⟨z, rfl⟩
      have hz := hby.trans (z.ok.mono hby.size)
      clear m e1 e2 g1 g2
      go_wp2
      go_roundw
      case rel => exact ⟨1 + 1, by omega, by omega, rfl, hz⟩
      case measure => simp [intOf]
    · have g1 : wr.cell? ⟨w.heap.size + 1, 2, none⟩ = some (.iface 29 (.int .i64 5)) := (hbr.cell (World.block_lt_of_cell? _ _ (h1 2))).trans (h1 2)
      have g2 : wr.cell? ⟨w.heap.size + 1 + 1, 2, none⟩ = some (.string ⟨#[105, 110, 116]⟩) := (hbr.cell (World.block_lt_of_cell? _ _ (h2 2))).trans (h2 2)
      have a27 := ta29_27
      have a28 := ta29_28
      have a29 := ta29_29
      have a30 := ta29_30
      have a32 := ta29_32
      have n1 := World.block_lt_of_cell? _ _ g1
      have n2 := World.block_lt_of_cell? _ _ g2
      dsimp only at n1 n2
      clear h1 h2
      go_wp2
      clear a27 a28 a29 a30 a32
      refine gen (fun y => Below v.heap.size v y ∧ y.cell? ⟨w.heap.size + 1, 2, none⟩ = some (.iface 29 (.int .i64 5)) ∧ y.cell? ⟨w.heap.size + 1 + 1, 2, none⟩ = some (.string ⟨#[105, 110, 116]⟩)) (step hbr g1 g2) ?_
      clear g1 g2 n1 n2 hbr
      intro y ⟨hby, g1, g2⟩
      have e1 := Ext.cell g1
      have e2 := Ext.cell g2
      have m := me29
      refine wp_region_ext (by kernel_rfl) (by kernel_rfl) ?_
      repeat (go_big_quiet_step ((go_at_call 23; exact Calls.ext_of (sort_int _ _))))
      refine wpQuiet_nil ?_
      rintro _ ⟨z, rfl⟩
      have hz := hby.trans (z.ok.mono hby.size)
      clear m e1 e2 g1 g2
      go_wp2
      go_roundw
      case rel => exact ⟨2 + 1, by omega, by omega, rfl, hz⟩
      case measure => simp [intOf]
    · have g1 : wr.cell? ⟨w.heap.size + 1, 3, none⟩ = some (.iface 30 (.string ⟨#[120]⟩)) := (hbr.cell (World.block_lt_of_cell? _ _ (h1 3))).trans (h1 3)
      have g2 : wr.cell? ⟨w.heap.size + 1 + 1, 3, none⟩ = some (.string ⟨#[116, 101, 120, 116]⟩) := (hbr.cell (World.block_lt_of_cell? _ _ (h2 3))).trans (h2 3)
      have a27 := ta30_27
      have a28 := ta30_28
      have a29 := ta30_29
      have a30 := ta30_30
      have a32 := ta30_32
      have n1 := World.block_lt_of_cell? _ _ g1
      have n2 := World.block_lt_of_cell? _ _ g2
      dsimp only at n1 n2
      clear h1 h2
      go_wp2
      clear a27 a28 a29 a30 a32
      refine gen (fun y => Below v.heap.size v y ∧ y.cell? ⟨w.heap.size + 1, 3, none⟩ = some (.iface 30 (.string ⟨#[120]⟩)) ∧ y.cell? ⟨w.heap.size + 1 + 1, 3, none⟩ = some (.string ⟨#[116, 101, 120, 116]⟩)) (step hbr g1 g2) ?_
      clear g1 g2 n1 n2 hbr
      intro y ⟨hby, g1, g2⟩
      have e1 := Ext.cell g1
      have e2 := Ext.cell g2
      have m := me30
      refine wp_region_ext (by kernel_rfl) (by kernel_rfl) ?_
      repeat (go_big_quiet_step ((go_at_call 24; exact Calls.ext_of (sort_text _ _))))
      refine wpQuiet_nil ?_
      rintro _ ⟨z, rfl⟩
      have hz := hby.trans (z.ok.mono hby.size)
      clear m e1 e2 g1 g2
      go_wp2
      go_roundw
      case rel => exact ⟨3 + 1, by omega, by omega, rfl, hz⟩
      case measure => simp [intOf]
    · have g1 : wr.cell? ⟨w.heap.size + 1, 4, none⟩ = some (.iface 32 (.slice (some ⟨w.heap.size, 0, none⟩) 1 1)) := (hbr.cell (World.block_lt_of_cell? _ _ (h1 4))).trans (h1 4)
      have g2 : wr.cell? ⟨w.heap.size + 1 + 1, 4, none⟩ = some (.string ⟨#[108, 105, 115, 116]⟩) := (hbr.cell (World.block_lt_of_cell? _ _ (h2 4))).trans (h2 4)
      have a27 := ta32_27
      have a28 := ta32_28
      have a29 := ta32_29
      have a30 := ta32_30
      have a32 := ta32_32
      have n1 := World.block_lt_of_cell? _ _ g1
      have n2 := World.block_lt_of_cell? _ _ g2
      dsimp only at n1 n2
      clear h1 h2
      go_wp2
      clear a27 a28 a29 a30 a32
      refine gen (fun y => Below v.heap.size v y ∧ y.cell? ⟨w.heap.size + 1, 4, none⟩ = some (.iface 32 (.slice (some ⟨w.heap.size, 0, none⟩) 1 1)) ∧ y.cell? ⟨w.heap.size + 1 + 1, 4, none⟩ = some (.string ⟨#[108, 105, 115, 116]⟩)) (step hbr g1 g2) ?_
      clear g1 g2 n1 n2 hbr
      intro y ⟨hby, g1, g2⟩
      have e1 := Ext.cell g1
      have e2 := Ext.cell g2
      have m := me32
      refine wp_region_ext (by kernel_rfl) (by kernel_rfl) ?_
      repeat (go_big_quiet_step ((go_at_call 25; exact Calls.ext_of (sort_list _ _ _ _))))
      refine wpQuiet_nil ?_
      rintro _ ⟨z, rfl⟩
      have hz := hby.trans (z.ok.mono hby.size)
      clear m e1 e2 g1 g2
      go_wp2
      go_roundw
      case rel => exact ⟨4 + 1, by omega, by omega, rfl, hz⟩
      case measure => simp [intOf]
    · clear h1 h2
      go_wp2
      go_ret
      exact ⟨rfl, hb.trans (hbr.mono hb.size)⟩

/-! ### THE ROW's STEP: WRITTEN OUT: LEAVE IT -/
set_option maxRecDepth 100000 in
theorem lifted (os : Os) (started : os.Started) (H : Type) (enc : TypeId × Value → H) :
    ReturnsInHanded {} Try.checked os 4 .any (Rows.valuesSpec.pre6 enc Try.prog Try.f4 Rows.valuesRow.domain false) (Rows.valuesSpec.post enc Try.prog Try.f4 false true false false) := by
  refine returnsInHanded_of_change (C := Try.checked) own started (by kernel_rfl) Try.func4
    (ChangeSpec.witness6 (enc := enc) (C := Try.checked) false ⟨#[], #[], []⟩ 8 (by kernel_rfl) (by kernel_rfl) (by kernel_rfl) (by kernel_rfl)) ?_
  intro W base args ds gs before hval0 hW hcnd _
  have hval : ∀ (j : Nat) t v, Try.f4.params[j]? = some t → args[j]? = some v → Value.okWide Try.prog W .any base t v := hval0
  have hW' := hW
  obtain ⟨p, q, hA0, hV, rfl, hfz, hnd⟩ := hW
  have hA : DataW.TrodAll enc Try.prog W 0 (fun _ => true) true Try.f4.params.toList args.toList ds p := hA0
  rw [Try.params4] at hA hval
  obtain ⟨rfl, rfl, rfl⟩ := trodAll_none hA
  obtain ⟨rfl, rfl⟩ := trodVars_none hV
  clear hA0 hval0
  simp only [List.append_nil] at hW'
  refine (walk  W).mono fun e W' ⟨he, hg⟩ => ?_
  subst he
  exact ⟨_, rfl, post_of_below (pa := []) (pv := []) hW' (fun _ _ _ => (trodAll_cons_mk (shut_bool Try.underlying4 _) trodAll_mk0)) (fun sp _ => rfl) (fun _ _ => rfl) rfl
    hg (ok_one (by kernel_rfl) rfl (okWide_bool_mk Try.underlying4 _))⟩

theorem over : Rows.valuesRow.holds Try.pinned (OpenSpec.ofChange Rows.valuesSpec) :=
  OpenClaim.holds_of_wide 4 Try.f4 rfl rfl rfl rfl rfl rfl rfl ⟨rfl, rfl, rfl, rfl, rfl⟩ rfl rfl rfl rfl rfl (by kernel_rfl) Try.func4 (by kernel_rfl)
    (of_decide_eq_true (by kernel_rfl)) (by unfold Func.isWrapper; first | (rw [if_pos (by decide +kernel)]; kernel_rfl) | (rw [if_neg (by decide +kernel)]; exact ⟨rfl, rfl⟩))
    (fun os started H enc _ => lifted os started H enc)

/-- ████ THE STATEMENT ████ -/
theorem proved : Rows.ValuesSaid :=
  over
#print axioms proved
end Go.Proofs.Ythhacpfgcaplcaa.values
