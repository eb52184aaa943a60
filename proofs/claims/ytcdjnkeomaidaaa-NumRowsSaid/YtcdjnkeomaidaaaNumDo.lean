/-
  What 'num.Do' comes to on one or two values: walks. Conditions: numbers of 64 bits.
-/
import Derived.Test.YtcdjnkeomaidaaaNumTab
namespace Go.Proofs.Ytcdjnkeomaidaaa
open Go.RowKit

theorem assert_int (n : Int) (w : World) : (Instr.typeAssert (.iface 48 (.int .i64 n)) 33 48 true).run Try.prog w = .ok (.tuple #[.int .i64 n, .bool true]) w :=
  run_assert_hit Try.underlying48 rfl _ w
theorem assert_noint (t : TypeId) (v : Value) (h : t ≠ 48) (w : World) : (Instr.typeAssert (.iface t v) 33 48 true).run Try.prog w = .ok (.tuple #[.int .i64 0, .bool false]) w :=
  run_assert_miss Try.underlying48 rfl (fun w => by kernel_rfl) h _ w

/-- A function of the table. -/
def IsOp (f : FuncId) (V : Int → Int → Value) : Prop := ∀ (a b : Int) (w : World), rng a = true → rng b = true → Calls Try.prog f #[.int .i64 a, .int .i64 b] w fun e w' => e = .returned (V a b) ∧ w = w'
def withText (v : Value) : Value := match v with
  | .tuple #[x, y] => .tuple #[x, y, .string ⟨#[]⟩]
  | v => v

set_option maxRecDepth 100000 in
set_option maxHeartbeats 1000000 in
theorem do_two {op : ByteArray} {i : Nat} {f : FuncId} (hf : Instr.findNow .string (.string op) numTab.toList 0 = some (some (i, .func (.func f) #[] #[])))
    {V : Int → Int → Value} (hV : IsOp f V) (h2 : ∀ a b, ∃ x y, V a b = .tuple #[x, y]) (hcall : ∀ (args : Array Value) (w : World), (callFunc f args).run Try.prog w = .ok (.enter f args) w)
    (a b : Int) (ha : rng a = true) (hb : rng b = true)
    (B o c : Nat) (w : World) (c0 : w.cell? ⟨B, o, none⟩ = some (.iface 48 (.int .i64 a))) (c1 : w.cell? ⟨B, o + 1, none⟩ = some (.iface 48 (.int .i64 b))) :
    Calls Try.prog 20 #[.string op, .slice (some ⟨B, o, none⟩) 2 c] w fun e w' => e = .returned (withText (V a b)) ∧ Below w.heap.size w w' := by
  have hB := World.block_lt_of_cell? _ _ c0
  dsimp only at hB
  have hl := run_lookup_hit (P := Try.prog) (T := 54) (K := 9) (E := 52) (r := w.heap.size) (es := numTab) (c := 12) (s := op) (w := w.alloc (.map numTab 12)) Try.underlying54 Try.underlying9 (heap_alloc_new w _) hf
  have hi := assert_int
  have hni := assert_noint
  have hm0 : min (0 : Int) 1 = 0 := rfl
  have hm1 : min (1 : Int) 1 = 1 := rfl
  clear hf
  have HV := Lib.hid hV
  have H2 := Lib.hid h2
  clear hV h2
  go_enter Try.func20, Try.ntmps20
  go_wp2_with (first | (go_at_call 17; refine (num_two _).mono ?_; rintro e w' ⟨rfl, rfl⟩))
  refine wp_loop_rounds 3 ?_
  rw [rounds_succ]
  go_wp2
  rw [rounds_succ]
  go_wp2
  rw [rounds_succ]
  go_wp2_with fail
  refine (two_parts (HV.out _ _ _ ha hb) (H2.out _ _)).mono ?_
  rintro e w' ⟨x, y, rfl, hv, rfl⟩
  go_wp2
  go_ret3
  exact ⟨by rw [← hv.out]; rfl, (by repeat (first | exact Below.refl _ _ | (refine Below.alloc ?_ (by simp; try omega) _) | (refine Below.setCell ?_ (by simp; try omega) _) | refine Below.drew ?_))⟩
set_option maxRecDepth 100000 in
set_option maxHeartbeats 1000000 in
theorem do_one {op : ByteArray} {i : Nat} {f : FuncId} (hf : Instr.findNow .string (.string op) numTab.toList 0 = some (some (i, .func (.func f) #[] #[])))
    {V : Int → Int → Value} (hV : IsOp f V) (h2 : ∀ a b, ∃ x y, V a b = .tuple #[x, y]) (hcall : ∀ (args : Array Value) (w : World), (callFunc f args).run Try.prog w = .ok (.enter f args) w)
    (a : Int) (ha : rng a = true)
    (B o c : Nat) (w : World) (c0 : w.cell? ⟨B, o, none⟩ = some (.iface 48 (.int .i64 a))) :
    Calls Try.prog 20 #[.string op, .slice (some ⟨B, o, none⟩) 1 c] w fun e w' => e = .returned (withText (V a 0)) ∧ Below w.heap.size w w' := by
  have hB := World.block_lt_of_cell? _ _ c0
  dsimp only at hB
  have hl := run_lookup_hit (P := Try.prog) (T := 54) (K := 9) (E := 52) (r := w.heap.size) (es := numTab) (c := 12) (s := op) (w := w.alloc (.map numTab 12)) Try.underlying54 Try.underlying9 (heap_alloc_new w _) hf
  have hi := assert_int
  have hni := assert_noint
  have hm0 : min (0 : Int) 1 = 0 := rfl
  have hm1 : min (1 : Int) 1 = 1 := rfl
  clear hf
  have hb : rng 0 = true := rfl
  have HV := Lib.hid hV
  have H2 := Lib.hid h2
  clear hV h2
  go_enter Try.func20, Try.ntmps20
  go_wp2_with (first | (go_at_call 17; refine (num_two _).mono ?_; rintro e w' ⟨rfl, rfl⟩))
  refine wp_loop_rounds 2 ?_
  rw [rounds_succ]
  go_wp2
  rw [rounds_succ]
  go_wp2_with fail
  refine (two_parts (HV.out _ _ _ ha hb) (H2.out _ _)).mono ?_
  rintro e w' ⟨x, y, rfl, hv, rfl⟩
  go_wp2
  go_ret3
  exact ⟨by rw [← hv.out]; rfl, (by repeat (first | exact Below.refl _ _ | (refine Below.alloc ?_ (by simp; try omega) _) | (refine Below.setCell ?_ (by simp; try omega) _) | refine Below.drew ?_))⟩
set_option maxRecDepth 100000 in
set_option maxHeartbeats 1000000 in
theorem do_bad {op : ByteArray} {i : Nat} {f : FuncId} (hf : Instr.findNow .string (.string op) numTab.toList 0 = some (some (i, .func (.func f) #[] #[])))
    (n : Nat) (t : TypeId) (v : Value) (ht : t ≠ 48)
    (B o c : Nat) (w : World) (c0 : w.cell? ⟨B, o, none⟩ = some (.iface t v)) :
    Calls Try.prog 20 #[.string op, .slice (some ⟨B, o, none⟩) (n + 1) c] w fun e w' => e = .returned (.tuple #[.nilIface, .int .i64 20, .string ⟨#[]⟩]) ∧ Below w.heap.size w w' := by
  have hB := World.block_lt_of_cell? _ _ c0
  dsimp only at hB
  have hl := run_lookup_hit (P := Try.prog) (T := 54) (K := 9) (E := 52) (r := w.heap.size) (es := numTab) (c := 12) (s := op) (w := w.alloc (.map numTab 12)) Try.underlying54 Try.underlying9 (heap_alloc_new w _) hf
  have hi := assert_int
  have hni := assert_noint
  have hm0 : min (0 : Int) 1 = 0 := rfl
  have hm1 : min (1 : Int) 1 = 1 := rfl
  clear hf
  go_enter Try.func20, Try.ntmps20
  go_wp2_with (first | (go_at_call 17; refine (num_two _).mono ?_; rintro e w' ⟨rfl, rfl⟩))
  refine wp_loop_rounds 1 ?_
  rw [rounds_succ]
  go_wp2
  go_ret3
  exact ⟨rfl, (by repeat (first | exact Below.refl _ _ | (refine Below.alloc ?_ (by simp; try omega) _) | (refine Below.setCell ?_ (by simp; try omega) _) | refine Below.drew ?_))⟩
set_option maxRecDepth 100000 in
set_option maxHeartbeats 1000000 in
theorem do_bad2 {op : ByteArray} {i : Nat} {f : FuncId} (hf : Instr.findNow .string (.string op) numTab.toList 0 = some (some (i, .func (.func f) #[] #[])))
    (n : Nat) (a : Int) (t : TypeId) (v : Value) (ht : t ≠ 48)
    (B o c : Nat) (w : World) (c0 : w.cell? ⟨B, o, none⟩ = some (.iface 48 (.int .i64 a))) (c1 : w.cell? ⟨B, o + 1, none⟩ = some (.iface t v)) :
    Calls Try.prog 20 #[.string op, .slice (some ⟨B, o, none⟩) (n + 2) c] w fun e w' => e = .returned (.tuple #[.nilIface, .int .i64 20, .string ⟨#[]⟩]) ∧ Below w.heap.size w w' := by
  have hB := World.block_lt_of_cell? _ _ c0
  dsimp only at hB
  have hl := run_lookup_hit (P := Try.prog) (T := 54) (K := 9) (E := 52) (r := w.heap.size) (es := numTab) (c := 12) (s := op) (w := w.alloc (.map numTab 12)) Try.underlying54 Try.underlying9 (heap_alloc_new w _) hf
  have hi := assert_int
  have hni := assert_noint
  have hm0 : min (0 : Int) 1 = 0 := rfl
  have hm1 : min (1 : Int) 1 = 1 := rfl
  clear hf
  go_enter Try.func20, Try.ntmps20
  go_wp2_with (first | (go_at_call 17; refine (num_two _).mono ?_; rintro e w' ⟨rfl, rfl⟩))
  refine wp_loop_rounds 2 ?_
  rw [rounds_succ]
  go_wp2
  rw [rounds_succ]
  go_wp2
  go_ret3
  exact ⟨rfl, (by repeat (first | exact Below.refl _ _ | (refine Below.alloc ?_ (by simp; try omega) _) | (refine Below.setCell ?_ (by simp; try omega) _) | refine Below.drew ?_))⟩
end Go.Proofs.Ytcdjnkeomaidaaa
