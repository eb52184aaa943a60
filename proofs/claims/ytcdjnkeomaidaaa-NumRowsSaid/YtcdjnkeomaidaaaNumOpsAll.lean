/-
  num.Work: what it comes to, for every operation and every list of plain values: walks. Conditions: the values lie in memory.
-/
import Derived.Test.YtcdjnkeomaidaaaNumDo
import Derived.Test.YtcdjnkeomaidaaaZvalAll
namespace Go.Proofs.Ytcdjnkeomaidaaa
open Go.RowKit
set_option linter.unusedVariables false

theorem exactV_two (n : Int) : ∃ x y, exactV n = .tuple #[x, y] := by unfold exactV; split <;> exact ⟨_, _, rfl⟩

/-- An operation of the table: what it comes to, of how many. -/
structure NumOp (op : ByteArray) (cnt : Nat) (V : Int → Int → Value) : Prop where
  found : ∃ i f, Instr.findNow .string (.string op) numTab.toList 0 = some (some (i, .func (.func f) #[] #[])) ∧ IsOp f V ∧ ∀ (args : Array Value) (w : World), (callFunc f args).run Try.prog w = .ok (.enter f args) w
  two : ∀ a b, ∃ x y, V a b = .tuple #[x, y]
  counts : ∀ w : World, Calls Try.prog 18 #[.string op] w fun e w' => e = .returned (.int .i64 cnt) ∧ w = w'
theorem op_add : NumOp ⟨#[110, 117, 109, 46, 97, 100, 100]⟩ 2 (fun a b => exactV (a + b)) where
  found := ⟨0, 28, by kernel_rfl, fun a b w ha hb => two_add a b ha hb w, fun args w => by kernel_rfl⟩
  two := fun a b => exactV_two _
  counts := fun w => by
    go_enter Try.func18, Try.ntmps18
    go_wp2
    go_ret
    exact ⟨rfl, rfl⟩
theorem op_sub : NumOp ⟨#[110, 117, 109, 46, 115, 117, 98]⟩ 2 (fun a b => exactV (a - b)) where
  found := ⟨1, 31, by kernel_rfl, fun a b w ha hb => two_sub a b ha hb w, fun args w => by kernel_rfl⟩
  two := fun a b => exactV_two _
  counts := fun w => by
    go_enter Try.func18, Try.ntmps18
    go_wp2
    go_ret
    exact ⟨rfl, rfl⟩
theorem op_mul : NumOp ⟨#[110, 117, 109, 46, 109, 117, 108]⟩ 2 (fun a b => exactV (a * b)) where
  found := ⟨2, 33, by kernel_rfl, fun a b w ha hb => two_mul a b ha hb w, fun args w => by kernel_rfl⟩
  two := fun a b => exactV_two _
  counts := fun w => by
    go_enter Try.func18, Try.ntmps18
    go_wp2
    go_ret
    exact ⟨rfl, rfl⟩
theorem op_quo : NumOp ⟨#[110, 117, 109, 46, 113, 117, 111]⟩ 2 (quoV) where
  found := ⟨3, 35, by kernel_rfl, fun a b w ha hb => two_quo a b ha hb w, fun args w => by kernel_rfl⟩
  two := fun a b => by unfold quoV; split; exact ⟨_, _, rfl⟩; exact exactV_two _
  counts := fun w => by
    go_enter Try.func18, Try.ntmps18
    go_wp2
    go_ret
    exact ⟨rfl, rfl⟩
theorem op_mod : NumOp ⟨#[110, 117, 109, 46, 109, 111, 100]⟩ 2 (modV) where
  found := ⟨4, 36, by kernel_rfl, fun a b w ha hb => two_mod a b ha hb w, fun args w => by kernel_rfl⟩
  two := fun a b => by unfold modV; split <;> exact ⟨_, _, rfl⟩
  counts := fun w => by
    go_enter Try.func18, Try.ntmps18
    go_wp2
    go_ret
    exact ⟨rfl, rfl⟩
theorem op_pow : NumOp ⟨#[110, 117, 109, 46, 112, 111, 119]⟩ 2 (powVV) where
  found := ⟨5, 37, by kernel_rfl, fun a b w ha hb => two_pow a b ha hb w, fun args w => by kernel_rfl⟩
  two := fun a b => by unfold powVV; split; exact ⟨_, _, rfl⟩; exact exactV_two _
  counts := fun w => by
    go_enter Try.func18, Try.ntmps18
    go_wp2
    go_ret
    exact ⟨rfl, rfl⟩
theorem op_neg : NumOp ⟨#[110, 117, 109, 46, 110, 101, 103]⟩ 1 (fun a _ => exactV (-a)) where
  found := ⟨6, 39, by kernel_rfl, fun a b w ha _ => two_neg a b ha w, fun args w => by kernel_rfl⟩
  two := fun a b => exactV_two _
  counts := fun w => by
    go_enter Try.func18, Try.ntmps18
    go_wp2
    go_ret
    exact ⟨rfl, rfl⟩
theorem op_abs : NumOp ⟨#[110, 117, 109, 46, 97, 98, 115]⟩ 1 (fun a _ => exactV (a.natAbs : Int)) where
  found := ⟨7, 40, by kernel_rfl, fun a b w ha _ => two_abs a b ha w, fun args w => by kernel_rfl⟩
  two := fun a b => exactV_two _
  counts := fun w => by
    go_enter Try.func18, Try.ntmps18
    go_wp2
    go_ret
    exact ⟨rfl, rfl⟩
theorem op_min : NumOp ⟨#[110, 117, 109, 46, 109, 105, 110]⟩ 2 (fun a b => numV (min a b)) where
  found := ⟨8, 41, by kernel_rfl, fun a b w _ _ => two_min a b w, fun args w => by kernel_rfl⟩
  two := fun a b => ⟨_, _, rfl⟩
  counts := fun w => by
    go_enter Try.func18, Try.ntmps18
    go_wp2
    go_ret
    exact ⟨rfl, rfl⟩
theorem op_max : NumOp ⟨#[110, 117, 109, 46, 109, 97, 120]⟩ 2 (fun a b => numV (max a b)) where
  found := ⟨9, 42, by kernel_rfl, fun a b w _ _ => two_max a b w, fun args w => by kernel_rfl⟩
  two := fun a b => ⟨_, _, rfl⟩
  counts := fun w => by
    go_enter Try.func18, Try.ntmps18
    go_wp2
    go_ret
    exact ⟨rfl, rfl⟩
theorem op_less : NumOp ⟨#[110, 117, 109, 46, 108, 101, 115, 115]⟩ 2 (fun a b => truthV (decide (a < b))) where
  found := ⟨10, 43, by kernel_rfl, fun a b w _ _ => two_less a b w, fun args w => by kernel_rfl⟩
  two := fun a b => ⟨_, _, rfl⟩
  counts := fun w => by
    go_enter Try.func18, Try.ntmps18
    go_wp2
    go_ret
    exact ⟨rfl, rfl⟩
theorem op_most : NumOp ⟨#[110, 117, 109, 46, 109, 111, 115, 116]⟩ 2 (fun a b => truthV (decide (a ≤ b))) where
  found := ⟨11, 44, by kernel_rfl, fun a b w _ _ => two_most a b w, fun args w => by kernel_rfl⟩
  two := fun a b => ⟨_, _, rfl⟩
  counts := fun w => by
    go_enter Try.func18, Try.ntmps18
    go_wp2
    go_ret
    exact ⟨rfl, rfl⟩
end Go.Proofs.Ytcdjnkeomaidaaa
