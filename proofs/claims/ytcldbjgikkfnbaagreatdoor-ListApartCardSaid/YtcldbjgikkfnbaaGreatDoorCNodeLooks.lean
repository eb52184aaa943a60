/-
  Texts of a proof in one: NodeLooks, TyListMap. Conditions: each names its own.
-/
import Derived.Test.YtcldbjgikkfnbaaGreatDoorCNodeBase
import Derived.Stop.Asserts
/-
  What the looks of node.ables at a node say: an assertion each: walks. Printed by a program of mine (gen_looks.py). Conditions: none.
-/
namespace Go.Proofs.YtcldbjgikkfnbaaGreatDoor
open Go.RowKit
set_option linter.unusedVariables false

/-- Does a type hold an interface's methods? -/
abbrev holds (T I : TypeId) (b : Bool) : Prop := (Tryz.prog.info? T).map (fun i => (lacking (Tryz.prog.methodsAt I) i.methods).isEmpty) = some b
theorem assert_of {T I : TypeId} {b : Bool} (hu : Tryz.prog.underlying I = some (.interface (Tryz.prog.methodsAt I))) (hz : (Tryz.prog.info? I).map (·.zero) = some (some .nilIface)) (h : holds T I b) (v : Value) :
    ∃ x, ∀ (xT : TypeId) (w : World), (Instr.typeAssert (.iface T v) xT I true).run Tryz.prog w = .ok (.tuple #[x, .bool b]) w := by
  cases b
  · exact ⟨.nilIface, fun xT w => run_typeAssert_lacksB hu h hz v xT w⟩
  · exact ⟨.iface T v, fun xT w => run_typeAssert_hasB hu h v xT w⟩
theorem look_Literal {T : TypeId} {b : Bool} (h : holds T 241 b) (v : Value) (w : World) : Calls Tryz.prog 111 #[.iface T v] w fun e w' => e = .returned (.bool b) ∧ w = w' := by
  obtain ⟨x, hx⟩ := assert_of (by kernel_rfl) (by kernel_rfl) h v
  clear h
  go_enter Tryz.func111, Tryz.ntmps111
  go_wp2
  go_ret
  exact ⟨rfl, rfl⟩
theorem look_Strict {T : TypeId} {b : Bool} (h : holds T 73 b) (v : Value) (w : World) : Calls Tryz.prog 113 #[.iface T v] w fun e w' => e = .returned (.bool b) ∧ w = w' := by
  obtain ⟨x, hx⟩ := assert_of (by kernel_rfl) (by kernel_rfl) h v
  clear h
  go_enter Tryz.func113, Tryz.ntmps113
  go_wp2
  go_ret
  exact ⟨rfl, rfl⟩
theorem look_Lazy {T : TypeId} {b : Bool} (h : holds T 67 b) (v : Value) (w : World) : Calls Tryz.prog 115 #[.iface T v] w fun e w' => e = .returned (.bool b) ∧ w = w' := by
  obtain ⟨x, hx⟩ := assert_of (by kernel_rfl) (by kernel_rfl) h v
  clear h
  go_enter Tryz.func115, Tryz.ntmps115
  go_wp2
  go_ret
  exact ⟨rfl, rfl⟩
theorem look_Binder {T : TypeId} {b : Bool} (h : holds T 70 b) (v : Value) (w : World) : Calls Tryz.prog 117 #[.iface T v] w fun e w' => e = .returned (.bool b) ∧ w = w' := by
  obtain ⟨x, hx⟩ := assert_of (by kernel_rfl) (by kernel_rfl) h v
  clear h
  go_enter Tryz.func117, Tryz.ntmps117
  go_wp2
  go_ret
  exact ⟨rfl, rfl⟩
theorem look_User {T : TypeId} {b : Bool} (h : holds T 244 b) (v : Value) (w : World) : Calls Tryz.prog 119 #[.iface T v] w fun e w' => e = .returned (.bool b) ∧ w = w' := by
  obtain ⟨x, hx⟩ := assert_of (by kernel_rfl) (by kernel_rfl) h v
  clear h
  go_enter Tryz.func119, Tryz.ntmps119
  go_wp2
  go_ret
  exact ⟨rfl, rfl⟩
theorem look_Caller {T : TypeId} {b : Bool} (h : holds T 247 b) (v : Value) (w : World) : Calls Tryz.prog 121 #[.iface T v] w fun e w' => e = .returned (.bool b) ∧ w = w' := by
  obtain ⟨x, hx⟩ := assert_of (by kernel_rfl) (by kernel_rfl) h v
  clear h
  go_enter Tryz.func121, Tryz.ntmps121
  go_wp2
  go_ret
  exact ⟨rfl, rfl⟩
theorem look_Pure {T : TypeId} {b : Bool} (h : holds T 250 b) (v : Value) (w : World) : Calls Tryz.prog 123 #[.iface T v] w fun e w' => e = .returned (.bool b) ∧ w = w' := by
  obtain ⟨x, hx⟩ := assert_of (by kernel_rfl) (by kernel_rfl) h v
  clear h
  go_enter Tryz.func123, Tryz.ntmps123
  go_wp2
  go_ret
  exact ⟨rfl, rfl⟩
theorem look_Total {T : TypeId} {b : Bool} (h : holds T 253 b) (v : Value) (w : World) : Calls Tryz.prog 125 #[.iface T v] w fun e w' => e = .returned (.bool b) ∧ w = w' := by
  obtain ⟨x, hx⟩ := assert_of (by kernel_rfl) (by kernel_rfl) h v
  clear h
  go_enter Tryz.func125, Tryz.ntmps125
  go_wp2
  go_ret
  exact ⟨rfl, rfl⟩
theorem look_Sorted {T : TypeId} {b : Bool} (h : holds T 256 b) (v : Value) (w : World) : Calls Tryz.prog 127 #[.iface T v] w fun e w' => e = .returned (.bool b) ∧ w = w' := by
  obtain ⟨x, hx⟩ := assert_of (by kernel_rfl) (by kernel_rfl) h v
  clear h
  go_enter Tryz.func127, Tryz.ntmps127
  go_wp2
  go_ret
  exact ⟨rfl, rfl⟩
theorem look_Sugar {T : TypeId} {b : Bool} (h : holds T 259 b) (v : Value) (w : World) : Calls Tryz.prog 129 #[.iface T v] w fun e w' => e = .returned (.bool b) ∧ w = w' := by
  obtain ⟨x, hx⟩ := assert_of (by kernel_rfl) (by kernel_rfl) h v
  clear h
  go_enter Tryz.func129, Tryz.ntmps129
  go_wp2
  go_ret
  exact ⟨rfl, rfl⟩
theorem look_Framed {T : TypeId} {b : Bool} (h : holds T 262 b) (v : Value) (w : World) : Calls Tryz.prog 131 #[.iface T v] w fun e w' => e = .returned (.bool b) ∧ w = w' := by
  obtain ⟨x, hx⟩ := assert_of (by kernel_rfl) (by kernel_rfl) h v
  clear h
  go_enter Tryz.func131, Tryz.ntmps131
  go_wp2
  go_ret
  exact ⟨rfl, rfl⟩
theorem look_Wrapped {T : TypeId} {b : Bool} (h : holds T 265 b) (v : Value) (w : World) : Calls Tryz.prog 133 #[.iface T v] w fun e w' => e = .returned (.bool b) ∧ w = w' := by
  obtain ⟨x, hx⟩ := assert_of (by kernel_rfl) (by kernel_rfl) h v
  clear h
  go_enter Tryz.func133, Tryz.ntmps133
  go_wp2
  go_ret
  exact ⟨rfl, rfl⟩
theorem look_Origin {T : TypeId} {b : Bool} (h : holds T 268 b) (v : Value) (w : World) : Calls Tryz.prog 135 #[.iface T v] w fun e w' => e = .returned (.bool b) ∧ w = w' := by
  obtain ⟨x, hx⟩ := assert_of (by kernel_rfl) (by kernel_rfl) h v
  clear h
  go_enter Tryz.func135, Tryz.ntmps135
  go_wp2
  go_ret
  exact ⟨rfl, rfl⟩
theorem look_Opaque {T : TypeId} {b : Bool} (h : holds T 271 b) (v : Value) (w : World) : Calls Tryz.prog 137 #[.iface T v] w fun e w' => e = .returned (.bool b) ∧ w = w' := by
  obtain ⟨x, hx⟩ := assert_of (by kernel_rfl) (by kernel_rfl) h v
  clear h
  go_enter Tryz.func137, Tryz.ntmps137
  go_wp2
  go_ret
  exact ⟨rfl, rfl⟩
/-- The fourteen, of one type. -/
def looksB (T : TypeId) (B : Nat → Bool) : Prop := holds T 241 (B 0) ∧ holds T 73 (B 1) ∧ holds T 67 (B 2) ∧ holds T 70 (B 3) ∧ holds T 244 (B 4) ∧ holds T 247 (B 5) ∧ holds T 250 (B 6) ∧ holds T 253 (B 7) ∧ holds T 256 (B 8) ∧ holds T 259 (B 9) ∧ holds T 262 (B 10) ∧ holds T 265 (B 11) ∧ holds T 268 (B 12) ∧ holds T 271 (B 13)
theorem looks_of {T : TypeId} {B : Nat → Bool} (h : looksB T B) (v : Value) : Looks T v B := by
  obtain ⟨h0, h1, h2, h3, h4, h5, h6, h7, h8, h9, h10, h11, h12, h13⟩ := h
  intro j hj w
  match j, hj with
  | 0, _ => exact look_Literal h0 v w
  | 1, _ => exact look_Strict h1 v w
  | 2, _ => exact look_Lazy h2 v w
  | 3, _ => exact look_Binder h3 v w
  | 4, _ => exact look_User h4 v w
  | 5, _ => exact look_Caller h5 v w
  | 6, _ => exact look_Pure h6 v w
  | 7, _ => exact look_Total h7 v w
  | 8, _ => exact look_Sorted h8 v w
  | 9, _ => exact look_Sugar h9 v w
  | 10, _ => exact look_Framed h10 v w
  | 11, _ => exact look_Wrapped h11 v w
  | 12, _ => exact look_Origin h12 v w
  | 13, _ => exact look_Opaque h13 v w
  | n + 14, h => exact absurd h (by omega)
end Go.Proofs.YtcldbjgikkfnbaaGreatDoor

/-
  The node type *list.mapping: its methods, what asserts to it. Printed by a program of mine (gen_looks.py). Conditions: none.
-/
namespace Go.Proofs.YtcldbjgikkfnbaaGreatDoor
open Go.RowKit
set_option linter.unusedVariables false

def b_ListMap (j : Nat) : Bool := [false, false, true, true, false, false, true, false, true, false, false, false, false, false].getD j false
theorem disp_ListMap : Disp 159 := ⟨fun _ _ => by kernel_rfl, fun _ _ => by kernel_rfl, fun _ _ => by kernel_rfl, fun _ _ => by kernel_rfl, fun _ _ => by kernel_rfl⟩
theorem looks_ListMap (v : Value) : Looks 159 v b_ListMap := looks_of ⟨by unfold holds; kernel_rfl, by unfold holds; kernel_rfl, by unfold holds; kernel_rfl, by unfold holds; kernel_rfl, by unfold holds; kernel_rfl, by unfold holds; kernel_rfl, by unfold holds; kernel_rfl, by unfold holds; kernel_rfl, by unfold holds; kernel_rfl, by unfold holds; kernel_rfl, by unfold holds; kernel_rfl, by unfold holds; kernel_rfl, by unfold holds; kernel_rfl, by unfold holds; kernel_rfl⟩ v
theorem told_ListMap : abilTo b_ListMap 14 = [⟨#[76, 97, 122, 121]⟩, ⟨#[66, 105, 110, 100, 101, 114]⟩, ⟨#[80, 117, 114, 101]⟩, ⟨#[83, 111, 114, 116, 101, 100]⟩] := by rfl
end Go.Proofs.YtcldbjgikkfnbaaGreatDoor
