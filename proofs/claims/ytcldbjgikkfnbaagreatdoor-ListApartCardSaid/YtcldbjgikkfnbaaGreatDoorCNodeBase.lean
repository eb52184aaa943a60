/-
  What a node's base tells: walks. Conditions: it lies in memory.
-/
import Derived.Test.YtcldbjgikkfnbaaGreatDoorCKitMade
import Derived.Test.YtcldbjgikkfnbaaGreatDoorCNodeAble
import Derived.Test.YtcldbjgikkfnbaaGreatDoorCKitFits
import Derived.Test.YtcldbjgikkfnbaaGreatDoorCKitNew
import Derived.Test.YtcldbjgikkfnbaaGreatDoorCNodeRows
import Derived.LaidEql
namespace Go.Proofs.YtcldbjgikkfnbaaGreatDoor
open Go.RowKit
set_option linter.unusedVariables false

section
variable {w : World} {S : Nat → Prop} {nb : Nat} {kind text : ByteArray} {vs x : List Value}
theorem base_Kind (h : NodeAt w S nb kind text vs x) : Calls Tryz.prog 184 #[.pointer (some ⟨nb, 0, none⟩)] w fun e w' => e = .returned (.string kind) ∧ w = w' := by
  have hc := h.kind_
  clear h
  go_enter Tryz.func184, Tryz.ntmps184
  go_wp2
  go_ret
  exact ⟨rfl, rfl⟩
theorem base_Num (h : NodeAt w S nb kind text vs x) : Calls Tryz.prog 186 #[.pointer (some ⟨nb, 0, none⟩)] w fun e w' => e = .returned (.int .i64 0) ∧ w = w' := by
  have hc := h.num_
  clear h
  go_enter Tryz.func186, Tryz.ntmps186
  go_wp2
  go_ret
  exact ⟨rfl, rfl⟩
theorem base_Text (h : NodeAt w S nb kind text vs x) : Calls Tryz.prog 187 #[.pointer (some ⟨nb, 0, none⟩)] w fun e w' => e = .returned (.string text) ∧ w = w' := by
  have hc := h.text_
  clear h
  go_enter Tryz.func187, Tryz.ntmps187
  go_wp2
  go_ret
  exact ⟨rfl, rfl⟩
theorem base_Len (h : NodeAt w S nb kind text vs x) : Calls Tryz.prog 185 #[.pointer (some ⟨nb, 0, none⟩)] w fun e w' => e = .returned (.int .i64 (vs.length : Int)) ∧ w = w' := by
  obtain ⟨A, c, hc, _⟩ := h.kids
  clear h
  generalize vs.length = n at *
  go_enter Tryz.func185, Tryz.ntmps185
  go_wp2
  go_ret
  exact ⟨rfl, rfl⟩
theorem base_Kid (h : NodeAt w S nb kind text vs x) (j : Nat) (hj : j < vs.length) : Calls Tryz.prog 183 #[.pointer (some ⟨nb, 0, none⟩), .int .i64 (j : Int)] w fun e w' => e = .returned vs[j] ∧ w = w' := by
  obtain ⟨A, c, hc, hv⟩ := h.kids
  obtain ⟨b, o, rfl, hb, hcs⟩ := hv (by omega)
  have hcj := hcs j vs[j] (List.getElem?_eq_getElem hj)
  have h1 : decide ((j : Int) < 0) = false := by simp
  have h2 : decide ((vs.length : Int) ≤ (j : Int)) = false := by simp; omega
  have h3 : j < vs.length := hj
  clear h hcs
  generalize vs[j] = u at *
  generalize vs.length = n at *
  go_enter Tryz.func183, Tryz.ntmps183
  go_wp2
  go_ret
  exact ⟨rfl, rfl⟩
end
/-- How a node's type tells its methods: they are those of the base, which lies ahead. -/
structure Disp (T : TypeId) : Prop where
  kind_ : ∀ (nb : Nat) (w : World), (method 416 T (.pointer (some ⟨nb, 0, none⟩)) "Kind").run Tryz.prog w = .ok (184, .pointer (some ⟨nb, 0, none⟩)) w
  num_ : ∀ (nb : Nat) (w : World), (method 416 T (.pointer (some ⟨nb, 0, none⟩)) "Num").run Tryz.prog w = .ok (186, .pointer (some ⟨nb, 0, none⟩)) w
  text_ : ∀ (nb : Nat) (w : World), (method 416 T (.pointer (some ⟨nb, 0, none⟩)) "Text").run Tryz.prog w = .ok (187, .pointer (some ⟨nb, 0, none⟩)) w
  len_ : ∀ (nb : Nat) (w : World), (method 416 T (.pointer (some ⟨nb, 0, none⟩)) "Len").run Tryz.prog w = .ok (185, .pointer (some ⟨nb, 0, none⟩)) w
  kid_ : ∀ (nb : Nat) (w : World), (method 416 T (.pointer (some ⟨nb, 0, none⟩)) "Kid").run Tryz.prog w = .ok (183, .pointer (some ⟨nb, 0, none⟩)) w
/-- A kid's value is one with itself. -/
def SameKid (k : Kd) : Prop := (∀ w : World, (binOp .neq 61 k.n k.n).run Tryz.prog w = .ok (.bool false) w) ∧ ∀ (x y : Operand) (w : World), (eqGuard .neq 61 x y k.n k.n).run Tryz.prog w = .ok () w
theorem lit_eq (p : Addr) (w : World) : (Op.equalIn 10000 61 (.iface 182 (.pointer (some p))) (.iface 182 (.pointer (some p)))).run Tryz.prog w = .ok true w := by
  have h1 : Tryz.prog.underlying 61 = some (.interface (Tryz.prog.methodsAt 61)) := by kernel_rfl
  have h2 : Tryz.prog.underlying 182 = some (.pointer 185) := by kernel_rfl
  have h3 : (Tryz.prog.info? 182).map (fun i => i.comparable) = some true := by kernel_rfl
  have h4 : (Tryz.prog.info? 185).isSome = true := by kernel_rfl
  obtain ⟨j, hj⟩ := Option.isSome_iff_exists.1 h4
  cases hh : Tryz.prog.info? 182 with
  | none => rw [hh] at h3; cases h3
  | some i =>
    rw [hh] at h3
    simp only [Option.map_some, Option.some.injEq] at h3
    exact run_equalIn_iface_ptr_same w 9998 p h1 h2 hh h3 hj
theorem same_lit {k : Kd} (h : IsLit k.n) : SameKid k := by
  obtain ⟨p, hp⟩ := h
  rw [SameKid, hp]
  refine ⟨fun w => ?_, fun x y w => ?_⟩
  · simp only [binOp]
    simp [Op.equal, Op.maxDepth, lit_eq]
  · simp [eqGuard, go_sem]
end Go.Proofs.YtcldbjgikkfnbaaGreatDoor
