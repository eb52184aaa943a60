/-
  guard.Do on one value, on two: walks. Conditions: they lie in memory.
-/
import Derived.Test.YtjdpnljaichdmaaGreatDoorValues
import Derived.Test.YtjdpnljaichdmaaGreatDoorFresh
import Derived.Test.YtjdpnljaichdmaaGreatDoorProg
namespace Go.Proofs.YtjdpnljaichdmaaGreatDoor
open Go.RowKit
set_option linter.unusedVariables false

def gRaise : ByteArray := ⟨#[103, 117, 97, 114, 100, 46, 114, 97, 105, 115, 101]⟩
def gCheck : ByteArray := ⟨#[103, 117, 97, 114, 100, 46, 99, 104, 101, 99, 107]⟩
def Vl.asText : Vl → Option ByteArray
  | .text s => some s
  | _ => none
def Vl.asTruth : Vl → Option Bool
  | .truth b => some b
  | _ => none
theorem Vl.is.text_ {x : Vl} {w : World} {S : Nat → Prop} {v : Value} (h : x.is w S v) {s : ByteArray} (hs : x.asText = some s) : v = .iface 107 (.string s) := by
  cases x <;> simp [Vl.asText] at hs
  subst hs
  unfold Vl.is at h
  exact h
theorem Vl.is.noText {x : Vl} {w : World} {S : Nat → Prop} {v : Value} (h : x.is w S v) (hs : x.asText = none) : ∃ T y, v = .iface T y ∧ T ≠ 107 := by
  cases x <;> simp [Vl.asText] at hs <;> unfold Vl.is at h
  · exact ⟨_, _, h, by decide⟩
  · exact ⟨_, _, h, by decide⟩
  · exact ⟨_, _, h, by decide⟩
  · obtain ⟨A, c, h, _⟩ := h
    exact ⟨_, _, h, by decide⟩
theorem Vl.is.truth_ {x : Vl} {w : World} {S : Nat → Prop} {v : Value} (h : x.is w S v) {q : Bool} (hs : x.asTruth = some q) : v = .iface 49 (.bool q) := by
  cases x <;> simp [Vl.asTruth] at hs
  subst hs
  unfold Vl.is at h
  exact h
theorem Vl.is.noTruth {x : Vl} {w : World} {S : Nat → Prop} {v : Value} (h : x.is w S v) (hs : x.asTruth = none) : ∃ T y, v = .iface T y ∧ T ≠ 49 := by
  cases x <;> simp [Vl.asTruth] at hs <;> unfold Vl.is at h
  · exact ⟨_, _, h, by decide⟩
  · exact ⟨_, _, h, by decide⟩
  · exact ⟨_, _, h, by decide⟩
  · obtain ⟨A, c, h, _⟩ := h
    exact ⟨_, _, h, by decide⟩
/-- What guard gives: a code, what is raised. -/
def gOut (r : Int × ByteArray) : Value := .tuple #[if r.1 = 0 then .iface 42 (.agg #[]) else .nilIface, .int .i64 r.1, .string r.2]
def gDo1 (x : Vl) : Int × ByteArray := match x.asText with
  | some s => (25, s)
  | none => (20, ⟨#[]⟩)
def gDo2 (x y : Vl) : Int × ByteArray := match y.asText with
  | none => (20, ⟨#[]⟩)
  | some s => match x.asTruth with
    | none => (20, ⟨#[]⟩)
    | some true => (0, ⟨#[]⟩)
    | some false => (25, s)
def SamePost (v : Value) (w : World) (e : Ending) (w' : World) : Prop := e = .returned v ∧ w = w'
section
theorem g_asText (s : Value) (w : World) : (Instr.typeAssert (.iface 107 s) 37 107 true).run Tryz.prog w = .ok (.tuple #[s, .bool true]) w := run_assert_hit Tryz.underlying107 rfl _ w
theorem g_asTruth (s : Value) (w : World) : (Instr.typeAssert (.iface 49 s) 37 49 true).run Tryz.prog w = .ok (.tuple #[s, .bool true]) w := run_assert_hit Tryz.underlying49 rfl _ w
theorem g_noText (t : TypeId) (v : Value) (h : t ≠ 107) (w : World) : (Instr.typeAssert (.iface t v) 37 107 true).run Tryz.prog w = .ok (.tuple #[.string ⟨#[]⟩, .bool false]) w :=
  run_assert_miss Tryz.underlying107 rfl (fun w => by kernel_rfl) h _ w
theorem g_noTruth (t : TypeId) (v : Value) (h : t ≠ 49) (w : World) : (Instr.typeAssert (.iface t v) 37 49 true).run Tryz.prog w = .ok (.tuple #[.bool false, .bool false]) w :=
  run_assert_miss Tryz.underlying49 rfl (fun w => by kernel_rfl) h _ w
end
theorem guard_Do1 {x : Vl} {u : Value} {b o c : Nat} {w : World} {S : Nat → Prop} (hx : x.is w S u) (hc : w.cell? ⟨b, o, none⟩ = some u) :
    Calls Tryz.prog 33 #[.string gRaise, .slice (some ⟨b, o, none⟩) 1 c] w (SamePost (gOut (gDo1 x)) w) := by
  unfold gRaise
  cases ht : x.asText with
  | some s =>
    have hr := Lib.hid (show gOut (gDo1 x) = .tuple #[.nilIface, .int .i64 25, .string s] by unfold gDo1 gOut; rw [ht]; rfl)
    obtain rfl := hx.text_ ht
    have a1 := g_asText
    clear hx ht
    go_enter Tryz.func33, Tryz.ntmps33
    go_wp2
    go_ret3
    exact ⟨by rw [hr.out]; rfl, rfl⟩
  | none =>
    have hr := Lib.hid (show gOut (gDo1 x) = .tuple #[.nilIface, .int .i64 20, .string ⟨#[]⟩] by unfold gDo1 gOut; rw [ht]; rfl)
    obtain ⟨T, y, rfl, hT⟩ := hx.noText ht
    have a1 := g_noText T y hT
    clear hx ht
    go_enter Tryz.func33, Tryz.ntmps33
    go_wp2
    go_ret3
    exact ⟨by rw [hr.out]; rfl, rfl⟩
theorem guard_Do2 {x y : Vl} {u v : Value} {b o c : Nat} {w : World} {S : Nat → Prop} (hx : x.is w S u) (hc : w.cell? ⟨b, o, none⟩ = some u) (hy : y.is w S v) (hd : w.cell? ⟨b, o + 1, none⟩ = some v) :
    Calls Tryz.prog 33 #[.string gCheck, .slice (some ⟨b, o, none⟩) 2 c] w (SamePost (gOut (gDo2 x y)) w) := by
  unfold gCheck
  cases ht : y.asText with
  | none =>
    have hr := Lib.hid (show gOut (gDo2 x y) = .tuple #[.nilIface, .int .i64 20, .string ⟨#[]⟩] by unfold gDo2 gOut; rw [ht]; rfl)
    obtain ⟨T, z, rfl, hT⟩ := hy.noText ht
    have a1 := g_noText T z hT
    clear hx hy ht
    go_enter Tryz.func33, Tryz.ntmps33
    go_wp2
    go_ret3
    exact ⟨by rw [hr.out]; rfl, rfl⟩
  | some s =>
    obtain rfl := hy.text_ ht
    have a1 := g_asText
    cases hq : x.asTruth with
    | none =>
      have hr := Lib.hid (show gOut (gDo2 x y) = .tuple #[.nilIface, .int .i64 20, .string ⟨#[]⟩] by unfold gDo2 gOut; rw [ht]; simp only [hq]; rfl)
      obtain ⟨T, z, rfl, hT⟩ := hx.noTruth hq
      have a2 := g_noTruth T z hT
      clear hx hy ht hq
      go_enter Tryz.func33, Tryz.ntmps33
      go_wp2
      go_ret3
      exact ⟨by rw [hr.out]; rfl, rfl⟩
    | some q =>
      obtain rfl := hx.truth_ hq
      have a2 := g_asTruth
      cases q
      · have hr := Lib.hid (show gOut (gDo2 x y) = .tuple #[.nilIface, .int .i64 25, .string s] by unfold gDo2 gOut; rw [ht]; simp only [hq]; rfl)
        clear hx hy ht hq
        go_enter Tryz.func33, Tryz.ntmps33
        go_wp2
        go_ret3
        exact ⟨by rw [hr.out]; rfl, rfl⟩
      · have hr := Lib.hid (show gOut (gDo2 x y) = .tuple #[.iface 42 (.agg #[]), .int .i64 0, .string ⟨#[]⟩] by unfold gDo2 gOut; rw [ht]; simp only [hq]; rfl)
        clear hx hy ht hq
        go_enter Tryz.func33, Tryz.ntmps33
        go_wp2
        go_ret3
        exact ⟨by rw [hr.out]; rfl, rfl⟩
end Go.Proofs.YtjdpnljaichdmaaGreatDoor
