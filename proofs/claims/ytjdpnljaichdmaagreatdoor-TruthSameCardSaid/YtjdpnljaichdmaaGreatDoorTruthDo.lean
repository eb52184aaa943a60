/-
  truth.Do on one value, on two: walks. Conditions: they lie in memory.
-/
import Derived.Test.YtjdpnljaichdmaaGreatDoorZvalSame
import Derived.Test.YtjdpnljaichdmaaGreatDoorFresh
namespace Go.Proofs.YtjdpnljaichdmaaGreatDoor
open Go.RowKit
set_option linter.unusedVariables false

def tNot : ByteArray := ⟨#[116, 114, 117, 116, 104, 46, 110, 111, 116]⟩
def tSame : ByteArray := ⟨#[116, 114, 117, 116, 104, 46, 115, 97, 109, 101]⟩
def Vl.asTruth : Vl → Option Bool
  | .truth b => some b
  | _ => none
theorem Vl.is.truth_ {x : Vl} {w : World} {S : Nat → Prop} {v : Value} (h : x.is w S v) {q : Bool} (hs : x.asTruth = some q) : v = .iface 49 (.bool q) := by
  cases x <;> simp [Vl.asTruth] at hs
  subst hs
  unfold Vl.is at h
  exact h
theorem Vl.is.noTruth {x : Vl} {w : World} {S : Nat → Prop} {v : Value} (h : x.is w S v) (hs : x.asTruth = none) : ∃ T y, v = .iface T y ∧ T ≠ 49 := by
  cases x <;> simp [Vl.asTruth] at hs <;> unfold Vl.is at h
  · exact ⟨_, _, h, by decide⟩
  · exact ⟨_, _, h, by decide⟩
  · exact ⟨_, _, h, by decide⟩
  · obtain ⟨A, c, h, _⟩ := h
    exact ⟨_, _, h, by decide⟩
/-- What truth gives: a code, a truth. -/
def tOut (r : Int × Bool) : Value := .tuple #[if r.1 = 0 then .iface 49 (.bool r.2) else .nilIface, .int .i64 r.1, .string ⟨#[]⟩]
def tDo1 (x : Vl) : Int × Bool := match x.asTruth with
  | some b => (0, !b)
  | none => (20, false)
def tDo2 (x y : Vl) : Int × Bool := (0, x.sameB y)
theorem truth_Do1 {x : Vl} {u : Value} {b o c : Nat} {w : World} {S : Nat → Prop} (hx : x.is w S u) (hc : w.cell? ⟨b, o, none⟩ = some u) :
    Calls Tryz.prog 37 #[.string tNot, .slice (some ⟨b, o, none⟩) 1 c] w (Bel (tOut (tDo1 x)) w) := by
  unfold tNot
  cases ht : x.asTruth with
  | some s =>
    have hr := Lib.hid (show tOut (tDo1 x) = .tuple #[.iface 49 (.bool (!s)), .int .i64 0, .string ⟨#[]⟩] by unfold tDo1 tOut; rw [ht]; rfl)
    obtain rfl := hx.truth_ ht
    have a1 := pf_as_Truth (.bool s)
    clear hx ht
    cases s
    all_goals
      go_enter Tryz.func37, Tryz.ntmps37
      go_wp2
      go_ret3
      exact ⟨by rw [hr.out]; rfl, Below.refl _ _⟩
  | none =>
    have hr := Lib.hid (show tOut (tDo1 x) = .tuple #[.nilIface, .int .i64 20, .string ⟨#[]⟩] by unfold tDo1 tOut; rw [ht]; rfl)
    obtain ⟨T, y, rfl, hT⟩ := hx.noTruth ht
    have a1 := pf_no_Truth T y hT
    clear hx ht
    go_enter Tryz.func37, Tryz.ntmps37
    go_wp2
    go_ret3
    exact ⟨by rw [hr.out]; rfl, Below.refl _ _⟩
set_option maxRecDepth 100000 in
set_option maxHeartbeats 4000000 in
theorem truth_Do2 {x y : Vl} {u v : Value} {b o c : Nat} {w : World} {S S' : Nat → Prop} (hx : x.is w S u) (hc : w.cell? ⟨b, o, none⟩ = some u) (hy : y.is w S' v) (hd : w.cell? ⟨b, o + 1, none⟩ = some v)
    (hS : ∀ b, S b → b < w.heap.size) (hS' : ∀ b, S' b → b < w.heap.size) (hf : x.fine) (hf' : y.fine) :
    Calls Tryz.prog 37 #[.string tSame, .slice (some ⟨b, o, none⟩) 2 c] w (Bel (tOut (tDo2 x y)) w) := by
  have hr := Lib.hid (show tOut (tDo2 x y) = .tuple #[.iface 49 (.bool (x.sameB y)), .int .i64 0, .string ⟨#[]⟩] from rfl)
  have KS := Lib.hid (fun z : Ext w => zval_Same x y u v S S' z.now (hx.keep (fun b o hs => z.ok.cell (p := ⟨b, o, none⟩) (hS b hs)) (fun b h => h)) (hy.keep (fun b o hs => z.ok.cell (p := ⟨b, o, none⟩) (hS' b hs)) (fun b h => h))
    (fun b hs => Nat.lt_of_lt_of_le (hS b hs) z.ok.size) (fun b hs => Nat.lt_of_lt_of_le (hS' b hs) z.ok.size) hf hf')
  unfold tSame
  obtain ⟨t1, z1, rfl⟩ := hx.iface
  obtain ⟨t2, z2, rfl⟩ := hy.iface
  have D1 := Ext.cell (w := w) hc
  have D2 := Ext.cell (w := w) hd
  clear hx hy hS hS' hf hf' hc hd
  generalize x.sameB y = q at *
  go_enter Tryz.func37, Tryz.ntmps37
  go_wp2
  refine wp_region_ext (by kernel_rfl) (by kernel_rfl) ?_
  go_big_quiet_step (fail)
  go_big_quiet_step (fail)
  go_big_quiet_step (fail)
  go_big_quiet_step (fail)
  go_big_quiet_step (fail)
  go_big_quiet_step (fail)
  go_big_quiet_step ((go_at_call 55; exact Calls.ext_of (KS.out _)))
  go_big_quiet_step (fail)
  go_big_quiet_step (fail)
  go_big_quiet_step (fail)
  go_big_quiet_step (fail)
  refine wpQuiet_nil ?_
  rintro _ ⟨x, rfl⟩
  have HB2 := Lib.hid x.ok
  clear D1 D2 KS
  generalize x.now = w2 at *
  go_wp2
  go_ret3
  exact ⟨by rw [hr.out]; rfl, HB2.out⟩
end Go.Proofs.YtjdpnljaichdmaaGreatDoor
