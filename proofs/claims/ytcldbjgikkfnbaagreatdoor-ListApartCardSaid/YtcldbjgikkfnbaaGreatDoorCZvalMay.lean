/-
  zval.measure, zval.May: walks, for every value. Conditions: it lies in memory.
-/
import Derived.Test.YtcldbjgikkfnbaaGreatDoorCBase
import Derived.Test.YtcldbjgikkfnbaaGreatDoorProg
namespace Go.Proofs.YtcldbjgikkfnbaaGreatDoor
open Go.RowKit
set_option linter.unusedVariables false

theorem as_text (s : Value) (w : World) : (Instr.typeAssert (.iface 120 s) 35 120 true).run Tryz.prog w = .ok (.tuple #[s, .bool true]) w := run_assert_hit Tryz.underlying120 rfl _ w
theorem as_list (s : Value) (w : World) : (Instr.typeAssert (.iface 47 s) 35 47 true).run Tryz.prog w = .ok (.tuple #[s, .bool true]) w := run_assert_hit Tryz.underlying47 rfl _ w
theorem no_text (t : TypeId) (v : Value) (h : t ≠ 120) (w : World) : (Instr.typeAssert (.iface t v) 35 120 true).run Tryz.prog w = .ok (.tuple #[.string ⟨#[]⟩, .bool false]) w :=
  run_assert_miss Tryz.underlying120 rfl (fun w => by kernel_rfl) h _ w
theorem no_list (t : TypeId) (v : Value) (h : t ≠ 47) (w : World) : (Instr.typeAssert (.iface t v) 35 47 true).run Tryz.prog w = .ok (.tuple #[.slice none 0 0, .bool false]) w :=
  run_assert_miss Tryz.underlying47 rfl (fun w => by kernel_rfl) h _ w

def MeasurePost (r : Int) (w : World) (e : Ending) (w' : World) : Prop := e = .returned (.int .i64 r) ∧ w = w'

theorem measure_other (t : TypeId) (v : Value) (h1 : t ≠ 120) (h2 : t ≠ 47) (left deep : Int) (w : World) (hl : -200 ≤ left) (hu : left ≤ 65536) :
    Calls Tryz.prog 83 #[.iface t v, .int .i64 left, .int .i64 deep] w (MeasurePost (left - 1) w) := by
  have a1 := no_text t v h1
  have a2 := no_list t v h2
  go_enter Tryz.func83, Tryz.ntmps83
  go_wp2
  go_ret
  exact ⟨rfl, rfl⟩
theorem measure_text (s : ByteArray) (hs : s.size ≤ 140737488351232) (left deep : Int) (w : World) (hl : -200 ≤ left) (hu : left ≤ 65536) :
    Calls Tryz.prog 83 #[.iface 120 (.string s), .int .i64 left, .int .i64 deep] w (MeasurePost (left - 1 - s.size) w) := by
  have a1 := as_text
  go_enter Tryz.func83, Tryz.ntmps83
  go_wp2
  go_ret
  exact ⟨rfl, rfl⟩

set_option maxHeartbeats 1000000 in
theorem measure_list (l : List Vl) (hlen : l.length ≤ 140737488351232) (w : World) (S : Nat → Prop)
    (ih : ∀ (j : Nat) (h : j < l.length) (left deep : Int) (v : Value), -100 ≤ left + deep → left ≤ 65536 → 0 ≤ deep → deep ≤ 65 → l[j].is w S v → Calls Tryz.prog 83 #[v, .int .i64 left, .int .i64 deep] w (MeasurePost (l[j].measure left deep) w))
    (A : Option Addr) (c : Nat) (left deep : Int) (hl : -100 ≤ left + deep) (hu : left ≤ 65536) (hd0 : 0 ≤ deep) (hd1 : deep ≤ 65) (hA : Vls.lies w S l A) :
    Calls Tryz.prog 83 #[.iface 47 (.slice A l.length c), .int .i64 left, .int .i64 deep] w (MeasurePost ((Vl.list l).measure left deep) w) := by
  have a1 := no_text 47 (.slice A l.length c) (by decide)
  have a2 := as_list
  have HA := Lib.hid hA
  have IH := Lib.hid ih
  clear hA ih
  by_cases hd : 64 ≤ deep
  · have hx := Lib.hid (show (Vl.list l).measure left deep = -1 by unfold Vl.measure; rw [if_pos hd])
    go_enter Tryz.func83, Tryz.ntmps83
    go_wp2
    go_ret
    exact ⟨by rw [hx.out]; rfl, rfl⟩
  · have hx := Lib.hid (show (Vl.list l).measure left deep = Vls.measure l (left - 1) (deep + 1) by rw [Vl.measure, if_neg hd])
    go_enter Tryz.func83, Tryz.ntmps83
    go_wp2
    clear a1 a2
    go_loop [1, 28] (fun s1 s28 => ∃ (k : Nat) (L : Int), k ≤ l.length ∧ s28 = .int .i64 (k : Int) ∧ s1 = .int .i64 L ∧ (k = l.length → 0 < k → 0 ≤ L) ∧ -100 ≤ L + (deep + 1) ∧ (0 < k → 0 ≤ L) ∧ L ≤ 65536 ∧ Vls.measure (l.drop k) L (deep + 1) = Vls.measure l (left - 1) (deep + 1)) (fun _ s28 => l.length - (intOf s28).toNat)
    case atStart => exact ⟨0, left - 1, Nat.zero_le _, rfl, rfl, by omega, by omega, by omega, by omega, by simp⟩
    case round =>
      obtain ⟨k, L, hk, rfl, rfl, _, hL0, hL1, hL2, heq⟩ := hrel
      have HE := Lib.hid heq
      clear heq
      by_cases hlt : k < l.length
      · obtain ⟨b, o, rfl⟩ := HA.out.head (by omega)
        obtain ⟨_, u, hu, hiu⟩ := HA.out.at_ k hlt
        have HU := Lib.hid hiu
        have hst := Lib.hid (Vls.measure_step hlt L (deep + 1))
        have hle := Vl.measure_le l[k] L (deep + 1)
        clear hiu
        go_wp2_with (go_at_call 83; refine (IH.out k hlt L (deep + 1) u (by omega) (by omega) (by omega) (by omega) HU.out).mono ?_; rintro e w' ⟨rfl, rfl⟩)
        · have hneg : l[k].measure L (deep + 1) < 0 := by assumption
          go_ret
          exact ⟨by rw [hx.out, ← HE.out, hst.out, if_pos hneg]; rfl, rfl⟩
        · have hneg : ¬ l[k].measure L (deep + 1) < 0 := by first | assumption | omega
          have hnext := HE.out.symm.trans (hst.out.trans (if_neg hneg))
          go_round
          case rel => exact ⟨k + 1, _, by omega, by go_num, rfl, by omega, by omega, by omega, by omega, hnext.symm⟩
          case measure => simp [intOf]; omega
      · obtain rfl : k = l.length := by omega
        have hfin := Lib.hid (hx.out.trans (show _ = L by rw [← HE.out, List.drop_length]; unfold Vls.measure; rfl))
        go_wp2
        go_ret
        exact ⟨by rw [hfin.out]; rfl, rfl⟩

theorem measure_all : ∀ (m : Nat) (x : Vl), SizeOf.sizeOf x ≤ m → ∀ (left deep : Int) (w : World) (S : Nat → Prop) (v : Value), -100 ≤ left + deep → left ≤ 65536 → 0 ≤ deep → deep ≤ 65 → x.fine → x.is w S v →
    Calls Tryz.prog 83 #[v, .int .i64 left, .int .i64 deep] w (MeasurePost (x.measure left deep) w) := by
  intro m
  induction m with
  | zero => intro x h; cases x <;> simp at h
  | succ m ih =>
    intro x hx left deep w S v h1 h2 h3 h4 hf hi
    cases x with
    | unit => unfold Vl.is at hi; subst hi; unfold Vl.measure; exact measure_other _ _ (by decide) (by decide) left deep w (by omega) h2
    | truth b => unfold Vl.is at hi; subst hi; unfold Vl.measure; exact measure_other _ _ (by decide) (by decide) left deep w (by omega) h2
    | int n => unfold Vl.is at hi; subst hi; unfold Vl.measure; exact measure_other _ _ (by decide) (by decide) left deep w (by omega) h2
    | text s => unfold Vl.is at hi; unfold Vl.fine at hf; subst hi; unfold Vl.measure; exact measure_text s hf left deep w (by omega) h2
    | list l =>
      unfold Vl.is at hi; unfold Vl.fine at hf
      obtain ⟨A, c, rfl, hA⟩ := hi
      exact measure_list l hf.1 w S (fun j hj left deep v g1 g2 g3 g4 g5 => ih l[j] (by have := Vl.size_lt hj; omega) left deep w S v g1 g2 g3 g4 (hf.2.at_ j hj) g5) A c left deep h1 h2 h3 h4 hA
/-- zval.May. -/
theorem zval_may (x : Vl) (w : World) (S : Nat → Prop) (v : Value) (hf : x.fine) (hi : x.is w S v) :
    Calls Tryz.prog 58 #[v] w fun e w' => e = .returned (.bool (decide (0 ≤ x.measure 65536 0))) ∧ w = w' := by
  have H := Lib.hid (measure_all _ x (Nat.le_refl _) 65536 0 w S v (by decide) (by decide) (by decide) (by decide) hf hi)
  clear hf hi
  go_enter Tryz.func58, Tryz.ntmps58
  go_wp2_with (go_at_call 83; refine (H.out).mono ?_; rintro e w' ⟨rfl, rfl⟩)
  go_ret
  exact ⟨rfl, rfl⟩
end Go.Proofs.YtcldbjgikkfnbaaGreatDoor
