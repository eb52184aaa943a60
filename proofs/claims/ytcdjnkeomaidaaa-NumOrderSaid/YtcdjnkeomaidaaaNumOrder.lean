/-
  espalierlaw8.NumOrder: a walk. Conditions: the numbers are int64s.
-/
import Derived.Test.YtcdjnkeomaidaaaLawPairs
namespace Go.Proofs.Ytcdjnkeomaidaaa
open Go.RowKit
set_option linter.unusedVariables false

theorem law_abs (a : Int) (ha : rng a = true) : ∃ z i u j, (∀ w : World, Calls Try.prog 8 #[.string ⟨#[110, 117, 109, 46, 97, 98, 115]⟩, .slice (some ⟨w.heap.size, 0, none⟩) 1 1] (w.alloc (.cells #[.int .i64 a] 2)) fun e w' => e = .returned (.tuple #[.int .i64 z, .int .i64 i]) ∧ Below w.heap.size w w') ∧ (∀ w : World, Calls Try.prog 8 #[.string ⟨#[110, 117, 109, 46, 110, 101, 103]⟩, .slice (some ⟨w.heap.size, 0, none⟩) 1 1] (w.alloc (.cells #[.int .i64 a] 2)) fun e w' => e = .returned (.tuple #[.int .i64 u, .int .i64 j]) ∧ Below w.heap.size w w') ∧
    ((a = -9223372036854775808 ∧ i = 21 ∧ j = 21) ∨ ((a == -9223372036854775808) = false ∧ i = 0 ∧ j = 0 ∧ u = -a ∧ (-9223372036854775808 ≤ -a ∧ -a ≤ 9223372036854775807) ∧ decide (0 ≤ z) = true ∧ ((z == a) = true ∨ ((z == a) = false ∧ (z == -a) = true)))) := by
  have h := rng_iff.mp ha
  by_cases hl : a = -9223372036854775808
  · subst hl
    exact ⟨0, 21, 0, 21, w_abs_over ha (by decide), w_neg_over ha (by decide), .inl ⟨rfl, rfl, rfl⟩⟩
  · refine ⟨_, 0, _, 0, w_abs_in ha (by rw [rng_iff]; omega), w_neg_in ha (by rw [rng_iff]; omega), .inr ?_⟩
    simp only [decide_eq_true_eq, beq_iff_eq, beq_eq_false_iff_ne, ne_eq]
    refine ⟨hl, trivial, trivial, trivial, by omega, by omega, by omega⟩
theorem law_cmp (a b : Int) (ha : rng a = true) (hb : rng b = true) : ∃ x y p q, (∀ w : World, Calls Try.prog 8 #[.string ⟨#[110, 117, 109, 46, 109, 105, 110]⟩, .slice (some ⟨w.heap.size, 0, none⟩) 2 2] (w.alloc (.cells #[.int .i64 a, .int .i64 b] 2)) fun e w' => e = .returned (.tuple #[.int .i64 x, .int .i64 0]) ∧ Below w.heap.size w w') ∧ (∀ w : World, Calls Try.prog 8 #[.string ⟨#[110, 117, 109, 46, 109, 97, 120]⟩, .slice (some ⟨w.heap.size, 0, none⟩) 2 2] (w.alloc (.cells #[.int .i64 a, .int .i64 b] 2)) fun e w' => e = .returned (.tuple #[.int .i64 y, .int .i64 0]) ∧ Below w.heap.size w w') ∧ (∀ w : World, Calls Try.prog 11 #[.string ⟨#[110, 117, 109, 46, 108, 101, 115, 115]⟩, .slice (some ⟨w.heap.size, 0, none⟩) 2 2] (w.alloc (.cells #[.int .i64 3, .int .i64 a, .string ⟨#[]⟩, .slice none 0 0, .int .i64 3, .int .i64 b, .string ⟨#[]⟩, .slice none 0 0] 38)) fun e w' => e = .returned (.tuple #[.iface 40 (.bool p), .int .i64 0, .string ⟨#[]⟩]) ∧ Below w.heap.size w w') ∧ (∀ w : World, Calls Try.prog 11 #[.string ⟨#[110, 117, 109, 46, 109, 111, 115, 116]⟩, .slice (some ⟨w.heap.size, 0, none⟩) 2 2] (w.alloc (.cells #[.int .i64 3, .int .i64 a, .string ⟨#[]⟩, .slice none 0 0, .int .i64 3, .int .i64 b, .string ⟨#[]⟩, .slice none 0 0] 38)) fun e w' => e = .returned (.tuple #[.iface 40 (.bool q), .int .i64 0, .string ⟨#[]⟩]) ∧ Below w.heap.size w w') ∧
    ((p = true ∧ q = true ∧ x = a ∧ y = b ∧ decide (a < b) = true ∧ decide (a ≤ b) = true ∧ decide (b < a) = false ∧ (b != a) = true ∧ min a b = a) ∨ (a = b ∧ p = false ∧ q = true ∧ x = a ∧ y = a) ∨ (p = false ∧ q = false ∧ x = b ∧ y = a ∧ decide (a < b) = false ∧ decide (a ≤ b) = false ∧ decide (b < a) = true ∧ (b != a) = true ∧ min a b = b)) := by
  refine ⟨_, _, _, _, w_min ha hb, w_max ha hb, w_less ha hb, w_most ha hb, ?_⟩
  simp only [decide_eq_true_eq, decide_eq_false_iff_not, bne_iff_ne, ne_eq]
  omega

set_option maxRecDepth 100000 in
set_option maxHeartbeats 4000000 in
theorem law_order (a b : Int) (ha : rng a = true) (hb : rng b = true) (w : World) : Calls Try.prog 5 #[.int .i64 a, .int .i64 b] w (Bel (.bool true) w) := by
  have HB : Hid (Below w.heap.size w w) := Below.refl _ _
  obtain ⟨z, i, u, j, hz, hu, hf⟩ := law_abs a ha
  obtain ⟨x, y, p, q, hx, hy, hp, hq, hg⟩ := law_cmp a b ha hb
  have HZ := Lib.hid hz
  have HU := Lib.hid hu
  have HX := Lib.hid hx
  have HY := Lib.hid hy
  have HP := Lib.hid hp
  have HQ := Lib.hid hq
  have HF := Lib.hid hf
  have HG := Lib.hid hg
  have e1 : ∀ w, (binOp .neq 33 (.iface 40 (.bool true)) (.iface 40 (.bool true))).run Try.prog w = .ok (.bool false) w := fun w => by kernel_rfl
  have e2 : ∀ w, (binOp .neq 33 (.iface 40 (.bool false)) (.iface 40 (.bool false))).run Try.prog w = .ok (.bool false) w := fun w => by kernel_rfl
  clear hz hu hf hx hy hp hq hg ha hb
  go_enter Try.func5, Try.ntmps5
  go_wp2_with fail
  refine (law_begun _).mono ?_
  rintro e w1 ⟨rfl, hb⟩
  have HB := Lib.hid (HB.out.trans (hb.mono HB.out.size))
  clear hb
  go_wp2_with fail
  refine (HX.out _).mono ?_
  rintro e w2 ⟨rfl, hb⟩
  have HB := Lib.hid (HB.out.trans (hb.mono HB.out.size))
  clear hb
  go_wp2_with fail
  refine (HY.out _).mono ?_
  rintro e w3 ⟨rfl, hb⟩
  have HB := Lib.hid (HB.out.trans (hb.mono HB.out.size))
  clear hb
  go_wp2_with fail
  refine (law_whole a _).mono ?_
  rintro e w4 ⟨rfl, hb⟩
  have HB := Lib.hid (HB.out.trans (hb.mono HB.out.size))
  clear hb
  go_wp2_with fail
  refine (law_whole b _).mono ?_
  rintro e w5 ⟨rfl, hb⟩
  have HB := Lib.hid (HB.out.trans (hb.mono HB.out.size))
  clear hb
  go_wp2_with fail
  refine (HP.out _).mono ?_
  rintro e w6 ⟨rfl, hb⟩
  have HB := Lib.hid (HB.out.trans (hb.mono HB.out.size))
  clear hb
  go_wp2_with fail
  refine (law_whole a _).mono ?_
  rintro e w7 ⟨rfl, hb⟩
  have HB := Lib.hid (HB.out.trans (hb.mono HB.out.size))
  clear hb
  go_wp2_with fail
  refine (law_whole b _).mono ?_
  rintro e w8 ⟨rfl, hb⟩
  have HB := Lib.hid (HB.out.trans (hb.mono HB.out.size))
  clear hb
  go_wp2_with fail
  refine (HQ.out _).mono ?_
  rintro e w9 ⟨rfl, hb⟩
  have HB := Lib.hid (HB.out.trans (hb.mono HB.out.size))
  clear hb
  rcases HG.out with ⟨f1, f2, f3, f4, f5, f6, f7, f8, f9⟩ | ⟨f1, f2, f3, f4, f5⟩ | ⟨f1, f2, f3, f4, f5, f6, f7, f8, f9⟩
  · subst f1 f2 f3 f4
    go_wp2_with fail
    refine (HZ.out _).mono ?_
    rintro e wa ⟨rfl, hb⟩
    have HB := Lib.hid (HB.out.trans (hb.mono HB.out.size))
    clear hb
    go_wp2_with fail
    refine (HU.out _).mono ?_
    rintro e wb ⟨rfl, hb⟩
    have HB := Lib.hid (HB.out.trans (hb.mono HB.out.size))
    clear hb
    rcases HF.out with ⟨f1, f2, f3⟩ | ⟨k0, k1, k2, k3, ⟨k4, k5⟩, k6, k7 | ⟨k7, k8⟩⟩
    · subst f1 f2 f3
      go_wp2
      go_ret
      exact ⟨rfl, HB.out⟩
    · subst k1 k2 k3
      go_wp2
      go_ret
      exact ⟨rfl, HB.out⟩
    · subst k1 k2 k3
      go_wp2
      go_ret
      exact ⟨rfl, HB.out⟩
  · subst f1 f2 f3 f4 f5
    go_wp2_with fail
    refine (HZ.out _).mono ?_
    rintro e wa ⟨rfl, hb⟩
    have HB := Lib.hid (HB.out.trans (hb.mono HB.out.size))
    clear hb
    go_wp2_with fail
    refine (HU.out _).mono ?_
    rintro e wb ⟨rfl, hb⟩
    have HB := Lib.hid (HB.out.trans (hb.mono HB.out.size))
    clear hb
    rcases HF.out with ⟨f1, f2, f3⟩ | ⟨k0, k1, k2, k3, ⟨k4, k5⟩, k6, k7 | ⟨k7, k8⟩⟩
    · subst f1 f2 f3
      go_wp2
      go_ret
      exact ⟨rfl, HB.out⟩
    · subst k1 k2 k3
      go_wp2
      go_ret
      exact ⟨rfl, HB.out⟩
    · subst k1 k2 k3
      go_wp2
      go_ret
      exact ⟨rfl, HB.out⟩
  · subst f1 f2 f3 f4
    go_wp2_with fail
    refine (HZ.out _).mono ?_
    rintro e wa ⟨rfl, hb⟩
    have HB := Lib.hid (HB.out.trans (hb.mono HB.out.size))
    clear hb
    go_wp2_with fail
    refine (HU.out _).mono ?_
    rintro e wb ⟨rfl, hb⟩
    have HB := Lib.hid (HB.out.trans (hb.mono HB.out.size))
    clear hb
    rcases HF.out with ⟨f1, f2, f3⟩ | ⟨k0, k1, k2, k3, ⟨k4, k5⟩, k6, k7 | ⟨k7, k8⟩⟩
    · subst f1 f2 f3
      go_wp2
      go_ret
      exact ⟨rfl, HB.out⟩
    · subst k1 k2 k3
      go_wp2
      go_ret
      exact ⟨rfl, HB.out⟩
    · subst k1 k2 k3
      go_wp2
      go_ret
      exact ⟨rfl, HB.out⟩
end Go.Proofs.Ytcdjnkeomaidaaa
