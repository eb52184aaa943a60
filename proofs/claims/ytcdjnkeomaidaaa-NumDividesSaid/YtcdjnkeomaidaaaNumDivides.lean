/-
  espalierlaw8.NumDivides: a walk. Conditions: the numbers are int64s.
-/
import Derived.Test.YtcdjnkeomaidaaaLawPairs
namespace Go.Proofs.Ytcdjnkeomaidaaa
open Go.RowKit
set_option linter.unusedVariables false

/-- What quotient and rest are told to be. -/
def QuoF (a b q ee m f : Int) : Prop :=
  (b = 0 ∧ ee = 22 ∧ f = 22) ∨ (a = -9223372036854775808 ∧ b = -1 ∧ ee = 21 ∧ f = 0 ∧ m = 0) ∨
  (ee = 0 ∧ f = 0 ∧ ∃ X R, q * b = X ∧ a - X = R ∧ (-9223372036854775808 ≤ X ∧ X ≤ 9223372036854775807) ∧ (-9223372036854775808 ≤ R ∧ R ≤ 9223372036854775807) ∧ (b == 0) = false ∧
    ((decide (0 < b) = true ∧ decide (b < 0) = false ∧ decide (m < 0) = false ∧ decide (b ≤ m) = false) ∨ (decide (0 < b) = false ∧ decide (b < 0) = true ∧ decide (0 < m) = false ∧ decide (m ≤ b) = false)) ∧
    ((a == -9223372036854775808) = false ∨ ((a == -9223372036854775808) = true ∧ (b == -1) = false)) ∧
    ((R == m) = true ∨ ((R == m) = false ∧ (R == m - b) = true ∧ -9223372036854775808 ≤ m - b ∧ m - b ≤ 9223372036854775807)) ∧
    ((R == 0) = true ∨ ((R == 0) = false ∧ decide (R < 0) = decide (a < 0))))
theorem law_quo (a b : Int) (ha : rng a = true) (hb : rng b = true) : ∃ q ee m f, (∀ w : World, Calls Try.prog 8 #[.string ⟨#[110, 117, 109, 46, 113, 117, 111]⟩, .slice (some ⟨w.heap.size, 0, none⟩) 2 2] (w.alloc (.cells #[.int .i64 a, .int .i64 b] 2)) fun e w' => e = .returned (.tuple #[.int .i64 q, .int .i64 ee]) ∧ Below w.heap.size w w') ∧ (∀ w : World, Calls Try.prog 8 #[.string ⟨#[110, 117, 109, 46, 109, 111, 100]⟩, .slice (some ⟨w.heap.size, 0, none⟩) 2 2] (w.alloc (.cells #[.int .i64 a, .int .i64 b] 2)) fun e w' => e = .returned (.tuple #[.int .i64 m, .int .i64 f]) ∧ Below w.heap.size w w') ∧ QuoF a b q ee m f := by
  by_cases h0 : b = 0
  · exact ⟨0, 22, 0, 22, w_quo_zero ha hb h0, w_mod_zero ha hb h0, .inl ⟨h0, rfl, rfl⟩⟩
  · by_cases hl : a = -9223372036854775808 ∧ b = -1
    · obtain ⟨rfl, rfl⟩ := hl
      exact ⟨0, 21, _, 0, w_quo_over ha hb h0 (by decide), w_mod_in ha hb h0, .inr (.inl ⟨rfl, rfl, rfl, rfl, by decide⟩)⟩
    · have hq := tdiv_rng ha h0 hl
      refine ⟨_, 0, _, 0, w_quo_in ha hb h0 hq, w_mod_in ha hb h0, .inr (.inr ⟨rfl, rfl, _, a.tmod b, rfl, ?_⟩)⟩
      obtain ⟨h1, h2, h3, h4⟩ := tmod_facts (a := a) h0
      have h5 : a - a.tdiv b * b = a.tmod b := by rw [Int.mul_comm]; omega
      have ha' := rng_iff.mp ha
      have hb' := rng_iff.mp hb
      have h6 : a.tdiv b * b = a - a.tmod b := by omega
      rw [h5, h6]
      simp only [decide_eq_true_eq, decide_eq_false_iff_not, beq_iff_eq, beq_eq_false_iff_ne, ne_eq]
      unfold modR
      generalize a.tmod b = t at *
      clear h1 h5 h6 hq ha hb
      refine ⟨trivial, by omega, by omega, h0, ?_, ?_, ?_, ?_⟩
      · split <;> omega
      · omega
      · split <;> omega
      · by_cases ht : t = 0
        · exact .inl ht
        · refine .inr ⟨ht, ?_⟩
          rw [decide_eq_decide]
          omega

theorem law_sum (a b : Int) (ha : rng a = true) (hb : rng b = true) : (rng (a + b) = true ∧ rng (a - b) = true) ∨ (rng (a + b) = true ∧ rng (a - b) = false) ∨ (rng (a + b) = false ∧ rng (a - b) = true) := by
  have h1 := rng_iff.mp ha
  have h2 := rng_iff.mp hb
  cases hs : rng (a + b) <;> cases hd : rng (a - b) <;> simp
  rw [rng_not] at hs hd
  omega

set_option maxRecDepth 100000 in
set_option maxHeartbeats 4000000 in
theorem law_divides (a b : Int) (ha : rng a = true) (hb : rng b = true) (w : World) : Calls Try.prog 3 #[.int .i64 a, .int .i64 b] w (Bel (.bool true) w) := by
  have HB : Hid (Below w.heap.size w w) := Below.refl _ _
  obtain ⟨q, ee, m, f, hq, hm, hf⟩ := law_quo a b ha hb
  have HQ := Lib.hid hq
  have HM := Lib.hid hm
  have HF := Lib.hid hf
  have HS := Lib.hid (law_sum a b ha hb)
  have HA := Lib.hid ha
  have HBB := Lib.hid hb
  clear hq hm hf ha hb
  go_enter Try.func3, Try.ntmps3
  go_wp2_with fail
  refine (law_begun _).mono ?_
  rintro e w1 ⟨rfl, hb⟩
  have HB := Lib.hid (HB.out.trans (hb.mono HB.out.size))
  clear hb
  go_wp2_with fail
  refine (HQ.out _).mono ?_
  rintro e w2 ⟨rfl, hb⟩
  have HB := Lib.hid (HB.out.trans (hb.mono HB.out.size))
  clear hb
  go_wp2_with fail
  refine (HM.out _).mono ?_
  rintro e w3 ⟨rfl, hb⟩
  have HB := Lib.hid (HB.out.trans (hb.mono HB.out.size))
  clear hb
  rcases HS.out with ⟨hs, hd⟩ | ⟨hs, hd⟩ | ⟨hs, hd⟩
  · have HS1 := Lib.hid hs
    have HD1 := Lib.hid hd
    have h1 := rng_iff.mp HA.out
    have hbr := rng_iff.mp HBB.out
    clear hs hd
    go_wp2_with fail
    refine (w_add_in HA.out HBB.out HS1.out _).mono ?_
    rintro e w4 ⟨rfl, hb⟩
    have HB := Lib.hid (HB.out.trans (hb.mono HB.out.size))
    clear hb
    go_wp2_with fail
    refine (w_sub_in HA.out HBB.out HD1.out _).mono ?_
    rintro e w5 ⟨rfl, hb⟩
    have HB := Lib.hid (HB.out.trans (hb.mono HB.out.size))
    clear hb
    go_wp2_with fail
    refine (w_sub_in HS1.out HBB.out (by rw [Int.add_sub_cancel]; exact HA.out) _).mono ?_
    rintro e w6 ⟨rfl, hb⟩
    have HB := Lib.hid (HB.out.trans (hb.mono HB.out.size))
    clear hb
    rw [Int.add_sub_cancel]
    go_wp2_with fail
    refine (w_add_in HD1.out HBB.out (by rw [Int.sub_add_cancel]; exact HA.out) _).mono ?_
    rintro e w7 ⟨rfl, hb⟩
    have HB := Lib.hid (HB.out.trans (hb.mono HB.out.size))
    clear hb
    rw [Int.sub_add_cancel]
    rcases HF.out with ⟨f1, f2, f3⟩ | ⟨f1, f2, f3, f4, f5⟩ | ⟨f2, f3, X, R, fX, fR, bX, bR, f0, g1, g2, g3, g4⟩
    · subst f1 f2 f3
      go_wp2
      go_ret
      exact ⟨rfl, HB.out⟩
    · subst f1 f2 f3 f4 f5
      go_wp2
      go_ret
      exact ⟨rfl, HB.out⟩
    · subst f2 f3
      clear h1 hbr
      rcases g1 with ⟨i1, i2, i3, i4⟩ | ⟨i1, i2, i3, i4⟩ <;> rcases g2 with j1 | ⟨j1, j2⟩ <;> rcases g3 with k1 | ⟨k1, k2, k3, k4⟩ <;> rcases g4 with l1 | ⟨l1, l2⟩
      all_goals
        go_wp2
        go_ret
        exact ⟨rfl, HB.out⟩
  · have HS1 := Lib.hid hs
    have HD1 := Lib.hid hd
    have h1 := rng_iff.mp HA.out
    have hbr := rng_iff.mp HBB.out
    clear hs hd
    go_wp2_with fail
    refine (w_add_in HA.out HBB.out HS1.out _).mono ?_
    rintro e w4 ⟨rfl, hb⟩
    have HB := Lib.hid (HB.out.trans (hb.mono HB.out.size))
    clear hb
    go_wp2_with fail
    refine (w_sub_over HA.out HBB.out HD1.out _).mono ?_
    rintro e w5 ⟨rfl, hb⟩
    have HB := Lib.hid (HB.out.trans (hb.mono HB.out.size))
    clear hb
    go_wp2_with fail
    refine (w_sub_in HS1.out HBB.out (by rw [Int.add_sub_cancel]; exact HA.out) _).mono ?_
    rintro e w6 ⟨rfl, hb⟩
    have HB := Lib.hid (HB.out.trans (hb.mono HB.out.size))
    clear hb
    rw [Int.add_sub_cancel]
    rcases HF.out with ⟨f1, f2, f3⟩ | ⟨f1, f2, f3, f4, f5⟩ | ⟨f2, f3, X, R, fX, fR, bX, bR, f0, g1, g2, g3, g4⟩
    · subst f1 f2 f3
      go_wp2
      go_ret
      exact ⟨rfl, HB.out⟩
    · subst f1 f2 f3 f4 f5
      go_wp2
      go_ret
      exact ⟨rfl, HB.out⟩
    · subst f2 f3
      clear h1 hbr
      rcases g1 with ⟨i1, i2, i3, i4⟩ | ⟨i1, i2, i3, i4⟩ <;> rcases g2 with j1 | ⟨j1, j2⟩ <;> rcases g3 with k1 | ⟨k1, k2, k3, k4⟩ <;> rcases g4 with l1 | ⟨l1, l2⟩
      all_goals
        go_wp2
        go_ret
        exact ⟨rfl, HB.out⟩
  · have HS1 := Lib.hid hs
    have HD1 := Lib.hid hd
    have h1 := rng_iff.mp HA.out
    have hbr := rng_iff.mp HBB.out
    clear hs hd
    go_wp2_with fail
    refine (w_add_over HA.out HBB.out HS1.out _).mono ?_
    rintro e w4 ⟨rfl, hb⟩
    have HB := Lib.hid (HB.out.trans (hb.mono HB.out.size))
    clear hb
    go_wp2_with fail
    refine (w_sub_in HA.out HBB.out HD1.out _).mono ?_
    rintro e w5 ⟨rfl, hb⟩
    have HB := Lib.hid (HB.out.trans (hb.mono HB.out.size))
    clear hb
    go_wp2_with fail
    refine (w_add_in HD1.out HBB.out (by rw [Int.sub_add_cancel]; exact HA.out) _).mono ?_
    rintro e w7 ⟨rfl, hb⟩
    have HB := Lib.hid (HB.out.trans (hb.mono HB.out.size))
    clear hb
    rw [Int.sub_add_cancel]
    rcases HF.out with ⟨f1, f2, f3⟩ | ⟨f1, f2, f3, f4, f5⟩ | ⟨f2, f3, X, R, fX, fR, bX, bR, f0, g1, g2, g3, g4⟩
    · subst f1 f2 f3
      go_wp2
      go_ret
      exact ⟨rfl, HB.out⟩
    · subst f1 f2 f3 f4 f5
      go_wp2
      go_ret
      exact ⟨rfl, HB.out⟩
    · subst f2 f3
      clear h1 hbr
      rcases g1 with ⟨i1, i2, i3, i4⟩ | ⟨i1, i2, i3, i4⟩ <;> rcases g2 with j1 | ⟨j1, j2⟩ <;> rcases g3 with k1 | ⟨k1, k2, k3, k4⟩ <;> rcases g4 with l1 | ⟨l1, l2⟩
      all_goals
        go_wp2
        go_ret
        exact ⟨rfl, HB.out⟩
end Go.Proofs.Ytcdjnkeomaidaaa
