/-
  espalierlaw8.NumProducts: a walk. Conditions: the numbers are int64s, the exponent a uint8.
-/
import Derived.Test.YtcdjnkeomaidaaaLawPairs
namespace Go.Proofs.Ytcdjnkeomaidaaa
open Go.RowKit
set_option linter.unusedVariables false
set_option linter.unusedSimpArgs false

theorem law_size (a : Int) (ha : rng a = true) (w : World) : Calls Try.prog 10 #[.int .i64 a] w fun e w' => e = .returned (.int .u64 (a.natAbs : Int)) ∧ w = w' := by
  rw [rng_iff] at ha
  obtain ⟨h1, h2⟩ := ha
  by_cases h : a < 0
  · go_enter Try.func10, Try.ntmps10
    go_wp2
    go_ret
    exact ⟨ret_int (u64_neg h1 h), rfl⟩
  · go_enter Try.func10, Try.ntmps10
    go_wp2
    go_ret
    exact ⟨ret_int (by omega), rfl⟩
theorem law_mul64 (a b : Int) (ha : rng a = true) (hb : rng b = true) (w : World) : Calls Try.prog 9 #[.int .u64 (a.natAbs : Int), .int .u64 (b.natAbs : Int)] w fun e w' =>
    ∃ hi lo : Int, e = .returned (.tuple #[.int .u64 hi, .int .u64 lo]) ∧ Hid (0 ≤ hi ∧ 0 ≤ lo ∧ lo < 18446744073709551616 ∧ hi * 18446744073709551616 + lo = ((a.natAbs * b.natAbs : Nat) : Int)) ∧ w = w' := by
  rw [rng_iff] at ha hb
  refine (num_mul64 a.natAbs b.natAbs (by omega) (by omega) w).mono ?_
  rintro e w' ⟨hi, lo, he, h1, h2, h3⟩
  refine ⟨hi, lo, he, ⟨by omega, by omega, by omega, ?_⟩, h3⟩
  have := h2.out
  omega
/-- What is told of a product. -/
def ProdF (a b hi lo p ee : Int) : Prop :=
  ∃ s : Bool, (!(decide (a < 0) == decide (b < 0))) = s ∧
    ((ee = 21 ∧ ((hi != 0) = true ∨ ((hi != 0) = false ∧ decide ((if s then 9223372036854775808 else 9223372036854775807) < lo) = true))) ∨
     (ee = 0 ∧ rng p = true ∧ (hi != 0) = false ∧ decide ((if s then 9223372036854775808 else 9223372036854775807) < lo) = false ∧ ((p.natAbs : Int) != lo) = false ∧ ((p != 0) = false ∨ ((p != 0) = true ∧ (!(decide (p < 0) == s)) = false))))
theorem law_prod (a b : Int) (ha : rng a = true) (hb : rng b = true) : ∃ p ee, (∀ w : World, Calls Try.prog 8 #[.string ⟨#[110, 117, 109, 46, 109, 117, 108]⟩, .slice (some ⟨w.heap.size, 0, none⟩) 2 2] (w.alloc (.cells #[.int .i64 a, .int .i64 b] 2)) fun e w' => e = .returned (.tuple #[.int .i64 p, .int .i64 ee]) ∧ Below w.heap.size w w') ∧ ∀ hi lo, 0 ≤ hi → 0 ≤ lo → lo < 18446744073709551616 → hi * 18446744073709551616 + lo = ((a.natAbs * b.natAbs : Nat) : Int) → ProdF a b hi lo p ee := by
  have e : ((a.natAbs * b.natAbs : Nat) : Int) = ((a * b).natAbs : Int) := by rw [Int.natAbs_mul]
  rw [e]
  have hs : (a * b = 0) ∨ (a * b < 0 ↔ (a < 0 ∧ 0 < b ∨ 0 < a ∧ b < 0)) := by
    rcases Int.lt_trichotomy a 0 with h1 | h1 | h1 <;> rcases Int.lt_trichotomy b 0 with h2 | h2 | h2
    · have := Int.mul_pos_of_neg_of_neg h1 h2; right; omega
    · left; rw [h2]; simp
    · have := Int.mul_neg_of_neg_of_pos h1 h2; right; omega
    · left; rw [h1]; simp
    · left; rw [h1]; simp
    · left; rw [h1]; simp
    · have := Int.mul_neg_of_pos_of_neg h1 h2; right; omega
    · left; rw [h2]; simp
    · have := Int.mul_pos h1 h2; right; omega
  have hz : a = 0 → a * b = 0 := fun h => by rw [h]; simp
  have hz2 : b = 0 → a * b = 0 := fun h => by rw [h]; simp
  cases hr : rng (a * b)
  · refine ⟨0, 21, w_mul_over ha hb hr, fun hi lo h1 h2 h3 h4 => ⟨_, rfl, .inl ⟨rfl, ?_⟩⟩⟩
    rw [rng_not] at hr
    simp only [bne_iff_ne, ne_eq, bne_eq_false_iff_eq, decide_eq_true_eq]
    generalize a * b = q at *
    by_cases hh : hi = 0
    · refine .inr ⟨hh, ?_⟩
      split
      · rename_i hx; simp only [Bool.not_eq_true', beq_eq_false_iff_ne, ne_eq, decide_eq_decide] at hx; omega
      · rename_i hx; simp only [Bool.not_eq_true', beq_eq_false_iff_ne, ne_eq, decide_eq_decide, Classical.not_not] at hx; omega
    · exact .inl hh
  · refine ⟨a * b, 0, w_mul_in ha hb hr, fun hi lo h1 h2 h3 h4 => ⟨_, rfl, .inr ⟨rfl, hr, ?_⟩⟩⟩
    rw [rng_iff] at hr
    simp only [bne_iff_ne, ne_eq, bne_eq_false_iff_eq, decide_eq_false_iff_not]
    generalize a * b = q at *
    refine ⟨by omega, ?_, by omega, ?_⟩
    · split
      · rename_i hx; simp only [Bool.not_eq_true', beq_eq_false_iff_ne, ne_eq, decide_eq_decide] at hx; omega
      · rename_i hx; simp only [Bool.not_eq_true', beq_eq_false_iff_ne, ne_eq, decide_eq_decide, Classical.not_not] at hx; omega
    · by_cases hq : q = 0
      · exact .inl hq
      · refine .inr ⟨hq, ?_⟩
        have hs' : (q < 0 ↔ (a < 0 ∧ 0 < b ∨ 0 < a ∧ b < 0)) := by rcases hs with h | h; exact absurd h hq; exact h
        have ha0 : a ≠ 0 := fun h => hq (hz h)
        have hb0 : b ≠ 0 := fun h => hq (hz2 h)
        by_cases x1 : a < 0 <;> by_cases x2 : b < 0 <;> by_cases x3 : q < 0 <;> simp [x1, x2, x3] <;> omega

theorem pow_over {a : Int} {k n : Nat} (ha : rng (a ^ k) = true) (h : rng (a ^ (k + 1)) = false) (hk : k + 1 ≤ n) : rng (a ^ n) = false := by
  rw [rng_not] at h ⊢
  rw [rng_iff] at ha
  obtain ⟨d, rfl⟩ : ∃ d, n = k + 1 + d := ⟨n - (k + 1), by omega⟩
  have ha2 : 2 ≤ a.natAbs := by
    rcases Nat.lt_or_ge a.natAbs 2 with h' | h'
    · exfalso
      have : (a ^ (k + 1)).natAbs ≤ 1 := by
        rw [Int.natAbs_pow]
        have h1 : a.natAbs = 0 ∨ a.natAbs = 1 := by omega
        rcases h1 with h1 | h1 <;> rw [h1] <;> simp
      omega
    · exact h'
  have h2 : (a ^ (k + 1 + d)).natAbs = (a ^ (k + 1)).natAbs * a.natAbs ^ d := by rw [Int.natAbs_pow, Int.natAbs_pow, Nat.pow_add]
  rcases Nat.eq_zero_or_pos d with hd | hd
  · subst hd; simpa using h
  · have h3 : 2 ≤ a.natAbs ^ d := Nat.le_trans ha2 (Nat.le_self_pow (by omega) _)
    have h4 := Nat.mul_le_mul_left (a ^ (k + 1)).natAbs h3
    rw [← h2] at h4
    omega
end Go.Proofs.Ytcdjnkeomaidaaa
