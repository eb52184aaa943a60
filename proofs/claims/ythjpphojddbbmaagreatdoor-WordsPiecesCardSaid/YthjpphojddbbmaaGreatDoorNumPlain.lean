/-
  Plain numbers, no program: what the operations of package num come to. Conditions: none.
-/
import Derived.RowKit
namespace Go.Proofs.YthjpphojddbbmaaGreatDoor

/-- A number of 64 bits. -/
def rng (n : Int) : Bool := decide (-9223372036854775808 ≤ n ∧ n ≤ 9223372036854775807)
theorem rng_iff {n : Int} : rng n = true ↔ -9223372036854775808 ≤ n ∧ n ≤ 9223372036854775807 := by simp [rng]
theorem rng_not {n : Int} : rng n = false ↔ (n < -9223372036854775808 ∨ 9223372036854775807 < n) := by simp only [rng, decide_eq_false_iff_not]; omega

theorem sq_ne (m : Nat) : m * m ≠ 9223372036854775808 := by
  intro h
  rcases Nat.lt_or_ge m 3037000500 with hl | hl
  · have : m * m ≤ 3037000499 * 3037000499 := Nat.mul_le_mul (by omega) (by omega)
    omega
  · have : 3037000500 * 3037000500 ≤ m * m := Nat.mul_le_mul hl hl
    omega

/-- The add's test. -/
theorem add_test {a b : Int} (ha : rng a = true) (hb : rng b = true) :
    (decide (a < RowKit.wrap64 (a + b)) == decide (0 < b)) = rng (a + b) := by
  rw [rng_iff] at ha hb
  unfold RowKit.wrap64
  cases h : rng (a + b)
  · rw [rng_not] at h
    rw [beq_eq_false_iff_ne, ne_eq, decide_eq_decide]; omega
  · rw [rng_iff] at h
    rw [beq_iff_eq, decide_eq_decide]; omega
theorem sub_test {a b : Int} (ha : rng a = true) (hb : rng b = true) :
    (decide (RowKit.wrap64 (a - b) < a) == decide (0 < b)) = rng (a - b) := by
  rw [rng_iff] at ha hb
  unfold RowKit.wrap64
  cases h : rng (a - b)
  · rw [rng_not] at h
    rw [beq_eq_false_iff_ne, ne_eq, decide_eq_decide]; omega
  · rw [rng_iff] at h
    rw [beq_iff_eq, decide_eq_decide]; omega
theorem wrap_rng {n : Int} (h : rng n = true) : RowKit.wrap64 n = n := by rw [rng_iff] at h; unfold RowKit.wrap64; omega
/-- The product of two numbers without their signs, in two halves. -/
theorem mul_pos {p : Int} {hi lo : Nat} (hlo : lo < 18446744073709551616) (h : p = (hi * 18446744073709551616 + lo : Nat)) :
    RowKit.wrap64 (lo : Int) = RowKit.wrap64 p ∧ (decide (hi = 0 ∧ lo < 9223372036854775808)) = rng p := by
  refine ⟨by unfold RowKit.wrap64; omega, ?_⟩
  unfold rng; rw [decide_eq_decide]; omega
theorem mul_neg {p : Int} {hi lo : Nat} (hlo : lo < 18446744073709551616) (h : p = -((hi * 18446744073709551616 + lo : Nat) : Int)) :
    RowKit.wrap64 (-RowKit.wrap64 (lo : Int)) = RowKit.wrap64 p ∧ (decide (hi = 0 ∧ lo ≤ 9223372036854775808)) = rng p := by
  refine ⟨by unfold RowKit.wrap64; omega, ?_⟩
  unfold rng; rw [decide_eq_decide]; omega
theorem mul_same {a b : Int} {n : Nat} (h : n = a.natAbs * b.natAbs) (hs : (a < 0 ∧ b < 0) ∨ (¬ a < 0 ∧ ¬ b < 0)) : a * b = n := by
  subst h
  rcases hs with ⟨h1, h2⟩ | ⟨h1, h2⟩
  · rw [Int.natCast_mul, show ((a.natAbs : Nat) : Int) = -a by omega, show ((b.natAbs : Nat) : Int) = -b by omega, Int.neg_mul_neg]
  · rw [Int.natCast_mul, show ((a.natAbs : Nat) : Int) = a by omega, show ((b.natAbs : Nat) : Int) = b by omega]
theorem mul_diff {a b : Int} {n : Nat} (h : n = a.natAbs * b.natAbs) (hs : (a < 0 ∧ ¬ b < 0) ∨ (¬ a < 0 ∧ b < 0)) : a * b = -(n : Int) := by
  subst h
  rcases hs with ⟨h1, h2⟩ | ⟨h1, h2⟩
  · rw [Int.natCast_mul, show ((a.natAbs : Nat) : Int) = -a by omega, show ((b.natAbs : Nat) : Int) = b by omega, Int.neg_mul, Int.neg_neg]
  · rw [Int.natCast_mul, show ((a.natAbs : Nat) : Int) = a by omega, show ((b.natAbs : Nat) : Int) = -b by omega, Int.mul_neg, Int.neg_neg]
theorem natAbs_lt {a : Int} (h : rng a = true) : a.natAbs < 18446744073709551616 := by rw [rng_iff] at h; omega

theorem sq_pow (A : Int) (k : Nat) : (A * A) ^ k = A ^ (2 * k) := by
  induction k with
  | zero => simp
  | succ k ih => rw [Int.pow_succ, ih, show 2 * (k + 1) = 2 * k + 1 + 1 by omega, Int.pow_succ, Int.pow_succ, Int.mul_assoc]
theorem pow_even {A : Int} {n k : Nat} (h : n = 2 * k) : A ^ n = (A * A) ^ k := by rw [sq_pow, h]
theorem pow_odd {A : Int} {n k : Nat} (h : n = 2 * k + 1) : A ^ n = A * (A * A) ^ k := by rw [sq_pow, h, Int.pow_succ, Int.mul_comm]
theorem sq_pos {A : Int} (h : A ≠ 0) : 1 ≤ A * A := by
  have : 0 < A.natAbs * A.natAbs := Nat.mul_pos (by omega) (by omega)
  have e : ((A.natAbs * A.natAbs : Nat) : Int) = A * A := Int.natAbs_mul_self
  omega
theorem pow_pos1 {c : Int} (h : 1 ≤ c) (k : Nat) : 1 ≤ c ^ k := by
  induction k with
  | zero => simp
  | succ k ih =>
    rw [Int.pow_succ]
    have := Int.mul_le_mul ih h (by omega) (by omega)
    omega
theorem out_mul {m c : Int} (ho : rng m = false) (hc : 1 ≤ c) : rng (m * c) = false := by
  rw [rng_not] at ho ⊢
  rcases ho with h | h
  · left
    have := Int.mul_le_mul_of_nonneg_left hc (show 0 ≤ -m by omega)
    rw [Int.neg_mul, Int.mul_one] at this
    have e := Int.neg_mul m c
    omega
  · right
    have := Int.mul_le_mul_of_nonneg_left hc (show 0 ≤ m by omega)
    omega
theorem pow_over_mul {R A P : Int} {k : Nat} (hP : P = R * A * (A * A) ^ k) (ho : rng (R * A) = false) : rng P = false := by
  have hA : A ≠ 0 := by rintro rfl; simp [rng] at ho
  rw [hP]
  exact out_mul ho (pow_pos1 (sq_pos hA) k)
theorem natAbs_pow' (A : Int) (k : Nat) : (A ^ k).natAbs = A.natAbs ^ k := by
  induction k with
  | zero => simp
  | succ k ih => rw [Int.pow_succ, Int.natAbs_mul, ih, Nat.pow_succ]
theorem pow_over_sq {R A P : Int} {k : Nat} (hk : 0 < k) (hP : P = R * (A * A) ^ k) (hR : R ≠ 0) (ho : rng (A * A) = false) : rng P = false := by
  have hA : A ≠ 0 := by rintro rfl; simp [rng] at ho
  have h1 := sq_pos hA
  have h2 : 9223372036854775808 ≤ A * A := by rw [rng_not] at ho; omega
  obtain ⟨j, rfl⟩ : ∃ j, k = j + 1 := ⟨k - 1, by omega⟩
  have h3 : 9223372036854775808 ≤ (A * A) ^ (j + 1) := by
    rw [Int.pow_succ]
    have := Int.mul_le_mul_of_nonneg_right (pow_pos1 h1 j) (show 0 ≤ A * A by omega)
    omega
  have e : ((A ^ (j + 1)).natAbs * (A ^ (j + 1)).natAbs : Nat) = (A * A) ^ (j + 1) := by
    rw [Int.natAbs_mul_self, sq_pow, show 2 * (j + 1) = (j + 1) + (j + 1) by omega, Int.pow_add (m := j + 1) (n := j + 1)]
  have hs := sq_ne (A ^ (j + 1)).natAbs
  generalize hc : (A * A) ^ (j + 1) = c at *
  have h4 : c ≠ 9223372036854775808 := by omega
  rw [hP, rng_not]
  rcases Int.lt_or_gt_of_ne hR with h | h
  · left
    have := Int.mul_le_mul_of_nonneg_right (show R ≤ -1 by omega) (show 0 ≤ c by omega)
    omega
  · right
    have := Int.mul_le_mul_of_nonneg_right (show 1 ≤ R by omega) (show 0 ≤ c by omega)
    omega

theorem tdiv_rng {a b : Int} (ha : rng a = true) (hb : b ≠ 0) (h : ¬ (a = -9223372036854775808 ∧ b = -1)) : rng (a.tdiv b) = true := by
  rw [rng_iff] at ha ⊢
  rcases (show b = 1 ∨ b = -1 ∨ 2 ≤ b.natAbs by omega) with h1 | h1 | h1
  · subst h1; rw [Int.tdiv_one]; exact ha
  · subst h1; rw [Int.tdiv_neg, Int.tdiv_one]; omega
  · have e : (a.tdiv b).natAbs = a.natAbs / b.natAbs := Int.natAbs_tdiv a b
    have h2 : a.natAbs / b.natAbs ≤ a.natAbs / 2 := Nat.div_le_div_left h1 (by omega)
    omega
/-- What 'mod' leaves: of the divisor's sign. -/
def modR (a b : Int) : Int := if a.tmod b ≠ 0 ∧ ¬ (a.tmod b < 0 ↔ b < 0) then a.tmod b + b else a.tmod b
theorem tmod_facts {a b : Int} (hb : b ≠ 0) : a = b * a.tdiv b + a.tmod b ∧ (a.tmod b).natAbs < b.natAbs ∧ (0 ≤ a → 0 ≤ a.tmod b) ∧ (a ≤ 0 → a.tmod b ≤ 0) := by
  refine ⟨(Int.mul_tdiv_add_tmod a b).symm, ?_, fun h => Int.tmod_nonneg b h, fun h => ?_⟩
  · rw [Int.natAbs_tmod]; exact Nat.mod_lt _ (by omega)
  · have := Int.tmod_nonneg b (show 0 ≤ -a by omega)
    rw [Int.neg_tmod] at this
    omega
theorem tmod_m1 (a : Int) : a.tmod (-1) = 0 := by
  have := (tmod_facts (a := a) (b := -1) (by decide)).2.1
  omega
end Go.Proofs.YthjpphojddbbmaaGreatDoor
