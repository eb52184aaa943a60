/-
  What the operations of package num (the closures of the table) come to, called by themselves: walks. Conditions: both numbers are of 64 bits.
-/
import Derived.Test.YtcdjnkeomaidaaaBase
import Derived.Test.YtcdjnkeomaidaaaNumPlain
import Derived.Test.YtcdjnkeomaidaaaShelf
namespace Go.Proofs.Ytcdjnkeomaidaaa
open Go.RowKit

theorem num_whole_yes (n : Int) (w : World) : Calls Try.prog 29 #[.int .i64 n, .bool true] w fun e w' => e = .returned (.tuple #[.iface 48 (.int .i64 n), .int .i64 0]) ∧ w = w' := by
  go_enter Try.func29, Try.ntmps29
  go_wp2
  go_ret2
  exact ⟨rfl, rfl⟩
theorem num_whole_no (n : Int) (w : World) : Calls Try.prog 29 #[.int .i64 n, .bool false] w fun e w' => e = .returned (.tuple #[.nilIface, .int .i64 21]) ∧ w = w' := by
  go_enter Try.func29, Try.ntmps29
  go_wp2
  go_ret2
  exact ⟨rfl, rfl⟩
/-- What 'whole' answers: a number, or that it is too great. -/
def wholeV (n : Int) (ok : Bool) : Value := if ok then .tuple #[.iface 48 (.int .i64 n), .int .i64 0] else .tuple #[.nilIface, .int .i64 21]
theorem num_whole (n : Int) (ok : Bool) (w : World) : Calls Try.prog 29 #[.int .i64 n, .bool ok] w fun e w' => e = .returned (wholeV n ok) ∧ w = w' := by
  cases ok
  · exact num_whole_no n w
  · exact num_whole_yes n w
theorem num_add (a b : Int) (ha : rng a = true) (hb : rng b = true) (w : World) : Calls Try.prog 30 #[.int .i64 a, .int .i64 b] w fun e w' => e = .returned (.tuple #[.int .i64 (wrap64 (a + b)), .bool (rng (a + b))]) ∧ w = w' := by
  have ht := Lib.hid (add_test ha hb)
  clear ha hb
  go_enter Try.func30, Try.ntmps30
  go_wp2
  go_ret2
  exact ⟨by rw [ht.out]; rfl, rfl⟩
theorem num_sub (a b : Int) (ha : rng a = true) (hb : rng b = true) (w : World) : Calls Try.prog 32 #[.int .i64 a, .int .i64 b] w fun e w' => e = .returned (.tuple #[.int .i64 (wrap64 (a - b)), .bool (rng (a - b))]) ∧ w = w' := by
  have ht := Lib.hid (sub_test ha hb)
  clear ha hb
  go_enter Try.func32, Try.ntmps32
  go_wp2
  go_ret2
  exact ⟨by rw [ht.out]; rfl, rfl⟩
theorem u64_neg {a : Int} (h1 : -9223372036854775808 ≤ a) (h : a < 0) : IntKind.u64.wrap (-IntKind.u64.wrap a) = (a.natAbs : Int) := by
  rw [IntKind.wrap_u64, IntKind.wrap_u64]; omega
theorem num_size (a : Int) (ha : rng a = true) (w : World) : Calls Try.prog 58 #[.int .i64 a] w fun e w' => e = .returned (.int .u64 (a.natAbs : Int)) ∧ w = w' := by
  rw [rng_iff] at ha
  obtain ⟨h1, h2⟩ := ha
  by_cases h : a < 0
  · go_enter Try.func58, Try.ntmps58
    go_wp2
    go_ret
    exact ⟨ret_int (u64_neg h1 h), rfl⟩
  · go_enter Try.func58, Try.ntmps58
    go_wp2
    go_ret
    exact ⟨ret_int (by omega), rfl⟩
theorem num_mul64 (x y : Nat) (hx : x < 18446744073709551616) (hy : y < 18446744073709551616) (w : World) : Calls Try.prog 9 #[.int .u64 x, .int .u64 y] w fun e w' =>
    ∃ hi lo : Nat, e = .returned (.tuple #[.int .u64 hi, .int .u64 lo]) ∧ lo < 18446744073709551616 ∧ Hid (hi * 18446744073709551616 + lo = x * y) ∧ w = w' :=
  (Try.bits_Mul64 x y hx hy w).mono fun _ _ ⟨he, hw⟩ => ⟨_, _, he, Nat.mod_lt _ (by omega), by unfold Hid; omega, hw.symm⟩
theorem ret_mul {n p : Int} {t q : Bool} (h1 : n = p) (h2 : t = q) : Ending.returned (.tuple #[.int .i64 n, .bool t]) = .returned (.tuple #[.int .i64 p, .bool q]) := by rw [h1, h2]
set_option maxHeartbeats 1000000 in
theorem num_mul (a b : Int) (ha : rng a = true) (hb : rng b = true) (w : World) : Calls Try.prog 34 #[.int .i64 a, .int .i64 b] w fun e w' => e = .returned (.tuple #[.int .i64 (wrap64 (a * b)), .bool (rng (a * b))]) ∧ w = w' := by
  by_cases h1 : a < 0 <;> by_cases h2 : b < 0
  · have d1 : decide (a < 0) = true := by simpa using h1
    have d2 : decide (b < 0) = true := by simpa using h2
    go_enter Try.func34, Try.ntmps34
    go_wp2_with (first | (go_at_call 58; refine (num_size _ (by assumption) _).mono ?_; rintro e w' ⟨rfl, rfl⟩) | (go_at_call 9; refine (num_mul64 _ _ (natAbs_lt ‹_›) (natAbs_lt ‹_›) _).mono ?_; rintro e w' ⟨hi, lo, rfl, hlo, hp, rfl⟩))
    all_goals
      go_ret2
      have hm := mul_pos hlo (mul_same hp.out (by omega))
      refine ⟨ret_mul hm.1 (Eq.trans ?_ hm.2), rfl⟩
      first | (rw [decide_eq_decide]; omega) | exact (decide_eq_false (by omega)).symm
  · have d1 : decide (a < 0) = true := by simpa using h1
    have d2 : decide (b < 0) = false := by simpa using h2
    go_enter Try.func34, Try.ntmps34
    go_wp2_with (first | (go_at_call 58; refine (num_size _ (by assumption) _).mono ?_; rintro e w' ⟨rfl, rfl⟩) | (go_at_call 9; refine (num_mul64 _ _ (natAbs_lt ‹_›) (natAbs_lt ‹_›) _).mono ?_; rintro e w' ⟨hi, lo, rfl, hlo, hp, rfl⟩))
    all_goals
      go_ret2
      have hm := mul_neg hlo (mul_diff hp.out (by omega))
      refine ⟨ret_mul hm.1 (Eq.trans ?_ hm.2), rfl⟩
      first | (rw [decide_eq_decide]; omega) | exact (decide_eq_false (by omega)).symm
  · have d1 : decide (a < 0) = false := by simpa using h1
    have d2 : decide (b < 0) = true := by simpa using h2
    go_enter Try.func34, Try.ntmps34
    go_wp2_with (first | (go_at_call 58; refine (num_size _ (by assumption) _).mono ?_; rintro e w' ⟨rfl, rfl⟩) | (go_at_call 9; refine (num_mul64 _ _ (natAbs_lt ‹_›) (natAbs_lt ‹_›) _).mono ?_; rintro e w' ⟨hi, lo, rfl, hlo, hp, rfl⟩))
    all_goals
      go_ret2
      have hm := mul_neg hlo (mul_diff hp.out (by omega))
      refine ⟨ret_mul hm.1 (Eq.trans ?_ hm.2), rfl⟩
      first | (rw [decide_eq_decide]; omega) | exact (decide_eq_false (by omega)).symm
  · have d1 : decide (a < 0) = false := by simpa using h1
    have d2 : decide (b < 0) = false := by simpa using h2
    go_enter Try.func34, Try.ntmps34
    go_wp2_with (first | (go_at_call 58; refine (num_size _ (by assumption) _).mono ?_; rintro e w' ⟨rfl, rfl⟩) | (go_at_call 9; refine (num_mul64 _ _ (natAbs_lt ‹_›) (natAbs_lt ‹_›) _).mono ?_; rintro e w' ⟨hi, lo, rfl, hlo, hp, rfl⟩))
    all_goals
      go_ret2
      have hm := mul_pos hlo (mul_same hp.out (by omega))
      refine ⟨ret_mul hm.1 (Eq.trans ?_ hm.2), rfl⟩
      first | (rw [decide_eq_decide]; omega) | exact (decide_eq_false (by omega)).symm
end Go.Proofs.Ytcdjnkeomaidaaa
