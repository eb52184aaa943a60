/-
  What 'num.pow' comes to: the power, or that it is over: a walk. Conditions: both numbers are of 64 bits, the second not below 0.
-/
import Derived.Test.YtcdjnkeomaidaaaNumOps
import Derived.Laws.BitsAllLaws
import Derived.Laws.BitsLemmas
namespace Go.Proofs.Ytcdjnkeomaidaaa
open Go.RowKit

/-- What is known of the loop's numbers. -/
structure PowInv (a0 : Int) (n0 : Nat) (a : Int) (n : Nat) (r : Int) : Prop where
  eq : r * a ^ n = a0 ^ n0
  ra : rng a = true
  rr : rng r = true
  nz : a = 0 ∨ r ≠ 0
  le : n ≤ n0
theorem PowInv.odd {a0 a r : Int} {n0 n : Nat} (h : PowInv a0 n0 a n r) (ho : n % 2 = 1) : r * a * (a * a) ^ (n / 2) = a0 ^ n0 := by
  rw [← h.eq, pow_odd (A := a) (n := n) (k := n / 2) (by omega), Int.mul_assoc]
theorem PowInv.even {a0 a r : Int} {n0 n : Nat} (h : PowInv a0 n0 a n r) (ho : n % 2 = 0) : r * (a * a) ^ (n / 2) = a0 ^ n0 := by
  rw [← h.eq, pow_even (A := a) (n := n) (k := n / 2) (by omega)]
theorem PowInv.nz2 {a0 a r : Int} {n0 n : Nat} (h : PowInv a0 n0 a n r) : a = 0 ∨ r * a ≠ 0 := by
  rcases h.nz with h | h
  · exact .inl h
  · by_cases ha : a = 0
    · exact .inl ha
    · exact .inr (Int.mul_ne_zero h ha)
theorem PowInv.odd_over {a0 a r : Int} {n0 n : Nat} (h : PowInv a0 n0 a n r) (ho : n % 2 = 1) (hr : rng (r * a) = false) : rng (a0 ^ n0) = false :=
  pow_over_mul (h.odd ho).symm hr
theorem PowInv.odd_sq_over {a0 a r : Int} {n0 n : Nat} (h : PowInv a0 n0 a n r) (ho : n % 2 = 1) (hn : 0 < n / 2) (hr : rng (a * a) = false) : rng (a0 ^ n0) = false := by
  refine pow_over_sq hn (h.odd ho).symm ?_ hr
  rcases h.nz2 with rfl | h
  · simp [rng] at hr
  · exact h
theorem PowInv.even_sq_over {a0 a r : Int} {n0 n : Nat} (h : PowInv a0 n0 a n r) (ho : n % 2 = 0) (hn : 0 < n / 2) (hr : rng (a * a) = false) : rng (a0 ^ n0) = false := by
  refine pow_over_sq hn (h.even ho).symm ?_ hr
  rcases h.nz with rfl | h
  · simp [rng] at hr
  · exact h
theorem PowInv.odd_sq {a0 a r : Int} {n0 n : Nat} (h : PowInv a0 n0 a n r) (ho : n % 2 = 1) (hr : rng (r * a) = true) (hs : rng (a * a) = true) : PowInv a0 n0 (a * a) (n / 2) (r * a) :=
  ⟨h.odd ho, hs, hr, by rcases h.nz2 with rfl | h; exact .inl rfl; exact .inr h, by have := h.le; omega⟩
theorem PowInv.odd_last {a0 a r : Int} {n0 n : Nat} (h : PowInv a0 n0 a n r) (ho : n % 2 = 1) (hl : n / 2 = 0) (hr : rng (r * a) = true) : PowInv a0 n0 a (n / 2) (r * a) :=
  ⟨by have := h.odd ho; rw [hl] at this ⊢; simpa using this, h.ra, hr, h.nz2, by have := h.le; omega⟩
theorem PowInv.even_sq {a0 a r : Int} {n0 n : Nat} (h : PowInv a0 n0 a n r) (ho : n % 2 = 0) (hs : rng (a * a) = true) : PowInv a0 n0 (a * a) (n / 2) r :=
  ⟨h.even ho, hs, h.rr, by rcases h.nz with rfl | h; exact .inl rfl; exact .inr h, by have := h.le; omega⟩
theorem PowInv.done {a0 a r : Int} {n0 : Nat} (h : PowInv a0 n0 a 0 r) : r = a0 ^ n0 := by have := h.eq; simpa using this
def powV (p : Int) : Value := .tuple #[.int .i64 (if rng p then p else 0), .bool (rng p)]
theorem powV_no {p : Int} (h : rng p = false) : powV p = .tuple #[.int .i64 0, .bool false] := by simp [powV, h]
theorem powV_yes {p r : Int} (h : rng r = true) (e : r = p) : powV p = .tuple #[.int .i64 r, .bool true] := by subst e; simp [powV, h]
theorem ret_v {a b : Value} (h : b = a) : Ending.returned a = .returned b := by rw [h]

theorem and_one {n : Int} (h : 0 ≤ n) (h1 : n ≤ 9223372036854775807) : bits .and .i64 n 1 = n % 2 := by
  obtain ⟨k, rfl⟩ := Int.eq_ofNat_of_zero_le h
  show IntKind.i64.wrap ((BitVec.ofInt 64 (k : Int) &&& BitVec.ofInt 64 (1 : Int)).toNat : Int) = _
  have e : ∀ a : Nat, a < 9223372036854775808 → (BitVec.ofInt 64 (a : Int)).toNat = a := fun a ha => by
    rw [BitVec.ofInt_natCast, BitVec.toNat_ofNat]; exact Nat.mod_eq_of_lt (by omega)
  rw [BitVec.toNat_and, e k (by omega), show (1 : Int) = ((1 : Nat) : Int) from rfl, e 1 (by omega), Nat.and_one_is_mod, IntKind.wrap_i64]
  omega

set_option maxHeartbeats 1000000 in
theorem num_pow (a n : Int) (ha : rng a = true) (hn : 0 ≤ n) (hn1 : n ≤ 9223372036854775807) (w : World) : Calls Try.prog 38 #[.int .i64 a, .int .i64 n] w fun e w' => e = .returned (powV (a ^ n.toNat)) ∧ w = w' := by
  go_enter Try.func38, Try.ntmps38
  go_wp2
  go_loop [0, 1, 6, 7] (fun s0 s1 s6 s7 => ∃ (x : Int) (m : Nat) (r : Int), s0 = .int .i64 x ∧ s1 = .int .i64 (m : Int) ∧ s6 = .int .i64 r ∧ s7 = .bool true ∧ PowInv a n.toNat x m r) (fun _ s1 _ _ => (intOf s1).toNat)
  case atStart => exact ⟨a, n.toNat, 1, rfl, by rw [Int.toNat_of_nonneg hn], rfl, rfl, by simp, ha, rfl, .inr (by decide), Nat.le_refl _⟩
  case round =>
    obtain ⟨x, m, r, rfl, rfl, rfl, rfl, inv⟩ := hrel
    have hm : m ≤ 9223372036854775807 := by have := inv.le; omega
    by_cases h0 : m = 0
    · subst h0
      have hr := inv.rr
      have hd := Lib.hid (powV_yes inv.rr inv.done)
      go_wp2
      go_ret2
      exact ⟨ret_v hd.out, rfl⟩
    · have hpos : (0 : Int) < (m : Int) := by omega
      have hra := inv.ra
      have hrr := inv.rr
      have hand := and_one (show 0 ≤ (m : Int) by omega) (by omega)
      by_cases ho : m % 2 = 1
      · have hob : ((m : Int) % 2 == 1) = true := beq_iff_eq.2 (by omega)
        cases hm1 : rng (r * x) with
        | false =>
          have hd := Lib.hid (powV_no (inv.odd_over ho hm1))
          go_wp2_with (first | (go_at_call 34; refine (num_mul _ _ (by assumption) (by assumption) _).mono ?_; rintro e w' ⟨rfl, rfl⟩))
          go_ret2
          exact ⟨ret_v hd.out, rfl⟩
        | true =>
          have e1 := wrap_rng hm1
          by_cases hl : 0 < m / 2
          · have hl' : (0 : Int) < (m : Int) / 2 := by omega
            cases hs : rng (x * x) with
            | false =>
              have hd := Lib.hid (powV_no (inv.odd_sq_over ho hl hs))
              go_wp2_with (first | (go_at_call 34; refine (num_mul _ _ (by assumption) (by assumption) _).mono ?_; rintro e w' ⟨rfl, rfl⟩))
              go_ret2
              exact ⟨ret_v hd.out, rfl⟩
            | true =>
              have e2 := wrap_rng hs
              go_wp2_with (first | (go_at_call 34; refine (num_mul _ _ (by assumption) (by assumption) _).mono ?_; rintro e w' ⟨rfl, rfl⟩))
              go_round
              case rel => exact ⟨_, m / 2, _, rfl, by simp, rfl, rfl, inv.odd_sq ho hm1 hs⟩
              case measure => simp [intOf]; omega
          · have hl' : ¬ (0 : Int) < (m : Int) / 2 := by omega
            go_wp2_with (first | (go_at_call 34; refine (num_mul _ _ (by assumption) (by assumption) _).mono ?_; rintro e w' ⟨rfl, rfl⟩))
            go_round
            case rel => exact ⟨_, m / 2, _, rfl, by simp, rfl, rfl, inv.odd_last ho (by omega) hm1⟩
            case measure => simp [intOf]; omega
      · have hob : ((m : Int) % 2 == 1) = false := beq_eq_false_iff_ne.2 (by omega)
        have hl : 0 < m / 2 := by omega
        have hl' : (0 : Int) < (m : Int) / 2 := by omega
        cases hs : rng (x * x) with
        | false =>
          have hd := Lib.hid (powV_no (inv.even_sq_over (by omega) hl hs))
          go_wp2_with (first | (go_at_call 34; refine (num_mul _ _ (by assumption) (by assumption) _).mono ?_; rintro e w' ⟨rfl, rfl⟩))
          go_ret2
          exact ⟨ret_v hd.out, rfl⟩
        | true =>
          have e2 := wrap_rng hs
          go_wp2_with (first | (go_at_call 34; refine (num_mul _ _ (by assumption) (by assumption) _).mono ?_; rintro e w' ⟨rfl, rfl⟩))
          go_round
          case rel => exact ⟨_, m / 2, _, rfl, by simp, rfl, rfl, inv.even_sq (by omega) hs⟩
          case measure => simp [intOf]; omega
end Go.Proofs.Ytcdjnkeomaidaaa
