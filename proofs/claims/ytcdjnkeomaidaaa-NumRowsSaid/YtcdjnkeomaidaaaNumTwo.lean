/-
  What the twelve functions of the table of package num come to: walks. Conditions: both numbers are of 64 bits.
-/
import Derived.Test.YtcdjnkeomaidaaaNumPow
namespace Go.Proofs.Ytcdjnkeomaidaaa
open Go.RowKit
set_option linter.unusedVariables false

def faultV (e : Int) : Value := .tuple #[.nilIface, .int .i64 e]
def numV (n : Int) : Value := .tuple #[.iface 48 (.int .i64 n), .int .i64 0]
def truthV (b : Bool) : Value := .tuple #[.iface 40 (.bool b), .int .i64 0]
/-- A number, or that it is over. -/
def exactV (n : Int) : Value := if rng n then numV n else faultV 21
theorem whole_exact (n : Int) : wholeV (wrap64 n) (rng n) = exactV n := by
  unfold wholeV exactV
  cases h : rng n
  · rfl
  · rw [wrap_rng h]; rfl
theorem whole_pow (p : Int) : wholeV (if rng p then p else 0) (rng p) = exactV p := by
  unfold wholeV exactV
  cases h : rng p <;> rfl
theorem whole_of {n p : Int} {ok : Bool} (h1 : ok = rng p) (h2 : rng p = true → n = p) : wholeV n ok = exactV p := by
  subst h1
  unfold wholeV exactV
  cases h : rng p
  · rfl
  · rw [h2 h]; rfl
/-- A result of two parts, by its name. -/
theorem two_parts {P : Program} {f : FuncId} {args : Array Value} {w : World} {v : Value} (h : Calls P f args w fun e w' => e = .returned v ∧ w = w') (hv : ∃ x y, v = .tuple #[x, y]) :
    Calls P f args w fun e w' => ∃ x y, e = .returned (.tuple #[x, y]) ∧ Hid (.tuple #[x, y] = v) ∧ w = w' := by
  obtain ⟨x, y, rfl⟩ := hv
  exact h.mono fun _ _ ⟨he, hw⟩ => ⟨x, y, he, rfl, hw⟩
theorem wholeV_two (n : Int) (ok : Bool) : ∃ x y, wholeV n ok = .tuple #[x, y] := by unfold wholeV; cases ok <;> exact ⟨_, _, rfl⟩

theorem two_add (a b : Int) (ha : rng a = true) (hb : rng b = true) (w : World) : Calls Try.prog 28 #[.int .i64 a, .int .i64 b] w fun e w' => e = .returned (exactV (a + b)) ∧ w = w' := by
  have hx := Lib.hid (whole_exact (a + b))
  go_enter Try.func28, Try.ntmps28
  go_wp2_with (first | (go_at_call 30; refine (num_add _ _ (by assumption) (by assumption) _).mono ?_; rintro e w' ⟨rfl, rfl⟩) | (go_at_call 29; refine (two_parts (num_whole _ _ _) (wholeV_two _ _)).mono ?_; rintro e w' ⟨x, y, rfl, hv, rfl⟩))
  go_ret2
  exact ⟨ret_v (hx.out ▸ hv.out.symm), rfl⟩
theorem two_sub (a b : Int) (ha : rng a = true) (hb : rng b = true) (w : World) : Calls Try.prog 31 #[.int .i64 a, .int .i64 b] w fun e w' => e = .returned (exactV (a - b)) ∧ w = w' := by
  have hx := Lib.hid (whole_exact (a - b))
  go_enter Try.func31, Try.ntmps31
  go_wp2_with (first | (go_at_call 32; refine (num_sub _ _ (by assumption) (by assumption) _).mono ?_; rintro e w' ⟨rfl, rfl⟩) | (go_at_call 29; refine (two_parts (num_whole _ _ _) (wholeV_two _ _)).mono ?_; rintro e w' ⟨x, y, rfl, hv, rfl⟩))
  go_ret2
  exact ⟨ret_v (hx.out ▸ hv.out.symm), rfl⟩
theorem two_mul (a b : Int) (ha : rng a = true) (hb : rng b = true) (w : World) : Calls Try.prog 33 #[.int .i64 a, .int .i64 b] w fun e w' => e = .returned (exactV (a * b)) ∧ w = w' := by
  have hx := Lib.hid (whole_exact (a * b))
  go_enter Try.func33, Try.ntmps33
  go_wp2_with (first | (go_at_call 34; refine (num_mul _ _ (by assumption) (by assumption) _).mono ?_; rintro e w' ⟨rfl, rfl⟩) | (go_at_call 29; refine (two_parts (num_whole _ _ _) (wholeV_two _ _)).mono ?_; rintro e w' ⟨x, y, rfl, hv, rfl⟩))
  go_ret2
  exact ⟨ret_v (hx.out ▸ hv.out.symm), rfl⟩

def quoV (a b : Int) : Value := if b = 0 then faultV 22 else exactV (a.tdiv b)
theorem two_quo (a b : Int) (ha : rng a = true) (hb : rng b = true) (w : World) : Calls Try.prog 35 #[.int .i64 a, .int .i64 b] w fun e w' => e = .returned (quoV a b) ∧ w = w' := by
  by_cases h0 : b = 0
  · subst h0
    go_enter Try.func35, Try.ntmps35
    go_wp2
    go_ret2
    exact ⟨rfl, rfl⟩
  · have h0b : (b == 0) = false := by simpa using h0
    have hq : quoV a b = exactV (a.tdiv b) := if_neg h0
    by_cases h1 : a = -9223372036854775808
    · have h1b : (a != -9223372036854775808) = false := by simpa using h1
      by_cases h2 : b = -1
      · subst h1 h2
        go_enter Try.func35, Try.ntmps35
        go_wp2_with (first | (go_at_call 29; refine (two_parts (num_whole _ _ _) (wholeV_two _ _)).mono ?_; rintro e w' ⟨x, y, rfl, hv, rfl⟩))
        go_ret2
        exact ⟨ret_v (hv.out.symm), rfl⟩
      · have h2b : (b != -1) = true := by simpa using h2
        have hr := tdiv_rng ha h0 (by omega)
        have hx := Lib.hid (hq.trans (whole_of (n := wrap64 (a.tdiv b)) (ok := true) hr.symm (fun h => wrap_rng h)).symm)
        clear hq h1
        go_enter Try.func35, Try.ntmps35
        go_wp2_with (first | (go_at_call 29; refine (two_parts (num_whole _ _ _) (wholeV_two _ _)).mono ?_; rintro e w' ⟨x, y, rfl, hv, rfl⟩))
        go_ret2
        exact ⟨ret_v (hx.out.trans hv.out.symm), rfl⟩
    · have h1b : (a != -9223372036854775808) = true := by simpa using h1
      have hr := tdiv_rng ha h0 (by omega)
      have hx := Lib.hid (hq.trans (whole_of (n := wrap64 (a.tdiv b)) (ok := true) hr.symm (fun h => wrap_rng h)).symm)
      clear hq hr
      go_enter Try.func35, Try.ntmps35
      go_wp2_with (first | (go_at_call 29; refine (two_parts (num_whole _ _ _) (wholeV_two _ _)).mono ?_; rintro e w' ⟨x, y, rfl, hv, rfl⟩))
      go_ret2
      exact ⟨ret_v (hx.out.trans hv.out.symm), rfl⟩

def modV (a b : Int) : Value := if b = 0 then faultV 22 else numV (modR a b)
theorem two_mod (a b : Int) (ha : rng a = true) (hb : rng b = true) (w : World) : Calls Try.prog 36 #[.int .i64 a, .int .i64 b] w fun e w' => e = .returned (modV a b) ∧ w = w' := by
  by_cases h0 : b = 0
  · subst h0
    go_enter Try.func36, Try.ntmps36
    go_wp2
    go_ret2
    exact ⟨rfl, rfl⟩
  · by_cases h1 : b = -1
    · subst h1
      have hx := Lib.hid (show modV a (-1) = numV 0 by unfold modV modR; rw [tmod_m1]; rfl)
      go_enter Try.func36, Try.ntmps36
      go_wp2
      go_ret2
      exact ⟨ret_v hx.out, rfl⟩
    · have h0b : (b == 0) = false := by simpa using h0
      have h1b : (b == -1) = false := by simpa using h1
      have hv : modV a b = numV (modR a b) := if_neg h0
      rw [rng_iff] at hb
      obtain ⟨hb1, hb2⟩ := hb
      have hf2 := (tmod_facts (a := a) h0).2.1
      by_cases hz : a.tmod b = 0
      · have hzb : (a.tmod b != 0) = false := by simpa using hz
        have hx := Lib.hid (hv.trans (show numV (modR a b) = numV (a.tmod b) by unfold modR; rw [if_neg (by simp [hz])]))
        clear hv hf2
        clear hz
        go_enter Try.func36, Try.ntmps36
        go_wp2
        go_ret2
        exact ⟨ret_v hx.out, rfl⟩
      · have hzb : (a.tmod b != 0) = true := by simpa using hz
        by_cases h2 : a.tmod b < 0 <;> by_cases h3 : b < 0
        · have hx := Lib.hid (hv.trans (show numV (modR a b) = numV (a.tmod b) by unfold modR; rw [if_neg (by simp [h2, h3])]))
          have d2 : decide (a.tmod b < 0) = true := by simpa using h2
          have d3 : decide (b < 0) = true := by simpa using h3
          clear hv hf2 hz
          go_enter Try.func36, Try.ntmps36
          go_wp2
          go_ret2
          exact ⟨ret_v hx.out, rfl⟩
        · have hx := Lib.hid (hv.trans (show numV (modR a b) = numV (a.tmod b + b) by unfold modR; rw [if_pos ⟨hz, by simp [h2, h3]⟩]))
          have d2 : decide (a.tmod b < 0) = true := by simpa using h2
          have d3 : decide (b < 0) = false := by simpa using h3
          have e1 : wrap64 (a.tmod b + b) = a.tmod b + b := by unfold wrap64; omega
          clear hv hf2 hz
          go_enter Try.func36, Try.ntmps36
          go_wp2
          go_ret2
          exact ⟨ret_v hx.out, rfl⟩
        · have hx := Lib.hid (hv.trans (show numV (modR a b) = numV (a.tmod b + b) by unfold modR; rw [if_pos ⟨hz, by simp [h2, h3]⟩]))
          have d2 : decide (a.tmod b < 0) = false := by simpa using h2
          have d3 : decide (b < 0) = true := by simpa using h3
          have e1 : wrap64 (a.tmod b + b) = a.tmod b + b := by unfold wrap64; omega
          clear hv hf2 hz
          go_enter Try.func36, Try.ntmps36
          go_wp2
          go_ret2
          exact ⟨ret_v hx.out, rfl⟩
        · have hx := Lib.hid (hv.trans (show numV (modR a b) = numV (a.tmod b) by unfold modR; rw [if_neg (by simp [h2, h3])]))
          have d2 : decide (a.tmod b < 0) = false := by simpa using h2
          have d3 : decide (b < 0) = false := by simpa using h3
          clear hv hf2 hz
          go_enter Try.func36, Try.ntmps36
          go_wp2
          go_ret2
          exact ⟨ret_v hx.out, rfl⟩

def powVV (a b : Int) : Value := if b < 0 then faultV 23 else exactV (a ^ b.toNat)
theorem powV_two (p : Int) : ∃ n ok, powV p = .tuple #[.int .i64 n, .bool ok] ∧ n = (if rng p then p else 0) ∧ ok = rng p := ⟨_, _, rfl, rfl, rfl⟩
theorem num_pow2 (a n : Int) (ha : rng a = true) (hn : 0 ≤ n) (hn1 : n ≤ 9223372036854775807) (w : World) : Calls Try.prog 38 #[.int .i64 a, .int .i64 n] w fun e w' =>
    ∃ (p : Int) (ok : Bool), e = .returned (.tuple #[.int .i64 p, .bool ok]) ∧ Hid (p = (if rng (a ^ n.toNat) then a ^ n.toNat else 0)) ∧ Hid (ok = rng (a ^ n.toNat)) ∧ w = w' :=
  (num_pow a n ha hn hn1 w).mono fun _ _ ⟨he, hw⟩ => ⟨_, _, he, rfl, rfl, hw⟩
theorem two_pow (a b : Int) (ha : rng a = true) (hb : rng b = true) (w : World) : Calls Try.prog 37 #[.int .i64 a, .int .i64 b] w fun e w' => e = .returned (powVV a b) ∧ w = w' := by
  by_cases h0 : b < 0
  · have hx := Lib.hid (show powVV a b = faultV 23 from if_pos h0)
    go_enter Try.func37, Try.ntmps37
    go_wp2
    go_ret2
    exact ⟨ret_v hx.out, rfl⟩
  · have hx := Lib.hid (show powVV a b = exactV (a ^ b.toNat) from if_neg h0)
    rw [rng_iff] at hb
    obtain ⟨_, hb2⟩ := hb
    go_enter Try.func37, Try.ntmps37
    go_wp2_with (first | (go_at_call 38; refine (num_pow2 _ _ ha (by omega) (by omega) _).mono ?_; rintro e w' ⟨p, ok, rfl, hp, hok, rfl⟩) | (go_at_call 29; refine (two_parts (num_whole _ _ _) (wholeV_two _ _)).mono ?_; rintro e w' ⟨x, y, rfl, hv, rfl⟩))
    go_ret2
    exact ⟨ret_v (hx.out.trans ((whole_of hok.out (fun h => by rw [hp.out, if_pos h])).symm.trans hv.out.symm)), rfl⟩

theorem two_neg (a b : Int) (ha : rng a = true) (w : World) : Calls Try.prog 39 #[.int .i64 a, .int .i64 b] w fun e w' => e = .returned (exactV (-a)) ∧ w = w' := by
  by_cases h : a = -9223372036854775808
  · subst h
    go_enter Try.func39, Try.ntmps39
    go_wp2_with (first | (go_at_call 29; refine (two_parts (num_whole _ _ _) (wholeV_two _ _)).mono ?_; rintro e w' ⟨x, y, rfl, hv, rfl⟩))
    go_ret2
    exact ⟨ret_v (hv.out.symm), rfl⟩
  · have hb : (a != -9223372036854775808) = true := by simpa using h
    have hr : rng (-a) = true := by rw [rng_iff] at ha ⊢; omega
    have hx := Lib.hid (whole_of (n := wrap64 (-a)) (ok := true) hr.symm (fun h => wrap_rng h))
    clear hr ha h
    go_enter Try.func39, Try.ntmps39
    go_wp2_with (first | (go_at_call 29; refine (two_parts (num_whole _ _ _) (wholeV_two _ _)).mono ?_; rintro e w' ⟨x, y, rfl, hv, rfl⟩))
    go_ret2
    exact ⟨ret_v (hx.out.symm.trans hv.out.symm), rfl⟩
theorem two_abs (a b : Int) (ha : rng a = true) (w : World) : Calls Try.prog 40 #[.int .i64 a, .int .i64 b] w fun e w' => e = .returned (exactV (a.natAbs : Int)) ∧ w = w' := by
  by_cases h0 : a < 0
  · by_cases h : a = -9223372036854775808
    · subst h
      go_enter Try.func40, Try.ntmps40
      go_wp2_with (first | (go_at_call 29; refine (two_parts (num_whole _ _ _) (wholeV_two _ _)).mono ?_; rintro e w' ⟨x, y, rfl, hv, rfl⟩))
      go_ret2
      exact ⟨ret_v (hv.out.symm), rfl⟩
    · have hb : (a != -9223372036854775808) = true := by simpa using h
      have hr : rng (a.natAbs : Int) = true := by rw [rng_iff] at ha ⊢; omega
      have hx := Lib.hid (whole_of (n := wrap64 (-a)) (ok := true) hr.symm (fun h => by rw [rng_iff] at h; unfold wrap64; omega))
      clear hr ha h
      go_enter Try.func40, Try.ntmps40
      go_wp2_with (first | (go_at_call 29; refine (two_parts (num_whole _ _ _) (wholeV_two _ _)).mono ?_; rintro e w' ⟨x, y, rfl, hv, rfl⟩))
      go_ret2
      exact ⟨ret_v (hx.out.symm.trans hv.out.symm), rfl⟩
  · have hr : rng (a.natAbs : Int) = true := by rw [rng_iff] at ha ⊢; omega
    have hx := Lib.hid (show exactV (a.natAbs : Int) = numV a by unfold exactV; rw [if_pos hr, show ((a.natAbs : Nat) : Int) = a by omega])
    clear hr ha
    go_enter Try.func40, Try.ntmps40
    go_wp2
    go_ret2
    exact ⟨ret_v hx.out, rfl⟩
theorem two_min (a b : Int) (w : World) : Calls Try.prog 41 #[.int .i64 a, .int .i64 b] w fun e w' => e = .returned (numV (min a b)) ∧ w = w' := by
  go_enter Try.func41, Try.ntmps41
  go_wp2
  go_ret2
  exact ⟨rfl, rfl⟩
theorem two_max (a b : Int) (w : World) : Calls Try.prog 42 #[.int .i64 a, .int .i64 b] w fun e w' => e = .returned (numV (max a b)) ∧ w = w' := by
  go_enter Try.func42, Try.ntmps42
  go_wp2
  go_ret2
  exact ⟨rfl, rfl⟩
theorem two_less (a b : Int) (w : World) : Calls Try.prog 43 #[.int .i64 a, .int .i64 b] w fun e w' => e = .returned (truthV (decide (a < b))) ∧ w = w' := by
  go_enter Try.func43, Try.ntmps43
  go_wp2
  go_ret2
  exact ⟨rfl, rfl⟩
theorem two_most (a b : Int) (w : World) : Calls Try.prog 44 #[.int .i64 a, .int .i64 b] w fun e w' => e = .returned (truthV (decide (a ≤ b))) ∧ w = w' := by
  go_enter Try.func44, Try.ntmps44
  go_wp2
  go_ret2
  exact ⟨rfl, rfl⟩
end Go.Proofs.Ytcdjnkeomaidaaa
