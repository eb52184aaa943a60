/-
  espalierlaw8.NumProducts: a walk. Conditions: the numbers are int64s, the exponent a uint8.
-/
import Derived.Test.YtcdjnkeomaidaaaNumProdA
import Derived.Deep.Cut
import Derived.Deep.CutRange
namespace Go.Proofs.Ytcdjnkeomaidaaa
open Go.RowKit
set_option linter.unusedVariables false

set_option maxRecDepth 100000 in
set_option maxHeartbeats 4000000 in
theorem law_products (a b : Int) (n : Nat) (ha : rng a = true) (hb : rng b = true) (hn : n < 256) (w : World) : Calls Try.prog 4 #[.int .i64 a, .int .i64 b, .int .u8 (n : Int)] w (Bel (.bool true) w) := by
  have HB : Hid (Below w.heap.size w w) := Below.refl _ _
  obtain ⟨p, ee, hm, hf⟩ := law_prod a b ha hb
  have HM := Lib.hid hm
  have HF := Lib.hid hf
  have HA := Lib.hid ha
  have HBB := Lib.hid hb
  clear hm hf ha hb
  go_enter Try.func4, Try.ntmps4
  go_wp2_with fail
  refine (law_begun _).mono ?_
  rintro e w1 ⟨rfl, hb⟩
  have HB := Lib.hid (HB.out.trans (hb.mono HB.out.size))
  clear hb
  go_wp2_with fail
  refine (HM.out _).mono ?_
  rintro e w2 ⟨rfl, hb⟩
  have HB := Lib.hid (HB.out.trans (hb.mono HB.out.size))
  clear hb
  go_wp2_with fail
  refine (law_size a HA.out _).mono ?_
  rintro e w' ⟨rfl, rfl⟩
  go_wp2_with fail
  refine (law_size b HBB.out _).mono ?_
  rintro e w' ⟨rfl, rfl⟩
  go_wp2_with fail
  refine (law_mul64 a b HA.out HBB.out _).mono ?_
  rintro e w' ⟨hi, lo, rfl, hl, rfl⟩
  have hF := Lib.hid (HF.out hi lo hl.out.1 hl.out.2.1 hl.out.2.2.1 hl.out.2.2.2)
  clear hl
  obtain ⟨s, hs, hF2⟩ := hF.out
  have HF2 := Lib.hid hF2
  clear hF2 hF
  go_upto_if 40 with fail
  go_cut [11] from 36 to 42 (fun s11 wx => s11 = .int .u64 (if s then 9223372036854775808 else 9223372036854775807) ∧ wx = w2)
  case first =>
    cases s
    · go_wp2
      go_meet
      case rel => exact ⟨rfl, rfl⟩
    · go_wp2
      go_meet
      case rel => exact ⟨rfl, rfl⟩
  case rest =>
    obtain ⟨rfl, rfl⟩ := hcut
    go_upto_region 8 with fail
    go_cut [49] from 43 to 49 (fun s49 wx => s49 = .bool (decide (ee = 21)) ∧ wx = wc)
    case first =>
      cases s
      all_goals
        simp only [if_true, if_false, Bool.false_eq_true] at HF2 ⊢
        rcases HF2.out with ⟨rfl, h1 | ⟨h1, h2⟩⟩ | ⟨rfl, hp, h1, h2, h3, h4⟩
        · go_wp2
          go_meet
          case rel => exact ⟨rfl, rfl⟩
        · go_wp2
          go_meet
          case rel => exact ⟨rfl, rfl⟩
        · go_wp2
          go_meet
          case rel => exact ⟨rfl, rfl⟩
    case rest =>
      obtain ⟨rfl, rfl⟩ := hcut
      go_upto_if 49 with fail
      go_cut [11] from 43 to 73 (fun s11 wx => Below w.heap.size w wx)
      case first =>
        cases s
        all_goals
          simp only [if_true, if_false, Bool.false_eq_true] at HF2 ⊢
          rcases HF2.out with ⟨rfl, h1⟩ | ⟨rfl, hp, h1, h2, h3, h4⟩
          · clear h1
            go_wp2
            go_meet
            case rel => exact HB.out
          · clear h1 h2
            have HP := Lib.hid hp
            have h3' : (p.natAbs : Int) = lo := by simpa using h3
            subst h3'
            clear hp h3
            rcases h4 with h4 | ⟨h4, h5⟩
            · go_wp2_with fail
              refine (law_size p HP.out _).mono ?_
              rintro e w' ⟨rfl, rfl⟩
              go_wp2
              go_meet
              case rel => exact HB.out
            · simp only [Bool.not_eq_false', beq_iff_eq] at h5
              go_wp2_with fail
              refine (law_size p HP.out _).mono ?_
              rintro e w' ⟨rfl, rfl⟩
              go_wp2
              go_meet
              case rel => exact HB.out
      case rest =>
        have HC := Lib.hid hcut
        clear HF2 HF HM HB hs hcut
        have hn1 : (0 : Int) ≤ n := by omega
        have hn2 : (n : Int) ≤ 255 := by omega
        go_wp2
        have hrn : rng (n : Int) = true := by rw [rng_iff]; omega
        go_loopw [12, 13, 14] (fun s12 s13 s14 wr => ∃ (k : Nat) (X : Int) (o : Bool), k ≤ n ∧ s14 = .int .i64 (k : Int) ∧ s13 = .bool o ∧ s12 = .int .i64 X ∧ ((o = false ∧ X = a ^ k ∧ rng X = true) ∨ (o = true ∧ rng (a ^ n) = false)) ∧ Below w.heap.size w wr) (fun _ _ s14 _ => n - (intOf s14).toNat)
        case atStart => exact ⟨0, 1, false, Nat.zero_le _, rfl, rfl, rfl, .inl ⟨rfl, by simp, by decide⟩, HC.out⟩
        case round =>
          obtain ⟨k, X, o, hk, rfl, rfl, rfl, hX, hbel⟩ := hrel
          have HB := Lib.hid hbel
          clear hbel HC
          rcases hX with ⟨rfl, hX, hr⟩ | ⟨rfl, hr⟩
          · have HX := Lib.hid hX
            have HR := Lib.hid hr
            clear hX hr
            by_cases hlt : k < n
            · cases hm : rng (X * a)
              · have HMM := Lib.hid hm
                clear hm
                go_wp2_with fail
                refine (w_mul_over HR.out HA.out HMM.out _).mono ?_
                rintro e w' ⟨rfl, hb⟩
                have HB := Lib.hid (HB.out.trans (hb.mono HB.out.size))
                clear hb
                go_wp2
                go_roundw
                case rel => exact ⟨k + 1, 0, true, by omega, by go_num, rfl, rfl, .inr ⟨rfl, pow_over (k := k) (by rw [← HX.out]; exact HR.out) (by rw [Int.pow_succ, ← HX.out]; exact HMM.out) (by omega)⟩, HB.out⟩
                case measure => simp [intOf]; omega
              · have HMM := Lib.hid hm
                clear hm
                go_wp2_with fail
                refine (w_mul_in HR.out HA.out HMM.out _).mono ?_
                rintro e w' ⟨rfl, hb⟩
                have HB := Lib.hid (HB.out.trans (hb.mono HB.out.size))
                clear hb
                go_wp2
                go_roundw
                case rel => exact ⟨k + 1, X * a, false, by omega, by go_num, rfl, rfl, .inl ⟨rfl, by rw [Int.pow_succ, ← HX.out], HMM.out⟩, HB.out⟩
                case measure => simp [intOf]; omega
            · have HKE : Hid (k = n) := (by omega : k = n)
              have HP : Hid (X = a ^ (n : Int).toNat) := by show X = _; rw [HX.out, HKE.out, Int.toNat_natCast]
              have hpw := Lib.hid (fun w => w_pow_in HA.out hrn hn1 (by rw [← HP.out]; exact HR.out) w)
              rw [← HP.out] at hpw
              go_wp2_with fail
              refine (hpw.out _).mono ?_
              rintro e w' ⟨rfl, hb⟩
              have HB := Lib.hid (HB.out.trans (hb.mono HB.out.size))
              clear hb
              go_wp2
              go_ret
              exact ⟨rfl, HB.out⟩
          · have HR := Lib.hid hr
            clear hr
            have hpw := Lib.hid (fun w => w_pow_over HA.out hrn hn1 (by rw [Int.toNat_natCast]; exact HR.out) w)
            by_cases hlt : k < n
            · go_wp2_with fail
              refine (hpw.out _).mono ?_
              rintro e w' ⟨rfl, hb⟩
              have HB := Lib.hid (HB.out.trans (hb.mono HB.out.size))
              clear hb
              go_wp2
              go_ret
              exact ⟨rfl, HB.out⟩
            · go_wp2_with fail
              refine (hpw.out _).mono ?_
              rintro e w' ⟨rfl, hb⟩
              have HB := Lib.hid (HB.out.trans (hb.mono HB.out.size))
              clear hb
              go_wp2
              go_ret
              exact ⟨rfl, HB.out⟩
end Go.Proofs.Ytcdjnkeomaidaaa
