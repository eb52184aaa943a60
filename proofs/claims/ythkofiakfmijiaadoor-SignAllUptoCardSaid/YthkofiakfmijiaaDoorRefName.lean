/-
  espalierref3.Name: a walk, for every text: the same answer as package sign's. Written by a program of mine (gen_ref.sign.py). Conditions: a text within a row's reach.
-/
import Derived.Test.YthkofiakfmijiaaDoorRefSign
namespace Go.Proofs.YthkofiakfmijiaaDoor
open Go.RowKit
set_option linter.unusedVariables false

theorem name_first {s : ByteArray} (h : 0 < s.size) (hm : (s.size : Int) ≤ 32) (hd : digitR (s[0]'h).toNat = false) : nameB s = s.data.toList.all (fun c => letterR c.toNat || digitR c.toNat) := by
  cases hl : letterR (s[0]'h).toNat
  · have h1 : nameB s = false := madeB_p h hl
    rw [h1, all_notQ (q := fun r => letterR r || digitR r) h (by simp [hl, hd])]
  · exact made_all h hm hl
theorem digit_no {r : Int} (h : digitR r = true) : letterR r = false := by
  unfold digitR at h
  simp only [Bool.and_eq_true, decide_eq_true_eq] at h
  unfold letterR smallR
  have h1 : ¬ 97 ≤ r := by omega
  have h2 : ¬ 65 ≤ r := by omega
  have h3 : (r == 95) = false := by simp; omega
  simp [h1, h2, h3]
set_option maxHeartbeats 4000000 in
theorem ref_Name (s : ByteArray) (w : World) (hs : s.size ≤ 140737488351232) : Calls Tryd.prog 45 #[.string s] w fun e w' => e = .returned (.bool (nameB s)) ∧ w = w' := by
  by_cases h0 : s.size = 0
  · have hx := Lib.hid (show nameB s = false from made_short h0)
    have hd : decide ((s.size : Int) < 1) = true := by simp [h0]
    go_enter Tryd.func45, Tryd.ntmps45
    go_wp2
    go_ret
    exact ⟨by rw [hx.out]; rfl, rfl⟩
  have hpos : 0 < s.size := by omega
  have hd0 : decide ((s.size : Int) < 1) = false := by simp; omega
  by_cases h1 : 32 < s.size
  · have hx := Lib.hid (show nameB s = false from made_long (by omega))
    have hd : decide (32 < (s.size : Int)) = true := by simp; omega
    go_enter Tryd.func45, Tryd.ntmps45
    go_wp2
    go_ret
    exact ⟨by rw [hx.out]; rfl, rfl⟩
  have hd1 : decide (32 < (s.size : Int)) = false := by simp; omega
  cases hp : digitR (s[0]'hpos).toNat
  rotate_left
  · have hx := Lib.hid (show nameB s = false from madeB_p hpos (digit_no hp))
    go_enter Tryd.func45, Tryd.ntmps45
    go_wp2_with fail
    refine (ref_digit _ _).mono ?_
    rintro e w' ⟨rfl, rfl⟩
    rw [hp]
    go_wp2
    go_ret
    exact ⟨by rw [hx.out]; rfl, rfl⟩
  have hw := Lib.hid (name_first hpos (by omega) hp)
  have HP := Lib.hid hp
  clear hp h0
  go_enter Tryd.func45, Tryd.ntmps45
  go_wp2_with fail
  refine (ref_digit _ _).mono ?_
  rintro e w' ⟨rfl, rfl⟩
  rw [HP.out]
  go_wp2
  go_loop [3] (fun i => ∃ k : Nat, k ≤ s.size ∧ i = .int .i64 k ∧ (s.data.toList.take k).all (fun c => letterR c.toNat || digitR c.toNat) = true) (fun i => s.size - (intOf i).toNat)
  case atStart => exact ⟨0, Nat.zero_le _, rfl, rfl⟩
  case round =>
    obtain ⟨k, hk, rfl, hq⟩ := hrel
    have HQ := Lib.hid hq
    clear hq
    by_cases hlt : k < s.size
    · have hlet : Hid (letterR (s[k]'hlt).toNat = (smallR (s[k]'hlt).toNat || (decide (65 ≤ ((s[k]'hlt).toNat : Int)) && decide (((s[k]'hlt).toNat : Int) ≤ 90)) || (((s[k]'hlt).toNat : Int) == 95))) := Lib.hid rfl
      cases ha : smallR (s[k]'hlt).toNat
      · cases hb : digitR (s[k]'hlt).toNat
        · cases he : ((((s[k]'hlt).toNat : Int)) == 95)
          · have he2 : ((((s[k]'hlt).toNat : Int)) != 95) = true := by simp [bne, he]
            by_cases h65 : 65 ≤ (((s[k]'hlt).toNat : Int))
            · have d65 : decide (65 ≤ (((s[k]'hlt).toNat : Int))) = true := by simpa using h65
              by_cases h90 : (((s[k]'hlt).toNat : Int)) ≤ 90
              · have d90 : decide ((((s[k]'hlt).toNat : Int)) ≤ 90) = true := by simpa using h90
                have HN := Lib.hid (take_allQ (q := fun r => letterR r || digitR r) hlt HQ.out (by simp [hlet.out, d65, d90]))
                go_wp2_with fail
                refine (ref_small _ _).mono ?_
                rintro e w' ⟨rfl, rfl⟩
                rw [ha]
                go_wp2_with fail
                refine (ref_digit _ _).mono ?_
                rintro e w' ⟨rfl, rfl⟩
                rw [hb]
                clear ha hb
                go_wp2
                go_round
                case rel => exact ⟨k + 1, by omega, by go_num, HN.out⟩
                case measure => simp [intOf]; omega
              · have d90 : decide ((((s[k]'hlt).toNat : Int)) ≤ 90) = false := by simpa using h90
                have hx := Lib.hid (show nameB s = false by rw [hw.out]; exact all_notQ (q := fun r => letterR r || digitR r) hlt (by simp [hlet.out, ha, hb, he, d65, d90]))
                go_wp2_with fail
                refine (ref_small _ _).mono ?_
                rintro e w' ⟨rfl, rfl⟩
                rw [ha]
                go_wp2_with fail
                refine (ref_digit _ _).mono ?_
                rintro e w' ⟨rfl, rfl⟩
                rw [hb]
                clear ha hb
                go_wp2
                go_ret
                exact ⟨by rw [hx.out]; rfl, rfl⟩
            · have d65 : decide (65 ≤ (((s[k]'hlt).toNat : Int))) = false := by simpa using h65
              have hx := Lib.hid (show nameB s = false by rw [hw.out]; exact all_notQ (q := fun r => letterR r || digitR r) hlt (by simp [hlet.out, ha, hb, he, d65]))
              go_wp2_with fail
              refine (ref_small _ _).mono ?_
              rintro e w' ⟨rfl, rfl⟩
              rw [ha]
              go_wp2_with fail
              refine (ref_digit _ _).mono ?_
              rintro e w' ⟨rfl, rfl⟩
              rw [hb]
              clear ha hb
              go_wp2
              go_ret
              exact ⟨by rw [hx.out]; rfl, rfl⟩
          · have he2 : ((((s[k]'hlt).toNat : Int)) != 95) = false := by simp [bne, he]
            have HN := Lib.hid (take_allQ (q := fun r => letterR r || digitR r) hlt HQ.out (by simp [hlet.out, he]))
            go_wp2_with fail
            refine (ref_small _ _).mono ?_
            rintro e w' ⟨rfl, rfl⟩
            rw [ha]
            go_wp2_with fail
            refine (ref_digit _ _).mono ?_
            rintro e w' ⟨rfl, rfl⟩
            rw [hb]
            clear ha hb
            go_wp2
            go_round
            case rel => exact ⟨k + 1, by omega, by go_num, HN.out⟩
            case measure => simp [intOf]; omega
        · have HN := Lib.hid (take_allQ (q := fun r => letterR r || digitR r) hlt HQ.out (by simp [hlet.out, hb]))
          go_wp2_with fail
          refine (ref_small _ _).mono ?_
          rintro e w' ⟨rfl, rfl⟩
          rw [ha]
          go_wp2_with fail
          refine (ref_digit _ _).mono ?_
          rintro e w' ⟨rfl, rfl⟩
          rw [hb]
          clear ha hb
          go_wp2
          go_round
          case rel => exact ⟨k + 1, by omega, by go_num, HN.out⟩
          case measure => simp [intOf]; omega
      · have HN := Lib.hid (take_allQ (q := fun r => letterR r || digitR r) hlt HQ.out (by simp [hlet.out, ha]))
        go_wp2_with fail
        refine (ref_small _ _).mono ?_
        rintro e w' ⟨rfl, rfl⟩
        rw [ha]
        clear ha
        go_wp2
        go_round
        case rel => exact ⟨k + 1, by omega, by go_num, HN.out⟩
        case measure => simp [intOf]; omega
    · have hx := Lib.hid (show nameB s = true by rw [hw.out]; have := HQ.out; rwa [List.take_of_length_le (by simp; omega)] at this)
      go_wp2
      go_ret
      exact ⟨by rw [hx.out]; rfl, rfl⟩
end Go.Proofs.YthkofiakfmijiaaDoor
