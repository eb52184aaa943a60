/-
  espalierref3.small, digit, Word, Name, Number, Use: walks, for every text: the same answers as package sign's. Conditions: a text within a row's reach.
-/
import Derived.Test.YthkofiakfmijiaaDoorSgParts
namespace Go.Proofs.YthkofiakfmijiaaDoor
open Go.RowKit
set_option linter.unusedVariables false

theorem ref_small (r : Int) (w : World) : Calls Tryd.prog 60 #[.int .u8 r] w fun e w' => e = .returned (.bool (smallR r)) ∧ w = w' := by
  by_cases h : 97 ≤ r
  · have hx := Lib.hid (show smallR r = decide (r ≤ 122) by simp [smallR, h])
    go_enter Tryd.func60, Tryd.ntmps60
    go_wp2
    go_ret
    exact ⟨by rw [hx.out]; rfl, rfl⟩
  · have hx := Lib.hid (show smallR r = false by simp [smallR, h])
    have hd : decide (97 ≤ r) = false := by simpa using h
    go_enter Tryd.func60, Tryd.ntmps60
    go_wp2
    go_ret
    exact ⟨by rw [hx.out]; rfl, rfl⟩
theorem ref_digit (r : Int) (w : World) : Calls Tryd.prog 61 #[.int .u8 r] w fun e w' => e = .returned (.bool (digitR r)) ∧ w = w' := by
  by_cases h : 48 ≤ r
  · have hx := Lib.hid (show digitR r = decide (r ≤ 57) by simp [digitR, h])
    go_enter Tryd.func61, Tryd.ntmps61
    go_wp2
    go_ret
    exact ⟨by rw [hx.out]; rfl, rfl⟩
  · have hx := Lib.hid (show digitR r = false by simp [digitR, h])
    have hd : decide (48 ≤ r) = false := by simpa using h
    go_enter Tryd.func61, Tryd.ntmps61
    go_wp2
    go_ret
    exact ⟨by rw [hx.out]; rfl, rfl⟩
theorem take_at {s : ByteArray} {k : Nat} (h : k < s.size) : s.data.toList.take (k + 1) = s.data.toList.take k ++ [s[k]'h] := by
  rw [List.take_succ_eq_append_getElem (by simpa using h)]; rfl
theorem take_allQ {s : ByteArray} {k : Nat} (h : k < s.size) {q : Int → Bool} (hq : (s.data.toList.take k).all (fun c => q c.toNat) = true) (hc : q (s[k]'h).toNat = true) : (s.data.toList.take (k + 1)).all (fun c => q c.toNat) = true := by
  rw [take_at h, List.all_append, hq, List.all_cons, hc]; rfl
theorem all_notQ {s : ByteArray} {k : Nat} (h : k < s.size) {q : Int → Bool} (hc : q (s[k]'h).toNat = false) : s.data.toList.all (fun c => q c.toNat) = false := by
  rw [List.all_eq_false]
  exact ⟨s[k]'h, List.getElem_mem (l := s.data.toList) (by simpa using h), by rw [hc]; simp⟩
theorem made_all {s : ByteArray} {most : Int} {p q : Int → Bool} (h : 0 < s.size) (hm : (s.size : Int) ≤ most) (hp : p (s[0]'h).toNat = true) : madeB s most p q = s.data.toList.all (fun c => q c.toNat) := by
  simp only [madeB, head_at h, hp, Bool.and_true]
  have h3 : s.size ≠ 0 := by omega
  simp [h3, hm]
theorem made_long {s : ByteArray} {most : Int} {p q : Int → Bool} (h : ¬ (s.size : Int) ≤ most) : madeB s most p q = false := by simp [madeB, h]
theorem made_short {s : ByteArray} {most : Int} {p q : Int → Bool} (h : s.size = 0) : madeB s most p q = false := by simp [madeB, h]
set_option maxHeartbeats 1000000 in
theorem ref_Word (s : ByteArray) (w : World) (hs : s.size ≤ 140737488351232) : Calls Tryd.prog 44 #[.string s] w fun e w' => e = .returned (.bool (wordB s)) ∧ w = w' := by
  by_cases h0 : s.size = 0
  · have hx := Lib.hid (show wordB s = false from made_short h0)
    have hd : decide ((s.size : Int) < 1) = true := by simp [h0]
    go_enter Tryd.func44, Tryd.ntmps44
    go_wp2
    go_ret
    exact ⟨by rw [hx.out]; rfl, rfl⟩
  have hpos : 0 < s.size := by omega
  have hd0 : decide ((s.size : Int) < 1) = false := by simp; omega
  by_cases h1 : 16 < s.size
  · have hx := Lib.hid (show wordB s = false from made_long (by omega))
    have hd : decide (16 < (s.size : Int)) = true := by simp; omega
    go_enter Tryd.func44, Tryd.ntmps44
    go_wp2
    go_ret
    exact ⟨by rw [hx.out]; rfl, rfl⟩
  have hd1 : decide (16 < (s.size : Int)) = false := by simp; omega
  cases hp : smallR (s[0]'hpos).toNat
  · have hx := Lib.hid (show wordB s = false from madeB_p hpos hp)
    go_enter Tryd.func44, Tryd.ntmps44
    go_wp2_with fail
    refine (ref_small _ _).mono ?_
    rintro e w' ⟨rfl, rfl⟩
    rw [hp]
    go_wp2
    go_ret
    exact ⟨by rw [hx.out]; rfl, rfl⟩
  have hw := Lib.hid (show wordB s = s.data.toList.all (fun c => smallR c.toNat || digitR c.toNat) from made_all hpos (by omega) hp)
  have HP := Lib.hid hp
  clear hp h0
  go_enter Tryd.func44, Tryd.ntmps44
  go_wp2_with fail
  refine (ref_small _ _).mono ?_
  rintro e w' ⟨rfl, rfl⟩
  rw [HP.out]
  go_wp2
  go_loop [3] (fun i => ∃ k : Nat, k ≤ s.size ∧ i = .int .i64 k ∧ (s.data.toList.take k).all (fun c => smallR c.toNat || digitR c.toNat) = true) (fun i => s.size - (intOf i).toNat)
  case atStart => exact ⟨0, Nat.zero_le _, rfl, rfl⟩
  case round =>
    obtain ⟨k, hk, rfl, hq⟩ := hrel
    have HQ := Lib.hid hq
    clear hq
    by_cases hlt : k < s.size
    · cases ha : smallR (s[k]'hlt).toNat
      · cases hb : digitR (s[k]'hlt).toNat
        · have hx := Lib.hid (show wordB s = false by rw [hw.out]; exact all_notQ (q := fun r => smallR r || digitR r) hlt (by simp [ha, hb]))
          go_wp2_with fail
          refine (ref_small _ _).mono ?_
          rintro e w' ⟨rfl, rfl⟩
          rw [ha]
          go_wp2_with fail
          refine (ref_digit _ _).mono ?_
          rintro e w' ⟨rfl, rfl⟩
          rw [hb]
          clear ha hb
          go_wp2
          go_ret
          exact ⟨by rw [hx.out]; rfl, rfl⟩
        · have HN := Lib.hid (take_allQ (q := fun r => smallR r || digitR r) hlt HQ.out (by simp [hb]))
          go_wp2_with fail
          refine (ref_small _ _).mono ?_
          rintro e w' ⟨rfl, rfl⟩
          rw [ha]
          go_wp2_with fail
          refine (ref_digit _ _).mono ?_
          rintro e w' ⟨rfl, rfl⟩
          rw [hb]
          clear ha hb
          go_wp2
          go_round
          case rel => exact ⟨k + 1, by omega, by go_num, HN.out⟩
          case measure => simp [intOf]; omega
      · have HN := Lib.hid (take_allQ (q := fun r => smallR r || digitR r) hlt HQ.out (by simp [ha]))
        go_wp2_with fail
        refine (ref_small _ _).mono ?_
        rintro e w' ⟨rfl, rfl⟩
        rw [ha]
        clear ha
        go_wp2
        go_round
        case rel => exact ⟨k + 1, by omega, by go_num, HN.out⟩
        case measure => simp [intOf]; omega
    · have hx := Lib.hid (show wordB s = true by rw [hw.out]; have := HQ.out; rwa [List.take_of_length_le (by simp; omega)] at this)
      go_wp2
      go_ret
      exact ⟨by rw [hx.out]; rfl, rfl⟩
end Go.Proofs.YthkofiakfmijiaaDoor
