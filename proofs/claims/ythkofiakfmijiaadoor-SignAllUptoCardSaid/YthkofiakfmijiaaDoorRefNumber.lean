/-
  espalierref3.Number, Use: walks, for every text: the same answers as package sign's. Conditions: a text within a row's reach.
-/
import Derived.Test.YthkofiakfmijiaaDoorRefName
namespace Go.Proofs.YthkofiakfmijiaaDoor
open Go.RowKit
set_option linter.unusedVariables false

def numV (l : List UInt8) : Int := match numL l with
  | some n => (n : Int)
  | none => -1
theorem numV_none {l : List UInt8} (h : numL l = none) : numV l = -1 := by unfold numV; rw [h]
theorem numV_some {l : List UInt8} {n : Nat} (h : numL l = some n) : numV l = n := by unfold numV; rw [h]
set_option maxHeartbeats 2000000 in
theorem ref_Number (s : ByteArray) (w : World) (hs : s.size ≤ 140737488351232) : Calls Tryd.prog 53 #[.string s] w fun e w' => e = .returned (.int .i64 (numV s.data.toList)) ∧ w = w' := by
  have hsl : Hid (s.data.toList.length = s.size) := Lib.hid (by rw [Lib.size_eq])
  by_cases h0 : s.size = 0
  · have hx := Lib.hid (numV_none (l := s.data.toList) (by unfold numL; rw [if_pos (.inl (List.length_eq_zero_iff.1 (by rw [hsl.out, h0])))]))
    have hd : decide ((s.size : Int) < 1) = true := by simp [h0]
    go_enter Tryd.func53, Tryd.ntmps53
    go_wp2
    go_ret
    exact ⟨by rw [hx.out]; rfl, rfl⟩
  have hpos : 0 < s.size := by omega
  have hd0 : decide ((s.size : Int) < 1) = false := by simp; omega
  by_cases h1 : 4 < s.size
  · have hx := Lib.hid (numV_none (l := s.data.toList) (by unfold numL; rw [if_pos (.inr (.inl (by rw [hsl.out]; exact h1)))]))
    have hd : decide (4 < (s.size : Int)) = true := by simp; omega
    go_enter Tryd.func53, Tryd.ntmps53
    go_wp2
    go_ret
    exact ⟨by rw [hx.out]; rfl, rfl⟩
  have hd1 : decide (4 < (s.size : Int)) = false := by simp; omega
  have hhd : Hid (s.data.toList.head? = some (s[0]'hpos)) := Lib.hid (by rw [List.head?_eq_getElem?, List.getElem?_eq_getElem (by simpa using hpos)]; rfl)
  by_cases hz : ((s[0]'hpos).toNat : Int) = 48 ∧ 1 < s.size
  · obtain ⟨hz1, hz2⟩ := hz
    have hx := Lib.hid (numV_none (l := s.data.toList) (by
      unfold numL
      rw [if_pos (.inr (.inr ⟨by rw [hhd.out]; exact congrArg some (UInt8.toNat_inj.1 (by have : (48 : UInt8).toNat = 48 := rfl; omega)), fun e => by
        have := hsl.out
        rw [e] at this
        simp at this
        omega⟩))]))
    have hb : (((s[0]'hpos).toNat : Int) == 48) = true := by simpa using hz1
    have hd2 : decide (1 < (s.size : Int)) = true := by simp; omega
    go_enter Tryd.func53, Tryd.ntmps53
    go_wp2
    go_ret
    exact ⟨by rw [hx.out]; rfl, rfl⟩
  have hfirst : Hid (¬ (s.data.toList = [] ∨ 4 < s.data.toList.length ∨ (s.data.toList.head? = some 48 ∧ s.data.toList ≠ [48]))) := Lib.hid (by
    rintro (e | e | ⟨e1, e2⟩)
    · have := hsl.out
      rw [e] at this
      simp at this
      omega
    · rw [hsl.out] at e; omega
    · rw [hhd.out] at e1
      have h48 : s[0]'hpos = 48 := by simpa using e1
      refine hz ⟨by rw [h48]; rfl, ?_⟩
      rcases Nat.lt_or_ge 1 s.size with h | h
      · exact h
      · exfalso
        apply e2
        have hl1 : s.data.toList.length = 1 := by rw [hsl.out]; omega
        obtain ⟨x, hx⟩ := List.length_eq_one_iff.1 hl1
        rw [hx]
        have := hhd.out
        rw [hx] at this
        simp at this
        rw [this, h48])
  have hnum : Hid (s.data.toList.all digB = true → numV s.data.toList = (digVal s.data.toList : Nat)) := Lib.hid (fun h => numV_some (by unfold numL; rw [if_neg hfirst.out, if_pos h]))
  have hnot : Hid (s.data.toList.all digB = false → numV s.data.toList = -1) := Lib.hid (fun h => numV_none (by unfold numL; rw [if_neg hfirst.out, if_neg (by rw [h]; simp)]))
  have hbnd : Hid (∀ pos, pos ≤ s.size → (s.data.toList.take pos).all digB = true → digVal (s.data.toList.take pos) < 10000) := Lib.hid (fun pos hp ha => by
    have := digVal_lt _ _ rfl ha
    have h2 : (s.data.toList.take pos).length ≤ 4 := by simp; omega
    have h5 : 10 ^ (s.data.toList.take pos).length ≤ 10 ^ 4 := Nat.pow_le_pow_right (by decide) h2
    omega)
  have hparts : Hid ((((s[0]'hpos).toNat : Int) == 48) = false ∨ ((((s[0]'hpos).toNat : Int) == 48) = true ∧ decide (1 < (s.size : Int)) = false)) := Lib.hid (by
    cases h : (((s[0]'hpos).toNat : Int) == 48)
    · exact .inl rfl
    · refine .inr ⟨rfl, ?_⟩
      have : ¬ 1 < s.size := fun hh => hz ⟨by simpa using h, hh⟩
      simp; omega)
  clear hz hhd h0
  rcases hparts.out with hp | ⟨hp, hq⟩
  all_goals
    go_enter Tryd.func53, Tryd.ntmps53
    go_wp2
    go_loop [3, 4] (fun n i => ∃ k : Nat, k ≤ s.size ∧ i = .int .i64 k ∧ n = .int .i64 (digVal (s.data.toList.take k) : Nat) ∧ (s.data.toList.take k).all digB = true) (fun n i => s.size - (intOf i).toNat)
    case atStart => exact ⟨0, Nat.zero_le _, rfl, rfl, rfl⟩
    case round =>
      obtain ⟨k, hk, rfl, rfl, hq⟩ := hrel
      have HQ := Lib.hid hq
      clear hq
      have hlt0 := hbnd.out k hk HQ.out
      by_cases hlt : k < s.size
      · have htk := Lib.hid (take_at hlt)
        cases hd : digB (s[k]'hlt)
        · have hx := Lib.hid (hnot.out (by rw [List.all_eq_false]; exact ⟨s[k]'hlt, List.getElem_mem (l := s.data.toList) (by simpa using hlt), by rw [hd]; simp⟩))
          have hdr : digitR ((s[k]'hlt).toNat : Int) = false := by rw [digitR_B, hd]
          go_wp2_with fail
          refine (ref_digit _ _).mono ?_
          rintro e w' ⟨rfl, rfl⟩
          rw [hdr]
          clear hdr hd
          go_wp2
          go_ret
          exact ⟨by rw [hx.out]; rfl, rfl⟩
        · have hdr : digitR ((s[k]'hlt).toNat : Int) = true := by rw [digitR_B, hd]
          have hc : 48 ≤ (s[k]'hlt).toNat ∧ (s[k]'hlt).toNat ≤ 57 := by simpa [digB] using hd
          have hc1 : 48 ≤ ((s[k]'hlt).toNat : Int) := by omega
          have hc2 : ((s[k]'hlt).toNat : Int) ≤ 57 := by omega
          have hv0 : 0 ≤ (digVal (s.data.toList.take k) : Int) := by omega
          have hv1 : (digVal (s.data.toList.take k) : Int) < 10000 := by omega
          have hnx := Lib.hid (show ((digVal (s.data.toList.take (k + 1)) : Nat) : Int) = 10 * (digVal (s.data.toList.take k) : Nat) + (((s[k]'hlt).toNat : Int) - 48) by
            rw [htk.out, digVal_snoc]; omega)
          have hal := Lib.hid (show (s.data.toList.take (k + 1)).all digB = true by
            rw [htk.out, List.all_append, HQ.out, List.all_cons, hd]; rfl)
          clear hc hlt0 hd
          go_wp2_with fail
          refine (ref_digit _ _).mono ?_
          rintro e w' ⟨rfl, rfl⟩
          rw [hdr]
          clear hdr
          go_wp2
          go_round
          case rel => exact ⟨k + 1, by omega, by go_num, by rw [hnx.out], hal.out⟩
          case measure => simp [intOf]; omega
      · obtain rfl : k = s.size := by omega
        have ht := Lib.hid (show s.data.toList.take s.size = s.data.toList by rw [List.take_of_length_le (by simp)])
        have hx := Lib.hid (hnum.out (by rw [← ht.out]; exact HQ.out))
        rw [ht.out]
        clear hlt0
        go_wp2
        go_ret
        exact ⟨by rw [hx.out]; rfl, rfl⟩
theorem useB_num (s : ByteArray) : useB s = (nameB s || (decide (1 ≤ numV s.data.toList) && decide (numV s.data.toList ≤ 64))) := by
  unfold useB numV
  congr 1
  cases numL s.data.toList with
  | none => rfl
  | some n => simp only; congr 1 <;> rw [decide_eq_decide] <;> omega
theorem ref_Use (s : ByteArray) (w : World) (hs : s.size ≤ 140737488351232) : Calls Tryd.prog 46 #[.string s] w fun e w' => e = .returned (.bool (useB s)) ∧ w = w' := by
  have KN := Lib.hid (ref_Number s w hs)
  have KM := Lib.hid (ref_Name s w hs)
  have hu := Lib.hid (useB_num s)
  generalize numV s.data.toList = n at *
  cases hn : nameB s
  · by_cases h1 : 1 ≤ n
    · have hd : decide (1 ≤ n) = true := by simpa using h1
      have hx := Lib.hid (show useB s = decide (n ≤ 64) by rw [hu.out, hn, hd]; simp)
      go_enter Tryd.func46, Tryd.ntmps46
      go_wp2_with fail
      refine KN.out.mono ?_
      rintro e w' ⟨rfl, rfl⟩
      go_wp2_with fail
      refine KM.out.mono ?_
      rintro e w' ⟨rfl, rfl⟩
      rw [hn]
      go_wp2
      go_ret
      exact ⟨by rw [hx.out]; rfl, rfl⟩
    · have hd : decide (1 ≤ n) = false := by simpa using h1
      have hx := Lib.hid (show useB s = false by rw [hu.out, hn, hd]; simp)
      go_enter Tryd.func46, Tryd.ntmps46
      go_wp2_with fail
      refine KN.out.mono ?_
      rintro e w' ⟨rfl, rfl⟩
      go_wp2_with fail
      refine KM.out.mono ?_
      rintro e w' ⟨rfl, rfl⟩
      rw [hn]
      go_wp2
      go_ret
      exact ⟨by rw [hx.out]; rfl, rfl⟩
  · have hx := Lib.hid (show useB s = true by rw [hu.out, hn]; simp)
    go_enter Tryd.func46, Tryd.ntmps46
    go_wp2_with fail
    refine KN.out.mono ?_
    rintro e w' ⟨rfl, rfl⟩
    go_wp2_with fail
    refine KM.out.mono ?_
    rintro e w' ⟨rfl, rfl⟩
    rw [hn]
    go_wp2
    go_ret
    exact ⟨by rw [hx.out]; rfl, rfl⟩
end Go.Proofs.YthkofiakfmijiaaDoor
