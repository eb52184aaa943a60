/-
  sign.number, sign.Use: walks, for every text. Conditions: a text within a row's reach.
-/
import Derived.Test.YthkofiakfmijiaaDoorSignName
namespace Go.Proofs.YthkofiakfmijiaaDoor
open Go.RowKit
set_option linter.unusedVariables false

def numT (l : List UInt8) : Value := match numL l with
  | some n => .tuple #[.int .i64 (n : Int), .bool true]
  | none => .tuple #[.int .i64 0, .bool false]
theorem numT_none {l : List UInt8} (h : numL l = none) : numT l = .tuple #[.int .i64 0, .bool false] := by unfold numT; rw [h]
theorem numT_some {l : List UInt8} {n : Nat} (h : numL l = some n) : numT l = .tuple #[.int .i64 (n : Int), .bool true] := by unfold numT; rw [h]
theorem digitR_B (c : UInt8) : digitR c.toNat = digB c := by
  unfold digitR digB
  congr 1 <;> rw [decide_eq_decide] <;> omega

set_option maxHeartbeats 2000000 in
theorem sign_number (s : ByteArray) (w : World) (hs : s.size ≤ 140737488351232) :
    Calls Tryd.prog 41 #[.string s] w (Bel (numT s.data.toList) w) := by
  have hdl : Hid (s.toList = s.data.toList) := Lib.hid (Lib.toList_data s)
  by_cases h0 : s.toList = []
  · have hx := Lib.hid (numT_none (l := s.data.toList) (by unfold numL; rw [if_pos (.inl (by rw [← hdl.out]; exact h0))]))
    go_enter Tryd.func41, Tryd.ntmps41
    go_wp2
    go_ret2
    exact ⟨by rw [hx.out]; rfl, Below.refl _ _⟩
  have h0b : s.toList.isEmpty = false := by simpa using h0
  have hpos : 0 < s.size := by
    rcases Nat.eq_zero_or_pos s.size with h | h
    · exact absurd (by rw [hdl.out, ← List.length_eq_zero_iff]; simpa using h) h0
    · exact h
  by_cases h1 : 4 < s.size
  · have hx := Lib.hid (numT_none (l := s.data.toList) (by unfold numL; rw [if_pos (.inr (.inl (by simpa using h1)))]))
    have h1d : decide (4 < (s.size : Int)) = true := by simp; omega
    go_enter Tryd.func41, Tryd.ntmps41
    go_wp2
    go_ret2
    exact ⟨by rw [hx.out]; rfl, Below.refl _ _⟩
  have h1d : decide (4 < (s.size : Int)) = false := by simp; omega
  have hhd : Hid (s.data.toList.head? = some (s[0]'hpos)) := Lib.hid (by rw [List.head?_eq_getElem?, List.getElem?_eq_getElem (by simpa using hpos)]; rfl)
  have hd0 : Hid (∀ pos, pos < s.size → s.data.toList.take (pos + 1) = s.data.toList.take pos ++ [s[pos]!]) := Lib.hid (fun pos h => by
    rw [List.take_succ_eq_append_getElem (by simpa using h), getElem!_pos s pos h]; rfl)
  by_cases hz : ((s[0]'hpos).toNat : Int) = 48 ∧ (s.toList == [48]) = false
  · obtain ⟨hz1, hz2⟩ := hz
    have hx := Lib.hid (numT_none (l := s.data.toList) (by
      unfold numL
      rw [if_pos (.inr (.inr ⟨by rw [hhd.out]; exact congrArg some (UInt8.toNat_inj.1 (by have : (48 : UInt8).toNat = 48 := rfl; omega)), fun e => by rw [hdl.out, e] at hz2; cases hz2⟩))]))
    go_enter Tryd.func41, Tryd.ntmps41
    go_wp2
    go_ret2
    exact ⟨by rw [hx.out]; rfl, Below.refl _ _⟩
  have hfirst : Hid (¬ (s.data.toList = [] ∨ 4 < s.data.toList.length ∨ (s.data.toList.head? = some 48 ∧ s.data.toList ≠ [48]))) := Lib.hid (by
    rintro (e | e | ⟨e1, e2⟩)
    · exact h0 (by rw [hdl.out]; exact e)
    · simp at e; omega
    · refine hz ⟨?_, ?_⟩
      · rw [hhd.out] at e1
        have : s[0]'hpos = 48 := by simpa using e1
        rw [this]; rfl
      · rw [hdl.out]; exact beq_eq_false_iff_ne.2 e2)
  have hnum : Hid (s.data.toList.all digB = true → numT s.data.toList = .tuple #[.int .i64 (digVal s.data.toList : Nat), .bool true]) := Lib.hid (fun h => numT_some (by unfold numL; rw [if_neg hfirst.out, if_pos h]))
  have hnot : Hid (s.data.toList.all digB = false → numT s.data.toList = .tuple #[.int .i64 0, .bool false]) := Lib.hid (fun h => numT_none (by unfold numL; rw [if_neg hfirst.out, if_neg (by rw [h]; simp)]))
  have hbnd : Hid (∀ pos, pos ≤ s.size → (s.data.toList.take pos).all digB = true → digVal (s.data.toList.take pos) < 10000) := Lib.hid (fun pos hp ha => by
    have := digVal_lt _ _ rfl ha
    have h2 : (s.data.toList.take pos).length ≤ 4 := by simp; omega
    have h5 : 10 ^ (s.data.toList.take pos).length ≤ 10 ^ 4 := Nat.pow_le_pow_right (by decide) h2
    omega)
  have hbel : Hid (∀ n, Below w.heap.size w (w.iter s n)) := fun n => (Below.refl _ _).alloc (Nat.le_refl _) _
  have hparts : (((s[0]'hpos).toNat : Int) == 48) = false ∨ ((((s[0]'hpos).toNat : Int) == 48) = true ∧ (s.toList == [48]) = true) := by
    cases h : (((s[0]'hpos).toNat : Int) == 48)
    · exact .inl rfl
    · refine .inr ⟨rfl, ?_⟩
      cases h2 : (s.toList == [48])
      · exact absurd ⟨by simpa using h, h2⟩ hz
      · rfl
  clear hz hdl hhd
  have HP := Lib.hid hparts
  clear hparts
  rcases HP.out with hp | ⟨hp, hq⟩
  all_goals
    go_enter Tryd.func41, Tryd.ntmps41
    go_wp2_with fail
    go_loopw [4] (fun n wr => ∃ pos : Nat, pos ≤ s.size ∧ wr = w.iter s pos ∧ n = .int .i64 (digVal (s.data.toList.take pos) : Nat) ∧ (s.data.toList.take pos).all digB = true) (fun _ wr => s.size - wr.iterPos w.heap.size)
    case atStart => exact ⟨0, Nat.zero_le _, rfl, rfl, rfl⟩
    case round =>
      obtain ⟨pos, hp, rfl, rfl, hq⟩ := hrel
      have HQ := Lib.hid hq
      clear hq
      have hlt0 := hbnd.out pos hp HQ.out
      by_cases hlt : pos < s.size
      · have hnext := run_next_any (P := Tryd.prog) w s pos 0 hlt
        have htk := Lib.hid (hd0.out pos hlt)
        have hmem : Hid (s[pos]'hlt ∈ s.data.toList) := Lib.hid (List.getElem_mem (l := s.data.toList) (by simpa using hlt))
        by_cases hasc : (s[pos]'hlt).toNat < 128
        · rw [decode_ascii s pos hlt hasc] at hnext
          cases hd : digB (s[pos]'hlt)
          · have hx := Lib.hid (hnot.out (by rw [List.all_eq_false]; exact ⟨_, hmem.out, by rw [hd]; simp⟩))
            have hdr : digitR ((s[pos]'hlt).toNat : Int) = false := by rw [digitR_B, hd]
            go_wp2_with fail
            refine (sign_digit _ _).mono ?_
            rintro e w' ⟨rfl, rfl⟩
            rw [hdr]
            clear hdr hd
            go_wp2
            go_ret2
            exact ⟨by rw [hx.out]; rfl, hbel.out _⟩
          · have hdr : digitR ((s[pos]'hlt).toNat : Int) = true := by rw [digitR_B, hd]
            have hc : 48 ≤ (s[pos]'hlt).toNat ∧ (s[pos]'hlt).toNat ≤ 57 := by simpa [digB] using hd
            have hc1 : 48 ≤ ((s[pos]'hlt).toNat : Int) := by omega
            have hc2 : ((s[pos]'hlt).toNat : Int) ≤ 57 := by omega
            have hv0 : 0 ≤ (digVal (s.data.toList.take pos) : Int) := by omega
            have hv1 : (digVal (s.data.toList.take pos) : Int) < 10000 := by omega
            have hnx := Lib.hid (show ((digVal (s.data.toList.take (pos + 1)) : Nat) : Int) = 10 * (digVal (s.data.toList.take pos) : Nat) + (((s[pos]'hlt).toNat : Int) - 48) by
              rw [htk.out, digVal_snoc, getElem!_pos s pos hlt]; omega)
            have hal := Lib.hid (show (s.data.toList.take (pos + 1)).all digB = true by
              rw [htk.out, List.all_append, HQ.out, getElem!_pos s pos hlt, List.all_cons, hd]; rfl)
            clear hc hlt0 hd
            go_wp2_with fail
            refine (sign_digit _ _).mono ?_
            rintro e w' ⟨rfl, rfl⟩
            rw [hdr]
            clear hdr
            go_wp2
            go_roundw
            case rel => exact ⟨pos + 1, by omega, rfl, by rw [hnx.out], hal.out⟩
            case measure => simp; omega
        · have hhi := decode_high s pos hlt (by omega)
          have hx := Lib.hid (hnot.out (by rw [List.all_eq_false]; exact ⟨_, hmem.out, by simp [digB]; omega⟩))
          have hdr : digitR ((Utf8.decode s pos).1 : Int) = false := by unfold digitR; simp; omega
          go_wp2_with fail
          refine (sign_digit _ _).mono ?_
          rintro e w' ⟨rfl, rfl⟩
          rw [hdr]
          clear hdr
          go_wp2
          go_ret2
          exact ⟨by rw [hx.out]; rfl, hbel.out _⟩
      · obtain rfl : pos = s.size := by omega
        have hnext := run_next_end (P := Tryd.prog) w s s.size 0 hlt
        have ht := Lib.hid (show s.data.toList.take s.size = s.data.toList by rw [List.take_of_length_le (by simp)])
        have hx := Lib.hid (hnum.out (by rw [← ht.out]; exact HQ.out))
        rw [ht.out]
        clear hlt0
        go_wp2
        go_ret2
        exact ⟨by rw [hx.out]; rfl, hbel.out _⟩
end Go.Proofs.YthkofiakfmijiaaDoor
