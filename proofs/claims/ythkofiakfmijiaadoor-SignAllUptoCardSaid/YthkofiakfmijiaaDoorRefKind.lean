/-
  espalierref3.Kind: a walk, for every text; espalierlaw3.ints: for any two lists. Conditions: within a row's reach.
-/
import Derived.Test.YthkofiakfmijiaaDoorRefRead
namespace Go.Proofs.YthkofiakfmijiaaDoor
open Go.RowKit
set_option linter.unusedVariables false

theorem cut_at {s : ByteArray} {c : UInt8} {k : Nat} (hlt : k < s.size) (hno : c ∉ s.data.toList.take k) (he : (s[k]'hlt) = c) : cutV s c = (s.extract 0 k, s.extract (k + 1) s.size, true) := by
  have hl : k < s.data.toList.length := by simpa using hlt
  have e : s.data.toList = s.data.toList.take k ++ c :: s.data.toList.drop (k + 1) := by
    conv => lhs; rw [← List.take_append_drop k s.data.toList]
    rw [List.drop_eq_getElem_cons hl]
    have : s.data.toList[k]'hl = s[k]'hlt := rfl
    rw [this, he]
  rw [cutV_at e hno]
  refine Prod.ext (bytes_ext ?_) (Prod.ext (bytes_ext ?_) rfl)
  · rw [bytesOf_data, ext_from_zero]
  · rw [bytesOf_data, ext_to_end]
set_option maxHeartbeats 4000000 in
theorem ref_Kind (s : ByteArray) (w : World) (hs : s.size ≤ 140737488351232) : Calls Tryd.prog 43 #[.string s] w (Bel (cutT (kindV s)) w) := by
  have hw0 : Hid (Below w.heap.size w w) := Lib.hid (Below.refl _ _)
  go_enter Tryd.func43, Tryd.ntmps43
  go_wp2
  go_loop [5] (fun i => ∃ k : Nat, k ≤ s.size ∧ i = .int .i64 k ∧ (46 : UInt8) ∉ s.data.toList.take k) (fun i => s.size - (intOf i).toNat)
  case atStart => exact ⟨0, Nat.zero_le _, rfl, by simp⟩
  case round =>
    obtain ⟨k, hk, rfl, hq⟩ := hrel
    have HQ := Lib.hid hq
    clear hq
    by_cases hlt : k < s.size
    · cases he : (((s[k]'hlt).toNat : Int) == 46)
      · have hne : (s[k]'hlt) ≠ 46 := by
          intro e
          rw [e] at he
          revert he; decide
        have HN := Lib.hid (no_next hlt HQ.out hne)
        clear hne
        go_wp2
        go_round
        case rel => exact ⟨k + 1, by omega, by go_num, HN.out⟩
        case measure => simp [intOf]; omega
      · have he46 : (s[k]'hlt) = 46 := by
          have := @byte_is (s[k]'hlt) 46
          have h46 : ((46 : UInt8).toNat : Int) = 46 := rfl
          rw [h46, he] at this
          simpa using this.symm
        have HC := Lib.hid (cut_at hlt HQ.out he46)
        have hfz : (s.extract 0 k).size ≤ 140737488351232 := by rw [ByteArray.size_extract]; omega
        have htz : (s.extract (k + 1) s.size).size ≤ 140737488351232 := by rw [ByteArray.size_extract]; omega
        have K1 := Lib.hid (ref_Word (s.extract 0 k) w hfz)
        have K2 := Lib.hid (ref_Word (s.extract (k + 1) s.size) w htz)
        have hkv : Hid (kindV s = if wordB (s.extract 0 k) && wordB (s.extract (k + 1) s.size) then (s.extract 0 k, s.extract (k + 1) s.size, true) else (⟨#[]⟩, ⟨#[]⟩, false)) := Lib.hid (by unfold kindV; rw [HC.out]; rfl)
        clear he46 hfz htz
        cases h1 : wordB (s.extract 0 k)
        · have hx := Lib.hid (show kindV s = (⟨#[]⟩, ⟨#[]⟩, false) by rw [hkv.out, h1]; rfl)
          go_wp2_with fail
          refine K1.out.mono ?_
          rintro e w' ⟨rfl, rfl⟩
          rw [h1]
          clear h1
          go_wp2
          go_ret3
          exact ⟨by rw [hx.out]; rfl, hw0.out⟩
        · cases h2 : wordB (s.extract (k + 1) s.size)
          · have hx := Lib.hid (show kindV s = (⟨#[]⟩, ⟨#[]⟩, false) by rw [hkv.out, h1, h2]; rfl)
            go_wp2_with fail
            refine K1.out.mono ?_
            rintro e w' ⟨rfl, rfl⟩
            rw [h1]
            go_wp2_with fail
            refine K2.out.mono ?_
            rintro e w' ⟨rfl, rfl⟩
            rw [h2]
            clear h1 h2
            go_wp2
            go_ret3
            exact ⟨by rw [hx.out]; rfl, hw0.out⟩
          · have hx := Lib.hid (show kindV s = (s.extract 0 k, s.extract (k + 1) s.size, true) by rw [hkv.out, h1, h2]; rfl)
            go_wp2_with fail
            refine K1.out.mono ?_
            rintro e w' ⟨rfl, rfl⟩
            rw [h1]
            go_wp2_with fail
            refine K2.out.mono ?_
            rintro e w' ⟨rfl, rfl⟩
            rw [h2]
            clear h1 h2
            go_wp2
            go_quiet (fail)
            have HBn := Lib.hid (below_drewN hw0.out nq)
            go_wp2
            go_ret3
            exact ⟨by rw [hx.out]; rfl, HBn.out⟩
    · obtain rfl : k = s.size := by omega
      have hno : (46 : UInt8) ∉ s.data.toList := by have := HQ.out; rwa [List.take_of_length_le (by simp)] at this
      have hx := Lib.hid (show kindV s = (⟨#[]⟩, ⟨#[]⟩, false) by unfold kindV; rw [cutV_no hno]; rfl)
      clear hno
      go_wp2
      go_ret3
      exact ⟨by rw [hx.out]; rfl, hw0.out⟩
set_option maxRecDepth 100000 in
set_option maxHeartbeats 2000000 in
theorem law_ints (A A2 : Option Addr) (l m : List Int) (c c2 : Nat) (w : World) (hl : l.length ≤ 140737488355328) (hm : m.length ≤ 140737488355328) (hR : RdI w w.heap.size A l) (hR2 : RdI w w.heap.size A2 m) :
    Calls Tryd.prog 26 #[.slice A l.length c, .slice A2 m.length c2] w (Bel (.bool (decide (l = m))) w) := by
  have HR := Lib.hid hR
  have HR2 := Lib.hid hR2
  have hw0 : Hid (Below w.heap.size w w) := Lib.hid (Below.refl _ _)
  clear hR hR2
  by_cases hlm : l.length = m.length
  · have hn2 : ((l.length : Int) != (m.length : Int)) = false := by simp [hlm]
    have HLM := Lib.hid hlm
    clear hlm
    go_enter Tryd.func26, Tryd.ntmps26
    go_wp2
    go_loopw [5] (fun i wr => ∃ k : Nat, k ≤ l.length ∧ i = .int .i64 k ∧ l.take k = m.take k ∧ Below w.heap.size w wr) (fun i wr => l.length - (intOf i).toNat)
    case atStart => exact ⟨0, Nat.zero_le _, rfl, rfl, hw0.out⟩
    case round =>
      obtain ⟨k, hk, rfl, hq, hbel⟩ := hrel
      have HQ := Lib.hid hq
      have hbw := Lib.hid hbel
      clear hq hbel
      by_cases hlt : k < l.length
      · have hlt2 : k < m.length := by have := HLM.out; omega
        obtain ⟨ad, rfl, _, hc⟩ := RdI.at_ (Rd.below HR.out hbw.out) hlt
        obtain ⟨ad2, rfl, _, hc2⟩ := RdI.at_ (Rd.below HR2.out hbw.out) hlt2
        by_cases hp : l[k]'hlt = m[k]'hlt2
        · have HN := Lib.hid (take_nextV HQ.out hlt hlt2 hp)
          have hp2 : ((l[k]'hlt) != (m[k]'hlt2)) = false := by simp [hp]
          clear hp
          go_wp2
          go_quiet (fail)
          have HBn := Lib.hid (below_drewN hbw.out nq)
          go_wp2
          go_roundw
          case rel => exact ⟨k + 1, by omega, by go_num, HN.out, HBn.out⟩
          case measure => simp [intOf]; omega
        · have hx := Lib.hid (show decide (l = m) = false by simp [ne_at hlt hlt2 hp])
          have hp2 : ((l[k]'hlt) != (m[k]'hlt2)) = true := by simp [hp]
          clear hp
          go_wp2
          go_quiet (fail)
          have HBn := Lib.hid (below_drewN hbw.out nq)
          go_wp2
          go_ret
          exact ⟨by rw [hx.out]; rfl, HBn.out⟩
      · have hx := Lib.hid (show decide (l = m) = true by
          have h1 := HQ.out
          rw [List.take_of_length_le (by omega), List.take_of_length_le (by have := HLM.out; omega)] at h1
          simp [h1])
        go_wp2
        go_ret
        exact ⟨by rw [hx.out]; rfl, hbw.out⟩
  · have hx := Lib.hid (show decide (l = m) = false by
      have : l ≠ m := by rintro rfl; exact hlm rfl
      simp [this])
    have hn2 : ((l.length : Int) != (m.length : Int)) = true := by simp; omega
    have hn3 : ((l.length : Int) == (m.length : Int)) = false := by simp; omega
    clear hlm
    go_enter Tryd.func26, Tryd.ntmps26
    go_wp2
    go_ret
    exact ⟨by rw [hx.out]; rfl, hw0.out⟩
end Go.Proofs.YthkofiakfmijiaaDoor
