/-
  espalierlaw3.texts: a walk, for any two lists of texts. Conditions: none beyond a row's reach.
-/
import Derived.Test.YthkofiakfmijiaaDoorLawEq
namespace Go.Proofs.YthkofiakfmijiaaDoor
open Go.RowKit
set_option linter.unusedVariables false

theorem RdS.at_ {w : World} {B k : Nat} {A : Option Addr} {l : List ByteArray} (h : Rd w B A (l.map vS)) (hk : k < l.length) : ∃ ad, A = some ad ∧ ad.block < B ∧ w.cell? (ad.add k) = some (.string (l[k]'hk)) := by
  obtain ⟨ad, e, hb, hc⟩ := Rd.at_ (k := k) h (by simpa using hk)
  exact ⟨ad, e, hb, by rw [hc]; simp [vS]⟩
set_option maxRecDepth 100000 in
set_option maxHeartbeats 2000000 in
theorem law_texts (A A2 : Option Addr) (l m : List ByteArray) (c c2 : Nat) (w : World) (hl : l.length ≤ 140737488355328) (hm : m.length ≤ 140737488355328) (hR : Rd w w.heap.size A (l.map vS)) (hR2 : Rd w w.heap.size A2 (m.map vS)) :
    Calls Tryd.prog 19 #[.slice A l.length c, .slice A2 m.length c2] w (Bel (.bool (decide (l = m))) w) := by
  have HR := Lib.hid hR
  have HR2 := Lib.hid hR2
  have hw0 : Hid (Below w.heap.size w w) := Lib.hid (Below.refl _ _)
  clear hR hR2
  by_cases hlm : l.length = m.length
  · have hn2 : ((l.length : Int) != (m.length : Int)) = false := by simp [hlm]
    have HLM := Lib.hid hlm
    clear hlm
    go_enter Tryd.func19, Tryd.ntmps19
    go_wp2
    go_loopw [5] (fun i wr => ∃ k : Nat, k ≤ l.length ∧ i = .int .i64 k ∧ l.take k = m.take k ∧ Below w.heap.size w wr) (fun i wr => l.length - (intOf i).toNat)
    case atStart => exact ⟨0, Nat.zero_le _, rfl, rfl, hw0.out⟩
    case round =>
      obtain ⟨k, hk, rfl, hq, hbel⟩ := hrel
      have HQ := Lib.hid hq
      have hbw := Lib.hid hbel
      clear hq hbel
      by_cases hlt : k < l.length
      · have hlt2 : k < m.length := by have := HLM.out; omega
        obtain ⟨ad, rfl, _, hc⟩ := RdS.at_ (Rd.below HR.out hbw.out) hlt
        obtain ⟨ad2, rfl, _, hc2⟩ := RdS.at_ (Rd.below HR2.out hbw.out) hlt2
        by_cases hp : l[k]'hlt = m[k]'hlt2
        · have HN := Lib.hid (take_nextV HQ.out hlt hlt2 hp)
          have hp2 : ((l[k]'hlt).toList == (m[k]'hlt2).toList) = true := by rw [bytes_eq2]; simp [hp]
          clear hp
          go_wp2
          go_quiet (fail)
          have HBn := Lib.hid (below_drewN hbw.out nq)
          go_wp2
          go_roundw
          case rel => exact ⟨k + 1, by omega, by go_num, HN.out, HBn.out⟩
          case measure => simp [intOf]; omega
        · have hx := Lib.hid (show decide (l = m) = false by simp [ne_at hlt hlt2 hp])
          have hp2 : ((l[k]'hlt).toList == (m[k]'hlt2).toList) = false := by rw [bytes_eq2]; simp [hp]
          clear hp
          go_wp2
          go_quiet (fail)
          have HBn := Lib.hid (below_drewN hbw.out nq)
          go_wp2
          go_ret
          exact ⟨by rw [hx.out]; rfl, HBn.out⟩
      · have hx := Lib.hid (show decide (l = m) = true by
          have h1 := HQ.out
          rw [List.take_of_length_le (by omega), List.take_of_length_le (by have := HLM.out; omega)] at h1
          simp [h1])
        go_wp2
        go_ret
        exact ⟨by rw [hx.out]; rfl, hbw.out⟩
  · have hx := Lib.hid (show decide (l = m) = false by
      have : l ≠ m := by rintro rfl; exact hlm rfl
      simp [this])
    have hn2 : ((l.length : Int) != (m.length : Int)) = true := by simp; omega
    have hn3 : ((l.length : Int) == (m.length : Int)) = false := by simp; omega
    clear hlm
    go_enter Tryd.func19, Tryd.ntmps19
    go_wp2
    go_ret
    exact ⟨by rw [hx.out]; rfl, hw0.out⟩
end Go.Proofs.YthkofiakfmijiaaDoor
