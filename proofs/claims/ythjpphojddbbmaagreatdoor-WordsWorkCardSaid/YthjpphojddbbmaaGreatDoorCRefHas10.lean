/-
  espalierref6.Has: a walk, for any names. Conditions: they lie in memory.
-/
import Derived.Test.YthjpphojddbbmaaGreatDoorCRefRowsW
namespace Go.Proofs.YthjpphojddbbmaaGreatDoor
open Go.RowKit
set_option linter.unusedVariables false

def hasB (s : ByteArray) (l : List ByteArray) : Bool := l.any (fun t => t.toList == s.toList)
set_option maxHeartbeats 4000000 in
theorem ref_Has (l : List ByteArray) (s : ByteArray) (A : Option Addr) (c : Nat) (w : World) (hlen : l.length ≤ 1000) (hl : NamesIn w (· < w.heap.size) l A) :
    Calls Tryz.prog 55 #[.slice A l.length c, .string s] w fun e w' => e = .returned (.bool (hasB s l)) ∧ w = w' := by
  have HL := Lib.hid hl
  clear hl
  go_enter Tryz.func55, Tryz.ntmps55
  go_wp2
  go_loop [5] (fun s5 => ∃ (k : Nat), k ≤ l.length ∧ s5 = .int .i64 (k : Int) ∧ hasB s (l.take k) = false) (fun s5 => l.length - (intOf s5).toNat)
  case atStart => exact ⟨0, Nat.zero_le _, rfl, rfl⟩
  case round =>
    obtain ⟨k, hk, rfl, hno⟩ := hrel
    have HN := Lib.hid hno
    clear hno
    by_cases hlt : k < l.length
    · obtain ⟨b, o, rfl, hb, hc⟩ := HL.out (by omega)
      have e0 : w.cell? ⟨b, o + k, none⟩ = some (.string (l.getD k ByteArray.empty)) := hc k hlt
      have hg : l.getD k ByteArray.empty = l[k] := by simp [List.getD, hlt]
      rw [hg] at e0
      have hst := Lib.hid (show hasB s (l.take (k + 1)) = (hasB s (l.take k) || (l[k].toList == s.toList)) by
        unfold hasB; rw [List.take_succ_eq_append_getElem hlt, List.any_append]; simp)
      have hmem := Lib.hid (List.getElem_mem hlt)
      clear hc hg
      cases ht : (l[k].toList == s.toList)
      · have HN2 := Lib.hid (show hasB s (l.take (k + 1)) = false by rw [hst.out, HN.out, ht]; rfl)
        clear hmem hst
        generalize l[k] = t at *
        go_wp2
        go_round
        case rel => exact ⟨k + 1, by omega, by go_num, HN2.out⟩
        case measure => simp [intOf]; omega
      · have hx := Lib.hid (show hasB s l = true from List.any_eq_true.2 ⟨_, hmem.out, ht⟩)
        clear hmem hst
        generalize l[k] = t at *
        go_wp2
        go_ret
        exact ⟨by rw [hx.out]; rfl, rfl⟩
    · have hx := Lib.hid (show hasB s l = false by
        have := HN.out
        rw [List.take_of_length_le (by omega)] at this
        exact this)
      go_wp2
      go_ret
      exact ⟨by rw [hx.out]; rfl, rfl⟩
end Go.Proofs.YthjpphojddbbmaaGreatDoor
