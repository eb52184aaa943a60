/-
  espalierref10.truth, find, rep: walks. Printed by a program of mine (gen_r10c.py). Conditions: texts of at most 65,535 bytes.
-/
import Derived.Test.YthjpphojddbbmaaGreatDoorCR10b
import Derived.Test.YthjpphojddbbmaaGreatDoorCRdRead
import Derived.Test.YthjpphojddbbmaaGreatDoorCWordsDo
import Derived.Lib.AppendStr
import Derived.Lib.Index
import Derived.Lib.Repeat
namespace Go.Proofs.YthjpphojddbbmaaGreatDoor
open Go.RowKit
set_option linter.unusedVariables false
set_option linter.unusedSimpArgs false

/-- A value and a number of a fault; nothing beside a fault. -/
def pairW (r : Int × Vl) : Value := .tuple #[(if r.1 = 0 then r.2.toPl else .mk 0 0 ⟨#[]⟩ []).arg none 0, .int .i64 r.1]
theorem r_truth (b : Bool) (w : World) : Calls Tryz.prog 62 #[.bool b] w (Bel ((Vl.truth b).toPl.arg none 0) w) := by
  have HB := Lib.hid (((Below.refl w.heap.size w).alloc (Nat.le_refl _) (.cells #[.int .i64 2, .int .i64 (if b then 1 else 0), .string ⟨#[]⟩, .slice none 0 0] 34)).alloc (by simp) (.cells #[.int .i64 2, .int .i64 (if b then 1 else 0), .string ⟨#[]⟩, .slice none 0 0] 34))
  cases b
  all_goals
    go_enter Tryz.func62, Tryz.ntmps62
    go_wp2
    exact bodyPost_ret (fn := Tryz.f62) (v := _) (results_cell (p := 2) (ty := 34) (a := ⟨w.heap.size, 0, none⟩) Tryz.results62 rfl (run_loadVar_row (P := Tryz.prog) _ _ _ 34 _ _ _ (heap_alloc2 w _ _).1 Tryz.underlying34 rfl (by kernel_rfl))) rfl ⟨rfl, HB.out⟩
theorem occ_slice (s t : ByteArray) (k : Nat) (h : k + t.size ≤ s.size) : ((s.extract k (k + t.size)).toList == t.toList) = Lib.occAt s.data.toList t.data.toList k := by
  have e1 : (s.extract k (k + t.size)).toList = (s.data.toList.drop k).take t.size := by
    rw [Lib.toList_data]
    simp [ByteArray.extract, ByteArray.copySlice]
    try omega
  have e2 : t.size = t.data.toList.length := Lib.size_eq t
  rw [e1, Lib.toList_data, e2]
  unfold Lib.occAt
  rw [Bool.eq_iff_iff, beq_iff_eq, List.isPrefixOf_iff_prefix, List.prefix_iff_eq_take]
  exact ⟨fun h => h.symm, fun h => h.symm⟩
set_option maxRecDepth 100000 in
set_option maxHeartbeats 4000000 in
theorem r_find (s t : ByteArray) (hs : s.size ≤ 65535) (ht : t.size ≤ 65535) (w : World) : Calls Tryz.prog 60 #[.string s, .string t] w fun e w' => e = .returned (.int .i64 (Lib.index s.data.toList t.data.toList)) ∧ w' = w := by
  have hsl : s.size = s.data.toList.length := Lib.size_eq s
  have htl : t.size = t.data.toList.length := Lib.size_eq t
  have HS := Lib.hid hsl
  have HT := Lib.hid htl
  clear hsl htl
  go_enter Tryz.func60, Tryz.ntmps60
  go_wp2
  go_loopw [5] (fun s5 wr => ∃ k : Nat, k ≤ 65536 ∧ s5 = .int .i64 (k : Int) ∧ Hid ((∀ j, j < k → Lib.occAt s.data.toList t.data.toList j = false) ∧ k ≤ s.size + 1) ∧ Hid (wr = w)) (fun s5 _ => 65537 - (intOf s5).toNat)
  case atStart => exact ⟨0, Nat.zero_le _, rfl, Lib.hid ⟨fun j h => absurd h (by omega), by omega⟩, Lib.hid rfl⟩
  case round =>
    obtain ⟨k, hk, rfl, HN, hw⟩ := hrel
    have hw' := hw.out
    subst hw'
    clear hw
    by_cases hlt : k + t.size ≤ s.size
    · have d1 : decide (k + t.size ≤ s.size) = true := by simpa using hlt
      have HO := Lib.hid (occ_slice s t k hlt)
      cases hd : ((s.extract k (k + t.size)).toList == t.toList)
      · have HF : Hid (Lib.occAt s.data.toList t.data.toList k = false) := Lib.hid (by rw [← HO.out, hd])
        have HN2 : Hid ((∀ j, j < k + 1 → Lib.occAt s.data.toList t.data.toList j = false) ∧ k + 1 ≤ s.size + 1) := Lib.hid ⟨fun j hj => by
          by_cases h : j = k
          · rw [h]; exact HF.out
          · exact HN.out.1 j (by omega), by omega⟩
        go_wp2
        go_roundw
        case rel => exact ⟨k + 1, by omega, by go_num, HN2, by first | exact Lib.hid rfl | exact Lib.hid trivial⟩
        case measure => simp [intOf]; omega
      · have HF : Hid (Lib.index s.data.toList t.data.toList = (k : Int)) := Lib.hid (Lib.index_first (by have := HS.out; omega) (by rw [← HO.out, hd]) HN.out.1)
        go_wp2
        go_ret
        exact ⟨by rw [HF.out]; rfl, rfl⟩
    · have d1 : decide (k + t.size ≤ s.size) = false := by simpa using hlt
      have HF : Hid (Lib.index s.data.toList t.data.toList = -1) := Lib.hid (Lib.index_none (fun j hj => by
        by_cases h : j < k
        · exact HN.out.1 j h
        · unfold Lib.occAt
          rw [Bool.eq_false_iff]
          intro he
          have := (List.isPrefixOf_iff_prefix.1 he).length_le
          rw [List.length_drop] at this
          have := HS.out
          have := HT.out
          omega))
      go_wp2
      go_ret
      exact ⟨by rw [HF.out]; rfl, rfl⟩
/-- What rep gives. -/
def repR (s : ByteArray) (n : Int) : Int × Vl := if n < 0 then (23, .unit) else if s.size = 0 then (0, .text ⟨#[]⟩) else if 65535 / (s.size : Int) < n then (2, .unit) else (0, .text ⟨(Lib.repeatL s.data.toList n.toNat).toArray⟩)
theorem rep_snoc (l : List UInt8) : ∀ k, Lib.repeatL l k ++ l = Lib.repeatL l (k + 1)
  | 0 => by simp [Lib.repeatL]
  | k + 1 => by
    have := rep_snoc l k
    rw [show Lib.repeatL l (k + 1 + 1) = l ++ Lib.repeatL l (k + 1) from rfl, show Lib.repeatL l (k + 1) = l ++ Lib.repeatL l k from rfl, List.append_assoc, this]
    rfl
theorem rep_bound {z n : Int} (hz : 0 < z) : 65535 / z < n ↔ 65535 < n * z := by
  rw [Int.ediv_lt_iff_lt_mul hz]
end Go.Proofs.YthjpphojddbbmaaGreatDoor
