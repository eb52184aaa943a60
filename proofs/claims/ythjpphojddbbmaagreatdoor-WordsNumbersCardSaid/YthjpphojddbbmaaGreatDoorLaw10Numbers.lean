/-
  espalierlaw10.WordsNumbers: walks. Printed by a program of mine (gen_wlaw.py). Conditions: what package words asks of memory.
-/
import Derived.Test.YthjpphojddbbmaaGreatDoorLaw10Begun
namespace Go.Proofs.YthjpphojddbbmaaGreatDoor
open Go.RowKit
set_option linter.unusedVariables false
set_option linter.unusedSimpArgs false

theorem num_of {n : Int} (hn : rng n = true) : wNum ⟨(Lib.itoa n).toArray⟩ = wInt n := by
  have hr := rng_iff.1 hn
  unfold wNum
  rw [show (⟨(Lib.itoa n).toArray⟩ : ByteArray).data.toList = Lib.itoa n from List.toList_toArray, parse_itoa hr.1 hr.2]
  simp
theorem num_cases (s : ByteArray) : (∃ v, rng v = true ∧ wNum s = wInt v ∧ (⟨(Lib.itoa v).toArray⟩ : ByteArray) = s) ∨ wNum s = wFault 24 := by
  unfold wNum
  cases hp : Lib.parseIntB 64 s.data.toList with
  | ok v =>
    simp only
    by_cases h : (⟨(Lib.itoa v).toArray⟩ : ByteArray) = s
    · rw [if_pos h]; exact .inl ⟨v, rng_iff.2 (w_parse_rng hp), rfl, h⟩
    · rw [if_neg h]; exact .inr rfl
  | range => exact .inr rfl
  | _ => exact .inr rfl
set_option maxRecDepth 100000 in
set_option maxHeartbeats 8000000 in
theorem law_WordsNumbers (n : Int) (s u : ByteArray) (w : World) (hn : rng n = true) (hs : s.size ≤ 140737488351232) (hu : u.size ≤ 140737488351232) (hw : Ws w) : Calls Tryz.prog 5 #[.int .i64 n, .string s, .string u] w (Bel (.bool true) w) := by
  have KB := Lib.hid (law10_begun w hw)
  have HW := Lib.hid hw
  have HB : Hid (Below w.heap.size w w) := Below.refl _ _
  clear hw
  by_cases hbig : 65535 < s.size
  · have t0 : decide ((65535 : Int) < (s.size : Int)) = true := by simp; omega
    clear hbig hn
    go_enter Tryz.func5, Tryz.ntmps5
    go_wp2_with fail
    refine KB.out.mono ?_
    rintro e v0 ⟨rfl, hb⟩
    have HB := Lib.hid (HB.out.trans (hb.mono HB.out.size))
    clear hb KB
    go_wp2
    go_ret
    exact ⟨rfl, HB.out⟩
  have t0 : decide ((65535 : Int) < (s.size : Int)) = false := by simp; omega
  by_cases hbig2 : 65535 < u.size
  · have t1 : decide ((65535 : Int) < (u.size : Int)) = true := by simp; omega
    clear hbig hbig2 hn
    go_enter Tryz.func5, Tryz.ntmps5
    go_wp2_with fail
    refine KB.out.mono ?_
    rintro e v0 ⟨rfl, hb⟩
    have HB := Lib.hid (HB.out.trans (hb.mono HB.out.size))
    clear hb KB
    go_wp2
    go_ret
    exact ⟨rfl, HB.out⟩
  have t1 : decide ((65535 : Int) < (u.size : Int)) = false := by simp; omega
  have hr := rng_iff.1 hn
  have K1 := c_of n hn
  have K2 := c_num ⟨(Lib.itoa n).toArray⟩ (by show (Lib.itoa n).toArray.size ≤ _; rw [List.size_toArray]; have := itoa_len hr.1 hr.2; omega) (out := N1 n 0) (.inl ⟨n, num_of hn, rfl⟩)
  have K5 := c_less s u (by omega) (by omega)
  generalize (⟨(Lib.itoa n).toArray⟩ : ByteArray) = z at *
  unfold T1 wn_of at K1
  unfold N1 wn_num at K2
  unfold wTruth wn_less at K5
  have K1 := Lib.hid K1
  have K2 := Lib.hid K2
  have K5 := Lib.hid K5
  have hun : ∀ (z : Bool) (w : World), (binOp .eql 29 (.iface 47 (.bool z)) (.iface 47 (.bool z))).run Tryz.prog w = .ok (.bool true) w := fun z w => by cases z <;> kernel_rfl
  have hug : ∀ (z : Bool) (x y : Operand) (w : World), (eqGuard .eql 29 x y (.iface 47 (.bool z)) (.iface 47 (.bool z))).run Tryz.prog w = .ok () w := fun z x y w => by simp [eqGuard, go_sem]
  rcases num_cases s with ⟨v, hv, hnum, heq⟩ | hnum
  · have K3 := c_num s (by omega) (out := N1 v 0) (.inl ⟨v, hnum, rfl⟩)
    have K4 := c_of v hv
    rw [heq] at K4
    unfold N1 wn_num at K3
    unfold T1 wn_of at K4
    have K3 := Lib.hid K3
    have K4 := Lib.hid K4
    clear hnum heq hv hr hn hbig hbig2
    generalize hbl : Op.bytesLess s.toList u.toList = bl at *
    go_enter Tryz.func5, Tryz.ntmps5
    go_wp2_with fail
    refine KB.out.mono ?_
    rintro e v0 ⟨rfl, hb⟩
    have HB := Lib.hid (HB.out.trans (hb.mono HB.out.size))
    clear hb KB
    go_wp2_with fail
    refine (law10_num _ _).mono ?_
    rintro e v1 ⟨rfl, hb⟩
    have HB := Lib.hid (HB.out.trans (hb.mono HB.out.size))
    clear hb
    go_wp2_with fail
    refine (K1.out _ (HW.out.below HB.out)).mono ?_
    rintro e v2 ⟨rfl, hb⟩
    have HB := Lib.hid ((HB.out.alloc HB.out.size _).trans (hb.mono (by rw [size_alloc]; exact Nat.le_succ_of_le HB.out.size)))
    clear hb K1
    go_wp2_with fail
    refine (law10_text _ _).mono ?_
    rintro e v3 ⟨rfl, hb⟩
    have HB := Lib.hid (HB.out.trans (hb.mono HB.out.size))
    clear hb
    go_wp2_with fail
    refine (K2.out _ (HW.out.below HB.out)).mono ?_
    rintro e v4 ⟨rfl, hb⟩
    have HB := Lib.hid ((HB.out.alloc HB.out.size _).trans (hb.mono (by rw [size_alloc]; exact Nat.le_succ_of_le HB.out.size)))
    clear hb K2
    go_wp2_with fail
    refine (law10_text _ _).mono ?_
    rintro e v5 ⟨rfl, hb⟩
    have HB := Lib.hid (HB.out.trans (hb.mono HB.out.size))
    clear hb
    go_wp2_with fail
    refine (K3.out _ (HW.out.below HB.out)).mono ?_
    rintro e v6 ⟨rfl, hb⟩
    have HB := Lib.hid ((HB.out.alloc HB.out.size _).trans (hb.mono (by rw [size_alloc]; exact Nat.le_succ_of_le HB.out.size)))
    clear hb K3
    go_wp2_with fail
    refine (law10_num _ _).mono ?_
    rintro e v7 ⟨rfl, hb⟩
    have HB := Lib.hid (HB.out.trans (hb.mono HB.out.size))
    clear hb
    go_wp2_with fail
    refine (K4.out _ (HW.out.below HB.out)).mono ?_
    rintro e v8 ⟨rfl, hb⟩
    have HB := Lib.hid ((HB.out.alloc HB.out.size _).trans (hb.mono (by rw [size_alloc]; exact Nat.le_succ_of_le HB.out.size)))
    clear hb K4
    go_wp2_with fail
    refine (law10_text _ _).mono ?_
    rintro e v9 ⟨rfl, hb⟩
    have HB := Lib.hid (HB.out.trans (hb.mono HB.out.size))
    clear hb
    go_wp2_with fail
    refine (law10_text _ _).mono ?_
    rintro e v10 ⟨rfl, hb⟩
    have HB := Lib.hid (HB.out.trans (hb.mono HB.out.size))
    clear hb
    go_wp2_with fail
    refine (K5.out _ (HW.out.below HB.out)).mono ?_
    rintro e v11 ⟨rfl, hb⟩
    have HB := Lib.hid ((HB.out.alloc HB.out.size _).trans (hb.mono (by rw [size_alloc]; exact Nat.le_succ_of_le HB.out.size)))
    clear hb K5
    go_wp2
    go_ret
    exact ⟨rfl, HB.out⟩
  · have K3 := c_num s (by omega) (out := N1 0 24) (.inr ⟨24, by decide, hnum, rfl⟩)
    unfold N1 wn_num at K3
    have K3 := Lib.hid K3
    clear hnum hr hn hbig hbig2
    generalize hbl : Op.bytesLess s.toList u.toList = bl at *
    go_enter Tryz.func5, Tryz.ntmps5
    go_wp2_with fail
    refine KB.out.mono ?_
    rintro e v0 ⟨rfl, hb⟩
    have HB := Lib.hid (HB.out.trans (hb.mono HB.out.size))
    clear hb KB
    go_wp2_with fail
    refine (law10_num _ _).mono ?_
    rintro e v1 ⟨rfl, hb⟩
    have HB := Lib.hid (HB.out.trans (hb.mono HB.out.size))
    clear hb
    go_wp2_with fail
    refine (K1.out _ (HW.out.below HB.out)).mono ?_
    rintro e v2 ⟨rfl, hb⟩
    have HB := Lib.hid ((HB.out.alloc HB.out.size _).trans (hb.mono (by rw [size_alloc]; exact Nat.le_succ_of_le HB.out.size)))
    clear hb K1
    go_wp2_with fail
    refine (law10_text _ _).mono ?_
    rintro e v3 ⟨rfl, hb⟩
    have HB := Lib.hid (HB.out.trans (hb.mono HB.out.size))
    clear hb
    go_wp2_with fail
    refine (K2.out _ (HW.out.below HB.out)).mono ?_
    rintro e v4 ⟨rfl, hb⟩
    have HB := Lib.hid ((HB.out.alloc HB.out.size _).trans (hb.mono (by rw [size_alloc]; exact Nat.le_succ_of_le HB.out.size)))
    clear hb K2
    go_wp2_with fail
    refine (law10_text _ _).mono ?_
    rintro e v5 ⟨rfl, hb⟩
    have HB := Lib.hid (HB.out.trans (hb.mono HB.out.size))
    clear hb
    go_wp2_with fail
    refine (K3.out _ (HW.out.below HB.out)).mono ?_
    rintro e v6 ⟨rfl, hb⟩
    have HB := Lib.hid ((HB.out.alloc HB.out.size _).trans (hb.mono (by rw [size_alloc]; exact Nat.le_succ_of_le HB.out.size)))
    clear hb K3
    go_wp2_with fail
    refine (law10_text _ _).mono ?_
    rintro e v7 ⟨rfl, hb⟩
    have HB := Lib.hid (HB.out.trans (hb.mono HB.out.size))
    clear hb
    go_wp2_with fail
    refine (law10_text _ _).mono ?_
    rintro e v8 ⟨rfl, hb⟩
    have HB := Lib.hid (HB.out.trans (hb.mono HB.out.size))
    clear hb
    go_wp2_with fail
    refine (K5.out _ (HW.out.below HB.out)).mono ?_
    rintro e v9 ⟨rfl, hb⟩
    have HB := Lib.hid ((HB.out.alloc HB.out.size _).trans (hb.mono (by rw [size_alloc]; exact Nat.le_succ_of_le HB.out.size)))
    clear hb K5
    go_wp2
    go_ret
    exact ⟨rfl, HB.out⟩
end Go.Proofs.YthjpphojddbbmaaGreatDoor
