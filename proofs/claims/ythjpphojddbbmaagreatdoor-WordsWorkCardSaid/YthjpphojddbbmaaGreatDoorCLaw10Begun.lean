/-
  espalierlaw10.begun: walks. Printed by a program of mine (gen_wlaw.py). Conditions: what package words asks of memory.
-/
import Derived.Test.YthjpphojddbbmaaGreatDoorCLaw10A
import Derived.Test.YthjpphojddbbmaaGreatDoorCWordsKit
import Derived.Test.YthjpphojddbbmaaGreatDoorCKitName
import Derived.Test.YthjpphojddbbmaaGreatDoorCPlWords
namespace Go.Proofs.YthjpphojddbbmaaGreatDoor
open Go.RowKit
set_option linter.unusedVariables false
set_option linter.unusedSimpArgs false

theorem itoa5 : (⟨(Lib.itoa (-5)).toArray⟩ : ByteArray) = ⟨#[45, 53]⟩ := by
  unfold Lib.itoa
  rw [if_pos (by decide), Lib.decDigits_one (by decide)]
  rfl
theorem num05 : wNum ⟨#[48, 53]⟩ = wFault 24 := by
  have h : Lib.parseIntB 64 (⟨#[48, 53]⟩ : ByteArray).data.toList = .ok 5 := by rfl
  unfold wNum
  rw [h]
  simp only
  rw [if_neg]
  intro e
  have e2 : Lib.itoa 5 = [53] := by
    unfold Lib.itoa
    rw [if_neg (by decide), show (5 : Int).toNat = 5 from rfl, Lib.decDigits_one (by decide)]
    rfl
  rw [e2] at e
  exact absurd e (by decide)
set_option maxRecDepth 100000 in
set_option maxHeartbeats 8000000 in
theorem law10_begun (w : World) (hw : Ws w) : Calls Tryz.prog 8 #[] w (Bel (.bool true) w) := by
  have HW := Lib.hid hw
  have HB : Hid (Below w.heap.size w w) := Below.refl _ _
  clear hw
  have K1 := c_cut ⟨#[97, 98, 99]⟩ 1 2 (by decide) (by decide) (by decide) (out := T1 ⟨#[98]⟩ 0) (.inl ⟨⟨#[98]⟩, by kernel_rfl, rfl⟩)
  unfold T1 wn_cut at K1
  have K1 := Lib.hid K1
  have K2 := c_cut ⟨#[97, 98, 99]⟩ 2 1 (by decide) (by decide) (by decide) (out := T1 ⟨#[]⟩ 23) (.inr ⟨23, by decide, by kernel_rfl, rfl⟩)
  unfold T1 wn_cut at K2
  have K2 := Lib.hid K2
  have K3 := c_find ⟨#[98, 97, 110, 97, 110, 97]⟩ ⟨#[97, 110]⟩ (by decide) (by decide)
  unfold N1 wn_find at K3
  rw [show Lib.index (⟨#[98, 97, 110, 97, 110, 97]⟩ : ByteArray).data.toList (⟨#[97, 110]⟩ : ByteArray).data.toList = 1 by kernel_rfl] at K3
  have K3 := Lib.hid K3
  have K4 := c_rep ⟨#[97, 98]⟩ 2 (by decide) (by decide) (out := T1 ⟨#[97, 98, 97, 98]⟩ 0) (.inl ⟨⟨#[97, 98, 97, 98]⟩, by kernel_rfl, rfl⟩)
  unfold T1 wn_rep at K4
  have K4 := Lib.hid K4
  have K5 := c_num ⟨#[48, 53]⟩ (by decide) (out := N1 0 24) (.inr ⟨24, by decide, num05, rfl⟩)
  unfold N1 wn_num at K5
  have K5 := Lib.hid K5
  have K6 := c_of (-5) (by decide)
  unfold T1 wn_of at K6
  rw [itoa5] at K6
  have K6 := Lib.hid K6
  have K7 := c_joinx ⟨#[97]⟩ 1 (by decide) (by decide)
  unfold T1 wn_join at K7
  have K7 := Lib.hid K7
  go_enter Tryz.func8, Tryz.ntmps8
  go_wp2_with fail
  refine (law10_text _ _).mono ?_
  rintro e v1 ⟨rfl, hb⟩
  have HB := Lib.hid (HB.out.trans (hb.mono HB.out.size))
  clear hb
  go_wp2_with fail
  refine (law10_num _ _).mono ?_
  rintro e v2 ⟨rfl, hb⟩
  have HB := Lib.hid (HB.out.trans (hb.mono HB.out.size))
  clear hb
  go_wp2_with fail
  refine (law10_num _ _).mono ?_
  rintro e v3 ⟨rfl, hb⟩
  have HB := Lib.hid (HB.out.trans (hb.mono HB.out.size))
  clear hb
  go_wp2_with fail
  refine (K1.out _ (HW.out.below HB.out)).mono ?_
  rintro e v4 ⟨rfl, hb⟩
  have HB := Lib.hid ((HB.out.alloc HB.out.size _).trans (hb.mono (by rw [size_alloc]; exact Nat.le_succ_of_le HB.out.size)))
  clear hb K1
  go_wp2_with fail
  refine (law10_text _ _).mono ?_
  rintro e v5 ⟨rfl, hb⟩
  have HB := Lib.hid (HB.out.trans (hb.mono HB.out.size))
  clear hb
  go_wp2_with fail
  refine (law10_num _ _).mono ?_
  rintro e v6 ⟨rfl, hb⟩
  have HB := Lib.hid (HB.out.trans (hb.mono HB.out.size))
  clear hb
  go_wp2_with fail
  refine (law10_num _ _).mono ?_
  rintro e v7 ⟨rfl, hb⟩
  have HB := Lib.hid (HB.out.trans (hb.mono HB.out.size))
  clear hb
  go_wp2_with fail
  refine (K2.out _ (HW.out.below HB.out)).mono ?_
  rintro e v8 ⟨rfl, hb⟩
  have HB := Lib.hid ((HB.out.alloc HB.out.size _).trans (hb.mono (by rw [size_alloc]; exact Nat.le_succ_of_le HB.out.size)))
  clear hb K2
  go_wp2_with fail
  refine (law10_text _ _).mono ?_
  rintro e v9 ⟨rfl, hb⟩
  have HB := Lib.hid (HB.out.trans (hb.mono HB.out.size))
  clear hb
  go_wp2_with fail
  refine (law10_text _ _).mono ?_
  rintro e v10 ⟨rfl, hb⟩
  have HB := Lib.hid (HB.out.trans (hb.mono HB.out.size))
  clear hb
  go_wp2_with fail
  refine (K3.out _ (HW.out.below HB.out)).mono ?_
  rintro e v11 ⟨rfl, hb⟩
  have HB := Lib.hid ((HB.out.alloc HB.out.size _).trans (hb.mono (by rw [size_alloc]; exact Nat.le_succ_of_le HB.out.size)))
  clear hb K3
  go_wp2_with fail
  refine (law10_text _ _).mono ?_
  rintro e v12 ⟨rfl, hb⟩
  have HB := Lib.hid (HB.out.trans (hb.mono HB.out.size))
  clear hb
  go_wp2_with fail
  refine (law10_num _ _).mono ?_
  rintro e v13 ⟨rfl, hb⟩
  have HB := Lib.hid (HB.out.trans (hb.mono HB.out.size))
  clear hb
  go_wp2_with fail
  refine (K4.out _ (HW.out.below HB.out)).mono ?_
  rintro e v14 ⟨rfl, hb⟩
  have HB := Lib.hid ((HB.out.alloc HB.out.size _).trans (hb.mono (by rw [size_alloc]; exact Nat.le_succ_of_le HB.out.size)))
  clear hb K4
  go_wp2_with fail
  refine (law10_text _ _).mono ?_
  rintro e v15 ⟨rfl, hb⟩
  have HB := Lib.hid (HB.out.trans (hb.mono HB.out.size))
  clear hb
  go_wp2_with fail
  refine (K5.out _ (HW.out.below HB.out)).mono ?_
  rintro e v16 ⟨rfl, hb⟩
  have HB := Lib.hid ((HB.out.alloc HB.out.size _).trans (hb.mono (by rw [size_alloc]; exact Nat.le_succ_of_le HB.out.size)))
  clear hb K5
  go_wp2_with fail
  refine (law10_num _ _).mono ?_
  rintro e v17 ⟨rfl, hb⟩
  have HB := Lib.hid (HB.out.trans (hb.mono HB.out.size))
  clear hb
  go_wp2_with fail
  refine (K6.out _ (HW.out.below HB.out)).mono ?_
  rintro e v18 ⟨rfl, hb⟩
  have HB := Lib.hid ((HB.out.alloc HB.out.size _).trans (hb.mono (by rw [size_alloc]; exact Nat.le_succ_of_le HB.out.size)))
  clear hb K6
  go_wp2_with fail
  refine (law10_text _ _).mono ?_
  rintro e v19 ⟨rfl, hb⟩
  have HB := Lib.hid (HB.out.trans (hb.mono HB.out.size))
  clear hb
  go_wp2_with fail
  refine (law10_num _ _).mono ?_
  rintro e v20 ⟨rfl, hb⟩
  have HB := Lib.hid (HB.out.trans (hb.mono HB.out.size))
  clear hb
  go_wp2_with fail
  refine (K7.out _ (HW.out.below HB.out)).mono ?_
  rintro e v21 ⟨rfl, hb⟩
  have HB := Lib.hid ((HB.out.alloc HB.out.size _).trans (hb.mono (by rw [size_alloc]; exact Nat.le_succ_of_le HB.out.size)))
  clear hb K7
  go_wp2_with fail
  refine (words_Kit _).mono ?_
  rintro e v99 ⟨M, v, us, hM, rfl, hK, _, hb⟩
  have hn := Lib.hid (kit_Name hK)
  have HB := Lib.hid (HB.out.trans (hb.mono HB.out.size))
  clear hb hM hK
  go_wp2_with fail
  refine hn.out.mono ?_
  rintro e w' ⟨rfl, rfl⟩
  go_wp2
  go_ret
  exact ⟨rfl, HB.out⟩
end Go.Proofs.YthjpphojddbbmaaGreatDoor
