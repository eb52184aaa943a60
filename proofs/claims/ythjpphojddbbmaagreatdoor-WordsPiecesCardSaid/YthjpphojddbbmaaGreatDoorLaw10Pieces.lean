/-
  espalierlaw10.WordsPieces: walks. Printed by a program of mine (gen_wlaw.py). Conditions: what package words asks of memory.
-/
import Derived.Test.YthjpphojddbbmaaGreatDoorLaw10Begun
namespace Go.Proofs.YthjpphojddbbmaaGreatDoor
open Go.RowKit
set_option linter.unusedVariables false
set_option linter.unusedSimpArgs false

set_option maxRecDepth 100000 in
set_option maxHeartbeats 8000000 in
theorem law_WordsPieces (s u : ByteArray) (n : Int) (w : World) (hs : s.size ≤ 140737488351232) (hu : u.size ≤ 140737488351232) (hn : rng n = true) (hw : Ws w) : Calls Tryz.prog 4 #[.string s, .string u, .int .i64 n] w (Bel (.bool true) w) := by
  have KB := Lib.hid (law10_begun w hw)
  have HW := Lib.hid hw
  have HB : Hid (Below w.heap.size w w) := Below.refl _ _
  clear hw
  by_cases hbig : 65535 < s.size ∨ 65535 < u.size
  · have hbig' := hbig
    by_cases h1 : 65535 < s.size
    · have t0 : decide ((65535 : Int) < (s.size : Int)) = true := by simp; omega
      have K1 := c_size s hs (out := N1 0 1) (.inr ⟨1, by decide, by rw [if_neg (by omega)], rfl⟩)
      unfold N1 wn_size at K1
      have K1 := Lib.hid K1
      by_cases h2 : 65535 < u.size
      · have t1 : decide ((65535 : Int) < (u.size : Int)) = true := by simp; omega
        have K2 := c_size u hu (out := N1 0 1) (.inr ⟨1, by decide, by rw [if_neg (by omega)], rfl⟩)
        unfold N1 wn_size at K2
        have K2 := Lib.hid K2
        clear hbig hbig' h1 h2 hn
        go_enter Tryz.func4, Tryz.ntmps4
        go_wp2_with fail
        refine KB.out.mono ?_
        rintro e v0 ⟨rfl, hb⟩
        have HB := Lib.hid (HB.out.trans (hb.mono HB.out.size))
        clear hb KB
        go_wp2_with fail
        refine (law10_text _ _).mono ?_
        rintro e v1 ⟨rfl, hb⟩
        have HB := Lib.hid (HB.out.trans (hb.mono HB.out.size))
        clear hb
        go_wp2_with fail
        refine (K1.out _ (HW.out.below HB.out)).mono ?_
        rintro e v2 ⟨rfl, hb⟩
        have HB := Lib.hid ((HB.out.alloc HB.out.size _).trans (hb.mono (by rw [size_alloc]; exact Nat.le_succ_of_le HB.out.size)))
        clear hb K1
        go_wp2_with fail
        refine (law10_text _ _).mono ?_
        rintro e v3 ⟨rfl, hb⟩
        have HB := Lib.hid (HB.out.trans (hb.mono HB.out.size))
        clear hb
        go_wp2_with fail
        refine (K2.out _ (HW.out.below HB.out)).mono ?_
        rintro e v4 ⟨rfl, hb⟩
        have HB := Lib.hid ((HB.out.alloc HB.out.size _).trans (hb.mono (by rw [size_alloc]; exact Nat.le_succ_of_le HB.out.size)))
        clear hb K2
        go_wp2
        go_ret
        exact ⟨rfl, HB.out⟩
      · have t1 : decide ((65535 : Int) < (u.size : Int)) = false := by simp; omega
        have K2 := c_size u hu (out := N1 u.size 0) (.inl ⟨_, by rw [if_pos (by omega)], rfl⟩)
        unfold N1 wn_size at K2
        have K2 := Lib.hid K2
        clear hbig hbig' h1 h2 hn
        go_enter Tryz.func4, Tryz.ntmps4
        go_wp2_with fail
        refine KB.out.mono ?_
        rintro e v0 ⟨rfl, hb⟩
        have HB := Lib.hid (HB.out.trans (hb.mono HB.out.size))
        clear hb KB
        go_wp2_with fail
        refine (law10_text _ _).mono ?_
        rintro e v1 ⟨rfl, hb⟩
        have HB := Lib.hid (HB.out.trans (hb.mono HB.out.size))
        clear hb
        go_wp2_with fail
        refine (K1.out _ (HW.out.below HB.out)).mono ?_
        rintro e v2 ⟨rfl, hb⟩
        have HB := Lib.hid ((HB.out.alloc HB.out.size _).trans (hb.mono (by rw [size_alloc]; exact Nat.le_succ_of_le HB.out.size)))
        clear hb K1
        go_wp2_with fail
        refine (law10_text _ _).mono ?_
        rintro e v3 ⟨rfl, hb⟩
        have HB := Lib.hid (HB.out.trans (hb.mono HB.out.size))
        clear hb
        go_wp2_with fail
        refine (K2.out _ (HW.out.below HB.out)).mono ?_
        rintro e v4 ⟨rfl, hb⟩
        have HB := Lib.hid ((HB.out.alloc HB.out.size _).trans (hb.mono (by rw [size_alloc]; exact Nat.le_succ_of_le HB.out.size)))
        clear hb K2
        go_wp2
        go_ret
        exact ⟨rfl, HB.out⟩
    · have t0 : decide ((65535 : Int) < (s.size : Int)) = false := by simp; omega
      have t1 : decide ((65535 : Int) < (u.size : Int)) = true := by simp; omega
      have K1 := c_size s hs (out := N1 s.size 0) (.inl ⟨_, by rw [if_pos (by omega)], rfl⟩)
      have K2 := c_size u hu (out := N1 0 1) (.inr ⟨1, by decide, by rw [if_neg (by omega)], rfl⟩)
      unfold N1 wn_size at K1 K2
      have K1 := Lib.hid K1
      have K2 := Lib.hid K2
      clear hbig hbig' h1 hn
      go_enter Tryz.func4, Tryz.ntmps4
      go_wp2_with fail
      refine KB.out.mono ?_
      rintro e v0 ⟨rfl, hb⟩
      have HB := Lib.hid (HB.out.trans (hb.mono HB.out.size))
      clear hb KB
      go_wp2_with fail
      refine (law10_text _ _).mono ?_
      rintro e v1 ⟨rfl, hb⟩
      have HB := Lib.hid (HB.out.trans (hb.mono HB.out.size))
      clear hb
      go_wp2_with fail
      refine (K1.out _ (HW.out.below HB.out)).mono ?_
      rintro e v2 ⟨rfl, hb⟩
      have HB := Lib.hid ((HB.out.alloc HB.out.size _).trans (hb.mono (by rw [size_alloc]; exact Nat.le_succ_of_le HB.out.size)))
      clear hb K1
      go_wp2_with fail
      refine (law10_text _ _).mono ?_
      rintro e v3 ⟨rfl, hb⟩
      have HB := Lib.hid (HB.out.trans (hb.mono HB.out.size))
      clear hb
      go_wp2_with fail
      refine (K2.out _ (HW.out.below HB.out)).mono ?_
      rintro e v4 ⟨rfl, hb⟩
      have HB := Lib.hid ((HB.out.alloc HB.out.size _).trans (hb.mono (by rw [size_alloc]; exact Nat.le_succ_of_le HB.out.size)))
      clear hb K2
      go_wp2
      go_ret
      exact ⟨rfl, HB.out⟩
  have hs5 : s.size ≤ 65535 := by omega
  have hu5 : u.size ≤ 65535 := by omega
  have t0 : decide ((65535 : Int) < (s.size : Int)) = false := by simp; omega
  have t1 : decide ((65535 : Int) < (u.size : Int)) = false := by simp; omega
  have K1 := c_size s hs (out := N1 s.size 0) (.inl ⟨_, by rw [if_pos hs5], rfl⟩)
  unfold N1 wn_size at K1
  have K1 := Lib.hid K1
  have hrs : rng (s.size : Int) = true := rng_iff.2 (by omega)
  clear hbig
  by_cases hr : 0 ≤ n ∧ n ≤ s.size
  case neg =>
    have K2 := c_cut s 0 n hs5 (by decide) hn (out := T1 ⟨#[]⟩ 23) (.inr ⟨23, by decide, by unfold wCutV; rw [if_neg (by omega)], rfl⟩)
    have K3 := c_cut s n s.size hs5 hn hrs (out := T1 ⟨#[]⟩ 23) (.inr ⟨23, by decide, by unfold wCutV; rw [if_neg (by omega)], rfl⟩)
    unfold T1 wn_cut at K2 K3
    have K2 := Lib.hid K2
    have K3 := Lib.hid K3
    have tn : decide (n < 0) = true ∨ (decide (n < 0) = false ∧ decide ((s.size : Int) < n) = true) := by
      by_cases h : n < 0
      · exact .inl (decide_eq_true h)
      · exact .inr ⟨decide_eq_false h, decide_eq_true (by omega)⟩
    clear hr hn hrs
    rcases tn with t2 | ⟨t2, t3⟩
    all_goals
      by_cases hj : s.size + u.size ≤ 65535
      case neg =>
        have K4 := c_join s u hs5 hu5 (out := T1 ⟨#[]⟩ 2) (.inr ⟨2, by decide, by unfold wJoinV; rw [if_neg hj], rfl⟩)
        unfold T1 wn_join at K4
        have K4 := Lib.hid K4
        have t5 : decide ((65535 : Int) < (s.size : Int) + (u.size : Int)) = true := by simp; omega
        clear hj
        go_enter Tryz.func4, Tryz.ntmps4
        go_wp2_with fail
        refine KB.out.mono ?_
        rintro e v0 ⟨rfl, hb⟩
        have HB := Lib.hid (HB.out.trans (hb.mono HB.out.size))
        clear hb KB
        go_wp2_with fail
        refine (law10_text _ _).mono ?_
        rintro e v1 ⟨rfl, hb⟩
        have HB := Lib.hid (HB.out.trans (hb.mono HB.out.size))
        clear hb
        go_wp2_with fail
        refine (K1.out _ (HW.out.below HB.out)).mono ?_
        rintro e v2 ⟨rfl, hb⟩
        have HB := Lib.hid ((HB.out.alloc HB.out.size _).trans (hb.mono (by rw [size_alloc]; exact Nat.le_succ_of_le HB.out.size)))
        clear hb K1
        go_wp2_with fail
        refine (law10_text _ _).mono ?_
        rintro e v3 ⟨rfl, hb⟩
        have HB := Lib.hid (HB.out.trans (hb.mono HB.out.size))
        clear hb
        go_wp2_with fail
        refine (law10_num _ _).mono ?_
        rintro e v4 ⟨rfl, hb⟩
        have HB := Lib.hid (HB.out.trans (hb.mono HB.out.size))
        clear hb
        go_wp2_with fail
        refine (law10_num _ _).mono ?_
        rintro e v5 ⟨rfl, hb⟩
        have HB := Lib.hid (HB.out.trans (hb.mono HB.out.size))
        clear hb
        go_wp2_with fail
        refine (K2.out _ (HW.out.below HB.out)).mono ?_
        rintro e v6 ⟨rfl, hb⟩
        have HB := Lib.hid ((HB.out.alloc HB.out.size _).trans (hb.mono (by rw [size_alloc]; exact Nat.le_succ_of_le HB.out.size)))
        clear hb K2
        go_wp2_with fail
        refine (law10_text _ _).mono ?_
        rintro e v7 ⟨rfl, hb⟩
        have HB := Lib.hid (HB.out.trans (hb.mono HB.out.size))
        clear hb
        go_wp2_with fail
        refine (law10_num _ _).mono ?_
        rintro e v8 ⟨rfl, hb⟩
        have HB := Lib.hid (HB.out.trans (hb.mono HB.out.size))
        clear hb
        go_wp2_with fail
        refine (law10_num _ _).mono ?_
        rintro e v9 ⟨rfl, hb⟩
        have HB := Lib.hid (HB.out.trans (hb.mono HB.out.size))
        clear hb
        go_wp2_with fail
        refine (K3.out _ (HW.out.below HB.out)).mono ?_
        rintro e v10 ⟨rfl, hb⟩
        have HB := Lib.hid ((HB.out.alloc HB.out.size _).trans (hb.mono (by rw [size_alloc]; exact Nat.le_succ_of_le HB.out.size)))
        clear hb K3
        go_wp2_with fail
        refine (law10_text _ _).mono ?_
        rintro e v11 ⟨rfl, hb⟩
        have HB := Lib.hid (HB.out.trans (hb.mono HB.out.size))
        clear hb
        go_wp2_with fail
        refine (law10_text _ _).mono ?_
        rintro e v12 ⟨rfl, hb⟩
        have HB := Lib.hid (HB.out.trans (hb.mono HB.out.size))
        clear hb
        go_wp2_with fail
        refine (K4.out _ (HW.out.below HB.out)).mono ?_
        rintro e v13 ⟨rfl, hb⟩
        have HB := Lib.hid ((HB.out.alloc HB.out.size _).trans (hb.mono (by rw [size_alloc]; exact Nat.le_succ_of_le HB.out.size)))
        clear hb K4
        go_wp2
        go_ret
        exact ⟨rfl, HB.out⟩
      obtain ⟨at_, hat, hle, hex⟩ := found s u
      have K4 := c_join s u hs5 hu5 (out := T1 (s ++ u) 0) (.inl ⟨_, by unfold wJoinV; rw [if_pos hj], rfl⟩)
      have hjs : (s ++ u).size = s.size + u.size := by simp
      have K5 := c_find (s ++ u) u (by omega) hu5
      rw [hat] at K5
      unfold T1 wn_join at K4
      unfold N1 wn_find at K5
      have K4 := Lib.hid K4
      have K5 := Lib.hid K5
      have t5 : decide ((65535 : Int) < (s.size : Int) + (u.size : Int)) = false := by simp; omega
      have t6 : decide ((at_ : Int) < 0) = false := by simp
      have t7 : decide ((s.size : Int) < (at_ : Int)) = false := by simp; omega
      have hle2 : at_ + u.size ≤ (s ++ u).size := by omega
      have h1x : (s ++ ⟨#[120]⟩).size = s.size + 1 := by simp; rfl
      by_cases h5 : s.size = 65535
      case pos =>
        have K6 := c_findx s (s ++ ⟨#[120]⟩) hs5 (by omega) (by omega)
        unfold N1 wn_find at K6
        have K6 := Lib.hid K6
        have t8 : ((s.size : Int) == 65535) = true := by simp; omega
        clear h5 hj hat
        go_enter Tryz.func4, Tryz.ntmps4
        go_wp2_with fail
        refine KB.out.mono ?_
        rintro e v0 ⟨rfl, hb⟩
        have HB := Lib.hid (HB.out.trans (hb.mono HB.out.size))
        clear hb KB
        go_wp2_with fail
        refine (law10_text _ _).mono ?_
        rintro e v1 ⟨rfl, hb⟩
        have HB := Lib.hid (HB.out.trans (hb.mono HB.out.size))
        clear hb
        go_wp2_with fail
        refine (K1.out _ (HW.out.below HB.out)).mono ?_
        rintro e v2 ⟨rfl, hb⟩
        have HB := Lib.hid ((HB.out.alloc HB.out.size _).trans (hb.mono (by rw [size_alloc]; exact Nat.le_succ_of_le HB.out.size)))
        clear hb K1
        go_wp2_with fail
        refine (law10_text _ _).mono ?_
        rintro e v3 ⟨rfl, hb⟩
        have HB := Lib.hid (HB.out.trans (hb.mono HB.out.size))
        clear hb
        go_wp2_with fail
        refine (law10_num _ _).mono ?_
        rintro e v4 ⟨rfl, hb⟩
        have HB := Lib.hid (HB.out.trans (hb.mono HB.out.size))
        clear hb
        go_wp2_with fail
        refine (law10_num _ _).mono ?_
        rintro e v5 ⟨rfl, hb⟩
        have HB := Lib.hid (HB.out.trans (hb.mono HB.out.size))
        clear hb
        go_wp2_with fail
        refine (K2.out _ (HW.out.below HB.out)).mono ?_
        rintro e v6 ⟨rfl, hb⟩
        have HB := Lib.hid ((HB.out.alloc HB.out.size _).trans (hb.mono (by rw [size_alloc]; exact Nat.le_succ_of_le HB.out.size)))
        clear hb K2
        go_wp2_with fail
        refine (law10_text _ _).mono ?_
        rintro e v7 ⟨rfl, hb⟩
        have HB := Lib.hid (HB.out.trans (hb.mono HB.out.size))
        clear hb
        go_wp2_with fail
        refine (law10_num _ _).mono ?_
        rintro e v8 ⟨rfl, hb⟩
        have HB := Lib.hid (HB.out.trans (hb.mono HB.out.size))
        clear hb
        go_wp2_with fail
        refine (law10_num _ _).mono ?_
        rintro e v9 ⟨rfl, hb⟩
        have HB := Lib.hid (HB.out.trans (hb.mono HB.out.size))
        clear hb
        go_wp2_with fail
        refine (K3.out _ (HW.out.below HB.out)).mono ?_
        rintro e v10 ⟨rfl, hb⟩
        have HB := Lib.hid ((HB.out.alloc HB.out.size _).trans (hb.mono (by rw [size_alloc]; exact Nat.le_succ_of_le HB.out.size)))
        clear hb K3
        go_wp2_with fail
        refine (law10_text _ _).mono ?_
        rintro e v11 ⟨rfl, hb⟩
        have HB := Lib.hid (HB.out.trans (hb.mono HB.out.size))
        clear hb
        go_wp2_with fail
        refine (law10_text _ _).mono ?_
        rintro e v12 ⟨rfl, hb⟩
        have HB := Lib.hid (HB.out.trans (hb.mono HB.out.size))
        clear hb
        go_wp2_with fail
        refine (K4.out _ (HW.out.below HB.out)).mono ?_
        rintro e v13 ⟨rfl, hb⟩
        have HB := Lib.hid ((HB.out.alloc HB.out.size _).trans (hb.mono (by rw [size_alloc]; exact Nat.le_succ_of_le HB.out.size)))
        clear hb K4
        go_wp2_with fail
        refine (law10_text _ _).mono ?_
        rintro e v14 ⟨rfl, hb⟩
        have HB := Lib.hid (HB.out.trans (hb.mono HB.out.size))
        clear hb
        go_wp2_with fail
        refine (law10_text _ _).mono ?_
        rintro e v15 ⟨rfl, hb⟩
        have HB := Lib.hid (HB.out.trans (hb.mono HB.out.size))
        clear hb
        go_wp2_with fail
        refine (K5.out _ (HW.out.below HB.out)).mono ?_
        rintro e v16 ⟨rfl, hb⟩
        have HB := Lib.hid ((HB.out.alloc HB.out.size _).trans (hb.mono (by rw [size_alloc]; exact Nat.le_succ_of_le HB.out.size)))
        clear hb K5
        go_wp2_with fail
        refine (law10_text _ _).mono ?_
        rintro e v17 ⟨rfl, hb⟩
        have HB := Lib.hid (HB.out.trans (hb.mono HB.out.size))
        clear hb
        go_wp2_with fail
        refine (law10_text _ _).mono ?_
        rintro e v18 ⟨rfl, hb⟩
        have HB := Lib.hid (HB.out.trans (hb.mono HB.out.size))
        clear hb
        go_wp2_with fail
        refine (K6.out _ (HW.out.below HB.out)).mono ?_
        rintro e v19 ⟨rfl, hb⟩
        have HB := Lib.hid ((HB.out.alloc HB.out.size _).trans (hb.mono (by rw [size_alloc]; exact Nat.le_succ_of_le HB.out.size)))
        clear hb K6
        go_wp2
        go_ret
        exact ⟨rfl, HB.out⟩
      have K6 := c_find s (s ++ ⟨#[120]⟩) hs5 (by omega)
      rw [index_long (by rw [data_len, data_len]; omega)] at K6
      unfold N1 wn_find at K6
      have K6 := Lib.hid K6
      have t8 : ((s.size : Int) == 65535) = false := by simp; omega
      clear h5 hj hat
      go_enter Tryz.func4, Tryz.ntmps4
      go_wp2_with fail
      refine KB.out.mono ?_
      rintro e v0 ⟨rfl, hb⟩
      have HB := Lib.hid (HB.out.trans (hb.mono HB.out.size))
      clear hb KB
      go_wp2_with fail
      refine (law10_text _ _).mono ?_
      rintro e v1 ⟨rfl, hb⟩
      have HB := Lib.hid (HB.out.trans (hb.mono HB.out.size))
      clear hb
      go_wp2_with fail
      refine (K1.out _ (HW.out.below HB.out)).mono ?_
      rintro e v2 ⟨rfl, hb⟩
      have HB := Lib.hid ((HB.out.alloc HB.out.size _).trans (hb.mono (by rw [size_alloc]; exact Nat.le_succ_of_le HB.out.size)))
      clear hb K1
      go_wp2_with fail
      refine (law10_text _ _).mono ?_
      rintro e v3 ⟨rfl, hb⟩
      have HB := Lib.hid (HB.out.trans (hb.mono HB.out.size))
      clear hb
      go_wp2_with fail
      refine (law10_num _ _).mono ?_
      rintro e v4 ⟨rfl, hb⟩
      have HB := Lib.hid (HB.out.trans (hb.mono HB.out.size))
      clear hb
      go_wp2_with fail
      refine (law10_num _ _).mono ?_
      rintro e v5 ⟨rfl, hb⟩
      have HB := Lib.hid (HB.out.trans (hb.mono HB.out.size))
      clear hb
      go_wp2_with fail
      refine (K2.out _ (HW.out.below HB.out)).mono ?_
      rintro e v6 ⟨rfl, hb⟩
      have HB := Lib.hid ((HB.out.alloc HB.out.size _).trans (hb.mono (by rw [size_alloc]; exact Nat.le_succ_of_le HB.out.size)))
      clear hb K2
      go_wp2_with fail
      refine (law10_text _ _).mono ?_
      rintro e v7 ⟨rfl, hb⟩
      have HB := Lib.hid (HB.out.trans (hb.mono HB.out.size))
      clear hb
      go_wp2_with fail
      refine (law10_num _ _).mono ?_
      rintro e v8 ⟨rfl, hb⟩
      have HB := Lib.hid (HB.out.trans (hb.mono HB.out.size))
      clear hb
      go_wp2_with fail
      refine (law10_num _ _).mono ?_
      rintro e v9 ⟨rfl, hb⟩
      have HB := Lib.hid (HB.out.trans (hb.mono HB.out.size))
      clear hb
      go_wp2_with fail
      refine (K3.out _ (HW.out.below HB.out)).mono ?_
      rintro e v10 ⟨rfl, hb⟩
      have HB := Lib.hid ((HB.out.alloc HB.out.size _).trans (hb.mono (by rw [size_alloc]; exact Nat.le_succ_of_le HB.out.size)))
      clear hb K3
      go_wp2_with fail
      refine (law10_text _ _).mono ?_
      rintro e v11 ⟨rfl, hb⟩
      have HB := Lib.hid (HB.out.trans (hb.mono HB.out.size))
      clear hb
      go_wp2_with fail
      refine (law10_text _ _).mono ?_
      rintro e v12 ⟨rfl, hb⟩
      have HB := Lib.hid (HB.out.trans (hb.mono HB.out.size))
      clear hb
      go_wp2_with fail
      refine (K4.out _ (HW.out.below HB.out)).mono ?_
      rintro e v13 ⟨rfl, hb⟩
      have HB := Lib.hid ((HB.out.alloc HB.out.size _).trans (hb.mono (by rw [size_alloc]; exact Nat.le_succ_of_le HB.out.size)))
      clear hb K4
      go_wp2_with fail
      refine (law10_text _ _).mono ?_
      rintro e v14 ⟨rfl, hb⟩
      have HB := Lib.hid (HB.out.trans (hb.mono HB.out.size))
      clear hb
      go_wp2_with fail
      refine (law10_text _ _).mono ?_
      rintro e v15 ⟨rfl, hb⟩
      have HB := Lib.hid (HB.out.trans (hb.mono HB.out.size))
      clear hb
      go_wp2_with fail
      refine (K5.out _ (HW.out.below HB.out)).mono ?_
      rintro e v16 ⟨rfl, hb⟩
      have HB := Lib.hid ((HB.out.alloc HB.out.size _).trans (hb.mono (by rw [size_alloc]; exact Nat.le_succ_of_le HB.out.size)))
      clear hb K5
      go_wp2_with fail
      refine (law10_text _ _).mono ?_
      rintro e v17 ⟨rfl, hb⟩
      have HB := Lib.hid (HB.out.trans (hb.mono HB.out.size))
      clear hb
      go_wp2_with fail
      refine (law10_text _ _).mono ?_
      rintro e v18 ⟨rfl, hb⟩
      have HB := Lib.hid (HB.out.trans (hb.mono HB.out.size))
      clear hb
      go_wp2_with fail
      refine (K6.out _ (HW.out.below HB.out)).mono ?_
      rintro e v19 ⟨rfl, hb⟩
      have HB := Lib.hid ((HB.out.alloc HB.out.size _).trans (hb.mono (by rw [size_alloc]; exact Nat.le_succ_of_le HB.out.size)))
      clear hb K6
      go_wp2
      go_ret
      exact ⟨rfl, HB.out⟩
  obtain ⟨m, rfl⟩ := Int.eq_ofNat_of_zero_le hr.1
  have hms : m ≤ s.size := by omega
  have K2 := c_cut s 0 m hs5 (by decide) hn (out := T1 (s.extract 0 m) 0) (.inl ⟨_, by unfold wCutV; rw [if_pos (by omega)]; rfl, rfl⟩)
  have K3 := c_cut s m s.size hs5 hn hrs (out := T1 (s.extract m s.size) 0) (.inl ⟨_, by unfold wCutV; rw [if_pos (by omega)]; rfl, rfl⟩)
  have hpc := pieces s m hms
  have hpz : (s.extract 0 m).size = m := hpc.2
  have hsaz : (s.extract 0 m).size ≤ 65535 := by omega
  have hsbz : (s.extract m s.size).size ≤ 65535 := by
    have e : (s.extract 0 m ++ s.extract m s.size).size = s.size := by rw [hpc.1]
    rw [ByteArray.size_append] at e
    omega
  have hps : s.extract 0 m ++ s.extract m s.size = s := hpc.1
  generalize s.extract 0 m = sa at *
  generalize s.extract m s.size = sb at *
  unfold T1 wn_cut at K2 K3
  have K2 := Lib.hid K2
  have K3 := Lib.hid K3
  have t2 : decide ((m : Int) < 0) = false := by simp
  have t3 : decide ((s.size : Int) < (m : Int)) = false := by simp; omega
  have hsame : (s.toList == s.toList) = true := by simp
  clear hr hn hrs hpc
  by_cases hj : s.size + u.size ≤ 65535
  case neg =>
    have K4 := c_join s u hs5 hu5 (out := T1 ⟨#[]⟩ 2) (.inr ⟨2, by decide, by unfold wJoinV; rw [if_neg hj], rfl⟩)
    unfold T1 wn_join at K4
    have K4 := Lib.hid K4
    have t5 : decide ((65535 : Int) < (s.size : Int) + (u.size : Int)) = true := by simp; omega
    clear hj
    go_enter Tryz.func4, Tryz.ntmps4
    go_wp2_with fail
    refine KB.out.mono ?_
    rintro e v0 ⟨rfl, hb⟩
    have HB := Lib.hid (HB.out.trans (hb.mono HB.out.size))
    clear hb KB
    go_wp2_with fail
    refine (law10_text _ _).mono ?_
    rintro e v1 ⟨rfl, hb⟩
    have HB := Lib.hid (HB.out.trans (hb.mono HB.out.size))
    clear hb
    go_wp2_with fail
    refine (K1.out _ (HW.out.below HB.out)).mono ?_
    rintro e v2 ⟨rfl, hb⟩
    have HB := Lib.hid ((HB.out.alloc HB.out.size _).trans (hb.mono (by rw [size_alloc]; exact Nat.le_succ_of_le HB.out.size)))
    clear hb K1
    go_wp2_with fail
    refine (law10_text _ _).mono ?_
    rintro e v3 ⟨rfl, hb⟩
    have HB := Lib.hid (HB.out.trans (hb.mono HB.out.size))
    clear hb
    go_wp2_with fail
    refine (law10_num _ _).mono ?_
    rintro e v4 ⟨rfl, hb⟩
    have HB := Lib.hid (HB.out.trans (hb.mono HB.out.size))
    clear hb
    go_wp2_with fail
    refine (law10_num _ _).mono ?_
    rintro e v5 ⟨rfl, hb⟩
    have HB := Lib.hid (HB.out.trans (hb.mono HB.out.size))
    clear hb
    go_wp2_with fail
    refine (K2.out _ (HW.out.below HB.out)).mono ?_
    rintro e v6 ⟨rfl, hb⟩
    have HB := Lib.hid ((HB.out.alloc HB.out.size _).trans (hb.mono (by rw [size_alloc]; exact Nat.le_succ_of_le HB.out.size)))
    clear hb K2
    go_wp2_with fail
    refine (law10_text _ _).mono ?_
    rintro e v7 ⟨rfl, hb⟩
    have HB := Lib.hid (HB.out.trans (hb.mono HB.out.size))
    clear hb
    go_wp2_with fail
    refine (law10_num _ _).mono ?_
    rintro e v8 ⟨rfl, hb⟩
    have HB := Lib.hid (HB.out.trans (hb.mono HB.out.size))
    clear hb
    go_wp2_with fail
    refine (law10_num _ _).mono ?_
    rintro e v9 ⟨rfl, hb⟩
    have HB := Lib.hid (HB.out.trans (hb.mono HB.out.size))
    clear hb
    go_wp2_with fail
    refine (K3.out _ (HW.out.below HB.out)).mono ?_
    rintro e v10 ⟨rfl, hb⟩
    have HB := Lib.hid ((HB.out.alloc HB.out.size _).trans (hb.mono (by rw [size_alloc]; exact Nat.le_succ_of_le HB.out.size)))
    clear hb K3
    go_wp2_with fail
    refine (law10_text _ _).mono ?_
    rintro e v11 ⟨rfl, hb⟩
    have HB := Lib.hid (HB.out.trans (hb.mono HB.out.size))
    clear hb
    go_wp2_with fail
    refine (law10_text _ _).mono ?_
    rintro e v12 ⟨rfl, hb⟩
    have HB := Lib.hid (HB.out.trans (hb.mono HB.out.size))
    clear hb
    go_wp2_with fail
    refine (K4.out _ (HW.out.below HB.out)).mono ?_
    rintro e v13 ⟨rfl, hb⟩
    have HB := Lib.hid ((HB.out.alloc HB.out.size _).trans (hb.mono (by rw [size_alloc]; exact Nat.le_succ_of_le HB.out.size)))
    clear hb K4
    go_wp2
    go_ret
    exact ⟨rfl, HB.out⟩
  obtain ⟨at_, hat, hle, hex⟩ := found s u
  have K4 := c_join s u hs5 hu5 (out := T1 (s ++ u) 0) (.inl ⟨_, by unfold wJoinV; rw [if_pos hj], rfl⟩)
  have hjs : (s ++ u).size = s.size + u.size := by simp
  have K5 := c_find (s ++ u) u (by omega) hu5
  rw [hat] at K5
  unfold T1 wn_join at K4
  unfold N1 wn_find at K5
  have K4 := Lib.hid K4
  have K5 := Lib.hid K5
  have t5 : decide ((65535 : Int) < (s.size : Int) + (u.size : Int)) = false := by simp; omega
  have t6 : decide ((at_ : Int) < 0) = false := by simp
  have t7 : decide ((s.size : Int) < (at_ : Int)) = false := by simp; omega
  have hle2 : at_ + u.size ≤ (s ++ u).size := by omega
  have h1x : (s ++ ⟨#[120]⟩).size = s.size + 1 := by simp; rfl
  by_cases h5 : s.size = 65535
  case pos =>
    have K6 := c_findx s (s ++ ⟨#[120]⟩) hs5 (by omega) (by omega)
    unfold N1 wn_find at K6
    have K6 := Lib.hid K6
    have t8 : ((s.size : Int) == 65535) = true := by simp; omega
    clear h5 hj hat
    go_enter Tryz.func4, Tryz.ntmps4
    go_wp2_with fail
    refine KB.out.mono ?_
    rintro e v0 ⟨rfl, hb⟩
    have HB := Lib.hid (HB.out.trans (hb.mono HB.out.size))
    clear hb KB
    go_wp2_with fail
    refine (law10_text _ _).mono ?_
    rintro e v1 ⟨rfl, hb⟩
    have HB := Lib.hid (HB.out.trans (hb.mono HB.out.size))
    clear hb
    go_wp2_with fail
    refine (K1.out _ (HW.out.below HB.out)).mono ?_
    rintro e v2 ⟨rfl, hb⟩
    have HB := Lib.hid ((HB.out.alloc HB.out.size _).trans (hb.mono (by rw [size_alloc]; exact Nat.le_succ_of_le HB.out.size)))
    clear hb K1
    go_wp2_with fail
    refine (law10_text _ _).mono ?_
    rintro e v3 ⟨rfl, hb⟩
    have HB := Lib.hid (HB.out.trans (hb.mono HB.out.size))
    clear hb
    go_wp2_with fail
    refine (law10_num _ _).mono ?_
    rintro e v4 ⟨rfl, hb⟩
    have HB := Lib.hid (HB.out.trans (hb.mono HB.out.size))
    clear hb
    go_wp2_with fail
    refine (law10_num _ _).mono ?_
    rintro e v5 ⟨rfl, hb⟩
    have HB := Lib.hid (HB.out.trans (hb.mono HB.out.size))
    clear hb
    go_wp2_with fail
    refine (K2.out _ (HW.out.below HB.out)).mono ?_
    rintro e v6 ⟨rfl, hb⟩
    have HB := Lib.hid ((HB.out.alloc HB.out.size _).trans (hb.mono (by rw [size_alloc]; exact Nat.le_succ_of_le HB.out.size)))
    clear hb K2
    go_wp2_with fail
    refine (law10_text _ _).mono ?_
    rintro e v7 ⟨rfl, hb⟩
    have HB := Lib.hid (HB.out.trans (hb.mono HB.out.size))
    clear hb
    go_wp2_with fail
    refine (law10_num _ _).mono ?_
    rintro e v8 ⟨rfl, hb⟩
    have HB := Lib.hid (HB.out.trans (hb.mono HB.out.size))
    clear hb
    go_wp2_with fail
    refine (law10_num _ _).mono ?_
    rintro e v9 ⟨rfl, hb⟩
    have HB := Lib.hid (HB.out.trans (hb.mono HB.out.size))
    clear hb
    go_wp2_with fail
    refine (K3.out _ (HW.out.below HB.out)).mono ?_
    rintro e v10 ⟨rfl, hb⟩
    have HB := Lib.hid ((HB.out.alloc HB.out.size _).trans (hb.mono (by rw [size_alloc]; exact Nat.le_succ_of_le HB.out.size)))
    clear hb K3
    go_wp2_with fail
    refine (law10_text _ _).mono ?_
    rintro e v11 ⟨rfl, hb⟩
    have HB := Lib.hid (HB.out.trans (hb.mono HB.out.size))
    clear hb
    go_wp2_with fail
    refine (law10_text _ _).mono ?_
    rintro e v12 ⟨rfl, hb⟩
    have HB := Lib.hid (HB.out.trans (hb.mono HB.out.size))
    clear hb
    go_wp2_with fail
    refine (K4.out _ (HW.out.below HB.out)).mono ?_
    rintro e v13 ⟨rfl, hb⟩
    have HB := Lib.hid ((HB.out.alloc HB.out.size _).trans (hb.mono (by rw [size_alloc]; exact Nat.le_succ_of_le HB.out.size)))
    clear hb K4
    go_wp2_with fail
    refine (law10_text _ _).mono ?_
    rintro e v14 ⟨rfl, hb⟩
    have HB := Lib.hid (HB.out.trans (hb.mono HB.out.size))
    clear hb
    go_wp2_with fail
    refine (law10_text _ _).mono ?_
    rintro e v15 ⟨rfl, hb⟩
    have HB := Lib.hid (HB.out.trans (hb.mono HB.out.size))
    clear hb
    go_wp2_with fail
    refine (K5.out _ (HW.out.below HB.out)).mono ?_
    rintro e v16 ⟨rfl, hb⟩
    have HB := Lib.hid ((HB.out.alloc HB.out.size _).trans (hb.mono (by rw [size_alloc]; exact Nat.le_succ_of_le HB.out.size)))
    clear hb K5
    go_wp2_with fail
    refine (law10_text _ _).mono ?_
    rintro e v17 ⟨rfl, hb⟩
    have HB := Lib.hid (HB.out.trans (hb.mono HB.out.size))
    clear hb
    go_wp2_with fail
    refine (law10_text _ _).mono ?_
    rintro e v18 ⟨rfl, hb⟩
    have HB := Lib.hid (HB.out.trans (hb.mono HB.out.size))
    clear hb
    go_wp2_with fail
    refine (K6.out _ (HW.out.below HB.out)).mono ?_
    rintro e v19 ⟨rfl, hb⟩
    have HB := Lib.hid ((HB.out.alloc HB.out.size _).trans (hb.mono (by rw [size_alloc]; exact Nat.le_succ_of_le HB.out.size)))
    clear hb K6
    go_wp2
    go_ret
    exact ⟨rfl, HB.out⟩
  have K6 := c_find s (s ++ ⟨#[120]⟩) hs5 (by omega)
  rw [index_long (by rw [data_len, data_len]; omega)] at K6
  unfold N1 wn_find at K6
  have K6 := Lib.hid K6
  have t8 : ((s.size : Int) == 65535) = false := by simp; omega
  clear h5 hj hat
  go_enter Tryz.func4, Tryz.ntmps4
  go_wp2_with fail
  refine KB.out.mono ?_
  rintro e v0 ⟨rfl, hb⟩
  have HB := Lib.hid (HB.out.trans (hb.mono HB.out.size))
  clear hb KB
  go_wp2_with fail
  refine (law10_text _ _).mono ?_
  rintro e v1 ⟨rfl, hb⟩
  have HB := Lib.hid (HB.out.trans (hb.mono HB.out.size))
  clear hb
  go_wp2_with fail
  refine (K1.out _ (HW.out.below HB.out)).mono ?_
  rintro e v2 ⟨rfl, hb⟩
  have HB := Lib.hid ((HB.out.alloc HB.out.size _).trans (hb.mono (by rw [size_alloc]; exact Nat.le_succ_of_le HB.out.size)))
  clear hb K1
  go_wp2_with fail
  refine (law10_text _ _).mono ?_
  rintro e v3 ⟨rfl, hb⟩
  have HB := Lib.hid (HB.out.trans (hb.mono HB.out.size))
  clear hb
  go_wp2_with fail
  refine (law10_num _ _).mono ?_
  rintro e v4 ⟨rfl, hb⟩
  have HB := Lib.hid (HB.out.trans (hb.mono HB.out.size))
  clear hb
  go_wp2_with fail
  refine (law10_num _ _).mono ?_
  rintro e v5 ⟨rfl, hb⟩
  have HB := Lib.hid (HB.out.trans (hb.mono HB.out.size))
  clear hb
  go_wp2_with fail
  refine (K2.out _ (HW.out.below HB.out)).mono ?_
  rintro e v6 ⟨rfl, hb⟩
  have HB := Lib.hid ((HB.out.alloc HB.out.size _).trans (hb.mono (by rw [size_alloc]; exact Nat.le_succ_of_le HB.out.size)))
  clear hb K2
  go_wp2_with fail
  refine (law10_text _ _).mono ?_
  rintro e v7 ⟨rfl, hb⟩
  have HB := Lib.hid (HB.out.trans (hb.mono HB.out.size))
  clear hb
  go_wp2_with fail
  refine (law10_num _ _).mono ?_
  rintro e v8 ⟨rfl, hb⟩
  have HB := Lib.hid (HB.out.trans (hb.mono HB.out.size))
  clear hb
  go_wp2_with fail
  refine (law10_num _ _).mono ?_
  rintro e v9 ⟨rfl, hb⟩
  have HB := Lib.hid (HB.out.trans (hb.mono HB.out.size))
  clear hb
  go_wp2_with fail
  refine (K3.out _ (HW.out.below HB.out)).mono ?_
  rintro e v10 ⟨rfl, hb⟩
  have HB := Lib.hid ((HB.out.alloc HB.out.size _).trans (hb.mono (by rw [size_alloc]; exact Nat.le_succ_of_le HB.out.size)))
  clear hb K3
  go_wp2_with fail
  refine (law10_text _ _).mono ?_
  rintro e v11 ⟨rfl, hb⟩
  have HB := Lib.hid (HB.out.trans (hb.mono HB.out.size))
  clear hb
  go_wp2_with fail
  refine (law10_text _ _).mono ?_
  rintro e v12 ⟨rfl, hb⟩
  have HB := Lib.hid (HB.out.trans (hb.mono HB.out.size))
  clear hb
  go_wp2_with fail
  refine (K4.out _ (HW.out.below HB.out)).mono ?_
  rintro e v13 ⟨rfl, hb⟩
  have HB := Lib.hid ((HB.out.alloc HB.out.size _).trans (hb.mono (by rw [size_alloc]; exact Nat.le_succ_of_le HB.out.size)))
  clear hb K4
  go_wp2_with fail
  refine (law10_text _ _).mono ?_
  rintro e v14 ⟨rfl, hb⟩
  have HB := Lib.hid (HB.out.trans (hb.mono HB.out.size))
  clear hb
  go_wp2_with fail
  refine (law10_text _ _).mono ?_
  rintro e v15 ⟨rfl, hb⟩
  have HB := Lib.hid (HB.out.trans (hb.mono HB.out.size))
  clear hb
  go_wp2_with fail
  refine (K5.out _ (HW.out.below HB.out)).mono ?_
  rintro e v16 ⟨rfl, hb⟩
  have HB := Lib.hid ((HB.out.alloc HB.out.size _).trans (hb.mono (by rw [size_alloc]; exact Nat.le_succ_of_le HB.out.size)))
  clear hb K5
  go_wp2_with fail
  refine (law10_text _ _).mono ?_
  rintro e v17 ⟨rfl, hb⟩
  have HB := Lib.hid (HB.out.trans (hb.mono HB.out.size))
  clear hb
  go_wp2_with fail
  refine (law10_text _ _).mono ?_
  rintro e v18 ⟨rfl, hb⟩
  have HB := Lib.hid (HB.out.trans (hb.mono HB.out.size))
  clear hb
  go_wp2_with fail
  refine (K6.out _ (HW.out.below HB.out)).mono ?_
  rintro e v19 ⟨rfl, hb⟩
  have HB := Lib.hid ((HB.out.alloc HB.out.size _).trans (hb.mono (by rw [size_alloc]; exact Nat.le_succ_of_le HB.out.size)))
  clear hb K6
  go_wp2
  go_ret
  exact ⟨rfl, HB.out⟩
end Go.Proofs.YthjpphojddbbmaaGreatDoor
