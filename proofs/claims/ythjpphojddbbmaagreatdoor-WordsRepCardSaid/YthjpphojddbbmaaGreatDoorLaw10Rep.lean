/-
  espalierlaw10.WordsRep: walks. Printed by a program of mine (gen_wlaw.py). Conditions: what package words asks of memory.
-/
import Derived.Test.YthjpphojddbbmaaGreatDoorLaw10Begun
namespace Go.Proofs.YthjpphojddbbmaaGreatDoor
open Go.RowKit
set_option linter.unusedVariables false
set_option linter.unusedSimpArgs false

set_option maxRecDepth 100000 in
set_option maxHeartbeats 8000000 in
theorem law_WordsRep (s : ByteArray) (n : Int) (w : World) (hs : s.size ≤ 140737488351232) (hn : rng n = true) (hw : Ws w) : Calls Tryz.prog 6 #[.string s, .int .i64 n] w (Bel (.bool true) w) := by
  have KB := Lib.hid (law10_begun w hw)
  have HW := Lib.hid hw
  have HB : Hid (Below w.heap.size w w) := Below.refl _ _
  clear hw
  by_cases hbig : 65535 < s.size
  · have t0 : decide ((65535 : Int) < (s.size : Int)) = true := by simp; omega
    clear hbig hn
    go_enter Tryz.func6, Tryz.ntmps6
    go_wp2_with fail
    refine KB.out.mono ?_
    rintro e v0 ⟨rfl, hb⟩
    have HB := Lib.hid (HB.out.trans (hb.mono HB.out.size))
    clear hb KB
    go_wp2
    go_ret
    exact ⟨rfl, HB.out⟩
  have t0 : decide ((65535 : Int) < (s.size : Int)) = false := by simp; omega
  have hempty : t_empty s := t_empty_of s
  by_cases h1 : n < 0
  · have K := c_rep s n (by omega) hn (out := T1 ⟨#[]⟩ 23) (.inr ⟨23, by decide, by unfold wRep; rw [if_pos h1], rfl⟩)
    unfold T1 wn_rep at K
    have K := Lib.hid K
    have t1 : decide (n < 0) = true := by simpa using h1
    clear h1 hempty hbig hn
    go_enter Tryz.func6, Tryz.ntmps6
    go_wp2_with fail
    refine KB.out.mono ?_
    rintro e v0 ⟨rfl, hb⟩
    have HB := Lib.hid (HB.out.trans (hb.mono HB.out.size))
    clear hb KB
    go_wp2_with fail
    refine (law10_text _ _).mono ?_
    rintro e v1 ⟨rfl, hb⟩
    have HB := Lib.hid (HB.out.trans (hb.mono HB.out.size))
    clear hb
    go_wp2_with fail
    refine (law10_num _ _).mono ?_
    rintro e v2 ⟨rfl, hb⟩
    have HB := Lib.hid (HB.out.trans (hb.mono HB.out.size))
    clear hb
    go_wp2_with fail
    refine (K.out _ (HW.out.below HB.out)).mono ?_
    rintro e v3 ⟨rfl, hb⟩
    have HB := Lib.hid ((HB.out.alloc HB.out.size _).trans (hb.mono (by rw [size_alloc]; exact Nat.le_succ_of_le HB.out.size)))
    clear hb K
    go_wp2
    go_ret
    exact ⟨rfl, HB.out⟩
  have t1 : decide (n < 0) = false := by simpa using h1
  by_cases h2 : s.size = 0
  · have K := c_rep s n (by omega) hn (out := T1 ⟨#[]⟩ 0) (.inl ⟨⟨#[]⟩, by unfold wRep; rw [if_neg h1, if_pos h2], rfl⟩)
    unfold T1 wn_rep at K
    have K := Lib.hid K
    have t2 : s.toList.isEmpty = true := hempty.1 h2
    have t2' : s.toList = [] := by simpa using t2
    clear h1 h2 hempty hbig hn
    go_enter Tryz.func6, Tryz.ntmps6
    go_wp2_with fail
    refine KB.out.mono ?_
    rintro e v0 ⟨rfl, hb⟩
    have HB := Lib.hid (HB.out.trans (hb.mono HB.out.size))
    clear hb KB
    go_wp2_with fail
    refine (law10_text _ _).mono ?_
    rintro e v1 ⟨rfl, hb⟩
    have HB := Lib.hid (HB.out.trans (hb.mono HB.out.size))
    clear hb
    go_wp2_with fail
    refine (law10_num _ _).mono ?_
    rintro e v2 ⟨rfl, hb⟩
    have HB := Lib.hid (HB.out.trans (hb.mono HB.out.size))
    clear hb
    go_wp2_with fail
    refine (K.out _ (HW.out.below HB.out)).mono ?_
    rintro e v3 ⟨rfl, hb⟩
    have HB := Lib.hid ((HB.out.alloc HB.out.size _).trans (hb.mono (by rw [size_alloc]; exact Nat.le_succ_of_le HB.out.size)))
    clear hb K
    go_wp2
    go_ret
    exact ⟨rfl, HB.out⟩
  have t2 : s.toList.isEmpty = false := hempty.2 h2
  have hz1 : 1 ≤ (s.size : Int) := by omega
  by_cases h3 : 65535 / (s.size : Int) < n
  · have K := c_rep s n (by omega) hn (out := T1 ⟨#[]⟩ 2) (.inr ⟨2, by decide, by unfold wRep; rw [if_neg h1, if_neg h2, if_pos h3], rfl⟩)
    unfold T1 wn_rep at K
    have K := Lib.hid K
    have t3 : decide (65535 / (s.size : Int) < n) = true := by simpa using h3
    clear h1 h2 h3 hempty hbig hn
    go_enter Tryz.func6, Tryz.ntmps6
    go_wp2_with fail
    refine KB.out.mono ?_
    rintro e v0 ⟨rfl, hb⟩
    have HB := Lib.hid (HB.out.trans (hb.mono HB.out.size))
    clear hb KB
    go_wp2_with fail
    refine (law10_text _ _).mono ?_
    rintro e v1 ⟨rfl, hb⟩
    have HB := Lib.hid (HB.out.trans (hb.mono HB.out.size))
    clear hb
    go_wp2_with fail
    refine (law10_num _ _).mono ?_
    rintro e v2 ⟨rfl, hb⟩
    have HB := Lib.hid (HB.out.trans (hb.mono HB.out.size))
    clear hb
    go_wp2_with fail
    refine (K.out _ (HW.out.below HB.out)).mono ?_
    rintro e v3 ⟨rfl, hb⟩
    have HB := Lib.hid ((HB.out.alloc HB.out.size _).trans (hb.mono (by rw [size_alloc]; exact Nat.le_succ_of_le HB.out.size)))
    clear hb K
    go_wp2
    go_ret
    exact ⟨rfl, HB.out⟩
  have t3 : decide (65535 / (s.size : Int) < n) = false := by simpa using h3
  have K := c_rep s n (by omega) hn (out := T1 ⟨(Lib.repeatL s.data.toList n.toNat).toArray⟩ 0) (.inl ⟨_, by unfold wRep; rw [if_neg h1, if_neg h2, if_neg h3], rfl⟩)
  obtain ⟨m, rfl⟩ := Int.eq_ofNat_of_zero_le (show 0 ≤ n by omega)
  simp only [Int.toNat_natCast] at K
  have hm : m * s.size ≤ 65535 := by
    have h4 : (m : Int) ≤ 65535 / (s.size : Int) := by omega
    have h5 := (Int.le_ediv_iff_mul_le (show (0 : Int) < s.size by omega)).1 h4
    have h6 : ((m * s.size : Nat) : Int) ≤ 65535 := by rw [Int.natCast_mul]; exact h5
    omega
  have hzs : (⟨(Lib.repeatL s.data.toList m).toArray⟩ : ByteArray).size = m * s.size := by
    show (Lib.repeatL s.data.toList m).toArray.size = _
    rw [List.size_toArray, Lib.repeatL_length, data_len]
  have hzg : ∀ k (h : k < (⟨(Lib.repeatL s.data.toList m).toArray⟩ : ByteArray).size) (h' : k % s.size < s.size), (⟨(Lib.repeatL s.data.toList m).toArray⟩ : ByteArray)[k] = s[k % s.size] := fun k h h' => by
    have hg := rep_get s.data.toList (by rw [data_len]; omega) m k (by rw [data_len]; rw [hzs] at h; exact h)
    rw [data_len, List.getElem?_eq_getElem (by rw [Lib.repeatL_length, data_len]; rw [hzs] at h; exact h), List.getElem?_eq_getElem (by rw [data_len]; exact h')] at hg
    have hg' := Option.some.inj hg
    show (Lib.repeatL s.data.toList m).toArray[k] = s.data[k % s.size]
    rw [List.getElem_toArray, hg', Array.getElem_toList]
  have HZS := Lib.hid hzs
  have HZG := Lib.hid hzg
  generalize (⟨(Lib.repeatL s.data.toList m).toArray⟩ : ByteArray) = z at *
  unfold T1 wn_rep at K
  have K := Lib.hid K
  have hzle : z.size ≤ 65535 := by omega
  have hm2 : m ≤ 65535 := Nat.le_trans (Nat.le_mul_of_pos_right m (by omega)) hm
  have hmul : ((m : Int) * (s.size : Int)) = (z.size : Int) := by rw [← Int.natCast_mul, hzs]
  have hpos : 0 < s.size := by omega
  clear h1 h2 h3 hempty hbig hn hzs hzg hm
  go_enter Tryz.func6, Tryz.ntmps6
  go_wp2_with fail
  refine KB.out.mono ?_
  rintro e v0 ⟨rfl, hb⟩
  have HB := Lib.hid (HB.out.trans (hb.mono HB.out.size))
  clear hb KB
  go_wp2_with fail
  refine (law10_text _ _).mono ?_
  rintro e v1 ⟨rfl, hb⟩
  have HB := Lib.hid (HB.out.trans (hb.mono HB.out.size))
  clear hb
  go_wp2_with fail
  refine (law10_num _ _).mono ?_
  rintro e v2 ⟨rfl, hb⟩
  have HB := Lib.hid (HB.out.trans (hb.mono HB.out.size))
  clear hb
  go_wp2_with fail
  refine (K.out _ (HW.out.below HB.out)).mono ?_
  rintro e v3 ⟨rfl, hb⟩
  have HB := Lib.hid ((HB.out.alloc HB.out.size _).trans (hb.mono (by rw [size_alloc]; exact Nat.le_succ_of_le HB.out.size)))
  clear hb K
  go_wp2
  clear hmul t0 t1 t2 t3
  go_loopw [7] (fun s7 wr => ∃ k : Nat, k ≤ z.size ∧ s7 = .int .i64 (k : Int) ∧ Below w.heap.size w wr) (fun s7 _ => z.size - (intOf s7).toNat)
  case atStart => exact ⟨0, Nat.zero_le _, rfl, HB.out⟩
  case round =>
    obtain ⟨k, hk, rfl, hbel⟩ := hrel
    have HB := Lib.hid hbel
    clear hbel
    by_cases hlt : k < z.size
    · have hmod : k % s.size < s.size := Nat.mod_lt _ hpos
      have HG : Hid (((z[k].toNat : Int) != (s[k % s.size].toNat : Int)) = false) := Lib.hid (by rw [HZG.out k hlt hmod]; simp)
      have tm : Int.tmod (k : Int) (s.size : Int) = (k : Int) % (s.size : Int) := Int.tmod_eq_emod_of_nonneg (by omega)
      have te : ((k : Int) % (s.size : Int)).toNat = k % s.size := by rw [← Int.natCast_emod]; rfl
      have tp : 0 ≤ (k : Int) % (s.size : Int) := by rw [← Int.natCast_emod]; omega
      have tq : (k : Int) % (s.size : Int) < (s.size : Int) := by rw [← Int.natCast_emod]; omega
      go_wp2
      go_quiet (fail)
      have hg := HG.out
      go_wp2
      go_roundw
      case rel => exact ⟨k + 1, by omega, by go_num, below_drewN HB.out _⟩
      case measure => simp [intOf]; omega
    · go_wp2
      go_ret
      exact ⟨rfl, HB.out⟩
end Go.Proofs.YthjpphojddbbmaaGreatDoor
