/-
  espalierref10.rep: a walk. Printed by a program of mine (gen_r10d.py). Conditions: a text of at most 65,535 bytes.
-/
import Derived.Test.YthjpphojddbbmaaGreatDoorCR10c
namespace Go.Proofs.YthjpphojddbbmaaGreatDoor
open Go.RowKit
set_option linter.unusedVariables false
set_option linter.unusedSimpArgs false

theorem strCells_eq (s : ByteArray) : Lib.strCells s = Lib.byteCells s.data.toList := rfl
theorem byteCells_app (l m : List UInt8) : Lib.byteCells (l ++ m) = Lib.byteCells l ++ Lib.byteCells m := by simp [Lib.byteCells]
set_option maxRecDepth 100000 in
set_option maxHeartbeats 8000000 in
theorem r_rep (s : ByteArray) (n : Int) (hs : s.size ≤ 65535) (w : World) : Calls Tryz.prog 61 #[.string s, .int .i64 n] w (Bel (pairW (repR s n)) w) := by
  obtain ⟨i0, hi, hz0, hz1, hz2⟩ := info_parts info_byte
  have HX0 := Lib.hid (heap_alloc_new w (.cells #[.int .i64 0, .int .i64 0, .string ⟨#[]⟩, .slice none 0 0] 34))
  have HB0 := Lib.hid ((Below.refl w.heap.size w).alloc (Nat.le_refl _) (.cells #[.int .i64 0, .int .i64 0, .string ⟨#[]⟩, .slice none 0 0] 34))
  have HE := Lib.hid (t_empty_of s)
  by_cases hn : n < 0
  · have hr := Lib.hid (show repR s n = (23, .unit) by unfold repR; rw [if_pos hn])
    have d1 : decide (n < 0) = true := by simpa using hn
    clear hn
    go_enter Tryz.func61, Tryz.ntmps61
    go_wp2
    rw [hr.out]
    refine bodyPost_ret (fn := Tryz.f61) (v := pairW (23, .unit)) (res_cell_tmp (p := 4) (q := 5) (ty := 34) (a := ⟨w.heap.size, 0, none⟩) Tryz.results61 rfl (run_loadVar_row (P := Tryz.prog) _ _ _ 34 _ _ _ HX0.out Tryz.underlying34 rfl (by kernel_rfl)) rfl) rfl ?_
    exact ⟨rfl, HB0.out⟩
  have d1 : decide (n < 0) = false := by simpa using hn
  by_cases h0 : s.size = 0
  · have hr := Lib.hid (show repR s n = (0, .text ⟨#[]⟩) by unfold repR; rw [if_neg hn, if_pos h0])
    have d2 := HE.out.1 h0
    clear h0 hn
    go_enter Tryz.func61, Tryz.ntmps61
    go_wp2_with fail
    refine (r_text _ _).mono ?_
    rintro e w1 ⟨rfl, hb1⟩
    have HX1 := Lib.hid ((hb1.block _ (lt_of_block HX0.out)).trans HX0.out)
    have HB1 := Lib.hid (HB0.out.trans (hb1.mono HB0.out.size))
    have x1 := blk_cells9 HX1.out
    clear hb1
    go_wp2
    rw [hr.out]
    refine bodyPost_ret (fn := Tryz.f61) (v := pairW (0, .text ⟨#[]⟩)) (res_cell_tmp (p := 4) (q := 5) (ty := 34) (a := ⟨w.heap.size, 0, none⟩) Tryz.results61 rfl (run_loadVar_row (P := Tryz.prog) _ _ _ 34 _ _ _ (blk_set (blk_set (blk_set (blk_set HX1.out 0 (.int .i64 4)) 1 (.int .i64 0)) 2 (.string ⟨#[]⟩)) 3 (.slice none 0 0)) Tryz.underlying34 rfl (by kernel_rfl)) rfl) rfl ?_
    exact ⟨rfl, below_put4 HB1.out _ _ _ _⟩
  have d2 := HE.out.2 h0
  have hz : 0 < (s.size : Int) := by omega
  obtain ⟨m, rfl⟩ := Int.eq_ofNat_of_zero_le (show 0 ≤ n by omega)
  by_cases h1 : 65535 < (m : Int) * (s.size : Int)
  · have hr := Lib.hid (show repR s m = (2, .unit) by unfold repR; rw [if_neg hn, if_neg h0, if_pos ((rep_bound hz).2 h1)])
    have HH : Hid ((decide (65535 < (m : Int)) = true) ∨ (decide (65535 < (m : Int)) = false ∧ decide (65535 < (m : Int) * (s.size : Int)) = true ∧ (m : Int) ≤ 65535)) := Lib.hid (by
      by_cases h2 : 65535 < (m : Int)
      · exact .inl (by simpa using h2)
      · exact .inr ⟨by simpa using h2, by simpa using h1, by omega⟩)
    clear hn h0 h1 hz
    rcases HH.out with d3 | ⟨d3, d4, hm⟩
    · go_enter Tryz.func61, Tryz.ntmps61
      go_wp2
      rw [hr.out]
      refine bodyPost_ret (fn := Tryz.f61) (v := pairW (2, .unit)) (res_cell_tmp (p := 4) (q := 5) (ty := 34) (a := ⟨w.heap.size, 0, none⟩) Tryz.results61 rfl (run_loadVar_row (P := Tryz.prog) _ _ _ 34 _ _ _ HX0.out Tryz.underlying34 rfl (by kernel_rfl)) rfl) rfl ?_
      exact ⟨rfl, HB0.out⟩
    · have hmul : (m : Int) * (s.size : Int) ≤ 65535 * 65535 := by
        exact Int.mul_le_mul hm (by omega) (by omega) (by omega)
      have hmul0 : 0 ≤ (m : Int) * (s.size : Int) := Int.mul_nonneg (by omega) (by omega)
      have hw : wrap64 ((m : Int) * (s.size : Int)) = (m : Int) * (s.size : Int) := wrap_rng (rng_iff.2 ⟨by omega, by omega⟩)
      have d5 : decide (65535 < wrap64 ((m : Int) * (s.size : Int))) = true := by rw [hw]; exact d4
      have HS0 := Lib.hid hs
      clear hmul hmul0 hm hw d4 hs
      go_enter Tryz.func61, Tryz.ntmps61
      go_wp2
      rw [hr.out]
      refine bodyPost_ret (fn := Tryz.f61) (v := pairW (2, .unit)) (res_cell_tmp (p := 4) (q := 5) (ty := 34) (a := ⟨w.heap.size, 0, none⟩) Tryz.results61 rfl (run_loadVar_row (P := Tryz.prog) _ _ _ 34 _ _ _ HX0.out Tryz.underlying34 rfl (by kernel_rfl)) rfl) rfl ?_
      exact ⟨rfl, HB0.out⟩
  · have hr := Lib.hid (show repR s m = (0, .text ⟨(Lib.repeatL s.data.toList m).toArray⟩) by unfold repR; rw [if_neg hn, if_neg h0, if_neg (fun h => h1 ((rep_bound hz).1 h))]; rfl)
    have hle : (m : Int) * 1 ≤ (m : Int) * (s.size : Int) := Int.mul_le_mul_of_nonneg_left (by omega) (by omega)
    have hm : (m : Int) ≤ 65535 := by omega
    have d3 : decide (65535 < (m : Int)) = false := by simp; omega
    have d4 : decide (65535 < (m : Int) * (s.size : Int)) = false := by simpa using h1
    have HM : Hid (m * s.size ≤ 65535) := Lib.hid (by have h3 : ((m * s.size : Nat) : Int) ≤ 65535 := by (rw [Int.natCast_mul]; omega)
                                                      omega)
    have hmul : (m : Int) * (s.size : Int) ≤ 65535 := by omega
    have hmul0 : 0 ≤ (m : Int) * (s.size : Int) := Int.mul_nonneg (by omega) (by omega)
    have HSL : Hid (s.size = s.data.toList.length) := Lib.hid (Lib.size_eq s)
    have hm' : m ≤ 65535 := by omega
    have hw : wrap64 ((m : Int) * (s.size : Int)) = (m : Int) * (s.size : Int) := wrap_rng (rng_iff.2 ⟨by omega, by omega⟩)
    clear hn h0 h1 hz hle hmul hmul0
    go_enter Tryz.func61, Tryz.ntmps61
    go_wp2
    clear hw
    go_loopw [6, 7] (fun s6 s7 wr => ∃ k : Nat, k ≤ m ∧ s7 = .int .i64 (k : Int) ∧ Hid (wr.ownsRow (w.heap.size + 1) 5 1 s6 (Lib.repeatL s.data.toList k).length (Lib.byteCells (Lib.repeatL s.data.toList k))) ∧ wr.heap[w.heap.size]? = some (.cells #[.int .i64 0, .int .i64 0, .string ⟨#[]⟩, .slice none 0 0] 34 (0, 0)) ∧ Below w.heap.size w wr) (fun _ s7 _ => m - (intOf s7).toNat)
    case atStart => exact ⟨0, Nat.zero_le _, rfl, Lib.hid (World.ownsRow_nil _ _ _ _), HX0.out, HB0.out⟩
    case round =>
      obtain ⟨k, hk, rfl, HO, hx, hb⟩ := hrel
      have HX := Lib.hid hx
      have HB := Lib.hid hb
      have hxl := lt_of_block hx
      clear hx hb
      have HLEN : Hid ((Lib.repeatL s.data.toList k).length + s.size ≤ 131070) := Lib.hid (by
        rw [Lib.repeatL_length, ← HSL.out]
        have h3 : k * s.size ≤ m * s.size := Nat.mul_le_mul_right _ hk
        have := HM.out
        omega)
      by_cases hlt : k < m
      · go_wp2_with (at_builtin; refine Lib.wpList_append_own_string _ rfl _ _ 160 9 rfl (w.heap.size + 1) 5 i0 Tryz.underlying160 Tryz.underlying9 hi hz0 hz1 hz2 _ _ _ rfl HO.out s rfl (by have := HLEN.out; unfold maxLen; omega) (by have := HLEN.out; omega) (by omega) ?_)
        intro v' w3 hown3 hgr3 _
        have HO3 : Hid (w3.ownsRow (w.heap.size + 1) 5 1 v' (Lib.repeatL s.data.toList (k + 1)).length (Lib.byteCells (Lib.repeatL s.data.toList (k + 1)))) := Lib.hid (by
          rw [← rep_snoc, byteCells_app, List.length_append, ← HSL.out]
          rw [strCells_eq] at hown3
          exact hown3)
        have HX3 := Lib.hid ((hgr3.block _ hxl (fun e => by have := (HO.out.lt _ e.symm).1; omega)).trans HX.out)
        have HB3 := Lib.hid (HB.out.grown hgr3 HB.out.size (fun g e => by have := (HO.out.lt g e).1; omega))
        clear hown3 hgr3
        go_wp2
        go_roundw
        case rel => exact ⟨k + 1, by omega, by go_num, HO3, HX3.out, HB3.out⟩
        case measure => simp [intOf]; omega
      · obtain rfl : k = m := by omega
        have hcv := conv_own HO.out
        go_wp2_with fail
        refine (r_text _ _).mono ?_
        rintro e w1 ⟨rfl, hb1⟩
        have HX1 := Lib.hid ((hb1.block _ hxl).trans HX.out)
        have HB1 := Lib.hid (HB.out.trans (hb1.mono HB.out.size))
        have x1 := blk_cells9 HX1.out
        clear hb1 hcv
        go_wp2
        rw [hr.out]
        refine bodyPost_ret (fn := Tryz.f61) (v := pairW (0, .text ⟨(Lib.repeatL s.data.toList k).toArray⟩)) (res_cell_tmp (p := 4) (q := 5) (ty := 34) (a := ⟨w.heap.size, 0, none⟩) Tryz.results61 rfl (run_loadVar_row (P := Tryz.prog) _ _ _ 34 _ _ _ (blk_set (blk_set (blk_set (blk_set HX1.out 0 (.int .i64 4)) 1 (.int .i64 0)) 2 (.string ⟨(Lib.repeatL s.data.toList k).toArray⟩)) 3 (.slice none 0 0)) Tryz.underlying34 rfl (by kernel_rfl)) rfl) rfl ?_
        exact ⟨rfl, below_put4 HB1.out _ _ _ _⟩
end Go.Proofs.YthjpphojddbbmaaGreatDoor
