/-
  espalierref10.work at each operation: walks. Printed by a program of mine (gen_r10f.py). Conditions: texts of at most 65,535 bytes; the values lie in memory.
-/
import Derived.Test.YthjpphojddbbmaaGreatDoorCR10e
import Derived.Test.YthjpphojddbbmaaGreatDoorCPlWords
namespace Go.Proofs.YthjpphojddbbmaaGreatDoor
open Go.RowKit
set_option linter.unusedVariables false
set_option linter.unusedSimpArgs false

def vJoin (s t : ByteArray) : Int × Vl := if s.size + t.size ≤ 65535 then (0, .text (s ++ t)) else (2, .unit)
def vCut (s : ByteArray) (x y : Int) : Int × Vl := if 0 ≤ x ∧ x ≤ y ∧ y ≤ s.size then (0, .text (s.extract x.toNat y.toNat)) else (23, .unit)
def vNum (s : ByteArray) : Int × Vl := match Lib.parseIntB 64 s.data.toList with
  | .ok v => if (⟨(Lib.itoa v).toArray⟩ : ByteArray) = s then (0, .int v) else (24, .unit)
  | _ => (24, .unit)
theorem vNum_is {s : ByteArray} {n : Int} (h : IsNum s n) : vNum s = (0, .int n) := by
  have h1 := rng_iff.1 h.1
  unfold vNum
  rw [h.2, parse_itoa (by omega) (by omega)]
  have e : (⟨(Lib.itoa n).toArray⟩ : ByteArray) = s := by
    rw [← h.2]
  simp only [e, if_true]
theorem vNum_not {s : ByteArray} (h : ∀ n, ¬ IsNum s n) : vNum s = (24, .unit) := by
  unfold vNum
  split
  · rename_i v hv
    rw [if_neg]
    intro e
    have h1 := w_parse_rng hv
    exact h v ⟨rng_iff.2 ⟨by omega, by omega⟩, by rw [← e]⟩
  · rfl
set_option maxRecDepth 100000 in
set_option maxHeartbeats 4000000 in
theorem r_work_size (s0 : ByteArray) (hs0 : s0.size ≤ 65535) (b o c : Nat) (w : World) (e0t : w.cell? ⟨b, o + 2, none⟩ = some (.string s0)) : Calls Tryz.prog 30 #[.string ⟨#[119, 111, 114, 100, 115, 46, 115, 105, 122, 101]⟩, .slice (some ⟨b, o, none⟩) 1 c] w (Bel (pairW (0, .int s0.size)) w) := by
  have HX0 := Lib.hid (heap_alloc_new w (.cells #[.int .i64 0, .int .i64 0, .string ⟨#[]⟩, .slice none 0 0] 34))
  have HB0 := Lib.hid ((Below.refl w.heap.size w).alloc (Nat.le_refl _) (.cells #[.int .i64 0, .int .i64 0, .string ⟨#[]⟩, .slice none 0 0] 34))
  have g0t : (w.alloc (.cells #[.int .i64 0, .int .i64 0, .string ⟨#[]⟩, .slice none 0 0] 34)).cell? ⟨b, o + 2, none⟩ = some (.string s0) := alloc_cell _ e0t
  go_enter Tryz.func30, Tryz.ntmps30
  go_wp2_with fail
  refine (r_num _ _).mono ?_
  rintro e w1 ⟨rfl, hb1⟩
  have HX1 := Lib.hid ((hb1.block _ (lt_of_block HX0.out)).trans HX0.out)
  have HB1 := Lib.hid (HB0.out.trans (hb1.mono HB0.out.size))
  have u1 := blk_cells9 HX1.out
  clear hb1
  obtain ⟨u1, v1⟩ := u1
  go_wp2
  refine bodyPost_ret (fn := Tryz.f30) (v := pairW (0, .int s0.size)) (res_cell_tmp (p := 4) (q := 5) (ty := 34) (a := ⟨w.heap.size, 0, none⟩) Tryz.results30 rfl (run_loadVar_row (P := Tryz.prog) _ _ _ 34 _ _ _ (blk_set (blk_set (blk_set (blk_set HX1.out 0 (.int .i64 3)) 1 (.int .i64 s0.size)) 2 (.string ⟨#[]⟩)) 3 (.slice none 0 0)) Tryz.underlying34 rfl (by kernel_rfl)) rfl) rfl ?_
  exact ⟨rfl, below_put4 HB1.out _ _ _ _⟩
set_option maxRecDepth 100000 in
set_option maxHeartbeats 4000000 in
theorem r_work_join (s0 : ByteArray) (hs0 : s0.size ≤ 65535) (s1 : ByteArray) (hs1 : s1.size ≤ 65535) (b o c : Nat) (w : World) (e0t : w.cell? ⟨b, o + 2, none⟩ = some (.string s0)) (e1t : w.cell? ⟨b, o + 6, none⟩ = some (.string s1)) : Calls Tryz.prog 30 #[.string ⟨#[119, 111, 114, 100, 115, 46, 106, 111, 105, 110]⟩, .slice (some ⟨b, o, none⟩) 2 c] w (Bel (pairW (vJoin s0 s1)) w) := by
  have HX0 := Lib.hid (heap_alloc_new w (.cells #[.int .i64 0, .int .i64 0, .string ⟨#[]⟩, .slice none 0 0] 34))
  have HB0 := Lib.hid ((Below.refl w.heap.size w).alloc (Nat.le_refl _) (.cells #[.int .i64 0, .int .i64 0, .string ⟨#[]⟩, .slice none 0 0] 34))
  have g0t : (w.alloc (.cells #[.int .i64 0, .int .i64 0, .string ⟨#[]⟩, .slice none 0 0] 34)).cell? ⟨b, o + 2, none⟩ = some (.string s0) := alloc_cell _ e0t
  have g1t : (w.alloc (.cells #[.int .i64 0, .int .i64 0, .string ⟨#[]⟩, .slice none 0 0] 34)).cell? ⟨b, o + 6, none⟩ = some (.string s1) := alloc_cell _ e1t
  by_cases h : s0.size + s1.size ≤ 65535
  · have hr := Lib.hid (show vJoin s0 s1 = (0, .text (s0 ++ s1)) by unfold vJoin; rw [if_pos h])
    have d1 : decide ((65535 : Int) < (s0.size : Int) + (s1.size : Int)) = false := by simp; omega
    clear h
    rw [hr.out]
    go_enter Tryz.func30, Tryz.ntmps30
    go_wp2_with fail
    refine (r_text _ _).mono ?_
    rintro e w1 ⟨rfl, hb1⟩
    have HX1 := Lib.hid ((hb1.block _ (lt_of_block HX0.out)).trans HX0.out)
    have HB1 := Lib.hid (HB0.out.trans (hb1.mono HB0.out.size))
    have u1 := blk_cells9 HX1.out
    clear hb1
    obtain ⟨u1, v1⟩ := u1
    go_wp2
    refine bodyPost_ret (fn := Tryz.f30) (v := pairW (0, .text (s0 ++ s1))) (res_cell_tmp (p := 4) (q := 5) (ty := 34) (a := ⟨w.heap.size, 0, none⟩) Tryz.results30 rfl (run_loadVar_row (P := Tryz.prog) _ _ _ 34 _ _ _ (blk_set (blk_set (blk_set (blk_set HX1.out 0 (.int .i64 4)) 1 (.int .i64 0)) 2 (.string (s0 ++ s1))) 3 (.slice none 0 0)) Tryz.underlying34 rfl (by kernel_rfl)) rfl) rfl ?_
    exact ⟨rfl, below_put4 HB1.out _ _ _ _⟩
  · have hr := Lib.hid (show vJoin s0 s1 = (2, .unit) by unfold vJoin; rw [if_neg h])
    have d1 : decide ((65535 : Int) < (s0.size : Int) + (s1.size : Int)) = true := by simp; omega
    clear h
    rw [hr.out]
    go_enter Tryz.func30, Tryz.ntmps30
    go_wp2
    refine bodyPost_ret (fn := Tryz.f30) (v := pairW (2, .unit)) (res_cell_tmp (p := 4) (q := 5) (ty := 34) (a := ⟨w.heap.size, 0, none⟩) Tryz.results30 rfl (run_loadVar_row (P := Tryz.prog) _ _ _ 34 _ _ _ HX0.out Tryz.underlying34 rfl (by kernel_rfl)) rfl) rfl ?_
    exact ⟨rfl, HB0.out⟩
set_option maxRecDepth 100000 in
set_option maxHeartbeats 4000000 in
theorem r_work_find (s0 : ByteArray) (hs0 : s0.size ≤ 65535) (s1 : ByteArray) (hs1 : s1.size ≤ 65535) (b o c : Nat) (w : World) (e0t : w.cell? ⟨b, o + 2, none⟩ = some (.string s0)) (e1t : w.cell? ⟨b, o + 6, none⟩ = some (.string s1)) : Calls Tryz.prog 30 #[.string ⟨#[119, 111, 114, 100, 115, 46, 102, 105, 110, 100]⟩, .slice (some ⟨b, o, none⟩) 2 c] w (Bel (pairW (0, .int (Lib.index s0.data.toList s1.data.toList))) w) := by
  have HX0 := Lib.hid (heap_alloc_new w (.cells #[.int .i64 0, .int .i64 0, .string ⟨#[]⟩, .slice none 0 0] 34))
  have HB0 := Lib.hid ((Below.refl w.heap.size w).alloc (Nat.le_refl _) (.cells #[.int .i64 0, .int .i64 0, .string ⟨#[]⟩, .slice none 0 0] 34))
  have g0t : (w.alloc (.cells #[.int .i64 0, .int .i64 0, .string ⟨#[]⟩, .slice none 0 0] 34)).cell? ⟨b, o + 2, none⟩ = some (.string s0) := alloc_cell _ e0t
  have g1t : (w.alloc (.cells #[.int .i64 0, .int .i64 0, .string ⟨#[]⟩, .slice none 0 0] 34)).cell? ⟨b, o + 6, none⟩ = some (.string s1) := alloc_cell _ e1t
  go_enter Tryz.func30, Tryz.ntmps30
  go_wp2_with fail
  refine (r_find s0 s1 hs0 hs1 _).mono ?_
  rintro e w' ⟨rfl, rfl⟩
  go_wp2_with fail
  refine (r_num _ _).mono ?_
  rintro e w1 ⟨rfl, hb1⟩
  have HX1 := Lib.hid ((hb1.block _ (lt_of_block HX0.out)).trans HX0.out)
  have HB1 := Lib.hid (HB0.out.trans (hb1.mono HB0.out.size))
  have u1 := blk_cells9 HX1.out
  clear hb1
  obtain ⟨u1, v1⟩ := u1
  go_wp2
  refine bodyPost_ret (fn := Tryz.f30) (v := pairW (0, .int (Lib.index s0.data.toList s1.data.toList))) (res_cell_tmp (p := 4) (q := 5) (ty := 34) (a := ⟨w.heap.size, 0, none⟩) Tryz.results30 rfl (run_loadVar_row (P := Tryz.prog) _ _ _ 34 _ _ _ (blk_set (blk_set (blk_set (blk_set HX1.out 0 (.int .i64 3)) 1 (.int .i64 (Lib.index s0.data.toList s1.data.toList))) 2 (.string ⟨#[]⟩)) 3 (.slice none 0 0)) Tryz.underlying34 rfl (by kernel_rfl)) rfl) rfl ?_
  exact ⟨rfl, below_put4 HB1.out _ _ _ _⟩
set_option maxRecDepth 100000 in
set_option maxHeartbeats 4000000 in
theorem r_work_less (s0 : ByteArray) (hs0 : s0.size ≤ 65535) (s1 : ByteArray) (hs1 : s1.size ≤ 65535) (b o c : Nat) (w : World) (e0t : w.cell? ⟨b, o + 2, none⟩ = some (.string s0)) (e1t : w.cell? ⟨b, o + 6, none⟩ = some (.string s1)) : Calls Tryz.prog 30 #[.string ⟨#[119, 111, 114, 100, 115, 46, 108, 101, 115, 115]⟩, .slice (some ⟨b, o, none⟩) 2 c] w (Bel (pairW (0, .truth (Op.bytesLess s0.toList s1.toList))) w) := by
  have HX0 := Lib.hid (heap_alloc_new w (.cells #[.int .i64 0, .int .i64 0, .string ⟨#[]⟩, .slice none 0 0] 34))
  have HB0 := Lib.hid ((Below.refl w.heap.size w).alloc (Nat.le_refl _) (.cells #[.int .i64 0, .int .i64 0, .string ⟨#[]⟩, .slice none 0 0] 34))
  have g0t : (w.alloc (.cells #[.int .i64 0, .int .i64 0, .string ⟨#[]⟩, .slice none 0 0] 34)).cell? ⟨b, o + 2, none⟩ = some (.string s0) := alloc_cell _ e0t
  have g1t : (w.alloc (.cells #[.int .i64 0, .int .i64 0, .string ⟨#[]⟩, .slice none 0 0] 34)).cell? ⟨b, o + 6, none⟩ = some (.string s1) := alloc_cell _ e1t
  cases hq : Op.bytesLess s0.toList s1.toList
  · go_enter Tryz.func30, Tryz.ntmps30
    go_wp2_with fail
    refine (r_truth _ _).mono ?_
    rintro e w1 ⟨rfl, hb1⟩
    have HX1 := Lib.hid ((hb1.block _ (lt_of_block HX0.out)).trans HX0.out)
    have HB1 := Lib.hid (HB0.out.trans (hb1.mono HB0.out.size))
    have u1 := blk_cells9 HX1.out
    clear hb1
    obtain ⟨u1, v1⟩ := u1
    unfold Vl.toPl Pl.arg Pl.kind Pl.num Pl.text Pl.list
    go_wp2
    refine bodyPost_ret (fn := Tryz.f30) (v := pairW (0, .truth false)) (res_cell_tmp (p := 4) (q := 5) (ty := 34) (a := ⟨w.heap.size, 0, none⟩) Tryz.results30 rfl (run_loadVar_row (P := Tryz.prog) _ _ _ 34 _ _ _ (blk_set (blk_set (blk_set (blk_set HX1.out 0 (.int .i64 2)) 1 (.int .i64 0)) 2 (.string ⟨#[]⟩)) 3 (.slice none 0 0)) Tryz.underlying34 rfl (by kernel_rfl)) rfl) rfl ?_
    exact ⟨rfl, below_put4 HB1.out _ _ _ _⟩
  · go_enter Tryz.func30, Tryz.ntmps30
    go_wp2_with fail
    refine (r_truth _ _).mono ?_
    rintro e w1 ⟨rfl, hb1⟩
    have HX1 := Lib.hid ((hb1.block _ (lt_of_block HX0.out)).trans HX0.out)
    have HB1 := Lib.hid (HB0.out.trans (hb1.mono HB0.out.size))
    have u1 := blk_cells9 HX1.out
    clear hb1
    obtain ⟨u1, v1⟩ := u1
    unfold Vl.toPl Pl.arg Pl.kind Pl.num Pl.text Pl.list
    go_wp2
    refine bodyPost_ret (fn := Tryz.f30) (v := pairW (0, .truth true)) (res_cell_tmp (p := 4) (q := 5) (ty := 34) (a := ⟨w.heap.size, 0, none⟩) Tryz.results30 rfl (run_loadVar_row (P := Tryz.prog) _ _ _ 34 _ _ _ (blk_set (blk_set (blk_set (blk_set HX1.out 0 (.int .i64 2)) 1 (.int .i64 1)) 2 (.string ⟨#[]⟩)) 3 (.slice none 0 0)) Tryz.underlying34 rfl (by kernel_rfl)) rfl) rfl ?_
    exact ⟨rfl, below_put4 HB1.out _ _ _ _⟩
set_option maxRecDepth 100000 in
set_option maxHeartbeats 4000000 in
theorem r_work_of (x0 : Int) (hx0 : rng x0 = true) (s0 : ByteArray) (b o c : Nat) (w : World) (e0n : w.cell? ⟨b, o + 1, none⟩ = some (.int .i64 x0)) (e0t : w.cell? ⟨b, o + 2, none⟩ = some (.string s0)) : Calls Tryz.prog 30 #[.string ⟨#[119, 111, 114, 100, 115, 46, 111, 102]⟩, .slice (some ⟨b, o, none⟩) 1 c] w (Bel (pairW (0, .text ⟨(Lib.itoa x0).toArray⟩)) w) := by
  have HX0 := Lib.hid (heap_alloc_new w (.cells #[.int .i64 0, .int .i64 0, .string ⟨#[]⟩, .slice none 0 0] 34))
  have HB0 := Lib.hid ((Below.refl w.heap.size w).alloc (Nat.le_refl _) (.cells #[.int .i64 0, .int .i64 0, .string ⟨#[]⟩, .slice none 0 0] 34))
  have g0n : (w.alloc (.cells #[.int .i64 0, .int .i64 0, .string ⟨#[]⟩, .slice none 0 0] 34)).cell? ⟨b, o + 1, none⟩ = some (.int .i64 x0) := alloc_cell _ e0n
  have g0t : (w.alloc (.cells #[.int .i64 0, .int .i64 0, .string ⟨#[]⟩, .slice none 0 0] 34)).cell? ⟨b, o + 2, none⟩ = some (.string s0) := alloc_cell _ e0t
  go_enter Tryz.func30, Tryz.ntmps30
  go_wp2_with fail
  refine (r_digits x0 hx0 _).mono ?_
  rintro e w1 ⟨rfl, hb1⟩
  have HX1 := Lib.hid ((hb1.block _ (lt_of_block HX0.out)).trans HX0.out)
  have HB1 := Lib.hid (HB0.out.trans (hb1.mono HB0.out.size))
  have u1 := blk_cells9 HX1.out
  clear hb1
  obtain ⟨u1, v1⟩ := u1
  go_wp2_with fail
  refine (r_text _ _).mono ?_
  rintro e w2 ⟨rfl, hb2⟩
  have HX2 := Lib.hid ((hb2.block _ (lt_of_block HX1.out)).trans HX1.out)
  have HB2 := Lib.hid (HB1.out.trans (hb2.mono HB1.out.size))
  have u2 := blk_cells9 HX2.out
  clear hb2
  obtain ⟨u2, v2⟩ := u2
  go_wp2
  refine bodyPost_ret (fn := Tryz.f30) (v := pairW (0, .text ⟨(Lib.itoa x0).toArray⟩)) (res_cell_tmp (p := 4) (q := 5) (ty := 34) (a := ⟨w.heap.size, 0, none⟩) Tryz.results30 rfl (run_loadVar_row (P := Tryz.prog) _ _ _ 34 _ _ _ (blk_set (blk_set (blk_set (blk_set HX2.out 0 (.int .i64 4)) 1 (.int .i64 0)) 2 (.string ⟨(Lib.itoa x0).toArray⟩)) 3 (.slice none 0 0)) Tryz.underlying34 rfl (by kernel_rfl)) rfl) rfl ?_
  exact ⟨rfl, below_put4 HB2.out _ _ _ _⟩
set_option maxRecDepth 100000 in
set_option maxHeartbeats 4000000 in
theorem r_work_cut (s0 : ByteArray) (hs0 : s0.size ≤ 65535) (x1 x2 : Int) (b o c : Nat) (w : World) (e0t : w.cell? ⟨b, o + 2, none⟩ = some (.string s0)) (e1n : w.cell? ⟨b, o + 5, none⟩ = some (.int .i64 x1)) (e2n : w.cell? ⟨b, o + 9, none⟩ = some (.int .i64 x2)) : Calls Tryz.prog 30 #[.string ⟨#[119, 111, 114, 100, 115, 46, 99, 117, 116]⟩, .slice (some ⟨b, o, none⟩) 3 c] w (Bel (pairW (vCut s0 x1 x2)) w) := by
  have HX0 := Lib.hid (heap_alloc_new w (.cells #[.int .i64 0, .int .i64 0, .string ⟨#[]⟩, .slice none 0 0] 34))
  have HB0 := Lib.hid ((Below.refl w.heap.size w).alloc (Nat.le_refl _) (.cells #[.int .i64 0, .int .i64 0, .string ⟨#[]⟩, .slice none 0 0] 34))
  have g0t : (w.alloc (.cells #[.int .i64 0, .int .i64 0, .string ⟨#[]⟩, .slice none 0 0] 34)).cell? ⟨b, o + 2, none⟩ = some (.string s0) := alloc_cell _ e0t
  have g1n : (w.alloc (.cells #[.int .i64 0, .int .i64 0, .string ⟨#[]⟩, .slice none 0 0] 34)).cell? ⟨b, o + 5, none⟩ = some (.int .i64 x1) := alloc_cell _ e1n
  have g2n : (w.alloc (.cells #[.int .i64 0, .int .i64 0, .string ⟨#[]⟩, .slice none 0 0] 34)).cell? ⟨b, o + 9, none⟩ = some (.int .i64 x2) := alloc_cell _ e2n
  by_cases h : 0 ≤ x1 ∧ x1 ≤ x2 ∧ x2 ≤ s0.size
  · have hr := Lib.hid (show vCut s0 x1 x2 = (0, .text (s0.extract x1.toNat x2.toNat)) by unfold vCut; rw [if_pos h])
    rw [hr.out]
    clear hr
    obtain ⟨h1, h2, h3⟩ := h
    obtain ⟨x1, rfl⟩ := Int.eq_ofNat_of_zero_le h1
    obtain ⟨x2, rfl⟩ := Int.eq_ofNat_of_zero_le (show 0 ≤ x2 by omega)
    simp only [Int.toNat_natCast]
    have h2' : x1 ≤ x2 := by omega
    have h3' : x2 ≤ s0.size := by omega
    clear h1 h2 h3
    go_enter Tryz.func30, Tryz.ntmps30
    go_wp2
    go_quiet (fail)
    go_wp2_with fail
    refine (r_text _ _).mono ?_
    rintro e w1 ⟨rfl, hb1⟩
    have HX1 := Lib.hid ((hb1.block _ (lt_of_block HX0.out)).trans HX0.out)
    have HB1 := Lib.hid ((below_drewN HB0.out _).trans (hb1.mono HB0.out.size))
    have u1 := blk_cells9 HX1.out
    clear hb1
    obtain ⟨u1, v1⟩ := u1
    go_wp2
    refine bodyPost_ret (fn := Tryz.f30) (v := pairW (0, .text (s0.extract x1 x2))) (res_cell_tmp (p := 4) (q := 5) (ty := 34) (a := ⟨w.heap.size, 0, none⟩) Tryz.results30 rfl (run_loadVar_row (P := Tryz.prog) _ _ _ 34 _ _ _ (blk_set (blk_set (blk_set (blk_set HX1.out 0 (.int .i64 4)) 1 (.int .i64 0)) 2 (.string (s0.extract x1 x2))) 3 (.slice none 0 0)) Tryz.underlying34 rfl (by kernel_rfl)) rfl) rfl ?_
    exact ⟨rfl, below_put4 HB1.out _ _ _ _⟩
  · have hr := Lib.hid (show vCut s0 x1 x2 = (23, .unit) by unfold vCut; rw [if_neg h])
    rw [hr.out]
    clear hr
    by_cases h1 : x1 < 0
    · have t1 : decide (x1 < 0) = true := by simpa using h1
      clear h h1
      go_enter Tryz.func30, Tryz.ntmps30
      go_wp2
      go_quiet (fail)
      go_wp2
      refine bodyPost_ret (fn := Tryz.f30) (v := pairW (23, .unit)) (res_cell_tmp (p := 4) (q := 5) (ty := 34) (a := ⟨w.heap.size, 0, none⟩) Tryz.results30 rfl (run_loadVar_row (P := Tryz.prog) _ _ _ 34 _ _ _ (blk_set (blk_set (blk_set (blk_set HX0.out 0 (.int .i64 0)) 1 (.int .i64 0)) 2 (.string ⟨#[]⟩)) 3 (.slice none 0 0)) Tryz.underlying34 rfl (by kernel_rfl)) rfl) rfl ?_
      exact ⟨rfl, below_put4 (below_drewN HB0.out _) _ _ _ _⟩
    · have t1 : decide (x1 < 0) = false := by simpa using h1
      by_cases h2 : x2 < x1
      · have t2 : decide (x2 < x1) = true := by simpa using h2
        clear h h1 h2
        go_enter Tryz.func30, Tryz.ntmps30
        go_wp2
        go_quiet (fail)
        go_wp2
        refine bodyPost_ret (fn := Tryz.f30) (v := pairW (23, .unit)) (res_cell_tmp (p := 4) (q := 5) (ty := 34) (a := ⟨w.heap.size, 0, none⟩) Tryz.results30 rfl (run_loadVar_row (P := Tryz.prog) _ _ _ 34 _ _ _ (blk_set (blk_set (blk_set (blk_set HX0.out 0 (.int .i64 0)) 1 (.int .i64 0)) 2 (.string ⟨#[]⟩)) 3 (.slice none 0 0)) Tryz.underlying34 rfl (by kernel_rfl)) rfl) rfl ?_
        exact ⟨rfl, below_put4 (below_drewN HB0.out _) _ _ _ _⟩
      · have t2 : decide (x2 < x1) = false := by simpa using h2
        have t3 : decide ((s0.size : Int) < x2) = true := by simp; omega
        clear h h1 h2
        go_enter Tryz.func30, Tryz.ntmps30
        go_wp2
        go_quiet (fail)
        go_wp2
        refine bodyPost_ret (fn := Tryz.f30) (v := pairW (23, .unit)) (res_cell_tmp (p := 4) (q := 5) (ty := 34) (a := ⟨w.heap.size, 0, none⟩) Tryz.results30 rfl (run_loadVar_row (P := Tryz.prog) _ _ _ 34 _ _ _ (blk_set (blk_set (blk_set (blk_set HX0.out 0 (.int .i64 0)) 1 (.int .i64 0)) 2 (.string ⟨#[]⟩)) 3 (.slice none 0 0)) Tryz.underlying34 rfl (by kernel_rfl)) rfl) rfl ?_
        exact ⟨rfl, below_put4 (below_drewN HB0.out _) _ _ _ _⟩
set_option maxRecDepth 100000 in
set_option maxHeartbeats 4000000 in
theorem r_work_rep (s0 : ByteArray) (hs0 : s0.size ≤ 65535) (x1 : Int) (b o c : Nat) (w : World) (e0t : w.cell? ⟨b, o + 2, none⟩ = some (.string s0)) (e1n : w.cell? ⟨b, o + 5, none⟩ = some (.int .i64 x1)) : Calls Tryz.prog 30 #[.string ⟨#[119, 111, 114, 100, 115, 46, 114, 101, 112]⟩, .slice (some ⟨b, o, none⟩) 2 c] w (Bel (pairW (repR s0 x1)) w) := by
  have HX0 := Lib.hid (heap_alloc_new w (.cells #[.int .i64 0, .int .i64 0, .string ⟨#[]⟩, .slice none 0 0] 34))
  have HB0 := Lib.hid ((Below.refl w.heap.size w).alloc (Nat.le_refl _) (.cells #[.int .i64 0, .int .i64 0, .string ⟨#[]⟩, .slice none 0 0] 34))
  have g0t : (w.alloc (.cells #[.int .i64 0, .int .i64 0, .string ⟨#[]⟩, .slice none 0 0] 34)).cell? ⟨b, o + 2, none⟩ = some (.string s0) := alloc_cell _ e0t
  have g1n : (w.alloc (.cells #[.int .i64 0, .int .i64 0, .string ⟨#[]⟩, .slice none 0 0] 34)).cell? ⟨b, o + 5, none⟩ = some (.int .i64 x1) := alloc_cell _ e1n
  have KR := Lib.hid (r_rep s0 x1 hs0 (w.alloc (.cells #[.int .i64 0, .int .i64 0, .string ⟨#[]⟩, .slice none 0 0] 34)))
  unfold pairW at KR ⊢
  generalize (if (repR s0 x1).1 = 0 then (repR s0 x1).2.toPl else Pl.mk 0 0 ⟨#[]⟩ []) = pl at *
  generalize (repR s0 x1).1 = k at *
  unfold Pl.arg at KR
  go_enter Tryz.func30, Tryz.ntmps30
  go_wp2_with fail
  refine (KR.out).mono ?_
  rintro e w1 ⟨rfl, hb1⟩
  have HX1 := Lib.hid ((hb1.block _ (lt_of_block HX0.out)).trans HX0.out)
  have HB1 := Lib.hid (HB0.out.trans (hb1.mono HB0.out.size))
  have u1 := blk_cells9 HX1.out
  clear hb1
  obtain ⟨u1, v1⟩ := u1
  go_wp2
  refine bodyPost_ret (fn := Tryz.f30) (v := .tuple #[pl.arg none 0, .int .i64 k]) (res_cell_tmp (p := 4) (q := 5) (ty := 34) (a := ⟨w.heap.size, 0, none⟩) Tryz.results30 rfl (run_loadVar_row (P := Tryz.prog) _ _ _ 34 _ _ _ (blk_set (blk_set (blk_set (blk_set HX1.out 0 (.int .i64 pl.kind)) 1 (.int .i64 pl.num)) 2 (.string pl.text)) 3 (.slice none pl.list.length 0)) Tryz.underlying34 rfl (by kernel_rfl)) rfl) rfl ?_
  exact ⟨rfl, below_put4 HB1.out _ _ _ _⟩
set_option maxRecDepth 100000 in
set_option maxHeartbeats 4000000 in
theorem r_work_num (s0 : ByteArray) (hs0 : s0.size ≤ 65535) (b o c : Nat) (w : World) (e0t : w.cell? ⟨b, o + 2, none⟩ = some (.string s0)) : Calls Tryz.prog 30 #[.string ⟨#[119, 111, 114, 100, 115, 46, 110, 117, 109]⟩, .slice (some ⟨b, o, none⟩) 1 c] w (Bel (pairW (vNum s0)) w) := by
  have HX0 := Lib.hid (heap_alloc_new w (.cells #[.int .i64 0, .int .i64 0, .string ⟨#[]⟩, .slice none 0 0] 34))
  have HB0 := Lib.hid ((Below.refl w.heap.size w).alloc (Nat.le_refl _) (.cells #[.int .i64 0, .int .i64 0, .string ⟨#[]⟩, .slice none 0 0] 34))
  have g0t : (w.alloc (.cells #[.int .i64 0, .int .i64 0, .string ⟨#[]⟩, .slice none 0 0] 34)).cell? ⟨b, o + 2, none⟩ = some (.string s0) := alloc_cell _ e0t
  have KR := Lib.hid (ref2_Read s0 (by omega) (w.alloc (.cells #[.int .i64 0, .int .i64 0, .string ⟨#[]⟩, .slice none 0 0] 34)))
  by_cases hn : ∃ n, IsNum s0 n
  · obtain ⟨n, hn⟩ := hn
    rw [vNum_is hn]
    have HNN := Lib.hid hn
    clear hn
    go_enter Tryz.func30, Tryz.ntmps30
    go_wp2_with fail
    refine KR.out.mono ?_
    rintro e w1 ⟨pl, A, cc, q, err, rfl, hb1, hf1, hf2⟩
    have HX1 := Lib.hid ((hb1.block _ (lt_of_block HX0.out)).trans HX0.out)
    have HB1 := Lib.hid (HB0.out.trans (hb1.mono HB0.out.size))
    have HF1 := Lib.hid hf1
    have HF2 := Lib.hid hf2
    clear hb1 hf1 hf2 KR g0t
    have HPX := Lib.hid (heap_alloc_new w1 (.cells #[.int .i64 pl.kind, .int .i64 pl.num, .string pl.text, .slice A pl.list.length cc] 34))
    have HX2 := Lib.hid ((Below.heap_alloc w1 (.cells #[.int .i64 pl.kind, .int .i64 pl.num, .string pl.text, .slice A pl.list.length cc] 34) _ (lt_of_block HX1.out)).trans HX1.out)
    have HB2 := Lib.hid (HB1.out.alloc HB1.out.size (.cells #[.int .i64 pl.kind, .int .i64 pl.num, .string pl.text, .slice A pl.list.length cc] 34))
    unfold Pl.arg
    go_upto_region 23 with fail
    generalize w1.heap.size = P at *
    generalize w1.alloc (.cells #[.int .i64 pl.kind, .int .i64 pl.num, .string pl.text, .slice A pl.list.length cc] 34) = w2 at *
    have x2 := blk_cells9 HPX.out
    obtain ⟨x2, y2⟩ := x2
    have u2 := blk_cells9 HX2.out
    obtain ⟨u2, v2⟩ := u2
    obtain ⟨rfl, rfl, rfl, rfl⟩ := HF1.out n HNN.out
    unfold Pl.kind Pl.num Pl.text Pl.list at x2
    go_wp2
    refine bodyPost_ret (fn := Tryz.f30) (v := pairW (0, .int n)) (res_cell_tmp (p := 4) (q := 5) (ty := 34) (a := ⟨w.heap.size, 0, none⟩) Tryz.results30 rfl (run_loadVar_row (P := Tryz.prog) _ _ _ 34 _ _ _ (blk_set (blk_set (blk_set (blk_set HX2.out 0 (.int .i64 3)) 1 (.int .i64 n)) 2 (.string ⟨#[]⟩)) 3 (.slice none 0 0)) Tryz.underlying34 rfl (by kernel_rfl)) rfl) rfl ?_
    exact ⟨rfl, below_put4 HB2.out _ _ _ _⟩
  · have hn' : ∀ n, ¬ IsNum s0 n := fun n h => hn ⟨n, h⟩
    rw [vNum_not hn']
    have HNN := Lib.hid hn'
    clear hn hn'
    go_enter Tryz.func30, Tryz.ntmps30
    go_wp2_with fail
    refine KR.out.mono ?_
    rintro e w1 ⟨pl, A, cc, q, err, rfl, hb1, hf1, hf2⟩
    have HX1 := Lib.hid ((hb1.block _ (lt_of_block HX0.out)).trans HX0.out)
    have HB1 := Lib.hid (HB0.out.trans (hb1.mono HB0.out.size))
    have HF1 := Lib.hid hf1
    have HF2 := Lib.hid hf2
    clear hb1 hf1 hf2 KR g0t
    have HPX := Lib.hid (heap_alloc_new w1 (.cells #[.int .i64 pl.kind, .int .i64 pl.num, .string pl.text, .slice A pl.list.length cc] 34))
    have HX2 := Lib.hid ((Below.heap_alloc w1 (.cells #[.int .i64 pl.kind, .int .i64 pl.num, .string pl.text, .slice A pl.list.length cc] 34) _ (lt_of_block HX1.out)).trans HX1.out)
    have HB2 := Lib.hid (HB1.out.alloc HB1.out.size (.cells #[.int .i64 pl.kind, .int .i64 pl.num, .string pl.text, .slice A pl.list.length cc] 34))
    unfold Pl.arg
    go_upto_region 23 with fail
    generalize w1.heap.size = P at *
    generalize w1.alloc (.cells #[.int .i64 pl.kind, .int .i64 pl.num, .string pl.text, .slice A pl.list.length cc] 34) = w2 at *
    have x2 := blk_cells9 HPX.out
    obtain ⟨x2, y2⟩ := x2
    have u2 := blk_cells9 HX2.out
    obtain ⟨u2, v2⟩ := u2
    have hk := HF2.out HNN.out
    by_cases he : err = 0
    · have hk2 : (pl.kind != 3) = true := by simpa using hk he
      subst he
      clear hk
      go_wp2
      refine bodyPost_ret (fn := Tryz.f30) (v := pairW (24, .unit)) (res_cell_tmp (p := 4) (q := 5) (ty := 34) (a := ⟨w.heap.size, 0, none⟩) Tryz.results30 rfl (run_loadVar_row (P := Tryz.prog) _ _ _ 34 _ _ _ (blk_set (blk_set (blk_set (blk_set HX2.out 0 (.int .i64 0)) 1 (.int .i64 0)) 2 (.string ⟨#[]⟩)) 3 (.slice none 0 0)) Tryz.underlying34 rfl (by kernel_rfl)) rfl) rfl ?_
      exact ⟨rfl, below_put4 HB2.out _ _ _ _⟩
    · have he2 : (err != 0) = true := by simpa using he
      have he3 : (err == 0) = false := by simpa using he
      clear hk
      go_wp2
      refine bodyPost_ret (fn := Tryz.f30) (v := pairW (24, .unit)) (res_cell_tmp (p := 4) (q := 5) (ty := 34) (a := ⟨w.heap.size, 0, none⟩) Tryz.results30 rfl (run_loadVar_row (P := Tryz.prog) _ _ _ 34 _ _ _ (blk_set (blk_set (blk_set (blk_set HX2.out 0 (.int .i64 0)) 1 (.int .i64 0)) 2 (.string ⟨#[]⟩)) 3 (.slice none 0 0)) Tryz.underlying34 rfl (by kernel_rfl)) rfl) rfl ?_
      exact ⟨rfl, below_put4 HB2.out _ _ _ _⟩
end Go.Proofs.YthjpphojddbbmaaGreatDoor
