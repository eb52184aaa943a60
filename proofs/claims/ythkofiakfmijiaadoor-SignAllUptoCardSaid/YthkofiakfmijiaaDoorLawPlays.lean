/-
  espalierlaw3.plays: a walk, for every call. Written by a program of mine (gen_plays.py). Conditions: texts and lists within a bound; the library's variables are laid.
-/
import Derived.Test.YthkofiakfmijiaaDoorRegPlay
import Derived.Test.YthkofiakfmijiaaDoorLawNames
import Derived.Test.YthkofiakfmijiaaDoorRefCompare
namespace Go.Proofs.YthkofiakfmijiaaDoor
open Go.RowKit
set_option linter.unusedVariables false

theorem eqPl_refl (f : ByteArray) (l : List Int) : eqPl f f l l = true := by simp [eqPl]
theorem tup2 {a b c d : Value} (h1 : a = c) (h2 : b = d) : Ending.returned (.tuple #[a, b]) = .returned (.tuple #[c, d]) := by rw [h1, h2]
set_option maxRecDepth 100000 in
set_option maxHeartbeats 32000000 in
theorem law_plays (k : Int) (s f f2 : ByteArray) (A A2 : Option Addr) (l l2 : List Int) (c c2 : Nat) (w : World) (hs : s.size ≤ 1048576) (hf : f.size ≤ 1048576) (hf2 : f2.size ≤ 1048576) (hl : l.length ≤ 1048576) (hl2 : l2.length ≤ 1048576)
    (hA : A = none → l = [] ∧ c = 0) (hR : RdI w w.heap.size A l) (hR2 : RdI w w.heap.size A2 l2) (hS : Sg w) :
    Calls Tryd.prog 8 #[.agg (opCells k s f f2 A A2 l.length l2.length c c2)] w (Bel (.bool true) w) := by
  have hs2 : s.size ≤ 140737488351232 := by omega
  have hfz : f.size ≤ 140737488351232 := by omega
  have hf2z : f2.size ≤ 140737488351232 := by omega
  have hlz : l.length ≤ 140737488355328 := by omega
  have hl2z : l2.length ≤ 140737488355328 := by omega
  have hsz9 := hs
  have HR := Lib.hid hR
  have HR2 := Lib.hid hR2
  have HS := Lib.hid hS
  have HA1 := Lib.hid hA
  have HB0 := Lib.hid (show Below w.heap.size w (w.alloc (.cells (opCells k s f f2 A A2 l.length l2.length c c2) 29)) from (Below.refl _ _).alloc (Nat.le_refl _) _)
  have HX0 := Lib.hid (heap_alloc_new w (.cells (opCells k s f f2 A A2 l.length l2.length c c2) 29))
  have hz0 : w.heap.size < (w.alloc (.cells (opCells k s f f2 A A2 l.length l2.length c c2) 29)).heap.size := by simp
  generalize hw0 : w.alloc (.cells (opCells k s f f2 A A2 l.length l2.length c c2) 29) = w0 at *
  have HW0 := Lib.hid hw0
  clear hw0 hR hR2 hS hA
  unfold opCells at HW0
  unfold opCells
  go_enter Tryd.func8, Tryd.ntmps8
  go_wp2
  rw [HW0.out]
  have hA2 : w0.drew.cell? ⟨w.heap.size, 2, none⟩ = some (.string f) := cell_of_row _ _ 2 _ _ _ HX0.out
  have hA3 : w0.drew.cell? ⟨w.heap.size, 3, none⟩ = some (.slice A l.length c) := cell_of_row _ _ 3 _ _ _ HX0.out
  have hbA : w.heap.size < w0.drew.heap.size := hz0
  have hRW : RdI w0.drew w0.drew.heap.size A l := (Rd.next HR.out HB0.out).keep (fun _ _ => rfl)
  refine wp_region_inva (fun a => PlayInv w0.drew.heap.size w0.drew a w.heap.size f A c l 0) (by kernel_rfl) ?_ ?_ ?_
  · refine { agree := Agree.refl _ _, bel := Below.refl _ _, f0 := fun h => ?_, f1 := fun h => ?_, f2 := fun h => ?_, f3 := fun h => ?_, f4 := fun h => ?_, f5 := fun h => ?_, f6 := fun h => ?_, f7 := fun h => ?_, f8 := fun h => ?_, f9 := fun h => ?_ }
    all_goals exact (start_no h).elim
  · intro L a wr i o hs h ho hl hd
    have hi : i < 10 := (Array.getElem?_eq_some_iff.1 ho).1
    have hs' : i < L.size := by rw [hs]; exact hi
    have hcases : i = 0 ∨ i = 1 ∨ i = 2 ∨ i = 3 ∨ i = 4 ∨ i = 5 ∨ i = 6 ∨ i = 7 ∨ i = 8 ∨ i = 9 := by omega
    rcases hcases with rfl | rfl | rfl | rfl | rfl | rfl | rfl | rfl | rfl | rfl
    · cases ho
      exact ⟨rfl, wp_field rfl ((h.agree.same 1 (by decide)).trans rfl) (run_op2 _ _) (h.s0 hs' hl (by show 21 < 154; decide) rfl)⟩
    · cases ho
      have d0 := hd { on := 0, ground := .data } (by simp) (by rfl)
      exact ⟨rfl, wp_field rfl (h.f0 d0) (run_place0 _ _ 1) (h.s1 hs' hl (by show 22 < 154; decide) rfl)⟩
    · cases ho
      have d1 := hd { on := 1, ground := .data } (by simp) (by rfl)
      exact ⟨rfl, wp_load1 rfl (h.f1 d1) (run_load_string ((h.bel.cell (p := ⟨w.heap.size, 2, none⟩) hbA).trans hA2)) (h.s2 hs' hl (by show 23 < 154; decide) rfl)⟩
    · cases ho
      exact ⟨rfl, wp_field rfl ((h.agree.same 1 (by decide)).trans rfl) (run_op2 _ _) (h.s3 hs' hl (by show 24 < 154; decide) rfl)⟩
    · cases ho
      have d3 := hd { on := 3, ground := .data } (by simp) (by rfl)
      exact ⟨rfl, wp_field rfl (h.f3 d3) (run_place1 _ _ 1) (h.s4 hs' hl (by show 25 < 154; decide) rfl)⟩
    · cases ho
      have d4 := hd { on := 4, ground := .data } (by simp) (by rfl)
      exact ⟨rfl, wp_load1 rfl (h.f4 d4) (run_load_ints ((h.bel.cell (p := ⟨w.heap.size, 3, none⟩) hbA).trans hA3)) (h.s5 hs' hl (by show 26 < 154; decide) rfl)⟩
    · cases ho
      have d5 := hd { on := 5, ground := .data } (by simp) (by rfl)
      exact ⟨rfl, wp_app_copy (.const (.slice none 0 0)) (.tmp 26) rfl rfl (h.f5 d5) HA1.out (Rd.below hRW h.bel) h.bel.size (by omega) (fun A9 c9 w9 ho9 hg9 => h.s6 hs' hl (by show 27 < 154; decide) hg9 (h.bel.grown hg9 h.bel.size (fun _ e => by cases e)) ⟨A9, c9, rfl, ho9⟩)⟩
    · cases ho
      have d2 := hd { on := 2, ground := .data } (by simp) (by rfl)
      have d6 := hd { on := 6, ground := .data } (by simp) (by rfl)
      obtain ⟨A9, c9, e9, o9⟩ := h.f6 d6
      have hbt : Tryd.prog.built 27 ((#[((0 : Nat), Operand.tmp 23), (1, Operand.tmp 27)].map fun (i, x) => (i, a.eval x)).toList) = some #[.string f, a.tmps.getD 27 undef] := by
        have e1 : a.eval (.tmp 23) = .string f := h.f2 d2
        have e2 : a.eval (.tmp 27) = a.tmps.getD 27 undef := rfl
        simp only [List.map_toArray, List.map_cons, List.map_nil, e1, e2]
        exact built_place _ _ _ _ _ e9
      exact ⟨rfl, wp_build 27 #[(0, .tmp 23), (1, .tmp 27)] rfl (by rw [hbt]; rfl) (by rw [hbt]; exact h.s7 hs' hl (by show 28 < 154; decide) d6 rfl)⟩
    · cases ho
      exact ⟨rfl, wp_alloc_run rfl (run_alloc_place _) (h.s8 hs' hl (by show 3 < 154; decide) (grown_alloc _ _) (h.bel.alloc h.bel.size _) ⟨_, _, rfl, h.bel.size, heap_alloc_new _ _, rfl⟩)⟩
    · cases ho
      have d8 := hd { on := 8, ground := .data } (by simp) (by rfl)
      have d7 := hd { on := 7, ground := .data } (by simp) (by rfl)
      have d6 := hd { on := 6, ground := .chain } (by simp) (by rfl)
      obtain ⟨b9, cs9, e9, g9, k9, z9, _⟩ := h.f8 d8
      obtain ⟨A8, p8, e8, o8⟩ := h.f6 d6
      obtain ⟨_, e7⟩ := h.f7 d7
      exact ⟨rfl, wp_store_row 27 (.tmp 3) (.tmp 28) rfl b9 #[.string f, a.tmps.getD 27 undef] e9 e7 27 cs9 k9 (by kernel_rfl) z9 (by rw [e8]; simp [Value.oneCell']) (h.s9 hs' hl (grown_row _ _ _) ((h.bel.grown (grown_row wr b9 #[.string f, a.tmps.getD 27 undef]) h.bel.size (fun q e => by cases e; exact g9))) k9 d6 d7 d8 ⟨e9, g9, setRow_heap _ _ _ _ _ _ k9⟩)⟩
  · intro L a w1 hs h hr
    have hall := ready_all (by kernel_rfl) hs hr
    obtain ⟨b9, cs9, e9, g9, k9, z9, hcs⟩ := h.f8 (hall 8 (by decide))
    have hcs' := hcs (hall 9 (by decide))
    obtain ⟨A9, c9, e8, o8⟩ := h.f6 (hall 6 (by decide))
    rw [e8] at hcs'
    have HB1 := Lib.hid (HB0.out.drew.trans (h.bel.mono HB0.out.drew.size))
    have HXo := Lib.hid ((h.bel.block w.heap.size hbA).trans HX0.out)
    have HXp := Lib.hid (hcs' ▸ k9)
    have HR9 : Hid (RdI w1 w1.heap.size A9 l) := Lib.hid (Rd.of_own o8)
    have hzo : w.heap.size < w1.heap.size := blk_lt HXo.out
    have hzp : b9 < w1.heap.size := blk_lt HXp.out
    have e := h.agree.eq
    rw [e]
    simp only [List.foldr_cons, List.foldr_nil, e9]
    generalize a.tmps.getD 21 undef = q1
    generalize a.tmps.getD 22 undef = q2
    generalize a.tmps.getD 23 undef = q3
    generalize a.tmps.getD 24 undef = q4
    generalize a.tmps.getD 25 undef = q5
    generalize a.tmps.getD 26 undef = q6
    generalize a.tmps.getD 27 undef = q7
    generalize a.tmps.getD 28 undef = q8
    clear hcs hcs' e9 e8 e k9 z9 o8 hall h hr hA2 hA3 hRW hbA g9 hz0
    have HN1 := Lib.hid (Below.refl w1.heap.size w1)
    have hs9 : s.size ≤ 1048576 := hsz9
    by_cases h1 : k = 1
    · have hk : (k == 1) = true := by simpa using h1
      clear h1
      have o0 : w1.cell? ⟨w.heap.size, 0, none⟩ = some (.int .i64 k) := cell_of_row _ _ 0 _ _ _ ((HN1.out.block _ hzo).trans HXo.out)
      have o1 : w1.cell? ⟨w.heap.size, 1, none⟩ = some (.string s) := cell_of_row _ _ 1 _ _ _ ((HN1.out.block _ hzo).trans HXo.out)
      have o2 : w1.cell? ⟨w.heap.size, 2, none⟩ = some (.string f) := cell_of_row _ _ 2 _ _ _ ((HN1.out.block _ hzo).trans HXo.out)
      have o3 : w1.cell? ⟨w.heap.size, 3, none⟩ = some (.slice A l.length c) := cell_of_row _ _ 3 _ _ _ ((HN1.out.block _ hzo).trans HXo.out)
      have o4 : w1.cell? ⟨w.heap.size, 4, none⟩ = some (.string f2) := cell_of_row _ _ 4 _ _ _ ((HN1.out.block _ hzo).trans HXo.out)
      have o5 : w1.cell? ⟨w.heap.size, 5, none⟩ = some (.slice A2 l2.length c2) := cell_of_row _ _ 5 _ _ _ ((HN1.out.block _ hzo).trans HXo.out)
      have p0 : w1.cell? ⟨b9, 0, none⟩ = some (.string f) := cell_of_row _ _ 0 _ _ _ ((HN1.out.block _ hzp).trans HXp.out)
      have p1 : w1.cell? ⟨b9, 1, none⟩ = some (.slice A9 l.length c9) := cell_of_row _ _ 1 _ _ _ ((HN1.out.block _ hzp).trans HXp.out)
      have KN := Lib.hid (law_names k s f f2 A A2 l.length l2.length c c2 w1 hs9 (HS.out.below HB1.out))
      unfold opCells at KN
      go_wp2_with fail
      refine KN.out.mono ?_
      rintro e wz ⟨rfl, hb⟩
      have HBz := Lib.hid (HB1.out.trans (hb.mono HB1.out.size))
      clear hb o0 o1 o2 o3 o4 o5 p0 p1
      go_wp2
      go_ret
      exact ⟨rfl, HBz.out⟩
    by_cases h2 : k = 2
    · have hk : (k == 2) = true := by simpa using h2
      have k1 : (k == 1) = false := by simpa using h1
      clear h1 h2
      have o0 : w1.cell? ⟨w.heap.size, 0, none⟩ = some (.int .i64 k) := cell_of_row _ _ 0 _ _ _ ((HN1.out.block _ hzo).trans HXo.out)
      have o1 : w1.cell? ⟨w.heap.size, 1, none⟩ = some (.string s) := cell_of_row _ _ 1 _ _ _ ((HN1.out.block _ hzo).trans HXo.out)
      have o2 : w1.cell? ⟨w.heap.size, 2, none⟩ = some (.string f) := cell_of_row _ _ 2 _ _ _ ((HN1.out.block _ hzo).trans HXo.out)
      have o3 : w1.cell? ⟨w.heap.size, 3, none⟩ = some (.slice A l.length c) := cell_of_row _ _ 3 _ _ _ ((HN1.out.block _ hzo).trans HXo.out)
      have o4 : w1.cell? ⟨w.heap.size, 4, none⟩ = some (.string f2) := cell_of_row _ _ 4 _ _ _ ((HN1.out.block _ hzo).trans HXo.out)
      have o5 : w1.cell? ⟨w.heap.size, 5, none⟩ = some (.slice A2 l2.length c2) := cell_of_row _ _ 5 _ _ _ ((HN1.out.block _ hzo).trans HXo.out)
      have p0 : w1.cell? ⟨b9, 0, none⟩ = some (.string f) := cell_of_row _ _ 0 _ _ _ ((HN1.out.block _ hzp).trans HXp.out)
      have p1 : w1.cell? ⟨b9, 1, none⟩ = some (.slice A9 l.length c9) := cell_of_row _ _ 1 _ _ _ ((HN1.out.block _ hzp).trans HXp.out)
      have KN := Lib.hid (law_names k s f f2 A A2 l.length l2.length c c2 w1 hs9 (HS.out.below HB1.out))
      unfold opCells at KN
      go_wp2_with fail
      refine KN.out.mono ?_
      rintro e wz ⟨rfl, hb⟩
      have HBz := Lib.hid (HB1.out.trans (hb.mono HB1.out.size))
      clear hb o0 o1 o2 o3 o4 o5 p0 p1
      go_wp2
      go_ret
      exact ⟨rfl, HBz.out⟩
    by_cases h3 : k = 3
    · have hk : (k == 3) = true := by simpa using h3
      have k1 : (k == 1) = false := by simpa using h1
      have k2 : (k == 2) = false := by simpa using h2
      clear h1 h2 h3
      have o0 : w1.cell? ⟨w.heap.size, 0, none⟩ = some (.int .i64 k) := cell_of_row _ _ 0 _ _ _ ((HN1.out.block _ hzo).trans HXo.out)
      have o1 : w1.cell? ⟨w.heap.size, 1, none⟩ = some (.string s) := cell_of_row _ _ 1 _ _ _ ((HN1.out.block _ hzo).trans HXo.out)
      have o2 : w1.cell? ⟨w.heap.size, 2, none⟩ = some (.string f) := cell_of_row _ _ 2 _ _ _ ((HN1.out.block _ hzo).trans HXo.out)
      have o3 : w1.cell? ⟨w.heap.size, 3, none⟩ = some (.slice A l.length c) := cell_of_row _ _ 3 _ _ _ ((HN1.out.block _ hzo).trans HXo.out)
      have o4 : w1.cell? ⟨w.heap.size, 4, none⟩ = some (.string f2) := cell_of_row _ _ 4 _ _ _ ((HN1.out.block _ hzo).trans HXo.out)
      have o5 : w1.cell? ⟨w.heap.size, 5, none⟩ = some (.slice A2 l2.length c2) := cell_of_row _ _ 5 _ _ _ ((HN1.out.block _ hzo).trans HXo.out)
      have p0 : w1.cell? ⟨b9, 0, none⟩ = some (.string f) := cell_of_row _ _ 0 _ _ _ ((HN1.out.block _ hzp).trans HXp.out)
      have p1 : w1.cell? ⟨b9, 1, none⟩ = some (.slice A9 l.length c9) := cell_of_row _ _ 1 _ _ _ ((HN1.out.block _ hzp).trans HXp.out)
      have KN := Lib.hid (law_names k s f f2 A A2 l.length l2.length c c2 w1 hs9 (HS.out.below HB1.out))
      unfold opCells at KN
      go_wp2_with fail
      refine KN.out.mono ?_
      rintro e wz ⟨rfl, hb⟩
      have HBz := Lib.hid (HB1.out.trans (hb.mono HB1.out.size))
      clear hb o0 o1 o2 o3 o4 o5 p0 p1
      go_wp2
      go_ret
      exact ⟨rfl, HBz.out⟩
    by_cases h4 : k = 4
    · have hk : (k == 4) = true := by simpa using h4
      have k1 : (k == 1) = false := by simpa using h1
      have k2 : (k == 2) = false := by simpa using h2
      have k3 : (k == 3) = false := by simpa using h3
      clear h1 h2 h3 h4
      have o0 : w1.cell? ⟨w.heap.size, 0, none⟩ = some (.int .i64 k) := cell_of_row _ _ 0 _ _ _ ((HN1.out.block _ hzo).trans HXo.out)
      have o1 : w1.cell? ⟨w.heap.size, 1, none⟩ = some (.string s) := cell_of_row _ _ 1 _ _ _ ((HN1.out.block _ hzo).trans HXo.out)
      have o2 : w1.cell? ⟨w.heap.size, 2, none⟩ = some (.string f) := cell_of_row _ _ 2 _ _ _ ((HN1.out.block _ hzo).trans HXo.out)
      have o3 : w1.cell? ⟨w.heap.size, 3, none⟩ = some (.slice A l.length c) := cell_of_row _ _ 3 _ _ _ ((HN1.out.block _ hzo).trans HXo.out)
      have o4 : w1.cell? ⟨w.heap.size, 4, none⟩ = some (.string f2) := cell_of_row _ _ 4 _ _ _ ((HN1.out.block _ hzo).trans HXo.out)
      have o5 : w1.cell? ⟨w.heap.size, 5, none⟩ = some (.slice A2 l2.length c2) := cell_of_row _ _ 5 _ _ _ ((HN1.out.block _ hzo).trans HXo.out)
      have p0 : w1.cell? ⟨b9, 0, none⟩ = some (.string f) := cell_of_row _ _ 0 _ _ _ ((HN1.out.block _ hzp).trans HXp.out)
      have p1 : w1.cell? ⟨b9, 1, none⟩ = some (.slice A9 l.length c9) := cell_of_row _ _ 1 _ _ _ ((HN1.out.block _ hzp).trans HXp.out)
      have KN := Lib.hid (law_names k s f f2 A A2 l.length l2.length c c2 w1 hs9 (HS.out.below HB1.out))
      unfold opCells at KN
      go_wp2_with fail
      refine KN.out.mono ?_
      rintro e wz ⟨rfl, hb⟩
      have HBz := Lib.hid (HB1.out.trans (hb.mono HB1.out.size))
      clear hb o0 o1 o2 o3 o4 o5 p0 p1
      go_wp2
      go_ret
      exact ⟨rfl, HBz.out⟩
    by_cases h5 : k = 5
    · have hk : (k == 5) = true := by simpa using h5
      have k1 : (k == 1) = false := by simpa using h1
      have k2 : (k == 2) = false := by simpa using h2
      have k3 : (k == 3) = false := by simpa using h3
      have k4 : (k == 4) = false := by simpa using h4
      clear h1 h2 h3 h4 h5
      have o0 : w1.cell? ⟨w.heap.size, 0, none⟩ = some (.int .i64 k) := cell_of_row _ _ 0 _ _ _ ((HN1.out.block _ hzo).trans HXo.out)
      have o1 : w1.cell? ⟨w.heap.size, 1, none⟩ = some (.string s) := cell_of_row _ _ 1 _ _ _ ((HN1.out.block _ hzo).trans HXo.out)
      have o2 : w1.cell? ⟨w.heap.size, 2, none⟩ = some (.string f) := cell_of_row _ _ 2 _ _ _ ((HN1.out.block _ hzo).trans HXo.out)
      have o3 : w1.cell? ⟨w.heap.size, 3, none⟩ = some (.slice A l.length c) := cell_of_row _ _ 3 _ _ _ ((HN1.out.block _ hzo).trans HXo.out)
      have o4 : w1.cell? ⟨w.heap.size, 4, none⟩ = some (.string f2) := cell_of_row _ _ 4 _ _ _ ((HN1.out.block _ hzo).trans HXo.out)
      have o5 : w1.cell? ⟨w.heap.size, 5, none⟩ = some (.slice A2 l2.length c2) := cell_of_row _ _ 5 _ _ _ ((HN1.out.block _ hzo).trans HXo.out)
      have p0 : w1.cell? ⟨b9, 0, none⟩ = some (.string f) := cell_of_row _ _ 0 _ _ _ ((HN1.out.block _ hzp).trans HXp.out)
      have p1 : w1.cell? ⟨b9, 1, none⟩ = some (.slice A9 l.length c9) := cell_of_row _ _ 1 _ _ _ ((HN1.out.block _ hzp).trans HXp.out)
      have KN := Lib.hid (law_names k s f f2 A A2 l.length l2.length c c2 w1 hs9 (HS.out.below HB1.out))
      unfold opCells at KN
      go_wp2_with fail
      refine KN.out.mono ?_
      rintro e wz ⟨rfl, hb⟩
      have HBz := Lib.hid (HB1.out.trans (hb.mono HB1.out.size))
      clear hb o0 o1 o2 o3 o4 o5 p0 p1
      go_wp2
      go_ret
      exact ⟨rfl, HBz.out⟩
    by_cases h6 : k = 6
    · have hk : (k == 6) = true := by simpa using h6
      have k1 : (k == 1) = false := by simpa using h1
      have k2 : (k == 2) = false := by simpa using h2
      have k3 : (k == 3) = false := by simpa using h3
      have k4 : (k == 4) = false := by simpa using h4
      have k5 : (k == 5) = false := by simpa using h5
      clear h1 h2 h3 h4 h5 h6
      have o0 : w1.cell? ⟨w.heap.size, 0, none⟩ = some (.int .i64 k) := cell_of_row _ _ 0 _ _ _ ((HN1.out.block _ hzo).trans HXo.out)
      have o1 : w1.cell? ⟨w.heap.size, 1, none⟩ = some (.string s) := cell_of_row _ _ 1 _ _ _ ((HN1.out.block _ hzo).trans HXo.out)
      have o2 : w1.cell? ⟨w.heap.size, 2, none⟩ = some (.string f) := cell_of_row _ _ 2 _ _ _ ((HN1.out.block _ hzo).trans HXo.out)
      have o3 : w1.cell? ⟨w.heap.size, 3, none⟩ = some (.slice A l.length c) := cell_of_row _ _ 3 _ _ _ ((HN1.out.block _ hzo).trans HXo.out)
      have o4 : w1.cell? ⟨w.heap.size, 4, none⟩ = some (.string f2) := cell_of_row _ _ 4 _ _ _ ((HN1.out.block _ hzo).trans HXo.out)
      have o5 : w1.cell? ⟨w.heap.size, 5, none⟩ = some (.slice A2 l2.length c2) := cell_of_row _ _ 5 _ _ _ ((HN1.out.block _ hzo).trans HXo.out)
      have p0 : w1.cell? ⟨b9, 0, none⟩ = some (.string f) := cell_of_row _ _ 0 _ _ _ ((HN1.out.block _ hzp).trans HXp.out)
      have p1 : w1.cell? ⟨b9, 1, none⟩ = some (.slice A9 l.length c9) := cell_of_row _ _ 1 _ _ _ ((HN1.out.block _ hzp).trans HXp.out)
      have E0 := Ext.cell p0
      have E1 := Ext.cell p1
      have E2 := Ext.cell o2
      have E3 := Ext.cell o3
      have C1 := Lib.hid (fun x : Ext w1 => sign_Place f A9 l c9 x.now hfz hlz (Rd.next HR9.out x.ok))
      have C2 := Lib.hid (fun x : Ext w1 => ref_Place f A l c x.now hfz hlz (Rd.next HR.out (HB1.out.trans (x.ok.mono HB1.out.size))))
      go_wp2
      refine wp_region_ext (by kernel_rfl) (by kernel_rfl) ?_
      go_big_quiet_step (fail)
      go_big_quiet_step ((go_at_call 10; exact Calls.ext_of (C1.out _)))
      go_big_quiet_step (fail)
      go_big_quiet_step (fail)
      go_big_quiet_step ((go_at_call 22; exact Calls.ext_of (C2.out _)))
      go_big_quiet_step (fail)
      go_big_quiet_step (fail)
      refine wpQuiet_nil ?_
      rintro _ ⟨z, rfl⟩
      have HZ := Lib.hid z.ok
      generalize z.now = w2 at *
      clear E0 E1 E2 E3
      clear o0 o1 o2 o3 o4 o5 p0 p1
      have o0 : w2.cell? ⟨w.heap.size, 0, none⟩ = some (.int .i64 k) := cell_of_row _ _ 0 _ _ _ ((HZ.out.block _ hzo).trans HXo.out)
      have o1 : w2.cell? ⟨w.heap.size, 1, none⟩ = some (.string s) := cell_of_row _ _ 1 _ _ _ ((HZ.out.block _ hzo).trans HXo.out)
      have o2 : w2.cell? ⟨w.heap.size, 2, none⟩ = some (.string f) := cell_of_row _ _ 2 _ _ _ ((HZ.out.block _ hzo).trans HXo.out)
      have o3 : w2.cell? ⟨w.heap.size, 3, none⟩ = some (.slice A l.length c) := cell_of_row _ _ 3 _ _ _ ((HZ.out.block _ hzo).trans HXo.out)
      have o4 : w2.cell? ⟨w.heap.size, 4, none⟩ = some (.string f2) := cell_of_row _ _ 4 _ _ _ ((HZ.out.block _ hzo).trans HXo.out)
      have o5 : w2.cell? ⟨w.heap.size, 5, none⟩ = some (.slice A2 l2.length c2) := cell_of_row _ _ 5 _ _ _ ((HZ.out.block _ hzo).trans HXo.out)
      have p0 : w2.cell? ⟨b9, 0, none⟩ = some (.string f) := cell_of_row _ _ 0 _ _ _ ((HZ.out.block _ hzp).trans HXp.out)
      have p1 : w2.cell? ⟨b9, 1, none⟩ = some (.slice A9 l.length c9) := cell_of_row _ _ 1 _ _ _ ((HZ.out.block _ hzp).trans HXp.out)
      have KE := Lib.hid (ref_EqPlace f f A9 A l l c9 c w2 hlz hlz (Rd.next HR9.out HZ.out) (Rd.next HR.out (HB1.out.trans (HZ.out.mono HB1.out.size))))
      rw [eqPl_refl] at KE
      go_wp2_with fail
      refine KE.out.mono ?_
      rintro e wz ⟨rfl, hb⟩
      have HBz := Lib.hid (HB1.out.trans ((HZ.out.trans (hb.mono HZ.out.size)).mono HB1.out.size))
      clear hb o0 o1 o2 o3 o4 o5 p0 p1
      go_wp2
      go_ret
      exact ⟨by simp, HBz.out⟩
    by_cases h7 : k = 7
    · have hk : (k == 7) = true := by simpa using h7
      have k1 : (k == 1) = false := by simpa using h1
      have k2 : (k == 2) = false := by simpa using h2
      have k3 : (k == 3) = false := by simpa using h3
      have k4 : (k == 4) = false := by simpa using h4
      have k5 : (k == 5) = false := by simpa using h5
      have k6 : (k == 6) = false := by simpa using h6
      clear h1 h2 h3 h4 h5 h6 h7
      have o0 : w1.cell? ⟨w.heap.size, 0, none⟩ = some (.int .i64 k) := cell_of_row _ _ 0 _ _ _ ((HN1.out.block _ hzo).trans HXo.out)
      have o1 : w1.cell? ⟨w.heap.size, 1, none⟩ = some (.string s) := cell_of_row _ _ 1 _ _ _ ((HN1.out.block _ hzo).trans HXo.out)
      have o2 : w1.cell? ⟨w.heap.size, 2, none⟩ = some (.string f) := cell_of_row _ _ 2 _ _ _ ((HN1.out.block _ hzo).trans HXo.out)
      have o3 : w1.cell? ⟨w.heap.size, 3, none⟩ = some (.slice A l.length c) := cell_of_row _ _ 3 _ _ _ ((HN1.out.block _ hzo).trans HXo.out)
      have o4 : w1.cell? ⟨w.heap.size, 4, none⟩ = some (.string f2) := cell_of_row _ _ 4 _ _ _ ((HN1.out.block _ hzo).trans HXo.out)
      have o5 : w1.cell? ⟨w.heap.size, 5, none⟩ = some (.slice A2 l2.length c2) := cell_of_row _ _ 5 _ _ _ ((HN1.out.block _ hzo).trans HXo.out)
      have p0 : w1.cell? ⟨b9, 0, none⟩ = some (.string f) := cell_of_row _ _ 0 _ _ _ ((HN1.out.block _ hzp).trans HXp.out)
      have p1 : w1.cell? ⟨b9, 1, none⟩ = some (.slice A9 l.length c9) := cell_of_row _ _ 1 _ _ _ ((HN1.out.block _ hzp).trans HXp.out)
      have K1 := Lib.hid (sign_PathText A9 l c9 w1 hlz HR9.out (HS.out.below HB1.out))
      have es := str_same (pathTextV l).1
      go_wp2_with fail
      refine K1.out.mono ?_
      rintro e w2 ⟨rfl, hb⟩
      have HN2 := Lib.hid (HN1.out.trans (hb.mono HN1.out.size))
      clear hb
      clear o0 o1 o2 o3 o4 o5 p0 p1
      have o0 : w2.cell? ⟨w.heap.size, 0, none⟩ = some (.int .i64 k) := cell_of_row _ _ 0 _ _ _ ((HN2.out.block _ hzo).trans HXo.out)
      have o1 : w2.cell? ⟨w.heap.size, 1, none⟩ = some (.string s) := cell_of_row _ _ 1 _ _ _ ((HN2.out.block _ hzo).trans HXo.out)
      have o2 : w2.cell? ⟨w.heap.size, 2, none⟩ = some (.string f) := cell_of_row _ _ 2 _ _ _ ((HN2.out.block _ hzo).trans HXo.out)
      have o3 : w2.cell? ⟨w.heap.size, 3, none⟩ = some (.slice A l.length c) := cell_of_row _ _ 3 _ _ _ ((HN2.out.block _ hzo).trans HXo.out)
      have o4 : w2.cell? ⟨w.heap.size, 4, none⟩ = some (.string f2) := cell_of_row _ _ 4 _ _ _ ((HN2.out.block _ hzo).trans HXo.out)
      have o5 : w2.cell? ⟨w.heap.size, 5, none⟩ = some (.slice A2 l2.length c2) := cell_of_row _ _ 5 _ _ _ ((HN2.out.block _ hzo).trans HXo.out)
      have p0 : w2.cell? ⟨b9, 0, none⟩ = some (.string f) := cell_of_row _ _ 0 _ _ _ ((HN2.out.block _ hzp).trans HXp.out)
      have p1 : w2.cell? ⟨b9, 1, none⟩ = some (.slice A9 l.length c9) := cell_of_row _ _ 1 _ _ _ ((HN2.out.block _ hzp).trans HXp.out)
      have K2 := Lib.hid (ref_PathText A l c w2 hlz (Rd.next HR.out (HB1.out.trans (HN2.out.mono HB1.out.size))))
      go_wp2_with fail
      refine K2.out.mono ?_
      rintro e w3 ⟨rfl, hb⟩
      have HN3 := Lib.hid (HN2.out.trans (hb.mono HN2.out.size))
      clear hb
      clear o0 o1 o2 o3 o4 o5 p0 p1
      have o0 : w3.cell? ⟨w.heap.size, 0, none⟩ = some (.int .i64 k) := cell_of_row _ _ 0 _ _ _ ((HN3.out.block _ hzo).trans HXo.out)
      have o1 : w3.cell? ⟨w.heap.size, 1, none⟩ = some (.string s) := cell_of_row _ _ 1 _ _ _ ((HN3.out.block _ hzo).trans HXo.out)
      have o2 : w3.cell? ⟨w.heap.size, 2, none⟩ = some (.string f) := cell_of_row _ _ 2 _ _ _ ((HN3.out.block _ hzo).trans HXo.out)
      have o3 : w3.cell? ⟨w.heap.size, 3, none⟩ = some (.slice A l.length c) := cell_of_row _ _ 3 _ _ _ ((HN3.out.block _ hzo).trans HXo.out)
      have o4 : w3.cell? ⟨w.heap.size, 4, none⟩ = some (.string f2) := cell_of_row _ _ 4 _ _ _ ((HN3.out.block _ hzo).trans HXo.out)
      have o5 : w3.cell? ⟨w.heap.size, 5, none⟩ = some (.slice A2 l2.length c2) := cell_of_row _ _ 5 _ _ _ ((HN3.out.block _ hzo).trans HXo.out)
      have p0 : w3.cell? ⟨b9, 0, none⟩ = some (.string f) := cell_of_row _ _ 0 _ _ _ ((HN3.out.block _ hzp).trans HXp.out)
      have p1 : w3.cell? ⟨b9, 1, none⟩ = some (.slice A9 l.length c9) := cell_of_row _ _ 1 _ _ _ ((HN3.out.block _ hzp).trans HXp.out)
      have KE := Lib.hid (ref_EqPlace f f A9 A l l c9 c w3 hlz hlz (Rd.next HR9.out HN3.out) (Rd.next HR.out (HB1.out.trans (HN3.out.mono HB1.out.size))))
      rw [eqPl_refl] at KE
      go_wp2_with fail
      refine KE.out.mono ?_
      rintro e wz ⟨rfl, hb⟩
      have HBz := Lib.hid (HB1.out.trans ((HN3.out.trans (hb.mono HN3.out.size)).mono HB1.out.size))
      clear hb o0 o1 o2 o3 o4 o5 p0 p1
      go_wp2
      go_ret
      exact ⟨by simp, HBz.out⟩
    by_cases h8 : k = 8
    · have hk : (k == 8) = true := by simpa using h8
      have k1 : (k == 1) = false := by simpa using h1
      have k2 : (k == 2) = false := by simpa using h2
      have k3 : (k == 3) = false := by simpa using h3
      have k4 : (k == 4) = false := by simpa using h4
      have k5 : (k == 5) = false := by simpa using h5
      have k6 : (k == 6) = false := by simpa using h6
      have k7 : (k == 7) = false := by simpa using h7
      clear h1 h2 h3 h4 h5 h6 h7 h8
      have o0 : w1.cell? ⟨w.heap.size, 0, none⟩ = some (.int .i64 k) := cell_of_row _ _ 0 _ _ _ ((HN1.out.block _ hzo).trans HXo.out)
      have o1 : w1.cell? ⟨w.heap.size, 1, none⟩ = some (.string s) := cell_of_row _ _ 1 _ _ _ ((HN1.out.block _ hzo).trans HXo.out)
      have o2 : w1.cell? ⟨w.heap.size, 2, none⟩ = some (.string f) := cell_of_row _ _ 2 _ _ _ ((HN1.out.block _ hzo).trans HXo.out)
      have o3 : w1.cell? ⟨w.heap.size, 3, none⟩ = some (.slice A l.length c) := cell_of_row _ _ 3 _ _ _ ((HN1.out.block _ hzo).trans HXo.out)
      have o4 : w1.cell? ⟨w.heap.size, 4, none⟩ = some (.string f2) := cell_of_row _ _ 4 _ _ _ ((HN1.out.block _ hzo).trans HXo.out)
      have o5 : w1.cell? ⟨w.heap.size, 5, none⟩ = some (.slice A2 l2.length c2) := cell_of_row _ _ 5 _ _ _ ((HN1.out.block _ hzo).trans HXo.out)
      have p0 : w1.cell? ⟨b9, 0, none⟩ = some (.string f) := cell_of_row _ _ 0 _ _ _ ((HN1.out.block _ hzp).trans HXp.out)
      have p1 : w1.cell? ⟨b9, 1, none⟩ = some (.slice A9 l.length c9) := cell_of_row _ _ 1 _ _ _ ((HN1.out.block _ hzp).trans HXp.out)
      have K1 := Lib.hid (sign_ReadPath s w1 hs2)
      have K2 : Hid (∀ w9, Calls Tryd.prog 25 #[.string s] w9 (RP (readP s.data.toList) w9)) := Lib.hid fun w9 => ref_ReadPath s w9 hs2
      have hrl : Hid (∀ L, readP s.data.toList = some L → L.length ≤ 140737488355328) := Lib.hid fun L hL => by
        have h2 := (text_read hL).2
        unfold pathL at h2
        simp only [Bool.and_eq_true, decide_eq_true_eq] at h2
        omega
      go_wp2_with fail
      refine K1.out.mono ?_
      rintro e w2 ⟨hb, hc⟩
      have HN2 := Lib.hid (HN1.out.trans (hb.mono HN1.out.size))
      clear hb K1
      clear o0 o1 o2 o3 o4 o5 p0 p1
      have o0 : w2.cell? ⟨w.heap.size, 0, none⟩ = some (.int .i64 k) := cell_of_row _ _ 0 _ _ _ ((HN2.out.block _ hzo).trans HXo.out)
      have o1 : w2.cell? ⟨w.heap.size, 1, none⟩ = some (.string s) := cell_of_row _ _ 1 _ _ _ ((HN2.out.block _ hzo).trans HXo.out)
      have o2 : w2.cell? ⟨w.heap.size, 2, none⟩ = some (.string f) := cell_of_row _ _ 2 _ _ _ ((HN2.out.block _ hzo).trans HXo.out)
      have o3 : w2.cell? ⟨w.heap.size, 3, none⟩ = some (.slice A l.length c) := cell_of_row _ _ 3 _ _ _ ((HN2.out.block _ hzo).trans HXo.out)
      have o4 : w2.cell? ⟨w.heap.size, 4, none⟩ = some (.string f2) := cell_of_row _ _ 4 _ _ _ ((HN2.out.block _ hzo).trans HXo.out)
      have o5 : w2.cell? ⟨w.heap.size, 5, none⟩ = some (.slice A2 l2.length c2) := cell_of_row _ _ 5 _ _ _ ((HN2.out.block _ hzo).trans HXo.out)
      have p0 : w2.cell? ⟨b9, 0, none⟩ = some (.string f) := cell_of_row _ _ 0 _ _ _ ((HN2.out.block _ hzp).trans HXp.out)
      have p1 : w2.cell? ⟨b9, 1, none⟩ = some (.slice A9 l.length c9) := cell_of_row _ _ 1 _ _ _ ((HN2.out.block _ hzp).trans HXp.out)
      cases hL : readP s.data.toList with
      | none =>
        rw [hL] at hc K2
        simp only at hc
        subst hc
        clear hL
        go_wp2_with fail
        refine (K2.out _).mono ?_
        rintro e w3 ⟨hb, hc2⟩
        simp only at hc2
        subst hc2
        have HN3 := Lib.hid (HN2.out.trans (hb.mono HN2.out.size))
        clear hb K2
        have KI := Lib.hid (law_ints_same none none [] 0 0 w3 (by decide) Rd.nil Rd.nil)
        go_wp2_with fail
        refine KI.out.mono ?_
        rintro e w4 ⟨rfl, hb⟩
        have HN4 := Lib.hid (HN3.out.trans (hb.mono HN3.out.size))
        clear hb
        clear o0 o1 o2 o3 o4 o5 p0 p1
        have o0 : w4.cell? ⟨w.heap.size, 0, none⟩ = some (.int .i64 k) := cell_of_row _ _ 0 _ _ _ ((HN4.out.block _ hzo).trans HXo.out)
        have o1 : w4.cell? ⟨w.heap.size, 1, none⟩ = some (.string s) := cell_of_row _ _ 1 _ _ _ ((HN4.out.block _ hzo).trans HXo.out)
        have o2 : w4.cell? ⟨w.heap.size, 2, none⟩ = some (.string f) := cell_of_row _ _ 2 _ _ _ ((HN4.out.block _ hzo).trans HXo.out)
        have o3 : w4.cell? ⟨w.heap.size, 3, none⟩ = some (.slice A l.length c) := cell_of_row _ _ 3 _ _ _ ((HN4.out.block _ hzo).trans HXo.out)
        have o4 : w4.cell? ⟨w.heap.size, 4, none⟩ = some (.string f2) := cell_of_row _ _ 4 _ _ _ ((HN4.out.block _ hzo).trans HXo.out)
        have o5 : w4.cell? ⟨w.heap.size, 5, none⟩ = some (.slice A2 l2.length c2) := cell_of_row _ _ 5 _ _ _ ((HN4.out.block _ hzo).trans HXo.out)
        have p0 : w4.cell? ⟨b9, 0, none⟩ = some (.string f) := cell_of_row _ _ 0 _ _ _ ((HN4.out.block _ hzp).trans HXp.out)
        have p1 : w4.cell? ⟨b9, 1, none⟩ = some (.slice A9 l.length c9) := cell_of_row _ _ 1 _ _ _ ((HN4.out.block _ hzp).trans HXp.out)
        have KE := Lib.hid (ref_EqPlace f f A9 A l l c9 c w4 hlz hlz (Rd.next HR9.out HN4.out) (Rd.next HR.out (HB1.out.trans (HN4.out.mono HB1.out.size))))
        rw [eqPl_refl] at KE
        go_wp2_with fail
        refine KE.out.mono ?_
        rintro e wz ⟨rfl, hb⟩
        have HBz := Lib.hid (HB1.out.trans ((HN4.out.trans (hb.mono HN4.out.size)).mono HB1.out.size))
        clear hb o0 o1 o2 o3 o4 o5 p0 p1
        go_wp2
        go_ret
        exact ⟨by simp, HBz.out⟩
      | some L =>
        have hLl := hrl.out L hL
        rw [hL] at hc K2
        obtain ⟨A7, c7, rfl, ho7⟩ := hc
        have HO7 := Lib.hid (Rd.of_own ho7)
        clear hL ho7
        go_wp2_with fail
        refine (K2.out _).mono ?_
        rintro e w3 ⟨hb, hc2⟩
        obtain ⟨A8, c8, rfl, ho8⟩ := hc2
        have HN3 := Lib.hid (HN2.out.trans (hb.mono HN2.out.size))
        have KI := Lib.hid (law_ints_same A7 A8 L c7 c8 w3 hLl (Rd.next HO7.out hb) (Rd.of_own ho8))
        clear hb ho8 K2
        go_wp2_with fail
        refine KI.out.mono ?_
        rintro e w4 ⟨rfl, hb⟩
        have HN4 := Lib.hid (HN3.out.trans (hb.mono HN3.out.size))
        clear hb
        clear o0 o1 o2 o3 o4 o5 p0 p1
        have o0 : w4.cell? ⟨w.heap.size, 0, none⟩ = some (.int .i64 k) := cell_of_row _ _ 0 _ _ _ ((HN4.out.block _ hzo).trans HXo.out)
        have o1 : w4.cell? ⟨w.heap.size, 1, none⟩ = some (.string s) := cell_of_row _ _ 1 _ _ _ ((HN4.out.block _ hzo).trans HXo.out)
        have o2 : w4.cell? ⟨w.heap.size, 2, none⟩ = some (.string f) := cell_of_row _ _ 2 _ _ _ ((HN4.out.block _ hzo).trans HXo.out)
        have o3 : w4.cell? ⟨w.heap.size, 3, none⟩ = some (.slice A l.length c) := cell_of_row _ _ 3 _ _ _ ((HN4.out.block _ hzo).trans HXo.out)
        have o4 : w4.cell? ⟨w.heap.size, 4, none⟩ = some (.string f2) := cell_of_row _ _ 4 _ _ _ ((HN4.out.block _ hzo).trans HXo.out)
        have o5 : w4.cell? ⟨w.heap.size, 5, none⟩ = some (.slice A2 l2.length c2) := cell_of_row _ _ 5 _ _ _ ((HN4.out.block _ hzo).trans HXo.out)
        have p0 : w4.cell? ⟨b9, 0, none⟩ = some (.string f) := cell_of_row _ _ 0 _ _ _ ((HN4.out.block _ hzp).trans HXp.out)
        have p1 : w4.cell? ⟨b9, 1, none⟩ = some (.slice A9 l.length c9) := cell_of_row _ _ 1 _ _ _ ((HN4.out.block _ hzp).trans HXp.out)
        have KE := Lib.hid (ref_EqPlace f f A9 A l l c9 c w4 hlz hlz (Rd.next HR9.out HN4.out) (Rd.next HR.out (HB1.out.trans (HN4.out.mono HB1.out.size))))
        rw [eqPl_refl] at KE
        go_wp2_with fail
        refine KE.out.mono ?_
        rintro e wz ⟨rfl, hb⟩
        have HBz := Lib.hid (HB1.out.trans ((HN4.out.trans (hb.mono HN4.out.size)).mono HB1.out.size))
        clear hb o0 o1 o2 o3 o4 o5 p0 p1
        go_wp2
        go_ret
        exact ⟨by simp, HBz.out⟩
    by_cases h9 : k = 9
    · have hk : (k == 9) = true := by simpa using h9
      have k1 : (k == 1) = false := by simpa using h1
      have k2 : (k == 2) = false := by simpa using h2
      have k3 : (k == 3) = false := by simpa using h3
      have k4 : (k == 4) = false := by simpa using h4
      have k5 : (k == 5) = false := by simpa using h5
      have k6 : (k == 6) = false := by simpa using h6
      have k7 : (k == 7) = false := by simpa using h7
      have k8 : (k == 8) = false := by simpa using h8
      clear h1 h2 h3 h4 h5 h6 h7 h8 h9
      have o0 : w1.cell? ⟨w.heap.size, 0, none⟩ = some (.int .i64 k) := cell_of_row _ _ 0 _ _ _ ((HN1.out.block _ hzo).trans HXo.out)
      have o1 : w1.cell? ⟨w.heap.size, 1, none⟩ = some (.string s) := cell_of_row _ _ 1 _ _ _ ((HN1.out.block _ hzo).trans HXo.out)
      have o2 : w1.cell? ⟨w.heap.size, 2, none⟩ = some (.string f) := cell_of_row _ _ 2 _ _ _ ((HN1.out.block _ hzo).trans HXo.out)
      have o3 : w1.cell? ⟨w.heap.size, 3, none⟩ = some (.slice A l.length c) := cell_of_row _ _ 3 _ _ _ ((HN1.out.block _ hzo).trans HXo.out)
      have o4 : w1.cell? ⟨w.heap.size, 4, none⟩ = some (.string f2) := cell_of_row _ _ 4 _ _ _ ((HN1.out.block _ hzo).trans HXo.out)
      have o5 : w1.cell? ⟨w.heap.size, 5, none⟩ = some (.slice A2 l2.length c2) := cell_of_row _ _ 5 _ _ _ ((HN1.out.block _ hzo).trans HXo.out)
      have p0 : w1.cell? ⟨b9, 0, none⟩ = some (.string f) := cell_of_row _ _ 0 _ _ _ ((HN1.out.block _ hzp).trans HXp.out)
      have p1 : w1.cell? ⟨b9, 1, none⟩ = some (.slice A9 l.length c9) := cell_of_row _ _ 1 _ _ _ ((HN1.out.block _ hzp).trans HXp.out)
      have K1 := Lib.hid (sign_PlaceText f A9 l c9 w1 hfz hlz HR9.out (HS.out.below HB1.out))
      have es := str_same (placeTextV f l).1
      go_wp2_with fail
      refine K1.out.mono ?_
      rintro e w2 ⟨rfl, hb⟩
      have HN2 := Lib.hid (HN1.out.trans (hb.mono HN1.out.size))
      clear hb
      clear o0 o1 o2 o3 o4 o5 p0 p1
      have o0 : w2.cell? ⟨w.heap.size, 0, none⟩ = some (.int .i64 k) := cell_of_row _ _ 0 _ _ _ ((HN2.out.block _ hzo).trans HXo.out)
      have o1 : w2.cell? ⟨w.heap.size, 1, none⟩ = some (.string s) := cell_of_row _ _ 1 _ _ _ ((HN2.out.block _ hzo).trans HXo.out)
      have o2 : w2.cell? ⟨w.heap.size, 2, none⟩ = some (.string f) := cell_of_row _ _ 2 _ _ _ ((HN2.out.block _ hzo).trans HXo.out)
      have o3 : w2.cell? ⟨w.heap.size, 3, none⟩ = some (.slice A l.length c) := cell_of_row _ _ 3 _ _ _ ((HN2.out.block _ hzo).trans HXo.out)
      have o4 : w2.cell? ⟨w.heap.size, 4, none⟩ = some (.string f2) := cell_of_row _ _ 4 _ _ _ ((HN2.out.block _ hzo).trans HXo.out)
      have o5 : w2.cell? ⟨w.heap.size, 5, none⟩ = some (.slice A2 l2.length c2) := cell_of_row _ _ 5 _ _ _ ((HN2.out.block _ hzo).trans HXo.out)
      have p0 : w2.cell? ⟨b9, 0, none⟩ = some (.string f) := cell_of_row _ _ 0 _ _ _ ((HN2.out.block _ hzp).trans HXp.out)
      have p1 : w2.cell? ⟨b9, 1, none⟩ = some (.slice A9 l.length c9) := cell_of_row _ _ 1 _ _ _ ((HN2.out.block _ hzp).trans HXp.out)
      have K2 := Lib.hid (ref_PlaceText f A l c w2 hfz hlz (Rd.next HR.out (HB1.out.trans (HN2.out.mono HB1.out.size))))
      go_wp2_with fail
      refine K2.out.mono ?_
      rintro e w3 ⟨rfl, hb⟩
      have HN3 := Lib.hid (HN2.out.trans (hb.mono HN2.out.size))
      clear hb
      clear o0 o1 o2 o3 o4 o5 p0 p1
      have o0 : w3.cell? ⟨w.heap.size, 0, none⟩ = some (.int .i64 k) := cell_of_row _ _ 0 _ _ _ ((HN3.out.block _ hzo).trans HXo.out)
      have o1 : w3.cell? ⟨w.heap.size, 1, none⟩ = some (.string s) := cell_of_row _ _ 1 _ _ _ ((HN3.out.block _ hzo).trans HXo.out)
      have o2 : w3.cell? ⟨w.heap.size, 2, none⟩ = some (.string f) := cell_of_row _ _ 2 _ _ _ ((HN3.out.block _ hzo).trans HXo.out)
      have o3 : w3.cell? ⟨w.heap.size, 3, none⟩ = some (.slice A l.length c) := cell_of_row _ _ 3 _ _ _ ((HN3.out.block _ hzo).trans HXo.out)
      have o4 : w3.cell? ⟨w.heap.size, 4, none⟩ = some (.string f2) := cell_of_row _ _ 4 _ _ _ ((HN3.out.block _ hzo).trans HXo.out)
      have o5 : w3.cell? ⟨w.heap.size, 5, none⟩ = some (.slice A2 l2.length c2) := cell_of_row _ _ 5 _ _ _ ((HN3.out.block _ hzo).trans HXo.out)
      have p0 : w3.cell? ⟨b9, 0, none⟩ = some (.string f) := cell_of_row _ _ 0 _ _ _ ((HN3.out.block _ hzp).trans HXp.out)
      have p1 : w3.cell? ⟨b9, 1, none⟩ = some (.slice A9 l.length c9) := cell_of_row _ _ 1 _ _ _ ((HN3.out.block _ hzp).trans HXp.out)
      have KE := Lib.hid (ref_EqPlace f f A9 A l l c9 c w3 hlz hlz (Rd.next HR9.out HN3.out) (Rd.next HR.out (HB1.out.trans (HN3.out.mono HB1.out.size))))
      rw [eqPl_refl] at KE
      go_wp2_with fail
      refine KE.out.mono ?_
      rintro e wz ⟨rfl, hb⟩
      have HBz := Lib.hid (HB1.out.trans ((HN3.out.trans (hb.mono HN3.out.size)).mono HB1.out.size))
      clear hb o0 o1 o2 o3 o4 o5 p0 p1
      go_wp2
      go_ret
      exact ⟨by simp, HBz.out⟩
    by_cases h10 : k = 10
    · have hk : (k == 10) = true := by simpa using h10
      have k1 : (k == 1) = false := by simpa using h1
      have k2 : (k == 2) = false := by simpa using h2
      have k3 : (k == 3) = false := by simpa using h3
      have k4 : (k == 4) = false := by simpa using h4
      have k5 : (k == 5) = false := by simpa using h5
      have k6 : (k == 6) = false := by simpa using h6
      have k7 : (k == 7) = false := by simpa using h7
      have k8 : (k == 8) = false := by simpa using h8
      have k9 : (k == 9) = false := by simpa using h9
      clear h1 h2 h3 h4 h5 h6 h7 h8 h9 h10
      have o0 : w1.cell? ⟨w.heap.size, 0, none⟩ = some (.int .i64 k) := cell_of_row _ _ 0 _ _ _ ((HN1.out.block _ hzo).trans HXo.out)
      have o1 : w1.cell? ⟨w.heap.size, 1, none⟩ = some (.string s) := cell_of_row _ _ 1 _ _ _ ((HN1.out.block _ hzo).trans HXo.out)
      have o2 : w1.cell? ⟨w.heap.size, 2, none⟩ = some (.string f) := cell_of_row _ _ 2 _ _ _ ((HN1.out.block _ hzo).trans HXo.out)
      have o3 : w1.cell? ⟨w.heap.size, 3, none⟩ = some (.slice A l.length c) := cell_of_row _ _ 3 _ _ _ ((HN1.out.block _ hzo).trans HXo.out)
      have o4 : w1.cell? ⟨w.heap.size, 4, none⟩ = some (.string f2) := cell_of_row _ _ 4 _ _ _ ((HN1.out.block _ hzo).trans HXo.out)
      have o5 : w1.cell? ⟨w.heap.size, 5, none⟩ = some (.slice A2 l2.length c2) := cell_of_row _ _ 5 _ _ _ ((HN1.out.block _ hzo).trans HXo.out)
      have p0 : w1.cell? ⟨b9, 0, none⟩ = some (.string f) := cell_of_row _ _ 0 _ _ _ ((HN1.out.block _ hzp).trans HXp.out)
      have p1 : w1.cell? ⟨b9, 1, none⟩ = some (.slice A9 l.length c9) := cell_of_row _ _ 1 _ _ _ ((HN1.out.block _ hzp).trans HXp.out)
      have K1 := Lib.hid (sign_ReadPlace s w1 hs2)
      have K2 : Hid (∀ w9, Calls Tryd.prog 28 #[.string s] w9 (RPl (readPl s) w9)) := Lib.hid fun w9 => ref_ReadPlace s w9 hs2
      go_wp2_with fail
      refine K1.out.mono ?_
      rintro e w2 ⟨hb, hc⟩
      have HN2 := Lib.hid (HN1.out.trans (hb.mono HN1.out.size))
      clear hb K1
      clear o0 o1 o2 o3 o4 o5 p0 p1
      cases hL : readPl s with
      | none =>
        rw [hL] at hc K2
        simp only at hc
        subst hc
        clear hL
        have HN2a := Lib.hid (HN2.out.alloc HN2.out.size (.cells #[.string ⟨#[]⟩, .slice none 0 0] 27))
        have HXa := Lib.hid (heap_alloc_new w2 (.cells #[.string ⟨#[]⟩, .slice none 0 0] 27))
        have hza : w2.heap.size < (w2.alloc (.cells #[.string ⟨#[]⟩, .slice none 0 0] 27)).heap.size := by simp
        have o1 : w2.cell? ⟨w.heap.size, 1, none⟩ = some (.string s) := cell_of_row _ _ 1 _ _ _ ((HN2.out.block _ hzo).trans HXo.out)
        have o1a : (w2.alloc (.cells #[.string ⟨#[]⟩, .slice none 0 0] 27)).cell? ⟨w.heap.size, 1, none⟩ = some (.string s) := cell_of_row _ _ 1 _ _ _ ((HN2a.out.block _ hzo).trans HXo.out)
        have HZA := Lib.hid hza
        clear hza
        unfold placeV
        go_wp2_with fail
        refine (K2.out _).mono ?_
        rintro e w3 ⟨hb, hc2⟩
        simp only at hc2
        subst hc2
        have HN3 := Lib.hid (HN2a.out.trans (hb.mono HN2a.out.size))
        have HXb := Lib.hid ((hb.block w2.heap.size HZA.out).trans HXa.out)
        clear hb K2 o1 o1a
        have HN3a := Lib.hid (HN3.out.alloc HN3.out.size (.cells #[.string ⟨#[]⟩, .slice none 0 0] 27))
        have HXc := Lib.hid (heap_alloc_new w3 (.cells #[.string ⟨#[]⟩, .slice none 0 0] 27))
        have HXd := Lib.hid ((Below.heap_alloc w3 (.cells #[.string ⟨#[]⟩, .slice none 0 0] 27) w2.heap.size (blk_lt HXb.out)).trans HXb.out)
        have a0 : (w3.alloc (.cells #[.string ⟨#[]⟩, .slice none 0 0] 27)).cell? ⟨w2.heap.size, 0, none⟩ = some (.string ⟨#[]⟩) := cell_of_row _ _ 0 _ _ _ HXd.out
        have a1 : (w3.alloc (.cells #[.string ⟨#[]⟩, .slice none 0 0] 27)).cell? ⟨w2.heap.size, 1, none⟩ = some (.slice none 0 0) := cell_of_row _ _ 1 _ _ _ HXd.out
        have b0 : (w3.alloc (.cells #[.string ⟨#[]⟩, .slice none 0 0] 27)).cell? ⟨w3.heap.size, 0, none⟩ = some (.string ⟨#[]⟩) := cell_of_row _ _ 0 _ _ _ HXc.out
        have b1 : (w3.alloc (.cells #[.string ⟨#[]⟩, .slice none 0 0] 27)).cell? ⟨w3.heap.size, 1, none⟩ = some (.slice none 0 0) := cell_of_row _ _ 1 _ _ _ HXc.out
        have KQ := Lib.hid (ref_EqPlace ⟨#[]⟩ ⟨#[]⟩ none none [] [] 0 0 (w3.alloc (.cells #[.string ⟨#[]⟩, .slice none 0 0] 27)) (by decide) (by decide) Rd.nil Rd.nil)
        rw [eqPl_refl] at KQ
        unfold placeV
        go_wp2_with fail
        refine KQ.out.mono ?_
        rintro e w4 ⟨rfl, hb⟩
        have HN4 := Lib.hid (HN3a.out.trans (hb.mono HN3a.out.size))
        clear hb a0 a1 b0 b1
        have o0 : w4.cell? ⟨w.heap.size, 0, none⟩ = some (.int .i64 k) := cell_of_row _ _ 0 _ _ _ ((HN4.out.block _ hzo).trans HXo.out)
        have o1 : w4.cell? ⟨w.heap.size, 1, none⟩ = some (.string s) := cell_of_row _ _ 1 _ _ _ ((HN4.out.block _ hzo).trans HXo.out)
        have o2 : w4.cell? ⟨w.heap.size, 2, none⟩ = some (.string f) := cell_of_row _ _ 2 _ _ _ ((HN4.out.block _ hzo).trans HXo.out)
        have o3 : w4.cell? ⟨w.heap.size, 3, none⟩ = some (.slice A l.length c) := cell_of_row _ _ 3 _ _ _ ((HN4.out.block _ hzo).trans HXo.out)
        have o4 : w4.cell? ⟨w.heap.size, 4, none⟩ = some (.string f2) := cell_of_row _ _ 4 _ _ _ ((HN4.out.block _ hzo).trans HXo.out)
        have o5 : w4.cell? ⟨w.heap.size, 5, none⟩ = some (.slice A2 l2.length c2) := cell_of_row _ _ 5 _ _ _ ((HN4.out.block _ hzo).trans HXo.out)
        have p0 : w4.cell? ⟨b9, 0, none⟩ = some (.string f) := cell_of_row _ _ 0 _ _ _ ((HN4.out.block _ hzp).trans HXp.out)
        have p1 : w4.cell? ⟨b9, 1, none⟩ = some (.slice A9 l.length c9) := cell_of_row _ _ 1 _ _ _ ((HN4.out.block _ hzp).trans HXp.out)
        have KE := Lib.hid (ref_EqPlace f f A9 A l l c9 c w4 hlz hlz (Rd.next HR9.out HN4.out) (Rd.next HR.out (HB1.out.trans (HN4.out.mono HB1.out.size))))
        rw [eqPl_refl] at KE
        go_wp2_with fail
        refine KE.out.mono ?_
        rintro e wz ⟨rfl, hb⟩
        have HBz := Lib.hid (HB1.out.trans ((HN4.out.trans (hb.mono HN4.out.size)).mono HB1.out.size))
        clear hb o0 o1 o2 o3 o4 o5 p0 p1
        go_wp2
        go_ret
        exact ⟨by simp, HBz.out⟩
      | some q =>
        obtain ⟨f7, l7⟩ := q
        have hl7 : l7.length ≤ 140737488355328 := by
          have h2 := (place_parts (placeText_read hL).2).2
          unfold pathL at h2
          simp only [Bool.and_eq_true, decide_eq_true_eq] at h2
          omega
        have HBal : Hid (∀ (wq : World) (o : Obj), Below wq.heap.size wq (wq.alloc o)) := Lib.hid fun wq o => (Below.refl _ _).alloc (Nat.le_refl _) _
        rw [hL] at hc K2
        obtain ⟨A7, c7, rfl, ho7⟩ := hc
        simp only at ho7
        have HO7 := Lib.hid (Rd.of_own ho7)
        clear hL ho7
        have HN2a := Lib.hid (HN2.out.alloc HN2.out.size (.cells #[.string f7, .slice A7 l7.length c7] 27))
        have HXa := Lib.hid (heap_alloc_new w2 (.cells #[.string f7, .slice A7 l7.length c7] 27))
        have hza : w2.heap.size < (w2.alloc (.cells #[.string f7, .slice A7 l7.length c7] 27)).heap.size := by simp
        have HRa := Lib.hid (Rd.next HO7.out (HBal.out w2 (.cells #[.string f7, .slice A7 l7.length c7] 27)))
        have o1 : w2.cell? ⟨w.heap.size, 1, none⟩ = some (.string s) := cell_of_row _ _ 1 _ _ _ ((HN2.out.block _ hzo).trans HXo.out)
        have o1a : (w2.alloc (.cells #[.string f7, .slice A7 l7.length c7] 27)).cell? ⟨w.heap.size, 1, none⟩ = some (.string s) := cell_of_row _ _ 1 _ _ _ ((HN2a.out.block _ hzo).trans HXo.out)
        have HZA := Lib.hid hza
        clear hza
        unfold placeV
        go_wp2_with fail
        refine (K2.out _).mono ?_
        rintro e w3 ⟨hb, hc2⟩
        obtain ⟨A8, c8, rfl, ho8⟩ := hc2
        simp only at ho8
        have HN3 := Lib.hid (HN2a.out.trans (hb.mono HN2a.out.size))
        have HXb := Lib.hid ((hb.block w2.heap.size HZA.out).trans HXa.out)
        have HRb := Lib.hid (Rd.next HRa.out hb)
        have HRc := Lib.hid (Rd.of_own ho8)
        clear hb K2 o1 o1a
        have HN3a := Lib.hid (HN3.out.alloc HN3.out.size (.cells #[.string f7, .slice A8 l7.length c8] 27))
        have HXc := Lib.hid (heap_alloc_new w3 (.cells #[.string f7, .slice A8 l7.length c8] 27))
        have HXd := Lib.hid ((Below.heap_alloc w3 (.cells #[.string f7, .slice A8 l7.length c8] 27) w2.heap.size (blk_lt HXb.out)).trans HXb.out)
        have HRd := Lib.hid (Rd.next HRb.out (HBal.out w3 (.cells #[.string f7, .slice A8 l7.length c8] 27)))
        have HRe := Lib.hid (Rd.next HRc.out (HBal.out w3 (.cells #[.string f7, .slice A8 l7.length c8] 27)))
        clear ho8
        have a0 : (w3.alloc (.cells #[.string f7, .slice A8 l7.length c8] 27)).cell? ⟨w2.heap.size, 0, none⟩ = some (.string f7) := cell_of_row _ _ 0 _ _ _ HXd.out
        have a1 : (w3.alloc (.cells #[.string f7, .slice A8 l7.length c8] 27)).cell? ⟨w2.heap.size, 1, none⟩ = some (.slice A7 l7.length c7) := cell_of_row _ _ 1 _ _ _ HXd.out
        have b0 : (w3.alloc (.cells #[.string f7, .slice A8 l7.length c8] 27)).cell? ⟨w3.heap.size, 0, none⟩ = some (.string f7) := cell_of_row _ _ 0 _ _ _ HXc.out
        have b1 : (w3.alloc (.cells #[.string f7, .slice A8 l7.length c8] 27)).cell? ⟨w3.heap.size, 1, none⟩ = some (.slice A8 l7.length c8) := cell_of_row _ _ 1 _ _ _ HXc.out
        have KQ := Lib.hid (ref_EqPlace f7 f7 A7 A8 l7 l7 c7 c8 (w3.alloc (.cells #[.string f7, .slice A8 l7.length c8] 27)) hl7 hl7 HRd.out HRe.out)
        rw [eqPl_refl] at KQ
        unfold placeV
        go_wp2_with fail
        refine KQ.out.mono ?_
        rintro e w4 ⟨rfl, hb⟩
        have HN4 := Lib.hid (HN3a.out.trans (hb.mono HN3a.out.size))
        clear hb a0 a1 b0 b1
        have o0 : w4.cell? ⟨w.heap.size, 0, none⟩ = some (.int .i64 k) := cell_of_row _ _ 0 _ _ _ ((HN4.out.block _ hzo).trans HXo.out)
        have o1 : w4.cell? ⟨w.heap.size, 1, none⟩ = some (.string s) := cell_of_row _ _ 1 _ _ _ ((HN4.out.block _ hzo).trans HXo.out)
        have o2 : w4.cell? ⟨w.heap.size, 2, none⟩ = some (.string f) := cell_of_row _ _ 2 _ _ _ ((HN4.out.block _ hzo).trans HXo.out)
        have o3 : w4.cell? ⟨w.heap.size, 3, none⟩ = some (.slice A l.length c) := cell_of_row _ _ 3 _ _ _ ((HN4.out.block _ hzo).trans HXo.out)
        have o4 : w4.cell? ⟨w.heap.size, 4, none⟩ = some (.string f2) := cell_of_row _ _ 4 _ _ _ ((HN4.out.block _ hzo).trans HXo.out)
        have o5 : w4.cell? ⟨w.heap.size, 5, none⟩ = some (.slice A2 l2.length c2) := cell_of_row _ _ 5 _ _ _ ((HN4.out.block _ hzo).trans HXo.out)
        have p0 : w4.cell? ⟨b9, 0, none⟩ = some (.string f) := cell_of_row _ _ 0 _ _ _ ((HN4.out.block _ hzp).trans HXp.out)
        have p1 : w4.cell? ⟨b9, 1, none⟩ = some (.slice A9 l.length c9) := cell_of_row _ _ 1 _ _ _ ((HN4.out.block _ hzp).trans HXp.out)
        have KE := Lib.hid (ref_EqPlace f f A9 A l l c9 c w4 hlz hlz (Rd.next HR9.out HN4.out) (Rd.next HR.out (HB1.out.trans (HN4.out.mono HB1.out.size))))
        rw [eqPl_refl] at KE
        go_wp2_with fail
        refine KE.out.mono ?_
        rintro e wz ⟨rfl, hb⟩
        have HBz := Lib.hid (HB1.out.trans ((HN4.out.trans (hb.mono HN4.out.size)).mono HB1.out.size))
        clear hb o0 o1 o2 o3 o4 o5 p0 p1
        go_wp2
        go_ret
        exact ⟨by simp, HBz.out⟩
    by_cases h11 : k = 11
    · have hk : (k == 11) = true := by simpa using h11
      have k1 : (k == 1) = false := by simpa using h1
      have k2 : (k == 2) = false := by simpa using h2
      have k3 : (k == 3) = false := by simpa using h3
      have k4 : (k == 4) = false := by simpa using h4
      have k5 : (k == 5) = false := by simpa using h5
      have k6 : (k == 6) = false := by simpa using h6
      have k7 : (k == 7) = false := by simpa using h7
      have k8 : (k == 8) = false := by simpa using h8
      have k9 : (k == 9) = false := by simpa using h9
      have k10 : (k == 10) = false := by simpa using h10
      clear h1 h2 h3 h4 h5 h6 h7 h8 h9 h10 h11
      have o0 : w1.cell? ⟨w.heap.size, 0, none⟩ = some (.int .i64 k) := cell_of_row _ _ 0 _ _ _ ((HN1.out.block _ hzo).trans HXo.out)
      have o1 : w1.cell? ⟨w.heap.size, 1, none⟩ = some (.string s) := cell_of_row _ _ 1 _ _ _ ((HN1.out.block _ hzo).trans HXo.out)
      have o2 : w1.cell? ⟨w.heap.size, 2, none⟩ = some (.string f) := cell_of_row _ _ 2 _ _ _ ((HN1.out.block _ hzo).trans HXo.out)
      have o3 : w1.cell? ⟨w.heap.size, 3, none⟩ = some (.slice A l.length c) := cell_of_row _ _ 3 _ _ _ ((HN1.out.block _ hzo).trans HXo.out)
      have o4 : w1.cell? ⟨w.heap.size, 4, none⟩ = some (.string f2) := cell_of_row _ _ 4 _ _ _ ((HN1.out.block _ hzo).trans HXo.out)
      have o5 : w1.cell? ⟨w.heap.size, 5, none⟩ = some (.slice A2 l2.length c2) := cell_of_row _ _ 5 _ _ _ ((HN1.out.block _ hzo).trans HXo.out)
      have p0 : w1.cell? ⟨b9, 0, none⟩ = some (.string f) := cell_of_row _ _ 0 _ _ _ ((HN1.out.block _ hzp).trans HXp.out)
      have p1 : w1.cell? ⟨b9, 1, none⟩ = some (.slice A9 l.length c9) := cell_of_row _ _ 1 _ _ _ ((HN1.out.block _ hzp).trans HXp.out)
      have E0 := Ext.cell p0
      have E1 := Ext.cell p1
      have E2 := Ext.cell o2
      have E3 := Ext.cell o3
      have E4 := Ext.cell o4
      have E5 := Ext.cell o5
      have C1 := Lib.hid (fun x : Ext w1 => sign_Compare f f2 A9 A2 l l2 c9 c2 x.now hlz hl2z (Rd.next HR9.out x.ok) (Rd.next HR2.out (HB1.out.trans (x.ok.mono HB1.out.size))))
      have C2 := Lib.hid (fun x : Ext w1 => ref_Compare f f2 A A2 l l2 c c2 x.now hlz hl2z (Rd.next HR.out (HB1.out.trans (x.ok.mono HB1.out.size))) (Rd.next HR2.out (HB1.out.trans (x.ok.mono HB1.out.size))))
      generalize placeC (plL f l) (plL f2 l2) = X at *
      go_wp2
      refine wp_region_ext (by kernel_rfl) (by kernel_rfl) ?_
      go_big_quiet_step (fail)
      go_big_quiet_step (fail)
      go_big_quiet_step (fail)
      go_big_quiet_step ((go_at_call 13; exact Calls.ext_of (C1.out _)))
      go_big_quiet_step (fail)
      go_big_quiet_step (fail)
      go_big_quiet_step (fail)
      go_big_quiet_step (fail)
      go_big_quiet_step ((go_at_call 29; exact Calls.ext_of (C2.out _)))
      go_big_quiet_step (fail)
      go_big_quiet_step (fail)
      refine wpQuiet_nil ?_
      rintro _ ⟨z, rfl⟩
      have HZ := Lib.hid z.ok
      generalize z.now = w2 at *
      clear E0 E1 E2 E3 E4 E5
      clear o0 o1 o2 o3 o4 o5 p0 p1
      have o0 : w2.cell? ⟨w.heap.size, 0, none⟩ = some (.int .i64 k) := cell_of_row _ _ 0 _ _ _ ((HZ.out.block _ hzo).trans HXo.out)
      have o1 : w2.cell? ⟨w.heap.size, 1, none⟩ = some (.string s) := cell_of_row _ _ 1 _ _ _ ((HZ.out.block _ hzo).trans HXo.out)
      have o2 : w2.cell? ⟨w.heap.size, 2, none⟩ = some (.string f) := cell_of_row _ _ 2 _ _ _ ((HZ.out.block _ hzo).trans HXo.out)
      have o3 : w2.cell? ⟨w.heap.size, 3, none⟩ = some (.slice A l.length c) := cell_of_row _ _ 3 _ _ _ ((HZ.out.block _ hzo).trans HXo.out)
      have o4 : w2.cell? ⟨w.heap.size, 4, none⟩ = some (.string f2) := cell_of_row _ _ 4 _ _ _ ((HZ.out.block _ hzo).trans HXo.out)
      have o5 : w2.cell? ⟨w.heap.size, 5, none⟩ = some (.slice A2 l2.length c2) := cell_of_row _ _ 5 _ _ _ ((HZ.out.block _ hzo).trans HXo.out)
      have p0 : w2.cell? ⟨b9, 0, none⟩ = some (.string f) := cell_of_row _ _ 0 _ _ _ ((HZ.out.block _ hzp).trans HXp.out)
      have p1 : w2.cell? ⟨b9, 1, none⟩ = some (.slice A9 l.length c9) := cell_of_row _ _ 1 _ _ _ ((HZ.out.block _ hzp).trans HXp.out)
      have KE := Lib.hid (ref_EqPlace f f A9 A l l c9 c w2 hlz hlz (Rd.next HR9.out HZ.out) (Rd.next HR.out (HB1.out.trans (HZ.out.mono HB1.out.size))))
      rw [eqPl_refl] at KE
      go_wp2_with fail
      refine KE.out.mono ?_
      rintro e wz ⟨rfl, hb⟩
      have HBz := Lib.hid (HB1.out.trans ((HZ.out.trans (hb.mono HZ.out.size)).mono HB1.out.size))
      clear hb o0 o1 o2 o3 o4 o5 p0 p1
      go_wp2
      go_ret
      exact ⟨by simp, HBz.out⟩
    have k1 : (k == 1) = false := by simpa using h1
    have k2 : (k == 2) = false := by simpa using h2
    have k3 : (k == 3) = false := by simpa using h3
    have k4 : (k == 4) = false := by simpa using h4
    have k5 : (k == 5) = false := by simpa using h5
    have k6 : (k == 6) = false := by simpa using h6
    have k7 : (k == 7) = false := by simpa using h7
    have k8 : (k == 8) = false := by simpa using h8
    have k9 : (k == 9) = false := by simpa using h9
    have k10 : (k == 10) = false := by simpa using h10
    have k11 : (k == 11) = false := by simpa using h11
    clear h1 h2 h3 h4 h5 h6 h7 h8 h9 h10 h11
    have o0 : w1.cell? ⟨w.heap.size, 0, none⟩ = some (.int .i64 k) := cell_of_row _ _ 0 _ _ _ ((HN1.out.block _ hzo).trans HXo.out)
    have o1 : w1.cell? ⟨w.heap.size, 1, none⟩ = some (.string s) := cell_of_row _ _ 1 _ _ _ ((HN1.out.block _ hzo).trans HXo.out)
    have o2 : w1.cell? ⟨w.heap.size, 2, none⟩ = some (.string f) := cell_of_row _ _ 2 _ _ _ ((HN1.out.block _ hzo).trans HXo.out)
    have o3 : w1.cell? ⟨w.heap.size, 3, none⟩ = some (.slice A l.length c) := cell_of_row _ _ 3 _ _ _ ((HN1.out.block _ hzo).trans HXo.out)
    have o4 : w1.cell? ⟨w.heap.size, 4, none⟩ = some (.string f2) := cell_of_row _ _ 4 _ _ _ ((HN1.out.block _ hzo).trans HXo.out)
    have o5 : w1.cell? ⟨w.heap.size, 5, none⟩ = some (.slice A2 l2.length c2) := cell_of_row _ _ 5 _ _ _ ((HN1.out.block _ hzo).trans HXo.out)
    have p0 : w1.cell? ⟨b9, 0, none⟩ = some (.string f) := cell_of_row _ _ 0 _ _ _ ((HN1.out.block _ hzp).trans HXp.out)
    have p1 : w1.cell? ⟨b9, 1, none⟩ = some (.slice A9 l.length c9) := cell_of_row _ _ 1 _ _ _ ((HN1.out.block _ hzp).trans HXp.out)
    have KE := Lib.hid (ref_EqPlace f f A9 A l l c9 c w1 hlz hlz (Rd.next HR9.out HN1.out) (Rd.next HR.out (HB1.out.trans (HN1.out.mono HB1.out.size))))
    rw [eqPl_refl] at KE
    go_wp2_with fail
    refine KE.out.mono ?_
    rintro e wz ⟨rfl, hb⟩
    have HBz := Lib.hid (HB1.out.trans ((HN1.out.trans (hb.mono HN1.out.size)).mono HB1.out.size))
    clear hb o0 o1 o2 o3 o4 o5 p0 p1
    go_wp2
    go_ret
    exact ⟨by simp, HBz.out⟩
end Go.Proofs.YthkofiakfmijiaaDoor
