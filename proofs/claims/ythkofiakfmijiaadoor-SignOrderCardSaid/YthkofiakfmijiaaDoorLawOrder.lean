/-
  espalierlaw3.SignOrder: a walk, for every three places and number. Conditions: within a row's reach; the library's variables are laid.
-/
import Derived.Test.YthkofiakfmijiaaDoorRegOrd
import Derived.Test.YthkofiakfmijiaaDoorLaw3Begun
import Derived.Test.YthkofiakfmijiaaDoorLawEq
namespace Go.Proofs.YthkofiakfmijiaaDoor
open Go.RowKit
set_option linter.unusedVariables false

theorem eqPl_cmp (f f2 : ByteArray) (l m : List Int) : eqPl f f2 l m = (placeC (plL f l) (plL f2 m) == 0) := by
  have h := place_ord.zero (plL f l) (plL f2 m)
  have hp : plL f l = plL f2 m ↔ f = f2 ∧ l = m := by
    unfold plL
    simp only [Prod.mk.injEq]
    constructor
    · rintro ⟨h1, rfl⟩
      exact ⟨ByteArray.ext (Array.ext' h1), rfl⟩
    · rintro ⟨rfl, rfl⟩; exact ⟨rfl, rfl⟩
  rw [hp] at h
  unfold eqPl
  by_cases hc : placeC (plL f l) (plL f2 m) = 0
  · obtain ⟨rfl, rfl⟩ := h.1 hc
    simp [hc]
  · have : ¬ (f = f2 ∧ l = m) := fun e => hc (h.2 e)
    have hb : (placeC (plL f l) (plL f2 m) == 0) = false := by simpa using hc
    rw [hb, ← Bool.decide_and]
    simpa using this
/-- The ways of the second test. -/
theorem order_ways {x y z : Int} (h1 : x ≤ 0 → y ≤ 0 → z ≤ 0 ∧ (z = 0 → x = 0 ∧ y = 0)) :
    (decide (x ≤ 0) = false) ∨ (decide (x ≤ 0) = true ∧ decide (y ≤ 0) = false) ∨ (decide (x ≤ 0) = true ∧ decide (y ≤ 0) = true ∧ decide (0 < z) = false ∧ (z == 0) = false) ∨
    (decide (x ≤ 0) = true ∧ decide (y ≤ 0) = true ∧ decide (0 < z) = false ∧ (z == 0) = true ∧ (x != 0) = false ∧ (y != 0) = false) := by
  by_cases hx : x ≤ 0
  · by_cases hy : y ≤ 0
    · obtain ⟨hz, h0⟩ := h1 hx hy
      by_cases hz0 : z = 0
      · obtain ⟨rfl, rfl⟩ := h0 hz0
        subst hz0
        exact .inr (.inr (.inr ⟨rfl, rfl, rfl, rfl, rfl, rfl⟩))
      · exact .inr (.inr (.inl ⟨by simpa using hx, by simpa using hy, by simp; omega, by simpa using hz0⟩))
    · exact .inr (.inl ⟨by simpa using hx, by simpa using hy⟩)
  · exact .inl (by simpa using hx)
set_option maxRecDepth 100000 in
set_option maxHeartbeats 8000000 in
theorem law_SignOrder (f1 f2 f3 : ByteArray) (A1 A2 A3 : Option Addr) (l1 l2 l3 : List Int) (c1 c2 c3 : Nat) (k : Int) (w : World)
    (hl1 : l1.length * 8 ≤ 140737488351232) (hl2 : l2.length ≤ 140737488355328) (hl3 : l3.length ≤ 140737488355328) (hA1 : A1 = none → l1 = [] ∧ c1 = 0)
    (hR1 : RdI w w.heap.size A1 l1) (hR2 : RdI w w.heap.size A2 l2) (hR3 : RdI w w.heap.size A3 l3) (hS : Sg w) :
    Calls Tryd.prog 5 #[.agg #[.string f1, .slice A1 l1.length c1], .agg #[.string f2, .slice A2 l2.length c2], .agg #[.string f3, .slice A3 l3.length c3], .int .i64 k] w (Bel (.bool true) w) := by
  have hl1' : l1.length ≤ 140737488355328 := by omega
  have HR1 := Lib.hid hR1
  have HR2 := Lib.hid hR2
  have HR3 := Lib.hid hR3
  have HA1 := Lib.hid hA1
  generalize hw0 : ((w.alloc (.cells #[.string f1, .slice A1 l1.length c1] 27)).alloc (.cells #[.string f2, .slice A2 l2.length c2] 27)).alloc (.cells #[.string f3, .slice A3 l3.length c3] 27) = w0
  have HB0 := Lib.hid (show Below w.heap.size w w0 by rw [← hw0]; exact (((Below.refl _ _).alloc (Nat.le_refl _) _).alloc (by simp) _).alloc (by simp; omega) _)
  have HX1 : Hid (w0.heap[w.heap.size]? = some (.cells #[.string f1, .slice A1 l1.length c1] 27 (0, 0))) := Lib.hid (by
    rw [← hw0, Below.heap_alloc _ _ _ (by simp; omega)]; exact (heap_alloc2 w _ _).1)
  have HX2 : Hid (w0.heap[w.heap.size + 1]? = some (.cells #[.string f2, .slice A2 l2.length c2] 27 (0, 0))) := Lib.hid (by
    rw [← hw0, Below.heap_alloc _ _ _ (by simp)]; exact (heap_alloc2 w _ _).2)
  have HX3 : Hid (w0.heap[w.heap.size + 2]? = some (.cells #[.string f3, .slice A3 l3.length c3] 27 (0, 0))) := Lib.hid (by
    rw [← hw0]
    have := heap_alloc_new ((w.alloc (.cells #[.string f1, .slice A1 l1.length c1] 27)).alloc (.cells #[.string f2, .slice A2 l2.length c2] 27)) (.cells #[.string f3, .slice A3 l3.length c3] 27)
    simpa using this)
  have hz0 : w.heap.size + 3 ≤ w0.heap.size := by rw [← hw0]; simp
  have kb := Lib.hid (law3_begun w0 (hS.below HB0.out))
  have HW0 := Lib.hid hw0
  clear hR1 hR2 hR3 hS hw0 hA1
  go_enter Tryd.func5, Tryd.ntmps5
  go_wp2_with fail
  rw [HW0.out]
  refine kb.out.mono ?_
  rintro e w1 ⟨rfl, hb⟩
  have HB1 := Lib.hid (HB0.out.trans (hb.mono HB0.out.size))
  have HY1 := Lib.hid ((hb.block w.heap.size (by omega)).trans HX1.out)
  have HY2 := Lib.hid ((hb.block (w.heap.size + 1) (by omega)).trans HX2.out)
  have HY3 := Lib.hid ((hb.block (w.heap.size + 2) (by omega)).trans HX3.out)
  have hz1 : w.heap.size + 3 ≤ w1.heap.size := by have := hb.size; omega
  clear hb hz0
  go_wp2
  have a0 := Ext.cell (cell_of_row _ _ 0 _ _ _ HY1.out : w1.cell? ⟨w.heap.size, 0, none⟩ = some (.string f1))
  have a1 := Ext.cell (cell_of_row _ _ 1 _ _ _ HY1.out : w1.cell? ⟨w.heap.size, 1, none⟩ = some (.slice A1 l1.length c1))
  have b0 := Ext.cell (cell_of_row _ _ 0 _ _ _ HY2.out : w1.cell? ⟨w.heap.size + 1, 0, none⟩ = some (.string f2))
  have b1 := Ext.cell (cell_of_row _ _ 1 _ _ _ HY2.out : w1.cell? ⟨w.heap.size + 1, 1, none⟩ = some (.slice A2 l2.length c2))
  have d0 := Ext.cell (cell_of_row _ _ 0 _ _ _ HY3.out : w1.cell? ⟨w.heap.size + 2, 0, none⟩ = some (.string f3))
  have d1 := Ext.cell (cell_of_row _ _ 1 _ _ _ HY3.out : w1.cell? ⟨w.heap.size + 2, 1, none⟩ = some (.slice A3 l3.length c3))
  have C12 := Lib.hid (fun x : Ext w1 => sign_Compare f1 f2 A1 A2 l1 l2 c1 c2 x.now hl1' hl2 (Rd.next HR1.out (HB1.out.trans (x.ok.mono HB1.out.size))) (Rd.next HR2.out (HB1.out.trans (x.ok.mono HB1.out.size))))
  have C23 := Lib.hid (fun x : Ext w1 => sign_Compare f2 f3 A2 A3 l2 l3 c2 c3 x.now hl2 hl3 (Rd.next HR2.out (HB1.out.trans (x.ok.mono HB1.out.size))) (Rd.next HR3.out (HB1.out.trans (x.ok.mono HB1.out.size))))
  have C13 := Lib.hid (fun x : Ext w1 => sign_Compare f1 f3 A1 A3 l1 l3 c1 c3 x.now hl1' hl3 (Rd.next HR1.out (HB1.out.trans (x.ok.mono HB1.out.size))) (Rd.next HR3.out (HB1.out.trans (x.ok.mono HB1.out.size))))
  refine wp_region_ext (by kernel_rfl) (by kernel_rfl) ?_
  go_big_quiet_step (fail)
  go_big_quiet_step (fail)
  go_big_quiet_step ((go_at_call 13; exact Calls.ext_of (C12.out _)))
  go_big_quiet_step (fail)
  go_big_quiet_step (fail)
  go_big_quiet_step ((go_at_call 13; exact Calls.ext_of (C23.out _)))
  go_big_quiet_step (fail)
  go_big_quiet_step (fail)
  go_big_quiet_step ((go_at_call 13; exact Calls.ext_of (C13.out _)))
  go_big_quiet_step (fail)
  go_big_quiet_step (fail)
  go_big_quiet_step (fail)
  refine wpQuiet_nil ?_
  rintro _ ⟨z, rfl⟩
  have hbz := z.ok
  generalize z.now = w2 at hbz
  clear a0 a1 b0 b1 d0 d1
  have HB2 := Lib.hid (HB1.out.trans (hbz.mono HB1.out.size))
  have HZ1 := Lib.hid ((hbz.block w.heap.size (by omega)).trans HY1.out)
  have HZ2 := Lib.hid ((hbz.block (w.heap.size + 1) (by omega)).trans HY2.out)
  have hz2 : w.heap.size + 3 ≤ w2.heap.size := by have := hbz.size; omega
  clear hbz
  have C21 := Lib.hid (sign_Compare f2 f1 A2 A1 l2 l1 c2 c1 w2 hl2 hl1' (Rd.next HR2.out HB2.out) (Rd.next HR1.out HB2.out))
  have hxx := place_ord.anti (plL f1 l1) (plL f2 l2)
  have hxr := place_ord.rng (plL f1 l1) (plL f2 l2)
  have hyr := place_ord.rng (plL f2 l2) (plL f3 l3)
  have hzr := place_ord.rng (plL f1 l1) (plL f3 l3)
  have htr : placeC (plL f1 l1) (plL f2 l2) ≤ 0 → placeC (plL f2 l2) (plL f3 l3) ≤ 0 → placeC (plL f1 l1) (plL f3 l3) ≤ 0 ∧ (placeC (plL f1 l1) (plL f3 l3) = 0 → placeC (plL f1 l1) (plL f2 l2) = 0 ∧ placeC (plL f2 l2) (plL f3 l3) = 0) := fun h1 h2 => ⟨place_ord.trans _ _ _ h1 h2, fun h3 => place_ord.strict h1 h2 h3⟩
  have HEQ := Lib.hid (eqPl_cmp f1 f2 l1 l2)
  generalize placeC (plL f1 l1) (plL f2 l2) = X at *
  generalize placeC (plL f2 l2) (plL f1 l1) = X' at *
  generalize placeC (plL f2 l2) (plL f3 l3) = Y at *
  generalize placeC (plL f1 l1) (plL f3 l3) = Z at *
  have HW := Lib.hid (order_ways htr)
  have x1 : -1 ≤ X := by omega
  have x2 : X ≤ 1 := by omega
  have x3 : -1 ≤ X' := by omega
  have x4 : X' ≤ 1 := by omega
  have n1 : (X != -X') = false := by simp [hxx]
  have n2 : decide (X < -1) = false := by simp; omega
  have n3 : decide (1 < X) = false := by simp; omega
  clear hxx hxr hyr hzr htr
  have a0 : w2.cell? ⟨w.heap.size, 0, none⟩ = some (.string f1) := cell_of_row _ _ 0 _ _ _ HZ1.out
  have a1 : w2.cell? ⟨w.heap.size, 1, none⟩ = some (.slice A1 l1.length c1) := cell_of_row _ _ 1 _ _ _ HZ1.out
  have b0 : w2.cell? ⟨w.heap.size + 1, 0, none⟩ = some (.string f2) := cell_of_row _ _ 0 _ _ _ HZ2.out
  have b1 : w2.cell? ⟨w.heap.size + 1, 1, none⟩ = some (.slice A2 l2.length c2) := cell_of_row _ _ 1 _ _ _ HZ2.out
  go_wp2_with fail
  refine C21.out.mono ?_
  rintro e w3 ⟨rfl, hb⟩
  have HB3 := Lib.hid (HB2.out.trans (hb.mono HB2.out.size))
  have HV1 := Lib.hid ((hb.block w.heap.size (by omega)).trans HZ1.out)
  have HV2 := Lib.hid ((hb.block (w.heap.size + 1) (by omega)).trans HZ2.out)
  have hz3 : w.heap.size + 3 ≤ w3.heap.size := by have := hb.size; omega
  clear hb a0 a1 b0 b1
  have a0 : w3.cell? ⟨w.heap.size, 0, none⟩ = some (.string f1) := cell_of_row _ _ 0 _ _ _ HV1.out
  have a1 : w3.cell? ⟨w.heap.size, 1, none⟩ = some (.slice A1 l1.length c1) := cell_of_row _ _ 1 _ _ _ HV1.out
  have b0 : w3.cell? ⟨w.heap.size + 1, 0, none⟩ = some (.string f2) := cell_of_row _ _ 0 _ _ _ HV2.out
  have b1 : w3.cell? ⟨w.heap.size + 1, 1, none⟩ = some (.slice A2 l2.length c2) := cell_of_row _ _ 1 _ _ _ HV2.out
  have CE := Lib.hid (ref_EqPlace f1 f2 A1 A2 l1 l2 c1 c2 w3 hl1' hl2 (Rd.next HR1.out HB3.out) (Rd.next HR2.out HB3.out))
  rw [HEQ.out] at CE
  go_wp2_with fail
  refine CE.out.mono ?_
  rintro e w4 ⟨rfl, hb⟩
  have HB4 := Lib.hid (HB3.out.trans (hb.mono HB3.out.size))
  have HU1 := Lib.hid ((hb.block w.heap.size (by omega)).trans HV1.out)
  have hz4 : w.heap.size + 3 ≤ w4.heap.size := by have := hb.size; omega
  clear hb a0 a1 b0 b1
  have hl1b : l1.length * 8 ≤ 140737488351232 := hl1
  clear CE C21 kb C12 C23 C13 hl1'
  rcases HW.out with hA | ⟨hA, hBv⟩ | ⟨hA, hBv, hC, hD⟩ | ⟨hA, hBv, hC, hD, hE, hF⟩
  all_goals
    go_wp2
    have hA0 : w4.drew.cell? ⟨w.heap.size, 0, none⟩ = some (.string f1) := cell_of_row _ _ 0 _ _ _ HU1.out
    have hA1' : w4.drew.cell? ⟨w.heap.size, 1, none⟩ = some (.slice A1 l1.length c1) := cell_of_row _ _ 1 _ _ _ HU1.out
    have hbA : w.heap.size < w4.drew.heap.size := by show w.heap.size < w4.heap.size; omega
    have hRW : RdI w4.drew w4.drew.heap.size A1 l1 := (Rd.next HR1.out HB4.out).keep (fun _ _ => rfl)
    refine wp_region_inva (fun a => OrdInv w4.drew.heap.size w4.drew a w.heap.size f1 A1 c1 l1 k) (by kernel_rfl) ?_ ?_ ?_
    · refine { agree := Agree.refl _ _, bel := Below.refl _ _, f0 := fun h => ?_, f1 := fun h => ?_, f2 := fun h => ?_, f3 := fun h => ?_, f4 := fun h => ?_, f5 := fun h => ?_, f6 := fun h => ?_, f7 := fun h => ?_, f8 := fun h => ?_, f9 := fun h => ?_, f10 := fun h => ?_ }
      all_goals exact (start_no h).elim
    · intro L a wr i o hs h ho hl hd
      have hi : i < 11 := (Array.getElem?_eq_some_iff.1 ho).1
      have hs' : i < L.size := by rw [hs]; exact hi
      have hcases : i = 0 ∨ i = 1 ∨ i = 2 ∨ i = 3 ∨ i = 4 ∨ i = 5 ∨ i = 6 ∨ i = 7 ∨ i = 8 ∨ i = 9 ∨ i = 10 := by omega
      rcases hcases with rfl | rfl | rfl | rfl | rfl | rfl | rfl | rfl | rfl | rfl | rfl
      · cases ho
        exact ⟨rfl, wp_field rfl ((h.agree.same 4 (by decide)).trans rfl) (run_field0 _ _) (h.s0 hs' hl (by show 68 < 81; decide) rfl)⟩
      · cases ho
        have d0 := hd { on := 0, ground := .data } (by simp) (by rfl)
        exact ⟨rfl, wp_load1 rfl (h.f0 d0) (run_load_string ((h.bel.cell (p := ⟨w.heap.size, 0, none⟩) hbA).trans hA0)) (h.s1 hs' hl (by show 69 < 81; decide) rfl)⟩
      · cases ho
        exact ⟨rfl, wp_field rfl ((h.agree.same 4 (by decide)).trans rfl) (run_field1 _ _) (h.s2 hs' hl (by show 70 < 81; decide) rfl)⟩
      · cases ho
        have d2 := hd { on := 2, ground := .data } (by simp) (by rfl)
        exact ⟨rfl, wp_load1 rfl (h.f2 d2) (run_load_ints ((h.bel.cell (p := ⟨w.heap.size, 1, none⟩) hbA).trans hA1')) (h.s3 hs' hl (by show 71 < 81; decide) rfl)⟩
      · cases ho
        have d3 := hd { on := 3, ground := .data } (by simp) (by rfl)
        exact ⟨rfl, wp_app_copy (.const (.slice none 0 0)) (.tmp 71) rfl rfl (h.f3 d3) HA1.out (Rd.below hRW h.bel) h.bel.size (by omega) (fun A9 c9 w9 ho9 hg9 => h.s4 hs' hl (by show 72 < 81; decide) hg9 (h.bel.grown hg9 h.bel.size (fun _ e => by cases e)) ⟨A9, c9, rfl, ho9⟩)⟩
      · cases ho
        exact ⟨rfl, BigFrame.wp_move _ rfl (h.s5 hs' hl (by show 73 < 81; decide) ((h.agree.same 3 (by decide)).trans rfl))⟩
      · cases ho
        have d5 := hd { on := 5, ground := .data } (by simp) (by rfl)
        exact ⟨rfl, wp_build1_run rfl (h.f5 d5) (run_build_int _ _) (h.s6 hs' hl (by show 74 < 81; decide) (grown_alloc _ _) (h.bel.alloc h.bel.size _) ⟨_, rfl, by simp⟩)⟩
      · cases ho
        have d4 := hd { on := 4, ground := .data } (by simp) (by rfl)
        have d6 := hd { on := 6, ground := .data } (by simp) (by rfl)
        have l7 : L.getD 7 false = false := by simp [hs] at hl ⊢; exact hl
        obtain ⟨A9, c9, e9, o9⟩ := h.f4 d4 l7
        obtain ⟨b9, e8, o8⟩ := h.f6 d6 l7
        exact ⟨rfl, wp_app_one (.tmp 72) (.tmp 74) rfl e9 o9 e8 o8 h.bel.size (by omega) (fun g cap w9 ho9 hg9 => h.s7 hs' hl (by show 75 < 81; decide) hg9 (h.bel.grown hg9 h.bel.size (fun q e => (o9.lt q e).1)) (fun b cs hb e => own_ne o9 hb (by decide) e.symm) ⟨g, cap, rfl, ho9⟩)⟩
      · cases ho
        have d1 := hd { on := 1, ground := .data } (by simp) (by rfl)
        have d7 := hd { on := 7, ground := .data } (by simp) (by rfl)
        obtain ⟨g9, p9, e9, o9⟩ := h.f7 d7
        have hbt : Tryd.prog.built 27 ((#[((0 : Nat), Operand.tmp 69), (1, Operand.tmp 75)].map fun (i, x) => (i, a.eval x)).toList) = some #[.string f1, a.tmps.getD 75 undef] := by
          have e1 : a.eval (.tmp 69) = .string f1 := h.f1 d1
          have e2 : a.eval (.tmp 75) = a.tmps.getD 75 undef := rfl
          simp only [List.map_toArray, List.map_cons, List.map_nil, e1, e2]
          exact built_place _ _ _ _ _ e9
        exact ⟨rfl, wp_build 27 #[(0, .tmp 69), (1, .tmp 75)] rfl (by rw [hbt]; rfl) (by rw [hbt]; exact h.s8 hs' hl (by show 76 < 81; decide) d7 rfl)⟩
      · cases ho
        exact ⟨rfl, wp_alloc_run rfl (run_alloc_place _) (h.s9 hs' hl (by show 12 < 81; decide) (grown_alloc _ _) (h.bel.alloc h.bel.size _) ⟨_, _, rfl, h.bel.size, heap_alloc_new _ _, rfl⟩)⟩
      · cases ho
        have d9 := hd { on := 9, ground := .data } (by simp) (by rfl)
        have d8 := hd { on := 8, ground := .data } (by simp) (by rfl)
        have d7 := hd { on := 7, ground := .chain } (by simp) (by rfl)
        obtain ⟨b9, cs9, e9, g9, k9, z9, _⟩ := h.f9 d9
        obtain ⟨g8, p8, e8, o8⟩ := h.f7 d7
        obtain ⟨_, e7⟩ := h.f8 d8
        exact ⟨rfl, wp_store_row 27 (.tmp 12) (.tmp 76) rfl b9 #[.string f1, a.tmps.getD 75 undef] e9 e7 27 cs9 k9 (by kernel_rfl) z9 (by rw [e8]; simp [Value.oneCell']) (h.s10 hs' hl (grown_row _ _ _) ((h.bel.grown (grown_row wr b9 #[.string f1, a.tmps.getD 75 undef]) h.bel.size (fun q e => by cases e; exact g9))) k9 d7 d8 d9 ⟨e9, g9, setRow_heap _ _ _ _ _ _ k9⟩)⟩
    · intro L a wr hs h hr
      have hall := ready_all (by kernel_rfl) hs hr
      obtain ⟨b9, cs9, e9, g9, k9, z9, hcs⟩ := h.f9 (hall 9 (by decide))
      have hcs' := hcs (hall 10 (by decide))
      obtain ⟨g8, p8, e8, o8⟩ := h.f7 (hall 7 (by decide))
      rw [e8] at hcs'
      have HBr := Lib.hid (HB4.out.drew.trans (h.bel.mono HB4.out.drew.size))
      have HUr := Lib.hid ((h.bel.block w.heap.size hbA).trans HU1.out)
      have HKr := Lib.hid (hcs' ▸ k9)
      have HOr : Hid (RdI wr wr.heap.size (some ⟨g8, 0, none⟩) (l1 ++ [k])) := Lib.hid (by
        have := Rd.of_own o8
        unfold RdI
        rw [List.map_append]; exact this)
      have e := h.agree.eq
      rw [e]
      have hlen : (l1 ++ [k]).length = l1.length + 1 := by simp
      have CI := Lib.hid (sign_Compare f1 f1 A1 (some ⟨g8, 0, none⟩) l1 (l1 ++ [k]) c1 p8 wr (by omega) (by rw [hlen]; omega) (Rd.next HR1.out HBr.out) HOr.out)
      rw [show placeC (plL f1 l1) (plL f1 (l1 ++ [k])) = -1 from placeC_in _ _ _, hlen] at CI
      simp only [List.foldr_cons, List.foldr_nil, e9]
      generalize a.tmps.getD 68 undef = q1
      generalize a.tmps.getD 69 undef = q2
      generalize a.tmps.getD 70 undef = q3
      generalize a.tmps.getD 71 undef = q4
      generalize a.tmps.getD 72 undef = q5
      generalize a.tmps.getD 73 undef = q6
      generalize a.tmps.getD 74 undef = q7
      generalize a.tmps.getD 75 undef = q8
      generalize a.tmps.getD 76 undef = q9
      have p0 : wr.cell? ⟨w.heap.size, 0, none⟩ = some (.string f1) := cell_of_row _ _ 0 _ _ _ HUr.out
      have p1 : wr.cell? ⟨w.heap.size, 1, none⟩ = some (.slice A1 l1.length c1) := cell_of_row _ _ 1 _ _ _ HUr.out
      have r0 : wr.cell? ⟨b9, 0, none⟩ = some (.string f1) := cell_of_row _ _ 0 _ _ _ HKr.out
      have r1 : wr.cell? ⟨b9, 1, none⟩ = some (.slice (some ⟨g8, 0, none⟩) (l1.length + 1) p8) := cell_of_row _ _ 1 _ _ _ HKr.out
      clear hcs hcs' e9 e8 e k9 z9 o8 hall h hr hlen hA0 hA1' hRW
      go_wp2_with fail
      refine CI.out.mono ?_
      rintro e w9 ⟨rfl, hb⟩
      have HB9 := Lib.hid (HBr.out.trans (hb.mono HBr.out.size))
      clear hb p0 p1 r0 r1
      go_wp2
      go_ret
      exact ⟨rfl, HB9.out⟩
end Go.Proofs.YthkofiakfmijiaaDoor
