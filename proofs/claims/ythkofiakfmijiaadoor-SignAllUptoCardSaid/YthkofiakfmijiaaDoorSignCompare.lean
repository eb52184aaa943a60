/-
  sign.Compare: a walk, for every two places. Conditions: a text within a row's reach.
-/
import Derived.Test.YthkofiakfmijiaaDoorSignCmp
import Derived.StillTailTactics
namespace Go.Proofs.YthkofiakfmijiaaDoor
open Go.RowKit
set_option linter.unusedVariables false

def plL (f : ByteArray) (l : List Int) : List UInt8 × List Int := (f.data.toList, l)
set_option maxRecDepth 100000 in
set_option maxHeartbeats 1000000 in
theorem sign_Compare (f f2 : ByteArray) (A A2 : Option Addr) (l m : List Int) (c c2 : Nat) (w : World) (hl : l.length ≤ 140737488355328) (hm : m.length ≤ 140737488355328) (hR : RdI w w.heap.size A l) (hR2 : RdI w w.heap.size A2 m) :
    Calls Tryd.prog 13 #[.agg #[.string f, .slice A l.length c], .agg #[.string f2, .slice A2 m.length c2]] w (Bel (.int .i64 (placeC (plL f l) (plL f2 m))) w) := by
  have hb0 : Below w.heap.size w ((w.alloc (.cells #[.string f, .slice A l.length c] 27)).alloc (.cells #[.string f2, .slice A2 m.length c2] 27)) := ((Below.refl _ _).alloc (Nat.le_refl _) _).alloc (by simp) _
  have hx := Lib.hid (show placeC (plL f l) (plL f2 m) = orL [Lib.compareBytes f.data.toList f2.data.toList, intsC l m] by
    simp only [placeC, pairC, plL, orL]
    by_cases h : intsC l m = 0
    · rw [if_pos h, h]; rfl
    · rw [if_neg h]; rfl)
  have HS : Hid (∀ w1, Calls Tryd.prog 33 #[.string f, .string f2] w1 fun e w' => e = .returned (.int .i64 (Lib.compareBytes f.data.toList f2.data.toList)) ∧ w1 = w') := Lib.hid fun w1 => (Tryd.strings_Compare f f2 w1).mono fun e w' ⟨he, hw⟩ => ⟨he, hw.symm⟩
  have HC : Hid (∀ w1, Below w.heap.size w w1 → Calls Tryd.prog 34 #[.slice A l.length c, .slice A2 m.length c2] w1 fun e w' => e = .returned (.int .i64 (intsC l m)) ∧ w1 = w') := Lib.hid fun w1 hb => slices_compare A A2 l m c c2 w1 _ _ hl hm (Rd.below hR hb) (Rd.below hR2 hb)
  have HB0 := Lib.hid hb0
  clear hR hR2 hb0
  go_enter Tryd.func13, Tryd.ntmps13
  go_wp2
  have e0 : ((w.alloc (.cells #[.string f, .slice A l.length c] 27)).alloc (.cells #[.string f2, .slice A2 m.length c2] 27)).cell? ⟨w.heap.size, 0, none⟩ = some (.string f) := by simp
  have e1 : ((w.alloc (.cells #[.string f, .slice A l.length c] 27)).alloc (.cells #[.string f2, .slice A2 m.length c2] 27)).cell? ⟨w.heap.size, 1, none⟩ = some (.slice A l.length c) := by simp
  have d0 : ((w.alloc (.cells #[.string f, .slice A l.length c] 27)).alloc (.cells #[.string f2, .slice A2 m.length c2] 27)).cell? ⟨w.heap.size + 1, 0, none⟩ = some (.string f2) := cell_of_row _ _ 0 _ _ _ (heap_alloc2 w _ _).2
  have d1 : ((w.alloc (.cells #[.string f, .slice A l.length c] 27)).alloc (.cells #[.string f2, .slice A2 m.length c2] 27)).cell? ⟨w.heap.size + 1, 1, none⟩ = some (.slice A2 m.length c2) := cell_of_row _ _ 1 _ _ _ (heap_alloc2 w _ _).2
  generalize (w.alloc (.cells #[.string f, .slice A l.length c] 27)).alloc (.cells #[.string f2, .slice A2 m.length c2] 27) = w1 at *
  refine wp_region_still_tail 10 (by kernel_rfl) (by kernel_rfl) ?_
  simp only [List.take_succ_cons, List.take_zero, List.drop_succ_cons, List.drop_zero]
  still_step
  still_step
  still_step
  still_step
  still_call ((HS.out w1.drew).mono fun e w'' ⟨he, hw⟩ => ⟨he, hw.symm⟩)
  still_step
  still_step
  still_step
  still_step
  still_call ((HC.out w1.drew HB0.out.drew).mono fun e w'' ⟨he, hw⟩ => ⟨he, hw.symm⟩)
  refine wpStill_nil ?_
  change wpList _ _ _ _ _ w1.drew
  have HB1 := Lib.hid HB0.out.drew
  generalize w1.drew = w2 at *
  have hro : Hid (RdI (w2.alloc (.cells #[.int .i64 (Lib.compareBytes f.data.toList f2.data.toList), .int .i64 (intsC l m)] 3)) (w2.heap.size + 1) (some ⟨w2.heap.size, 0, none⟩) [Lib.compareBytes f.data.toList f2.data.toList, intsC l m]) := Lib.hid (by
    have := Rd.lit (xs := [Lib.compareBytes f.data.toList f2.data.toList, intsC l m].map vI) (heap_alloc_new w2 (.cells #[.int .i64 (Lib.compareBytes f.data.toList f2.data.toList), .int .i64 (intsC l m)] 3)) (fun j u hj => by simpa [vI] using hj)
    simpa [RdI] using this)
  have hor := Lib.hid (cmp_or (some ⟨w2.heap.size, 0, none⟩) [Lib.compareBytes f.data.toList f2.data.toList, intsC l m] 2 _ _ (by simp) hro.out)
  have HB2 := Lib.hid (HB1.out.alloc HB1.out.size (.cells #[.int .i64 (Lib.compareBytes f.data.toList f2.data.toList), .int .i64 (intsC l m)] 3))
  clear e0 e1 d0 d1
  go_wp2_with fail
  refine hor.out.mono ?_
  rintro e w' ⟨rfl, rfl⟩
  rw [← hx.out]
  go_wp2
  go_ret
  exact ⟨rfl, HB2.out⟩
end Go.Proofs.YthkofiakfmijiaaDoor
