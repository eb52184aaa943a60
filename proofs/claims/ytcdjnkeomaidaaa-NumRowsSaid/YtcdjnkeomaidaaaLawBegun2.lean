/-
  espalierlaw8's begun: a walk. Conditions: none.
-/
import Derived.Test.YtcdjnkeomaidaaaLawBegun
namespace Go.Proofs.Ytcdjnkeomaidaaa
open Go.RowKit
set_option linter.unusedVariables false

set_option maxRecDepth 100000 in
set_option maxHeartbeats 4000000 in
theorem law_begun (w : World) : Calls Try.prog 7 #[] w (Bel (.bool true) w) := by
  have HB : Hid (Below w.heap.size w w) := Below.refl _ _
  have heq : ∀ w, (binOp .eql 33 (.iface 40 (.bool true)) (.iface 40 (.bool true))).run Try.prog w = .ok (.bool true) w := fun w => by kernel_rfl
  go_enter Try.func7, Try.ntmps7
  go_wp2_with fail
  refine (c_mod _).mono ?_
  rintro e w1 ⟨rfl, hb⟩
  have HB := Lib.hid (HB.out.trans (hb.mono HB.out.size))
  clear hb
  go_wp2_with fail
  refine (c_quo _).mono ?_
  rintro e w2 ⟨rfl, hb⟩
  have HB := Lib.hid (HB.out.trans (hb.mono HB.out.size))
  clear hb
  go_wp2_with fail
  refine (c_add _).mono ?_
  rintro e w3 ⟨rfl, hb⟩
  have HB := Lib.hid (HB.out.trans (hb.mono HB.out.size))
  clear hb
  go_wp2_with fail
  refine (c_pow _).mono ?_
  rintro e w4 ⟨rfl, hb⟩
  have HB := Lib.hid (HB.out.trans (hb.mono HB.out.size))
  clear hb
  go_wp2_with fail
  refine (law_whole 1 _).mono ?_
  rintro e v0 ⟨rfl, hb⟩
  have HB := Lib.hid (HB.out.trans (hb.mono HB.out.size))
  clear hb
  go_wp2_with fail
  refine (law_whole 2 _).mono ?_
  rintro e v1 ⟨rfl, hb⟩
  have HB := Lib.hid (HB.out.trans (hb.mono HB.out.size))
  clear hb
  go_wp2_with fail
  refine (c_less _).mono ?_
  rintro e v2 ⟨rfl, hb⟩
  have HB := Lib.hid (HB.out.trans (hb.mono HB.out.size))
  clear hb
  go_wp2_with fail
  refine (law_whole 1 _).mono ?_
  rintro e v3 ⟨rfl, hb⟩
  have HB := Lib.hid (HB.out.trans (hb.mono HB.out.size))
  clear hb
  go_wp2_with fail
  refine (c_sum _ _).mono ?_
  rintro e v4 ⟨rfl, hb⟩
  have HB := Lib.hid ((HB.out.alloc HB.out.size _).trans (hb.mono (by rw [size_alloc]; exact Nat.le_succ_of_le HB.out.size)))
  clear hb
  go_wp2_with fail
  refine (law_whole 1 _).mono ?_
  rintro e v5 ⟨rfl, hb⟩
  have HB := Lib.hid (HB.out.trans (hb.mono HB.out.size))
  clear hb
  go_wp2_with fail
  refine (c_kind _).mono ?_
  rintro e v6 ⟨rfl, hb⟩
  have HB := Lib.hid (HB.out.trans (hb.mono HB.out.size))
  clear hb
  go_wp2_with fail
  refine (num_Kit _).mono ?_
  rintro e v7 ⟨M, v, us, hM, rfl, hK, _, hb⟩
  have hn := Lib.hid (kit_Name hK)
  have HB := Lib.hid (HB.out.trans (hb.mono HB.out.size))
  clear hb hM hK
  go_wp2_with fail
  refine hn.out.mono ?_
  rintro e w' ⟨rfl, rfl⟩
  go_wp2
  go_ret
  exact ⟨rfl, HB.out⟩
end Go.Proofs.Ytcdjnkeomaidaaa
