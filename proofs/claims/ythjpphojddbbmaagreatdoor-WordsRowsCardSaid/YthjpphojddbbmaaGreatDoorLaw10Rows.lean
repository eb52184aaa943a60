/-
  espalierlaw10.WordsRows: a walk. Conditions: none.
-/
import Derived.Test.YthjpphojddbbmaaGreatDoorLawRowsW
import Derived.Test.YthjpphojddbbmaaGreatDoorRefRowsW
import Derived.Test.YthjpphojddbbmaaGreatDoorLaw10Begun
namespace Go.Proofs.YthjpphojddbbmaaGreatDoor
open Go.RowKit
set_option linter.unusedVariables false

theorem kitB_rows {name : ByteArray} {rs : List RowD} (h : kitB name rs = true) (ts : List RowAt) (hts : ts.map RowAt.row = rs) :
    ts.length ≤ 1000000 ∧ (∀ k (h : k < ts.length), 0 < ts[k].row.abil.length ∧ ts[k].row.abil.length ≤ 140737488351) ∧ (∀ k (h : k < ts.length), ∀ j (h : j < k), (ts[j]'(by omega)).row.kind ≠ ts[k].row.kind) := by
  subst hts
  simp only [kitB, Bool.and_eq_true, decide_eq_true_eq, List.all_eq_true, List.length_map] at h
  obtain ⟨⟨⟨⟨⟨h1, h2⟩, h3⟩, h4⟩, h5⟩, h6⟩ := h
  refine ⟨h4, fun k hk => ?_, fun k hk j hj => ?_⟩
  · have hr := rowB_ok (h5 _ (List.mem_map.mpr ⟨_, List.getElem_mem hk, rfl⟩))
    exact hr.1.len
  · have := apart_ne _ h6 k (by simpa using hk) j hj
    simpa using this

set_option maxRecDepth 100000 in
set_option maxHeartbeats 4000000 in
theorem law_WordsRows (w : World) (hw : Ws w) : Calls Tryz.prog 7 #[] w (Bel (.bool true) w) := by
  have HB : Hid (Below w.heap.size w w) := Below.refl _ _
  go_enter Tryz.func7, Tryz.ntmps7
  go_wp2_with fail
  refine (law10_begun _ hw).mono ?_
  rintro e w1 ⟨rfl, hb⟩
  have HB := Lib.hid (HB.out.trans (hb.mono HB.out.size))
  clear hb
  go_wp2_with fail
  refine (words_Kit _).mono ?_
  rintro e w2 ⟨M, v, ts, hM, rfl, hK, hts, hb⟩
  have HB := Lib.hid (HB.out.trans (hb.mono HB.out.size))
  have HK := Lib.hid hK
  have HT := Lib.hid hts
  clear hb hK hM hts
  go_wp2_with fail
  refine (ref_rows _).mono ?_
  rintro e w3 ⟨A, c, us, rfl, hA, hus, hb⟩
  have HB := Lib.hid (HB.out.trans (hb.mono HB.out.size))
  have hc := kitB_rows words_kitB ts HT.out
  have hR := Lib.hid (law_Rows (HK.out.keepOld hb) hc.1 hc.2.1 hc.2.2 us (hus.trans HT.out.symm) A c hA)
  clear hb hc hus hA
  go_wp2_with fail
  refine hR.out.mono ?_
  rintro e w4 ⟨rfl, hb⟩
  have HB := Lib.hid (HB.out.trans (hb.mono HB.out.size))
  clear hb
  go_wp2
  go_ret
  exact ⟨rfl, HB.out⟩
end Go.Proofs.YthjpphojddbbmaaGreatDoor
