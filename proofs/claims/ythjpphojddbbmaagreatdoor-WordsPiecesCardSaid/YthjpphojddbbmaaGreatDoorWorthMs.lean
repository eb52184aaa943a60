/-
  worth.measure: a walk, for every plain value: the same as what the reference has left. Conditions: it lies in memory.
-/
import Derived.Test.YthjpphojddbbmaaGreatDoorPlLeft
import Derived.Deep.QuietTactic
import Derived.BigQuiet
namespace Go.Proofs.YthjpphojddbbmaaGreatDoor
open Go.RowKit
set_option linter.unusedVariables false

def MsPost (p : Pl) (left deep : Int) (w : World) (e : Ending) (w' : World) : Prop := ∃ s : Int, e = .returned (.tuple #[.int .i64 s, .bool (decide (0 ≤ p.left left deep))]) ∧ (0 ≤ p.left left deep → s = left - p.left left deep) ∧ Below w.heap.size w w'
theorem ms_bad {k n : Int} {t : ByteArray} {ls : List Pl} {left deep : Int} (h : goodB k n t ls.length deep = false ∨ left - 1 - (t.size : Int) < 0) : (Pl.mk k n t ls).left left deep = -1 := by unfold Pl.left; rw [if_pos h]
theorem ms_good {k n : Int} {t : ByteArray} {left deep : Int} (h : goodB k n t 0 deep = true) (h2 : ¬ left - 1 - (t.size : Int) < 0) : (Pl.mk k n t []).left left deep = left - 1 - (t.size : Int) := by
  unfold Pl.left; rw [if_neg (by rintro (h' | h'); rw [List.length_nil, h] at h'; cases h'; exact h2 h')]; unfold Pls.left; rfl
theorem ms_no {p : Pl} {left deep s : Int} {w w' : World} (hx : p.left left deep = -1) (hb : Below w.heap.size w w') : MsPost p left deep w (.returned (.tuple #[.int .i64 s, .bool false])) w' := ⟨s, by rw [hx]; rfl, fun h => by omega, hb⟩
theorem ms_yes {p : Pl} {left deep s : Int} {w w' : World} (hx : p.left left deep = left - s) (h0 : 0 ≤ left - s) (hb : Below w.heap.size w w') : MsPost p left deep w (.returned (.tuple #[.int .i64 s, .bool true])) w' := ⟨s, by rw [hx, decide_eq_true h0], fun h => by omega, hb⟩
set_option maxRecDepth 100000 in
set_option maxHeartbeats 8000000 in
theorem ms_scalar (k n : Int) (t : ByteArray) (ls : List Pl) (hk5 : k ≠ 5) (b o : Nat) (left deep : Int) (w : World) (B : Nat) (hBw : B ≤ w.heap.size) (h0 : 0 ≤ left) (hu : left ≤ 65536) (hl : (Pl.mk k n t ls).lies w B b o) :
    Calls Tryz.prog 82 #[.pointer (some ⟨b, o, none⟩), .int .i64 left, .int .i64 deep] w (MsPost (Pl.mk k n t ls) left deep w) := by
  unfold Pl.lies at hl
  obtain ⟨hb, c0, c1, c2, rk, rn, ht, hlen, A, c, c3, hrest⟩ := hl
  clear hrest rk rn
  have hsz : t.toList = [] ↔ t.size = 0 := by rw [Lib.toList_data, ← List.length_eq_zero_iff]; simp
  have HS := Lib.hid hsz
  clear hsz
  have HB0 := Lib.hid (Below.refl w.heap.size w)
  by_cases h1 : left < 1
  · have HX := Lib.hid (ms_bad (k := k) (n := n) (t := t) (ls := ls) (left := left) (deep := deep) (.inr (by omega)))
    go_enter Tryz.func82, Tryz.ntmps82
    go_wp2
    go_ret2
    exact ms_no HX.out (Below.refl _ _)
  by_cases h4 : k = 4
  · subst h4
    cases ls with
    | cons p0 ls =>
      have HX := Lib.hid (ms_bad (k := 4) (n := n) (t := t) (ls := p0 :: ls) (left := left) (deep := deep) (.inl (by simp [goodB])))
      have hpos : Hid (0 < (p0 :: ls).length) := Lib.hid (by simp)
      generalize hL : (p0 :: ls).length = L at *
      have hp : 0 < L := hpos.out
      go_enter Tryz.func82, Tryz.ntmps82
      go_wp2
      go_ret2
      exact ms_no HX.out (Below.refl _ _)
    | nil =>
      rw [List.length_nil] at c3
      by_cases hn : n = 0
      · subst hn
        by_cases hs : (t.size : Int) < left
        · have HX := Lib.hid (ms_good (k := 4) (n := 0) (t := t) (left := left) (deep := deep) (by simp [goodB]) (by omega))
          have hd : decide ((t.size : Int) < left) = true := by simpa using hs
          have HS2 := Lib.hid hs
          clear hs
          go_enter Tryz.func82, Tryz.ntmps82
          go_upto_region 11 with fail
          go_quiet (fail)
          have HB := Lib.hid (below_drewN HB0.out nq)
          generalize w.drewN nq = w1 at *
          go_wp2
          go_ret2
          have := HS2.out
          exact ms_yes (by rw [HX.out]; omega) (by omega) HB.out
        · have HX := Lib.hid (ms_bad (k := 4) (n := 0) (t := t) (ls := []) (left := left) (deep := deep) (.inr (by omega)))
          have hd : decide ((t.size : Int) < left) = false := by simpa using hs
          go_enter Tryz.func82, Tryz.ntmps82
          go_upto_region 11 with fail
          go_quiet (fail)
          have HB := Lib.hid (below_drewN HB0.out nq)
          generalize w.drewN nq = w1 at *
          go_wp2
          go_ret2
          exact ms_no HX.out HB.out
      · have hx0 : (n == 0) = false := by simpa using hn
        have HX := Lib.hid (ms_bad (k := 4) (n := n) (t := t) (ls := []) (left := left) (deep := deep) (.inl (by simp [goodB, hn])))
        go_enter Tryz.func82, Tryz.ntmps82
        go_upto_region 11 with fail
        go_quiet (fail)
        have HB := Lib.hid (below_drewN HB0.out nq)
        generalize w.drewN nq = w1 at *
        go_wp2
        go_ret2
        exact ms_no HX.out HB.out
  by_cases ht0 : ¬ t.toList = []
  · have htn : ¬ t.size = 0 := fun h => ht0 (HS.out.2 h)
    have HX := Lib.hid (ms_bad (k := k) (n := n) (t := t) (ls := ls) (left := left) (deep := deep) (.inl (by simp [goodB, htn, h4, hk5])))
    have htb : t.toList.isEmpty = false := by simpa using ht0
    have hk4 : (k == 4) = false := by simpa using h4
    clear htn
    go_enter Tryz.func82, Tryz.ntmps82
    go_wp2
    go_ret2
    exact ms_no HX.out (Below.refl _ _)
  rw [Classical.not_not] at ht0
  cases ls with
  | cons p0 ls =>
    have HX := Lib.hid (ms_bad (k := k) (n := n) (t := t) (ls := p0 :: ls) (left := left) (deep := deep) (.inl (by simp [goodB, h4, hk5])))
    have hpos : Hid (0 < (p0 :: ls).length) := Lib.hid (by simp)
    have hk4 : (k == 4) = false := by simpa using h4
    have hkb5 : (k == 5) = false := by simpa using hk5
    generalize hL : (p0 :: ls).length = L at *
    have hp : 0 < L := hpos.out
    go_enter Tryz.func82, Tryz.ntmps82
    go_wp2
    go_ret2
    exact ms_no HX.out (Below.refl _ _)
  | nil =>
    rw [List.length_nil] at c3
    have hts : t.size = 0 := HS.out.1 ht0
    have hb0 : ¬ left - 1 - (t.size : Int) < 0 := by omega
    have HT := Lib.hid hts
    have HBB := Lib.hid hb0
    clear hts hb0
    by_cases k1 : k = 1
    · subst k1
      by_cases hn : n = 0
      · subst hn
        have HX := Lib.hid (ms_good (k := 1) (n := 0) (t := t) (left := left) (deep := deep) (by simp [goodB, HT.out]) HBB.out)
        go_enter Tryz.func82, Tryz.ntmps82
        go_upto_region 5 with fail
        go_quiet (fail)
        have HB := Lib.hid (below_drewN HB0.out nq)
        generalize w.drewN nq = w1 at *
        go_wp2
        go_ret2
        exact ms_yes (by rw [HX.out]; have := HT.out; omega) (by omega) HB.out
      · have hx0 : (n == 0) = false := by simpa using hn
        have HX := Lib.hid (ms_bad (k := 1) (n := n) (t := t) (ls := []) (left := left) (deep := deep) (.inl (by simp [goodB, HT.out, hn])))
        go_enter Tryz.func82, Tryz.ntmps82
        go_upto_region 5 with fail
        go_quiet (fail)
        have HB := Lib.hid (below_drewN HB0.out nq)
        generalize w.drewN nq = w1 at *
        go_wp2
        go_ret2
        exact ms_no HX.out HB.out
    by_cases k2 : k = 2
    · subst k2
      by_cases hn : n = 0
      · subst hn
        have HX := Lib.hid (ms_good (k := 2) (n := 0) (t := t) (left := left) (deep := deep) (by simp [goodB, HT.out]) HBB.out)
        go_enter Tryz.func82, Tryz.ntmps82
        go_upto_region 7 with fail
        go_quiet (fail)
        have HB := Lib.hid (below_drewN HB0.out nq)
        generalize w.drewN nq = w1 at *
        go_wp2
        go_ret2
        exact ms_yes (by rw [HX.out]; have := HT.out; omega) (by omega) HB.out
      by_cases hn1 : n = 1
      · subst hn1
        have HX := Lib.hid (ms_good (k := 2) (n := 1) (t := t) (left := left) (deep := deep) (by simp [goodB, HT.out]) HBB.out)
        go_enter Tryz.func82, Tryz.ntmps82
        go_upto_region 7 with fail
        go_quiet (fail)
        have HB := Lib.hid (below_drewN HB0.out nq)
        generalize w.drewN nq = w1 at *
        go_wp2
        go_ret2
        exact ms_yes (by rw [HX.out]; have := HT.out; omega) (by omega) HB.out
      · have hx0 : (n == 0) = false := by simpa using hn
        have hx1 : (n == 1) = false := by simpa using hn1
        have HX := Lib.hid (ms_bad (k := 2) (n := n) (t := t) (ls := []) (left := left) (deep := deep) (.inl (by simp [goodB, HT.out, hn, hn1])))
        go_enter Tryz.func82, Tryz.ntmps82
        go_upto_region 7 with fail
        go_quiet (fail)
        have HB := Lib.hid (below_drewN HB0.out nq)
        generalize w.drewN nq = w1 at *
        go_wp2
        go_ret2
        exact ms_no HX.out HB.out
    by_cases k3 : k = 3
    · subst k3
      have HX := Lib.hid (ms_good (k := 3) (n := n) (t := t) (left := left) (deep := deep) (by simp [goodB, HT.out]) HBB.out)
      go_enter Tryz.func82, Tryz.ntmps82
      go_wp2
      go_ret2
      exact ms_yes (by rw [HX.out]; have := HT.out; omega) (by omega) (Below.refl _ _)
    have e1 : (k == 1) = false := by simpa using k1
    have e2 : (k == 2) = false := by simpa using k2
    have e3 : (k == 3) = false := by simpa using k3
    have e4 : (k == 4) = false := by simpa using h4
    have e5 : (k == 5) = false := by simpa using hk5
    have HX := Lib.hid (ms_bad (k := k) (n := n) (t := t) (ls := []) (left := left) (deep := deep) (.inl (by simp [goodB, k1, k2, k3, h4, hk5])))
    go_enter Tryz.func82, Tryz.ntmps82
    go_wp2
    go_ret2
    exact ms_no HX.out (Below.refl _ _)
end Go.Proofs.YthjpphojddbbmaaGreatDoor
