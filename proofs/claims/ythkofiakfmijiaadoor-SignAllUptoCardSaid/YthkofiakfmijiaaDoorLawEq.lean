/-
  espalierref1.EqPlace, espalierlaw3.ints, espalierlaw3.texts: walks, for any two. Conditions: none beyond a row's reach.
-/
import Derived.Test.YthkofiakfmijiaaDoorRds
import Derived.Lib.Strings
namespace Go.Proofs.YthkofiakfmijiaaDoor
open Go.RowKit
set_option linter.unusedVariables false

theorem take_nextV {α : Type} {l m : List α} {k : Nat} (h : l.take k = m.take k) (hl : k < l.length) (hm : k < m.length) (he : l[k]'hl = m[k]'hm) : l.take (k + 1) = m.take (k + 1) := by
  rw [List.take_succ_eq_append_getElem hl, List.take_succ_eq_append_getElem hm, h, he]
theorem ne_at {α : Type} {l m : List α} {k : Nat} (hl : k < l.length) (hm : k < m.length) (he : l[k]'hl ≠ m[k]'hm) : l ≠ m := by
  rintro rfl; exact he rfl
def eqPl (f f2 : ByteArray) (l m : List Int) : Bool := decide (f = f2) && decide (l = m)
theorem bytes_eq2 {a b : ByteArray} : (a.toList == b.toList) = decide (a = b) := by
  by_cases h : a = b
  · subst h; simp
  · have : a.toList ≠ b.toList := by
      intro e
      apply h
      rw [Lib.toList_data, Lib.toList_data] at e
      exact ByteArray.ext (Array.ext' e)
    simp [h, this]
set_option maxRecDepth 100000 in
set_option maxHeartbeats 2000000 in
theorem ref_EqPlace (f f2 : ByteArray) (A A2 : Option Addr) (l m : List Int) (c c2 : Nat) (w : World) (hl : l.length ≤ 140737488355328) (hm : m.length ≤ 140737488355328) (hR : RdI w w.heap.size A l) (hR2 : RdI w w.heap.size A2 m) :
    Calls Tryd.prog 12 #[.agg #[.string f, .slice A l.length c], .agg #[.string f2, .slice A2 m.length c2]] w (Bel (.bool (eqPl f f2 l m)) w) := by
  have hb0 : Below w.heap.size w ((w.alloc (.cells #[.string f, .slice A l.length c] 27)).alloc (.cells #[.string f2, .slice A2 m.length c2] 27)) := ((Below.refl _ _).alloc (Nat.le_refl _) _).alloc (by simp) _
  have HB0 := Lib.hid hb0
  have HR := Lib.hid hR
  have HR2 := Lib.hid hR2
  have e0 : ((w.alloc (.cells #[.string f, .slice A l.length c] 27)).alloc (.cells #[.string f2, .slice A2 m.length c2] 27)).cell? ⟨w.heap.size, 0, none⟩ = some (.string f) := by simp
  have e1 : ((w.alloc (.cells #[.string f, .slice A l.length c] 27)).alloc (.cells #[.string f2, .slice A2 m.length c2] 27)).cell? ⟨w.heap.size, 1, none⟩ = some (.slice A l.length c) := by simp
  have d0 : ((w.alloc (.cells #[.string f, .slice A l.length c] 27)).alloc (.cells #[.string f2, .slice A2 m.length c2] 27)).cell? ⟨w.heap.size + 1, 0, none⟩ = some (.string f2) := cell_of_row _ _ 0 _ _ _ (heap_alloc2 w _ _).2
  have d1 : ((w.alloc (.cells #[.string f, .slice A l.length c] 27)).alloc (.cells #[.string f2, .slice A2 m.length c2] 27)).cell? ⟨w.heap.size + 1, 1, none⟩ = some (.slice A2 m.length c2) := cell_of_row _ _ 1 _ _ _ (heap_alloc2 w _ _).2
  have hz : w.heap.size + 1 < ((w.alloc (.cells #[.string f, .slice A l.length c] 27)).alloc (.cells #[.string f2, .slice A2 m.length c2] 27)).heap.size := by simp
  clear hR hR2 hb0
  by_cases hf : f = f2
  · subst hf
    by_cases hlm : l.length = m.length
    · have hne : decide ((l.length : Int) = (m.length : Int)) = true := by simp [hlm]
      have hn2 : ((l.length : Int) != (m.length : Int)) = false := by simp [hlm]
      have hff : (f.toList == f.toList) = true := by simp
      have HLM := Lib.hid hlm
      clear hlm
      go_enter Tryd.func12, Tryd.ntmps12
      go_wp2
      generalize hw1 : (w.alloc (.cells #[.string f, .slice A l.length c] 27)).alloc (.cells #[.string f, .slice A2 m.length c2] 27) = w1 at *
      have HW1 := Lib.hid hw1
      clear hw1
      have E1 := Lib.hid e1
      have D1 := Lib.hid d1
      clear e0 e1 d0 d1
      go_loopw [5] (fun i wr => ∃ k : Nat, k ≤ l.length ∧ i = .int .i64 k ∧ l.take k = m.take k ∧ Below w1.heap.size w1 wr) (fun i wr => l.length - (intOf i).toNat)
      case atStart => exact ⟨0, Nat.zero_le _, rfl, rfl, Below.refl _ _⟩
      case round =>
        obtain ⟨k, hk, rfl, hq, hbel⟩ := hrel
        have HQ := Lib.hid hq
        have HB := Lib.hid hbel
        have hbw : Hid (Below w.heap.size w wr) := Lib.hid (HB0.out.trans (hbel.mono HB0.out.size))
        have e1 : wr.cell? ⟨w.heap.size, 1, none⟩ = some (.slice A l.length c) := (hbel.cell (p := ⟨w.heap.size, 1, none⟩) (by simp; omega)).trans E1.out
        have d1 : wr.cell? ⟨w.heap.size + 1, 1, none⟩ = some (.slice A2 m.length c2) := (hbel.cell (p := ⟨w.heap.size + 1, 1, none⟩) (by simp; omega)).trans D1.out
        clear hq hbel
        by_cases hlt : k < l.length
        · have hlt2 : k < m.length := by have := HLM.out; omega
          obtain ⟨ad, rfl, _, hc⟩ := RdI.at_ (Rd.below HR.out hbw.out) hlt
          obtain ⟨ad2, rfl, _, hc2⟩ := RdI.at_ (Rd.below HR2.out hbw.out) hlt2
          by_cases hp : l[k]'hlt = m[k]'hlt2
          · have HN := Lib.hid (take_nextV HQ.out hlt hlt2 hp)
            have hp2 : ((l[k]'hlt) != (m[k]'hlt2)) = false := by simp [hp]
            clear hp
            go_wp2
            go_quiet (fail)
            have HBn := Lib.hid (below_drewN HB.out nq)
            go_wp2
            go_roundw
            case rel => exact ⟨k + 1, by omega, by go_num, HN.out, HBn.out⟩
            case measure => simp [intOf]; omega
          · have hx := Lib.hid (show eqPl f f l m = false by simp [eqPl, ne_at hlt hlt2 hp])
            have hp2 : ((l[k]'hlt) != (m[k]'hlt2)) = true := by simp [hp]
            clear hp
            go_wp2
            go_quiet (fail)
            have HBn := Lib.hid (below_drewN hbw.out nq)
            go_wp2
            go_ret
            exact ⟨by rw [hx.out]; rfl, HBn.out⟩
        · have hx := Lib.hid (show eqPl f f l m = true by
            have h1 := HQ.out
            rw [List.take_of_length_le (by omega), List.take_of_length_le (by have := HLM.out; omega)] at h1
            simp [eqPl, h1])
          go_wp2
          go_ret
          exact ⟨by rw [hx.out]; rfl, hbw.out⟩
    · have hx := Lib.hid (show eqPl f f l m = false by
        have : l ≠ m := by rintro rfl; exact hlm rfl
        simp [eqPl, this])
      have hn2 : ((l.length : Int) != (m.length : Int)) = true := by simp; omega
      have hn3 : ((l.length : Int) == (m.length : Int)) = false := by simp; omega
      have hff : (f.toList == f.toList) = true := by simp
      clear hlm
      go_enter Tryd.func12, Tryd.ntmps12
      go_wp2
      go_ret
      exact ⟨by rw [hx.out]; rfl, HB0.out⟩
  · have hx := Lib.hid (show eqPl f f2 l m = false by simp [eqPl, hf])
    have hff : (f.toList == f2.toList) = false := by rw [bytes_eq2]; simp [hf]
    clear hf
    go_enter Tryd.func12, Tryd.ntmps12
    go_wp2
    go_ret
    exact ⟨by rw [hx.out]; rfl, HB0.out⟩
end Go.Proofs.YthkofiakfmijiaaDoor
