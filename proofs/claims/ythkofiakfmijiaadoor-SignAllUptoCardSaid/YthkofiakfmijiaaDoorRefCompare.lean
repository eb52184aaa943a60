/-
  espalierref3.Compare: a walk, for every two places: the same answer as package sign's. Conditions: within a row's reach.
-/
import Derived.Test.YthkofiakfmijiaaDoorSignCompare
import Derived.Test.YthkofiakfmijiaaDoorLawEq
namespace Go.Proofs.YthkofiakfmijiaaDoor
open Go.RowKit
set_option linter.unusedVariables false

theorem less_cmp : ∀ a b : List UInt8, Op.bytesLess a b = (Lib.compareBytes a b == -1)
  | [], [] => rfl
  | [], _ :: _ => rfl
  | _ :: _, [] => rfl
  | a :: la, b :: lb => by
    simp only [Op.bytesLess, Lib.compareBytes]
    have ih := less_cmp la lb
    by_cases h1 : a < b
    · simp [h1]
    · by_cases h2 : b < a
      · have : ¬ a = b := by rintro rfl; exact h1 h2
        simp [h1, h2, this]
      · have : a = b := by
          apply UInt8.toNat_inj.1
          rw [UInt8.lt_iff_toNat_lt] at h1 h2
          omega
        subst this
        simp [h1, ih]
set_option maxRecDepth 100000 in
set_option maxHeartbeats 8000000 in
theorem ref_Compare (f f2 : ByteArray) (A A2 : Option Addr) (l m : List Int) (c c2 : Nat) (w : World) (hl : l.length ≤ 140737488355328) (hm : m.length ≤ 140737488355328) (hR : RdI w w.heap.size A l) (hR2 : RdI w w.heap.size A2 m) :
    Calls Tryd.prog 29 #[.agg #[.string f, .slice A l.length c], .agg #[.string f2, .slice A2 m.length c2]] w (Bel (.int .i64 (placeC (plL f l) (plL f2 m))) w) := by
  have hb0 : Below w.heap.size w ((w.alloc (.cells #[.string f, .slice A l.length c] 27)).alloc (.cells #[.string f2, .slice A2 m.length c2] 27)) := ((Below.refl _ _).alloc (Nat.le_refl _) _).alloc (by simp) _
  have HB0 := Lib.hid hb0
  have HR := Lib.hid hR
  have HR2 := Lib.hid hR2
  have e0 : ((w.alloc (.cells #[.string f, .slice A l.length c] 27)).alloc (.cells #[.string f2, .slice A2 m.length c2] 27)).cell? ⟨w.heap.size, 0, none⟩ = some (.string f) := by simp
  have e1 : ((w.alloc (.cells #[.string f, .slice A l.length c] 27)).alloc (.cells #[.string f2, .slice A2 m.length c2] 27)).cell? ⟨w.heap.size, 1, none⟩ = some (.slice A l.length c) := by simp
  have d0 : ((w.alloc (.cells #[.string f, .slice A l.length c] 27)).alloc (.cells #[.string f2, .slice A2 m.length c2] 27)).cell? ⟨w.heap.size + 1, 0, none⟩ = some (.string f2) := cell_of_row _ _ 0 _ _ _ (heap_alloc2 w _ _).2
  have d1 : ((w.alloc (.cells #[.string f, .slice A l.length c] 27)).alloc (.cells #[.string f2, .slice A2 m.length c2] 27)).cell? ⟨w.heap.size + 1, 1, none⟩ = some (.slice A2 m.length c2) := cell_of_row _ _ 1 _ _ _ (heap_alloc2 w _ _).2
  have hz : w.heap.size + 1 < ((w.alloc (.cells #[.string f, .slice A l.length c] 27)).alloc (.cells #[.string f2, .slice A2 m.length c2] 27)).heap.size := by simp
  have hpc : Hid (placeC (plL f l) (plL f2 m) = if Lib.compareBytes f.data.toList f2.data.toList = 0 then intsC l m else Lib.compareBytes f.data.toList f2.data.toList) := Lib.hid rfl
  have hls := less_cmp f.toList f2.toList
  have hrng := bytes_ord.rng f.data.toList f2.data.toList
  have hzero := bytes_ord.zero f.data.toList f2.data.toList
  rw [Lib.toList_data, Lib.toList_data] at hls
  have hls2 : Op.bytesLess f.toList f2.toList = (Lib.compareBytes f.data.toList f2.data.toList == -1) := by rw [Lib.toList_data, Lib.toList_data]; exact hls
  clear hR hR2 hb0 hls
  rcases hrng with h | h | h
  · have hx := Lib.hid (show placeC (plL f l) (plL f2 m) = -1 by rw [hpc.out, h]; rfl)
    have hb : Op.bytesLess f.toList f2.toList = true := by rw [hls2, h]; rfl
    clear hls2 h hzero hpc
    go_enter Tryd.func29, Tryd.ntmps29
    go_wp2
    go_ret
    exact ⟨by rw [hx.out]; rfl, HB0.out⟩
  · have hff := hzero.1 h
    have hf : f = f2 := ByteArray.ext (Array.ext' hff)
    have hx := Lib.hid (show placeC (plL f l) (plL f2 m) = intsC l m by rw [hpc.out, if_pos h])
    have hb : Op.bytesLess f.toList f2.toList = false := by rw [hls2, h]; rfl
    have heq : (f.toList == f2.toList) = true := by rw [bytes_eq2]; simp [hf]
    clear hls2 h hzero hpc hff hf
    go_enter Tryd.func29, Tryd.ntmps29
    go_wp2
    generalize hw1 : (w.alloc (.cells #[.string f, .slice A l.length c] 27)).alloc (.cells #[.string f2, .slice A2 m.length c2] 27) = w1 at *
    have HW1 := Lib.hid hw1
    clear hw1
    have E1 := Lib.hid e1
    have D1 := Lib.hid d1
    clear e0 e1 d0 d1
    go_loopw [5] (fun i wr => ∃ k : Nat, k ≤ l.length ∧ k ≤ m.length ∧ i = .int .i64 k ∧ l.take k = m.take k ∧ Below w1.heap.size w1 wr) (fun i wr => l.length - (intOf i).toNat)
    case atStart => exact ⟨0, Nat.zero_le _, Nat.zero_le _, rfl, rfl, Below.refl _ _⟩
    case round =>
      obtain ⟨k, hk, hk2, rfl, hq, hbel⟩ := hrel
      have HQ := Lib.hid hq
      have HB := Lib.hid hbel
      have hbw : Hid (Below w.heap.size w wr) := Lib.hid (HB0.out.trans (hbel.mono HB0.out.size))
      have e1 : wr.cell? ⟨w.heap.size, 1, none⟩ = some (.slice A l.length c) := (hbel.cell (p := ⟨w.heap.size, 1, none⟩) (by simp; omega)).trans E1.out
      have d1 : wr.cell? ⟨w.heap.size + 1, 1, none⟩ = some (.slice A2 m.length c2) := (hbel.cell (p := ⟨w.heap.size + 1, 1, none⟩) (by simp; omega)).trans D1.out
      clear hq hbel
      by_cases hlt : k < l.length
      · by_cases hlt2 : k < m.length
        · obtain ⟨ad, rfl, _, hc⟩ := RdI.at_ (Rd.below HR.out hbw.out) hlt
          obtain ⟨ad2, rfl, _, hc2⟩ := RdI.at_ (Rd.below HR2.out hbw.out) hlt2
          by_cases h1 : l[k]'hlt < m[k]'hlt2
          · have hx2 := Lib.hid (show intsC l m = -1 by
              have e : intC (l[k]'hlt) (m[k]'hlt2) = -1 := if_pos h1
              rw [intsC_part HQ.out hlt hlt2 (by rw [e]; decide), e])
            have hd1 : decide (l[k]'hlt < m[k]'hlt2) = true := by simpa using h1
            clear h1
            go_wp2
            go_quiet (fail)
            have HBn := Lib.hid (below_drewN hbw.out nq)
            go_wp2
            go_ret
            exact ⟨by rw [hx.out, hx2.out]; rfl, HBn.out⟩
          · have hd1 : decide (l[k]'hlt < m[k]'hlt2) = false := by simpa using h1
            by_cases h2 : m[k]'hlt2 < l[k]'hlt
            · have hx2 := Lib.hid (show intsC l m = 1 by
                have e : intC (l[k]'hlt) (m[k]'hlt2) = 1 := by unfold intC; rw [if_neg h1, if_pos h2]
                rw [intsC_part HQ.out hlt hlt2 (by rw [e]; decide), e])
              have hd2 : decide (m[k]'hlt2 < l[k]'hlt) = true := by simpa using h2
              clear h1 h2
              go_wp2
              go_quiet (fail)
              have e1 : (wr.drewN nq).cell? ⟨w.heap.size, 1, none⟩ = some (.slice (some ad) l.length c) := e1
              have d1 : (wr.drewN nq).cell? ⟨w.heap.size + 1, 1, none⟩ = some (.slice (some ad2) m.length c2) := d1
              have hc : (wr.drewN nq).cell? (ad.add k) = some (.int .i64 (l[k]'hlt)) := hc
              have hc2 : (wr.drewN nq).cell? (ad2.add k) = some (.int .i64 (m[k]'hlt2)) := hc2
              have HBq := Lib.hid (below_drewN hbw.out nq)
              generalize wr.drewN nq = wq at *
              go_wp2
              go_quiet (fail)
              have HBn := Lib.hid (below_drewN HBq.out nq)
              go_wp2
              go_ret
              exact ⟨by rw [hx.out, hx2.out]; rfl, HBn.out⟩
            · have hd2 : decide (m[k]'hlt2 < l[k]'hlt) = false := by simpa using h2
              have HN := Lib.hid (take_nextV HQ.out hlt hlt2 (by omega))
              clear h1 h2
              go_wp2
              go_quiet (fail)
              have e1 : (wr.drewN nq).cell? ⟨w.heap.size, 1, none⟩ = some (.slice (some ad) l.length c) := e1
              have d1 : (wr.drewN nq).cell? ⟨w.heap.size + 1, 1, none⟩ = some (.slice (some ad2) m.length c2) := d1
              have hc : (wr.drewN nq).cell? (ad.add k) = some (.int .i64 (l[k]'hlt)) := hc
              have hc2 : (wr.drewN nq).cell? (ad2.add k) = some (.int .i64 (m[k]'hlt2)) := hc2
              have HBq := Lib.hid (below_drewN HB.out nq)
              generalize wr.drewN nq = wq at *
              go_wp2
              go_quiet (fail)
              have HBn := Lib.hid (below_drewN HBq.out nq)
              go_wp2
              go_roundw
              case rel => exact ⟨k + 1, by omega, by omega, by go_num, HN.out, HBn.out⟩
              case measure => simp [intOf]; omega
        · have hx2 := Lib.hid (intsC_more HQ.out hlt (by omega))
          have hd1 : decide (l.length < m.length) = false := by simp; omega
          have hd2 : decide (m.length < l.length) = true := by simp; omega
          go_wp2
          go_ret
          exact ⟨by rw [hx.out, hx2.out]; rfl, hbw.out⟩
      · by_cases hlt2 : k < m.length
        · have hx2 := Lib.hid (intsC_less HQ.out (by omega) hlt2)
          have hd1 : decide (l.length < m.length) = true := by simp; omega
          go_wp2
          go_ret
          exact ⟨by rw [hx.out, hx2.out]; rfl, hbw.out⟩
        · have hx2 := Lib.hid (intsC_same HQ.out (by omega) (by omega))
          have hd1 : decide (l.length < m.length) = false := by simp; omega
          have hd2 : decide (m.length < l.length) = false := by simp; omega
          go_wp2
          go_ret
          exact ⟨by rw [hx.out, hx2.out]; rfl, hbw.out⟩
  · have hx := Lib.hid (show placeC (plL f l) (plL f2 m) = 1 by rw [hpc.out, h]; rfl)
    have hb : Op.bytesLess f.toList f2.toList = false := by rw [hls2, h]; rfl
    have heq : (f.toList == f2.toList) = false := by
      rw [bytes_eq2]
      have : f ≠ f2 := by
        rintro rfl
        rw [(bytes_ord.zero _ _).2 rfl] at h
        cases h
      simp [this]
    clear hls2 h hzero hpc
    go_enter Tryd.func29, Tryd.ntmps29
    go_wp2
    go_ret
    exact ⟨by rw [hx.out]; rfl, HB0.out⟩
end Go.Proofs.YthkofiakfmijiaaDoor
