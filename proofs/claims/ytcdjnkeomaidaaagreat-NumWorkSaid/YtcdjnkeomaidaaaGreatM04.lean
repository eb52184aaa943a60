/-
  Part 4 of 8 of a proof, several texts in a row: RefAsked, RefArith, RefDiv, RefMul, RefPow, RefWk, PlKept. Conditions: each text names its own.
-/
import Derived.Test.YtcdjnkeomaidaaaGreatM03
import Derived.Test.YtcdjnkeomaidaaaGreatM01
import Derived.Test.YtcdjnkeomaidaaaGreatProg
/-
  espalierref8.asked: a walk, for any operation and any plain values. Conditions: they lie in memory.
-/
namespace Go.Proofs.YtcdjnkeomaidaaaGreat
open Go.RowKit
set_option linter.unusedVariables false

def txStrict : ByteArray := ⟨#[83, 116, 114, 105, 99, 116]⟩
def rowHit (op : ByteArray) (r : RowD) : Bool := (r.kind.toList == op.toList) && hasB txStrict r.abil
/-- What is amiss with a call, by rows. -/
def askedR (op : ByteArray) (ps : List Pl) : List RowD → Int
  | [] => 1
  | r :: rs => if rowHit op r = true then (if (ps.length : Int) < r.min ∨ r.max < (ps.length : Int) then 11 else if ps.all Pl.ok = true then 0 else 1) else askedR op ps rs
theorem askedR_skip {op : ByteArray} {ps : List Pl} : ∀ {rs : List RowD} {k : Nat} (h : k < rs.length), rowHit op rs[k] = false → askedR op ps (rs.drop k) = askedR op ps (rs.drop (k + 1)) := fun {rs k} h hn => by
  rw [List.drop_eq_getElem_cons h, askedR, if_neg (by rw [hn]; decide)]
theorem askedR_hit {op : ByteArray} {ps : List Pl} {rs : List RowD} {k : Nat} (h : k < rs.length) (hn : rowHit op rs[k] = true) : askedR op ps (rs.drop k) = (if (ps.length : Int) < rs[k].min ∨ rs[k].max < (ps.length : Int) then 11 else if ps.all Pl.ok = true then 0 else 1) := by
  rw [List.drop_eq_getElem_cons h, askedR, if_pos hn]
set_option maxRecDepth 100000 in
set_option maxHeartbeats 8000000 in
theorem ref_asked (op : ByteArray) (ps : List Pl) (A : Option Addr) (c : Nat) (w : World) (hlen : ps.length * 56 ≤ 140737488351232) (hl : Pls.lies w w.heap.size ps A) :
    Calls Tryz.prog 20 #[.string op, .slice A ps.length c] w (Bel (.int .i64 (askedR op ps numRows)) w) := by
  have HL := Lib.hid hl
  have KR := Lib.hid (ref_rows w)
  clear hl
  go_enter Tryz.func20, Tryz.ntmps20
  go_wp2_with fail
  refine KR.out.mono ?_
  rintro e w1 ⟨A1, c1, ts, rfl, hR, hts, hb⟩
  have HR := Lib.hid hR
  have HT := Lib.hid hts
  have HB := Lib.hid hb
  have hn : ts.length = 15 := by
    have := congrArg List.length hts
    rw [List.length_map] at this
    rw [this]; rfl
  have hab : Hid (∀ r ∈ numRows, r.abil.length ≤ 1000) := Lib.hid (by decide)
  clear hR hts hb KR
  go_wp2
  go_loopw [6] (fun s6 wr => ∃ (k : Nat), k ≤ ts.length ∧ s6 = .int .i64 (k : Int) ∧ askedR op ps (numRows.drop k) = askedR op ps numRows ∧ Below w1.heap.size w1 wr) (fun s6 _ => ts.length - (intOf s6).toNat)
  case atStart => exact ⟨0, Nat.zero_le _, rfl, rfl, Below.refl _ _⟩
  case round =>
    obtain ⟨k, hk, rfl, heq, hbel⟩ := hrel
    have HE := Lib.hid heq
    have HBr := Lib.hid hbel
    clear heq hbel
    by_cases hlt : k < ts.length
    · have hR2 : RowsIn wr (· < wr.heap.size) ts A1 := by
        obtain ⟨b, o, e, hs, hc⟩ := HR.out (by omega)
        exact fun _ => ⟨b, o, e, Nat.lt_of_lt_of_le hs HBr.out.size, fun k hk => ⟨fun j hj => (HBr.out.cell (p := ⟨b, _, none⟩) hs).trans ((hc k hk).1 j hj), (hc k hk).2.keep (fun b o hb => HBr.out.cell (p := ⟨b, o, none⟩) hb) (fun b hb => Nat.lt_of_lt_of_le hb HBr.out.size)⟩⟩
      obtain ⟨b, o, rfl, hs, hc⟩ := hR2 (by omega)
      obtain ⟨hcs, hnm⟩ := hc k hlt
      have e0 : wr.cell? ⟨b, o + k * 6, none⟩ = some (.string ts[k].row.kind) := hcs 0 (by omega)
      have e1 : wr.cell? ⟨b, o + k * 6 + 1, none⟩ = some (.int .i64 ts[k].row.min) := hcs 1 (by omega)
      have e2 : wr.cell? ⟨b, o + k * 6 + 2, none⟩ = some (.int .i64 ts[k].row.max) := hcs 2 (by omega)
      have e5 : wr.cell? ⟨b, o + k * 6 + 5, none⟩ = some (.slice ts[k].at_ ts[k].row.abil.length ts[k].cap) := hcs 5 (by omega)
      have hrow : Hid (∃ h : k < numRows.length, numRows[k] = ts[k].row) := Lib.hid (by
        have h1 : numRows.length = ts.length := by rw [← HT.out, List.length_map]
        refine ⟨by omega, ?_⟩
        simp only [← HT.out, List.getElem_map])
      have KH := Lib.hid (ref_Has ts[k].row.abil txStrict ts[k].at_ ts[k].cap wr (by obtain ⟨h, e⟩ := hrow.out; rw [← e]; exact hab.out _ (List.getElem_mem h)) hnm)
      unfold txStrict at KH
      clear hc hcs hnm
      cases hkd : (ts[k].row.kind.toList == op.toList)
      · have hsk := Lib.hid (show askedR op ps (numRows.drop (k + 1)) = askedR op ps numRows by
          obtain ⟨h, e⟩ := hrow.out
          rw [← HE.out]
          exact (askedR_skip h (by rw [e]; unfold rowHit; rw [hkd]; rfl)).symm)
        go_wp2
        go_roundw
        case rel => exact ⟨k + 1, by omega, by go_num, hsk.out, HBr.out⟩
        case measure => simp [intOf]; omega
      · cases hh : hasB ⟨#[83, 116, 114, 105, 99, 116]⟩ ts[k].row.abil
        · have hsk := Lib.hid (show askedR op ps (numRows.drop (k + 1)) = askedR op ps numRows by
            obtain ⟨h, e⟩ := hrow.out
            rw [← HE.out]
            exact (askedR_skip h (by rw [e]; unfold rowHit txStrict; rw [hkd, hh]; rfl)).symm)
          rw [hh] at KH
          go_wp2_with fail
          refine KH.out.mono ?_
          rintro e w' ⟨rfl, rfl⟩
          go_wp2
          go_roundw
          case rel => exact ⟨k + 1, by omega, by go_num, hsk.out, HBr.out⟩
          case measure => simp [intOf]; omega
        · have hx := Lib.hid (show askedR op ps numRows = (if (ps.length : Int) < ts[k].row.min ∨ ts[k].row.max < (ps.length : Int) then 11 else if ps.all Pl.ok = true then 0 else 1) by
            obtain ⟨h, e⟩ := hrow.out
            rw [← HE.out, askedR_hit h (by rw [e]; unfold rowHit txStrict; rw [hkd, hh]; rfl), e])
          rw [hh] at KH
          generalize ts[k].row.min = mn at *
          generalize ts[k].row.max = mx at *
          by_cases h1 : (ps.length : Int) < mn
          · have hx2 := Lib.hid (hx.out.trans (if_pos (.inl h1)))
            have d1 : decide ((ps.length : Int) < mn) = true := by simpa using h1
            go_wp2_with fail
            refine KH.out.mono ?_
            rintro e w' ⟨rfl, rfl⟩
            go_wp2
            go_ret
            exact ⟨by rw [hx2.out]; rfl, HB.out.trans (HBr.out.mono HB.out.size)⟩
          · have d1 : decide ((ps.length : Int) < mn) = false := by simpa using h1
            by_cases h2 : mx < (ps.length : Int)
            · have hx2 := Lib.hid (hx.out.trans (if_pos (.inr h2)))
              have d2 : decide (mx < (ps.length : Int)) = true := by simpa using h2
              go_wp2_with fail
              refine KH.out.mono ?_
              rintro e w' ⟨rfl, rfl⟩
              go_wp2
              go_ret
              exact ⟨by rw [hx2.out]; rfl, HB.out.trans (HBr.out.mono HB.out.size)⟩
            · have hx2 := Lib.hid (hx.out.trans (if_neg (by rintro (h | h); exact h1 h; exact h2 h)))
              have d2 : decide (mx < (ps.length : Int)) = false := by simpa using h2
              have HBw := Lib.hid (HB.out.trans (HBr.out.mono HB.out.size))
              go_wp2_with fail
              refine KH.out.mono ?_
              rintro e w' ⟨rfl, rfl⟩
              go_wp2
              clear e0 e1 e2 e5
              go_loopw [7] (fun s7 wx => ∃ (j : Nat), j ≤ ps.length ∧ s7 = .int .i64 (j : Int) ∧ (ps.take j).all Pl.ok = true ∧ Below w.heap.size w wx) (fun s7 _ => ps.length - (intOf s7).toNat)
              case atStart => exact ⟨0, Nat.zero_le _, rfl, rfl, HBw.out⟩
              case round =>
                obtain ⟨j, hj, rfl, hall, hbx⟩ := hrel
                have HA := Lib.hid hall
                have HX := Lib.hid hbx
                clear hall hbx
                by_cases hjl : j < ps.length
                · obtain ⟨b2, o2, rfl⟩ := HL.out.head (by omega)
                  have hlies := (HL.out.below HX.out HX.out.size).at_ j hjl
                  obtain ⟨_, f0, f1, f2, _, A2, c2, f3, hll⟩ := hlies.parts
                  have KM := Lib.hid (ref2_May ps[j] A2 c2 wr hlies.sane hll)
                  rw [← ok_left] at KM
                  have hst := Lib.hid (show (ps.take (j + 1)).all Pl.ok = ((ps.take j).all Pl.ok && ps[j].ok) by rw [List.take_succ_eq_append_getElem hjl, List.all_append]; simp)
                  have hmem := Lib.hid (List.getElem_mem hjl)
                  unfold Pl.arg at KM
                  clear hlies hll
                  cases hok : ps[j].ok
                  · have hf := Lib.hid (show ps.all Pl.ok = false by
                      rw [List.all_eq_false]
                      exact ⟨_, hmem.out, by rw [hok]; decide⟩)
                    have hx3 := Lib.hid (hx2.out.trans (if_neg (by rw [hf.out]; decide)))
                    rw [hok] at KM
                    clear hmem hst hok
                    generalize ps[j] = p at *
                    go_wp2_with fail
                    refine KM.out.mono ?_
                    rintro e w2 ⟨rfl, hb2⟩
                    have HB2 := Lib.hid (HX.out.trans (hb2.mono HX.out.size))
                    clear hb2
                    go_wp2
                    go_ret
                    exact ⟨by rw [hx3.out]; rfl, HB2.out⟩
                  · have HA2 := Lib.hid (show (ps.take (j + 1)).all Pl.ok = true by rw [hst.out, HA.out, hok]; rfl)
                    rw [hok] at KM
                    clear hmem hst hok
                    generalize ps[j] = p at *
                    go_wp2_with fail
                    refine KM.out.mono ?_
                    rintro e w2 ⟨rfl, hb2⟩
                    have HB2 := Lib.hid (HX.out.trans (hb2.mono HX.out.size))
                    clear hb2
                    go_wp2
                    go_roundw
                    case rel => exact ⟨j + 1, by omega, by go_num, HA2.out, HB2.out⟩
                    case measure => simp [intOf]; omega
                · have hx3 := Lib.hid (hx2.out.trans (if_pos (by have := HA.out; rwa [List.take_of_length_le (by omega)] at this)))
                  go_wp2
                  go_ret
                  exact ⟨by rw [hx3.out]; rfl, HX.out⟩
    · have hx := Lib.hid (show askedR op ps numRows = 1 by
        rw [← HE.out, List.drop_eq_nil_of_le (by have := congrArg List.length HT.out; rw [List.length_map] at this; omega)]; rfl)
      go_wp2
      go_ret
      exact ⟨by rw [hx.out]; rfl, HB.out.trans (HBr.out.mono HB.out.size)⟩
end Go.Proofs.YtcdjnkeomaidaaaGreat

/-
  espalierref8.add, sub: walks, for any two numbers of 64 bits. Written by a program of mine (gen_arith.py). Conditions: that.
-/
namespace Go.Proofs.YtcdjnkeomaidaaaGreat
open Go.RowKit
set_option linter.unusedVariables false

/-- A number, or that it is too great: the reference's pair. -/
def exactP (x : Int) : Value := if rng x = true then .tuple #[.int .i64 x, .int .i64 0] else .tuple #[.int .i64 0, .int .i64 21]
theorem exactP_in {x c : Int} (h : rng x = true) (hc : c = x) : Ending.returned (.tuple #[.int .i64 c, .int .i64 0]) = .returned (exactP x) := by
  unfold exactP; rw [if_pos h, hc]
theorem exactP_out {x : Int} (h : rng x = false) : Ending.returned (.tuple #[.int .i64 0, .int .i64 21]) = .returned (exactP x) := by
  unfold exactP; rw [if_neg (by rw [h]; decide)]
set_option maxHeartbeats 4000000 in
theorem ref_add (a b : Int) (ha : rng a = true) (hb : rng b = true) (w : World) : Calls Tryz.prog 53 #[.int .i64 a, .int .i64 b] w fun e w' => e = .returned (exactP (a + b)) ∧ w = w' := by
  rcases (show a < 0 ∨ a = 0 ∨ 0 < a by omega) with sa | sa | sa
  · have pa : decide (0 < a) = false := by simp; omega
    have ma : decide (a < 0) = true := by simpa using sa
    have ga : decide (0 ≤ a) = false := by simp; omega
    rcases (show b < 0 ∨ b = 0 ∨ 0 < b by omega) with sb | sb | sb
    · have pb : decide (0 < b) = false := by simp; omega
      have mb : decide (b < 0) = true := by simpa using sb
      have gb : decide (0 ≤ b) = false := by simp; omega
      by_cases hc : wrap64 (a + b) < 0
      · have qc : decide (wrap64 (a + b) < 0) = true := by simpa using hc
        have gc : decide (0 ≤ wrap64 (a + b)) = false := by simp; omega
        have hx := Lib.hid (show rng (a + b) = true by have ha2 := rng_iff.1 ha; have hb2 := rng_iff.1 hb; rw [rng_iff]; unfold wrap64 at hc; omega)
        clear ha hb sa sb hc
        go_enter Tryz.func53, Tryz.ntmps53
        go_wp2
        go_ret2
        exact ⟨exactP_in hx.out (wrap_rng hx.out), rfl⟩
      · have qc : decide (wrap64 (a + b) < 0) = false := by simp; omega
        have gc : decide (0 ≤ wrap64 (a + b)) = true := by simp; omega
        have hx := Lib.hid (show rng (a + b) = false by have ha2 := rng_iff.1 ha; have hb2 := rng_iff.1 hb; rw [rng_not]; unfold wrap64 at hc; omega)
        clear ha hb sa sb hc
        go_enter Tryz.func53, Tryz.ntmps53
        go_wp2
        go_ret2
        exact ⟨exactP_out hx.out, rfl⟩
    · have pb : decide (0 < b) = false := by simp; omega
      have mb : decide (b < 0) = false := by simp; omega
      have gb : decide (0 ≤ b) = true := by simp; omega
      by_cases hc : wrap64 (a + b) < 0
      · have qc : decide (wrap64 (a + b) < 0) = true := by simpa using hc
        have gc : decide (0 ≤ wrap64 (a + b)) = false := by simp; omega
        have hx := Lib.hid (show rng (a + b) = true by have ha2 := rng_iff.1 ha; have hb2 := rng_iff.1 hb; rw [rng_iff]; unfold wrap64 at hc; omega)
        clear ha hb sa sb hc
        go_enter Tryz.func53, Tryz.ntmps53
        go_wp2
        go_ret2
        exact ⟨exactP_in hx.out (wrap_rng hx.out), rfl⟩
      · have qc : decide (wrap64 (a + b) < 0) = false := by simp; omega
        have gc : decide (0 ≤ wrap64 (a + b)) = true := by simp; omega
        have hx := Lib.hid (show rng (a + b) = true by have ha2 := rng_iff.1 ha; have hb2 := rng_iff.1 hb; rw [rng_iff]; unfold wrap64 at hc; omega)
        clear ha hb sa sb hc
        go_enter Tryz.func53, Tryz.ntmps53
        go_wp2
        go_ret2
        exact ⟨exactP_in hx.out (wrap_rng hx.out), rfl⟩
    · have pb : decide (0 < b) = true := by simpa using sb
      have mb : decide (b < 0) = false := by simp; omega
      have gb : decide (0 ≤ b) = true := by simp; omega
      by_cases hc : wrap64 (a + b) < 0
      · have qc : decide (wrap64 (a + b) < 0) = true := by simpa using hc
        have gc : decide (0 ≤ wrap64 (a + b)) = false := by simp; omega
        have hx := Lib.hid (show rng (a + b) = true by have ha2 := rng_iff.1 ha; have hb2 := rng_iff.1 hb; rw [rng_iff]; unfold wrap64 at hc; omega)
        clear ha hb sa sb hc
        go_enter Tryz.func53, Tryz.ntmps53
        go_wp2
        go_ret2
        exact ⟨exactP_in hx.out (wrap_rng hx.out), rfl⟩
      · have qc : decide (wrap64 (a + b) < 0) = false := by simp; omega
        have gc : decide (0 ≤ wrap64 (a + b)) = true := by simp; omega
        have hx := Lib.hid (show rng (a + b) = true by have ha2 := rng_iff.1 ha; have hb2 := rng_iff.1 hb; rw [rng_iff]; unfold wrap64 at hc; omega)
        clear ha hb sa sb hc
        go_enter Tryz.func53, Tryz.ntmps53
        go_wp2
        go_ret2
        exact ⟨exactP_in hx.out (wrap_rng hx.out), rfl⟩
  · have pa : decide (0 < a) = false := by simp; omega
    have ma : decide (a < 0) = false := by simp; omega
    have ga : decide (0 ≤ a) = true := by simp; omega
    rcases (show b < 0 ∨ b = 0 ∨ 0 < b by omega) with sb | sb | sb
    · have pb : decide (0 < b) = false := by simp; omega
      have mb : decide (b < 0) = true := by simpa using sb
      have gb : decide (0 ≤ b) = false := by simp; omega
      by_cases hc : wrap64 (a + b) < 0
      · have qc : decide (wrap64 (a + b) < 0) = true := by simpa using hc
        have gc : decide (0 ≤ wrap64 (a + b)) = false := by simp; omega
        have hx := Lib.hid (show rng (a + b) = true by have ha2 := rng_iff.1 ha; have hb2 := rng_iff.1 hb; rw [rng_iff]; unfold wrap64 at hc; omega)
        clear ha hb sa sb hc
        go_enter Tryz.func53, Tryz.ntmps53
        go_wp2
        go_ret2
        exact ⟨exactP_in hx.out (wrap_rng hx.out), rfl⟩
      · have qc : decide (wrap64 (a + b) < 0) = false := by simp; omega
        have gc : decide (0 ≤ wrap64 (a + b)) = true := by simp; omega
        have hx := Lib.hid (show rng (a + b) = true by have ha2 := rng_iff.1 ha; have hb2 := rng_iff.1 hb; rw [rng_iff]; unfold wrap64 at hc; omega)
        clear ha hb sa sb hc
        go_enter Tryz.func53, Tryz.ntmps53
        go_wp2
        go_ret2
        exact ⟨exactP_in hx.out (wrap_rng hx.out), rfl⟩
    · have pb : decide (0 < b) = false := by simp; omega
      have mb : decide (b < 0) = false := by simp; omega
      have gb : decide (0 ≤ b) = true := by simp; omega
      by_cases hc : wrap64 (a + b) < 0
      · have qc : decide (wrap64 (a + b) < 0) = true := by simpa using hc
        have gc : decide (0 ≤ wrap64 (a + b)) = false := by simp; omega
        have hx := Lib.hid (show rng (a + b) = true by have ha2 := rng_iff.1 ha; have hb2 := rng_iff.1 hb; rw [rng_iff]; unfold wrap64 at hc; omega)
        clear ha hb sa sb hc
        go_enter Tryz.func53, Tryz.ntmps53
        go_wp2
        go_ret2
        exact ⟨exactP_in hx.out (wrap_rng hx.out), rfl⟩
      · have qc : decide (wrap64 (a + b) < 0) = false := by simp; omega
        have gc : decide (0 ≤ wrap64 (a + b)) = true := by simp; omega
        have hx := Lib.hid (show rng (a + b) = true by have ha2 := rng_iff.1 ha; have hb2 := rng_iff.1 hb; rw [rng_iff]; unfold wrap64 at hc; omega)
        clear ha hb sa sb hc
        go_enter Tryz.func53, Tryz.ntmps53
        go_wp2
        go_ret2
        exact ⟨exactP_in hx.out (wrap_rng hx.out), rfl⟩
    · have pb : decide (0 < b) = true := by simpa using sb
      have mb : decide (b < 0) = false := by simp; omega
      have gb : decide (0 ≤ b) = true := by simp; omega
      by_cases hc : wrap64 (a + b) < 0
      · have qc : decide (wrap64 (a + b) < 0) = true := by simpa using hc
        have gc : decide (0 ≤ wrap64 (a + b)) = false := by simp; omega
        have hx := Lib.hid (show rng (a + b) = true by have ha2 := rng_iff.1 ha; have hb2 := rng_iff.1 hb; rw [rng_iff]; unfold wrap64 at hc; omega)
        clear ha hb sa sb hc
        go_enter Tryz.func53, Tryz.ntmps53
        go_wp2
        go_ret2
        exact ⟨exactP_in hx.out (wrap_rng hx.out), rfl⟩
      · have qc : decide (wrap64 (a + b) < 0) = false := by simp; omega
        have gc : decide (0 ≤ wrap64 (a + b)) = true := by simp; omega
        have hx := Lib.hid (show rng (a + b) = true by have ha2 := rng_iff.1 ha; have hb2 := rng_iff.1 hb; rw [rng_iff]; unfold wrap64 at hc; omega)
        clear ha hb sa sb hc
        go_enter Tryz.func53, Tryz.ntmps53
        go_wp2
        go_ret2
        exact ⟨exactP_in hx.out (wrap_rng hx.out), rfl⟩
  · have pa : decide (0 < a) = true := by simpa using sa
    have ma : decide (a < 0) = false := by simp; omega
    have ga : decide (0 ≤ a) = true := by simp; omega
    rcases (show b < 0 ∨ b = 0 ∨ 0 < b by omega) with sb | sb | sb
    · have pb : decide (0 < b) = false := by simp; omega
      have mb : decide (b < 0) = true := by simpa using sb
      have gb : decide (0 ≤ b) = false := by simp; omega
      by_cases hc : wrap64 (a + b) < 0
      · have qc : decide (wrap64 (a + b) < 0) = true := by simpa using hc
        have gc : decide (0 ≤ wrap64 (a + b)) = false := by simp; omega
        have hx := Lib.hid (show rng (a + b) = true by have ha2 := rng_iff.1 ha; have hb2 := rng_iff.1 hb; rw [rng_iff]; unfold wrap64 at hc; omega)
        clear ha hb sa sb hc
        go_enter Tryz.func53, Tryz.ntmps53
        go_wp2
        go_ret2
        exact ⟨exactP_in hx.out (wrap_rng hx.out), rfl⟩
      · have qc : decide (wrap64 (a + b) < 0) = false := by simp; omega
        have gc : decide (0 ≤ wrap64 (a + b)) = true := by simp; omega
        have hx := Lib.hid (show rng (a + b) = true by have ha2 := rng_iff.1 ha; have hb2 := rng_iff.1 hb; rw [rng_iff]; unfold wrap64 at hc; omega)
        clear ha hb sa sb hc
        go_enter Tryz.func53, Tryz.ntmps53
        go_wp2
        go_ret2
        exact ⟨exactP_in hx.out (wrap_rng hx.out), rfl⟩
    · have pb : decide (0 < b) = false := by simp; omega
      have mb : decide (b < 0) = false := by simp; omega
      have gb : decide (0 ≤ b) = true := by simp; omega
      by_cases hc : wrap64 (a + b) < 0
      · have qc : decide (wrap64 (a + b) < 0) = true := by simpa using hc
        have gc : decide (0 ≤ wrap64 (a + b)) = false := by simp; omega
        have hx := Lib.hid (show rng (a + b) = true by have ha2 := rng_iff.1 ha; have hb2 := rng_iff.1 hb; rw [rng_iff]; unfold wrap64 at hc; omega)
        clear ha hb sa sb hc
        go_enter Tryz.func53, Tryz.ntmps53
        go_wp2
        go_ret2
        exact ⟨exactP_in hx.out (wrap_rng hx.out), rfl⟩
      · have qc : decide (wrap64 (a + b) < 0) = false := by simp; omega
        have gc : decide (0 ≤ wrap64 (a + b)) = true := by simp; omega
        have hx := Lib.hid (show rng (a + b) = true by have ha2 := rng_iff.1 ha; have hb2 := rng_iff.1 hb; rw [rng_iff]; unfold wrap64 at hc; omega)
        clear ha hb sa sb hc
        go_enter Tryz.func53, Tryz.ntmps53
        go_wp2
        go_ret2
        exact ⟨exactP_in hx.out (wrap_rng hx.out), rfl⟩
    · have pb : decide (0 < b) = true := by simpa using sb
      have mb : decide (b < 0) = false := by simp; omega
      have gb : decide (0 ≤ b) = true := by simp; omega
      by_cases hc : wrap64 (a + b) < 0
      · have qc : decide (wrap64 (a + b) < 0) = true := by simpa using hc
        have gc : decide (0 ≤ wrap64 (a + b)) = false := by simp; omega
        have hx := Lib.hid (show rng (a + b) = false by have ha2 := rng_iff.1 ha; have hb2 := rng_iff.1 hb; rw [rng_not]; unfold wrap64 at hc; omega)
        clear ha hb sa sb hc
        go_enter Tryz.func53, Tryz.ntmps53
        go_wp2
        go_ret2
        exact ⟨exactP_out hx.out, rfl⟩
      · have qc : decide (wrap64 (a + b) < 0) = false := by simp; omega
        have gc : decide (0 ≤ wrap64 (a + b)) = true := by simp; omega
        have hx := Lib.hid (show rng (a + b) = true by have ha2 := rng_iff.1 ha; have hb2 := rng_iff.1 hb; rw [rng_iff]; unfold wrap64 at hc; omega)
        clear ha hb sa sb hc
        go_enter Tryz.func53, Tryz.ntmps53
        go_wp2
        go_ret2
        exact ⟨exactP_in hx.out (wrap_rng hx.out), rfl⟩
set_option maxHeartbeats 4000000 in
theorem ref_sub (a b : Int) (ha : rng a = true) (hb : rng b = true) (w : World) : Calls Tryz.prog 54 #[.int .i64 a, .int .i64 b] w fun e w' => e = .returned (exactP (a - b)) ∧ w = w' := by
  rcases (show a < 0 ∨ a = 0 ∨ 0 < a by omega) with sa | sa | sa
  · have pa : decide (0 < a) = false := by simp; omega
    have ma : decide (a < 0) = true := by simpa using sa
    have ga : decide (0 ≤ a) = false := by simp; omega
    rcases (show b < 0 ∨ b = 0 ∨ 0 < b by omega) with sb | sb | sb
    · have pb : decide (0 < b) = false := by simp; omega
      have mb : decide (b < 0) = true := by simpa using sb
      have gb : decide (0 ≤ b) = false := by simp; omega
      by_cases hc : wrap64 (a - b) < 0
      · have qc : decide (wrap64 (a - b) < 0) = true := by simpa using hc
        have gc : decide (0 ≤ wrap64 (a - b)) = false := by simp; omega
        have hx := Lib.hid (show rng (a - b) = true by have ha2 := rng_iff.1 ha; have hb2 := rng_iff.1 hb; rw [rng_iff]; unfold wrap64 at hc; omega)
        clear ha hb sa sb hc
        go_enter Tryz.func54, Tryz.ntmps54
        go_wp2
        go_ret2
        exact ⟨exactP_in hx.out (wrap_rng hx.out), rfl⟩
      · have qc : decide (wrap64 (a - b) < 0) = false := by simp; omega
        have gc : decide (0 ≤ wrap64 (a - b)) = true := by simp; omega
        have hx := Lib.hid (show rng (a - b) = true by have ha2 := rng_iff.1 ha; have hb2 := rng_iff.1 hb; rw [rng_iff]; unfold wrap64 at hc; omega)
        clear ha hb sa sb hc
        go_enter Tryz.func54, Tryz.ntmps54
        go_wp2
        go_ret2
        exact ⟨exactP_in hx.out (wrap_rng hx.out), rfl⟩
    · have pb : decide (0 < b) = false := by simp; omega
      have mb : decide (b < 0) = false := by simp; omega
      have gb : decide (0 ≤ b) = true := by simp; omega
      by_cases hc : wrap64 (a - b) < 0
      · have qc : decide (wrap64 (a - b) < 0) = true := by simpa using hc
        have gc : decide (0 ≤ wrap64 (a - b)) = false := by simp; omega
        have hx := Lib.hid (show rng (a - b) = true by have ha2 := rng_iff.1 ha; have hb2 := rng_iff.1 hb; rw [rng_iff]; unfold wrap64 at hc; omega)
        clear ha hb sa sb hc
        go_enter Tryz.func54, Tryz.ntmps54
        go_wp2
        go_ret2
        exact ⟨exactP_in hx.out (wrap_rng hx.out), rfl⟩
      · have qc : decide (wrap64 (a - b) < 0) = false := by simp; omega
        have gc : decide (0 ≤ wrap64 (a - b)) = true := by simp; omega
        have hx := Lib.hid (show rng (a - b) = true by have ha2 := rng_iff.1 ha; have hb2 := rng_iff.1 hb; rw [rng_iff]; unfold wrap64 at hc; omega)
        clear ha hb sa sb hc
        go_enter Tryz.func54, Tryz.ntmps54
        go_wp2
        go_ret2
        exact ⟨exactP_in hx.out (wrap_rng hx.out), rfl⟩
    · have pb : decide (0 < b) = true := by simpa using sb
      have mb : decide (b < 0) = false := by simp; omega
      have gb : decide (0 ≤ b) = true := by simp; omega
      by_cases hc : wrap64 (a - b) < 0
      · have qc : decide (wrap64 (a - b) < 0) = true := by simpa using hc
        have gc : decide (0 ≤ wrap64 (a - b)) = false := by simp; omega
        have hx := Lib.hid (show rng (a - b) = true by have ha2 := rng_iff.1 ha; have hb2 := rng_iff.1 hb; rw [rng_iff]; unfold wrap64 at hc; omega)
        clear ha hb sa sb hc
        go_enter Tryz.func54, Tryz.ntmps54
        go_wp2
        go_ret2
        exact ⟨exactP_in hx.out (wrap_rng hx.out), rfl⟩
      · have qc : decide (wrap64 (a - b) < 0) = false := by simp; omega
        have gc : decide (0 ≤ wrap64 (a - b)) = true := by simp; omega
        have hx := Lib.hid (show rng (a - b) = false by have ha2 := rng_iff.1 ha; have hb2 := rng_iff.1 hb; rw [rng_not]; unfold wrap64 at hc; omega)
        clear ha hb sa sb hc
        go_enter Tryz.func54, Tryz.ntmps54
        go_wp2
        go_ret2
        exact ⟨exactP_out hx.out, rfl⟩
  · have pa : decide (0 < a) = false := by simp; omega
    have ma : decide (a < 0) = false := by simp; omega
    have ga : decide (0 ≤ a) = true := by simp; omega
    rcases (show b < 0 ∨ b = 0 ∨ 0 < b by omega) with sb | sb | sb
    · have pb : decide (0 < b) = false := by simp; omega
      have mb : decide (b < 0) = true := by simpa using sb
      have gb : decide (0 ≤ b) = false := by simp; omega
      by_cases hc : wrap64 (a - b) < 0
      · have qc : decide (wrap64 (a - b) < 0) = true := by simpa using hc
        have gc : decide (0 ≤ wrap64 (a - b)) = false := by simp; omega
        have hx := Lib.hid (show rng (a - b) = false by have ha2 := rng_iff.1 ha; have hb2 := rng_iff.1 hb; rw [rng_not]; unfold wrap64 at hc; omega)
        clear ha hb sa sb hc
        go_enter Tryz.func54, Tryz.ntmps54
        go_wp2
        go_ret2
        exact ⟨exactP_out hx.out, rfl⟩
      · have qc : decide (wrap64 (a - b) < 0) = false := by simp; omega
        have gc : decide (0 ≤ wrap64 (a - b)) = true := by simp; omega
        have hx := Lib.hid (show rng (a - b) = true by have ha2 := rng_iff.1 ha; have hb2 := rng_iff.1 hb; rw [rng_iff]; unfold wrap64 at hc; omega)
        clear ha hb sa sb hc
        go_enter Tryz.func54, Tryz.ntmps54
        go_wp2
        go_ret2
        exact ⟨exactP_in hx.out (wrap_rng hx.out), rfl⟩
    · have pb : decide (0 < b) = false := by simp; omega
      have mb : decide (b < 0) = false := by simp; omega
      have gb : decide (0 ≤ b) = true := by simp; omega
      by_cases hc : wrap64 (a - b) < 0
      · have qc : decide (wrap64 (a - b) < 0) = true := by simpa using hc
        have gc : decide (0 ≤ wrap64 (a - b)) = false := by simp; omega
        have hx := Lib.hid (show rng (a - b) = true by have ha2 := rng_iff.1 ha; have hb2 := rng_iff.1 hb; rw [rng_iff]; unfold wrap64 at hc; omega)
        clear ha hb sa sb hc
        go_enter Tryz.func54, Tryz.ntmps54
        go_wp2
        go_ret2
        exact ⟨exactP_in hx.out (wrap_rng hx.out), rfl⟩
      · have qc : decide (wrap64 (a - b) < 0) = false := by simp; omega
        have gc : decide (0 ≤ wrap64 (a - b)) = true := by simp; omega
        have hx := Lib.hid (show rng (a - b) = true by have ha2 := rng_iff.1 ha; have hb2 := rng_iff.1 hb; rw [rng_iff]; unfold wrap64 at hc; omega)
        clear ha hb sa sb hc
        go_enter Tryz.func54, Tryz.ntmps54
        go_wp2
        go_ret2
        exact ⟨exactP_in hx.out (wrap_rng hx.out), rfl⟩
    · have pb : decide (0 < b) = true := by simpa using sb
      have mb : decide (b < 0) = false := by simp; omega
      have gb : decide (0 ≤ b) = true := by simp; omega
      by_cases hc : wrap64 (a - b) < 0
      · have qc : decide (wrap64 (a - b) < 0) = true := by simpa using hc
        have gc : decide (0 ≤ wrap64 (a - b)) = false := by simp; omega
        have hx := Lib.hid (show rng (a - b) = true by have ha2 := rng_iff.1 ha; have hb2 := rng_iff.1 hb; rw [rng_iff]; unfold wrap64 at hc; omega)
        clear ha hb sa sb hc
        go_enter Tryz.func54, Tryz.ntmps54
        go_wp2
        go_ret2
        exact ⟨exactP_in hx.out (wrap_rng hx.out), rfl⟩
      · have qc : decide (wrap64 (a - b) < 0) = false := by simp; omega
        have gc : decide (0 ≤ wrap64 (a - b)) = true := by simp; omega
        have hx := Lib.hid (show rng (a - b) = true by have ha2 := rng_iff.1 ha; have hb2 := rng_iff.1 hb; rw [rng_iff]; unfold wrap64 at hc; omega)
        clear ha hb sa sb hc
        go_enter Tryz.func54, Tryz.ntmps54
        go_wp2
        go_ret2
        exact ⟨exactP_in hx.out (wrap_rng hx.out), rfl⟩
  · have pa : decide (0 < a) = true := by simpa using sa
    have ma : decide (a < 0) = false := by simp; omega
    have ga : decide (0 ≤ a) = true := by simp; omega
    rcases (show b < 0 ∨ b = 0 ∨ 0 < b by omega) with sb | sb | sb
    · have pb : decide (0 < b) = false := by simp; omega
      have mb : decide (b < 0) = true := by simpa using sb
      have gb : decide (0 ≤ b) = false := by simp; omega
      by_cases hc : wrap64 (a - b) < 0
      · have qc : decide (wrap64 (a - b) < 0) = true := by simpa using hc
        have gc : decide (0 ≤ wrap64 (a - b)) = false := by simp; omega
        have hx := Lib.hid (show rng (a - b) = false by have ha2 := rng_iff.1 ha; have hb2 := rng_iff.1 hb; rw [rng_not]; unfold wrap64 at hc; omega)
        clear ha hb sa sb hc
        go_enter Tryz.func54, Tryz.ntmps54
        go_wp2
        go_ret2
        exact ⟨exactP_out hx.out, rfl⟩
      · have qc : decide (wrap64 (a - b) < 0) = false := by simp; omega
        have gc : decide (0 ≤ wrap64 (a - b)) = true := by simp; omega
        have hx := Lib.hid (show rng (a - b) = true by have ha2 := rng_iff.1 ha; have hb2 := rng_iff.1 hb; rw [rng_iff]; unfold wrap64 at hc; omega)
        clear ha hb sa sb hc
        go_enter Tryz.func54, Tryz.ntmps54
        go_wp2
        go_ret2
        exact ⟨exactP_in hx.out (wrap_rng hx.out), rfl⟩
    · have pb : decide (0 < b) = false := by simp; omega
      have mb : decide (b < 0) = false := by simp; omega
      have gb : decide (0 ≤ b) = true := by simp; omega
      by_cases hc : wrap64 (a - b) < 0
      · have qc : decide (wrap64 (a - b) < 0) = true := by simpa using hc
        have gc : decide (0 ≤ wrap64 (a - b)) = false := by simp; omega
        have hx := Lib.hid (show rng (a - b) = true by have ha2 := rng_iff.1 ha; have hb2 := rng_iff.1 hb; rw [rng_iff]; unfold wrap64 at hc; omega)
        clear ha hb sa sb hc
        go_enter Tryz.func54, Tryz.ntmps54
        go_wp2
        go_ret2
        exact ⟨exactP_in hx.out (wrap_rng hx.out), rfl⟩
      · have qc : decide (wrap64 (a - b) < 0) = false := by simp; omega
        have gc : decide (0 ≤ wrap64 (a - b)) = true := by simp; omega
        have hx := Lib.hid (show rng (a - b) = true by have ha2 := rng_iff.1 ha; have hb2 := rng_iff.1 hb; rw [rng_iff]; unfold wrap64 at hc; omega)
        clear ha hb sa sb hc
        go_enter Tryz.func54, Tryz.ntmps54
        go_wp2
        go_ret2
        exact ⟨exactP_in hx.out (wrap_rng hx.out), rfl⟩
    · have pb : decide (0 < b) = true := by simpa using sb
      have mb : decide (b < 0) = false := by simp; omega
      have gb : decide (0 ≤ b) = true := by simp; omega
      by_cases hc : wrap64 (a - b) < 0
      · have qc : decide (wrap64 (a - b) < 0) = true := by simpa using hc
        have gc : decide (0 ≤ wrap64 (a - b)) = false := by simp; omega
        have hx := Lib.hid (show rng (a - b) = true by have ha2 := rng_iff.1 ha; have hb2 := rng_iff.1 hb; rw [rng_iff]; unfold wrap64 at hc; omega)
        clear ha hb sa sb hc
        go_enter Tryz.func54, Tryz.ntmps54
        go_wp2
        go_ret2
        exact ⟨exactP_in hx.out (wrap_rng hx.out), rfl⟩
      · have qc : decide (wrap64 (a - b) < 0) = false := by simp; omega
        have gc : decide (0 ≤ wrap64 (a - b)) = true := by simp; omega
        have hx := Lib.hid (show rng (a - b) = true by have ha2 := rng_iff.1 ha; have hb2 := rng_iff.1 hb; rw [rng_iff]; unfold wrap64 at hc; omega)
        clear ha hb sa sb hc
        go_enter Tryz.func54, Tryz.ntmps54
        go_wp2
        go_ret2
        exact ⟨exactP_in hx.out (wrap_rng hx.out), rfl⟩
end Go.Proofs.YtcdjnkeomaidaaaGreat

/-
  espalierref8.divided: walks, for any two numbers of 64 bits. Conditions: that.
-/
namespace Go.Proofs.YtcdjnkeomaidaaaGreat
open Go.RowKit
set_option linter.unusedVariables false

def pairP (n e : Int) : Value := .tuple #[.int .i64 n, .int .i64 e]
def quoP (a b : Int) : Value := if b = 0 then pairP 0 22 else exactP (a.tdiv b)
def modP (a b : Int) : Value := if b = 0 then pairP 0 22 else pairP (modR a b) 0
def txQuo : ByteArray := ⟨#[110, 117, 109, 46, 113, 117, 111]⟩
def txMod : ByteArray := ⟨#[110, 117, 109, 46, 109, 111, 100]⟩
theorem ret_pair {x : Int} (h : wrap64 x = x) : Ending.returned (.tuple #[.int .i64 (wrap64 x), .int .i64 0]) = .returned (pairP x 0) := by rw [h]; rfl
set_option maxHeartbeats 4000000 in
theorem ref_quo (a b : Int) (ha : rng a = true) (hb : rng b = true) (w : World) : Calls Tryz.prog 56 #[.string txQuo, .int .i64 a, .int .i64 b] w fun e w' => e = .returned (quoP a b) ∧ w = w' := by
  unfold txQuo
  by_cases h0 : b = 0
  · subst h0
    go_enter Tryz.func56, Tryz.ntmps56
    go_wp2
    go_ret2
    exact ⟨rfl, rfl⟩
  · have h0b : (b == 0) = false := by simpa using h0
    have hq : quoP a b = exactP (a.tdiv b) := if_neg h0
    by_cases h12 : a = -9223372036854775808 ∧ b = -1
    · obtain ⟨h1, h2⟩ := h12
      subst h1 h2
      go_enter Tryz.func56, Tryz.ntmps56
      go_wp2
      go_ret2
      exact ⟨by rw [hq]; rfl, rfl⟩
    · have hr := tdiv_rng ha h0 h12
      have hx := Lib.hid (show quoP a b = pairP (a.tdiv b) 0 by rw [hq]; unfold exactP; rw [if_pos hr]; rfl)
      have hw := Lib.hid (wrap_rng hr)
      by_cases h1 : a = -9223372036854775808
      · have h2b : (b == -1) = false := by simp; exact fun e => h12 ⟨h1, e⟩
        have h1b : (a == -9223372036854775808) = true := by simpa using h1
        clear hq h12 h1 ha hb hr
        go_enter Tryz.func56, Tryz.ntmps56
        go_wp2
        go_ret2
        exact ⟨by rw [hx.out]; exact ret_pair hw.out, rfl⟩
      · have h1b : (a == -9223372036854775808) = false := by simpa using h1
        clear hq h12 h1 ha hb hr
        go_enter Tryz.func56, Tryz.ntmps56
        go_wp2
        go_ret2
        exact ⟨by rw [hx.out]; exact ret_pair hw.out, rfl⟩
set_option maxHeartbeats 4000000 in
theorem ref_mod (a b : Int) (ha : rng a = true) (hb : rng b = true) (w : World) : Calls Tryz.prog 56 #[.string txMod, .int .i64 a, .int .i64 b] w fun e w' => e = .returned (modP a b) ∧ w = w' := by
  unfold txMod
  by_cases h0 : b = 0
  · subst h0
    go_enter Tryz.func56, Tryz.ntmps56
    go_wp2
    go_ret2
    exact ⟨rfl, rfl⟩
  · by_cases h1 : b = -1
    · subst h1
      have hx := Lib.hid (show modP a (-1) = pairP 0 0 by unfold modP modR; rw [tmod_m1]; rfl)
      go_enter Tryz.func56, Tryz.ntmps56
      go_wp2
      go_ret2
      exact ⟨by rw [hx.out]; rfl, rfl⟩
    · have h0b : (b == 0) = false := by simpa using h0
      have h1b : (b == -1) = false := by simpa using h1
      have hv : modP a b = pairP (modR a b) 0 := if_neg h0
      rw [rng_iff] at hb
      obtain ⟨hb1, hb2⟩ := hb
      have hf2 := (tmod_facts (a := a) h0).2.1
      by_cases hz : a.tmod b = 0
      · have hzb : (a.tmod b != 0) = false := by simpa using hz
        have hx := Lib.hid (hv.trans (show pairP (modR a b) 0 = pairP (a.tmod b) 0 by unfold modR; rw [if_neg (by simp [hz])]))
        clear hv hf2 hz
        go_enter Tryz.func56, Tryz.ntmps56
        go_wp2
        go_ret2
        exact ⟨by rw [hx.out]; rfl, rfl⟩
      · have hzb : (a.tmod b != 0) = true := by simpa using hz
        by_cases h2 : a.tmod b < 0 <;> by_cases h3 : b < 0
        · have hx := Lib.hid (hv.trans (show pairP (modR a b) 0 = pairP (a.tmod b) 0 by unfold modR; rw [if_neg (by simp [h2, h3])]))
          have d2 : decide (a.tmod b < 0) = true := by simpa using h2
          have d3 : decide (b < 0) = true := by simpa using h3
          clear hv hf2 hz
          go_enter Tryz.func56, Tryz.ntmps56
          go_wp2
          go_ret2
          exact ⟨by rw [hx.out]; rfl, rfl⟩
        · have hx := Lib.hid (hv.trans (show pairP (modR a b) 0 = pairP (a.tmod b + b) 0 by unfold modR; rw [if_pos ⟨hz, by simp [h2, h3]⟩]))
          have d2 : decide (a.tmod b < 0) = true := by simpa using h2
          have d3 : decide (b < 0) = false := by simpa using h3
          have e1 : wrap64 (a.tmod b + b) = a.tmod b + b := by unfold wrap64; omega
          clear hv hf2 hz
          go_enter Tryz.func56, Tryz.ntmps56
          go_wp2
          go_ret2
          exact ⟨by rw [hx.out]; rfl, rfl⟩
        · have hx := Lib.hid (hv.trans (show pairP (modR a b) 0 = pairP (a.tmod b + b) 0 by unfold modR; rw [if_pos ⟨hz, by simp [h2, h3]⟩]))
          have d2 : decide (a.tmod b < 0) = false := by simpa using h2
          have d3 : decide (b < 0) = true := by simpa using h3
          have e1 : wrap64 (a.tmod b + b) = a.tmod b + b := by unfold wrap64; omega
          clear hv hf2 hz
          go_enter Tryz.func56, Tryz.ntmps56
          go_wp2
          go_ret2
          exact ⟨by rw [hx.out]; rfl, rfl⟩
        · have hx := Lib.hid (hv.trans (show pairP (modR a b) 0 = pairP (a.tmod b) 0 by unfold modR; rw [if_neg (by simp [h2, h3])]))
          have d2 : decide (a.tmod b < 0) = false := by simpa using h2
          have d3 : decide (b < 0) = false := by simpa using h3
          clear hv hf2 hz
          go_enter Tryz.func56, Tryz.ntmps56
          go_wp2
          go_ret2
          exact ⟨by rw [hx.out]; rfl, rfl⟩
end Go.Proofs.YtcdjnkeomaidaaaGreat

/-
  espalierref8.mul: a walk, for any two numbers of 64 bits. Conditions: that.
-/
namespace Go.Proofs.YtcdjnkeomaidaaaGreat
open Go.RowKit
set_option linter.unusedVariables false

/-- The test by division. -/
theorem mul_div_test {a b : Int} (ha : rng a = true) (hb : rng b = true) (h0 : b ≠ 0) : ((wrap64 (a * b)).tdiv b ≠ a) ↔ rng (a * b) = false := by
  have ha2 := rng_iff.1 ha
  have hb2 := rng_iff.1 hb
  have hf := tmod_facts (a := wrap64 (a * b)) h0
  constructor
  · intro h
    cases hr : rng (a * b)
    · rfl
    · exact absurd (by rw [wrap_rng hr]; exact Int.mul_tdiv_cancel a h0) h
  · intro hr h
    rw [h] at hf
    have e : b * a = a * b := Int.mul_comm b a
    rw [e] at hf
    have hr2 := rng_not.1 hr
    obtain ⟨h1, h2, _, _⟩ := hf
    generalize (wrap64 (a * b)).tmod b = r at *
    have h3 : wrap64 (a * b) = a * b + r := h1
    generalize a * b = x at *
    have hbn : b.natAbs ≤ 9223372036854775808 := by omega
    unfold wrap64 at h3
    omega
theorem wrap_in (x : Int) : rng (wrap64 x) = true := by rw [rng_iff]; unfold wrap64; omega
set_option maxHeartbeats 4000000 in
theorem ref_mul (a b : Int) (ha : rng a = true) (hb : rng b = true) (w : World) : Calls Tryz.prog 55 #[.int .i64 a, .int .i64 b] w fun e w' => e = .returned (exactP (a * b)) ∧ w = w' := by
  by_cases a0 : a = 0
  · subst a0
    have hx := Lib.hid (show exactP (0 * b) = pairP 0 0 by rw [Int.zero_mul]; rfl)
    go_enter Tryz.func55, Tryz.ntmps55
    go_wp2
    go_ret2
    exact ⟨by rw [hx.out]; rfl, rfl⟩
  have a0b : (a == 0) = false := by simpa using a0
  by_cases b0 : b = 0
  · subst b0
    have hx := Lib.hid (show exactP (a * 0) = pairP 0 0 by rw [Int.mul_zero]; rfl)
    clear a0
    go_enter Tryz.func55, Tryz.ntmps55
    go_wp2
    go_ret2
    exact ⟨by rw [hx.out]; rfl, rfl⟩
  have b0b : (b == 0) = false := by simpa using b0
  have ht := mul_div_test ha hb b0
  have hin : rng (a * b) = true → exactP (a * b) = pairP (wrap64 (a * b)) 0 := fun h => by unfold exactP; rw [if_pos h, wrap_rng h]; rfl
  have hout : rng (a * b) = false → exactP (a * b) = pairP 0 21 := fun h => by unfold exactP; rw [if_neg (by rw [h]; decide)]; rfl
  have HI := Lib.hid hin
  have HO := Lib.hid hout
  have HT := Lib.hid ht
  have HA := Lib.hid (rng_iff.1 ha)
  have HBb := Lib.hid (rng_iff.1 hb)
  clear hin hout ht
  have CL : True := trivial
  by_cases a1 : a = -1
  · have a1b : (a == -1) = true := by simpa using a1
    have a2b : (a == -9223372036854775808) = false := by simp; omega
    by_cases b1 : b = -9223372036854775808
    · have b1b : (b == -9223372036854775808) = true := by simpa using b1
      have hx := Lib.hid (HO.out (by rw [a1, b1]; decide))
      clear a0 b0 ha hb CL a1 b1
      go_enter Tryz.func55, Tryz.ntmps55
      go_wp2
      go_ret2
      exact ⟨by rw [hx.out]; rfl, rfl⟩
    · have b1b : (b == -9223372036854775808) = false := by simpa using b1
      by_cases b2 : b = -1
      · have b2b : (b == -1) = true := by simpa using b2
        have hr := (show rng (a * b) = true by rw [a1, b2]; decide)
        have hx := Lib.hid (HI.out hr)
        have hq : (wrap64 (a * b)).tdiv b = a := Classical.byContradiction fun h => by
          have := HT.out.1 h
          rw [hr] at this; cases this
        have hne : ((wrap64 (a * b)).tdiv b != a) = false := by simpa using hq
        have hw : wrap64 ((wrap64 (a * b)).tdiv b) = (wrap64 (a * b)).tdiv b := wrap_rng (by rw [hq]; exact ha)
        clear hq hr a0 ha hb CL a1 b1 b2
        go_enter Tryz.func55, Tryz.ntmps55
        go_wp2
        go_ret2
        exact ⟨by rw [hx.out]; rfl, rfl⟩
      · have b2b : (b == -1) = false := by simpa using b2
        have hr := (show rng (a * b) = true by have h := HBb.out; rw [a1, rng_iff]; omega)
        have hx := Lib.hid (HI.out hr)
        have hq : (wrap64 (a * b)).tdiv b = a := Classical.byContradiction fun h => by
          have := HT.out.1 h
          rw [hr] at this; cases this
        have hne : ((wrap64 (a * b)).tdiv b != a) = false := by simpa using hq
        have hw : wrap64 ((wrap64 (a * b)).tdiv b) = (wrap64 (a * b)).tdiv b := wrap_rng (by rw [hq]; exact ha)
        clear hq hr a0 ha hb CL a1 b1 b2
        go_enter Tryz.func55, Tryz.ntmps55
        go_wp2
        go_ret2
        exact ⟨by rw [hx.out]; rfl, rfl⟩
  · have a1b : (a == -1) = false := by simpa using a1
    by_cases b2 : b = -1
    · have b2b : (b == -1) = true := by simpa using b2
      by_cases a2 : a = -9223372036854775808
      · have a2b : (a == -9223372036854775808) = true := by simpa using a2
        have hx := Lib.hid (HO.out (by rw [a2, b2]; decide))
        clear a0 b0 ha hb CL a1 a2 b2
        go_enter Tryz.func55, Tryz.ntmps55
        go_wp2
        go_ret2
        exact ⟨by rw [hx.out]; rfl, rfl⟩
      · have a2b : (a == -9223372036854775808) = false := by simpa using a2
        have hr := (show rng (a * b) = true by have h := HA.out; rw [b2, rng_iff]; omega)
        have hx := Lib.hid (HI.out hr)
        have hq : (wrap64 (a * b)).tdiv b = a := Classical.byContradiction fun h => by
          have := HT.out.1 h
          rw [hr] at this; cases this
        have hne : ((wrap64 (a * b)).tdiv b != a) = false := by simpa using hq
        have hw : wrap64 ((wrap64 (a * b)).tdiv b) = (wrap64 (a * b)).tdiv b := wrap_rng (by rw [hq]; exact ha)
        clear hq hr a0 ha hb CL a1 a2 b2
        go_enter Tryz.func55, Tryz.ntmps55
        go_wp2
        go_ret2
        exact ⟨by rw [hx.out]; rfl, rfl⟩
    · have b2b : (b == -1) = false := by simpa using b2
      cases hr0 : rng (a * b)
      · have hx := Lib.hid (HO.out hr0)
        have hq := HT.out.2 hr0
        have hne : ((wrap64 (a * b)).tdiv b != a) = true := by simpa using hq
        have hw : wrap64 ((wrap64 (a * b)).tdiv b) = (wrap64 (a * b)).tdiv b := wrap_rng (tdiv_rng (wrap_in _) b0 (fun h => b2 h.2))
        clear hq hr0 a0 ha hb CL a1 b2
        go_enter Tryz.func55, Tryz.ntmps55
        go_wp2
        go_ret2
        exact ⟨by rw [hx.out]; rfl, rfl⟩
      · have hr1 := hr0
        have hr := hr1
        have hx := Lib.hid (HI.out hr)
        have hq : (wrap64 (a * b)).tdiv b = a := Classical.byContradiction fun h => by
          have := HT.out.1 h
          rw [hr] at this; cases this
        have hne : ((wrap64 (a * b)).tdiv b != a) = false := by simpa using hq
        have hw : wrap64 ((wrap64 (a * b)).tdiv b) = (wrap64 (a * b)).tdiv b := wrap_rng (by rw [hq]; exact ha)
        clear hq hr a0 ha hb CL a1 b2 hr0 hr1
        go_enter Tryz.func55, Tryz.ntmps55
        go_wp2
        go_ret2
        exact ⟨by rw [hx.out]; rfl, rfl⟩
end Go.Proofs.YtcdjnkeomaidaaaGreat

/-
  espalierref8.pow: a walk, for any two numbers of 64 bits. Conditions: that.
-/
namespace Go.Proofs.YtcdjnkeomaidaaaGreat
open Go.RowKit
set_option linter.unusedVariables false

def powP (a b : Int) : Value := if b < 0 then pairP 0 23 else exactP (a ^ b.toNat)
theorem neg1_pow (n : Nat) : (-1 : Int) ^ n = 1 - 2 * ((n % 2 : Nat) : Int) := by
  induction n with
  | zero => rfl
  | succ n ih => rw [Int.pow_succ, ih]; omega
theorem out_mul2 {m c : Int} (ho : rng m = false) (hc : 2 ≤ c.natAbs) : rng (m * c) = false := by
  rw [rng_not] at ho ⊢
  have h1 : 9223372036854775808 ≤ m.natAbs := by omega
  have h2 : 9223372036854775808 * 2 ≤ m.natAbs * c.natAbs := Nat.mul_le_mul h1 hc
  have h3 : (m * c).natAbs = m.natAbs * c.natAbs := Int.natAbs_mul m c
  omega
theorem out_pow {a : Int} {k n : Nat} (ha : 2 ≤ a.natAbs) (hk : k ≤ n) (ho : rng (a ^ k) = false) : rng (a ^ n) = false := by
  obtain ⟨j, rfl⟩ : ∃ j, n = k + j := ⟨n - k, by omega⟩
  cases j with
  | zero => exact ho
  | succ j =>
    rw [Int.pow_add]
    refine out_mul2 ho ?_
    rw [natAbs_pow', Nat.pow_succ]
    have : 1 ≤ a.natAbs ^ j := Nat.one_le_pow _ _ (by omega)
    have := Nat.mul_le_mul this ha
    omega
theorem mul_three {a b : Int} {w : World} (h : Calls Tryz.prog 55 #[.int .i64 a, .int .i64 b] w fun e w' => e = .returned (exactP (a * b)) ∧ w = w') :
    (rng (a * b) = true → Calls Tryz.prog 55 #[.int .i64 a, .int .i64 b] w fun e w' => e = .returned (pairP (a * b) 0) ∧ w = w') ∧ (rng (a * b) = false → Calls Tryz.prog 55 #[.int .i64 a, .int .i64 b] w fun e w' => e = .returned (pairP 0 21) ∧ w = w') := by
  refine ⟨fun hr => h.mono fun _ _ ⟨h1, h2⟩ => ⟨?_, h2⟩, fun hr => h.mono fun _ _ ⟨h1, h2⟩ => ⟨?_, h2⟩⟩
  · rw [h1]; unfold exactP; rw [if_pos hr]; rfl
  · rw [h1]; unfold exactP; rw [if_neg (by rw [hr]; decide)]; rfl
set_option maxHeartbeats 4000000 in
theorem ref_pow (a b : Int) (ha : rng a = true) (hb : rng b = true) (w : World) : Calls Tryz.prog 57 #[.int .i64 a, .int .i64 b] w fun e w' => e = .returned (powP a b) ∧ w = w' := by
  by_cases hneg : b < 0
  · have hx := Lib.hid (show powP a b = pairP 0 23 from if_pos hneg)
    go_enter Tryz.func57, Tryz.ntmps57
    go_wp2
    go_ret2
    exact ⟨by rw [hx.out]; rfl, rfl⟩
  have hnb : decide (b < 0) = false := by simpa using hneg
  have hv : powP a b = exactP (a ^ b.toNat) := if_neg hneg
  by_cases a0 : a = 0
  · subst a0
    by_cases b0 : b = 0
    · subst b0
      go_enter Tryz.func57, Tryz.ntmps57
      go_wp2
      go_ret2
      exact ⟨rfl, rfl⟩
    · have hx := Lib.hid (show powP 0 b = pairP 0 0 by
        rw [hv]
        obtain ⟨n, hn⟩ : ∃ n, b.toNat = n + 1 := ⟨b.toNat - 1, by omega⟩
        rw [hn, Int.pow_succ, Int.mul_zero]; rfl)
      have b0b : (b == 0) = false := by simpa using b0
      clear hv
      go_enter Tryz.func57, Tryz.ntmps57
      go_wp2
      go_ret2
      exact ⟨by rw [hx.out]; rfl, rfl⟩
  have a0b : (a == 0) = false := by simpa using a0
  by_cases a1 : a = 1
  · subst a1
    have hx := Lib.hid (show powP 1 b = pairP 1 0 by rw [hv, Int.one_pow]; rfl)
    clear hv
    by_cases b0 : b = 0
    · subst b0
      go_enter Tryz.func57, Tryz.ntmps57
      go_wp2
      go_ret2
      exact ⟨by rw [hx.out]; rfl, rfl⟩
    · have b0b : (b == 0) = false := by simpa using b0
      go_enter Tryz.func57, Tryz.ntmps57
      go_wp2
      go_ret2
      exact ⟨by rw [hx.out]; rfl, rfl⟩
  have a1b : (a == 1) = false := by simpa using a1
  have hb2 := rng_iff.1 hb
  by_cases am : a = -1
  · subst am
    have hm : b % 2 = ((b.toNat % 2 : Nat) : Int) := by omega
    have hx := Lib.hid (show powP (-1) b = pairP (1 - 2 * (b % 2)) 0 by
      rw [hv, neg1_pow, hm]
      unfold exactP
      rw [if_pos (by rw [rng_iff]; omega)]; rfl)
    have hr1 : 0 ≤ b % 2 := by omega
    have hr2 : b % 2 ≤ 1 := by omega
    clear hv hm
    go_enter Tryz.func57, Tryz.ntmps57
    go_wp2
    go_ret2
    exact ⟨by rw [hx.out]; rfl, rfl⟩
  have amb : (a == -1) = false := by simpa using am
  have hab : Hid (2 ≤ a.natAbs) := Lib.hid (by omega)
  have HV := Lib.hid hv
  have KM := Lib.hid (fun (n : Int) (hn : rng n = true) (w' : World) => mul_three (ref_mul n a hn ha w'))
  clear hv a0 a1 am
  obtain ⟨N, hN⟩ : ∃ N : Nat, b = (N : Int) := ⟨b.toNat, by omega⟩
  subst hN
  have HN := Lib.hid (show ((N : Int)).toNat = N from Int.toNat_natCast N)
  go_enter Tryz.func57, Tryz.ntmps57
  go_wp2
  go_loopw [6, 7] (fun s6 s7 wr => ∃ (k : Nat) (n : Int), k ≤ N ∧ s7 = .int .i64 (k : Int) ∧ s6 = .int .i64 n ∧ n = a ^ k ∧ rng n = true ∧ wr = w) (fun _ s7 _ => N - (intOf s7).toNat)
  case atStart => exact ⟨0, 1, Nat.zero_le _, rfl, rfl, (Int.pow_zero a).symm, by decide, rfl⟩
  case round =>
    obtain ⟨k, n, hk, rfl, rfl, hn, hr, rfl⟩ := hrel
    have HE := Lib.hid hn
    clear hn
    by_cases hlt : k < N
    · have K := KM.out n hr wr
      have he : n * a = a ^ (k + 1) := by rw [HE.out, Int.pow_succ]
      have HE2 := Lib.hid he
      clear he
      cases hq : rng (n * a)
      · have K2 := Lib.hid (K.2 hq)
        have hx := Lib.hid (show powP a (N : Int) = pairP 0 21 by
          rw [HV.out, HN.out]
          unfold exactP
          rw [if_neg (by rw [out_pow hab.out (by omega : k + 1 ≤ N) (by rw [← HE2.out]; exact hq)]; decide)]; rfl)
        clear K hq
        unfold pairP at K2
        go_wp2_with fail
        refine K2.out.mono ?_
        rintro e w' ⟨rfl, rfl⟩
        go_wp2
        go_ret2
        exact ⟨by rw [hx.out]; rfl, rfl⟩
      · have K2 := Lib.hid (K.1 hq)
        have HQ := Lib.hid hq
        clear K hq
        generalize n * a = n2 at *
        unfold pairP at K2
        go_wp2_with fail
        refine K2.out.mono ?_
        rintro e w' ⟨rfl, rfl⟩
        go_wp2
        go_roundw
        case rel => exact ⟨k + 1, n2, by omega, by go_num, rfl, HE2.out, HQ.out, trivial⟩
        case measure => simp [intOf]; omega
    · have hx := Lib.hid (show powP a (N : Int) = pairP n 0 by
        obtain rfl : k = N := by omega
        rw [HV.out, HN.out, ← HE.out]
        unfold exactP
        rw [if_pos hr]; rfl)
      go_wp2
      go_ret2
      exact ⟨by rw [hx.out]; rfl, rfl⟩
end Go.Proofs.YtcdjnkeomaidaaaGreat

/-
  espalierref8.work: walks, each operation that gives numbers. Written by a program of mine (gen_refwk.py). Conditions: numbers of 64 bits.
-/
namespace Go.Proofs.YtcdjnkeomaidaaaGreat
open Go.RowKit
set_option linter.unusedVariables false

theorem pair_parts {P : Program} {f : FuncId} {args : Array Value} {w : World} {v : Value} (h : Calls P f args w fun e w' => e = .returned v ∧ w = w') (hv : ∃ n k, v = .tuple #[.int .i64 n, .int .i64 k]) :
    Calls P f args w fun e w' => ∃ n k, e = .returned (.tuple #[.int .i64 n, .int .i64 k]) ∧ Hid (.tuple #[.int .i64 n, .int .i64 k] = v) ∧ w = w' := by
  obtain ⟨n, k, rfl⟩ := hv
  exact h.mono fun _ _ ⟨he, hw⟩ => ⟨n, k, he, rfl, hw⟩
theorem exactP_two (x : Int) : ∃ n k, exactP x = .tuple #[.int .i64 n, .int .i64 k] := by unfold exactP; split <;> exact ⟨_, _, rfl⟩
theorem pairP_two (n k : Int) : ∃ n' k', pairP n k = .tuple #[.int .i64 n', .int .i64 k'] := ⟨n, k, rfl⟩
theorem quoP_two (a b : Int) : ∃ n k, quoP a b = .tuple #[.int .i64 n, .int .i64 k] := by unfold quoP; split; exact ⟨_, _, rfl⟩; exact exactP_two _
theorem modP_two (a b : Int) : ∃ n k, modP a b = .tuple #[.int .i64 n, .int .i64 k] := by unfold modP; split <;> exact ⟨_, _, rfl⟩
theorem powP_two (a b : Int) : ∃ n k, powP a b = .tuple #[.int .i64 n, .int .i64 k] := by unfold powP; split; exact ⟨_, _, rfl⟩; exact exactP_two _
theorem ret_hid {v v' : Value} (h : Hid (v = v')) : Ending.returned v = .returned v' := by rw [h.out]
theorem wk_add (a b : Int) (ha : rng a = true) (hb : rng b = true) (w : World) : Calls Tryz.prog 22 #[.string ⟨#[110, 117, 109, 46, 97, 100, 100]⟩, .int .i64 a, .int .i64 b] w fun e w' => e = .returned (exactP (a + b)) ∧ w = w' := by
  have K := Lib.hid (pair_parts (ref_add a b ha hb w) (exactP_two _))
  clear ha hb
  go_enter Tryz.func22, Tryz.ntmps22
  go_wp2_with fail
  refine K.out.mono ?_
  rintro e w' ⟨n, k, rfl, hv, rfl⟩
  go_wp2
  go_ret2
  exact ⟨ret_hid hv, rfl⟩
theorem wk_sub (a b : Int) (ha : rng a = true) (hb : rng b = true) (w : World) : Calls Tryz.prog 22 #[.string ⟨#[110, 117, 109, 46, 115, 117, 98]⟩, .int .i64 a, .int .i64 b] w fun e w' => e = .returned (exactP (a - b)) ∧ w = w' := by
  have K := Lib.hid (pair_parts (ref_sub a b ha hb w) (exactP_two _))
  clear ha hb
  go_enter Tryz.func22, Tryz.ntmps22
  go_wp2_with fail
  refine K.out.mono ?_
  rintro e w' ⟨n, k, rfl, hv, rfl⟩
  go_wp2
  go_ret2
  exact ⟨ret_hid hv, rfl⟩
theorem wk_mul (a b : Int) (ha : rng a = true) (hb : rng b = true) (w : World) : Calls Tryz.prog 22 #[.string ⟨#[110, 117, 109, 46, 109, 117, 108]⟩, .int .i64 a, .int .i64 b] w fun e w' => e = .returned (exactP (a * b)) ∧ w = w' := by
  have K := Lib.hid (pair_parts (ref_mul a b ha hb w) (exactP_two _))
  clear ha hb
  go_enter Tryz.func22, Tryz.ntmps22
  go_wp2_with fail
  refine K.out.mono ?_
  rintro e w' ⟨n, k, rfl, hv, rfl⟩
  go_wp2
  go_ret2
  exact ⟨ret_hid hv, rfl⟩
theorem wk_quo (a b : Int) (ha : rng a = true) (hb : rng b = true) (w : World) : Calls Tryz.prog 22 #[.string ⟨#[110, 117, 109, 46, 113, 117, 111]⟩, .int .i64 a, .int .i64 b] w fun e w' => e = .returned (quoP a b) ∧ w = w' := by
  have K := Lib.hid (pair_parts (ref_quo a b ha hb w) (quoP_two _ _))
  unfold txQuo at K
  clear ha hb
  go_enter Tryz.func22, Tryz.ntmps22
  go_wp2_with fail
  refine K.out.mono ?_
  rintro e w' ⟨n, k, rfl, hv, rfl⟩
  go_wp2
  go_ret2
  exact ⟨ret_hid hv, rfl⟩
theorem wk_mod (a b : Int) (ha : rng a = true) (hb : rng b = true) (w : World) : Calls Tryz.prog 22 #[.string ⟨#[110, 117, 109, 46, 109, 111, 100]⟩, .int .i64 a, .int .i64 b] w fun e w' => e = .returned (modP a b) ∧ w = w' := by
  have K := Lib.hid (pair_parts (ref_mod a b ha hb w) (modP_two _ _))
  unfold txMod at K
  clear ha hb
  go_enter Tryz.func22, Tryz.ntmps22
  go_wp2_with fail
  refine K.out.mono ?_
  rintro e w' ⟨n, k, rfl, hv, rfl⟩
  go_wp2
  go_ret2
  exact ⟨ret_hid hv, rfl⟩
theorem wk_pow (a b : Int) (ha : rng a = true) (hb : rng b = true) (w : World) : Calls Tryz.prog 22 #[.string ⟨#[110, 117, 109, 46, 112, 111, 119]⟩, .int .i64 a, .int .i64 b] w fun e w' => e = .returned (powP a b) ∧ w = w' := by
  have K := Lib.hid (pair_parts (ref_pow a b ha hb w) (powP_two _ _))
  clear ha hb
  go_enter Tryz.func22, Tryz.ntmps22
  go_wp2_with fail
  refine K.out.mono ?_
  rintro e w' ⟨n, k, rfl, hv, rfl⟩
  go_wp2
  go_ret2
  exact ⟨ret_hid hv, rfl⟩
theorem wk_neg (a b : Int) (ha : rng a = true) (hb : rng b = true) (w : World) : Calls Tryz.prog 22 #[.string ⟨#[110, 117, 109, 46, 110, 101, 103]⟩, .int .i64 a, .int .i64 b] w fun e w' => e = .returned (exactP (0 - a)) ∧ w = w' := by
  have K := Lib.hid (pair_parts (ref_sub 0 a (by decide) ha w) (exactP_two _))
  clear ha hb
  go_enter Tryz.func22, Tryz.ntmps22
  go_wp2_with fail
  refine K.out.mono ?_
  rintro e w' ⟨n, k, rfl, hv, rfl⟩
  go_wp2
  go_ret2
  exact ⟨ret_hid hv, rfl⟩
theorem wk_abs (a b : Int) (ha : rng a = true) (hb : rng b = true) (w : World) : Calls Tryz.prog 22 #[.string ⟨#[110, 117, 109, 46, 97, 98, 115]⟩, .int .i64 a, .int .i64 b] w fun e w' => e = .returned (exactP (a.natAbs : Int)) ∧ w = w' := by
  by_cases h : a < 0
  · have K := Lib.hid (pair_parts (ref_sub 0 a (by decide) ha w) (exactP_two _))
    have he : (0 - a : Int) = (a.natAbs : Int) := by omega
    rw [he] at K
    clear ha hb he
    go_enter Tryz.func22, Tryz.ntmps22
    go_wp2_with fail
    refine K.out.mono ?_
    rintro e w' ⟨n, k, rfl, hv, rfl⟩
    go_wp2
    go_ret2
    exact ⟨ret_hid hv, rfl⟩
  · have hd : decide (a < 0) = false := by simpa using h
    have hx := Lib.hid (show exactP (a.natAbs : Int) = pairP a 0 by
      rw [show ((a.natAbs : Nat) : Int) = a by omega]
      unfold exactP
      rw [if_pos ha]; rfl)
    clear ha hb h
    go_enter Tryz.func22, Tryz.ntmps22
    go_wp2
    go_ret2
    exact ⟨by rw [hx.out]; rfl, rfl⟩
theorem wk_min (a b : Int) (ha : rng a = true) (hb : rng b = true) (w : World) : Calls Tryz.prog 22 #[.string ⟨#[110, 117, 109, 46, 109, 105, 110]⟩, .int .i64 a, .int .i64 b] w fun e w' => e = .returned (pairP (min a b) 0) ∧ w = w' := by
  clear ha hb
  rcases (show a < b ∨ a = b ∨ b < a by omega) with h | h | h
  · have d1 : decide (a < b) = true := by simpa using h
    have d2 : decide (b < a) = false := by simp; omega
    have hx := Lib.hid (show min a b = a by omega)
    go_enter Tryz.func22, Tryz.ntmps22
    go_wp2
    all_goals (go_ret2; exact ⟨by rw [hx.out]; rfl, rfl⟩)
  · subst h
    have hx := Lib.hid (show min a a = a by omega)
    go_enter Tryz.func22, Tryz.ntmps22
    go_wp2
    all_goals (go_ret2; exact ⟨by rw [hx.out]; rfl, rfl⟩)
  · have d1 : decide (b < a) = true := by simpa using h
    have d2 : decide (a < b) = false := by simp; omega
    have hx := Lib.hid (show min a b = b by omega)
    go_enter Tryz.func22, Tryz.ntmps22
    go_wp2
    all_goals (go_ret2; exact ⟨by rw [hx.out]; rfl, rfl⟩)
theorem wk_max (a b : Int) (ha : rng a = true) (hb : rng b = true) (w : World) : Calls Tryz.prog 22 #[.string ⟨#[110, 117, 109, 46, 109, 97, 120]⟩, .int .i64 a, .int .i64 b] w fun e w' => e = .returned (pairP (max a b) 0) ∧ w = w' := by
  clear ha hb
  rcases (show a < b ∨ a = b ∨ b < a by omega) with h | h | h
  · have d1 : decide (a < b) = true := by simpa using h
    have d2 : decide (b < a) = false := by simp; omega
    have hx := Lib.hid (show max a b = b by omega)
    go_enter Tryz.func22, Tryz.ntmps22
    go_wp2
    all_goals (go_ret2; exact ⟨by rw [hx.out]; rfl, rfl⟩)
  · subst h
    have hx := Lib.hid (show max a a = a by omega)
    go_enter Tryz.func22, Tryz.ntmps22
    go_wp2
    all_goals (go_ret2; exact ⟨by rw [hx.out]; rfl, rfl⟩)
  · have d1 : decide (b < a) = true := by simpa using h
    have d2 : decide (a < b) = false := by simp; omega
    have hx := Lib.hid (show max a b = a by omega)
    go_enter Tryz.func22, Tryz.ntmps22
    go_wp2
    all_goals (go_ret2; exact ⟨by rw [hx.out]; rfl, rfl⟩)
end Go.Proofs.YtcdjnkeomaidaaaGreat

/-
  espalierlaw2.Eq of a plain value with itself, marks, Kept: walks. Conditions: both lie in memory.
-/
namespace Go.Proofs.YtcdjnkeomaidaaaGreat
open Go.RowKit
set_option linter.unusedVariables false

set_option maxRecDepth 100000 in
set_option maxHeartbeats 4000000 in
theorem eq_step (k n : Int) (t : ByteArray) (l : List Pl)
    (ih : ∀ (j : Nat) (h : j < l.length) (A A' : Option Addr) (c c' : Nat) (w : World), l[j].sane → Pls.lies w w.heap.size l[j].list A → Pls.lies w w.heap.size l[j].list A' → Calls Tryz.prog 59 #[l[j].arg A c, l[j].arg A' c'] w (Bel (.bool true) w))
    (A A' : Option Addr) (c c' : Nat) (w : World) (hs : (Pl.mk k n t l).sane) (hl : Pls.lies w w.heap.size l A) (hl' : Pls.lies w w.heap.size l A') :
    Calls Tryz.prog 59 #[.agg #[.int .i64 k, .int .i64 n, .string t, .slice A l.length c], .agg #[.int .i64 k, .int .i64 n, .string t, .slice A' l.length c']] w (Bel (.bool true) w) := by
  have IH := Lib.hid ih
  have HL := Lib.hid hl
  have HL' := Lib.hid hl'
  have hlen : l.length * 56 ≤ 140737488351232 := hs.2.2.2
  clear ih hl hl' hs
  go_enter Tryz.func59, Tryz.ntmps59
  go_wp2
  generalize hX : Obj.cells #[.int .i64 k, .int .i64 n, .string t, .slice A l.length c] 34 = X at *
  generalize hX' : Obj.cells #[.int .i64 k, .int .i64 n, .string t, .slice A' l.length c'] 34 = X' at *
  have HX := Lib.hid hX
  have HX' := Lib.hid hX'
  have HB0 := Lib.hid (((Below.refl w.heap.size w).alloc (Nat.le_refl _) X).alloc (by simp) X')
  have D1 := Lib.hid (heap_alloc2 w X X').1
  have D2 := Lib.hid (heap_alloc2 w X X').2
  clear hX hX'
  go_loopw [5] (fun s5 wr => ∃ (j : Nat), j ≤ l.length ∧ s5 = .int .i64 (j : Int) ∧ wr.heap[w.heap.size]? = some X ∧ wr.heap[w.heap.size + 1]? = some X' ∧ Below w.heap.size w wr) (fun s5 _ => l.length - (intOf s5).toNat)
  case atStart => exact ⟨0, Nat.zero_le _, rfl, D1.out, D2.out, HB0.out⟩
  case round =>
    obtain ⟨j, hj, rfl, hb1, hb2, hbel⟩ := hrel
    have B1 := Lib.hid hb1
    have B2 := Lib.hid hb2
    have HB := Lib.hid hbel
    have hsz : w.heap.size + 1 < wr.heap.size := lt_of_block hb2
    clear hb1 hb2 hbel
    have c3 : wr.cell? ⟨w.heap.size, 3, none⟩ = some (.slice A l.length c) := cell_of_row _ _ 3 _ _ _ (by rw [B1.out, ← HX.out])
    by_cases hlt : j < l.length
    · obtain ⟨b1, o1, rfl⟩ := HL.out.head (by omega)
      obtain ⟨b2, o2, rfl⟩ := HL'.out.head (by omega)
      have hl1 := (HL.out.below HB.out (by omega : w.heap.size ≤ wr.heap.size)).at_ j hlt
      have hl2 := (HL'.out.below HB.out (by omega : w.heap.size ≤ wr.heap.size)).at_ j hlt
      have hsn := Lib.hid hl1.sane
      obtain ⟨_, d0, d1, d2, _, A1, c1, d3, hll1⟩ := hl1.parts
      obtain ⟨_, e0, e1, e2, _, A2, c2, e3, hll2⟩ := hl2.parts
      have KE := Lib.hid (fun x : Ext wr => IH.out j hlt A1 A2 c1 c2 x.now hsn.out (hll1.below x.ok x.ok.size) (hll2.below x.ok x.ok.size))
      unfold Pl.arg at KE
      have D0 := Ext.cell (w := wr) d0
      have D1 := Ext.cell (w := wr) d1
      have D2 := Ext.cell (w := wr) d2
      have D3 := Ext.cell (w := wr) d3
      have E0 := Ext.cell (w := wr) e0
      have E1 := Ext.cell (w := wr) e1
      have E2 := Ext.cell (w := wr) e2
      have E3 := Ext.cell (w := wr) e3
      have F1 := Ext.cell (w := wr) (p := ⟨w.heap.size, 3, none⟩) c3
      have F2 := Ext.cell (w := wr) (p := ⟨w.heap.size + 1, 3, none⟩) (v := .slice (some ⟨b2, o2, none⟩) l.length c') (cell_of_row _ _ 3 _ _ _ (by show wr.heap[w.heap.size + 1]? = _; rw [B2.out, ← HX'.out]))
      clear d0 d1 d2 d3 e0 e1 e2 e3 hl1 hl2 hll1 hll2
      go_wp2
      refine wp_region_ext (by kernel_rfl) (by kernel_rfl) ?_
      go_big_quiet_step (fail)
      go_big_quiet_step (fail)
      go_big_quiet_step (fail)
      go_big_quiet_step (fail)
      go_big_quiet_step (fail)
      go_big_quiet_step (fail)
      go_big_quiet_step (fail)
      go_big_quiet_step (fail)
      go_big_quiet_step (fail)
      go_big_quiet_step (fail)
      go_big_quiet_step ((go_at_call 59; exact Calls.ext_of (KE.out _)))
      go_big_quiet_step (fail)
      refine wpQuiet_nil ?_
      rintro _ ⟨z, rfl⟩
      have hz := z.ok
      have hb1 := Lib.hid ((hz.block w.heap.size (by omega)).trans B1.out)
      have hb2 := Lib.hid ((hz.block (w.heap.size + 1) (by omega)).trans B2.out)
      have HB2 := Lib.hid (HB.out.trans (hz.mono HB.out.size))
      clear hz D0 D1 D2 D3 E0 E1 E2 E3 F1 F2 KE c3
      generalize z.now = w2 at *
      go_wp2
      go_roundw
      case rel => exact ⟨j + 1, by omega, by go_num, hb1.out, hb2.out, HB2.out⟩
      case measure => simp [intOf]; omega
    · go_wp2
      go_ret
      exact ⟨rfl, HB.out⟩
theorem eq_all : ∀ (z : Nat) (p : Pl), SizeOf.sizeOf p ≤ z → ∀ (A A' : Option Addr) (c c' : Nat) (w : World), p.sane → Pls.lies w w.heap.size p.list A → Pls.lies w w.heap.size p.list A' → Calls Tryz.prog 59 #[p.arg A c, p.arg A' c'] w (Bel (.bool true) w) := by
  intro z
  induction z with
  | zero => intro p h; cases p; simp at h
  | succ z ih =>
    intro p hp A A' c c' w h0 h1 h2
    obtain ⟨k, n, t, l⟩ := p
    exact eq_step k n t l (fun j hj => ih l[j] (by have := Pl.size_lt (k := k) (n := n) (t := t) hj; omega)) A A' c c' w h0 h1 h2
/-- espalierlaw2.Eq of the same. -/
theorem law2_Eq (p : Pl) (A A' : Option Addr) (c c' : Nat) (w : World) (h0 : p.sane) (h1 : Pls.lies w w.heap.size p.list A) (h2 : Pls.lies w w.heap.size p.list A') : Calls Tryz.prog 59 #[p.arg A c, p.arg A' c'] w (Bel (.bool true) w) :=
  eq_all _ p (Nat.le_refl _) A A' c c' w h0 h1 h2
theorem Marked.next {w w' : World} {l : List Pl} {A : Option Addr} {c : Nat} (h : Marked w (· < w.heap.size) l A c) (hb : Below w.heap.size w w') : Marked w' (· < w'.heap.size) l A c :=
  h.keep (fun b o hs => hb.cell (p := ⟨b, o, none⟩) hs) (fun b hs => Nat.lt_of_lt_of_le hs hb.size)
set_option maxRecDepth 100000 in
set_option maxHeartbeats 4000000 in
theorem marks_step (k n : Int) (t : ByteArray) (l : List Pl)
    (ih : ∀ (j : Nat) (h : j < l.length) (A : Option Addr) (c : Nat) (w : World), l[j].sane → Marked w (· < w.heap.size) l[j].list A c → Calls Tryz.prog 60 #[l[j].arg A c] w (Bel (.bool true) w))
    (A : Option Addr) (c : Nat) (w : World) (hs : (Pl.mk k n t l).sane) (hl : Marked w (· < w.heap.size) l A c) :
    Calls Tryz.prog 60 #[.agg #[.int .i64 k, .int .i64 n, .string t, .slice A l.length c]] w (Bel (.bool true) w) := by
  have IH := Lib.hid ih
  have HL := Lib.hid hl
  have hlen : l.length * 56 ≤ 140737488351232 := hs.2.2.2
  generalize hX : Obj.cells #[.int .i64 k, .int .i64 n, .string t, .slice A l.length c] 34 = X
  have HX := Lib.hid hX
  have HB0 := Lib.hid ((Below.refl w.heap.size w).alloc (Nat.le_refl _) X)
  have D1 := Lib.hid (heap_alloc_new w X)
  clear ih hs
  rcases hl with ⟨rfl, rfl⟩ | ⟨b, o, rfl, hc, hm⟩
  · go_enter Tryz.func60, Tryz.ntmps60
    go_wp2
    go_loopw [4] (fun s4 wr => s4 = .int .i64 0 ∧ Below w.heap.size w wr) (fun s4 _ => 0)
    case atStart => exact ⟨rfl, by have h := HB0.out; rw [← HX.out] at h; exact h⟩
    case round =>
      obtain ⟨rfl, hbel⟩ := hrel
      have HB := Lib.hid hbel
      clear hbel
      go_wp2
      go_ret
      exact ⟨rfl, HB.out⟩
  · have HM := Lib.hid (Pls.mtail.keep (S' := (· < (w.alloc X).heap.size)) (fun b o hs => HB0.out.cell (p := ⟨b, o, none⟩) hs) (fun b hs => Nat.lt_of_lt_of_le hs HB0.out.size) l b o hm)
    have hmk := (Pls.mtail.mark HM.out).2
    rw [← hX] at hmk
    have hcI : (l.length : Int) + 1 ≤ (c : Int) := by omega
    have hcb : decide (c ≤ l.length) = false := by simp; omega
    clear hm hX
    go_enter Tryz.func60, Tryz.ntmps60
    go_wp2
    clear hmk hcI hcb
    rw [HX.out]
    go_loopw [4] (fun s4 wr => ∃ (j : Nat), j ≤ l.length ∧ s4 = .int .i64 (j : Int) ∧ wr.heap[w.heap.size]? = some X ∧ Below w.heap.size w wr) (fun s4 _ => l.length - (intOf s4).toNat)
    case atStart => exact ⟨0, Nat.zero_le _, rfl, D1.out, HB0.out⟩
    case round =>
      obtain ⟨j, hj, rfl, hb1, hbel⟩ := hrel
      have B1 := Lib.hid hb1
      have HB := Lib.hid hbel
      have hsz : w.heap.size < wr.heap.size := lt_of_block hb1
      clear hb1 hbel
      have c3 : wr.cell? ⟨w.heap.size, 3, none⟩ = some (.slice (some ⟨b, o, none⟩) l.length c) := cell_of_row _ _ 3 _ _ _ (by rw [B1.out, ← HX.out])
      by_cases hlt : j < l.length
      · have hm2 : Marked wr (· < wr.heap.size) l (some ⟨b, o, none⟩) c := Marked.next HL.out HB.out
        have hm3 : Pls.mtail wr (· < wr.heap.size) l b o := by
          rcases hm2 with ⟨h, _⟩ | ⟨b', o', h, _, h'⟩
          · cases h
          · injection h with h
            injection h with h1 h2 _
            subst h1 h2
            exact h'
        obtain ⟨_, hsn, A1, c1, hcs, hm4⟩ := Pl.mlies_iff.1 (hm3.at_ j hlt)
        have e0 : wr.cell? ⟨b, o + j * 4, none⟩ = some (.int .i64 l[j].kind) := hcs 0 _ rfl
        have e1 : wr.cell? ⟨b, o + j * 4 + 1, none⟩ = some (.int .i64 l[j].num) := hcs 1 _ rfl
        have e2 : wr.cell? ⟨b, o + j * 4 + 2, none⟩ = some (.string l[j].text) := hcs 2 _ rfl
        have e3 : wr.cell? ⟨b, o + j * 4 + 3, none⟩ = some (.slice A1 l[j].list.length c1) := hcs 3 _ rfl
        have KM := Lib.hid (IH.out j hlt A1 c1 wr hsn hm4)
        unfold Pl.arg at KM
        clear hm2 hm3 hcs hm4 hsn
        go_wp2_with fail
        refine KM.out.mono ?_
        rintro e w2 ⟨rfl, hb2⟩
        have B2 := Lib.hid ((hb2.block w.heap.size hsz).trans B1.out)
        have HB2 := Lib.hid (HB.out.trans (hb2.mono HB.out.size))
        clear hb2 e0 e1 e2 e3 c3 KM
        go_wp2
        go_roundw
        case rel => exact ⟨j + 1, by omega, by go_num, B2.out, HB2.out⟩
        case measure => simp [intOf]; omega
      · go_wp2
        go_ret
        exact ⟨rfl, HB.out⟩
theorem marks_all : ∀ (z : Nat) (p : Pl), SizeOf.sizeOf p ≤ z → ∀ (A : Option Addr) (c : Nat) (w : World), p.sane → Marked w (· < w.heap.size) p.list A c → Calls Tryz.prog 60 #[p.arg A c] w (Bel (.bool true) w) := by
  intro z
  induction z with
  | zero => intro p h; cases p; simp at h
  | succ z ih =>
    intro p hp A c w h0 h1
    obtain ⟨k, n, t, l⟩ := p
    exact marks_step k n t l (fun j hj => ih l[j] (by have := Pl.size_lt (k := k) (n := n) (t := t) hj; omega)) A c w h0 h1
set_option maxRecDepth 100000 in
set_option maxHeartbeats 4000000 in
/-- espalierlaw2.Kept: of a twin. -/
theorem law2_Kept (p : Pl) (A A' : Option Addr) (c c' : Nat) (w : World) (h0 : p.sane) (h1 : Marked w (· < w.heap.size) p.list A c) (h2 : Pls.lies w w.heap.size p.list A') : Calls Tryz.prog 25 #[p.arg A c, p.arg A' c'] w (Bel (.bool true) w) := by
  generalize hX : Obj.cells #[.int .i64 p.kind, .int .i64 p.num, .string p.text, .slice A p.list.length c] 34 = X
  generalize hX' : Obj.cells #[.int .i64 p.kind, .int .i64 p.num, .string p.text, .slice A' p.list.length c'] 34 = X'
  have HX := Lib.hid hX
  have HX' := Lib.hid hX'
  have HB0 := Lib.hid (((Below.refl w.heap.size w).alloc (Nat.le_refl _) X).alloc (by simp) X')
  have D1 := Lib.hid (heap_alloc2 w X X').1
  have D2 := Lib.hid (heap_alloc2 w X X').2
  have KE := Lib.hid (law2_Eq p A A' c c' ((w.alloc X).alloc X') h0 ((h1.lies (fun b h => h)).below HB0.out HB0.out.size) (h2.below HB0.out HB0.out.size))
  have KM := Lib.hid (fun w9 (hb : Below w.heap.size w w9) => marks_all _ p (Nat.le_refl _) A c w9 h0 (h1.next hb))
  unfold Pl.arg at KE KM ⊢
  clear hX hX' h1 h2
  go_enter Tryz.func25, Tryz.ntmps25
  go_wp2_with fail
  rw [HX.out, HX'.out]
  refine KE.out.mono ?_
  rintro e w1 ⟨rfl, hb⟩
  have HB1 := Lib.hid (HB0.out.trans (hb.mono HB0.out.size))
  have E1 := (hb.block w.heap.size (by simp; omega)).trans D1.out
  have KM1 := Lib.hid (KM.out w1 HB1.out)
  rw [← HX.out] at E1
  have f1 : ∀ j, w1.cell? ⟨w.heap.size, j, none⟩ = (#[.int .i64 p.kind, .int .i64 p.num, .string p.text, .slice A p.list.length c] : Array Value)[j]? := fun j => by simp [World.cell?, E1]
  clear hb E1 KE KM
  go_wp2_with fail
  refine KM1.out.mono ?_
  rintro e w2 ⟨rfl, hb⟩
  have HB2 := Lib.hid (HB1.out.trans (hb.mono HB1.out.size))
  clear hb
  go_wp2
  go_ret
  exact ⟨rfl, HB2.out⟩
end Go.Proofs.YtcdjnkeomaidaaaGreat
