/-
  espalierref10.asked: a walk, for any operation and any plain values. Conditions: they lie in memory.
-/
import Derived.Test.YthjpphojddbbmaaGreatDoorCRefHas10
import Derived.Test.YthjpphojddbbmaaGreatDoorCRefRowsW
import Derived.Test.YthjpphojddbbmaaGreatDoorCPlLeft
namespace Go.Proofs.YthjpphojddbbmaaGreatDoor
open Go.RowKit
set_option linter.unusedVariables false

def txStrict : ByteArray := ⟨#[83, 116, 114, 105, 99, 116]⟩
def rowHit (op : ByteArray) (r : RowD) : Bool := (r.kind.toList == op.toList) && hasB txStrict r.abil
/-- What is amiss with a call, by rows. -/
def askedR (op : ByteArray) (ps : List Pl) : List RowD → Int
  | [] => 1
  | r :: rs => if rowHit op r = true then (if (ps.length : Int) < r.min ∨ r.max < (ps.length : Int) then 11 else if ps.all Pl.ok = true then 0 else 1) else askedR op ps rs
theorem askedR_skip {op : ByteArray} {ps : List Pl} : ∀ {rs : List RowD} {k : Nat} (h : k < rs.length), rowHit op rs[k] = false → askedR op ps (rs.drop k) = askedR op ps (rs.drop (k + 1)) := fun {rs k} h hn => by
  rw [List.drop_eq_getElem_cons h, askedR, if_neg (by rw [hn]; decide)]
theorem askedR_hit {op : ByteArray} {ps : List Pl} {rs : List RowD} {k : Nat} (h : k < rs.length) (hn : rowHit op rs[k] = true) : askedR op ps (rs.drop k) = (if (ps.length : Int) < rs[k].min ∨ rs[k].max < (ps.length : Int) then 11 else if ps.all Pl.ok = true then 0 else 1) := by
  rw [List.drop_eq_getElem_cons h, askedR, if_pos hn]
set_option maxRecDepth 100000 in
set_option maxHeartbeats 8000000 in
theorem ref_asked (op : ByteArray) (ps : List Pl) (A : Option Addr) (c : Nat) (w : World) (hlen : ps.length * 56 ≤ 140737488351232) (hl : Pls.lies w w.heap.size ps A) :
    Calls Tryz.prog 28 #[.string op, .slice A ps.length c] w (Bel (.int .i64 (askedR op ps wordsRows)) w) := by
  have HL := Lib.hid hl
  have KR := Lib.hid (ref_rows w)
  clear hl
  go_enter Tryz.func28, Tryz.ntmps28
  go_wp2_with fail
  refine KR.out.mono ?_
  rintro e w1 ⟨A1, c1, ts, rfl, hR, hts, hb⟩
  have HR := Lib.hid hR
  have HT := Lib.hid hts
  have HB := Lib.hid hb
  have hn : ts.length = 9 := by
    have := congrArg List.length hts
    rw [List.length_map] at this
    rw [this]; rfl
  have hab : Hid (∀ r ∈ wordsRows, r.abil.length ≤ 1000) := Lib.hid (by decide)
  clear hR hts hb KR
  go_wp2
  go_loopw [6] (fun s6 wr => ∃ (k : Nat), k ≤ ts.length ∧ s6 = .int .i64 (k : Int) ∧ askedR op ps (wordsRows.drop k) = askedR op ps wordsRows ∧ Below w1.heap.size w1 wr) (fun s6 _ => ts.length - (intOf s6).toNat)
  case atStart => exact ⟨0, Nat.zero_le _, rfl, rfl, Below.refl _ _⟩
  case round =>
    obtain ⟨k, hk, rfl, heq, hbel⟩ := hrel
    have HE := Lib.hid heq
    have HBr := Lib.hid hbel
    clear heq hbel
    by_cases hlt : k < ts.length
    · have hR2 : RowsIn wr (· < wr.heap.size) ts A1 := by
        obtain ⟨b, o, e, hs, hc⟩ := HR.out (by omega)
        exact fun _ => ⟨b, o, e, Nat.lt_of_lt_of_le hs HBr.out.size, fun k hk => ⟨fun j hj => (HBr.out.cell (p := ⟨b, _, none⟩) hs).trans ((hc k hk).1 j hj), (hc k hk).2.keep (fun b o hb => HBr.out.cell (p := ⟨b, o, none⟩) hb) (fun b hb => Nat.lt_of_lt_of_le hb HBr.out.size)⟩⟩
      obtain ⟨b, o, rfl, hs, hc⟩ := hR2 (by omega)
      obtain ⟨hcs, hnm⟩ := hc k hlt
      have e0 : wr.cell? ⟨b, o + k * 6, none⟩ = some (.string ts[k].row.kind) := hcs 0 (by omega)
      have e1 : wr.cell? ⟨b, o + k * 6 + 1, none⟩ = some (.int .i64 ts[k].row.min) := hcs 1 (by omega)
      have e2 : wr.cell? ⟨b, o + k * 6 + 2, none⟩ = some (.int .i64 ts[k].row.max) := hcs 2 (by omega)
      have e5 : wr.cell? ⟨b, o + k * 6 + 5, none⟩ = some (.slice ts[k].at_ ts[k].row.abil.length ts[k].cap) := hcs 5 (by omega)
      have hrow : Hid (∃ h : k < wordsRows.length, wordsRows[k] = ts[k].row) := Lib.hid (by
        have h1 : wordsRows.length = ts.length := by rw [← HT.out, List.length_map]
        refine ⟨by omega, ?_⟩
        simp only [← HT.out, List.getElem_map])
      have KH := Lib.hid (ref_Has ts[k].row.abil txStrict ts[k].at_ ts[k].cap wr (by obtain ⟨h, e⟩ := hrow.out; rw [← e]; exact hab.out _ (List.getElem_mem h)) hnm)
      unfold txStrict at KH
      clear hc hcs hnm
      cases hkd : (ts[k].row.kind.toList == op.toList)
      · have hsk := Lib.hid (show askedR op ps (wordsRows.drop (k + 1)) = askedR op ps wordsRows by
          obtain ⟨h, e⟩ := hrow.out
          rw [← HE.out]
          exact (askedR_skip h (by rw [e]; unfold rowHit; rw [hkd]; rfl)).symm)
        go_wp2
        go_roundw
        case rel => exact ⟨k + 1, by omega, by go_num, hsk.out, HBr.out⟩
        case measure => simp [intOf]; omega
      · cases hh : hasB ⟨#[83, 116, 114, 105, 99, 116]⟩ ts[k].row.abil
        · have hsk := Lib.hid (show askedR op ps (wordsRows.drop (k + 1)) = askedR op ps wordsRows by
            obtain ⟨h, e⟩ := hrow.out
            rw [← HE.out]
            exact (askedR_skip h (by rw [e]; unfold rowHit txStrict; rw [hkd, hh]; rfl)).symm)
          rw [hh] at KH
          go_wp2_with fail
          refine KH.out.mono ?_
          rintro e w' ⟨rfl, rfl⟩
          go_wp2
          go_roundw
          case rel => exact ⟨k + 1, by omega, by go_num, hsk.out, HBr.out⟩
          case measure => simp [intOf]; omega
        · have hx := Lib.hid (show askedR op ps wordsRows = (if (ps.length : Int) < ts[k].row.min ∨ ts[k].row.max < (ps.length : Int) then 11 else if ps.all Pl.ok = true then 0 else 1) by
            obtain ⟨h, e⟩ := hrow.out
            rw [← HE.out, askedR_hit h (by rw [e]; unfold rowHit txStrict; rw [hkd, hh]; rfl), e])
          rw [hh] at KH
          generalize ts[k].row.min = mn at *
          generalize ts[k].row.max = mx at *
          by_cases h1 : (ps.length : Int) < mn
          · have hx2 := Lib.hid (hx.out.trans (if_pos (.inl h1)))
            have d1 : decide ((ps.length : Int) < mn) = true := by simpa using h1
            go_wp2_with fail
            refine KH.out.mono ?_
            rintro e w' ⟨rfl, rfl⟩
            go_wp2
            go_ret
            exact ⟨by rw [hx2.out]; rfl, HB.out.trans (HBr.out.mono HB.out.size)⟩
          · have d1 : decide ((ps.length : Int) < mn) = false := by simpa using h1
            by_cases h2 : mx < (ps.length : Int)
            · have hx2 := Lib.hid (hx.out.trans (if_pos (.inr h2)))
              have d2 : decide (mx < (ps.length : Int)) = true := by simpa using h2
              go_wp2_with fail
              refine KH.out.mono ?_
              rintro e w' ⟨rfl, rfl⟩
              go_wp2
              go_ret
              exact ⟨by rw [hx2.out]; rfl, HB.out.trans (HBr.out.mono HB.out.size)⟩
            · have hx2 := Lib.hid (hx.out.trans (if_neg (by rintro (h | h); exact h1 h; exact h2 h)))
              have d2 : decide (mx < (ps.length : Int)) = false := by simpa using h2
              have HBw := Lib.hid (HB.out.trans (HBr.out.mono HB.out.size))
              go_wp2_with fail
              refine KH.out.mono ?_
              rintro e w' ⟨rfl, rfl⟩
              go_wp2
              clear e0 e1 e2 e5
              go_loopw [7] (fun s7 wx => ∃ (j : Nat), j ≤ ps.length ∧ s7 = .int .i64 (j : Int) ∧ (ps.take j).all Pl.ok = true ∧ Below w.heap.size w wx) (fun s7 _ => ps.length - (intOf s7).toNat)
              case atStart => exact ⟨0, Nat.zero_le _, rfl, rfl, HBw.out⟩
              case round =>
                obtain ⟨j, hj, rfl, hall, hbx⟩ := hrel
                have HA := Lib.hid hall
                have HX := Lib.hid hbx
                clear hall hbx
                by_cases hjl : j < ps.length
                · obtain ⟨b2, o2, rfl⟩ := HL.out.head (by omega)
                  have hlies := (HL.out.below HX.out HX.out.size).at_ j hjl
                  obtain ⟨_, f0, f1, f2, _, A2, c2, f3, hll⟩ := hlies.parts
                  have KM := Lib.hid (ref2_May ps[j] A2 c2 wr hlies.sane hll)
                  rw [← ok_left] at KM
                  have hst := Lib.hid (show (ps.take (j + 1)).all Pl.ok = ((ps.take j).all Pl.ok && ps[j].ok) by rw [List.take_succ_eq_append_getElem hjl, List.all_append]; simp)
                  have hmem := Lib.hid (List.getElem_mem hjl)
                  unfold Pl.arg at KM
                  clear hlies hll
                  cases hok : ps[j].ok
                  · have hf := Lib.hid (show ps.all Pl.ok = false by
                      rw [List.all_eq_false]
                      exact ⟨_, hmem.out, by rw [hok]; decide⟩)
                    have hx3 := Lib.hid (hx2.out.trans (if_neg (by rw [hf.out]; decide)))
                    rw [hok] at KM
                    clear hmem hst hok
                    generalize ps[j] = p at *
                    go_wp2_with fail
                    refine KM.out.mono ?_
                    rintro e w2 ⟨rfl, hb2⟩
                    have HB2 := Lib.hid (HX.out.trans (hb2.mono HX.out.size))
                    clear hb2
                    go_wp2
                    go_ret
                    exact ⟨by rw [hx3.out]; rfl, HB2.out⟩
                  · have HA2 := Lib.hid (show (ps.take (j + 1)).all Pl.ok = true by rw [hst.out, HA.out, hok]; rfl)
                    rw [hok] at KM
                    clear hmem hst hok
                    generalize ps[j] = p at *
                    go_wp2_with fail
                    refine KM.out.mono ?_
                    rintro e w2 ⟨rfl, hb2⟩
                    have HB2 := Lib.hid (HX.out.trans (hb2.mono HX.out.size))
                    clear hb2
                    go_wp2
                    go_roundw
                    case rel => exact ⟨j + 1, by omega, by go_num, HA2.out, HB2.out⟩
                    case measure => simp [intOf]; omega
                · have hx3 := Lib.hid (hx2.out.trans (if_pos (by have := HA.out; rwa [List.take_of_length_le (by omega)] at this)))
                  go_wp2
                  go_ret
                  exact ⟨by rw [hx3.out]; rfl, HX.out⟩
    · have hx := Lib.hid (show askedR op ps wordsRows = 1 by
        rw [← HE.out, List.drop_eq_nil_of_le (by have := congrArg List.length HT.out; rw [List.length_map] at this; omega)]; rfl)
      go_wp2
      go_ret
      exact ⟨by rw [hx.out]; rfl, HB.out.trans (HBr.out.mono HB.out.size)⟩
end Go.Proofs.YthjpphojddbbmaaGreatDoor
