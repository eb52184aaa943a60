/-
  espalierref11.Rows, may: walks, for any operation and any plain values. Conditions: they lie in memory.
-/
import Derived.Test.YtcldbjgikkfnbaaGreatDoorCListKit
import Derived.Test.YtcldbjgikkfnbaaGreatDoorCPlSameL
import Derived.Test.YtcldbjgikkfnbaaGreatDoorCPlFits
namespace Go.Proofs.YtcldbjgikkfnbaaGreatDoor
open Go.RowKit
set_option linter.unusedVariables false

set_option maxRecDepth 100000 in
set_option maxHeartbeats 8000000 in
theorem ref11_Rows (w : World) : Calls Tryz.prog 59 #[] w (RowsNew listRows w) := by
  have HL := Lib.hid (lit_rows w listRows)
  go_enter Tryz.func59, Tryz.ntmps59
  go_wp2
  go_ret
  exact ⟨_, 10, litRows w.heap.size listRows, rfl, litRows_row _ _, HL.out.1, HL.out.2⟩
def strictName : ByteArray := ⟨#[83, 116, 114, 105, 99, 116]⟩
theorem strictB_step : ∀ (l : List ByteArray) (m : Nat) (h : m < l.length), (l.take (m + 1)).any (fun s => s.toList == [83, 116, 114, 105, 99, 116]) = ((l.take m).any (fun s => s.toList == [83, 116, 114, 105, 99, 116]) || ((l.getD m ByteArray.empty).toList == [83, 116, 114, 105, 99, 116])) := by
  intro l m h
  rw [List.take_succ_eq_append_getElem h, List.any_append]
  simp [List.getD, h]
def strictB (l : List ByteArray) : Bool := l.any (fun s => s.toList == [83, 116, 114, 105, 99, 116])
/-- What is asked of an operation and its values ahead of all else. -/
def mayV (op : ByteArray) (ps : List Pl) : List RowD → Int
  | [] => 1
  | r :: rs => if (r.kind.toList == op.toList) = true ∧ strictB r.abil = true then (if (ps.length : Int) < r.min ∨ (r.max ≠ -1 ∧ r.max < (ps.length : Int)) then 11 else if ps.all Pl.mayB = true then 0 else 1) else mayV op ps rs
set_option maxRecDepth 100000 in
set_option maxHeartbeats 8000000 in
theorem ref11_may (op : ByteArray) (ps : List Pl) (A : Option Addr) (c : Nat) (w : World) (hlen : ps.length * 56 ≤ 140737488351232) (hl : Pls.lies w w.heap.size ps A) :
    Calls Tryz.prog 31 #[.string op, .slice A ps.length c] w (Bel (.int .i64 (mayV op ps listRows)) w) := by
  have HL := Lib.hid hl
  clear hl
  go_enter Tryz.func31, Tryz.ntmps31
  go_wp2_with fail
  refine (ref11_Rows w).mono ?_
  rintro e w1 ⟨B, cB, ts, rfl, hts, hB, hb⟩
  have HTS := Lib.hid hts
  have HRI := Lib.hid hB
  have HB1 := Lib.hid hb
  have htl : ts.length = listRows.length := by rw [← hts, List.length_map]
  clear hts hB hb
  rw [← htl]
  have hl4 : ts.length = 10 := htl
  clear htl
  obtain ⟨bB, oB, rfl, hbB, hrows⟩ := HRI.out (by omega)
  have HR := Lib.hid hrows
  clear hrows
  rw [hl4]
  go_wp2
  go_loopw [6] (fun s6 wr => ∃ (k : Nat), k ≤ 10 ∧ s6 = .int .i64 (k : Int) ∧ mayV op ps listRows = mayV op ps (listRows.drop k) ∧ Below w1.heap.size w1 wr) (fun s6 _ => 10 - (intOf s6).toNat)
  case atStart => exact ⟨0, by omega, rfl, rfl, Below.refl _ _⟩
  case round =>
    obtain ⟨k, hk, rfl, hmay, hbel⟩ := hrel
    have HM := Lib.hid hmay
    have HB := Lib.hid hbel
    have hws := hbel.size
    clear hmay hbel
    by_cases hlt : k < 10
    · have hkt : k < ts.length := by omega
      have hcl := (HR.out k hkt).1
      have hnm := (HR.out k hkt).2
      have hrow : listRows[k]? = some ts[k].row := by
        have e := HTS.out
        rw [← e, List.getElem?_map, List.getElem?_eq_getElem hkt]; rfl
      have hab : ts[k].row.abil.length ≤ 5 ∧ 0 < ts[k].row.abil.length ∧ (0 ≤ ts[k].row.min ∧ ts[k].row.min ≤ 3) ∧ (-1 ≤ ts[k].row.max ∧ ts[k].row.max ≤ 3) := by
        have hm : ts[k].row ∈ listRows := List.mem_of_getElem? hrow
        have hall : ∀ r ∈ listRows, r.abil.length ≤ 5 ∧ 0 < r.abil.length ∧ (0 ≤ r.min ∧ r.min ≤ 3) ∧ (-1 ≤ r.max ∧ r.max ≤ 3) := by decide
        exact hall _ hm
      have hdrop : Hid (listRows.drop k = ts[k].row :: listRows.drop (k + 1)) := Lib.hid (by
        obtain ⟨hk', e⟩ := List.getElem?_eq_some_iff.1 hrow
        rw [List.drop_eq_getElem_cons hk', e])
      generalize ts[k] = t at *
      have hbw : bB < w1.heap.size := hbB.2
      have r0 : wr.cell? ⟨bB, oB + k * 6, none⟩ = some (.string t.row.kind) := (HB.out.cell (p := ⟨bB, oB + k * 6, none⟩) hbw).trans (hcl 0 (by omega))
      have r1 : wr.cell? ⟨bB, oB + k * 6 + 1, none⟩ = some (.int .i64 t.row.min) := (HB.out.cell (p := ⟨bB, oB + k * 6 + 1, none⟩) hbw).trans (hcl 1 (by omega))
      have r2 : wr.cell? ⟨bB, oB + k * 6 + 2, none⟩ = some (.int .i64 t.row.max) := (HB.out.cell (p := ⟨bB, oB + k * 6 + 2, none⟩) hbw).trans (hcl 2 (by omega))
      have r5 : wr.cell? ⟨bB, oB + k * 6 + 5, none⟩ = some (.slice t.at_ t.row.abil.length t.cap) := (HB.out.cell (p := ⟨bB, oB + k * 6 + 5, none⟩) hbw).trans (hcl 5 (by omega))
      obtain ⟨bN, oN, hat, hbN, hnc⟩ := hnm hab.2.1
      have HN := Lib.hid (fun j (hj : j < t.row.abil.length) => (HB.out.cell (p := ⟨bN, oN + j, none⟩) hbN.2).trans (hnc j hj))
      rw [hat] at r5
      obtain ⟨hab5, hab0, ⟨hmin0, hmin2⟩, hmax0, hmax2⟩ := hab
      clear hcl hnm hrow hnc hat
      go_wp2_with fail
      go_loopw [8, 7] (fun s8 s7 wx => ∃ (m : Nat), m ≤ t.row.abil.length ∧ s8 = .int .i64 (m : Int) ∧ s7 = .bool (strictB (t.row.abil.take m)) ∧ wx = wr) (fun s8 _ _ => t.row.abil.length - (intOf s8).toNat)
      case atStart => exact ⟨0, Nat.zero_le _, rfl, rfl, rfl⟩
      case round =>
        obtain ⟨m, hm, rfl, rfl, rfl⟩ := hrel
        by_cases hmlt : m < t.row.abil.length
        · have n0 := HN.out m hmlt
          have hst : strictB (t.row.abil.take (m + 1)) = (strictB (t.row.abil.take m) || ((t.row.abil.getD m ByteArray.empty).toList == [83, 116, 114, 105, 99, 116])) := strictB_step _ _ hmlt
          have HST := Lib.hid hst
          clear hst
          generalize strictB (t.row.abil.take m) = q at *
          generalize t.row.abil.getD m ByteArray.empty = nm at *
          cases q
          · go_wp2
            go_roundw
            case rel => exact ⟨m + 1, by omega, by go_num, by rw [HST.out, Bool.false_or], trivial⟩
            case measure => simp [intOf]; omega
          · go_wp2
            go_roundw
            case rel => exact ⟨m + 1, by omega, by go_num, by rw [HST.out]; rfl, trivial⟩
            case measure => simp [intOf]; omega
        · have hml : m = t.row.abil.length := by omega
          subst hml
          rw [List.take_length]
          cases hkq : (t.row.kind.toList == op.toList)
          · have hnext := Lib.hid (show mayV op ps listRows = mayV op ps (listRows.drop (k + 1)) by rw [HM.out, hdrop.out, mayV, if_neg (by rw [hkq]; simp)])
            go_wp2
            go_roundw
            case rel => exact ⟨k + 1, by omega, by go_num, hnext.out, HB.out⟩
            case measure => simp [intOf]; omega
          · cases hsq : strictB t.row.abil
            · have hnext := Lib.hid (show mayV op ps listRows = mayV op ps (listRows.drop (k + 1)) by rw [HM.out, hdrop.out, mayV, if_neg (by rw [hsq]; simp)])
              go_wp2
              go_roundw
              case rel => exact ⟨k + 1, by omega, by go_num, hnext.out, HB.out⟩
              case measure => simp [intOf]; omega
            · have hin := Lib.hid (show mayV op ps listRows = (if (ps.length : Int) < t.row.min ∨ (t.row.max ≠ -1 ∧ t.row.max < (ps.length : Int)) then 11 else if ps.all Pl.mayB = true then 0 else 1) by rw [HM.out, hdrop.out, mayV, if_pos ⟨hkq, hsq⟩])
              by_cases hmn : (ps.length : Int) < t.row.min
              · have hres := Lib.hid (show mayV op ps listRows = 11 by rw [hin.out, if_pos (.inl hmn)])
                go_wp2
                go_ret
                exact ⟨by rw [hres.out]; rfl, HB1.out.trans (HB.out.mono HB1.out.size)⟩
              by_cases hmx : t.row.max = -1
              · have hmb : (t.row.max == -1) = true := by simpa using hmx
                have HOUT := Lib.hid (show (ps.all Pl.mayB = true → mayV op ps listRows = 0) ∧ (ps.all Pl.mayB = false → mayV op ps listRows = 1) by
                  rw [hin.out, if_neg (by rintro (h | h); exact hmn h; exact h.1 hmx)]
                  exact ⟨fun h => by rw [if_pos h], fun h => by rw [h]; rfl⟩)
                go_wp2
                go_loopw [9] (fun s9 wx => ∃ (m : Nat), m ≤ ps.length ∧ s9 = .int .i64 (m : Int) ∧ (∀ p ∈ ps.take m, p.mayB = true) ∧ Below w1.heap.size w1 wx) (fun s9 _ => ps.length - (intOf s9).toNat)
                case atStart => exact ⟨0, Nat.zero_le _, rfl, by simp, HB.out⟩
                case round =>
                obtain ⟨m, hm, rfl, hmall, hbel3⟩ := hrel
                have HA3 := Lib.hid hmall
                have HB3 := Lib.hid hbel3
                have hs3 := hbel3.size
                clear hmall hbel3
                by_cases hmlt : m < ps.length
                · obtain ⟨b', o', rfl⟩ := HL.out.head (by omega)
                  have HBA := Lib.hid (HB1.out.trans (HB3.out.mono HB1.out.size))
                  have hlies := (HL.out.below HBA.out HBA.out.size).at_ m hmlt
                  have hsn := Lib.hid hlies.sane
                  obtain ⟨hbb, e0, e1, e2, hlen2, A', c', e3, hll⟩ := hlies.parts
                  have KM := Lib.hid (ref2_May ps[m] A' c' wr hsn.out (hll.below (Below.refl _ _) (Nat.le_refl _)))
                  have hmem := Lib.hid (show ∀ p ∈ ps.take (m + 1), p ∈ ps.take m ∨ p = ps[m] by
                    rw [List.take_succ_eq_append_getElem hmlt]
                    intro p hp
                    rcases List.mem_append.1 hp with h | h
                    · exact .inl h
                    · exact .inr (List.mem_singleton.1 h))
                  have hin := Lib.hid (List.getElem_mem hmlt)
                  generalize ps[m] = p at *
                  unfold Pl.arg at KM
                  clear hlies hll
                  go_wp2_with fail
                  refine KM.out.mono ?_
                  rintro e w4 ⟨rfl, hb4⟩
                  have HB4 := Lib.hid (HB3.out.trans (hb4.mono hs3))
                  clear hb4 KM e0 e1 e2 e3
                  cases hp : p.mayB
                  · have hpd : decide (0 ≤ p.left 65536 0) = false := hp
                    have hres := Lib.hid (HOUT.out.2 (by rw [List.all_eq_false]; exact ⟨p, hin.out, by rw [hp]; decide⟩))
                    go_wp2
                    go_ret
                    exact ⟨by rw [hres.out]; rfl, HB1.out.trans (HB4.out.mono HB1.out.size)⟩
                  · have hpd : decide (0 ≤ p.left 65536 0) = true := hp
                    have hnx : ∀ p ∈ ps.take (m + 1), p.mayB = true := fun x hx => by
                      rcases hmem.out x hx with h1 | h1
                      · exact HA3.out x h1
                      · rw [h1]; exact hp
                    have HNX := Lib.hid hnx
                    clear hnx
                    go_wp2
                    go_roundw
                    case rel => exact ⟨m + 1, by omega, by go_num, HNX.out, HB4.out⟩
                    case measure => simp [intOf]; omega
                · have hres := Lib.hid (HOUT.out.1 (by
                    rw [List.all_eq_true]
                    intro p hp
                    exact HA3.out p (by rw [List.take_of_length_le (by omega)]; exact hp)))
                  go_wp2
                  go_ret
                  exact ⟨by rw [hres.out]; rfl, HB1.out.trans (HB3.out.mono HB1.out.size)⟩
              have hmb : (t.row.max == -1) = false := by simpa using hmx
              by_cases hmo : t.row.max < (ps.length : Int)
              · have hres := Lib.hid (show mayV op ps listRows = 11 by rw [hin.out, if_pos (.inr ⟨hmx, hmo⟩)])
                go_wp2
                go_ret
                exact ⟨by rw [hres.out]; rfl, HB1.out.trans (HB.out.mono HB1.out.size)⟩
              · have HOUT := Lib.hid (show (ps.all Pl.mayB = true → mayV op ps listRows = 0) ∧ (ps.all Pl.mayB = false → mayV op ps listRows = 1) by
                  rw [hin.out, if_neg (by rintro (h | h); exact hmn h; exact hmo h.2)]
                  exact ⟨fun h => by rw [if_pos h], fun h => by rw [h]; rfl⟩)
                go_wp2
                go_loopw [9] (fun s9 wx => ∃ (m : Nat), m ≤ ps.length ∧ s9 = .int .i64 (m : Int) ∧ (∀ p ∈ ps.take m, p.mayB = true) ∧ Below w1.heap.size w1 wx) (fun s9 _ => ps.length - (intOf s9).toNat)
                case atStart => exact ⟨0, Nat.zero_le _, rfl, by simp, HB.out⟩
                case round =>
                obtain ⟨m, hm, rfl, hmall, hbel3⟩ := hrel
                have HA3 := Lib.hid hmall
                have HB3 := Lib.hid hbel3
                have hs3 := hbel3.size
                clear hmall hbel3
                by_cases hmlt : m < ps.length
                · obtain ⟨b', o', rfl⟩ := HL.out.head (by omega)
                  have HBA := Lib.hid (HB1.out.trans (HB3.out.mono HB1.out.size))
                  have hlies := (HL.out.below HBA.out HBA.out.size).at_ m hmlt
                  have hsn := Lib.hid hlies.sane
                  obtain ⟨hbb, e0, e1, e2, hlen2, A', c', e3, hll⟩ := hlies.parts
                  have KM := Lib.hid (ref2_May ps[m] A' c' wr hsn.out (hll.below (Below.refl _ _) (Nat.le_refl _)))
                  have hmem := Lib.hid (show ∀ p ∈ ps.take (m + 1), p ∈ ps.take m ∨ p = ps[m] by
                    rw [List.take_succ_eq_append_getElem hmlt]
                    intro p hp
                    rcases List.mem_append.1 hp with h | h
                    · exact .inl h
                    · exact .inr (List.mem_singleton.1 h))
                  have hin := Lib.hid (List.getElem_mem hmlt)
                  generalize ps[m] = p at *
                  unfold Pl.arg at KM
                  clear hlies hll
                  go_wp2_with fail
                  refine KM.out.mono ?_
                  rintro e w4 ⟨rfl, hb4⟩
                  have HB4 := Lib.hid (HB3.out.trans (hb4.mono hs3))
                  clear hb4 KM e0 e1 e2 e3
                  cases hp : p.mayB
                  · have hpd : decide (0 ≤ p.left 65536 0) = false := hp
                    have hres := Lib.hid (HOUT.out.2 (by rw [List.all_eq_false]; exact ⟨p, hin.out, by rw [hp]; decide⟩))
                    go_wp2
                    go_ret
                    exact ⟨by rw [hres.out]; rfl, HB1.out.trans (HB4.out.mono HB1.out.size)⟩
                  · have hpd : decide (0 ≤ p.left 65536 0) = true := hp
                    have hnx : ∀ p ∈ ps.take (m + 1), p.mayB = true := fun x hx => by
                      rcases hmem.out x hx with h1 | h1
                      · exact HA3.out x h1
                      · rw [h1]; exact hp
                    have HNX := Lib.hid hnx
                    clear hnx
                    go_wp2
                    go_roundw
                    case rel => exact ⟨m + 1, by omega, by go_num, HNX.out, HB4.out⟩
                    case measure => simp [intOf]; omega
                · have hres := Lib.hid (HOUT.out.1 (by
                    rw [List.all_eq_true]
                    intro p hp
                    exact HA3.out p (by rw [List.take_of_length_le (by omega)]; exact hp)))
                  go_wp2
                  go_ret
                  exact ⟨by rw [hres.out]; rfl, HB1.out.trans (HB3.out.mono HB1.out.size)⟩
    · have hk4 : k = 10 := by omega
      subst hk4
      have hend : Hid (mayV op ps listRows = 1) := Lib.hid (by rw [HM.out]; rfl)
      go_wp2
      go_ret
      exact ⟨by rw [hend.out]; rfl, HB1.out.trans (HB.out.mono HB1.out.size)⟩
end Go.Proofs.YtcldbjgikkfnbaaGreatDoor
