/-
  espalierlaw3.SignParts: a walk, for any texts that are together not longer than a bound. Conditions: that; the library's variables are laid.
-/
import Derived.Test.YthkofiakfmijiaaDoorSgParts
import Derived.Test.YthkofiakfmijiaaDoorLaw3Begun
import Derived.Test.YthkofiakfmijiaaDoorLawTexts
namespace Go.Proofs.YthkofiakfmijiaaDoor
open Go.RowKit
set_option linter.unusedVariables false

theorem same_str (s : ByteArray) : (s.toList == s.toList) = true := by simp
/-- The texts before a place, put together; a text more. -/
theorem glue_next {l : List ByteArray} {k : Nat} (hk : k < l.length) {t : ByteArray} (ht : t.data.toList = glueL (l.take k)) :
    (k = 0 → (t ++ l[k]'hk).data.toList = glueL (l.take (k + 1))) ∧ (0 < k → (t ++ ⟨#[32]⟩ ++ l[k]'hk).data.toList = glueL (l.take (k + 1))) := by
  rw [List.take_succ_eq_append_getElem hk]
  refine ⟨fun h => ?_, fun h => ?_⟩
  · subst h
    have : t.data.toList = [] := ht
    rw [List.take_zero, List.nil_append, glue_one]
    simp only [ByteArray.data_append, Array.toList_append]
    rw [this]; rfl
  · rw [glue_snoc (by intro e; rw [List.take_eq_nil_iff] at e; rcases e with e | e; · omega
                      · rw [e] at hk; simp at hk)]
    simp only [ByteArray.data_append, Array.toList_append]
    rw [ht]; simp
theorem all_next {l : List ByteArray} {k : Nat} (hk : k < l.length) : (l.take (k + 1)).all nameB = ((l.take k).all nameB && nameB (l[k]'hk)) := by
  rw [List.take_succ_eq_append_getElem hk, List.all_append]; simp
theorem le_sum : ∀ {l : List Nat} {n : Nat}, n ∈ l → n ≤ l.sum
  | x :: l, n, h => by
    rcases List.mem_cons.1 h with rfl | h
    · simp
    · have := le_sum h
      simp; omega
set_option maxRecDepth 100000 in
set_option maxHeartbeats 16000000 in
theorem law_SignParts (s u : ByteArray) (A : Option Addr) (l : List ByteArray) (c : Nat) (w : World) (hs : s.size ≤ 1048576) (hu : u.size ≤ 1048576) (hl : Lib.lens (l.map (·.data.toList)) + l.length ≤ 1048576)
    (hR : Rd w w.heap.size A (l.map vS)) (hS : Sg w) :
    Calls Tryd.prog 6 #[.string s, .string u, .slice A l.length c] w (Bel (.bool true) w) := by
  have HR := Lib.hid hR
  have HS := Lib.hid hS
  have kb := Lib.hid (law3_begun w hS)
  have hll : l.length ≤ 1048576 := by omega
  have HL := Lib.hid hl
  clear hR hS hl
  go_enter Tryd.func6, Tryd.ntmps6
  go_wp2_with fail
  refine kb.out.mono ?_
  rintro e w1 ⟨rfl, hb⟩
  have HB1 := Lib.hid hb
  clear hb kb
  have hsz : (s ++ ⟨#[46]⟩ ++ u).size ≤ 140737488351232 := by
    rw [ByteArray.size_append, ByteArray.size_append]
    have : (⟨#[46]⟩ : ByteArray).size = 1 := rfl
    omega
  have k1 := Lib.hid (sign_Kind (s ++ ⟨#[46]⟩ ++ u) w1 hsz)
  rw [kind_two] at k1
  clear hsz
  go_wp2_with fail
  refine k1.out.mono ?_
  rintro e w2 ⟨rfl, hb⟩
  have HB2 := Lib.hid (HB1.out.trans (hb.mono HB1.out.size))
  clear hb k1
  obtain ⟨ka, kc, ok, hv⟩ : ∃ ka kc ok, (if (wordB s && wordB u) = true then (s, u, true) else ((⟨#[]⟩ : ByteArray), (⟨#[]⟩ : ByteArray), false)) = (ka, kc, ok) := ⟨_, _, _, rfl⟩
  rw [hv]
  unfold cutT
  have HV := Lib.hid hv
  clear hv
  go_upto_region 4 with fail
  go_cut [59] from 27 to 59 (fun s59 wx => s59 = .bool false ∧ Below w.heap.size w wx)
  case first =>
    have W1 := Lib.hid (sign_Word s w2 (by omega))
    have W2 : Hid (∀ w9, Calls Tryd.prog 15 #[.string u] w9 (Bel (.bool (wordB u)) w9)) := Lib.hid fun w9 => sign_Word u w9 (by omega)
    cases h1 : wordB s
    · have hv2 := HV.out
      rw [h1] at hv2
      simp only [Bool.false_and, Bool.false_eq_true, if_false, Prod.mk.injEq] at hv2
      obtain ⟨rfl, rfl, rfl⟩ := hv2
      go_wp2_with fail
      refine W1.out.mono ?_
      rintro e w3 ⟨rfl, hb⟩
      rw [h1]
      have HB3 := Lib.hid (HB2.out.trans (hb.mono HB2.out.size))
      clear hb h1
      go_wp2
      go_meet
      exact ⟨rfl, HB3.out⟩
    · cases h2 : wordB u
      · have hv2 := HV.out
        rw [h1, h2] at hv2
        simp only [Bool.and_false, Bool.false_eq_true, if_false, Prod.mk.injEq] at hv2
        obtain ⟨rfl, rfl, rfl⟩ := hv2
        go_wp2_with fail
        refine W1.out.mono ?_
        rintro e w3 ⟨rfl, hb⟩
        rw [h1]
        have HB3 := Lib.hid (HB2.out.trans (hb.mono HB2.out.size))
        clear hb h1
        go_wp2_with fail
        refine (W2.out _).mono ?_
        rintro e w4 ⟨rfl, hb⟩
        rw [h2]
        have HB4 := Lib.hid (HB3.out.trans (hb.mono HB3.out.size))
        clear hb h2
        go_wp2
        go_meet
        exact ⟨rfl, HB4.out⟩
      · have hv2 := HV.out
        rw [h1, h2] at hv2
        simp only [Bool.and_self, if_true, Prod.mk.injEq] at hv2
        obtain ⟨rfl, rfl, rfl⟩ := hv2
        have e1 := same_str s
        have e2 := same_str u
        go_wp2_with fail
        refine W1.out.mono ?_
        rintro e w3 ⟨rfl, hb⟩
        rw [h1]
        have HB3 := Lib.hid (HB2.out.trans (hb.mono HB2.out.size))
        clear hb h1
        go_wp2_with fail
        refine (W2.out _).mono ?_
        rintro e w4 ⟨rfl, hb⟩
        rw [h2]
        have HB4 := Lib.hid (HB3.out.trans (hb.mono HB3.out.size))
        clear hb h2
        go_wp2
        go_meet
        exact ⟨rfl, HB4.out⟩
  case rest =>
    obtain ⟨rfl, hbc⟩ := hcut
    have HBc := Lib.hid hbc
    clear hbc
    go_upto_region 6 with fail
    go_cut [66] from 60 to 66 (fun s66 wx => s66 = .bool false ∧ Below w.heap.size w wx)
    case first =>
      have N1 := Lib.hid (sign_Name s wc (by omega))
      have U1 : Hid (∀ w9, Calls Tryd.prog 17 #[.string s] w9 (Bel (.bool (useB s)) w9)) := Lib.hid fun w9 => sign_Use s w9 (by omega)
      cases h1 : nameB s
      · go_wp2_with fail
        refine N1.out.mono ?_
        rintro e w3 ⟨rfl, hb⟩
        rw [h1]
        have HB3 := Lib.hid (HBc.out.trans (hb.mono HBc.out.size))
        clear hb h1
        go_wp2
        go_meet
        exact ⟨rfl, HB3.out⟩
      · have hu1 := Lib.hid (use_name h1)
        go_wp2_with fail
        refine N1.out.mono ?_
        rintro e w3 ⟨rfl, hb⟩
        rw [h1]
        have HB3 := Lib.hid (HBc.out.trans (hb.mono HBc.out.size))
        clear hb h1
        go_wp2_with fail
        refine (U1.out _).mono ?_
        rintro e w4 ⟨rfl, hb⟩
        rw [hu1.out]
        have HB4 := Lib.hid (HB3.out.trans (hb.mono HB3.out.size))
        clear hb
        go_wp2
        go_meet
        exact ⟨rfl, HB4.out⟩
    case rest =>
      obtain ⟨rfl, hbd⟩ := hcut
      have HBd := Lib.hid hbd
      clear hbd
      have hg0 : Hid ((⟨#[]⟩ : ByteArray).data.toList = glueL (l.take 0)) := Lib.hid rfl
      have hwc : Hid (Below wc.heap.size wc wc) := Lib.hid (Below.refl _ _)
      have hsz : Hid (∀ k (t : ByteArray), t.data.toList = glueL (l.take k) → t.size ≤ 1048576) := Lib.hid fun k t ht => by
        rw [Lib.size_eq, ht]
        exact Nat.le_trans (glue_len _) (Nat.le_trans (lens_take l k) HL.out)
      have hxs : Hid (∀ x ∈ l, x.size ≤ 1048576) := Lib.hid fun x hx => by
        have h1 : x.data.toList.length ≤ Lib.lens (l.map (·.data.toList)) := by
          unfold Lib.lens
          exact le_sum (List.mem_map.2 ⟨_, List.mem_map.2 ⟨x, hx, rfl⟩, rfl⟩)
        rw [Lib.size_eq]
        have := HL.out
        omega
      go_wp2
      go_loopw [10, 11, 12] (fun tv av i wr => ∃ (k : Nat) (tb : ByteArray) (al : Bool), k ≤ l.length ∧ i = .int .i64 k ∧ tv = .string tb ∧ av = .bool al ∧ tb.data.toList = glueL (l.take k) ∧ al = (l.take k).all nameB ∧ (∀ x ∈ l.take k, (32 : UInt8) ∉ x.data.toList) ∧ Below w.heap.size w wr) (fun tv av i wr => l.length - (intOf i).toNat)
      case atStart => exact ⟨0, _, true, Nat.zero_le _, rfl, rfl, rfl, hg0.out, rfl, fun x hx => by simp at hx, HBd.out⟩
      case round =>
        obtain ⟨k, tb, al, hk, rfl, rfl, rfl, htb, hal, hno, hbel⟩ := hrel
        have HT := Lib.hid htb
        have HAL := Lib.hid hal
        have HNO := Lib.hid hno
        have HBr := Lib.hid hbel
        clear htb hal hno hbel
        by_cases hlt : k < l.length
        · obtain ⟨ad, rfl, _, hc⟩ := RdS.at_ (Rd.below HR.out HBr.out) hlt
          have hx1 := hxs.out _ (List.getElem_mem hlt)
          have hGN := Lib.hid (glue_next hlt HT.out)
          have hAN := Lib.hid (all_next hlt)
          have ht1 := hsz.out k tb HT.out
          have hTK : Hid (l.take (k + 1) = l.take k ++ [l[k]'hlt]) := Lib.hid (List.take_succ_eq_append_getElem hlt)
          generalize l[k]'hlt = x at *
          go_upto_if 74 with fail
          go_cut [10] from 67 to 106 (fun s10 wx => ∃ tb2 : ByteArray, s10 = .string tb2 ∧ (tb2 ++ x).data.toList = glueL (l.take (k + 1)) ∧ tb2.size ≤ 1048577 ∧ Below w.heap.size w wx ∧ wx.cell? (ad.add k) = some (.string x))
          case first =>
            by_cases hk0 : k = 0
            · have hd : decide (0 < (k : Int)) = false := by simp; omega
              have HE := Lib.hid (hGN.out.1 hk0)
              have hk1 : k ≤ 0 := by omega
              clear hk0
              go_wp2
              go_meet
              exact ⟨tb, rfl, HE.out, by omega, HBr.out, hc⟩
            · have hd : decide (0 < (k : Int)) = true := by simp; omega
              have HE := Lib.hid (hGN.out.2 (by omega))
              have hs2 : (tb ++ ⟨#[32]⟩).size ≤ 1048577 := by
                rw [ByteArray.size_append]
                have : (⟨#[32]⟩ : ByteArray).size = 1 := rfl
                omega
              have hk1 : 0 < k := by omega
              clear hk0
              go_wp2
              go_meet
              exact ⟨_, rfl, HE.out, hs2, HBr.out, hc⟩
          case rest =>
            obtain ⟨tb2, rfl, he2, hs2, hbx, hcx⟩ := hcut
            have HE2 := Lib.hid he2
            have HBx := Lib.hid hbx
            clear he2 hbx hc
            go_upto_region 16 with fail
            go_cut [11] from 67 to 106 (fun s11 wy => s11 = .bool ((l.take (k + 1)).all nameB) ∧ Below w.heap.size w wy ∧ wy.cell? (ad.add k) = some (.string x))
            case first =>
              have hN := Lib.hid (sign_Name x wc (by omega))
              cases hq : al
              · have HE := Lib.hid (show (l.take (k + 1)).all nameB = false by rw [hAN.out, ← HAL.out, hq]; rfl)
                go_wp2
                go_meet
                exact ⟨by rw [HE.out], HBx.out, hcx⟩
              · have HE := Lib.hid (show (l.take (k + 1)).all nameB = nameB x by rw [hAN.out, ← HAL.out, hq]; rfl)
                go_wp2_with fail
                refine hN.out.mono ?_
                rintro e w9 ⟨rfl, hb⟩
                have HB9 := Lib.hid (HBx.out.trans (hb.mono HBx.out.size))
                have hc9 := Lib.hid ((hb.cell (World.block_lt_of_cell? _ _ hcx)).trans hcx)
                clear hb
                go_wp2
                go_meet
                exact ⟨by rw [HE.out], HB9.out, hc9.out⟩
            case rest =>
              obtain ⟨rfl, hby, hcy⟩ := hcut
              have HBy := Lib.hid hby
              clear hby hcx
              have hx2 : x.size ≤ 140737488351232 := by omega
              have HX : Hid (∀ n (h : n < x.size), x.data.toList.take (n + 1) = x.data.toList.take n ++ [x[n]'h]) := Lib.hid fun n h => by
                rw [List.take_succ_eq_append_getElem (by simpa using h)]; rfl
              go_wp2
              go_loop [13] (fun j => ∃ n : Nat, n ≤ x.size ∧ j = .int .i64 n ∧ (32 : UInt8) ∉ x.data.toList.take n) (fun j => x.size - (intOf j).toNat)
              case atStart => exact ⟨0, Nat.zero_le _, rfl, by simp⟩
              case round =>
                obtain ⟨n, hn, rfl, hnb⟩ := hrel
                have HNB := Lib.hid hnb
                clear hnb
                by_cases hj : n < x.size
                · cases hb : (((x[n]'hj).toNat : Int) == 32)
                  · have hne : (x[n]'hj) ≠ 32 := by
                      intro e
                      rw [e] at hb
                      revert hb; decide
                    have HN2 := Lib.hid (show (32 : UInt8) ∉ x.data.toList.take (n + 1) by
                      rw [HX.out n hj, List.mem_append, List.mem_singleton]
                      rintro (h | h)
                      · exact HNB.out h
                      · exact hne h.symm)
                    clear hne
                    go_wp2
                    go_round
                    case rel => exact ⟨n + 1, by omega, by go_num, HN2.out⟩
                    case measure => simp [intOf]; omega
                  · go_wp2
                    go_ret
                    exact ⟨rfl, HBy.out⟩
                · have HN3 := Lib.hid (show ∀ y ∈ l.take (k + 1), (32 : UInt8) ∉ y.data.toList by
                    intro y hy
                    rw [hTK.out, List.mem_append, List.mem_singleton] at hy
                    rcases hy with hy | rfl
                    · exact HNO.out y hy
                    · have := HNB.out
                      rwa [List.take_of_length_le (by simp; omega)] at this)
                  go_wp2
                  go_roundw
                  case rel => exact ⟨k + 1, _, _, by omega, by go_num, rfl, rfl, HE2.out, rfl, HN3.out, HBy.out⟩
                  case measure => simp [intOf]; omega
        · obtain rfl : k = l.length := by omega
          have htk := Lib.hid (show l.take l.length = l from List.take_of_length_le (Nat.le_refl _))
          have ht1 := hsz.out _ tb HT.out
          have HAL2 := Lib.hid (show al = l.all nameB by rw [HAL.out, htk.out])
          have HT2 := Lib.hid (show tb.data.toList = glueL l by rw [HT.out, htk.out])
          have HNO2 := Lib.hid (show ∀ x ∈ l, (32 : UInt8) ∉ x.data.toList from fun x hx => HNO.out x (by rw [htk.out]; exact hx))
          have kN := Lib.hid (sign_Names tb wr (by omega) (HS.out.below HBr.out))
          clear HT HAL HNO hlt
          go_wp2_with fail
          refine kN.out.mono ?_
          rintro e w9 ⟨hb9, hc9⟩
          have HB9 := Lib.hid (HBr.out.trans (hb9.mono HBr.out.size))
          clear hb9 kN
          by_cases h0 : tb.toList = []
          · have hnv : namesV tb = some [] := by unfold namesV; rw [← Lib.toList_data, if_pos h0]
            rw [hnv] at hc9
            obtain ⟨A9, c9, rfl, _⟩ := hc9
            have h0b : tb.toList.isEmpty = true := by simpa using h0
            clear h0
            go_wp2
            go_ret
            exact ⟨rfl, HB9.out⟩
          · have hnv := names_glue HT2.out (by rw [← Lib.toList_data]; exact h0) HNO2.out
            have h0b : tb.toList.isEmpty = false := by simpa using h0
            cases hq : l.all nameB
            · rw [hq] at hnv
              rw [hnv] at hc9
              simp only [Bool.false_eq_true, if_false] at hc9
              subst hc9
              have hal := HAL2.out
              rw [hq] at hal
              subst hal
              clear h0 hnv hq
              go_wp2
              go_ret
              exact ⟨rfl, HB9.out⟩
            · rw [hq] at hnv
              rw [hnv] at hc9
              obtain ⟨A9, c9, rfl, hr9⟩ := hc9
              have hal := HAL2.out
              rw [hq] at hal
              subst hal
              have kt := Lib.hid (law_texts A9 A l l c9 c w9 (by omega) (by omega) hr9 (Rd.next HR.out HB9.out))
              rw [decide_eq_true (rfl : l = l)] at kt
              clear h0 hnv hq hr9
              go_wp2_with fail
              refine kt.out.mono ?_
              rintro e w8 ⟨rfl, hb⟩
              have HB8 := Lib.hid (HB9.out.trans (hb.mono HB9.out.size))
              clear hb
              go_wp2
              go_ret
              exact ⟨rfl, HB8.out⟩
end Go.Proofs.YthkofiakfmijiaaDoor
