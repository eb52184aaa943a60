/-
  espalierlaw3.SignThere: a walk, for every place and text. Conditions: within a row's reach; the library's variables are laid.
-/
import Derived.Test.YthkofiakfmijiaaDoorSgThere
import Derived.Test.YthkofiakfmijiaaDoorLaw3Begun
import Derived.Test.YthkofiakfmijiaaDoorLawEq
namespace Go.Proofs.YthkofiakfmijiaaDoor
open Go.RowKit
set_option linter.unusedVariables false

theorem eqPl_same (f : ByteArray) (l : List Int) : eqPl f f l l = true := by simp [eqPl]
theorem code_yes {f : ByteArray} {l : List Int} (h : placeB f l = true) : placeTextV f l = ((placeTextV f l).1, 0) := by
  refine Prod.ext rfl ?_
  rw [text_code, h]; rfl
theorem code_no {f : ByteArray} {l : List Int} (h : placeB f l = false) : placeTextV f l = (⟨#[]⟩, 1) := by
  unfold placeTextV; rw [h]; rfl
theorem text_size {f : ByteArray} {l : List Int} (h : placeB f l = true) : (placeTextV f l).1.size ≤ 140737488351232 := by
  obtain ⟨h1, h2⟩ := place_parts h
  have hs := read_short (read_text h2)
  have e : (placeTextV f l).1 = if f = ⟨#[]⟩ then bytesOf (pathT l) else f ++ ⟨#[58]⟩ ++ bytesOf (pathT l) := by unfold placeTextV; rw [if_pos h]
  have hb : (bytesOf (pathT l)).size = (pathT l).length := by rw [Lib.size_eq]; rfl
  rw [e]
  split
  · omega
  · rename_i hf
    have hn : nameB f = true := by
      rcases h1 with h1 | h1
      · exact absurd h1 hf
      · exact h1
    unfold nameB madeB at hn
    simp only [Bool.and_eq_true, decide_eq_true_eq] at hn
    have := hn.1.1.2
    rw [ByteArray.size_append, ByteArray.size_append]
    have : (⟨#[58]⟩ : ByteArray).size = 1 := rfl
    omega
/-- The list of a place's own making, as a list that is read. -/
theorem rd_own {w : World} {base n c : Nat} {A : Option Addr} {l : List Int} (h : w.ownsRow base 3 1 (.slice A n c) n (l.map vI)) : RdI w w.heap.size A l := Rd.of_own h
set_option maxRecDepth 100000 in
set_option maxHeartbeats 8000000 in
theorem law_SignThere (f : ByteArray) (A : Option Addr) (l : List Int) (c : Nat) (s : ByteArray) (w : World) (hf : f.size ≤ 140737488351232) (hl : l.length ≤ 140737488355328) (hs : s.size ≤ 140737488351232) (hR : RdI w w.heap.size A l) (hS : Sg w) :
    Calls Tryd.prog 4 #[.agg #[.string f, .slice A l.length c], .string s] w (Bel (.bool true) w) := by
  have HB0 := Lib.hid (show Below w.heap.size w (w.alloc (.cells #[.string f, .slice A l.length c] 27)) from (Below.refl _ _).alloc (Nat.le_refl _) _)
  have HR := Lib.hid hR
  have HS := Lib.hid hS
  have kb := Lib.hid (law3_begun (w.alloc (.cells #[.string f, .slice A l.length c] 27)) (hS.below HB0.out))
  have hx0 := heap_alloc_new w (.cells #[.string f, .slice A l.length c] 27)
  have HX0 := Lib.hid hx0
  clear hR hS hx0
  go_enter Tryd.func4, Tryd.ntmps4
  go_wp2_with fail
  refine kb.out.mono ?_
  rintro e w1 ⟨rfl, hb⟩
  have HB1 := Lib.hid (HB0.out.trans (hb.mono HB0.out.size))
  have HX1 := Lib.hid ((hb.block w.heap.size (by simp)).trans HX0.out)
  have hz1 : w.heap.size < w1.heap.size := by have := hb.size; simp at this; omega
  clear hb
  have a0 : w1.cell? ⟨w.heap.size, 0, none⟩ = some (.string f) := by simp [World.cell?, HX1.out]
  have a1 : w1.cell? ⟨w.heap.size, 1, none⟩ = some (.slice A l.length c) := by simp [World.cell?, HX1.out]
  have k1 := Lib.hid (sign_PlaceText f A l c w1 hf hl (Rd.next HR.out HB1.out) (HS.out.below HB1.out))
  go_wp2_with fail
  refine k1.out.mono ?_
  rintro e w2 ⟨rfl, hb⟩
  have HB2 := Lib.hid (HB1.out.trans (hb.mono HB1.out.size))
  have HX2 := Lib.hid ((hb.block w.heap.size hz1).trans HX1.out)
  have hz2 : w.heap.size < w2.heap.size := by have := hb.size; omega
  clear hb a0 a1
  have a0 : w2.cell? ⟨w.heap.size, 0, none⟩ = some (.string f) := by simp [World.cell?, HX2.out]
  have a1 : w2.cell? ⟨w.heap.size, 1, none⟩ = some (.slice A l.length c) := by simp [World.cell?, HX2.out]
  have k2 := Lib.hid (sign_Place f A l c w2 hf hl (Rd.next HR.out HB2.out))
  cases hp : placeB f l
  · rw [hp] at k2
    have hcode := Lib.hid (code_no hp)
    rw [hcode.out]
    clear hp hcode k1 kb
    go_wp2_with fail
    refine k2.out.mono ?_
    rintro e wz ⟨rfl, hb⟩
    have HBz := Lib.hid (HB2.out.trans (hb.mono HB2.out.size))
    clear hb a0 a1 HX2 HX1 HX0 HB2 HB1 HB0 k2 hz1 hz2
    have kr := Lib.hid (sign_ReadPlace s wz hs)
    go_wp2_with fail
    refine kr.out.mono ?_
    rintro e w3 ⟨hb3, hc3⟩
    have HB3 := Lib.hid (HBz.out.trans (hb3.mono HBz.out.size))
    clear hb3 kr HBz
    cases hr : readPl s with
    | none =>
      rw [hr] at hc3
      simp only at hc3
      subst hc3
      have HB3a := Lib.hid (HB3.out.alloc HB3.out.size (.cells #[.string ⟨#[]⟩, .slice none 0 0] 27))
      clear hr
      unfold placeV
      go_wp2
      go_ret
      exact ⟨rfl, HB3a.out⟩
    | some q =>
      obtain ⟨f1, l1⟩ := q
      rw [hr] at hc3
      obtain ⟨A1, c1, rfl, hown⟩ := hc3
      obtain ⟨ht, hpp⟩ := placeText_read hr
      have HB4 := Lib.hid (HB3.out.alloc HB3.out.size (.cells #[.string f1, .slice A1 l1.length c1] 27))
      have HX4 := Lib.hid (heap_alloc_new w3 (.cells #[.string f1, .slice A1 l1.length c1] 27))
      have HR4 : Hid (RdI (w3.alloc (.cells #[.string f1, .slice A1 l1.length c1] 27)) (w3.alloc (.cells #[.string f1, .slice A1 l1.length c1] 27)).heap.size A1 l1) := Lib.hid (Rd.of_own (hown.alloc _))
      have hl1 : l1.length ≤ 140737488355328 := by
        obtain ⟨_, h2⟩ := place_parts hpp
        unfold pathL at h2
        simp only [Bool.and_eq_true, decide_eq_true_eq] at h2
        omega
      have hf1 : f1.size ≤ 140737488351232 := by
        obtain ⟨h1, _⟩ := place_parts hpp
        rcases h1 with rfl | h1
        · exact Nat.zero_le _
        · unfold nameB madeB at h1
          simp only [Bool.and_eq_true, decide_eq_true_eq] at h1
          have := h1.1.1.2
          omega
      have HT := Lib.hid ht
      have HP := Lib.hid hpp
      have hss : (s.toList == s.toList) = true := by simp
      clear hr hown ht hpp
      have a0 : (w3.alloc (.cells #[.string f1, .slice A1 l1.length c1] 27)).cell? ⟨w3.heap.size, 0, none⟩ = some (.string f1) := by simp
      have a1 : (w3.alloc (.cells #[.string f1, .slice A1 l1.length c1] 27)).cell? ⟨w3.heap.size, 1, none⟩ = some (.slice A1 l1.length c1) := by simp
      have hz4 : w3.heap.size < (w3.alloc (.cells #[.string f1, .slice A1 l1.length c1] 27)).heap.size := by simp
      unfold placeV
      have k5 := Lib.hid (sign_PlaceText f1 A1 l1 c1 _ hf1 hl1 HR4.out (HS.out.below HB4.out))
      rw [HT.out] at k5
      go_wp2_with fail
      refine k5.out.mono ?_
      rintro e w5 ⟨rfl, hb⟩
      have HB5 := Lib.hid (HB4.out.trans (hb.mono HB4.out.size))
      have HX5 := Lib.hid ((hb.block w3.heap.size hz4).trans HX4.out)
      have HR5 := Lib.hid (Rd.next HR4.out hb)
      clear hb a0 a1
      have a0 : w5.cell? ⟨w3.heap.size, 0, none⟩ = some (.string f1) := by simp [World.cell?, HX5.out]
      have a1 : w5.cell? ⟨w3.heap.size, 1, none⟩ = some (.slice A1 l1.length c1) := by simp [World.cell?, HX5.out]
      have k6 := Lib.hid (sign_Place f1 A1 l1 c1 w5 hf1 hl1 HR5.out)
      rw [HP.out] at k6
      go_wp2_with fail
      refine k6.out.mono ?_
      rintro e w6 ⟨rfl, hb⟩
      have HB6 := Lib.hid (HB5.out.trans (hb.mono HB5.out.size))
      clear hb
      go_wp2
      go_ret
      exact ⟨rfl, HB6.out⟩
  · rw [hp] at k2
    have hcode := Lib.hid (code_yes hp)
    have hread := Lib.hid (read_placeText hp)
    have hts := text_size hp
    rw [hcode.out]
    generalize (placeTextV f l).1 = tx at *
    have HT := Lib.hid hts
    clear hp hcode k1 kb
    go_wp2_with fail
    refine k2.out.mono ?_
    rintro e w3 ⟨rfl, hb⟩
    have HB3 := Lib.hid (HB2.out.trans (hb.mono HB2.out.size))
    have HX3 := Lib.hid ((hb.block w.heap.size hz2).trans HX2.out)
    have hz3 : w.heap.size < w3.heap.size := by have := hb.size; omega
    clear hb a0 a1 k2
    have kr := Lib.hid (sign_ReadPlace tx w3 hts)
    rw [hread.out] at kr
    go_wp2_with fail
    refine kr.out.mono ?_
    rintro e w4 ⟨hb4, A1, c1, rfl, hown⟩
    simp only at hown
    have HB4 := Lib.hid (HB3.out.trans (hb4.mono HB3.out.size))
    have HX4 := Lib.hid ((hb4.block w.heap.size hz3).trans HX3.out)
    have hz4 : w3.heap.size ≤ w4.heap.size := hb4.size
    have HO4 := Lib.hid hown
    have HBa := Lib.hid (HB4.out.alloc HB4.out.size (.cells #[.string f, .slice A1 l.length c1] 27))
    have HXa := Lib.hid ((Below.heap_alloc w4 (.cells #[.string f, .slice A1 l.length c1] 27) w.heap.size (by omega)).trans HX4.out)
    have HYa := Lib.hid (heap_alloc_new w4 (.cells #[.string f, .slice A1 l.length c1] 27))
    have HOa := Lib.hid (hown.alloc (.cells #[.string f, .slice A1 l.length c1] 27))
    have hsa : (w4.alloc (.cells #[.string f, .slice A1 l.length c1] 27)).heap.size = w4.heap.size + 1 := by simp
    have HBq := Lib.hid hb4
    clear hb4 hown kr
    unfold placeV
    have a0 : (w4.alloc (.cells #[.string f, .slice A1 l.length c1] 27)).cell? ⟨w.heap.size, 0, none⟩ = some (.string f) := cell_of_row _ _ 0 _ _ _ HXa.out
    have a1 : (w4.alloc (.cells #[.string f, .slice A1 l.length c1] 27)).cell? ⟨w.heap.size, 1, none⟩ = some (.slice A l.length c) := cell_of_row _ _ 1 _ _ _ HXa.out
    have b0 : (w4.alloc (.cells #[.string f, .slice A1 l.length c1] 27)).cell? ⟨w4.heap.size, 0, none⟩ = some (.string f) := by simp
    have b1 : (w4.alloc (.cells #[.string f, .slice A1 l.length c1] 27)).cell? ⟨w4.heap.size, 1, none⟩ = some (.slice A1 l.length c1) := by simp
    have HSA := Lib.hid hsa
    clear hsa
    have k5 := Lib.hid (ref_EqPlace f f A A1 l l c c1 _ hl hl (Rd.next HR.out HBa.out) (rd_own HOa.out))
    rw [eqPl_same] at k5
    go_wp2_with fail
    refine k5.out.mono ?_
    rintro e w5 ⟨rfl, hb⟩
    have HB5 := Lib.hid (HBa.out.trans (hb.mono HBa.out.size))
    have HX5 := Lib.hid ((hb.block w.heap.size (by rw [HSA.out]; omega)).trans HXa.out)
    have HY5 := Lib.hid ((hb.block w4.heap.size (by rw [HSA.out]; omega)).trans HYa.out)
    have HO5 := Lib.hid (own_below HOa.out hb)
    have hz5 : w4.heap.size < w5.heap.size := by have := hb.size; rw [HSA.out] at this; omega
    have HGL : Hid (∀ g cap, Value.slice A1 l.length c1 = .slice (some ⟨g, 0, none⟩) l.length cap → g < w4.heap.size) := Lib.hid (fun g cap h => by
      have := HO4.out.lt g (by rw [h]; rfl)
      exact this.2)
    have hlz : w3.heap.size ≤ w5.heap.size := by omega
    have HBW := Lib.hid (show Below w3.heap.size w3 w5 from ((HBq.out.alloc hz4 _).trans (hb.mono (by rw [HSA.out]; omega))))
    clear hb a0 a1 b0 b1 k5
    go_wp2
    go_loopw [9] (fun i wr => ∃ (k : Nat) (xs : List Value), k ≤ l.length ∧ i = .int .i64 k ∧ Below w3.heap.size w3 wr ∧ wr.heap[w4.heap.size]? = some (.cells #[.string f, .slice A1 l.length c1] 27 (0, 0)) ∧ wr.ownsRow w3.heap.size 3 1 (.slice A1 l.length c1) l.length xs) (fun i wr => l.length - (intOf i).toNat)
    case atStart => exact ⟨0, _, Nat.zero_le _, rfl, HBW.out, HY5.out, HO5.out⟩
    case round =>
      obtain ⟨k, xs, hk, rfl, hbel, hy, hown⟩ := hrel
      have HBr := Lib.hid hbel
      have HYr := Lib.hid hy
      have HOr := Lib.hid hown
      have b1 : wr.cell? ⟨w4.heap.size, 1, none⟩ = some (.slice A1 l.length c1) := cell_of_row _ _ 1 _ _ _ hy
      clear hbel hy hown
      by_cases hlt : k < l.length
      · obtain ⟨g, cap, hv, hg3, hglt⟩ := HOr.out.form (by omega)
        have hA : A1 = some ⟨g, 0, none⟩ := by injection hv
        subst hA
        have hgb : g < w4.heap.size := HGL.out g c1 rfl
        obtain ⟨hst, hgr⟩ := HOr.out.stored k (.int .i64 (-1))
        have hcc := HOr.out.cellAt k (by omega)
        have hfz := HOr.out.frozenAt k
        have hxl : k < xs.length := by have := HOr.out.1; omega
        rw [List.getElem?_eq_getElem hxl] at hcc
        have HST := Lib.hid hst
        have HB' := Lib.hid (HBr.out.setCell (p := ⟨g, k, none⟩) hg3 (.int .i64 (-1)))
        have HY' := Lib.hid (blk_far HYr.out (p := ⟨g, k, none⟩) (by simp; omega) (.int .i64 (-1)))
        clear hst hgr hv hglt
        go_wp2
        go_roundw
        case rel => exact ⟨k + 1, _, by omega, by go_num, HB'.out, HY'.out, HST.out⟩
        case measure => simp [intOf]; omega
      · have HBR := Lib.hid (HB3.out.trans (HBr.out.mono HB3.out.size))
        have HXr := Lib.hid ((HBr.out.block w.heap.size hz3).trans HX3.out)
        have hzr : w.heap.size < wr.heap.size := by have := HBr.out.size; omega
        have k6 := Lib.hid (sign_ReadPlace tx wr HT.out)
        rw [hread.out] at k6
        go_wp2_with fail
        refine k6.out.mono ?_
        rintro e w6 ⟨hb6, A2, c2, rfl, hown2⟩
        simp only at hown2
        have HB6 := Lib.hid (HBR.out.trans (hb6.mono HBR.out.size))
        have HX6 := Lib.hid ((hb6.block w.heap.size hzr).trans HXr.out)
        have hz6 : w.heap.size < w6.heap.size := by have := hb6.size; omega
        have HBb := Lib.hid (HB6.out.alloc HB6.out.size (.cells #[.string f, .slice A2 l.length c2] 27))
        have HXb := Lib.hid ((Below.heap_alloc w6 (.cells #[.string f, .slice A2 l.length c2] 27) w.heap.size hz6).trans HX6.out)
        have HOb := Lib.hid (hown2.alloc (.cells #[.string f, .slice A2 l.length c2] 27))
        clear hb6 hown2 k6 b1
        have a0 : (w6.alloc (.cells #[.string f, .slice A2 l.length c2] 27)).cell? ⟨w.heap.size, 0, none⟩ = some (.string f) := cell_of_row _ _ 0 _ _ _ HXb.out
        have a1 : (w6.alloc (.cells #[.string f, .slice A2 l.length c2] 27)).cell? ⟨w.heap.size, 1, none⟩ = some (.slice A l.length c) := cell_of_row _ _ 1 _ _ _ HXb.out
        have b0 : (w6.alloc (.cells #[.string f, .slice A2 l.length c2] 27)).cell? ⟨w6.heap.size, 0, none⟩ = some (.string f) := by simp
        have b1 : (w6.alloc (.cells #[.string f, .slice A2 l.length c2] 27)).cell? ⟨w6.heap.size, 1, none⟩ = some (.slice A2 l.length c2) := by simp
        unfold placeV
        have k7 := Lib.hid (ref_EqPlace f f A A2 l l c c2 _ hl hl (Rd.next HR.out HBb.out) (rd_own HOb.out))
        rw [eqPl_same] at k7
        go_wp2_with fail
        refine k7.out.mono ?_
        rintro e wz ⟨rfl, hb⟩
        have HBz := Lib.hid (HBb.out.trans (hb.mono HBb.out.size))
        clear hb a0 a1 b0 b1 k7 HT hread
        have kr := Lib.hid (sign_ReadPlace s wz hs)
        go_wp2_with fail
        refine kr.out.mono ?_
        rintro e w3 ⟨hb3, hc3⟩
        have HB3 := Lib.hid (HBz.out.trans (hb3.mono HBz.out.size))
        clear hb3 kr HBz
        cases hr : readPl s with
        | none =>
          rw [hr] at hc3
          simp only at hc3
          subst hc3
          have HB3a := Lib.hid (HB3.out.alloc HB3.out.size (.cells #[.string ⟨#[]⟩, .slice none 0 0] 27))
          clear hr
          unfold placeV
          go_wp2
          go_ret
          exact ⟨rfl, HB3a.out⟩
        | some q =>
          obtain ⟨f1, l1⟩ := q
          rw [hr] at hc3
          obtain ⟨A1, c1, rfl, hown⟩ := hc3
          obtain ⟨ht, hpp⟩ := placeText_read hr
          have HB4 := Lib.hid (HB3.out.alloc HB3.out.size (.cells #[.string f1, .slice A1 l1.length c1] 27))
          have HX4 := Lib.hid (heap_alloc_new w3 (.cells #[.string f1, .slice A1 l1.length c1] 27))
          have HR4 : Hid (RdI (w3.alloc (.cells #[.string f1, .slice A1 l1.length c1] 27)) (w3.alloc (.cells #[.string f1, .slice A1 l1.length c1] 27)).heap.size A1 l1) := Lib.hid (Rd.of_own (hown.alloc _))
          have hl1 : l1.length ≤ 140737488355328 := by
            obtain ⟨_, h2⟩ := place_parts hpp
            unfold pathL at h2
            simp only [Bool.and_eq_true, decide_eq_true_eq] at h2
            omega
          have hf1 : f1.size ≤ 140737488351232 := by
            obtain ⟨h1, _⟩ := place_parts hpp
            rcases h1 with rfl | h1
            · exact Nat.zero_le _
            · unfold nameB madeB at h1
              simp only [Bool.and_eq_true, decide_eq_true_eq] at h1
              have := h1.1.1.2
              omega
          have HT := Lib.hid ht
          have HP := Lib.hid hpp
          have hss : (s.toList == s.toList) = true := by simp
          clear hr hown ht hpp
          have a0 : (w3.alloc (.cells #[.string f1, .slice A1 l1.length c1] 27)).cell? ⟨w3.heap.size, 0, none⟩ = some (.string f1) := by simp
          have a1 : (w3.alloc (.cells #[.string f1, .slice A1 l1.length c1] 27)).cell? ⟨w3.heap.size, 1, none⟩ = some (.slice A1 l1.length c1) := by simp
          have hz4 : w3.heap.size < (w3.alloc (.cells #[.string f1, .slice A1 l1.length c1] 27)).heap.size := by simp
          unfold placeV
          have k5 := Lib.hid (sign_PlaceText f1 A1 l1 c1 _ hf1 hl1 HR4.out (HS.out.below HB4.out))
          rw [HT.out] at k5
          go_wp2_with fail
          refine k5.out.mono ?_
          rintro e w5 ⟨rfl, hb⟩
          have HB5 := Lib.hid (HB4.out.trans (hb.mono HB4.out.size))
          have HX5 := Lib.hid ((hb.block w3.heap.size hz4).trans HX4.out)
          have HR5 := Lib.hid (Rd.next HR4.out hb)
          clear hb a0 a1
          have a0 : w5.cell? ⟨w3.heap.size, 0, none⟩ = some (.string f1) := by simp [World.cell?, HX5.out]
          have a1 : w5.cell? ⟨w3.heap.size, 1, none⟩ = some (.slice A1 l1.length c1) := by simp [World.cell?, HX5.out]
          have k6 := Lib.hid (sign_Place f1 A1 l1 c1 w5 hf1 hl1 HR5.out)
          rw [HP.out] at k6
          go_wp2_with fail
          refine k6.out.mono ?_
          rintro e w6 ⟨rfl, hb⟩
          have HB6 := Lib.hid (HB5.out.trans (hb.mono HB5.out.size))
          clear hb
          go_wp2
          go_ret
          exact ⟨rfl, HB6.out⟩
end Go.Proofs.YthkofiakfmijiaaDoor
