/-
  sign.ReadPath: a walk, for every text. Conditions: a text within a row's reach.
-/
import Derived.Test.YthkofiakfmijiaaDoorSignUse
import Derived.Test.YthkofiakfmijiaaDoorSignKind
import Derived.Lib.IndexLaws
namespace Go.Proofs.YthkofiakfmijiaaDoor
open Go.RowKit
set_option linter.unusedVariables false

theorem bytes_ext {a b : ByteArray} (h : a.data.toList = b.data.toList) : a = b := by
  apply ByteArray.ext; apply Array.ext'; exact h
theorem ext_to_end (s : ByteArray) (a : Nat) : (s.extract a s.size).data.toList = s.data.toList.drop a := by
  rw [Lib.extract_data, List.take_of_length_le (by simp)]
theorem ext_from_zero (s : ByteArray) (a : Nat) : (s.extract 0 a).data.toList = s.data.toList.take a := by
  rw [Lib.extract_data]; simp
/-- A cut that hits, that misses. -/
theorem cut_hit {s : ByteArray} {c : UInt8} (h : (cutV s c).2.2 = true) : s.data.toList = (cutV s c).1.data.toList ++ c :: (cutV s c).2.1.data.toList ∧ c ∉ (cutV s c).1.data.toList ∧ (cutV s c).2.1.size < s.size := by
  unfold cutV at *
  split at h
  · rename_i h0
    obtain ⟨k, hk⟩ := Int.eq_ofNat_of_zero_le h0
    have hb := byteAt_lt s c
    have hk' : Lib.indexByte s.data.toList c = (k : Int) := hk
    obtain ⟨h1, h2⟩ := Lib.indexByte_some hk'
    have hlt : k < s.size := by omega
    rw [if_pos h0, hk]
    simp only [Int.toNat_natCast, ext_from_zero, ext_to_end]
    refine ⟨?_, ?_, by simp [ByteArray.size_extract]; omega⟩
    · have e : s.data.toList[k]'(by simpa using hlt) = c := by
        rw [List.getElem?_eq_getElem (by simpa using hlt)] at h1
        simpa using h1
      conv => lhs; rw [← List.take_append_drop k s.data.toList]
      rw [List.drop_eq_getElem_cons (by simpa using hlt), e]
    · intro hm
      obtain ⟨j, hj, hje⟩ := List.getElem_of_mem hm
      have hjk : j < k := by simp at hj; omega
      refine h2 j hjk ?_
      rw [List.getElem_take] at hje
      rw [List.getElem?_eq_getElem (by simp; omega), hje]
  · cases h
theorem cut_miss {s : ByteArray} {c : UInt8} (h : (cutV s c).2.2 = false) : cutV s c = (s, ⟨#[]⟩, false) ∧ c ∉ s.data.toList := by
  unfold cutV at *
  split at h
  · cases h
  · rename_i h0
    have hb := byteAt_lt s c
    have hk' : Lib.indexByte s.data.toList c = -1 := by
      have : byteAt s c = -1 := by omega
      exact this
    have h1 := Lib.indexByte_none hk'
    rw [if_neg h0]
    refine ⟨rfl, fun hm => ?_⟩
    obtain ⟨j, hj, hje⟩ := List.getElem_of_mem hm
    exact h1 j (by rw [List.getElem?_eq_getElem hj, hje])

/-- What is still to be read, behind what was. -/
def readRest (done : List Int) (q : List UInt8) : Option (List Int) := match numsL (pieces 46 q) with
  | some p => if pathL (done ++ p) then some (done ++ p) else none
  | none => none
theorem pathL_front {a b : List Int} (h : pathL (a ++ b) = true) : pathL a = true := by
  unfold pathL at *
  simp only [Bool.and_eq_true, decide_eq_true_eq, List.all_append, List.length_append] at *
  exact ⟨by omega, h.2.1⟩
theorem numsL_one {x : List UInt8} {n : Nat} (h : numL x = some n) : numsL [x] = some [(n : Int)] := by simp [numsL, h]
theorem rest_bad {done : List Int} {q h : List UInt8} {r : List (List UInt8)} (hp : pieces 46 q = h :: r) (hn : numL h = none) : readRest done q = none := by
  unfold readRest
  rw [hp]
  simp [numsL, hn]
theorem rest_path {done : List Int} {q h : List UInt8} {r : List (List UInt8)} {n : Nat} (hp : pieces 46 q = h :: r) (hn : numL h = some n) (hb : pathL (done ++ [(n : Int)]) = false) : readRest done q = none := by
  unfold readRest
  rw [hp]
  cases hr : numsL r with
  | none => simp [numsL, hn, hr]
  | some l =>
    simp only [numsL, hn, hr]
    rw [if_neg]
    intro hc
    rw [show done ++ (n : Int) :: l = (done ++ [(n : Int)]) ++ l by simp] at hc
    rw [pathL_front hc] at hb; cases hb
theorem rest_last {done : List Int} {q : List UInt8} {n : Nat} (hp : pieces 46 q = [q]) (hn : numL q = some n) (hb : pathL (done ++ [(n : Int)]) = true) : readRest done q = some (done ++ [(n : Int)]) := by
  unfold readRest
  rw [hp, numsL_one hn]
  simp [hb]
theorem rest_more {done : List Int} {q h t : List UInt8} {n : Nat} (hp : pieces 46 q = h :: pieces 46 t) (hn : numL h = some n) : readRest done q = readRest (done ++ [(n : Int)]) t := by
  unfold readRest
  rw [hp]
  cases hr : numsL (pieces 46 t) with
  | none => simp [numsL, hn, hr]
  | some l => simp [numsL, hn, hr]

/-- What ReadPath answers: a new list, or none. -/
def RP (l : Option (List Int)) (w : World) (e : Ending) (w' : World) : Prop := Below w.heap.size w w' ∧ match l with
  | none => e = .returned (.tuple #[.slice none 0 0, .int .i64 5])
  | some l => ∃ A c, e = .returned (.tuple #[.slice A l.length c, .int .i64 0]) ∧ w'.ownsRow w.heap.size 3 1 (.slice A l.length c) l.length (l.map vI)
theorem RP.bad {l : Option (List Int)} {w w' : World} (h : l = none) (hb : Below w.heap.size w w') : RP l w (.returned (.tuple #[.slice none 0 0, .int .i64 5])) w' := by
  subst h; exact ⟨hb, rfl⟩
theorem RP.good {l : Option (List Int)} {p : List Int} {A : Option Addr} {c n : Nat} {w w' : World} (h : l = some p) (hb : Below w.heap.size w w') (hn : n = p.length) (ho : w'.ownsRow w.heap.size 3 1 (.slice A n c) n (p.map vI)) : RP l w (.returned (.tuple #[.slice A n c, .int .i64 0])) w' := by
  subst h; subst hn; exact ⟨hb, A, c, rfl, ho⟩
set_option maxHeartbeats 2000000 in
theorem sign_ReadPath (s : ByteArray) (w : World) (hs : s.size ≤ 140737488351232) : Calls Tryd.prog 20 #[.string s] w (RP (readP s.data.toList) w) := by
  by_cases h0 : s.toList = [45]
  · have hq := Lib.hid (show readP s.data.toList = some [] by unfold readP; rw [← Lib.toList_data, if_pos h0])
    have h0b : (s.toList == [45]) = true := by simpa using h0
    clear h0
    go_enter Tryd.func20, Tryd.ntmps20
    go_wp2
    go_step3
    go_wp2
    rw [Exit.noGoto_ret]
    go_ret2
    exact RP.good hq.out (Below.refl _ _) rfl (World.ownsRow_nil _ _ _ _)
  have hrd : Hid (readP s.data.toList = readRest [] s.data.toList) := Lib.hid (by
    unfold readP readRest
    rw [if_neg (by rw [← Lib.toList_data]; exact h0)]
    rfl)
  have h0b : (s.toList == [45]) = false := by simpa using h0
  have hw0 : Hid (Below w.heap.size w w) := Lib.hid (Below.refl _ _)
  clear h0
  go_enter Tryd.func20, Tryd.ntmps20
  have hp00 : Hid (pathL [] = true) := Lib.hid rfl
  have hq00 : Hid (s.size ≤ 140737488351232) := Lib.hid hs
  go_wp2
  go_step3
  go_wp2
  go_step3
  go_wp2
  go_loopw [0, 4] (fun sv v wr => ∃ (q : ByteArray) (done : List Int) (A1 : Option Addr) (c1 : Nat), sv = .string q ∧ q.size ≤ s.size ∧ pathL done = true ∧ readRest done q.data.toList = readP s.data.toList ∧ v = .slice A1 done.length c1 ∧
    wr.ownsRow w.heap.size 3 1 (.slice A1 done.length c1) done.length (done.map vI) ∧ Below w.heap.size w wr) (fun sv v wr => (match sv with | .string q => q.size | _ => 0))
  case atStart => exact ⟨s, [], none, 0, rfl, Nat.le_refl _, hp00.out, hrd.out.symm, rfl, World.ownsRow_nil _ _ _ _, hw0.out⟩
  case round =>
    obtain ⟨q, done, A1, c1, rfl, hqs, hpd, hrr, rfl, hown, hbel⟩ := hrel
    have HO := Lib.hid hown
    have HB := Lib.hid hbel
    have HR := Lib.hid hrr
    have hd64 : done.length < 64 := by
      unfold pathL at hpd
      simp only [Bool.and_eq_true, decide_eq_true_eq] at hpd
      exact hpd.1
    have HC := Lib.hid (str_cut q 46 wr (by have := hq00.out; omega))
    have hch := Lib.hid (@cut_hit q 46)
    have hcm := Lib.hid (@cut_miss q 46)
    have hcz := (cut_size q 46).1
    generalize cutV q 46 = r at *
    obtain ⟨h, t, more⟩ := r
    have hh : h.size ≤ 140737488351232 := Nat.le_trans hcz (Nat.le_trans hqs hq00.out)
    have hpc : Hid (∃ r', pieces 46 q.data.toList = h.data.toList :: r' ∧ (more = true → r' = pieces 46 t.data.toList ∧ t.size < q.size) ∧ (more = false → r' = [] ∧ h = q)) := Lib.hid (by
      cases more
      · obtain ⟨h1, h2⟩ := hcm.out rfl
        obtain ⟨rfl, rfl⟩ : h = q ∧ t = ⟨#[]⟩ := by simpa using h1
        exact ⟨[], pieces_none h2, by simp, by simp⟩
      · obtain ⟨h1, h2, h3⟩ := hch.out rfl
        exact ⟨pieces 46 t.data.toList, by rw [h1]; exact pieces_cut h2, fun _ => ⟨rfl, h3⟩, by simp⟩)
    have HN : Hid (∀ w1, Below w.heap.size w w1 → Calls Tryd.prog 41 #[.string h] w1 fun e w' => e = .returned (numT h.data.toList) ∧ Below w1.heap.size w1 w') := Lib.hid fun w1 hb => sign_number h w1 hh
    clear hown hbel hrr hpd hch hcm hcz hh
    cases hn : numL h.data.toList with
    | none =>
      have hx : Hid (readP s.data.toList = none) := Lib.hid (by
        obtain ⟨r', h1, _, _⟩ := hpc.out
        rw [← HR.out]; exact rest_bad h1 hn)
      have ht := Lib.hid (numT_none hn)
      clear hn
      go_wp2_with fail
      refine HC.out.mono ?_
      rintro e w1 ⟨rfl, hb1⟩
      have HB1 := Lib.hid (HB.out.trans (hb1.mono HB.out.size))
      have HO1 := Lib.hid (own_below HO.out hb1)
      clear hb1
      unfold cutT
      go_wp2_with fail
      refine (HN.out _ HB1.out).mono ?_
      rintro e w2 ⟨rfl, hb2⟩
      rw [ht.out]
      have HB2 := Lib.hid (HB1.out.trans (hb2.mono HB1.out.size))
      have HO2 := Lib.hid (own_below HO1.out hb2)
      clear hb2
      go_wp2_with (at_builtin; refine wp_app1 w2 rfl _ _ _ rfl w.heap.size 3 _ 8 Tryd.underlying25 infI rfl _ _ _ _ rfl HO2.out _ rfl rfl ?h63 ?hby ?hbase ?_; (case h63 => unfold maxLen; omega); (case hby => omega); (case hbase => exact HB2.out.size); intro g cap w3 hown3 hb3 hlt3 hg3)
      have HB3 := Lib.hid (HB2.out.trans hb3)
      clear hown3 hb3
      go_wp2
      rw [Exit.noGoto_ret]
      go_ret2
      exact RP.bad hx.out HB3.out
    | some n =>
      have ht := Lib.hid (numT_some hn)
      have HM := Lib.hid hn
      clear hn
      have hlen1 : Hid ((done ++ [(n : Int)]).length = done.length + 1) := Lib.hid (by simp)
      have hmap : Hid ((done ++ [(n : Int)]).map vI = done.map vI ++ [.int .i64 (n : Int)]) := Lib.hid (by simp [vI])
      cases hpp : pathL (done ++ [(n : Int)])
      · have hx : Hid (readP s.data.toList = none) := Lib.hid (by
          obtain ⟨r', h1, _, _⟩ := hpc.out
          rw [← HR.out]; exact rest_path h1 HM.out hpp)
        have HPP := Lib.hid hpp
        clear hpp
        go_wp2_with fail
        refine HC.out.mono ?_
        rintro e w1 ⟨rfl, hb1⟩
        have HB1 := Lib.hid (HB.out.trans (hb1.mono HB.out.size))
        have HO1 := Lib.hid (own_below HO.out hb1)
        clear hb1
        unfold cutT
        go_wp2_with fail
        refine (HN.out _ HB1.out).mono ?_
        rintro e w2 ⟨rfl, hb2⟩
        rw [ht.out]
        have HB2 := Lib.hid (HB1.out.trans (hb2.mono HB1.out.size))
        have HO2 := Lib.hid (own_below HO1.out hb2)
        clear hb2
        go_wp2_with (at_builtin; refine wp_app1 w2 rfl _ _ _ rfl w.heap.size 3 _ 8 Tryd.underlying25 infI rfl _ _ _ _ rfl HO2.out _ rfl rfl ?h63 ?hby ?hbase ?_; (case h63 => unfold maxLen; omega); (case hby => omega); (case hbase => exact HB2.out.size); intro g cap w3 hown3 hb3 hlt3 hg3)
        have HB3 := Lib.hid (HB2.out.trans hb3)
        have HO3 : Hid (w3.ownsRow w.heap.size 3 1 (.slice (some ⟨g, 0, none⟩) (done.length + 1) cap) (done.length + 1) ((done ++ [(n : Int)]).map vI)) := Lib.hid (by rw [hmap.out]; exact hown3)
        clear hown3 hb3
        have HP := Lib.hid (sign_path (some ⟨g, 0, none⟩) (done ++ [(n : Int)]) cap w3 _ (by rw [hlen1.out]; omega) (Rd.of_own HO3.out))
        rw [hlen1.out] at HP
        go_wp2_with fail
        refine HP.out.mono ?_
        rintro e w' ⟨rfl, rfl⟩
        rw [HPP.out]
        go_wp2
        rw [Exit.noGoto_ret]
        go_ret2
        exact RP.bad hx.out HB3.out
      · have HPP := Lib.hid hpp
        clear hpp
        cases hm : more
        · have hx : Hid (readP s.data.toList = some (done ++ [(n : Int)])) := Lib.hid (by
            obtain ⟨r', h1, _, h3⟩ := hpc.out
            obtain ⟨rfl, rfl⟩ := h3 hm
            rw [← HR.out]; exact rest_last h1 HM.out HPP.out)
          clear hpc
          subst hm
          go_wp2_with fail
          refine HC.out.mono ?_
          rintro e w1 ⟨rfl, hb1⟩
          have HB1 := Lib.hid (HB.out.trans (hb1.mono HB.out.size))
          have HO1 := Lib.hid (own_below HO.out hb1)
          clear hb1
          unfold cutT
          go_wp2_with fail
          refine (HN.out _ HB1.out).mono ?_
          rintro e w2 ⟨rfl, hb2⟩
          rw [ht.out]
          have HB2 := Lib.hid (HB1.out.trans (hb2.mono HB1.out.size))
          have HO2 := Lib.hid (own_below HO1.out hb2)
          clear hb2
          go_wp2_with (at_builtin; refine wp_app1 w2 rfl _ _ _ rfl w.heap.size 3 _ 8 Tryd.underlying25 infI rfl _ _ _ _ rfl HO2.out _ rfl rfl ?h63 ?hby ?hbase ?_; (case h63 => unfold maxLen; omega); (case hby => omega); (case hbase => exact HB2.out.size); intro g cap w3 hown3 hb3 hlt3 hg3)
          have HB3 := Lib.hid (HB2.out.trans hb3)
          have HO3 : Hid (w3.ownsRow w.heap.size 3 1 (.slice (some ⟨g, 0, none⟩) (done.length + 1) cap) (done.length + 1) ((done ++ [(n : Int)]).map vI)) := Lib.hid (by rw [hmap.out]; exact hown3)
          clear hown3 hb3
          have HP := Lib.hid (sign_path (some ⟨g, 0, none⟩) (done ++ [(n : Int)]) cap w3 _ (by rw [hlen1.out]; omega) (Rd.of_own HO3.out))
          rw [hlen1.out] at HP
          go_wp2_with fail
          refine HP.out.mono ?_
          rintro e w' ⟨rfl, rfl⟩
          rw [HPP.out]
          go_wp2
          rw [Exit.noGoto_ret]
          go_ret2
          exact RP.good hx.out HB3.out hlen1.out.symm HO3.out
        · have hnx : Hid (readRest (done ++ [(n : Int)]) t.data.toList = readP s.data.toList) := Lib.hid (by
            obtain ⟨r', h1, h2, _⟩ := hpc.out
            obtain ⟨rfl, _⟩ := h2 hm
            rw [← HR.out]; exact (rest_more h1 HM.out).symm)
          have htq : t.size < q.size := by
            obtain ⟨r', h1, h2, _⟩ := hpc.out
            exact (h2 hm).2
          clear hpc
          subst hm
          go_wp2_with fail
          refine HC.out.mono ?_
          rintro e w1 ⟨rfl, hb1⟩
          have HB1 := Lib.hid (HB.out.trans (hb1.mono HB.out.size))
          have HO1 := Lib.hid (own_below HO.out hb1)
          clear hb1
          unfold cutT
          go_wp2_with fail
          refine (HN.out _ HB1.out).mono ?_
          rintro e w2 ⟨rfl, hb2⟩
          rw [ht.out]
          have HB2 := Lib.hid (HB1.out.trans (hb2.mono HB1.out.size))
          have HO2 := Lib.hid (own_below HO1.out hb2)
          clear hb2
          go_wp2_with (at_builtin; refine wp_app1 w2 rfl _ _ _ rfl w.heap.size 3 _ 8 Tryd.underlying25 infI rfl _ _ _ _ rfl HO2.out _ rfl rfl ?h63 ?hby ?hbase ?_; (case h63 => unfold maxLen; omega); (case hby => omega); (case hbase => exact HB2.out.size); intro g cap w3 hown3 hb3 hlt3 hg3)
          have HB3 := Lib.hid (HB2.out.trans hb3)
          have HO3 : Hid (w3.ownsRow w.heap.size 3 1 (.slice (some ⟨g, 0, none⟩) (done.length + 1) cap) (done.length + 1) ((done ++ [(n : Int)]).map vI)) := Lib.hid (by rw [hmap.out]; exact hown3)
          clear hown3 hb3
          have HP := Lib.hid (sign_path (some ⟨g, 0, none⟩) (done ++ [(n : Int)]) cap w3 _ (by rw [hlen1.out]; omega) (Rd.of_own HO3.out))
          rw [hlen1.out] at HP
          go_wp2_with fail
          refine HP.out.mono ?_
          rintro e w' ⟨rfl, rfl⟩
          rw [HPP.out]
          go_wp2
          go_roundw
          case rel => exact ⟨t, done ++ [(n : Int)], some ⟨g, 0, none⟩, cap, rfl, by omega, HPP.out, hnx.out, by rw [hlen1.out], by rw [hlen1.out]; exact HO3.out, HB3.out⟩
          case measure => exact htq
end Go.Proofs.YthkofiakfmijiaaDoor
