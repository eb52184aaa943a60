/-
  sign.Place, sign.PathText: walks, for every path and place. Conditions: a text within a row's reach; the library's table of powers of ten is laid.
-/
import Derived.Test.YthkofiakfmijiaaDoorSignPath
import Derived.Test.YthkofiakfmijiaaDoorShelf
import Derived.Lib.AppendIntMem
namespace Go.Proofs.YthkofiakfmijiaaDoor
open Go.RowKit
set_option linter.unusedVariables false

theorem sign_Place (f : ByteArray) (A : Option Addr) (l : List Int) (c : Nat) (w : World) (hs : f.size ≤ 140737488351232) (hl : l.length ≤ 140737488355328) (hR : RdI w w.heap.size A l) :
    Calls Tryd.prog 10 #[.agg #[.string f, .slice A l.length c]] w (Bel (.bool (placeB f l)) w) := by
  have hb0 : Below w.heap.size w (w.alloc (.cells #[.string f, .slice A l.length c] 27)) := (Below.refl _ _).alloc (Nat.le_refl _) _
  have HP : Hid (∀ w1, Below w.heap.size w w1 → Calls Tryd.prog 30 #[.slice A l.length c] w1 fun e w' => e = .returned (.bool (pathL l)) ∧ w1 = w') :=
    Lib.hid fun w1 hb => sign_path A l c w1 w.heap.size hl (Rd.below hR hb)
  have HB0 := Lib.hid hb0
  clear hb0 hR
  by_cases h0 : f.toList = []
  · have hf : f = ⟨#[]⟩ := by
      apply ByteArray.ext; apply Array.ext'; rw [← Lib.toList_data]; exact h0
    subst hf
    have hx := Lib.hid (show placeB ⟨#[]⟩ l = pathL l by simp [placeB])
    go_enter Tryd.func10, Tryd.ntmps10
    go_wp2_with fail
    refine (HP.out _ HB0.out).mono ?_
    rintro e w' ⟨rfl, rfl⟩
    go_wp2
    go_ret
    exact ⟨by rw [hx.out]; rfl, HB0.out⟩
  · have hne : f ≠ ⟨#[]⟩ := by rintro rfl; exact h0 (by rw [Lib.toList_data])
    have h0b : f.toList.isEmpty = false := by simpa using h0
    have HN := Lib.hid (sign_Name f (w.alloc (.cells #[.string f, .slice A l.length c] 27)) hs)
    cases hn : nameB f
    · have hx := Lib.hid (show placeB f l = false by simp [placeB, hn, hne])
      go_enter Tryd.func10, Tryd.ntmps10
      go_wp2_with fail
      refine HN.out.mono ?_
      rintro e w' ⟨rfl, hb⟩
      rw [hn]
      have HB1 := Lib.hid (HB0.out.trans (hb.mono HB0.out.size))
      clear hb hn
      go_wp2
      go_ret
      exact ⟨by rw [hx.out]; rfl, HB1.out⟩
    · have hx := Lib.hid (show placeB f l = pathL l by simp [placeB, hn])
      go_enter Tryd.func10, Tryd.ntmps10
      go_wp2_with fail
      refine HN.out.mono ?_
      rintro e w' ⟨rfl, hb⟩
      rw [hn]
      have HB1 := Lib.hid (HB0.out.trans (hb.mono HB0.out.size))
      have hc : w'.cell? ⟨w.heap.size, 1, none⟩ = some (.slice A l.length c) := (hb.cell (p := ⟨w.heap.size, 1, none⟩) (by simp)).trans (by simp)
      clear hb hn
      go_wp2_with fail
      refine (HP.out _ HB1.out).mono ?_
      rintro e w' ⟨rfl, rfl⟩
      go_wp2
      go_ret
      exact ⟨by rw [hx.out]; rfl, HB1.out⟩

def bytesOf (l : List UInt8) : ByteArray := ⟨l.toArray⟩
/-- What PathText answers. -/
def pathTextV (l : List Int) : ByteArray × Int := if pathL l then (bytesOf (pathT l), 0) else (⟨#[]⟩, 1)
def itoaV (n : Int) : Value := .string ⟨(Lib.itoa n).toArray⟩
theorem pathL_rng {l : List Int} (h : pathL l = true) {k : Nat} (hk : k < l.length) : 0 ≤ l[k]'hk ∧ l[k]'hk ≤ 1022 := by
  unfold pathL at h
  simp only [Bool.and_eq_true, decide_eq_true_eq] at h
  have := List.all_eq_true.1 h.2 _ (List.getElem_mem hk)
  simpa using this
theorem sign_itoa (n : Int) (w : World) (h : 0 ≤ n ∧ n ≤ 1022) (hS : Sg w) : Calls Tryd.prog 49 #[.int .i64 n] w (Bel (itoaV n) w) :=
  (Tryd.strconv_Itoa n (by omega) (by omega) w hS.tab).mono fun e w' ⟨he, k, os, hw⟩ => ⟨he, by rw [hw]; exact Lib.below_grow _ w (Nat.le_refl _) k os⟩
set_option maxHeartbeats 2000000 in
theorem sign_PathText (A : Option Addr) (l : List Int) (c : Nat) (w : World) (hl : l.length ≤ 140737488355328) (hR : RdI w w.heap.size A l) (hS : Sg w) :
    Calls Tryd.prog 23 #[.slice A l.length c] w (Bel (.tuple #[.string (pathTextV l).1, .int .i64 (pathTextV l).2]) w) := by
  have HP := Lib.hid (sign_path A l c w _ hl hR)
  cases hp : pathL l
  · have hx := Lib.hid (show pathTextV l = (⟨#[]⟩, 1) by simp [pathTextV, hp])
    go_enter Tryd.func23, Tryd.ntmps23
    go_wp2_with fail
    refine HP.out.mono ?_
    rintro e w' ⟨rfl, rfl⟩
    rw [hp]
    clear hp
    go_wp2
    go_ret2
    exact ⟨by rw [hx.out]; rfl, Below.refl _ _⟩
  by_cases hn : l = []
  · subst hn
    go_enter Tryd.func23, Tryd.ntmps23
    go_wp2_with fail
    refine HP.out.mono ?_
    rintro e w' ⟨rfl, rfl⟩
    rw [hp]
    clear hp
    go_wp2
    go_ret2
    exact ⟨by rfl, Below.refl _ _⟩
  have hx := Lib.hid (show pathTextV l = (bytesOf (Lib.join (l.map Lib.itoa) [46]), 0) by simp [pathTextV, hp, pathT, hn])
  have hpos : 0 < l.length := by
    rcases Nat.eq_zero_or_pos l.length with h | h
    · exact absurd (List.length_eq_zero_iff.1 h) hn
    · exact h
  have hlen0 : ((l.length : Int) == 0) = false := by simp; omega
  have h64 : l.length < 64 := by
    unfold pathL at hp
    simp only [Bool.and_eq_true, decide_eq_true_eq] at hp
    exact hp.1
  have HPL := Lib.hid hp
  have HR := Lib.hid hR
  have HS := Lib.hid hS
  have hw0 : Hid (Below w.heap.size w w) := Lib.hid (Below.refl _ _)
  clear hn hR hS
  go_enter Tryd.func23, Tryd.ntmps23
  go_wp2_with fail
  refine HP.out.mono ?_
  rintro e w' ⟨rfl, rfl⟩
  rw [hp]
  clear hp
  go_wp2
  go_loopw [4, 15] (fun v i wr => ∃ (k : Nat) (A1 : Option Addr) (c1 : Nat), k ≤ l.length ∧ i = .int .i64 k ∧ v = .slice A1 k c1 ∧ wr.ownsRow w.heap.size 9 1 (.slice A1 k c1) k ((l.take k).map itoaV) ∧ Below w.heap.size w wr) (fun v i wr => l.length - (intOf i).toNat)
  case atStart => exact ⟨0, none, 0, Nat.zero_le _, rfl, rfl, World.ownsRow_nil _ _ _ _, hw0.out⟩
  case round =>
    obtain ⟨k, A1, c1, hk, rfl, rfl, hown, hbel⟩ := hrel
    have HO := Lib.hid hown
    have HB := Lib.hid hbel
    clear hown hbel
    by_cases hlt : k < l.length
    · obtain ⟨ad, rfl, _, hc⟩ := RdI.at_ (Rd.below HR.out HB.out) hlt
      have hit := Lib.hid (sign_itoa (l[k]'hlt) wr (pathL_rng HPL.out hlt) (HS.out.below HB.out))
      have htk := Lib.hid (show (l.take (k + 1)).map itoaV = (l.take k).map itoaV ++ [itoaV (l[k]'hlt)] by rw [List.take_succ_eq_append_getElem hlt, List.map_append]; rfl)
      go_wp2_with fail
      refine hit.out.mono ?_
      rintro e w2 ⟨rfl, hb2⟩
      have hs2 := hb2.size
      have HB2 := Lib.hid (HB.out.trans (hb2.mono HB.out.size))
      have HO2 := Lib.hid (own_below HO.out hb2)
      clear hb2 hc
      unfold itoaV
      go_wp2_with (at_builtin; refine wp_app1 w2 rfl _ _ _ rfl w.heap.size 9 _ 16 Tryd.underlying41 infS rfl _ _ _ _ rfl HO2.out _ rfl rfl ?h63 ?hby ?hbase ?_; (case h63 => unfold maxLen; omega); (case hby => omega); (case hbase => exact HB2.out.size); intro g cap w3 hown3 hb3 hlt3 hg3)
      have HO3 := Lib.hid hown3
      have HB3 := Lib.hid (HB2.out.trans hb3)
      clear hown3 hb3
      go_wp2
      go_roundw
      case rel => exact ⟨k + 1, some ⟨g, 0, none⟩, cap, by omega, by go_num, rfl, by rw [htk.out]; exact HO3.out, HB3.out⟩
      case measure => simp [intOf]; omega
    · obtain rfl : k = l.length := by omega
      obtain ⟨g, c2, hv, _, hlt2⟩ := HO.out.form hpos
      have hA : A1 = some ⟨g, 0, none⟩ ∧ c1 = c2 := by injection hv; exact ⟨by assumption, by assumption⟩
      obtain ⟨rfl, rfl⟩ := hA
      have hcs : ∀ (j : Nat) (x : ByteArray), (l.map (fun n => (⟨(Lib.itoa n).toArray⟩ : ByteArray)))[j]? = some x → wr.cell? ⟨g, 0 + j, none⟩ = some (.string x) := by
        intro j x hj
        have hlen : j < l.length := by
          rw [List.getElem?_map] at hj
          rcases Nat.lt_or_ge j l.length with h | h
          · exact h
          · rw [List.getElem?_eq_none h] at hj; cases hj
        have := HO.out.cellAt j (by omega)
        rw [Nat.zero_add, this, List.take_of_length_le (Nat.le_refl _)]
        rw [List.getElem?_map] at hj ⊢
        rw [List.getElem?_eq_getElem hlen] at hj ⊢
        simp at hj
        simp [itoaV, hj]
      have hmm : (l.map (fun n => (⟨(Lib.itoa n).toArray⟩ : ByteArray))).map (·.data.toList) = l.map Lib.itoa := by
        rw [List.map_map]; congr 1
      have hjl : (Lib.join (l.map Lib.itoa) [46]).length ≤ 320 := by
        refine Nat.le_trans (join_len _ ?_) (by rw [List.length_map]; omega)
        intro x hx
        obtain ⟨n, hn, rfl⟩ := List.mem_map.1 hx
        obtain ⟨j, hj, rfl⟩ := List.getElem_of_mem hn
        have := pathL_rng HPL.out hj
        rw [itoa_of this.1]
        exact dec_len (by omega)
      have hcap : l.length ≤ c1 := by
        rcases HO.out.2 with ⟨_, h0⟩ | ⟨_, _, _, hv', _, _, hcp⟩
        · omega
        · injection hv'
          subst_vars
          exact hcp.1
      have HJ := Lib.hid (Tryd.strings_Join g 0 c1 (l.map (fun n => (⟨(Lib.itoa n).toArray⟩ : ByteArray))) ⟨#[46]⟩ wr hcs hlt2 (by rw [List.length_map]; omega) (by rw [List.length_map]; exact hcap) (by rw [hmm]; show (Lib.join (l.map Lib.itoa) [46]).length ≤ _; omega))
      have HM := Lib.hid hmm
      clear hcs hmm
      go_wp2_with fail
      rw [List.length_map] at HJ
      refine HJ.out.mono ?_
      rintro e w2 ⟨rfl, hb2⟩
      rw [HM.out]
      have HB2 := Lib.hid (HB.out.trans (hb2.mono HB.out.size))
      clear hb2
      go_wp2
      go_ret2
      exact ⟨by rw [hx.out]; rfl, HB2.out⟩
end Go.Proofs.YthkofiakfmijiaaDoor
