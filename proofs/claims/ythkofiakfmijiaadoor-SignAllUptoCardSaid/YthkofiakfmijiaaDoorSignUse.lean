/-
  sign.Use, sign.PlaceText, sign.Names: walks, for every text and place. Conditions: a text within a row's reach; the library's variables are laid; for Names: a text below 2^32 bytes.
-/
import Derived.Test.YthkofiakfmijiaaDoorSignNumber
import Derived.Test.YthkofiakfmijiaaDoorSignText
import Derived.Lib.SplitLaws
namespace Go.Proofs.YthkofiakfmijiaaDoor
open Go.RowKit
set_option linter.unusedVariables false

def useB (s : ByteArray) : Bool := nameB s || (match numL s.data.toList with | some n => decide (1 ≤ n) && decide (n ≤ 64) | none => false)
theorem sign_Use (s : ByteArray) (w : World) (hs : s.size ≤ 140737488351232) : Calls Tryd.prog 17 #[.string s] w (Bel (.bool (useB s)) w) := by
  have HN := Lib.hid (sign_Name s w hs)
  cases hn : nameB s
  · have HU : ∀ w1, Below w.heap.size w w1 → Calls Tryd.prog 41 #[.string s] w1 fun e w' => e = .returned (numT s.data.toList) ∧ Below w.heap.size w w' := fun w1 hb =>
      (sign_number s w1 hs).mono fun e w' ⟨he, hb'⟩ => ⟨he, hb.trans (hb'.mono hb.size)⟩
    have HH := Lib.hid HU
    clear HU
    cases hq : numL s.data.toList with
    | none =>
      have hx := Lib.hid (show useB s = false by simp [useB, hn, hq])
      have ht := Lib.hid (numT_none hq)
      clear hq
      go_enter Tryd.func17, Tryd.ntmps17
      go_wp2_with fail
      refine HN.out.mono ?_
      rintro e w1 ⟨rfl, hb⟩
      rw [hn]
      have HB := Lib.hid hb
      clear hb hn
      go_wp2_with fail
      refine (HH.out _ HB.out).mono ?_
      rintro e w2 ⟨rfl, hb⟩
      rw [ht.out]
      have HB2 := Lib.hid hb
      clear hb
      go_wp2
      go_ret
      exact ⟨by rw [hx.out]; rfl, HB2.out⟩
    | some n =>
      have hx := Lib.hid (show useB s = (decide (1 ≤ (n : Int)) && decide ((n : Int) ≤ 64)) by
        simp only [useB, hn, hq, Bool.false_or]
        congr 1 <;> rw [decide_eq_decide] <;> omega)
      have ht := Lib.hid (numT_some hq)
      clear hq
      by_cases h1 : 1 ≤ (n : Int)
      · have h1d : decide (1 ≤ (n : Int)) = true := by simpa using h1
        go_enter Tryd.func17, Tryd.ntmps17
        go_wp2_with fail
        refine HN.out.mono ?_
        rintro e w1 ⟨rfl, hb⟩
        rw [hn]
        have HB := Lib.hid hb
        clear hb hn
        go_wp2_with fail
        refine (HH.out _ HB.out).mono ?_
        rintro e w2 ⟨rfl, hb⟩
        rw [ht.out]
        have HB2 := Lib.hid hb
        clear hb
        go_wp2
        go_ret
        exact ⟨by rw [hx.out, h1d]; rfl, HB2.out⟩
      · have h1d : decide (1 ≤ (n : Int)) = false := by simpa using h1
        go_enter Tryd.func17, Tryd.ntmps17
        go_wp2_with fail
        refine HN.out.mono ?_
        rintro e w1 ⟨rfl, hb⟩
        rw [hn]
        have HB := Lib.hid hb
        clear hb hn
        go_wp2_with fail
        refine (HH.out _ HB.out).mono ?_
        rintro e w2 ⟨rfl, hb⟩
        rw [ht.out]
        have HB2 := Lib.hid hb
        clear hb
        go_wp2
        go_ret
        exact ⟨by rw [hx.out, h1d]; rfl, HB2.out⟩
  · have hx := Lib.hid (show useB s = true by simp [useB, hn])
    go_enter Tryd.func17, Tryd.ntmps17
    go_wp2_with fail
    refine HN.out.mono ?_
    rintro e w1 ⟨rfl, hb⟩
    rw [hn]
    have HB := Lib.hid hb
    clear hb hn
    go_wp2
    go_ret
    exact ⟨by rw [hx.out]; rfl, HB.out⟩

/-- What PlaceText answers. -/
def placeTextV (f : ByteArray) (l : List Int) : ByteArray × Int :=
  if placeB f l then (if f = ⟨#[]⟩ then bytesOf (pathT l) else f ++ ⟨#[58]⟩ ++ bytesOf (pathT l), 0) else (⟨#[]⟩, 1)
theorem sign_PlaceText (f : ByteArray) (A : Option Addr) (l : List Int) (c : Nat) (w : World) (hs : f.size ≤ 140737488351232) (hl : l.length ≤ 140737488355328) (hR : RdI w w.heap.size A l) (hS : Sg w) :
    Calls Tryd.prog 9 #[.agg #[.string f, .slice A l.length c]] w (Bel (.tuple #[.string (placeTextV f l).1, .int .i64 (placeTextV f l).2]) w) := by
  have HB0 := Lib.hid (show Below w.heap.size w (w.alloc (.cells #[.string f, .slice A l.length c] 27)) from (Below.refl _ _).alloc (Nat.le_refl _) _)
  have HP := Lib.hid (sign_Place f A l c (w.alloc (.cells #[.string f, .slice A l.length c] 27)) hs hl (Rd.next hR HB0.out))
  have HT : Hid (∀ w1, Below w.heap.size w w1 → Calls Tryd.prog 23 #[.slice A l.length c] w1 fun e w' => e = .returned (.tuple #[.string (pathTextV l).1, .int .i64 (pathTextV l).2]) ∧ Below w.heap.size w w' ∧ Below w1.heap.size w1 w') :=
    Lib.hid fun w1 hb => (sign_PathText A l c w1 hl (Rd.next hR hb) (hS.below hb)).mono fun e w' ⟨he, hb'⟩ => ⟨he, hb.trans (hb'.mono hb.size), hb'⟩
  clear hR hS
  cases hp : placeB f l
  · have hx := Lib.hid (show placeTextV f l = (⟨#[]⟩, 1) by simp [placeTextV, hp])
    go_enter Tryd.func9, Tryd.ntmps9
    go_wp2_with fail
    refine HP.out.mono ?_
    rintro e w1 ⟨rfl, hb⟩
    rw [hp]
    have HB := Lib.hid (HB0.out.trans (hb.mono HB0.out.size))
    clear hb hp
    go_wp2
    go_ret2
    exact ⟨by rw [hx.out]; rfl, HB.out⟩
  have hpl : Hid (pathTextV l = (bytesOf (pathT l), 0)) := Lib.hid (by
    unfold placeB at hp
    simp only [Bool.and_eq_true] at hp
    simp [pathTextV, hp.2])
  have hx := Lib.hid (show placeTextV f l = (if f = ⟨#[]⟩ then bytesOf (pathT l) else f ++ ⟨#[58]⟩ ++ bytesOf (pathT l), 0) by simp [placeTextV, hp])
  by_cases h0 : f.toList = []
  · have hf : f = ⟨#[]⟩ := by
      apply ByteArray.ext; apply Array.ext'; rw [← Lib.toList_data]; exact h0
    have hx2 := Lib.hid (hx.out.trans (by rw [if_pos hf]))
    have h0b : f.toList.isEmpty = true := by simpa using h0
    clear hf
    go_enter Tryd.func9, Tryd.ntmps9
    go_wp2_with fail
    refine HP.out.mono ?_
    rintro e w1 ⟨rfl, hb⟩
    rw [hp]
    have HB := Lib.hid (HB0.out.trans (hb.mono HB0.out.size))
    have hc1 : w1.cell? ⟨w.heap.size, 1, none⟩ = some (.slice A l.length c) := (hb.cell (p := ⟨w.heap.size, 1, none⟩) (by simp)).trans (by simp)
    have hc0 : Hid (w1.cell? ⟨w.heap.size, 0, none⟩ = some (.string f)) := Lib.hid ((hb.cell (p := ⟨w.heap.size, 0, none⟩) (by simp)).trans (by simp))
    have hz : w.heap.size < w1.heap.size := by have := hb.size; simp at this; omega
    clear hb hp
    go_wp2_with fail
    refine (HT.out _ HB.out).mono ?_
    rintro e w2 ⟨rfl, hb2, hb3⟩
    rw [hpl.out]
    have hc : w2.cell? ⟨w.heap.size, 0, none⟩ = some (.string f) := (hb3.cell (p := ⟨w.heap.size, 0, none⟩) hz).trans hc0.out
    have HB2 := Lib.hid hb2
    clear hb2 hb3 hc1
    go_wp2
    go_ret2
    exact ⟨by rw [hx2.out]; rfl, HB2.out⟩
  · have hf : f ≠ ⟨#[]⟩ := by rintro rfl; exact h0 (by rw [Lib.toList_data])
    have hx2 := Lib.hid (hx.out.trans (by rw [if_neg hf]))
    have h0b : f.toList.isEmpty = false := by simpa using h0
    have hfs : f.size ≤ 32 := by
      unfold placeB nameB madeB at hp
      simp only [Bool.and_eq_true, Bool.or_eq_true, decide_eq_true_eq] at hp
      rcases hp.1 with h | h
      · exact absurd h hf
      · have := h.1.1.2; omega
    have hts : (bytesOf (pathT l)).size ≤ 320 := by
      unfold placeB at hp
      simp only [Bool.and_eq_true] at hp
      have := read_short (read_text hp.2)
      simpa [bytesOf, ByteArray.size] using this
    clear hf
    go_enter Tryd.func9, Tryd.ntmps9
    go_wp2_with fail
    refine HP.out.mono ?_
    rintro e w1 ⟨rfl, hb⟩
    rw [hp]
    have HB := Lib.hid (HB0.out.trans (hb.mono HB0.out.size))
    have hc1 : w1.cell? ⟨w.heap.size, 1, none⟩ = some (.slice A l.length c) := (hb.cell (p := ⟨w.heap.size, 1, none⟩) (by simp)).trans (by simp)
    have hc0 : Hid (w1.cell? ⟨w.heap.size, 0, none⟩ = some (.string f)) := Lib.hid ((hb.cell (p := ⟨w.heap.size, 0, none⟩) (by simp)).trans (by simp))
    have hz : w.heap.size < w1.heap.size := by have := hb.size; simp at this; omega
    clear hb hp
    go_wp2_with fail
    refine (HT.out _ HB.out).mono ?_
    rintro e w2 ⟨rfl, hb2, hb3⟩
    rw [hpl.out]
    have hc : w2.cell? ⟨w.heap.size, 0, none⟩ = some (.string f) := (hb3.cell (p := ⟨w.heap.size, 0, none⟩) hz).trans hc0.out
    have HB2 := Lib.hid hb2
    clear hb2 hb3 hc1
    go_wp2
    go_ret2
    exact ⟨by rw [hx2.out]; rfl, HB2.out⟩
end Go.Proofs.YthkofiakfmijiaaDoor
