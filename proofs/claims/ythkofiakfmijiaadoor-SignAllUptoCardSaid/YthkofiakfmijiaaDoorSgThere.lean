/-
  A place's text is read back; a text that is read is what would be written: plain laws. Conditions: none.
-/
import Derived.Test.YthkofiakfmijiaaDoorSignPlace
namespace Go.Proofs.YthkofiakfmijiaaDoor
open Go.RowKit

theorem name_no {f : ByteArray} (h : nameB f = true) : (58 : UInt8) ∉ f.data.toList ∧ f ≠ ⟨#[]⟩ := by
  unfold nameB madeB at h
  simp only [Bool.and_eq_true, decide_eq_true_eq] at h
  obtain ⟨⟨⟨h1, _⟩, _⟩, h3⟩ := h
  refine ⟨fun hm => ?_, by rintro rfl; exact h1 rfl⟩
  have := List.all_eq_true.1 h3 _ hm
  revert this
  decide
theorem bytesOf_data (l : List UInt8) : (bytesOf l).data.toList = l := rfl
theorem cutV_at {s : ByteArray} {c : UInt8} {a b : List UInt8} (h : s.data.toList = a ++ c :: b) (hn : c ∉ a) : cutV s c = (bytesOf a, bytesOf b, true) := by
  have hidx : Lib.indexByte s.data.toList c = (a.length : Int) := by
    rw [h]
    clear h
    induction a with
    | nil => simp [Lib.indexByte]
    | cons x a ih =>
      simp only [List.mem_cons, not_or] at hn
      have hx : (x == c) = false := by simp; exact fun e => hn.1 e.symm
      rw [List.cons_append, Lib.indexByte, hx, ih hn.2]
      have : ((a.length : Int) == -1) = false := by simp
      rw [this]; simp
  have h0 : 0 ≤ byteAt s c := by unfold byteAt; omega
  unfold cutV
  rw [if_pos h0]
  have hk : (byteAt s c).toNat = a.length := by unfold byteAt; omega
  rw [hk]
  refine Prod.ext (bytes_ext ?_) (Prod.ext (bytes_ext ?_) rfl)
  · show (s.extract 0 a.length).data.toList = _
    rw [ext_from_zero, h, bytesOf_data]; simp
  · show (s.extract (a.length + 1) s.size).data.toList = _
    rw [ext_to_end, h, bytesOf_data]
    rw [List.drop_append, List.drop_of_length_le (by omega)]
    simp
theorem cutV_no {s : ByteArray} {c : UInt8} (h : c ∉ s.data.toList) : cutV s c = (s, ⟨#[]⟩, false) := by
  cases hc : (cutV s c).2.2
  · exact (cut_miss hc).1
  · obtain ⟨e, _⟩ := cut_hit hc
    exact absurd (by rw [e]; simp) h
theorem place_parts {f : ByteArray} {l : List Int} (h : placeB f l = true) : (f = ⟨#[]⟩ ∨ nameB f = true) ∧ pathL l = true := by
  unfold placeB at h
  simpa using h
theorem text_code (f : ByteArray) (l : List Int) : (placeTextV f l).2 = if placeB f l then 0 else 1 := by
  unfold placeTextV
  split <;> rfl
theorem read_placeText {f : ByteArray} {l : List Int} (h : placeB f l = true) : readPl (placeTextV f l).1 = some (f, l) := by
  obtain ⟨h1, h2⟩ := place_parts h
  have hr := read_text h2
  have hno := pathT_no h2
  by_cases hf : f = ⟨#[]⟩
  · subst hf
    have e : (placeTextV ⟨#[]⟩ l).1 = bytesOf (pathT l) := by simp [placeTextV, h]
    rw [e]
    unfold readPl
    rw [cutV_no (by rw [bytesOf_data]; exact hno)]
    simp only [Bool.false_eq_true, if_false, bytesOf_data, hr]
  · have hn : nameB f = true := by
      rcases h1 with h1 | h1
      · exact absurd h1 hf
      · exact h1
    have e : (placeTextV f l).1.data.toList = f.data.toList ++ 58 :: pathT l := by
      have : (placeTextV f l).1 = f ++ ⟨#[58]⟩ ++ bytesOf (pathT l) := by simp [placeTextV, h, hf]
      rw [this]
      simp [ByteArray.data_append, bytesOf]
    unfold readPl
    rw [cutV_at e (name_no hn).1]
    have hb : bytesOf f.data.toList = f := Lib.mk_data f
    simp only [bytesOf_data, hr, hb, hn, if_true]
theorem placeText_read {s f : ByteArray} {l : List Int} (h : readPl s = some (f, l)) : placeTextV f l = (s, 0) ∧ placeB f l = true := by
  unfold readPl at h
  cases hc : (cutV s 58).2.2
  · rw [hc] at h
    simp only [Bool.false_eq_true, if_false] at h
    cases hr : readP s.data.toList with
    | none => rw [hr] at h; cases h
    | some p =>
      rw [hr] at h
      simp only [Option.some.injEq, Prod.mk.injEq] at h
      obtain ⟨rfl, rfl⟩ := h
      obtain ⟨h1, h2⟩ := text_read hr
      have hp : placeB ⟨#[]⟩ p = true := by simp [placeB, h2]
      refine ⟨?_, hp⟩
      unfold placeTextV
      rw [if_pos hp, if_pos rfl, h1]
      exact Prod.ext (Lib.mk_data s) rfl
  · rw [hc] at h
    simp only [if_true] at h
    obtain ⟨e, hno, _⟩ := cut_hit hc
    cases hr : readP (cutV s 58).2.1.data.toList with
    | none => rw [hr] at h; cases h
    | some p =>
      rw [hr] at h
      simp only at h
      split at h
      · rename_i hn
        simp only [Option.some.injEq, Prod.mk.injEq] at h
        obtain ⟨hf, rfl⟩ := h
        obtain ⟨h1, h2⟩ := text_read hr
        rw [hf] at hn e
        have hp : placeB f p = true := by simp [placeB, h2, hn]
        refine ⟨?_, hp⟩
        unfold placeTextV
        rw [if_pos hp, if_neg (name_no hn).2, h1]
        refine Prod.ext (bytes_ext ?_) rfl
        show (f ++ ⟨#[58]⟩ ++ bytesOf (cutV s 58).2.1.data.toList).data.toList = _
        rw [e]
        simp [ByteArray.data_append, bytesOf]
      · cases h
end Go.Proofs.YthkofiakfmijiaaDoor
