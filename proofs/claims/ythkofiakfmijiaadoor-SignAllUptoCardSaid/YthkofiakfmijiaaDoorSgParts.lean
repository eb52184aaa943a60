/-
  A kind's name of two words, names put together with blanks: plain laws. Conditions: none.
-/
import Derived.Test.YthkofiakfmijiaaDoorSgThere
import Derived.Test.YthkofiakfmijiaaDoorSignNames
namespace Go.Proofs.YthkofiakfmijiaaDoor
open Go.RowKit

theorem word_no {s : ByteArray} (h : wordB s = true) : (46 : UInt8) ∉ s.data.toList := by
  unfold wordB madeB at h
  simp only [Bool.and_eq_true, decide_eq_true_eq] at h
  intro hm
  have := List.all_eq_true.1 h.2 _ hm
  revert this
  decide
theorem kind_two (s u : ByteArray) : kindV (s ++ ⟨#[46]⟩ ++ u) = if wordB s && wordB u then (s, u, true) else (⟨#[]⟩, ⟨#[]⟩, false) := by
  have hd : (s ++ ⟨#[46]⟩ ++ u).data.toList = s.data.toList ++ 46 :: u.data.toList := by simp [ByteArray.data_append]
  by_cases hn : (46 : UInt8) ∈ s.data.toList
  · have hws : wordB s = false := by
      cases h : wordB s
      · rfl
      · exact absurd hn (word_no h)
    have hno : ((cutV (s ++ ⟨#[46]⟩ ++ u) 46).2.2 && wordB (cutV (s ++ ⟨#[46]⟩ ++ u) 46).1 && wordB (cutV (s ++ ⟨#[46]⟩ ++ u) 46).2.1) = false := by
      obtain ⟨a, b, e, ha⟩ : ∃ a b, s.data.toList = a ++ 46 :: b ∧ (46 : UInt8) ∉ a := by
        have hgen : ∀ l : List UInt8, (46 : UInt8) ∈ l → ∃ a b, l = a ++ 46 :: b ∧ (46 : UInt8) ∉ a := by
          intro l
          induction l with
          | nil => intro h; cases h
          | cons x l ih =>
            intro h
            by_cases hx : x = 46
            · exact ⟨[], l, by rw [hx]; rfl, by simp⟩
            · obtain ⟨a, b, e, ha⟩ := ih (by
                rcases List.mem_cons.1 h with h1 | h1
                · exact absurd h1.symm hx
                · exact h1)
              exact ⟨x :: a, b, by rw [e]; rfl, by
                simp only [List.mem_cons, not_or]
                exact ⟨fun e => hx e.symm, ha⟩⟩
        exact hgen _ hn
      have e2 : (s ++ ⟨#[46]⟩ ++ u).data.toList = a ++ 46 :: (b ++ 46 :: u.data.toList) := by rw [hd, e]; simp
      rw [cutV_at e2 ha]
      have hw : wordB (bytesOf (b ++ 46 :: u.data.toList)) = false := by
        cases h : wordB (bytesOf (b ++ 46 :: u.data.toList))
        · rfl
        · exact absurd (by rw [bytesOf_data]; simp) (word_no h)
      simp [hw]
    unfold kindV
    rw [hno, hws]; rfl
  · have e := cutV_at hd hn
    have h1 : bytesOf s.data.toList = s := Lib.mk_data s
    have h2 : bytesOf u.data.toList = u := Lib.mk_data u
    rw [h1, h2] at e
    unfold kindV
    rw [e]
    simp
theorem use_name {s : ByteArray} (h : nameB s = true) : useB s = true := by simp [useB, h]

/-- Texts with blanks between. -/
def glueL (l : List ByteArray) : List UInt8 := Lib.join (l.map (·.data.toList)) [32]
theorem glue_nil : glueL [] = [] := rfl
theorem glue_one (x : ByteArray) : glueL [x] = x.data.toList := by simp [glueL, Lib.join_one]
theorem glue_snoc {l : List ByteArray} (h : l ≠ []) (x : ByteArray) : glueL (l ++ [x]) = glueL l ++ 32 :: x.data.toList := by
  obtain ⟨y, r, rfl⟩ := List.exists_cons_of_ne_nil h
  unfold glueL
  rw [List.cons_append, List.map_cons, List.map_cons, Lib.join_cons, Lib.join_cons, List.map_append]
  simp [Lib.joinTail]
theorem glue_len (l : List ByteArray) : (glueL l).length ≤ Lib.lens (l.map (·.data.toList)) + l.length := by
  cases l with
  | nil => simp [glueL, Lib.join_nil]
  | cons x r =>
    unfold glueL
    rw [List.map_cons, Lib.join_length, List.length_map, List.length_cons]
    simp; omega
theorem lens_take (l : List ByteArray) (k : Nat) : Lib.lens ((l.take k).map (·.data.toList)) + (l.take k).length ≤ Lib.lens (l.map (·.data.toList)) + l.length := by
  have := Lib.lens_take_le (l.map (·.data.toList)) k
  rw [← List.map_take] at this
  have h2 : (l.take k).length ≤ l.length := by simp; omega
  omega
theorem names_glue {l : List ByteArray} {t : ByteArray} (ht : t.data.toList = glueL l) (hne : t.data.toList ≠ []) (hb : ∀ x ∈ l, (32 : UInt8) ∉ x.data.toList) : namesV t = if l.all nameB then some l else none := by
  have hl : l ≠ [] := by rintro rfl; exact hne (by rw [ht]; rfl)
  obtain ⟨y, r, rfl⟩ := List.exists_cons_of_ne_nil hl
  have hp : pieces 32 t.data.toList = (y :: r).map (·.data.toList) := by
    rw [ht]
    unfold glueL
    rw [List.map_cons]
    exact pieces_join _ _ (hb y (by simp)) (fun z hz => by
      obtain ⟨q, hq, rfl⟩ := List.mem_map.1 hz
      exact hb q (by simp [hq]))
  have hbl : blanksL t = y :: r := by
    unfold blanksL
    rw [hp, List.map_map]
    conv => rhs; rw [← List.map_id (y :: r)]
    exact List.map_congr_left fun x _ => Lib.mk_data x
  unfold namesV
  rw [if_neg hne, hbl]
end Go.Proofs.YthkofiakfmijiaaDoor
