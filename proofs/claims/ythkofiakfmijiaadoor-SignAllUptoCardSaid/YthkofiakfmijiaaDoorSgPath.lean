/-
  Paths and places, their texts, there and back: plain laws. Conditions: none.
-/
import Derived.Test.YthkofiakfmijiaaDoorSgNum
namespace Go.Proofs.YthkofiakfmijiaaDoor
open Go

/-- A path that may be. -/
def pathL (p : List Int) : Bool := decide (p.length < 64) && p.all (fun n => decide (0 ≤ n) && decide (n ≤ 1022))
/-- A path's text. -/
def pathT (p : List Int) : List UInt8 := if p = [] then [45] else Lib.join (p.map Lib.itoa) [46]
def numsL : List (List UInt8) → Option (List Int)
  | [] => some []
  | x :: r => match numL x, numsL r with
    | some n, some l => some ((n : Int) :: l)
    | _, _ => none
/-- What a text is read as: a path. -/
def readP (s : List UInt8) : Option (List Int) := if s = [45] then some [] else match numsL (pieces 46 s) with
  | some p => if pathL p then some p else none
  | none => none

theorem itoa_of {n : Int} (h : 0 ≤ n) : Lib.itoa n = Lib.decDigits n.toNat := by
  unfold Lib.itoa; rw [if_neg (by omega)]
theorem digB_ne {c d : UInt8} (h : digB c = true) (hd : digB d = false) : c ≠ d := by rintro rfl; rw [h] at hd; cases hd
theorem all_not {l : List UInt8} {d : UInt8} (h : l.all digB = true) (hd : digB d = false) : d ∉ l := by
  intro hm
  have := List.all_eq_true.1 h d hm
  rw [this] at hd; cases hd
theorem itoa_no {n : Int} (h : 0 ≤ n) {d : UInt8} (hd : digB d = false) : d ∉ Lib.itoa n := by
  rw [itoa_of h]; exact all_not (dec_all _).1 hd
theorem nums_itoa : ∀ (p : List Int), p.all (fun n => decide (0 ≤ n) && decide (n ≤ 1022)) = true → numsL (p.map Lib.itoa) = some p
  | [], _ => rfl
  | n :: p, h => by
    simp only [List.all_cons, Bool.and_eq_true, decide_eq_true_eq] at h
    obtain ⟨⟨h1, h2⟩, h3⟩ := h
    have e : numL (Lib.itoa n) = some n.toNat := by rw [itoa_of h1]; exact num_dec (by omega)
    simp only [List.map_cons, numsL, e, nums_itoa p h3]
    simp; omega
theorem itoa_nums : ∀ (l : List (List UInt8)) (p : List Int), numsL l = some p → p.map Lib.itoa = l ∧ p.length = l.length
  | [], p, h => by simp [numsL] at h; subst h; simp
  | x :: r, p, h => by
    unfold numsL at h
    cases hx : numL x with
    | none => rw [hx] at h; simp at h
    | some n =>
      cases hr : numsL r with
      | none => rw [hx, hr] at h; simp at h
      | some q =>
        rw [hx, hr] at h
        simp only [Option.some.injEq] at h
        subst h
        obtain ⟨h1, h2⟩ := itoa_nums r q hr
        obtain ⟨h3, _⟩ := num_some hx
        rw [List.map_cons, h1, itoa_of (by omega), List.length_cons, List.length_cons, h2]
        exact ⟨by rw [show ((n : Int)).toNat = n by omega, h3], rfl⟩
/-- A path's text is read back. -/
theorem read_text {p : List Int} (h : pathL p = true) : readP (pathT p) = some p := by
  have h0 := h
  unfold pathL at h
  simp only [Bool.and_eq_true, decide_eq_true_eq] at h
  obtain ⟨h1, h2⟩ := h
  unfold pathT
  by_cases hp : p = []
  · subst hp; rfl
  rw [if_neg hp]
  obtain ⟨n, r, rfl⟩ := List.exists_cons_of_ne_nil hp
  have hall : ∀ m ∈ n :: r, 0 ≤ m := fun m hm => by
    have := List.all_eq_true.1 h2 m hm
    simp at this; exact this.1
  have hno : ∀ m ∈ n :: r, (46 : UInt8) ∉ Lib.itoa m := fun m hm => itoa_no (hall m hm) (by decide)
  have e : pieces 46 (Lib.join ((n :: r).map Lib.itoa) [46]) = (n :: r).map Lib.itoa := by
    rw [List.map_cons]
    exact pieces_join _ _ (hno n (by simp)) (fun y hy => by
      obtain ⟨m, hm, rfl⟩ := List.mem_map.1 hy
      exact hno m (by simp [hm]))
  have hne : Lib.join ((n :: r).map Lib.itoa) [46] ≠ [45] := by
    intro he
    rw [he] at e
    have : (45 : UInt8) ∈ Lib.itoa n := by
      have : pieces 46 [45] = [[45]] := by decide
      rw [this] at e
      simp only [List.map_cons, List.cons.injEq] at e
      rw [← e.1]; simp
    exact itoa_no (hall n (by simp)) (by decide) this
  unfold readP
  rw [if_neg hne, e, nums_itoa _ h2]
  simp [h0]
/-- A text that is read is what would be written. -/
theorem text_read {s : List UInt8} {p : List Int} (h : readP s = some p) : pathT p = s ∧ pathL p = true := by
  unfold readP at h
  split at h
  · rename_i e
    cases h
    exact ⟨e.symm, rfl⟩
  split at h
  · rename_i q hq
    split at h
    · rename_i hp
      cases h
      obtain ⟨h1, h2⟩ := itoa_nums _ _ hq
      have hne : p ≠ [] := by
        rintro rfl
        have := pieces_ne 46 s
        simp at h2
        exact this (List.length_eq_zero_iff.1 h2.symm)
      refine ⟨?_, hp⟩
      unfold pathT
      rw [if_neg hne, h1, join_pieces]
    · cases h
  · cases h
theorem pathT_no {p : List Int} (h : pathL p = true) : (58 : UInt8) ∉ pathT p := by
  unfold pathL at h
  simp only [Bool.and_eq_true, decide_eq_true_eq] at h
  unfold pathT
  split
  · decide
  · rename_i hp
    obtain ⟨n, r, rfl⟩ := List.exists_cons_of_ne_nil hp
    rw [List.map_cons, Lib.join_cons]
    have hall : ∀ m ∈ n :: r, 0 ≤ m := fun m hm => by
      have := List.all_eq_true.1 h.2 m hm
      simp at this; exact this.1
    simp only [List.mem_append, not_or]
    refine ⟨itoa_no (hall n (by simp)) (by decide), ?_⟩
    simp only [Lib.joinTail, List.mem_flatten, List.mem_map, not_exists, not_and]
    rintro x ⟨y, ⟨m, hm, rfl⟩, rfl⟩ hx
    simp only [List.mem_append, List.mem_singleton] at hx
    rcases hx with hx | hx
    · cases hx
    · exact itoa_no (hall m (by simp [hm])) (by decide) hx

theorem join_len : ∀ (l : List (List UInt8)), (∀ x ∈ l, x.length ≤ 4) → (Lib.join l [46]).length ≤ 5 * l.length
  | [], _ => by simp [Lib.join_nil]
  | x :: r, h => by
    rw [Lib.join_length]
    have : ∀ (m : List (List UInt8)), (∀ y ∈ m, y.length ≤ 4) → Lib.lens m ≤ 4 * m.length := by
      intro m
      induction m with
      | nil => intro _; simp [Lib.lens]
      | cons y m ih =>
        intro hm
        have h1 := hm y (by simp)
        have h2 := ih (fun z hz => hm z (by simp [hz]))
        simp only [Lib.lens, List.map_cons, List.sum_cons, List.length_cons] at *
        omega
    have := this (x :: r) h
    simp only [List.length_cons, List.length_nil] at *
    omega
/-- What is read is short. -/
theorem read_short {s : List UInt8} {p : List Int} (h : readP s = some p) : s.length ≤ 320 := by
  obtain ⟨h1, h2⟩ := text_read h
  have h3 := h2
  unfold pathL at h3
  simp only [Bool.and_eq_true, decide_eq_true_eq] at h3
  rw [← h1]
  unfold pathT
  split
  · simp
  · refine Nat.le_trans (join_len _ ?_) (by rw [List.length_map]; omega)
    intro x hx
    obtain ⟨n, hn, rfl⟩ := List.mem_map.1 hx
    have := List.all_eq_true.1 h3.2 n hn
    simp at this
    rw [itoa_of this.1]
    exact dec_len (by omega)
end Go.Proofs.YthkofiakfmijiaaDoor
