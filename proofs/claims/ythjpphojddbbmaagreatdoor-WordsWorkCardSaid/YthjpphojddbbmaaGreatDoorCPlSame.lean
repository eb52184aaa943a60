/-
  When two plain values are the same, and two values. Plain. Conditions: none.
-/
import Derived.Test.YthjpphojddbbmaaGreatDoorCWorthVal
namespace Go.Proofs.YthjpphojddbbmaaGreatDoor
open Go.RowKit
set_option linter.unusedVariables false

mutual
/-- The same, field by field. -/
def Pl.eqB : Pl → Pl → Bool
  | .mk k n t l, .mk k' n' t' l' => decide (k = k') && decide (n = n') && decide (t = t') && Pls.eqB l l'
def Pls.eqB : List Pl → List Pl → Bool
  | [], [] => true
  | p :: ps, q :: qs => p.eqB q && Pls.eqB ps qs
  | _, _ => false
end
mutual
/-- The same value. -/
def Vl.sameB : Vl → Vl → Bool
  | .unit, .unit => true
  | .truth a, .truth b => a == b
  | .int a, .int b => decide (a = b)
  | .text s, .text t => decide (s = t)
  | .list l, .list m => Vls.sameB l m
  | _, _ => false
def Vls.sameB : List Vl → List Vl → Bool
  | [], [] => true
  | x :: xs, y :: ys => x.sameB y && Vls.sameB xs ys
  | _, _ => false
end
mutual
/-- Of a form that may be, at any depth. -/
def Pl.normB : Pl → Bool
  | .mk k n t l => goodB k n t l.length 0 && Pls.normB l
def Pls.normB : List Pl → Bool
  | [] => true
  | p :: ps => p.normB && Pls.normB ps
end
theorem good_any {k n : Int} {t : ByteArray} {len : Nat} {deep : Int} (h : goodB k n t len deep = true) : goodB k n t len 0 = true := by
  unfold goodB at h ⊢
  by_cases h1 : k = 1
  · rw [if_pos h1] at h ⊢; exact h
  by_cases h2 : k = 2
  · rw [if_neg h1, if_pos h2] at h ⊢; exact h
  by_cases h3 : k = 3
  · rw [if_neg h1, if_neg h2, if_pos h3] at h ⊢; exact h
  by_cases h4 : k = 4
  · rw [if_neg h1, if_neg h2, if_neg h3, if_pos h4] at h ⊢; exact h
  by_cases h5 : k = 5
  · rw [if_neg h1, if_neg h2, if_neg h3, if_neg h4, if_pos h5] at h ⊢
    simp only [Bool.and_eq_true] at h ⊢
    exact ⟨h.1, by decide⟩
  · rw [if_neg h1, if_neg h2, if_neg h3, if_neg h4, if_neg h5] at h; cases h
mutual
theorem Pl.left_norm : ∀ (p : Pl) (m deep : Int), 0 ≤ p.left m deep → p.normB = true
  | .mk k n t l, m, deep, h => by
    unfold Pl.left at h
    by_cases hb : goodB k n t l.length deep = false ∨ m - 1 - (t.size : Int) < 0
    · rw [if_pos hb] at h; omega
    · rw [if_neg hb] at h
      have hg : goodB k n t l.length deep = true := by
        cases hq : goodB k n t l.length deep
        · exact absurd (.inl hq) hb
        · rfl
      unfold Pl.normB
      rw [Pls.left_norm l _ _ h, Bool.and_true]
      exact good_any hg
theorem Pls.left_norm : ∀ (l : List Pl) (m deep : Int), 0 ≤ Pls.left l m deep → Pls.normB l = true
  | [], m, deep, h => by unfold Pls.normB; rfl
  | p :: ps, m, deep, h => by
    unfold Pls.left at h
    by_cases h0 : 0 ≤ m
    · rw [if_pos h0] at h
      have h1 : 0 ≤ p.left m deep := by
        rcases Int.lt_or_le (p.left m deep) 0 with h2 | h2
        · rw [Pls.left_neg _ _ _ (by omega)] at h; exact h
        · exact h2
      unfold Pls.normB
      rw [Pl.left_norm p _ _ h1, Pls.left_norm ps _ _ h]
      rfl
    · rw [if_neg h0] at h; omega
end
theorem good_1 {n : Int} {t : ByteArray} {len : Nat} (h : goodB 1 n t len 0 = true) : n = 0 ∧ t.size = 0 ∧ len = 0 := by simpa [goodB, and_assoc] using h
theorem good_2 {n : Int} {t : ByteArray} {len : Nat} (h : goodB 2 n t len 0 = true) : (n = 0 ∨ n = 1) ∧ t.size = 0 ∧ len = 0 := by simpa [goodB, and_assoc] using h
theorem good_3 {n : Int} {t : ByteArray} {len : Nat} (h : goodB 3 n t len 0 = true) : t.size = 0 ∧ len = 0 := by simpa [goodB, and_assoc] using h
theorem good_4 {n : Int} {t : ByteArray} {len : Nat} (h : goodB 4 n t len 0 = true) : n = 0 ∧ len = 0 := by simpa [goodB, and_assoc] using h
theorem good_5 {n : Int} {t : ByteArray} {len : Nat} (h : goodB 5 n t len 0 = true) : n = 0 ∧ t.size = 0 := by simpa [goodB, and_assoc] using h
theorem size0 {t : ByteArray} (h : t.size = 0) : t = ⟨#[]⟩ := by
  obtain ⟨d⟩ := t
  have : d.size = 0 := h
  rw [Array.eq_empty_of_size_eq_zero this]
theorem toVl_mk {k n : Int} {t : ByteArray} {l : List Pl} : (Pl.mk k n t l).toVl = if k = 2 then .truth (decide (n = 1)) else if k = 3 then .int n else if k = 4 then .text t else if k = 5 then .list (Pls.toVl l) else .unit := by
  rw [Pl.toVl]
mutual
theorem Pl.same_eq : ∀ (p q : Pl), p.normB = true → q.normB = true → p.toVl.sameB q.toVl = p.eqB q
  | .mk k n t l, .mk k' n' t' l', hp, hq => by
    unfold Pl.normB at hp hq
    simp only [Bool.and_eq_true] at hp hq
    have ih := Pls.same_eq l l' hp.2 hq.2
    unfold Pl.eqB
    have h1 := hp.1
    have h2 := hq.1
    rcases good_kind h1 with rfl | rfl | rfl | rfl | rfl
    · obtain ⟨rfl, ht, hl⟩ := good_1 h1
      obtain rfl := size0 ht
      obtain rfl := List.eq_nil_of_length_eq_zero hl
      rcases good_kind h2 with rfl | rfl | rfl | rfl | rfl
      · obtain ⟨rfl, ht, hl⟩ := good_1 h2
        obtain rfl := size0 ht
        obtain rfl := List.eq_nil_of_length_eq_zero hl
        simp [toVl_mk, Vl.sameB, Pls.eqB]
      all_goals simp [toVl_mk, Vl.sameB]
    · obtain ⟨hn, ht, hl⟩ := good_2 h1
      obtain rfl := size0 ht
      obtain rfl := List.eq_nil_of_length_eq_zero hl
      rcases good_kind h2 with rfl | rfl | rfl | rfl | rfl
      · simp [toVl_mk, Vl.sameB]
      · obtain ⟨hn', ht, hl⟩ := good_2 h2
        obtain rfl := size0 ht
        obtain rfl := List.eq_nil_of_length_eq_zero hl
        rcases hn with rfl | rfl <;> rcases hn' with rfl | rfl <;> simp [toVl_mk, Vl.sameB, Pls.eqB]
      all_goals simp [toVl_mk, Vl.sameB]
    · obtain ⟨ht, hl⟩ := good_3 h1
      obtain rfl := size0 ht
      obtain rfl := List.eq_nil_of_length_eq_zero hl
      rcases good_kind h2 with rfl | rfl | rfl | rfl | rfl
      · simp [toVl_mk, Vl.sameB]
      · simp [toVl_mk, Vl.sameB]
      · obtain ⟨ht, hl⟩ := good_3 h2
        obtain rfl := size0 ht
        obtain rfl := List.eq_nil_of_length_eq_zero hl
        simp [toVl_mk, Vl.sameB, Pls.eqB]
      all_goals simp [toVl_mk, Vl.sameB]
    · obtain ⟨rfl, hl⟩ := good_4 h1
      obtain rfl := List.eq_nil_of_length_eq_zero hl
      rcases good_kind h2 with rfl | rfl | rfl | rfl | rfl
      · simp [toVl_mk, Vl.sameB]
      · simp [toVl_mk, Vl.sameB]
      · simp [toVl_mk, Vl.sameB]
      · obtain ⟨rfl, hl⟩ := good_4 h2
        obtain rfl := List.eq_nil_of_length_eq_zero hl
        simp [toVl_mk, Vl.sameB, Pls.eqB]
      · simp [toVl_mk, Vl.sameB]
    · obtain ⟨rfl, ht⟩ := good_5 h1
      obtain rfl := size0 ht
      rcases good_kind h2 with rfl | rfl | rfl | rfl | rfl
      · simp [toVl_mk, Vl.sameB]
      · simp [toVl_mk, Vl.sameB]
      · simp [toVl_mk, Vl.sameB]
      · simp [toVl_mk, Vl.sameB]
      · obtain ⟨rfl, ht⟩ := good_5 h2
        obtain rfl := size0 ht
        simp [toVl_mk, Vl.sameB, ih]
theorem Pls.same_eq : ∀ (l m : List Pl), Pls.normB l = true → Pls.normB m = true → Vls.sameB (Pls.toVl l) (Pls.toVl m) = Pls.eqB l m
  | [], [], _, _ => by simp [Pls.toVl, Vls.sameB, Pls.eqB]
  | [], q :: qs, _, _ => by simp [Pls.toVl, Vls.sameB, Pls.eqB]
  | p :: ps, [], _, _ => by simp [Pls.toVl, Vls.sameB, Pls.eqB]
  | p :: ps, q :: qs, hp, hq => by
    unfold Pls.normB at hp hq
    simp only [Bool.and_eq_true] at hp hq
    simp only [Pls.toVl, Vls.sameB, Pls.eqB]
    rw [Pl.same_eq p q hp.1 hq.1, Pls.same_eq ps qs hp.2 hq.2]
end
theorem Pls.eqB_len : ∀ {l m : List Pl}, Pls.eqB l m = true → l.length = m.length
  | [], [], _ => rfl
  | [], _ :: _, h => by simp [Pls.eqB] at h
  | _ :: _, [], h => by simp [Pls.eqB] at h
  | p :: ps, q :: qs, h => by
    simp only [Pls.eqB, Bool.and_eq_true] at h
    simp [Pls.eqB_len h.2]
theorem Pls.eqB_drop {l m : List Pl} {k : Nat} (h : k < l.length) (h' : k < m.length) : Pls.eqB (l.drop k) (m.drop k) = (l[k].eqB m[k] && Pls.eqB (l.drop (k + 1)) (m.drop (k + 1))) := by
  rw [List.drop_eq_getElem_cons h, List.drop_eq_getElem_cons h', Pls.eqB]
theorem Vls.sameB_len : ∀ {l m : List Vl}, Vls.sameB l m = true → l.length = m.length
  | [], [], _ => rfl
  | [], _ :: _, h => by simp [Vls.sameB] at h
  | _ :: _, [], h => by simp [Vls.sameB] at h
  | p :: ps, q :: qs, h => by
    simp only [Vls.sameB, Bool.and_eq_true] at h
    simp [Vls.sameB_len h.2]
theorem Vls.sameB_drop {l m : List Vl} {k : Nat} (h : k < l.length) (h' : k < m.length) : Vls.sameB (l.drop k) (m.drop k) = (l[k].sameB m[k] && Vls.sameB (l.drop (k + 1)) (m.drop (k + 1))) := by
  rw [List.drop_eq_getElem_cons h, List.drop_eq_getElem_cons h', Vls.sameB]
mutual
theorem Pl.eqB_comm : ∀ (p q : Pl), p.eqB q = q.eqB p
  | .mk k n t l, .mk k' n' t' l' => by
    unfold Pl.eqB
    rw [Pls.eqB_comm l l', decide_eq_decide.2 (⟨Eq.symm, Eq.symm⟩ : k = k' ↔ k' = k), decide_eq_decide.2 (⟨Eq.symm, Eq.symm⟩ : n = n' ↔ n' = n), decide_eq_decide.2 (⟨Eq.symm, Eq.symm⟩ : t = t' ↔ t' = t)]
theorem Pls.eqB_comm : ∀ (l m : List Pl), Pls.eqB l m = Pls.eqB m l
  | [], [] => rfl
  | [], _ :: _ => by simp [Pls.eqB]
  | _ :: _, [] => by simp [Pls.eqB]
  | p :: ps, q :: qs => by simp only [Pls.eqB]; rw [Pl.eqB_comm p q, Pls.eqB_comm ps qs]
end
end Go.Proofs.YthjpphojddbbmaaGreatDoor
