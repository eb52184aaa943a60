/-
  Texts of a proof in one: PlSameL, ListPlain, ListSep, ListRow, PlLits, ListCost. Conditions: each names its own.
-/
import Derived.Test.YtcldbjgikkfnbaaGreatDoorCPlLeft
import Derived.Test.YtcldbjgikkfnbaaGreatDoorCPlFits
/-
  When two plain values are the same, and two values. Plain. Conditions: none.
-/
namespace Go.Proofs.YtcldbjgikkfnbaaGreatDoor
open Go.RowKit
set_option linter.unusedVariables false

theorem good_kind {k n : Int} {t : ByteArray} {len : Nat} {deep : Int} (h : goodB k n t len deep = true) : k = 1 ∨ k = 2 ∨ k = 3 ∨ k = 4 ∨ k = 5 := by
  unfold goodB at h
  by_cases h1 : k = 1; · exact .inl h1
  by_cases h2 : k = 2; · exact .inr (.inl h2)
  by_cases h3 : k = 3; · exact .inr (.inr (.inl h3))
  by_cases h4 : k = 4; · exact .inr (.inr (.inr (.inl h4)))
  by_cases h5 : k = 5; · exact .inr (.inr (.inr (.inr h5)))
  rw [if_neg h1, if_neg h2, if_neg h3, if_neg h4, if_neg h5] at h
  cases h
/-- A plain value that may be. -/
def Pl.mayB (p : Pl) : Bool := decide (0 ≤ p.left 65536 0)
mutual
/-- The same, field by field. -/
def Pl.eqB : Pl → Pl → Bool
  | .mk k n t l, .mk k' n' t' l' => decide (k = k') && decide (n = n') && decide (t = t') && Pls.eqB l l'
def Pls.eqB : List Pl → List Pl → Bool
  | [], [] => true
  | p :: ps, q :: qs => p.eqB q && Pls.eqB ps qs
  | _, _ => false
end
mutual
/-- The same value. -/
def Vl.sameB : Vl → Vl → Bool
  | .unit, .unit => true
  | .truth a, .truth b => a == b
  | .int a, .int b => decide (a = b)
  | .text s, .text t => decide (s = t)
  | .list l, .list m => Vls.sameB l m
  | _, _ => false
def Vls.sameB : List Vl → List Vl → Bool
  | [], [] => true
  | x :: xs, y :: ys => x.sameB y && Vls.sameB xs ys
  | _, _ => false
end
mutual
/-- Of a form that may be, at any depth. -/
def Pl.normB : Pl → Bool
  | .mk k n t l => goodB k n t l.length 0 && Pls.normB l
def Pls.normB : List Pl → Bool
  | [] => true
  | p :: ps => p.normB && Pls.normB ps
end
theorem good_any {k n : Int} {t : ByteArray} {len : Nat} {deep : Int} (h : goodB k n t len deep = true) : goodB k n t len 0 = true := by
  unfold goodB at h ⊢
  by_cases h1 : k = 1
  · rw [if_pos h1] at h ⊢; exact h
  by_cases h2 : k = 2
  · rw [if_neg h1, if_pos h2] at h ⊢; exact h
  by_cases h3 : k = 3
  · rw [if_neg h1, if_neg h2, if_pos h3] at h ⊢; exact h
  by_cases h4 : k = 4
  · rw [if_neg h1, if_neg h2, if_neg h3, if_pos h4] at h ⊢; exact h
  by_cases h5 : k = 5
  · rw [if_neg h1, if_neg h2, if_neg h3, if_neg h4, if_pos h5] at h ⊢
    simp only [Bool.and_eq_true] at h ⊢
    exact ⟨h.1, by decide⟩
  · rw [if_neg h1, if_neg h2, if_neg h3, if_neg h4, if_neg h5] at h; cases h
mutual
theorem Pl.left_norm : ∀ (p : Pl) (m deep : Int), 0 ≤ p.left m deep → p.normB = true
  | .mk k n t l, m, deep, h => by
    unfold Pl.left at h
    by_cases hb : goodB k n t l.length deep = false ∨ m - 1 - (t.size : Int) < 0
    · rw [if_pos hb] at h; omega
    · rw [if_neg hb] at h
      have hg : goodB k n t l.length deep = true := by
        cases hq : goodB k n t l.length deep
        · exact absurd (.inl hq) hb
        · rfl
      unfold Pl.normB
      rw [Pls.left_norm l _ _ h, Bool.and_true]
      exact good_any hg
theorem Pls.left_norm : ∀ (l : List Pl) (m deep : Int), 0 ≤ Pls.left l m deep → Pls.normB l = true
  | [], m, deep, h => by unfold Pls.normB; rfl
  | p :: ps, m, deep, h => by
    unfold Pls.left at h
    by_cases h0 : 0 ≤ m
    · rw [if_pos h0] at h
      have h1 : 0 ≤ p.left m deep := by
        rcases Int.lt_or_le (p.left m deep) 0 with h2 | h2
        · rw [Pls.left_neg _ _ _ (by omega)] at h; exact h
        · exact h2
      unfold Pls.normB
      rw [Pl.left_norm p _ _ h1, Pls.left_norm ps _ _ h]
      rfl
    · rw [if_neg h0] at h; omega
end
theorem good_1 {n : Int} {t : ByteArray} {len : Nat} (h : goodB 1 n t len 0 = true) : n = 0 ∧ t.size = 0 ∧ len = 0 := by simpa [goodB, and_assoc] using h
theorem good_2 {n : Int} {t : ByteArray} {len : Nat} (h : goodB 2 n t len 0 = true) : (n = 0 ∨ n = 1) ∧ t.size = 0 ∧ len = 0 := by simpa [goodB, and_assoc] using h
theorem good_3 {n : Int} {t : ByteArray} {len : Nat} (h : goodB 3 n t len 0 = true) : t.size = 0 ∧ len = 0 := by simpa [goodB, and_assoc] using h
theorem good_4 {n : Int} {t : ByteArray} {len : Nat} (h : goodB 4 n t len 0 = true) : n = 0 ∧ len = 0 := by simpa [goodB, and_assoc] using h
theorem good_5 {n : Int} {t : ByteArray} {len : Nat} (h : goodB 5 n t len 0 = true) : n = 0 ∧ t.size = 0 := by simpa [goodB, and_assoc] using h
theorem size0 {t : ByteArray} (h : t.size = 0) : t = ⟨#[]⟩ := by
  obtain ⟨d⟩ := t
  have : d.size = 0 := h
  rw [Array.eq_empty_of_size_eq_zero this]
theorem toVl_mk {k n : Int} {t : ByteArray} {l : List Pl} : (Pl.mk k n t l).toVl = if k = 2 then .truth (decide (n = 1)) else if k = 3 then .int n else if k = 4 then .text t else if k = 5 then .list (Pls.toVl l) else .unit := by
  rw [Pl.toVl]
mutual
theorem Pl.same_eq : ∀ (p q : Pl), p.normB = true → q.normB = true → p.toVl.sameB q.toVl = p.eqB q
  | .mk k n t l, .mk k' n' t' l', hp, hq => by
    unfold Pl.normB at hp hq
    simp only [Bool.and_eq_true] at hp hq
    have ih := Pls.same_eq l l' hp.2 hq.2
    unfold Pl.eqB
    have h1 := hp.1
    have h2 := hq.1
    rcases good_kind h1 with rfl | rfl | rfl | rfl | rfl
    · obtain ⟨rfl, ht, hl⟩ := good_1 h1
      obtain rfl := size0 ht
      obtain rfl := List.eq_nil_of_length_eq_zero hl
      rcases good_kind h2 with rfl | rfl | rfl | rfl | rfl
      · obtain ⟨rfl, ht, hl⟩ := good_1 h2
        obtain rfl := size0 ht
        obtain rfl := List.eq_nil_of_length_eq_zero hl
        simp [toVl_mk, Vl.sameB, Pls.eqB]
      all_goals simp [toVl_mk, Vl.sameB]
    · obtain ⟨hn, ht, hl⟩ := good_2 h1
      obtain rfl := size0 ht
      obtain rfl := List.eq_nil_of_length_eq_zero hl
      rcases good_kind h2 with rfl | rfl | rfl | rfl | rfl
      · simp [toVl_mk, Vl.sameB]
      · obtain ⟨hn', ht, hl⟩ := good_2 h2
        obtain rfl := size0 ht
        obtain rfl := List.eq_nil_of_length_eq_zero hl
        rcases hn with rfl | rfl <;> rcases hn' with rfl | rfl <;> simp [toVl_mk, Vl.sameB, Pls.eqB]
      all_goals simp [toVl_mk, Vl.sameB]
    · obtain ⟨ht, hl⟩ := good_3 h1
      obtain rfl := size0 ht
      obtain rfl := List.eq_nil_of_length_eq_zero hl
      rcases good_kind h2 with rfl | rfl | rfl | rfl | rfl
      · simp [toVl_mk, Vl.sameB]
      · simp [toVl_mk, Vl.sameB]
      · obtain ⟨ht, hl⟩ := good_3 h2
        obtain rfl := size0 ht
        obtain rfl := List.eq_nil_of_length_eq_zero hl
        simp [toVl_mk, Vl.sameB, Pls.eqB]
      all_goals simp [toVl_mk, Vl.sameB]
    · obtain ⟨rfl, hl⟩ := good_4 h1
      obtain rfl := List.eq_nil_of_length_eq_zero hl
      rcases good_kind h2 with rfl | rfl | rfl | rfl | rfl
      · simp [toVl_mk, Vl.sameB]
      · simp [toVl_mk, Vl.sameB]
      · simp [toVl_mk, Vl.sameB]
      · obtain ⟨rfl, hl⟩ := good_4 h2
        obtain rfl := List.eq_nil_of_length_eq_zero hl
        simp [toVl_mk, Vl.sameB, Pls.eqB]
      · simp [toVl_mk, Vl.sameB]
    · obtain ⟨rfl, ht⟩ := good_5 h1
      obtain rfl := size0 ht
      rcases good_kind h2 with rfl | rfl | rfl | rfl | rfl
      · simp [toVl_mk, Vl.sameB]
      · simp [toVl_mk, Vl.sameB]
      · simp [toVl_mk, Vl.sameB]
      · simp [toVl_mk, Vl.sameB]
      · obtain ⟨rfl, ht⟩ := good_5 h2
        obtain rfl := size0 ht
        simp [toVl_mk, Vl.sameB, ih]
theorem Pls.same_eq : ∀ (l m : List Pl), Pls.normB l = true → Pls.normB m = true → Vls.sameB (Pls.toVl l) (Pls.toVl m) = Pls.eqB l m
  | [], [], _, _ => by simp [Pls.toVl, Vls.sameB, Pls.eqB]
  | [], q :: qs, _, _ => by simp [Pls.toVl, Vls.sameB, Pls.eqB]
  | p :: ps, [], _, _ => by simp [Pls.toVl, Vls.sameB, Pls.eqB]
  | p :: ps, q :: qs, hp, hq => by
    unfold Pls.normB at hp hq
    simp only [Bool.and_eq_true] at hp hq
    simp only [Pls.toVl, Vls.sameB, Pls.eqB]
    rw [Pl.same_eq p q hp.1 hq.1, Pls.same_eq ps qs hp.2 hq.2]
end
theorem Pls.eqB_len : ∀ {l m : List Pl}, Pls.eqB l m = true → l.length = m.length
  | [], [], _ => rfl
  | [], _ :: _, h => by simp [Pls.eqB] at h
  | _ :: _, [], h => by simp [Pls.eqB] at h
  | p :: ps, q :: qs, h => by
    simp only [Pls.eqB, Bool.and_eq_true] at h
    simp [Pls.eqB_len h.2]
theorem Pls.eqB_drop {l m : List Pl} {k : Nat} (h : k < l.length) (h' : k < m.length) : Pls.eqB (l.drop k) (m.drop k) = (l[k].eqB m[k] && Pls.eqB (l.drop (k + 1)) (m.drop (k + 1))) := by
  rw [List.drop_eq_getElem_cons h, List.drop_eq_getElem_cons h', Pls.eqB]
theorem Vls.sameB_len : ∀ {l m : List Vl}, Vls.sameB l m = true → l.length = m.length
  | [], [], _ => rfl
  | [], _ :: _, h => by simp [Vls.sameB] at h
  | _ :: _, [], h => by simp [Vls.sameB] at h
  | p :: ps, q :: qs, h => by
    simp only [Vls.sameB, Bool.and_eq_true] at h
    simp [Vls.sameB_len h.2]
theorem Vls.sameB_drop {l m : List Vl} {k : Nat} (h : k < l.length) (h' : k < m.length) : Vls.sameB (l.drop k) (m.drop k) = (l[k].sameB m[k] && Vls.sameB (l.drop (k + 1)) (m.drop (k + 1))) := by
  rw [List.drop_eq_getElem_cons h, List.drop_eq_getElem_cons h', Vls.sameB]
mutual
theorem Pl.eqB_comm : ∀ (p q : Pl), p.eqB q = q.eqB p
  | .mk k n t l, .mk k' n' t' l' => by
    unfold Pl.eqB
    rw [Pls.eqB_comm l l', decide_eq_decide.2 (⟨Eq.symm, Eq.symm⟩ : k = k' ↔ k' = k), decide_eq_decide.2 (⟨Eq.symm, Eq.symm⟩ : n = n' ↔ n' = n), decide_eq_decide.2 (⟨Eq.symm, Eq.symm⟩ : t = t' ↔ t' = t)]
theorem Pls.eqB_comm : ∀ (l m : List Pl), Pls.eqB l m = Pls.eqB m l
  | [], [] => rfl
  | [], _ :: _ => by simp [Pls.eqB]
  | _ :: _, [] => by simp [Pls.eqB]
  | p :: ps, q :: qs => by simp only [Pls.eqB]; rw [Pl.eqB_comm p q, Pls.eqB_comm ps qs]
end
end Go.Proofs.YtcldbjgikkfnbaaGreatDoor

/-
  What package list's operations give, as data; sizes of values. Plain. Conditions: none.
-/
namespace Go.Proofs.YtcldbjgikkfnbaaGreatDoor
open Go.RowKit
set_option linter.unusedVariables false

def ln_of : ByteArray := ⟨#[108, 105, 115, 116, 46, 111, 102]⟩
def ln_size : ByteArray := ⟨#[108, 105, 115, 116, 46, 115, 105, 122, 101]⟩
def ln_at : ByteArray := ⟨#[108, 105, 115, 116, 46, 97, 116]⟩
def ln_join : ByteArray := ⟨#[108, 105, 115, 116, 46, 106, 111, 105, 110]⟩
def ln_add : ByteArray := ⟨#[108, 105, 115, 116, 46, 97, 100, 100]⟩
def ln_cut : ByteArray := ⟨#[108, 105, 115, 116, 46, 99, 117, 116]⟩
def ln_turn : ByteArray := ⟨#[108, 105, 115, 116, 46, 116, 117, 114, 110]⟩
def ln_count : ByteArray := ⟨#[108, 105, 115, 116, 46, 99, 111, 117, 110, 116]⟩
def Vl.asList : Vl → Option (List Vl)
  | .list l => some l
  | _ => none
def Vl.asInt : Vl → Option Int
  | .int n => some n
  | _ => none
/-- A value that may be. -/
def Vl.mayV (x : Vl) : Bool := decide (0 ≤ x.measure 65536 0)
def lBad (e : Int) : Int × Vl := (e, .unit)
/-- A list, if it may be. -/
def lMade (l : List Vl) : Int × Vl := if (Vl.list l).mayV = true then (0, .list l) else lBad 2
def below (n : Nat) : List Vl := (List.range n).map (fun (k : Nat) => Vl.int (k : Int))
def lCountN (n : Int) : Int × Vl := if n < 0 then lBad 23 else if 65536 ≤ n then lBad 2 else lMade (below n.toNat)
def lCount (x : Vl) : Int × Vl := match x.asInt with
  | some n => lCountN n
  | none => lBad 20
def lSize (x : Vl) : Int × Vl := match x.asList with
  | some l => (0, .int l.length)
  | none => lBad 20
def lTurn (x : Vl) : Int × Vl := match x.asList with
  | some l => (0, .list l.reverse)
  | none => lBad 20
def lAtN (l : List Vl) (n : Int) : Int × Vl := if 0 ≤ n then (match l[n.toNat]? with
  | some y => (0, y)
  | none => lBad 23) else lBad 23
def lAt (x y : Vl) : Int × Vl := match x.asList, y.asInt with
  | some l, some n => lAtN l n
  | _, _ => lBad 20
def lJoin (x y : Vl) : Int × Vl := match x.asList, y.asList with
  | some l, some m => lMade (l ++ m)
  | _, _ => lBad 20
def lAdd (x y : Vl) : Int × Vl := match x.asList with
  | some l => lMade (l ++ [y])
  | none => lBad 20
def lCutN (l : List Vl) (a b : Int) : Int × Vl := if 0 ≤ a ∧ a ≤ b ∧ b ≤ l.length then (0, .list ((l.take b.toNat).drop a.toNat)) else lBad 23
def lCut (x y z : Vl) : Int × Vl := match x.asList, y.asInt, z.asInt with
  | some l, some a, some b => lCutN l a b
  | _, _, _ => lBad 20
/-- How many values an operation has, what it does with them. -/
def lArgs1 (f : Vl → Int × Vl) : List Vl → Int × Vl
  | [x] => f x
  | _ => lBad 11
def lArgs2 (f : Vl → Vl → Int × Vl) : List Vl → Int × Vl
  | [x, y] => f x y
  | _ => lBad 11
def lArgs3 (f : Vl → Vl → Vl → Int × Vl) : List Vl → Int × Vl
  | [x, y, z] => f x y z
  | _ => lBad 11
/-- What Work gives: n values are asked (none: any number). -/
def lRes (n : Option Nat) (f : List Vl → Int × Vl) (ps : List Pl) : Int × Vl := if n = none ∨ n = some ps.length then (if ps.all Pl.ok = true then f (Pls.toVl ps) else lBad 1) else lBad 11

mutual
theorem Vl.measure_count : ∀ (x : Vl) (m deep : Int), 0 ≤ x.measure m deep → (x.count : Int) ≤ m - x.measure m deep
  | .unit, m, deep, h => by unfold Vl.measure at h ⊢; unfold Vl.count; omega
  | .truth _, m, deep, h => by unfold Vl.measure at h ⊢; unfold Vl.count; omega
  | .int _, m, deep, h => by unfold Vl.measure at h ⊢; unfold Vl.count; omega
  | .text s, m, deep, h => by unfold Vl.measure at h ⊢; unfold Vl.count; omega
  | .list l, m, deep, h => by
    unfold Vl.measure at h ⊢
    by_cases hd : 64 ≤ deep
    · rw [if_pos hd] at h; omega
    · rw [if_neg hd] at h ⊢
      have ih := Vls.measure_count l (m - 1) (deep + 1) h
      unfold Vl.count
      omega
theorem Vls.measure_count : ∀ (l : List Vl) (m deep : Int), 0 ≤ Vls.measure l m deep → (Vls.count l : Int) ≤ m - Vls.measure l m deep
  | [], m, deep, h => by unfold Vls.measure Vls.count; omega
  | x :: xs, m, deep, h => by
    unfold Vls.measure at h ⊢
    by_cases hx : x.measure m deep < 0
    · rw [if_pos hx] at h; omega
    · rw [if_neg hx] at h ⊢
      have i1 := Vl.measure_count x m deep (by omega)
      have i2 := Vls.measure_count xs _ deep h
      unfold Vls.count
      omega
end
mutual
theorem Vl.measure_dep : ∀ (x : Vl) (m deep : Int), 0 ≤ deep → 0 ≤ x.measure m deep → deep ≤ 64 → (x.dep : Int) ≤ 65 - deep
  | .unit, m, deep, h0, h, h1 => by unfold Vl.dep; omega
  | .truth _, m, deep, h0, h, h1 => by unfold Vl.dep; omega
  | .int _, m, deep, h0, h, h1 => by unfold Vl.dep; omega
  | .text s, m, deep, h0, h, h1 => by unfold Vl.dep; omega
  | .list l, m, deep, h0, h, h1 => by
    unfold Vl.measure at h
    by_cases hd : 64 ≤ deep
    · rw [if_pos hd] at h; omega
    · rw [if_neg hd] at h
      have ih := Vls.measure_dep l (m - 1) (deep + 1) (by omega) h (by omega)
      unfold Vl.dep
      omega
theorem Vls.measure_dep : ∀ (l : List Vl) (m deep : Int), 0 ≤ deep → 0 ≤ Vls.measure l m deep → deep ≤ 64 → (Vls.dep l : Int) ≤ 65 - deep
  | [], m, deep, h0, h, h1 => by unfold Vls.dep; omega
  | x :: xs, m, deep, h0, h, h1 => by
    unfold Vls.measure at h
    by_cases hx : x.measure m deep < 0
    · rw [if_pos hx] at h; omega
    · rw [if_neg hx] at h
      have i1 := Vl.measure_dep x m deep h0 (by omega) h1
      have i2 := Vls.measure_dep xs _ deep h0 h h1
      unfold Vls.dep
      omega
end
theorem Vl.mayV_bounds {x : Vl} (h : x.mayV = true) : x.count ≤ 65536 ∧ x.dep ≤ 65 := by
  have h' : 0 ≤ x.measure 65536 0 := by simpa [Vl.mayV] using h
  have h1 := x.measure_count 65536 0 h'
  have h2 := x.measure_dep 65536 0 (by omega) h' (by omega)
  omega
theorem norm_parts {k n : Int} {t : ByteArray} {l : List Pl} (h : (Pl.mk k n t l).normB = true) : goodB k n t l.length 0 = true ∧ Pls.normB l = true := by
  unfold Pl.normB at h
  simpa using h
mutual
theorem Pl.norm_left : ∀ (p : Pl) (m deep : Int), p.normB = true → 0 ≤ m → 0 ≤ deep → deep ≤ 64 → 0 ≤ p.toVl.measure m deep → 0 ≤ p.left m deep
  | .mk k n t l, m, deep, hn, hm, h0, h1, h => by
    obtain ⟨hg, hl⟩ := norm_parts hn
    by_cases k1 : k = 1
    · subst k1
      obtain ⟨rfl, ht, hlen⟩ := good_1 hg
      obtain rfl : l = [] := List.eq_nil_of_length_eq_zero hlen
      rw [toVl_mk] at h
      simp [Vl.measure] at h
      rw [Pl.left, if_neg (by simp [goodB, ht]; omega), Pls.left]
      omega
    by_cases k2 : k = 2
    · subst k2
      obtain ⟨hn2, ht, hlen⟩ := good_2 hg
      obtain rfl : l = [] := List.eq_nil_of_length_eq_zero hlen
      rw [toVl_mk] at h
      simp [Vl.measure] at h
      rw [Pl.left, if_neg (by simp [goodB, ht]; omega), Pls.left]
      omega
    by_cases k3 : k = 3
    · subst k3
      obtain ⟨ht, hlen⟩ := good_3 hg
      obtain rfl : l = [] := List.eq_nil_of_length_eq_zero hlen
      rw [toVl_mk] at h
      simp [Vl.measure] at h
      rw [Pl.left, if_neg (by simp [goodB, ht]; omega), Pls.left]
      omega
    by_cases k4 : k = 4
    · subst k4
      obtain ⟨rfl, hlen⟩ := good_4 hg
      obtain rfl : l = [] := List.eq_nil_of_length_eq_zero hlen
      rw [toVl_mk] at h
      simp [Vl.measure] at h
      rw [Pl.left, if_neg (by simp [goodB]; omega), Pls.left]
      omega
    by_cases k5 : k = 5
    · subst k5
      obtain ⟨rfl, ht⟩ := good_5 hg
      rw [meas5] at h
      rw [left5]
      by_cases hd : 64 ≤ deep
      · rw [if_pos hd] at h; omega
      · rw [if_neg hd] at h
        have hc := Vls.measure_count _ _ _ h
        have ih := Pls.norm_left l (m - 1) (deep + 1) hl (by omega) (by omega) (by omega) h
        rw [if_neg (by rintro (h' | h'); exact h' ⟨rfl, ht, by omega⟩; omega), ht]
        simpa using ih
    · unfold goodB at hg
      simp [k1, k2, k3, k4, k5] at hg
theorem Pls.norm_left : ∀ (l : List Pl) (m deep : Int), Pls.normB l = true → 0 ≤ m → 0 ≤ deep → deep ≤ 64 → 0 ≤ Vls.measure (Pls.toVl l) m deep → 0 ≤ Pls.left l m deep
  | [], m, deep, hn, hm, h0, h1, h => by unfold Pls.left; exact hm
  | p :: ps, m, deep, hn, hm, h0, h1, h => by
    unfold Pls.normB at hn
    simp only [Bool.and_eq_true] at hn
    unfold Pls.toVl Vls.measure at h
    by_cases hx : p.toVl.measure m deep < 0
    · rw [if_pos hx] at h; omega
    · rw [if_neg hx] at h
      have i1 := Pl.norm_left p m deep hn.1 hm h0 h1 (by omega)
      have e := ((Pl.left_ok p m deep hm h0 h1).2 i1).2.2
      rw [e] at h
      unfold Pls.left
      rw [if_pos hm]
      exact Pls.norm_left ps _ deep hn.2 i1 h0 h1 h
end
theorem mayB_ok (p : Pl) : p.mayB = p.ok := (ok_left p).symm
theorem mayB_norm {p : Pl} (h : p.mayB = true) : p.normB = true := p.left_norm 65536 0 (by simpa [Pl.mayB] using h)
theorem mayB_mayV {p : Pl} (h : p.mayB = true) : p.toVl.mayV = true := by
  have h' : 0 ≤ p.left 65536 0 := by simpa [Pl.mayB] using h
  unfold Vl.mayV
  rw [((Pl.left_ok p 65536 0 (by omega) (by omega) (by omega)).2 h').2.2]
  simpa using h'
theorem norms_of : ∀ {l : List Pl}, (∀ p ∈ l, p.normB = true) → Pls.normB l = true
  | [], _ => by unfold Pls.normB; rfl
  | p :: ps, h => by
    unfold Pls.normB
    rw [h p (by simp), norms_of (fun q hq => h q (by simp [hq]))]
    rfl
theorem norms_mem : ∀ {l : List Pl}, Pls.normB l = true → ∀ p ∈ l, p.normB = true
  | x :: xs, h, p, hp => by
    unfold Pls.normB at h
    simp only [Bool.and_eq_true] at h
    rcases List.mem_cons.1 hp with rfl | hp
    · exact h.1
    · exact norms_mem h.2 p hp
/-- A plain list of values of their own forms: it may be just if its value may be. -/
theorem list_may {l : List Pl} (h : Pls.normB l = true) : (Pl.mk 5 0 ⟨#[]⟩ l).mayB = (Vl.list (Pls.toVl l)).mayV := by
  have hn : (Pl.mk 5 0 ⟨#[]⟩ l).normB = true := by
    rw [Pl.normB, h]
    rfl
  have e : (Pl.mk 5 0 ⟨#[]⟩ l).toVl = .list (Pls.toVl l) := by rw [toVl_mk]; rfl
  cases hb : (Pl.mk 5 0 ⟨#[]⟩ l).mayB
  · cases hv : (Vl.list (Pls.toVl l)).mayV
    · rfl
    · exfalso
      have h' : 0 ≤ (Vl.list (Pls.toVl l)).measure 65536 0 := by simpa [Vl.mayV] using hv
      have := Pl.norm_left (.mk 5 0 ⟨#[]⟩ l) 65536 0 hn (by omega) (by omega) (by omega) (by rw [e]; exact h')
      unfold Pl.mayB at hb
      simp at hb
      omega
  · rw [← e]; exact (mayB_mayV hb).symm
mutual
/-- A plain value of its own form is told again by its value. -/
theorem Pl.back : ∀ (p : Pl), p.normB = true → p.toVl.toPl = p
  | .mk k n t l, hn => by
    obtain ⟨hg, hl⟩ := norm_parts hn
    rw [toVl_mk]
    by_cases k1 : k = 1
    · subst k1
      obtain ⟨rfl, ht, hlen⟩ := good_1 hg
      obtain rfl : l = [] := List.eq_nil_of_length_eq_zero hlen
      obtain rfl := size0 ht
      rfl
    by_cases k2 : k = 2
    · subst k2
      obtain ⟨hn2, ht, hlen⟩ := good_2 hg
      obtain rfl : l = [] := List.eq_nil_of_length_eq_zero hlen
      obtain rfl := size0 ht
      rcases hn2 with rfl | rfl <;> rfl
    by_cases k3 : k = 3
    · subst k3
      obtain ⟨ht, hlen⟩ := good_3 hg
      obtain rfl : l = [] := List.eq_nil_of_length_eq_zero hlen
      obtain rfl := size0 ht
      rfl
    by_cases k4 : k = 4
    · subst k4
      obtain ⟨rfl, hlen⟩ := good_4 hg
      obtain rfl : l = [] := List.eq_nil_of_length_eq_zero hlen
      rfl
    by_cases k5 : k = 5
    · subst k5
      obtain ⟨rfl, ht⟩ := good_5 hg
      obtain rfl := size0 ht
      rw [if_neg (by decide), if_neg (by decide), if_neg (by decide), if_pos rfl]
      unfold Vl.toPl
      rw [Pls.back l hl]
    · unfold goodB at hg
      simp [k1, k2, k3, k4, k5] at hg
theorem Pls.back : ∀ (l : List Pl), Pls.normB l = true → Vls.toPl (Pls.toVl l) = l
  | [], _ => by unfold Pls.toVl Vls.toPl; rfl
  | p :: ps, h => by
    unfold Pls.normB at h
    simp only [Bool.and_eq_true] at h
    unfold Pls.toVl Vls.toPl
    rw [Pl.back p h.1, Pls.back ps h.2]
end
end Go.Proofs.YtcldbjgikkfnbaaGreatDoor

/-
  Values whose lists lie each in a row of its own, no block twice. Plain. Conditions: none.
-/
namespace Go.Proofs.YtcldbjgikkfnbaaGreatDoor
open Go.RowKit
set_option linter.unusedVariables false

theorem own_block {w w' : World} {base size n : Nat} {e : TypeId} {v : Value} {xs : List Value} (h : w.ownsRow base e size v n xs) (hb : ∀ g, v.ownBlock = some g → w'.heap[g]? = w.heap[g]?) : w'.ownsRow base e size v n xs := by
  refine ⟨h.1, ?_⟩
  rcases h.2 with h2 | ⟨g, cap, cur, e1, h3, h4, h5⟩
  · exact .inl h2
  · exact .inr ⟨g, cap, cur, e1, h3, (hb g (by rw [e1]; rfl)).trans h4, h5⟩
theorem own_base {w : World} {base base' size n : Nat} {e : TypeId} {v : Value} {xs : List Value} (h : w.ownsRow base e size v n xs) (hb : base' ≤ base) : w.ownsRow base' e size v n xs := by
  refine ⟨h.1, ?_⟩
  rcases h.2 with h2 | ⟨g, cap, cur, e1, h3, h4⟩
  · exact .inl h2
  · exact .inr ⟨g, cap, cur, e1, Nat.le_trans hb h3, h4⟩
mutual
/-- A run-time value is that value, each of its lists a row of its own, among the blocks of S, no block twice. -/
def Vl.sep (w : World) : Vl → (Nat → Prop) → Value → Prop
  | .unit, _, v => v = .iface 118 (.agg #[])
  | .truth b, _, v => v = .iface 119 (.bool b)
  | .int n, _, v => v = .iface 43 (.int .i64 n)
  | .text s, _, v => v = .iface 120 (.string s)
  | .list l, S, v => ∃ (A : Option Addr) (c : Nat) (us : List Value), v = .iface 47 (.slice A l.length c) ∧ w.ownsRow 0 35 1 (.slice A l.length c) l.length us ∧ (∀ g, (Value.slice A l.length c).ownBlock = some g → S g) ∧ Vls.sep w l (fun b => S b ∧ (Value.slice A l.length c).ownBlock ≠ some b) us
/-- .. one after the other. -/
def Vls.sep (w : World) : List Vl → (Nat → Prop) → List Value → Prop
  | [], _, us => us = []
  | x :: xs, S, us => ∃ (u : Value) (vs : List Value) (S1 S2 : Nat → Prop), us = u :: vs ∧ (∀ b, S1 b → S b) ∧ (∀ b, S2 b → S b) ∧ (∀ b, S1 b → ¬ S2 b) ∧ Vl.sep w x S1 u ∧ Vls.sep w xs S2 vs
end
mutual
theorem Vl.sep.keep {w w' : World} : ∀ (x : Vl) (S S' : Nat → Prop) (v : Value), (∀ b, S b → w'.heap[b]? = w.heap[b]?) → (∀ b, S b → S' b) → x.sep w S v → x.sep w' S' v
  | .unit, S, S', v, _, _, h => by unfold Vl.sep at h ⊢; exact h
  | .truth _, S, S', v, _, _, h => by unfold Vl.sep at h ⊢; exact h
  | .int _, S, S', v, _, _, h => by unfold Vl.sep at h ⊢; exact h
  | .text _, S, S', v, _, _, h => by unfold Vl.sep at h ⊢; exact h
  | .list l, S, S', v, hk, hS, h => by
    unfold Vl.sep at h ⊢
    obtain ⟨A, c, us, h1, h2, h3, h4⟩ := h
    exact ⟨A, c, us, h1, own_block h2 (fun g hg => hk g (h3 g hg)), fun g hg => hS g (h3 g hg), Vls.sep.keep l _ _ us (fun b hb => hk b hb.1) (fun b hb => ⟨hS b hb.1, hb.2⟩) h4⟩
theorem Vls.sep.keep {w w' : World} : ∀ (l : List Vl) (S S' : Nat → Prop) (us : List Value), (∀ b, S b → w'.heap[b]? = w.heap[b]?) → (∀ b, S b → S' b) → Vls.sep w l S us → Vls.sep w' l S' us
  | [], S, S', us, _, _, h => by unfold Vls.sep at h ⊢; exact h
  | x :: xs, S, S', us, hk, hS, h => by
    unfold Vls.sep at h ⊢
    obtain ⟨u, vs, S1, S2, h1, h2, h3, h4, h5, h6⟩ := h
    exact ⟨u, vs, S1, S2, h1, fun b hb => hS b (h2 b hb), fun b hb => hS b (h3 b hb), h4, Vl.sep.keep x S1 S1 u (fun b hb => hk b (h2 b hb)) (fun _ h => h) h5, Vls.sep.keep xs S2 S2 vs (fun b hb => hk b (h3 b hb)) (fun _ h => h) h6⟩
end
theorem Vl.sep.mono {w : World} {x : Vl} {S S' : Nat → Prop} {v : Value} (h : x.sep w S v) (hS : ∀ b, S b → S' b) : x.sep w S' v := Vl.sep.keep x S S' v (fun _ _ => rfl) hS h
theorem Vls.sep.mono {w : World} {l : List Vl} {S S' : Nat → Prop} {us : List Value} (h : Vls.sep w l S us) (hS : ∀ b, S b → S' b) : Vls.sep w l S' us := Vls.sep.keep l S S' us (fun _ _ => rfl) hS h
theorem Vl.sep.below {w w' : World} {x : Vl} {S : Nat → Prop} {v : Value} (h : x.sep w S v) (hb : Below w.heap.size w w') (hS : ∀ b, S b → b < w.heap.size) : x.sep w' S v := Vl.sep.keep x S S v (fun b h => hb.block b (hS b h)) (fun _ h => h) h
theorem Vls.sep.below {w w' : World} {l : List Vl} {S : Nat → Prop} {us : List Value} (h : Vls.sep w l S us) (hb : Below w.heap.size w w') (hS : ∀ b, S b → b < w.heap.size) : Vls.sep w' l S us := Vls.sep.keep l S S us (fun b h => hb.block b (hS b h)) (fun _ h => h) h
theorem Vls.sep.length {w : World} : ∀ {l : List Vl} {S : Nat → Prop} {us : List Value}, Vls.sep w l S us → us.length = l.length
  | [], S, us, h => by unfold Vls.sep at h; subst h; rfl
  | x :: xs, S, us, h => by
    unfold Vls.sep at h
    obtain ⟨u, vs, S1, S2, rfl, _, _, _, _, h6⟩ := h
    simp [Vls.sep.length h6]
theorem Vls.sep.nil (w : World) (S : Nat → Prop) : Vls.sep w [] S [] := by unfold Vls.sep; rfl
theorem Vls.sep.cons {w : World} {x : Vl} {l : List Vl} {S S1 S2 : Nat → Prop} {u : Value} {us : List Value} (h : x.sep w S1 u) (h' : Vls.sep w l S2 us) (h1 : ∀ b, S1 b → S b) (h2 : ∀ b, S2 b → S b) (hd : ∀ b, S1 b → ¬ S2 b) : Vls.sep w (x :: l) S (u :: us) := by
  unfold Vls.sep
  exact ⟨u, us, S1, S2, rfl, h1, h2, hd, h, h'⟩
theorem Vls.sep.append {w : World} : ∀ {l m : List Vl} {S S1 S2 : Nat → Prop} {us vs : List Value}, Vls.sep w l S1 us → Vls.sep w m S2 vs → (∀ b, S1 b → S b) → (∀ b, S2 b → S b) → (∀ b, S1 b → ¬ S2 b) → Vls.sep w (l ++ m) S (us ++ vs)
  | [], m, S, S1, S2, us, vs, h, h', h1, h2, hd => by
    unfold Vls.sep at h
    subst h
    exact h'.mono h2
  | x :: l, m, S, S1, S2, us, vs, h, h', h1, h2, hd => by
    unfold Vls.sep at h
    obtain ⟨u, us', T1, T2, rfl, g1, g2, g3, g4, g5⟩ := h
    have ih := Vls.sep.append (S := fun b => T2 b ∨ S2 b) g5 h' (fun b hb => .inl hb) (fun b hb => .inr hb) (fun b hb hb' => hd b (g2 b hb) hb')
    exact Vls.sep.cons g4 ih (fun b hb => h1 b (g1 b hb)) (fun b hb => hb.elim (fun h => h1 b (g2 b h)) (fun h => h2 b h)) (fun b hb hb' => hb'.elim (fun h => g3 b hb h) (fun h => hd b (g1 b hb) h))
theorem Vls.sep.snoc {w : World} {x : Vl} {l : List Vl} {S S1 S2 : Nat → Prop} {u : Value} {us : List Value} (h' : Vls.sep w l S2 us) (h : x.sep w S1 u) (h2 : ∀ b, S2 b → S b) (h1 : ∀ b, S1 b → S b) (hd : ∀ b, S2 b → ¬ S1 b) : Vls.sep w (l ++ [x]) S (us ++ [u]) :=
  Vls.sep.append h' (Vls.sep.cons (S := S1) (S2 := fun _ => False) h (Vls.sep.nil w _) (fun _ h => h) (fun _ h => h.elim) (fun _ _ h => h)) h2 h1 hd
theorem Vls.sep.reverse {w : World} : ∀ {l : List Vl} {S : Nat → Prop} {us : List Value}, Vls.sep w l S us → Vls.sep w l.reverse S us.reverse
  | [], S, us, h => by unfold Vls.sep at h; subst h; exact Vls.sep.nil w S
  | x :: xs, S, us, h => by
    unfold Vls.sep at h
    obtain ⟨u, vs, S1, S2, rfl, h2, h3, h4, h5, h6⟩ := h
    rw [List.reverse_cons, List.reverse_cons]
    exact Vls.sep.snoc (Vls.sep.reverse h6) h5 h3 h2 (fun b hb hb' => h4 b hb' hb)
theorem Vls.sep.drop {w : World} : ∀ {l : List Vl} {S : Nat → Prop} {us : List Value} (n : Nat), Vls.sep w l S us → Vls.sep w (l.drop n) S (us.drop n)
  | l, S, us, 0, h => by simpa using h
  | [], S, us, n + 1, h => by unfold Vls.sep at h; subst h; exact Vls.sep.nil w S
  | x :: xs, S, us, n + 1, h => by
    unfold Vls.sep at h
    obtain ⟨u, vs, S1, S2, rfl, h2, h3, h4, h5, h6⟩ := h
    exact (Vls.sep.drop n h6).mono h3
theorem Vls.sep.take {w : World} : ∀ {l : List Vl} {S : Nat → Prop} {us : List Value} (n : Nat), Vls.sep w l S us → Vls.sep w (l.take n) S (us.take n)
  | l, S, us, 0, h => by simpa using Vls.sep.nil w S
  | [], S, us, n + 1, h => by unfold Vls.sep at h; subst h; exact Vls.sep.nil w S
  | x :: xs, S, us, n + 1, h => by
    unfold Vls.sep at h
    obtain ⟨u, vs, S1, S2, rfl, h2, h3, h4, h5, h6⟩ := h
    exact Vls.sep.cons h5 (Vls.sep.take n h6) h2 h3 h4
theorem Vls.sep.at_ {w : World} : ∀ {l : List Vl} {S : Nat → Prop} {us : List Value}, Vls.sep w l S us → ∀ (k : Nat) (h : k < l.length) (h' : k < us.length), l[k].sep w S us[k]
  | [], S, us, _, k, h, _ => absurd h (by simp)
  | x :: xs, S, us, h, k, hk, hk' => by
    unfold Vls.sep at h
    obtain ⟨u, vs, S1, S2, rfl, h2, h3, h4, h5, h6⟩ := h
    match k with
    | 0 => exact h5.mono h2
    | k + 1 => exact (Vls.sep.at_ h6 k (by simpa using hk) (by simpa using hk')).mono h3
/-- Two of them share no block. -/
theorem Vls.sep.two {w : World} {x y : Vl} {S : Nat → Prop} {us : List Value} (h : Vls.sep w [x, y] S us) : ∃ u v S1 S2, us = [u, v] ∧ x.sep w S1 u ∧ y.sep w S2 v ∧ (∀ b, S1 b → S b) ∧ (∀ b, S2 b → S b) ∧ (∀ b, S1 b → ¬ S2 b) := by
  unfold Vls.sep at h
  obtain ⟨u, vs, S1, S2, rfl, h2, h3, h4, h5, h6⟩ := h
  unfold Vls.sep at h6
  obtain ⟨v, vs', S3, S4, rfl, g2, g3, g4, g5, g6⟩ := h6
  unfold Vls.sep at g6
  subst g6
  exact ⟨u, v, S1, S3, rfl, h5, g5, h2, fun b hb => h3 b (g2 b hb), fun b hb hb' => h4 b hb (g2 b hb')⟩
mutual
theorem Vl.sep.is {w : World} : ∀ (x : Vl) (S : Nat → Prop) (v : Value), x.sep w S v → x.is w S v
  | .unit, S, v, h => by unfold Vl.sep at h; unfold Vl.is; exact h
  | .truth _, S, v, h => by unfold Vl.sep at h; unfold Vl.is; exact h
  | .int _, S, v, h => by unfold Vl.sep at h; unfold Vl.is; exact h
  | .text _, S, v, h => by unfold Vl.sep at h; unfold Vl.is; exact h
  | .list l, S, v, h => by
    unfold Vl.sep at h
    unfold Vl.is
    obtain ⟨A, c, us, h1, h2, h3, h4⟩ := h
    refine ⟨A, c, h1, ?_⟩
    rcases h2.2 with ⟨e, h0⟩ | ⟨g, cap, cur, e, _⟩
    · have : l = [] := List.eq_nil_of_length_eq_zero h0
      subst this
      unfold Vls.lies; trivial
    · injection e with e1 e2 e3
      subst e1 e3
      have hl := h4.length
      refine Vls.lies.of (us := us) hl (fun _ => h3 g rfl) (fun j u hj => ?_) (Vls.sep.iss l _ us (fun b hb => hb.1) h4)
      have hjl : j < us.length := by
        rcases Nat.lt_or_ge j us.length with h | h
        · exact h
        · rw [List.getElem?_eq_none h] at hj; cases hj
      rw [Nat.zero_add, h2.cellAt j (by omega)]; exact hj
theorem Vls.sep.iss {w : World} : ∀ (l : List Vl) (S : Nat → Prop) {S' : Nat → Prop} (us : List Value), (∀ b, S b → S' b) → Vls.sep w l S us → ∀ j (h : j < l.length) (h' : j < us.length), l[j].is w S' us[j]
  | [], S, _, us, _, _, j, h, _ => absurd h (by simp)
  | x :: xs, S, S', us, hS, h, j, hj, hj' => by
    unfold Vls.sep at h
    obtain ⟨u, vs, S1, S2, rfl, h2, h3, h4, h5, h6⟩ := h
    match j with
    | 0 => exact (Vl.sep.is x S1 u h5).keep (fun _ _ _ => rfl) (fun b hb => hS b (h2 b hb))
    | j + 1 => exact Vls.sep.iss xs S2 vs (fun b hb => hS b (h3 b hb)) h6 j (by simpa using hj) (by simpa using hj')
end
theorem Vl.sep.iface {w : World} {S : Nat → Prop} {x : Vl} {v : Value} (h : x.sep w S v) : ∃ u y, v = .iface u y := (Vl.sep.is x S v h).iface
end Go.Proofs.YtcldbjgikkfnbaaGreatDoor

/-
  append of a row that may be nil; nil lists. Plain laws over any program. Conditions: none.
-/
namespace Go.Proofs.YtcldbjgikkfnbaaGreatDoor
open Go.RowKit
set_option linter.unusedVariables false

section
variable {P : Program}
theorem run_append_none {t ty e : TypeId} {i : TypeInfo} (ht : P.underlying t = some (.slice e)) (hi : P.info? e = some i) (b : Option Addr) (n c c' : Nat) (hnc : n ≤ c) (w : World) :
    (Builtin.append_ #[t, t] ty #[.slice b n c, .slice none 0 c']).run P w = .ok (.slice b n c) w := by
  cases b <;> simp [Builtin.append_, run_underlying ht, sizeOf, typeInfo, hi, Builtin.lenOf, Builtin.firstCells, hnc, storeCells]
theorem wpList_append_any {ops : Array Oper} {rest : List Oper} {o : Oper} {a : Act} {w : World} {Q : Exit → Act → World → Prop} (hgd : o.guard = none) (s x : Operand) (t : TypeId)
    (ho : o.op = .call { callee := .builtin .append, args := #[s, x], argTypes := #[t, t] })
    (base : Nat) (e : TypeId) (i : TypeInfo) (z : Value) (size bytes : Nat) (ht : P.underlying t = some (.slice e)) (hi : P.info? e = some i) (hz : i.zero = some z)
    (hsize : i.size = size) (hby : i.bytes = bytes) (hzs : z.cells.size = size) (hsz : 0 < size)
    (v : Value) (n : Nat) (xs : List Value) (hs : a.eval s = v) (hown : w.ownsRow base e size v n xs)
    (A : Option Addr) (m c : Nat) (news : List Value) (hx : a.eval x = .slice A m c) (hl : news.length = m * size) (hA : A = none → m = 0) (hnews : ∀ ad, A = some ad → ∀ j u, news[j]? = some u → w.cell? (ad.add j) = some u) (h1 : ∀ u ∈ news, u.oneCell' = true)
    (h63 : n + m ≤ maxLen) (hbytes : (n + m) * bytes ≤ 140737488355328) (hbase : base ≤ w.heap.size)
    (h : ∀ v' w', w'.ownsRow base e size v' (n + m) (xs ++ news) → w.grownBy w' v.ownBlock → (v'.ownBlock = v.ownBlock ∨ v'.ownBlock = some w.heap.size) → wpList P ops Q rest (a.put o.dst v') w') :
    wpList P ops Q (o :: rest) a w := by
  cases A with
  | some ad => exact wpList_append_own_at w hgd s x t ho base e i z size bytes ht hi hz hsize hby hzs hsz v n xs hs hown ad m c news hx hl (hnews ad rfl) h1 h63 hbytes hbase (fun v' w' h2 h3 _ h5 => h v' w' h2 h3 h5)
  | none =>
    have hm := hA rfl
    subst hm
    have hn : news = [] := List.eq_nil_of_length_eq_zero (by rw [hl]; simp)
    subst hn
    have hf : ∃ b k, v = .slice b n k ∧ n ≤ k := by
      rcases hown.2 with ⟨e1, h0⟩ | ⟨g, cap, cur, e1, _, _, h3, _⟩
      · exact ⟨none, 0, by rw [e1, h0], by omega⟩
      · exact ⟨_, _, e1, h3⟩
    obtain ⟨b, k, rfl, hnk⟩ := hf
    refine wpList_plain hgd fun K hK => ?_
    have hr := run_append_none (P := P) (ty := o.type) ht hi b n k c hnk w
    unfold Oper.wp execOp
    simp only [ho, resolve, invoke, builtin, Sem.run_bind, Sem.run_pure, Result.andThen_ok, List.map_toArray, List.map_cons, List.map_nil, hs, hx, hr]
    exact hK _ _ (h _ w (by simpa using hown) ⟨rfl, rfl, rfl, Nat.le_refl _, fun _ _ _ => rfl⟩ (.inl rfl))
theorem run_append_types {t t' ty e e' : TypeId} {i : TypeInfo} (ht : P.underlying t = some (.slice e)) (ht' : P.underlying t' = some (.slice e')) (hi : P.info? e = some i) (b : Option Addr) (n c : Nat) (x : Value) (w : World) :
    (Builtin.append_ #[t, t'] ty #[.slice b n c, x]).run P w = (Builtin.append_ #[t, t] ty #[.slice b n c, x]).run P w := by
  simp [Builtin.append_, run_underlying ht, run_underlying ht', sizeOf, typeInfo, hi, Sem.run_bind]
theorem wpList_append_any2 {ops : Array Oper} {rest : List Oper} {o : Oper} {a : Act} {w : World} {Q : Exit → Act → World → Prop} (hgd : o.guard = none) (s x : Operand) (t t' : TypeId)
    (ho : o.op = .call { callee := .builtin .append, args := #[s, x], argTypes := #[t, t'] })
    (base : Nat) (e : TypeId) (i : TypeInfo) (z : Value) (size bytes : Nat) {e' : TypeId} (ht : P.underlying t = some (.slice e)) (ht' : P.underlying t' = some (.slice e')) (hi : P.info? e = some i) (hz : i.zero = some z)
    (hsize : i.size = size) (hby : i.bytes = bytes) (hzs : z.cells.size = size) (hsz : 0 < size)
    (v : Value) (n : Nat) (xs : List Value) (hs : a.eval s = v) (hown : w.ownsRow base e size v n xs)
    (A : Option Addr) (m c : Nat) (news : List Value) (hx : a.eval x = .slice A m c) (hl : news.length = m * size) (hA : A = none → m = 0) (hnews : ∀ ad, A = some ad → ∀ j u, news[j]? = some u → w.cell? (ad.add j) = some u) (h1 : ∀ u ∈ news, u.oneCell' = true)
    (h63 : n + m ≤ maxLen) (hbytes : (n + m) * bytes ≤ 140737488355328) (hbase : base ≤ w.heap.size)
    (h : ∀ v' w', w'.ownsRow base e size v' (n + m) (xs ++ news) → w.grownBy w' v.ownBlock → (v'.ownBlock = v.ownBlock ∨ v'.ownBlock = some w.heap.size) → wpList P ops Q rest (a.put o.dst v') w') :
    wpList P ops Q (o :: rest) a w := by
  cases A with
  | some ad =>
    refine wpList_plain hgd fun K hK => ?_
    obtain ⟨v', w', hr, h2, h3, _, h5⟩ := run_append_own_at (P := P) w base t o.type e i z size bytes ht hi hz hsize hby hzs hsz v n xs hown ad m c news hl (hnews ad rfl) h1 h63 hbytes hbase
    have hf : ∃ b k, v = .slice b n k := by
      rcases hown.2 with ⟨e1, h0⟩ | ⟨g, cap, cur, e1, _⟩
      · exact ⟨none, 0, by rw [e1, h0]⟩
      · exact ⟨_, _, e1⟩
    obtain ⟨b, k, rfl⟩ := hf
    rw [← run_append_types ht ht' hi] at hr
    unfold Oper.wp execOp
    simp only [ho, resolve, invoke, builtin, Sem.run_bind, Sem.run_pure, Result.andThen_ok, List.map_toArray, List.map_cons, List.map_nil, hs, hx, hr]
    exact hK _ _ (h v' w' h2 h3 h5)
  | none =>
    have hm := hA rfl
    subst hm
    have hn : news = [] := List.eq_nil_of_length_eq_zero (by rw [hl]; simp)
    subst hn
    have hf : ∃ b k, v = .slice b n k ∧ n ≤ k := by
      rcases hown.2 with ⟨e1, h0⟩ | ⟨g, cap, cur, e1, _, _, h3, _⟩
      · exact ⟨none, 0, by rw [e1, h0], by omega⟩
      · exact ⟨_, _, e1, h3⟩
    obtain ⟨b, k, rfl, hnk⟩ := hf
    refine wpList_plain hgd fun K hK => ?_
    have hr := run_append_none (P := P) (ty := o.type) ht hi b n k c hnk w
    rw [← run_append_types ht ht' hi] at hr
    unfold Oper.wp execOp
    simp only [ho, resolve, invoke, builtin, Sem.run_bind, Sem.run_pure, Result.andThen_ok, List.map_toArray, List.map_cons, List.map_nil, hs, hx, hr]
    exact hK _ _ (h _ w (by simpa using hown) ⟨rfl, rfl, rfl, Nat.le_refl _, fun _ _ _ => rfl⟩ (.inl rfl))
end
/-- The cells of a list's row, from its start. -/
theorem own_news {w : World} {base size n c : Nat} {e : TypeId} {A : Option Addr} {us : List Value} (h : w.ownsRow base e size (.slice A n c) n us) : (A = none → n = 0) ∧ ∀ ad, A = some ad → ∀ j u, us[j]? = some u → w.cell? (ad.add j) = some u := by
  refine ⟨fun hA => ?_, fun ad hA j u hj => ?_⟩
  · rcases h.2 with ⟨_, h0⟩ | ⟨g, cap, cur, e1, _⟩
    · exact h0
    · subst hA; cases e1
  · subst hA
    rcases h.2 with ⟨e1, _⟩ | ⟨g, cap, cur, e1, _⟩
    · cases e1
    · injection e1 with e2 e3 e4
      injection e2 with e2
      subst e2
      exact h.cells (g := g) rfl j u hj
theorem ifaces {w : World} {l : List Vl} {S : Nat → Prop} {us : List Value} (h : Vls.sep w l S us) : ∀ u ∈ us, u.oneCell' = true := by
  intro u hu
  obtain ⟨j, hj, rfl⟩ := List.getElem_of_mem hu
  have hl := h.length
  obtain ⟨t, y, e⟩ := (h.at_ j (by omega) hj).iface
  rw [e]; rfl
/-- A list out of its row. -/
theorem sep_list {w : World} {l : List Vl} {S : Nat → Prop} {A : Option Addr} {c base n : Nat} {us : List Value} (hn : n = l.length) (h : w.ownsRow base 35 1 (.slice A n c) n us) (hg : ∀ g, (Value.slice A n c).ownBlock = some g → S g) (hs : Vls.sep w l (fun b => S b ∧ (Value.slice A n c).ownBlock ≠ some b) us) :
    (Vl.list l).sep w S (.iface 47 (.slice A n c)) := by
  subst hn
  unfold Vl.sep
  exact ⟨A, c, us, rfl, own_base h (Nat.zero_le _), hg, hs⟩
theorem sep_asList {x : Vl} {w : World} {S : Nat → Prop} {v : Value} {l : List Vl} (h : x.sep w S v) (hx : x.asList = some l) : ∃ A c us, v = .iface 47 (.slice A l.length c) ∧ w.ownsRow 0 35 1 (.slice A l.length c) l.length us ∧ (∀ g, (Value.slice A l.length c).ownBlock = some g → S g) ∧ Vls.sep w l (fun b => S b ∧ (Value.slice A l.length c).ownBlock ≠ some b) us := by
  cases x <;> simp [Vl.asList] at hx
  subst hx
  unfold Vl.sep at h
  exact h
theorem sep_noList {x : Vl} {w : World} {S : Nat → Prop} {v : Value} (h : x.sep w S v) (hx : x.asList = none) : ∃ T y, v = .iface T y ∧ T ≠ 47 := by
  cases x <;> simp [Vl.asList] at hx <;> unfold Vl.sep at h <;> exact ⟨_, _, h, by decide⟩
theorem sep_asInt {x : Vl} {w : World} {S : Nat → Prop} {v : Value} {n : Int} (h : x.sep w S v) (hx : x.asInt = some n) : v = .iface 43 (.int .i64 n) := by
  cases x <;> simp [Vl.asInt] at hx
  subst hx
  unfold Vl.sep at h
  exact h
theorem sep_noInt {x : Vl} {w : World} {S : Nat → Prop} {v : Value} (h : x.sep w S v) (hx : x.asInt = none) : ∃ T y, v = .iface T y ∧ T ≠ 43 := by
  cases x <;> simp [Vl.asInt] at hx <;> unfold Vl.sep at h
  case list l => obtain ⟨A, c, us, h, _⟩ := h; exact ⟨_, _, h, by decide⟩
  all_goals exact ⟨_, _, h, by decide⟩
/-- What an operation gives: a code, a value of old blocks of S and new ones. -/
def LOut (r : Int × Vl) (S : Nat → Prop) (w : World) (e : Ending) (w' : World) : Prop :=
  ∃ v, e = .returned (.tuple #[v, .int .i64 r.1]) ∧ (r.1 = 0 → r.2.sep w' (fun b => S b ∨ fresh w w' b) v) ∧ (r.1 ≠ 0 → v = .nilIface) ∧ Below w.heap.size w w'
theorem lout_bad {n : Int} (hn : n ≠ 0) (S : Nat → Prop) (w w' : World) (hb : Below w.heap.size w w') : LOut (lBad n) S w (.returned (.tuple #[.nilIface, .int .i64 n])) w' := ⟨_, rfl, fun h => absurd h hn, fun _ => rfl, hb⟩
end Go.Proofs.YtcldbjgikkfnbaaGreatDoor

/-
  Plain values that a text writes down. Plain. Conditions: none.
-/
namespace Go.Proofs.YtcldbjgikkfnbaaGreatDoor
open Go.RowKit
set_option linter.unusedVariables false

/-- A row of them in a block that is laid now. -/
theorem plits {w : World} (us : List PlAt) (hs : ∀ x ∈ us, x.p.sane ∧ Pls.lies w w.heap.size x.p.list x.A) : Pls.lies (w.alloc (.cells (us.flatMap PlAt.cells).toArray 31)) (w.heap.size + 1) (us.map PlAt.p) (some ⟨w.heap.size, 0, none⟩) := by
  refine plies_of (Nat.lt_succ_self _) us 0 (fun k hk j u hj => ?_) (fun x hx => ⟨(hs x hx).1, (hs x hx).2.below ((Below.refl w.heap.size w).alloc (Nat.le_refl _) _) (Nat.le_succ _)⟩)
  have hj4 : j < 4 := by
    rcases Nat.lt_or_ge j 4 with h | h
    · exact h
    · rw [List.getElem?_eq_none (by exact h)] at hj; cases hj
  rw [Nat.zero_add, World.cell?_alloc_new]
  rw [List.getElem?_toArray, plat_flat us k hk j hj4]
  exact hj
/-- A plain number. -/
def nPl (n : Int) : Pl := .mk 3 n ⟨#[]⟩ []
theorem nPl_sane {n : Int} (h : rng n = true) : (nPl n).sane := ⟨by rfl, h, by show (0 : Nat) ≤ _; omega, by show (0 : Nat) * 56 ≤ _; omega⟩
theorem nPl_ok (n : Int) : (nPl n).ok = true := by
  rw [ok_left]
  have hg : goodB 3 n ⟨#[]⟩ ([] : List Pl).length 0 = true := by rfl
  unfold nPl Pl.left
  rw [hg, if_neg (by rintro (h1 | h1); cases h1; exact absurd h1 (by decide))]
  unfold Pls.left
  decide
end Go.Proofs.YtcldbjgikkfnbaaGreatDoor

/-
  What a value costs of the room there is; pieces and turned lists cost no more. Plain. Conditions: none.
-/
namespace Go.Proofs.YtcldbjgikkfnbaaGreatDoor
open Go.RowKit
set_option linter.unusedVariables false

def addO : Option Nat → Option Nat → Option Nat
  | some a, some b => some (a + b)
  | _, _ => none
mutual
def Vl.cost : Vl → Int → Option Nat
  | .text s, _ => some (1 + s.size)
  | .list l, d => if 64 ≤ d then none else addO (some 1) (Vls.cost l (d + 1))
  | _, _ => some 1
def Vls.cost : List Vl → Int → Option Nat
  | [], _ => some 0
  | x :: xs, d => addO (x.cost d) (Vls.cost xs d)
end
/-- m - c where c is at most m; below 0 else. -/
def Costs (r m : Int) (c : Option Nat) : Prop := match c with
  | some c => ((c : Int) ≤ m → r = m - c) ∧ (m < (c : Int) → r < 0)
  | none => r < 0
mutual
theorem Vl.costs : ∀ (x : Vl) (m d : Int), Costs (x.measure m d) m (x.cost d)
  | .unit, m, d => by unfold Vl.measure Vl.cost Costs; simp; omega
  | .truth _, m, d => by unfold Vl.measure Vl.cost Costs; simp; omega
  | .int _, m, d => by unfold Vl.measure Vl.cost Costs; simp; omega
  | .text s, m, d => by unfold Vl.measure Vl.cost Costs; simp; omega
  | .list l, m, d => by
    have ih := Vls.costs l (m - 1) (d + 1)
    unfold Vl.measure Vl.cost
    by_cases h : 64 ≤ d
    · rw [if_pos h, if_pos h]; unfold Costs; simp
    · rw [if_neg h, if_neg h]
      cases hc : Vls.cost l (d + 1) with
      | none => rw [hc] at ih; exact ih
      | some c =>
        rw [hc] at ih
        unfold Costs addO at *
        simp only at ih ⊢
        exact ⟨fun h1 => by rw [ih.1 (by omega)]; omega, fun h1 => ih.2 (by omega)⟩
theorem Vls.costs : ∀ (l : List Vl) (m d : Int), Costs (Vls.measure l m d) m (Vls.cost l d)
  | [], m, d => by unfold Vls.measure Vls.cost Costs; simp
  | x :: xs, m, d => by
    have ix := Vl.costs x m d
    have ih := Vls.costs xs (x.measure m d) d
    unfold Vls.measure Vls.cost
    cases hx : x.cost d with
    | none =>
      rw [hx] at ix
      have ix' : x.measure m d < 0 := ix
      rw [if_pos ix']
      exact ix'
    | some a =>
      rw [hx] at ix
      have ix' : ((a : Int) ≤ m → x.measure m d = m - a) ∧ (m < (a : Int) → x.measure m d < 0) := ix
      cases hs : Vls.cost xs d with
      | none =>
        rw [hs] at ih
        have ih' : Vls.measure xs (x.measure m d) d < 0 := ih
        show (if x.measure m d < 0 then x.measure m d else Vls.measure xs (x.measure m d) d) < 0
        by_cases h : x.measure m d < 0
        · rw [if_pos h]; exact h
        · rw [if_neg h]; exact ih'
      | some b =>
        rw [hs] at ih
        have ih' : ((b : Int) ≤ x.measure m d → Vls.measure xs (x.measure m d) d = x.measure m d - b) ∧ (x.measure m d < (b : Int) → Vls.measure xs (x.measure m d) d < 0) := ih
        show (((a + b : Nat) : Int) ≤ m → (if x.measure m d < 0 then x.measure m d else Vls.measure xs (x.measure m d) d) = m - ((a + b : Nat) : Int)) ∧ (m < ((a + b : Nat) : Int) → (if x.measure m d < 0 then x.measure m d else Vls.measure xs (x.measure m d) d) < 0)
        refine ⟨fun h => ?_, fun h => ?_⟩
        · have e := ix'.1 (by omega)
          rw [if_neg (by omega), ih'.1 (by omega), e]
          omega
        · by_cases h1 : x.measure m d < 0
          · rw [if_pos h1]; exact h1
          · rw [if_neg h1]
            have e := ix'.1 (by rcases Int.lt_or_le m a with h2 | h2; exact absurd (ix'.2 h2) h1; exact h2)
            exact ih'.2 (by omega)
end
theorem addO_some {a b : Option Nat} {c : Nat} (h : addO a b = some c) : ∃ x y, a = some x ∧ b = some y ∧ x + y = c := by
  cases a <;> cases b <;> simp [addO] at h
  exact ⟨_, _, rfl, rfl, h⟩
theorem Vls.cost_append : ∀ (l m : List Vl) (d : Int), Vls.cost (l ++ m) d = addO (Vls.cost l d) (Vls.cost m d)
  | [], m, d => by simp only [List.nil_append, Vls.cost]; cases Vls.cost m d <;> simp [addO]
  | x :: xs, m, d => by
    simp only [List.cons_append, Vls.cost]
    rw [Vls.cost_append xs m d]
    cases x.cost d <;> cases Vls.cost xs d <;> cases Vls.cost m d <;> simp [addO]
    omega
theorem Vls.cost_reverse : ∀ (l : List Vl) (d : Int), Vls.cost l.reverse d = Vls.cost l d
  | [], d => rfl
  | x :: xs, d => by
    rw [List.reverse_cons, Vls.cost_append, Vls.cost_reverse xs d]
    simp only [Vls.cost]
    cases x.cost d <;> cases Vls.cost xs d <;> simp [addO]
    omega
theorem mayV_cost (l : List Vl) : (Vl.list l).mayV = true ↔ ∃ c, Vls.cost l 1 = some c ∧ c ≤ 65535 := by
  have h := Vl.costs (.list l) 65536 0
  unfold Vl.cost at h
  rw [if_neg (by omega)] at h
  unfold Vl.mayV
  simp only [decide_eq_true_eq]
  show _ ↔ _
  have e : (0 : Int) + 1 = 1 := by omega
  rw [e] at h
  cases hc : Vls.cost l 1 with
  | none =>
    rw [hc] at h
    have h' : (Vl.list l).measure 65536 0 < 0 := h
    simp; omega
  | some c =>
    rw [hc] at h
    have h' : (((1 + c : Nat) : Int) ≤ 65536 → (Vl.list l).measure 65536 0 = 65536 - ((1 + c : Nat) : Int)) ∧ ((65536 : Int) < ((1 + c : Nat) : Int) → (Vl.list l).measure 65536 0 < 0) := h
    constructor
    · intro h0
      refine ⟨c, rfl, ?_⟩
      rcases Nat.lt_or_ge 65535 c with h1 | h1
      · have := h'.2 (by omega); omega
      · exact h1
    · rintro ⟨c', e1, h1⟩
      injection e1 with e1
      subst e1
      have := h'.1 (by omega)
      omega
theorem may_reverse {l : List Vl} (h : (Vl.list l).mayV = true) : (Vl.list l.reverse).mayV = true := by
  rw [mayV_cost] at h ⊢
  rw [Vls.cost_reverse]
  exact h
theorem may_left {l m : List Vl} (h : (Vl.list (l ++ m)).mayV = true) : (Vl.list l).mayV = true ∧ (Vl.list m).mayV = true := by
  rw [mayV_cost] at h
  obtain ⟨c, h1, h2⟩ := h
  rw [Vls.cost_append] at h1
  obtain ⟨a, b, e1, e2, e3⟩ := addO_some h1
  exact ⟨(mayV_cost l).2 ⟨a, e1, by omega⟩, (mayV_cost m).2 ⟨b, e2, by omega⟩⟩
theorem may_piece {l : List Vl} (h : (Vl.list l).mayV = true) (a b : Nat) : (Vl.list ((l.take b).drop a)).mayV = true := by
  rw [← List.take_append_drop b l] at h
  have h1 := (may_left h).1
  rw [← List.take_append_drop a (l.take b)] at h1
  exact (may_left h1).2
/-- One of a list that may be. -/
theorem one_of_may {l : List Vl} (h : (Vl.list l).mayV = true) (k : Nat) (hk : k < l.length) : l[k].count ≤ 65536 ∧ l[k].dep ≤ 65 := by
  have hb := Vl.mayV_bounds h
  unfold Vl.count Vl.dep at hb
  have h1 := Vls.count_take l k hk
  have h2 := Vls.count_le l (k + 1)
  have h3 := Vls.dep_at (l := l) k hk
  omega
end Go.Proofs.YtcldbjgikkfnbaaGreatDoor
