/-
  Values as data, and how they lie in memory. Conditions: none.
-/
import Derived.Test.YthjpphojddbbmaaGreatDoorPlains
namespace Go.Proofs.YthjpphojddbbmaaGreatDoor
open Go.RowKit
set_option linter.unusedVariables false

/-- A value. -/
inductive Vl where
  | unit
  | truth (b : Bool)
  | int (n : Int)
  | text (s : ByteArray)
  | list (l : List Vl)

mutual
/-- A run-time value is that value, its lists' cells in blocks of S. -/
def Vl.is (w : World) (S : Nat → Prop) : Vl → Value → Prop
  | .unit, v => v = .iface 157 (.agg #[])
  | .truth b, v => v = .iface 47 (.bool b)
  | .int n, v => v = .iface 75 (.int .i64 n)
  | .text s, v => v = .iface 77 (.string s)
  | .list l, v => ∃ A c, v = .iface 158 (.slice A l.length c) ∧ Vls.lies w S l A
/-- .. one after the other from an address on. -/
def Vls.lies (w : World) (S : Nat → Prop) : List Vl → Option Addr → Prop
  | [], _ => True
  | x :: xs, A => ∃ b o u, A = some ⟨b, o, none⟩ ∧ S b ∧ w.cell? ⟨b, o, none⟩ = some u ∧ Vl.is w S x u ∧ Vls.lies w S xs (some ⟨b, o + 1, none⟩)
end

mutual
theorem Vl.is.keep {w w' : World} {S S' : Nat → Prop} (hk : ∀ b o, S b → w'.cell? ⟨b, o, none⟩ = w.cell? ⟨b, o, none⟩) (hS : ∀ b, S b → S' b) : ∀ (x : Vl) (v : Value), x.is w S v → x.is w' S' v
  | .unit, v, h => by unfold Vl.is at h ⊢; exact h
  | .truth b, v, h => by unfold Vl.is at h ⊢; exact h
  | .int n, v, h => by unfold Vl.is at h ⊢; exact h
  | .text s, v, h => by unfold Vl.is at h ⊢; exact h
  | .list l, v, h => by
    unfold Vl.is at h ⊢
    obtain ⟨A, c, h1, h2⟩ := h
    exact ⟨A, c, h1, Vls.lies.keep hk hS l A h2⟩
theorem Vls.lies.keep {w w' : World} {S S' : Nat → Prop} (hk : ∀ b o, S b → w'.cell? ⟨b, o, none⟩ = w.cell? ⟨b, o, none⟩) (hS : ∀ b, S b → S' b) : ∀ (l : List Vl) (A : Option Addr), Vls.lies w S l A → Vls.lies w' S' l A
  | [], A, h => by unfold Vls.lies; trivial
  | x :: xs, A, h => by
    unfold Vls.lies at h ⊢
    obtain ⟨b, o, u, e, h1, h2, h3, h4⟩ := h
    exact ⟨b, o, u, e, hS b h1, (hk b o h1).trans h2, Vl.is.keep hk hS x u h3, Vls.lies.keep hk hS xs _ h4⟩
end
theorem Vls.lies.at_ {w : World} {S : Nat → Prop} : ∀ {l : List Vl} {b o : Nat}, Vls.lies w S l (some ⟨b, o, none⟩) → ∀ (k : Nat) (h : k < l.length), S b ∧ ∃ u, w.cell? ⟨b, o + k, none⟩ = some u ∧ l[k].is w S u
  | [], _, _, _, k, h => absurd h (by simp)
  | x :: xs, b, o, hl, k, h => by
    unfold Vls.lies at hl
    obtain ⟨b', o', u, e, h1, h2, h3, h4⟩ := hl
    simp at e
    obtain ⟨rfl, rfl⟩ := e
    match k with
    | 0 => exact ⟨h1, u, by simpa using h2, by simpa using h3⟩
    | k + 1 =>
      obtain ⟨g1, u', g2, g3⟩ := Vls.lies.at_ h4 k (by simpa using h)
      exact ⟨g1, u', by rw [show o + (k + 1) = o + 1 + k by omega]; exact g2, by simpa using g3⟩
theorem Vls.lies.head {w : World} {S : Nat → Prop} {l : List Vl} {A : Option Addr} (h : Vls.lies w S l A) (hl : 0 < l.length) : ∃ b o, A = some ⟨b, o, none⟩ := by
  match l, h with
  | p :: ps, h =>
    unfold Vls.lies at h
    obtain ⟨b, o, u, e, _⟩ := h
    exact ⟨b, o, e⟩
/-- Together out of their cells. -/
theorem Vls.lies.of {w : World} {S : Nat → Prop} : ∀ {l : List Vl} {us : List Value} {b o : Nat}, us.length = l.length → (0 < l.length → S b) → (∀ j u, us[j]? = some u → w.cell? ⟨b, o + j, none⟩ = some u) →
    (∀ j (h : j < l.length) (h' : j < us.length), l[j].is w S us[j]) → Vls.lies w S l (some ⟨b, o, none⟩)
  | [], _, _, _, _, _, _, _ => by unfold Vls.lies; trivial
  | x :: xs, [], _, _, h, _, _, _ => by simp at h
  | x :: xs, u :: us, b, o, h, hS, hc, hi => by
    unfold Vls.lies
    refine ⟨b, o, u, rfl, hS (by simp), by simpa using hc 0 u rfl, hi 0 (by simp) (by simp), Vls.lies.of (us := us) (by simpa using h) (fun _ => hS (by simp)) (fun j v hj => ?_) (fun j h1 h2 => ?_)⟩
    · have := hc (j + 1) v (by simpa using hj)
      rw [show o + 1 + j = o + (j + 1) by omega]; exact this
    · exact hi (j + 1) (by simpa using h1) (by simpa using h2)

mutual
/-- The value of a plain one that may be. -/
def Pl.toVl : Pl → Vl
  | .mk k n t l => if k = 2 then .truth (decide (n = 1)) else if k = 3 then .int n else if k = 4 then .text t else if k = 5 then .list (Pls.toVl l) else .unit
def Pls.toVl : List Pl → List Vl
  | [] => []
  | p :: ps => p.toVl :: Pls.toVl ps
end
theorem Pls.toVl_length : ∀ l : List Pl, (Pls.toVl l).length = l.length
  | [] => by simp [Pls.toVl]
  | p :: ps => by simp [Pls.toVl, Pls.toVl_length ps]
theorem Pls.toVl_get : ∀ (l : List Pl) (j : Nat) (h : j < l.length) (h' : j < (Pls.toVl l).length), (Pls.toVl l)[j] = l[j].toVl
  | p :: ps, 0, _, _ => by simp [Pls.toVl]
  | p :: ps, j + 1, h, h' => by simp [Pls.toVl]; exact Pls.toVl_get ps j (by simpa using h) _
theorem Vl.is.iface {w : World} {S : Nat → Prop} {x : Vl} {v : Value} (h : x.is w S v) : ∃ u y, v = .iface u y := by
  cases x <;> unfold Vl.is at h
  case list l => obtain ⟨A, c, h, _⟩ := h; exact ⟨_, _, h⟩
  all_goals exact ⟨_, _, h⟩

mutual
/-- Its numbers are of 64 bits, its texts and lists within a row's reach. -/
def Vl.fine : Vl → Prop
  | .int n => rng n = true
  | .text s => s.size ≤ 140737488351232
  | .list l => l.length ≤ 140737488351232 ∧ Vls.fine l
  | _ => True
def Vls.fine : List Vl → Prop
  | [] => True
  | x :: xs => Vl.fine x ∧ Vls.fine xs
end
theorem Vls.fine.at_ : ∀ {l : List Vl}, Vls.fine l → ∀ (k : Nat) (h : k < l.length), l[k].fine
  | x :: xs, h, 0, _ => by unfold Vls.fine at h; exact h.1
  | x :: xs, h, k + 1, hk => by unfold Vls.fine at h; exact Vls.fine.at_ h.2 k (by simpa using hk)
mutual
/-- What zval's measure leaves. -/
def Vl.measure : Vl → Int → Int → Int
  | .text s, left, _ => left - 1 - s.size
  | .list l, left, deep => if 64 ≤ deep then -1 else Vls.measure l (left - 1) (deep + 1)
  | _, left, _ => left - 1
def Vls.measure : List Vl → Int → Int → Int
  | [], left, _ => left
  | x :: xs, left, deep => if x.measure left deep < 0 then x.measure left deep else Vls.measure xs (x.measure left deep) deep
end
mutual
theorem Vl.measure_le : ∀ (x : Vl) (left deep : Int), x.measure left deep ≤ max left (-1)
  | .unit, left, deep => by unfold Vl.measure; omega
  | .truth _, left, deep => by unfold Vl.measure; omega
  | .int _, left, deep => by unfold Vl.measure; omega
  | .text s, left, deep => by unfold Vl.measure; omega
  | .list l, left, deep => by
    have ih := Vls.measure_le l (left - 1) (deep + 1)
    unfold Vl.measure
    by_cases hd : 64 ≤ deep
    · rw [if_pos hd]; omega
    · rw [if_neg hd]; omega
theorem Vls.measure_le : ∀ (l : List Vl) (left deep : Int), Vls.measure l left deep ≤ max left (-1)
  | [], left, deep => by unfold Vls.measure; omega
  | x :: xs, left, deep => by
    have h1 := Vl.measure_le x left deep
    have h2 := Vls.measure_le xs (x.measure left deep) deep
    unfold Vls.measure
    by_cases h : x.measure left deep < 0
    · rw [if_pos h]; omega
    · rw [if_neg h]; omega
end
theorem Vls.measure_step {l : List Vl} {k : Nat} (h : k < l.length) (left deep : Int) :
    Vls.measure (l.drop k) left deep = if l[k].measure left deep < 0 then l[k].measure left deep else Vls.measure (l.drop (k + 1)) (l[k].measure left deep) deep := by
  rw [List.drop_eq_getElem_cons h, Vls.measure]
theorem Vl.size_lt {l : List Vl} {j : Nat} (h : j < l.length) : SizeOf.sizeOf l[j] < SizeOf.sizeOf (Vl.list l) := by
  have := List.sizeOf_lt_of_mem (List.getElem_mem h)
  simp; omega

mutual
theorem Pl.lies.fine {w : World} {B : Nat} : ∀ (p : Pl) (b o : Nat), p.lies w B b o → p.toVl.fine
  | .mk k n t l, b, o, h => by
    unfold Pl.lies at h
    obtain ⟨h0, h1, h2, h3, h4, h5, h6, h7, A, c, h8, h9⟩ := h
    have ih := Pls.lies.fine l A h9
    unfold Pl.toVl
    by_cases c2 : k = 2
    · rw [if_pos c2]; unfold Vl.fine; trivial
    · rw [if_neg c2]
      by_cases c3 : k = 3
      · rw [if_pos c3]; unfold Vl.fine; exact h5
      · rw [if_neg c3]
        by_cases c4 : k = 4
        · rw [if_pos c4]; unfold Vl.fine; exact h6
        · rw [if_neg c4]
          by_cases c5 : k = 5
          · rw [if_pos c5]; unfold Vl.fine; exact ⟨by rw [Pls.toVl_length]; omega, ih⟩
          · rw [if_neg c5]; unfold Vl.fine; trivial
theorem Pls.lies.fine {w : World} {B : Nat} : ∀ (l : List Pl) (A : Option Addr), Pls.lies w B l A → Vls.fine (Pls.toVl l)
  | [], A, h => by unfold Pls.toVl Vls.fine; trivial
  | p :: ps, A, h => by
    unfold Pls.lies at h
    obtain ⟨b, o, e, h1, h2⟩ := h
    unfold Pls.toVl Vls.fine
    exact ⟨Pl.lies.fine p b o h1, Pls.lies.fine ps _ h2⟩
end
/-- It may be: of a form, not too great, not too deep. -/
def Pl.ok (p : Pl) : Bool := (p.right 65536 0).1 && decide (0 ≤ p.toVl.measure 65536 0)
/-- An owned row of values reads as values. -/
theorem Vls.lies.of_own {w : World} {S : Nat → Prop} {base : Nat} {l : List Vl} {us : List Value} {v : Value} {e : TypeId} {n : Nat} (hn : us.length = n) (hl : us.length = l.length) (hown : w.ownsRow base e 1 v n us)
    (hS : ∀ g, v.ownBlock = some g → 0 < n → S g) (hi : ∀ j (h : j < l.length) (h' : j < us.length), l[j].is w S us[j]) : ∃ A c, v = .slice A n c ∧ Vls.lies w S l A := by
  rcases hown.2 with ⟨rfl, rfl⟩ | ⟨g, cap, cur, rfl, _⟩
  · have : l = [] := List.eq_nil_of_length_eq_zero (by omega)
    subst this
    exact ⟨none, 0, rfl, by unfold Vls.lies; trivial⟩
  · exact ⟨_, _, rfl, Vls.lies.of hl (fun h => hS g rfl (by omega)) (fun j u hj => by
      have h1 : j < us.length := by
        rcases Nat.lt_or_ge j us.length with h | h
        · exact h
        · rw [List.getElem?_eq_none h] at hj; cases hj
      rw [Nat.zero_add, hown.cellAt j (by omega)]; exact hj) hi⟩
end Go.Proofs.YthjpphojddbbmaaGreatDoor
