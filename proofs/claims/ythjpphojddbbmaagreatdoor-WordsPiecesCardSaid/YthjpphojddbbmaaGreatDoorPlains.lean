/-
  Plain values as data, how they lie in memory, and whether they may be: no program. Conditions: none.
-/
import Derived.Test.YthjpphojddbbmaaGreatDoorBase
import Derived.Test.YthjpphojddbbmaaGreatDoorNumPlain
namespace Go.Proofs.YthjpphojddbbmaaGreatDoor
open Go.RowKit

/-- A plain value. -/
inductive Pl where
  | mk (kind num : Int) (text : ByteArray) (list : List Pl)
def Pl.kind : Pl → Int | .mk k _ _ _ => k
def Pl.num : Pl → Int | .mk _ n _ _ => n
def Pl.text : Pl → ByteArray | .mk _ _ t _ => t
def Pl.list : Pl → List Pl | .mk _ _ _ l => l

mutual
/-- Its four cells lie at a place of a block below B, and so on down. -/
def Pl.lies (w : World) (B : Nat) : Pl → Nat → Nat → Prop
  | .mk k n t l, b, o => b < B ∧ w.cell? ⟨b, o, none⟩ = some (.int .i64 k) ∧ w.cell? ⟨b, o + 1, none⟩ = some (.int .i64 n) ∧ w.cell? ⟨b, o + 2, none⟩ = some (.string t) ∧
      rng k = true ∧ rng n = true ∧ t.size ≤ 140737488351232 ∧ l.length * 56 ≤ 140737488351232 ∧ ∃ A c, w.cell? ⟨b, o + 3, none⟩ = some (.slice A l.length c) ∧ Pls.lies w B l A
/-- A row of them from an address on. -/
def Pls.lies (w : World) (B : Nat) : List Pl → Option Addr → Prop
  | [], _ => True
  | p :: ps, A => ∃ b o, A = some ⟨b, o, none⟩ ∧ Pl.lies w B p b o ∧ Pls.lies w B ps (some ⟨b, o + 4, none⟩)
end

mutual
theorem Pl.lies.keep {w w' : World} {B B' : Nat} (hk : ∀ b o, b < B → w'.cell? ⟨b, o, none⟩ = w.cell? ⟨b, o, none⟩) (hB : B ≤ B') : ∀ (p : Pl) (b o : Nat), p.lies w B b o → p.lies w' B' b o
  | .mk k n t l, b, o, h => by
    unfold Pl.lies at h ⊢
    obtain ⟨h0, h1, h2, h3, h4, h5, h6, h7, A, c, h8, h9⟩ := h
    exact ⟨by omega, (hk _ _ h0).trans h1, (hk _ _ h0).trans h2, (hk _ _ h0).trans h3, h4, h5, h6, h7, A, c, (hk _ _ h0).trans h8, Pls.lies.keep hk hB l A h9⟩
theorem Pls.lies.keep {w w' : World} {B B' : Nat} (hk : ∀ b o, b < B → w'.cell? ⟨b, o, none⟩ = w.cell? ⟨b, o, none⟩) (hB : B ≤ B') : ∀ (l : List Pl) (A : Option Addr), Pls.lies w B l A → Pls.lies w' B' l A
  | [], _, _ => by unfold Pls.lies; trivial
  | p :: ps, A, h => by
    unfold Pls.lies at h ⊢
    obtain ⟨b, o, e, h1, h2⟩ := h
    exact ⟨b, o, e, Pl.lies.keep hk hB p b o h1, Pls.lies.keep hk hB ps _ h2⟩
end
theorem Pl.lies.below {w w' : World} {B B' : Nat} {p : Pl} {b o : Nat} (h : p.lies w B b o) (hb : Below B w w') (hB : B ≤ B') : p.lies w' B' b o := h.keep (fun _ _ hh => hb.cell hh) hB
theorem Pls.lies.below {w w' : World} {B B' : Nat} {l : List Pl} {A : Option Addr} (h : Pls.lies w B l A) (hb : Below B w w') (hB : B ≤ B') : Pls.lies w' B' l A := h.keep (fun _ _ hh => hb.cell hh) hB
/-- One of a row. -/
theorem Pls.lies.at_ {w : World} {B : Nat} : ∀ {l : List Pl} {b o : Nat}, Pls.lies w B l (some ⟨b, o, none⟩) → ∀ (k : Nat) (h : k < l.length), l[k].lies w B b (o + k * 4)
  | [], _, _, _, k, h => absurd h (by simp)
  | p :: ps, b, o, hl, k, h => by
    unfold Pls.lies at hl
    obtain ⟨b', o', e, h1, h2⟩ := hl
    simp at e
    obtain ⟨rfl, rfl⟩ := e
    match k with
    | 0 => simpa using h1
    | k + 1 =>
      have := Pls.lies.at_ h2 k (by simpa using h)
      rw [show o + (k + 1) * 4 = o + 4 + k * 4 by omega]
      simpa using this
theorem Pls.lies.head {w : World} {B : Nat} {l : List Pl} {A : Option Addr} (h : Pls.lies w B l A) (hl : 0 < l.length) : ∃ b o, A = some ⟨b, o, none⟩ := by
  match l, h with
  | p :: ps, h =>
    unfold Pls.lies at h
    obtain ⟨b, o, e, _⟩ := h
    exact ⟨b, o, e⟩
theorem Pl.lt_of_mem {p : Pl} {l : List Pl} (k n : Int) (t : ByteArray) (h : p ∈ l) : SizeOf.sizeOf p < SizeOf.sizeOf (Pl.mk k n t l) := by
  have := List.sizeOf_lt_of_mem h
  simp; omega

mutual
/-- What zval's look at a plain value comes to: whether it is of a form that may be, and what is left. -/
def Pl.right : Pl → Int → Int → Bool × Int
  | .mk k n t l, left, deep =>
    if left - 1 < 0 ∨ 64 < deep ∨ (k ≠ 4 ∧ t.size ≠ 0) ∨ (k ≠ 5 ∧ 0 < l.length) then (false, left - 1)
    else if k = 2 then (decide (n = 0 ∨ n = 1), left - 1)
    else if k = 3 then (true, left - 1)
    else if k = 1 ∨ k = 4 then (decide (n = 0 ∧ 0 ≤ left - 1 - t.size), left - 1 - t.size)
    else if k = 5 then (((Pls.right l (left - 1) (deep + 1)).1 && decide (n = 0)), (Pls.right l (left - 1) (deep + 1)).2)
    else (false, left - 1)
/-- .. of one after the other. -/
def Pls.right : List Pl → Int → Int → Bool × Int
  | [], left, _ => (true, left)
  | p :: ps, left, deep => if (p.right left deep).1 then Pls.right ps (p.right left deep).2 deep else (false, (p.right left deep).2)
end

mutual
theorem Pl.right_le : ∀ (p : Pl) (left deep : Int), (p.right left deep).2 ≤ left ∧ ((p.right left deep).1 = true → 0 ≤ (p.right left deep).2)
  | .mk k n t l, left, deep => by
    have ih := Pls.right_le l (left - 1) (deep + 1)
    unfold Pl.right
    by_cases h : left - 1 < 0 ∨ 64 < deep ∨ (k ≠ 4 ∧ t.size ≠ 0) ∨ (k ≠ 5 ∧ 0 < l.length)
    · rw [if_pos h]; exact ⟨by simp only; omega, fun h => by cases h⟩
    · rw [if_neg h]
      by_cases h2 : k = 2
      · rw [if_pos h2]; exact ⟨by simp only; omega, fun _ => by simp only; omega⟩
      · rw [if_neg h2]
        by_cases h3 : k = 3
        · rw [if_pos h3]; exact ⟨by simp only; omega, fun _ => by simp only; omega⟩
        · rw [if_neg h3]
          by_cases h4 : k = 1 ∨ k = 4
          · rw [if_pos h4]; exact ⟨by simp only; omega, fun h => by simp only [decide_eq_true_eq] at h; simp only; omega⟩
          · rw [if_neg h4]
            by_cases h5 : k = 5
            · rw [if_pos h5]
              refine ⟨by have := ih.1; simp only; omega, fun h => ?_⟩
              simp only [Bool.and_eq_true] at h
              exact ih.2 (by omega) h.1
            · rw [if_neg h5]; exact ⟨by simp only; omega, fun h => by cases h⟩
theorem Pls.right_le : ∀ (l : List Pl) (left deep : Int), (Pls.right l left deep).2 ≤ left ∧ (0 ≤ left → (Pls.right l left deep).1 = true → 0 ≤ (Pls.right l left deep).2)
  | [], left, deep => by unfold Pls.right; exact ⟨Int.le_refl _, fun h _ => h⟩
  | p :: ps, left, deep => by
    have h1 := Pl.right_le p left deep
    have h2 := Pls.right_le ps (p.right left deep).2 deep
    unfold Pls.right
    by_cases h : (p.right left deep).1 = true
    · rw [if_pos h]; exact ⟨by omega, fun _ hh => h2.2 (h1.2 h) hh⟩
    · rw [if_neg h]; exact ⟨h1.1, fun _ hh => by cases hh⟩
end
theorem Pls.right_step {l : List Pl} {k : Nat} (h : k < l.length) (left deep : Int) :
    Pls.right (l.drop k) left deep = if (l[k].right left deep).1 then Pls.right (l.drop (k + 1)) (l[k].right left deep).2 deep else (false, (l[k].right left deep).2) := by
  rw [List.drop_eq_getElem_cons h, Pls.right]
theorem Pl.size_lt {k n : Int} {t : ByteArray} {l : List Pl} {j : Nat} (h : j < l.length) : SizeOf.sizeOf l[j] < SizeOf.sizeOf (Pl.mk k n t l) := Pl.lt_of_mem k n t (List.getElem_mem h)
theorem Pl.lies.grown {w w' : World} {B l : Nat} {p : Pl} {b o : Nat} (h : p.lies w B b o) (hg : w.grownBy w' (some l)) (hB : B ≤ l) (hs : B ≤ w.heap.size) : p.lies w' B b o :=
  h.keep (fun b o hb => World.cell?_of_block (hg.block b (by omega) (fun e => by injection e with e; omega))) (Nat.le_refl _)
theorem Pl.lies.drew {w : World} {B : Nat} {p : Pl} {b o : Nat} (h : p.lies w B b o) : p.lies w.drew B b o := h.keep (w := w) (w' := w.drew) (fun _ _ _ => rfl) (Nat.le_refl _)
theorem Pls.lies.drew {w : World} {B : Nat} {l : List Pl} {A : Option Addr} (h : Pls.lies w B l A) : Pls.lies w.drew B l A := h.keep (w := w) (w' := w.drew) (fun _ _ _ => rfl) (Nat.le_refl _)
theorem Pl.lies.parts {w : World} {B : Nat} {p : Pl} {b o : Nat} (h : p.lies w B b o) : b < B ∧ w.cell? ⟨b, o, none⟩ = some (.int .i64 p.kind) ∧ w.cell? ⟨b, o + 1, none⟩ = some (.int .i64 p.num) ∧ w.cell? ⟨b, o + 2, none⟩ = some (.string p.text) ∧
      p.list.length * 56 ≤ 140737488351232 ∧ ∃ A c, w.cell? ⟨b, o + 3, none⟩ = some (.slice A p.list.length c) ∧ Pls.lies w B p.list A := by
  obtain ⟨k, n, t, l⟩ := p
  unfold Pl.lies at h
  obtain ⟨h0, h1, h2, h3, h4, h5, h6, h7, A, c, h8, h9⟩ := h
  exact ⟨h0, h1, h2, h3, h7, A, c, h8, h9⟩
theorem Pl.lies.text {w : World} {B : Nat} {p : Pl} {b o : Nat} (h : p.lies w B b o) : p.text.size ≤ 140737488351232 := by
  obtain ⟨k, n, t, l⟩ := p
  unfold Pl.lies at h
  exact h.2.2.2.2.2.2.1
theorem Pl.lies.nums {w : World} {B : Nat} {p : Pl} {b o : Nat} (h : p.lies w B b o) : rng p.kind = true ∧ rng p.num = true := by
  obtain ⟨k, n, t, l⟩ := p
  unfold Pl.lies at h
  exact ⟨h.2.2.2.2.1, h.2.2.2.2.2.1⟩
/-- A copy of its four cells in a new block. -/
theorem Pl.lies.copy {w : World} {B : Nat} {p : Pl} {b o : Nat} (h : p.lies w B b o) (hB : B ≤ w.heap.size) {A : Option Addr} {c : Nat} (hc : w.cell? ⟨b, o + 3, none⟩ = some (.slice A p.list.length c)) (T : TypeId) :
    p.lies (w.alloc (.cells #[.int .i64 p.kind, .int .i64 p.num, .string p.text, .slice A p.list.length c] T)) (w.heap.size + 1) w.heap.size 0 ∧ Pls.lies w B p.list A := by
  obtain ⟨k, n, t, l⟩ := p
  unfold Pl.lies at h ⊢
  obtain ⟨h0, h1, h2, h3, h4, h5, h6, h7, A', c', h8, h9⟩ := h
  rw [hc] at h8
  injection h8 with h8
  injection h8 with h8 _ h10
  subst h8
  refine ⟨⟨by omega, ?_, ?_, ?_, h4, h5, h6, h7, A, c, ?_, h9.keep (fun b o hb => World.cell?_alloc_lt _ _ _ (by simp; omega)) (by omega)⟩, h9⟩
  all_goals rw [World.cell?_alloc_new]; rfl
end Go.Proofs.YthjpphojddbbmaaGreatDoor
