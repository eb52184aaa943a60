/-
  Plain values with a mark behind each of their lists, in memory: no program. Conditions: none.
-/
import Derived.Test.YtcldbjgikkfnbaaGreatDoorCBase
namespace Go.Proofs.YtcldbjgikkfnbaaGreatDoor
open Go.RowKit
set_option linter.unusedVariables false

/-- The value of a plain one, its list at an address. -/
def Pl.cells4 (p : Pl) (A : Option Addr) (c : Nat) : List Value := [.int .i64 p.kind, .int .i64 p.num, .string p.text, .slice A p.list.length c]
def Pl.arg (p : Pl) (A : Option Addr) (c : Nat) : Value := .agg #[.int .i64 p.kind, .int .i64 p.num, .string p.text, .slice A p.list.length c]
/-- Its own numbers, text and list are within a row's reach. -/
def Pl.sane (p : Pl) : Prop := rng p.kind = true ∧ rng p.num = true ∧ p.text.size ≤ 140737488351232 ∧ p.list.length * 56 ≤ 140737488351232
theorem Pl.lies.sane {w : World} {B : Nat} {p : Pl} {b o : Nat} (h : p.lies w B b o) : p.sane := ⟨h.nums.1, h.nums.2, h.text, h.parts.2.2.2.2.1⟩
mutual
/-- It lies at a place, a mark behind its list and so on down. -/
def Pl.mlies (w : World) (S : Nat → Prop) : Pl → Nat → Nat → Prop
  | .mk k n t l, b, o => S b ∧ (Pl.mk k n t l).sane ∧ ∃ A c, (∀ j u, ((Pl.mk k n t l).cells4 A c)[j]? = some u → w.cell? ⟨b, o + j, none⟩ = some u) ∧ ((A = none ∧ l = []) ∨ ∃ b' o', A = some ⟨b', o', none⟩ ∧ l.length < c ∧ Pls.mtail w S l b' o')
/-- A row of them, and a mark. -/
def Pls.mtail (w : World) (S : Nat → Prop) : List Pl → Nat → Nat → Prop
  | [], b, o => S b ∧ w.cell? ⟨b, o, none⟩ = some (.int .i64 (-7))
  | p :: ps, b, o => Pl.mlies w S p b o ∧ Pls.mtail w S ps b (o + 4)
end
/-- A list is none, or a mark lies behind it. -/
def Marked (w : World) (S : Nat → Prop) (l : List Pl) (A : Option Addr) (c : Nat) : Prop := (A = none ∧ l = []) ∨ ∃ b' o', A = some ⟨b', o', none⟩ ∧ l.length < c ∧ Pls.mtail w S l b' o'
theorem Pl.mlies_iff {w : World} {S : Nat → Prop} {p : Pl} {b o : Nat} : p.mlies w S b o ↔ S b ∧ p.sane ∧ ∃ A c, (∀ j u, (p.cells4 A c)[j]? = some u → w.cell? ⟨b, o + j, none⟩ = some u) ∧ Marked w S p.list A c := by
  obtain ⟨k, n, t, l⟩ := p
  unfold Pl.mlies Marked
  exact Iff.rfl
section
variable {w w' : World} {S S' : Nat → Prop}
mutual
theorem Pl.mlies.keep (hk : ∀ b o, S b → w'.cell? ⟨b, o, none⟩ = w.cell? ⟨b, o, none⟩) (hS : ∀ b, S b → S' b) : ∀ (p : Pl) (b o : Nat), p.mlies w S b o → p.mlies w' S' b o
  | .mk k n t l, b, o, h => by
    unfold Pl.mlies at h ⊢
    obtain ⟨h0, h1, A, c, h2, h3⟩ := h
    refine ⟨hS _ h0, h1, A, c, fun j u hj => (hk _ _ h0).trans (h2 j u hj), ?_⟩
    rcases h3 with h3 | ⟨b', o', h3, h4, h5⟩
    · exact .inl h3
    · exact .inr ⟨b', o', h3, h4, Pls.mtail.keep hk hS l b' o' h5⟩
theorem Pls.mtail.keep (hk : ∀ b o, S b → w'.cell? ⟨b, o, none⟩ = w.cell? ⟨b, o, none⟩) (hS : ∀ b, S b → S' b) : ∀ (l : List Pl) (b o : Nat), Pls.mtail w S l b o → Pls.mtail w' S' l b o
  | [], b, o, h => by
    unfold Pls.mtail at h ⊢
    exact ⟨hS _ h.1, (hk _ _ h.1).trans h.2⟩
  | p :: ps, b, o, h => by
    unfold Pls.mtail at h ⊢
    exact ⟨Pl.mlies.keep hk hS p b o h.1, Pls.mtail.keep hk hS ps b (o + 4) h.2⟩
end
mutual
theorem Pl.mlies.lies {B : Nat} (hS : ∀ b, S b → b < B) : ∀ (p : Pl) (b o : Nat), p.mlies w S b o → p.lies w B b o
  | .mk k n t l, b, o, h => by
    unfold Pl.mlies at h
    unfold Pl.lies
    obtain ⟨h0, h1, A, c, h2, h3⟩ := h
    refine ⟨hS _ h0, h2 0 _ rfl, h2 1 _ rfl, h2 2 _ rfl, h1.1, h1.2.1, h1.2.2.1, h1.2.2.2, A, c, h2 3 _ rfl, ?_⟩
    rcases h3 with ⟨rfl, rfl⟩ | ⟨b', o', rfl, h4, h5⟩
    · unfold Pls.lies; trivial
    · exact Pls.mtail.lies hS l b' o' h5
theorem Pls.mtail.lies {B : Nat} (hS : ∀ b, S b → b < B) : ∀ (l : List Pl) (b o : Nat), Pls.mtail w S l b o → Pls.lies w B l (some ⟨b, o, none⟩)
  | [], b, o, h => by unfold Pls.lies; trivial
  | p :: ps, b, o, h => by
    unfold Pls.mtail at h
    unfold Pls.lies
    exact ⟨b, o, rfl, Pl.mlies.lies hS p b o h.1, Pls.mtail.lies hS ps b (o + 4) h.2⟩
end
theorem Marked.keep {l : List Pl} {A : Option Addr} {c : Nat} (h : Marked w S l A c) (hk : ∀ b o, S b → w'.cell? ⟨b, o, none⟩ = w.cell? ⟨b, o, none⟩) (hS : ∀ b, S b → S' b) : Marked w' S' l A c := by
  rcases h with h | ⟨b', o', h3, h4, h5⟩
  · exact .inl h
  · exact .inr ⟨b', o', h3, h4, Pls.mtail.keep hk hS l b' o' h5⟩
theorem Marked.lies {B : Nat} {l : List Pl} {A : Option Addr} {c : Nat} (h : Marked w S l A c) (hS : ∀ b, S b → b < B) : Pls.lies w B l A := by
  rcases h with ⟨rfl, rfl⟩ | ⟨b', o', rfl, h4, h5⟩
  · unfold Pls.lies; trivial
  · exact Pls.mtail.lies hS l b' o' h5
theorem Pls.mtail.at_ : ∀ {l : List Pl} {b o : Nat}, Pls.mtail w S l b o → ∀ (k : Nat) (h : k < l.length), l[k].mlies w S b (o + k * 4)
  | p :: ps, b, o, hl, 0, h => by
    unfold Pls.mtail at hl
    simpa using hl.1
  | p :: ps, b, o, hl, k + 1, h => by
    unfold Pls.mtail at hl
    have := Pls.mtail.at_ hl.2 k (by simpa using h)
    rw [show o + (k + 1) * 4 = o + 4 + k * 4 by omega]
    simpa using this
theorem Pls.mtail.mark : ∀ {l : List Pl} {b o : Nat}, Pls.mtail w S l b o → S b ∧ w.cell? ⟨b, o + l.length * 4, none⟩ = some (.int .i64 (-7))
  | [], b, o, h => by
    unfold Pls.mtail at h
    simpa using h
  | p :: ps, b, o, h => by
    unfold Pls.mtail at h
    have := Pls.mtail.mark h.2
    refine ⟨this.1, ?_⟩
    rw [show o + (p :: ps).length * 4 = o + 4 + ps.length * 4 by simp; omega]
    exact this.2
end
/-- A plain value and where its list lies. -/
structure PlAt where
  p : Pl
  A : Option Addr
  c : Nat
def PlAt.cells (x : PlAt) : List Value := x.p.cells4 x.A x.c
theorem plat_flat : ∀ (us : List PlAt) (k : Nat) (h : k < us.length) (j : Nat), j < 4 → (us.flatMap PlAt.cells)[k * 4 + j]? = us[k].cells[j]?
  | x :: us, 0, _, j, hj => by
    rw [List.flatMap_cons, List.getElem?_append_left (by show _ < 4; omega)]; simp
  | x :: us, k + 1, h, j, hj => by
    have hl : x.cells.length = 4 := rfl
    rw [List.flatMap_cons, List.getElem?_append_right (by omega), hl, show (k + 1) * 4 + j - 4 = k * 4 + j by omega]
    simpa using plat_flat us k (by simpa using h) j hj
theorem plat_len : ∀ (us : List PlAt), (us.flatMap PlAt.cells).length = us.length * 4
  | [] => rfl
  | x :: us => by
    have hl : x.cells.length = 4 := rfl
    rw [List.flatMap_cons, List.length_append, plat_len us, hl, List.length_cons]; omega
/-- Together out of their cells. -/
theorem mtail_of {w : World} {S : Nat → Prop} {b : Nat} (hb : S b) : ∀ (us : List PlAt) (o : Nat), (∀ j u, (us.flatMap PlAt.cells)[j]? = some u → w.cell? ⟨b, o + j, none⟩ = some u) → (∀ x ∈ us, x.p.sane ∧ Marked w S x.p.list x.A x.c) →
    w.cell? ⟨b, o + us.length * 4, none⟩ = some (.int .i64 (-7)) → Pls.mtail w S (us.map PlAt.p) b o
  | [], o, _, _, hm => by unfold Pls.mtail List.map; exact ⟨hb, by simpa using hm⟩
  | x :: us, o, hc, hx, hm => by
    unfold List.map Pls.mtail
    obtain ⟨h1, h2⟩ := hx x (by simp)
    refine ⟨Pl.mlies_iff.2 ⟨hb, h1, x.A, x.c, fun j u hj => hc j u ?_, h2⟩, mtail_of hb us (o + 4) (fun j u hj => ?_) (fun y hy => hx y (by simp [hy])) ?_⟩
    · have hlt : j < 4 := by
        rcases Nat.lt_or_ge j 4 with h | h
        · exact h
        · rw [List.getElem?_eq_none (by exact h)] at hj; cases hj
      rw [List.flatMap_cons, List.getElem?_append_left (by exact hlt)]; exact hj
    · rw [show o + 4 + j = o + (j + 4) by omega]
      refine hc (j + 4) u ?_
      have hl : x.cells.length = 4 := rfl
      rw [List.flatMap_cons, List.getElem?_append_right (by omega), hl, Nat.add_sub_cancel]; exact hj
    · rw [show o + 4 + us.length * 4 = o + (x :: us).length * 4 by simp; omega]; exact hm
end Go.Proofs.YtcldbjgikkfnbaaGreatDoor
