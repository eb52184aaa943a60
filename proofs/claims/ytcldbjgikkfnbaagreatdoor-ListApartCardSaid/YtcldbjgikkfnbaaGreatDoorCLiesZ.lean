/-
  Plain values stay where cells that no value of kind 0 can use are written; a row of plain values whose spare cells are noughts. Plain. Conditions: none.
-/
import Derived.Test.YtcldbjgikkfnbaaGreatDoorCPlFits
namespace Go.Proofs.YtcldbjgikkfnbaaGreatDoor
open Go.RowKit
set_option linter.unusedVariables false

mutual
/-- No value of kind 0 in it. -/
def Pl.nz : Pl → Prop
  | .mk k _ _ l => k ≠ 0 ∧ Pls.nz l
def Pls.nz : List Pl → Prop
  | [] => True
  | p :: ps => p.nz ∧ Pls.nz ps
end
mutual
theorem Vl.toPl_nz : ∀ x : Vl, x.toPl.nz
  | .unit => by unfold Vl.toPl Pl.nz Pls.nz; exact ⟨by decide, trivial⟩
  | .truth b => by unfold Vl.toPl Pl.nz Pls.nz; exact ⟨by decide, trivial⟩
  | .int n => by unfold Vl.toPl Pl.nz Pls.nz; exact ⟨by decide, trivial⟩
  | .text s => by unfold Vl.toPl Pl.nz Pls.nz; exact ⟨by decide, trivial⟩
  | .list l => by unfold Vl.toPl Pl.nz; exact ⟨by decide, Vls.toPl_nz l⟩
theorem Vls.toPl_nz : ∀ l : List Vl, Pls.nz (Vls.toPl l)
  | [] => by unfold Vls.toPl Pls.nz; trivial
  | x :: xs => by unfold Vls.toPl Pls.nz; exact ⟨Vl.toPl_nz x, Vls.toPl_nz xs⟩
end
theorem Pl.nz_list {p : Pl} (h : p.nz) : Pls.nz p.list := by
  cases p; unfold Pl.nz at h; exact h.2
/-- Four cells that are a plain value of some kind stay. -/
def Stay4 (w w' : World) (B : Nat) : Prop := ∀ (b o : Nat) (k n : Int) (t : ByteArray) (A : Option Addr) (m c : Nat), b < B → k ≠ 0 → w.cell? ⟨b, o, none⟩ = some (.int .i64 k) → w.cell? ⟨b, o + 1, none⟩ = some (.int .i64 n) → w.cell? ⟨b, o + 2, none⟩ = some (.string t) → w.cell? ⟨b, o + 3, none⟩ = some (.slice A m c) →
  w'.cell? ⟨b, o, none⟩ = some (.int .i64 k) ∧ w'.cell? ⟨b, o + 1, none⟩ = some (.int .i64 n) ∧ w'.cell? ⟨b, o + 2, none⟩ = some (.string t) ∧ w'.cell? ⟨b, o + 3, none⟩ = some (.slice A m c)
mutual
theorem Pl.lies.keepZ {w w' : World} {B B' : Nat} (hB : B ≤ B') (hk : Stay4 w w' B) : ∀ (p : Pl) (b o : Nat), p.nz → p.lies w B b o → p.lies w' B' b o
  | .mk k n t l, b, o, hz, h => by
    unfold Pl.lies at h ⊢
    unfold Pl.nz at hz
    obtain ⟨h0, h1, h2, h3, h4, h5, h6, h7, A, c, h8, h9⟩ := h
    obtain ⟨g1, g2, g3, g4⟩ := hk b o k n t A l.length c h0 hz.1 h1 h2 h3 h8
    exact ⟨by omega, g1, g2, g3, h4, h5, h6, h7, A, c, g4, Pls.lies.keepZ hB hk l A hz.2 h9⟩
theorem Pls.lies.keepZ {w w' : World} {B B' : Nat} (hB : B ≤ B') (hk : Stay4 w w' B) : ∀ (l : List Pl) (A : Option Addr), Pls.nz l → Pls.lies w B l A → Pls.lies w' B' l A
  | [], _, _, _ => by unfold Pls.lies; trivial
  | p :: ps, A, hz, h => by
    unfold Pls.lies at h ⊢
    unfold Pls.nz at hz
    obtain ⟨b, o, e, h1, h2⟩ := h
    exact ⟨b, o, e, Pl.lies.keepZ hB hk p b o hz.1 h1, Pls.lies.keepZ hB hk ps _ hz.2 h2⟩
end
/-- Where one block alone changes, of interface values. -/
theorem stay4_ifaces {w w' : World} {g : Nat} (hg : ∀ o v, w.cell? ⟨g, o, none⟩ = some v → ∀ k n, v ≠ .int k n) (hb : ∀ b, b < w.heap.size → b ≠ g → w'.heap[b]? = w.heap[b]?) : Stay4 w w' w.heap.size := by
  intro b o k n t A m c hlt hk h1 h2 h3 h4
  by_cases he : b = g
  · subst he
    exact absurd rfl (hg o _ h1 .i64 k)
  · have hx : ∀ j, w'.cell? ⟨b, j, none⟩ = w.cell? ⟨b, j, none⟩ := fun j => World.cell?_of_block (a := ⟨b, j, none⟩) (hb b hlt he)
    exact ⟨(hx _).trans h1, (hx _).trans h2, (hx _).trans h3, (hx _).trans h4⟩
/-- Four cells of nought. -/
def z4 : List Value := [.int .i64 0, .int .i64 0, .string ⟨#[]⟩, .slice none 0 0]
def zeros4 : Nat → List Value
  | 0 => []
  | n + 1 => z4 ++ zeros4 n
theorem zeros4_length : ∀ n, (zeros4 n).length = n * 4
  | 0 => rfl
  | n + 1 => by unfold zeros4; rw [List.length_append, zeros4_length n]; show 4 + n * 4 = _; omega
/-- Cells in fours: a kind, a number, a text, a list. -/
inductive Fours : List Value → Prop
  | nil : Fours []
  | cons (k n : Int) (t : ByteArray) (A : Option Addr) (m c : Nat) (l : List Value) : Fours l → Fours (.int .i64 k :: .int .i64 n :: .string t :: .slice A m c :: l)
theorem fours_cells : ∀ us : List PlAt, Fours (us.flatMap PlAt.cells)
  | [] => .nil
  | u :: us => .cons u.p.kind u.p.num u.p.text u.A u.p.list.length u.c _ (fours_cells us)
/-- Reading a value in such cells begins at a multiple of four. -/
theorem fours_at : ∀ {l : List Value}, Fours l → ∀ (o : Nat) (k n : Int) (x : Value), l[o]? = some (.int .i64 k) → l[o + 1]? = some (.int .i64 n) → l[o + 2]? = some x → (∃ t, x = .string t) → o % 4 = 0
  | _, .nil, o, k, n, x, h1, _, _, _ => by simp at h1
  | _, .cons a b t A m c l h, o, k, n, x, h1, h2, h3, h4 => by
    match o with
    | 0 => rfl
    | 1 => simp at h2
    | 2 => simp at h1
    | 3 => simp at h1
    | o + 4 =>
      have := fours_at h o k n x (by simpa using h1) (by simpa using h2) (by simpa using h3) h4
      omega
theorem fours_zeros : ∀ n, Fours (zeros4 n)
  | 0 => .nil
  | n + 1 => .cons 0 0 ⟨#[]⟩ none 0 0 _ (fours_zeros n)
theorem Fours.append : ∀ {l m : List Value}, Fours l → Fours m → Fours (l ++ m)
  | _, _, .nil, h => h
  | _, _, .cons a b t A n c l h', h => .cons a b t A n c _ (Fours.append h' h)
theorem zeros4_at : ∀ (n q : Nat) (v : Value), (zeros4 n)[4 * q]? = some v → v = .int .i64 0
  | 0, q, v, h => by simp [zeros4] at h
  | n + 1, 0, v, h => by simp [zeros4, z4] at h; exact h.symm
  | n + 1, q + 1, v, h => by
    refine zeros4_at n q v ?_
    have e : 4 * (q + 1) = 4 * q + 4 := by omega
    rw [e] at h
    simpa [zeros4, z4] using h
/-- Where one block alone changes, a row of plain values whose spare cells are noughts, behind what is in use. -/
theorem stay4_row {w w' : World} {g : Nat} {T : TypeId} {z z' : Nat × Nat} {xs ys : List Value} {n : Nat} (hf : Fours xs) (hg : w.heap[g]? = some (.cells (xs ++ zeros4 n).toArray T z)) (hg' : w'.heap[g]? = some (.cells (xs ++ ys).toArray T z')) (hb : ∀ b, b < w.heap.size → b ≠ g → w'.heap[b]? = w.heap[b]?) : Stay4 w w' w.heap.size := by
  intro b o k n1 t A m c hlt hk h1 h2 h3 h4
  by_cases he : b = g
  · subst he
    have hc : ∀ j, w.cell? ⟨b, j, none⟩ = (xs ++ zeros4 n)[j]? := fun j => by simp [World.cell?, hg]
    have hc' : ∀ j, w'.cell? ⟨b, j, none⟩ = (xs ++ ys)[j]? := fun j => by simp [World.cell?, hg']
    rw [hc] at h1 h2 h3 h4
    have h0 := fours_at (hf.append (fours_zeros n)) o k n1 _ h1 h2 h3 ⟨t, rfl⟩
    have hx4 : xs.length % 4 = 0 := by
      clear h1 h2 h3 h4 hc hc' hg hg'
      induction hf with
      | nil => rfl
      | cons a b t A m c l h ih => simp only [List.length_cons]; omega
    have hlt2 : o < xs.length := by
      rcases Nat.lt_or_ge o xs.length with h | h
      · exact h
      · exfalso
        rw [List.getElem?_append_right h] at h1
        have e : o - xs.length = 4 * ((o - xs.length) / 4) := by omega
        rw [e] at h1
        have := zeros4_at n _ _ h1
        injection this with _ this
        exact hk this
    have hst : ∀ j v, j < 4 → (xs ++ zeros4 n)[o + j]? = some v → w'.cell? ⟨b, o + j, none⟩ = some v := fun j v hj hv => by
      rw [hc', List.getElem?_append_left (by omega)]
      rw [List.getElem?_append_left (by omega)] at hv
      exact hv
    exact ⟨hst 0 _ (by omega) h1, hst 1 _ (by omega) h2, hst 2 _ (by omega) h3, hst 3 _ (by omega) h4⟩
  · have hx : ∀ j, w'.cell? ⟨b, j, none⟩ = w.cell? ⟨b, j, none⟩ := fun j => World.cell?_of_block (a := ⟨b, j, none⟩) (hb b hlt he)
    exact ⟨(hx _).trans h1, (hx _).trans h2, (hx _).trans h3, (hx _).trans h4⟩
theorem stay4_below {w w' : World} (h : Below w.heap.size w w') : Stay4 w w' w.heap.size := by
  intro b o k n t A m c hlt hk h1 h2 h3 h4
  have hx : ∀ j, w'.cell? ⟨b, j, none⟩ = w.cell? ⟨b, j, none⟩ := fun j => h.cell (p := ⟨b, j, none⟩) hlt
  exact ⟨(hx _).trans h1, (hx _).trans h2, (hx _).trans h3, (hx _).trans h4⟩
end Go.Proofs.YtcldbjgikkfnbaaGreatDoor
