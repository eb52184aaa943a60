/-
  Rows that a call makes itself, one by one. Conditions: none.
-/
import Derived.Test.YthjpphojddbbmaaGreatDoorKitNew
namespace Go.Proofs.YthjpphojddbbmaaGreatDoor
open Go.RowKit
set_option linter.unusedVariables false

/-- Rows that a call owns, with their abilities' names in blocks of their own. -/
structure RowsOwn (w : World) (B : Nat) (v : Value) (ts : List RowAt) : Prop where
  own : w.ownsRow B 81 6 v ts.length (ts.flatMap RowAt.cells)
  names : ∀ k (h : k < ts.length), NamesIn w (fun b => B ≤ b ∧ b < w.heap.size ∧ v.ownBlock ≠ some b) ts[k].row.abil ts[k].at_
theorem RowsOwn.nil (w : World) (B : Nat) : RowsOwn w B (.slice none 0 0) [] := ⟨World.ownsRow_nil _ _ _ _, fun k h => absurd h (by simp)⟩
theorem RowsOwn.below {w w' : World} {B : Nat} {v : Value} {ts : List RowAt} (h : RowsOwn w B v ts) (hb : Below w.heap.size w w') : RowsOwn w' B v ts :=
  ⟨own_below h.own hb, fun k hk => (h.names k hk).keep (fun b o hs => hb.cell (p := ⟨b, o, none⟩) hs.2.1) (fun b hs => ⟨hs.1, Nat.lt_of_lt_of_le hs.2.1 hb.size, hs.2.2⟩)⟩
theorem RowsOwn.step {w5 w6 w7 : World} {B : Nat} {v : Value} {ts : List RowAt} (h : RowsOwn w5 B v ts) (r : RowD) (hB : B ≤ w5.heap.size) {A1 : Option Addr} {c1 g cap : Nat} {Y : Obj}
    (hb6 : Below w5.heap.size w5 w6) (hA1 : NamesIn w6 (fresh w5 w6) r.abil A1) (hgrow : (w6.alloc Y).grownBy w7 v.ownBlock) (hat : v.ownBlock = some g ∨ g = w6.heap.size + 1)
    (hown : w7.ownsRow B 81 6 (.slice (some ⟨g, 0, none⟩) (ts.length + 1) cap) (ts.length + 1) (ts.flatMap RowAt.cells ++ (RowAt.mk r A1 c1).cells)) :
    RowsOwn w7 B (.slice (some ⟨g, 0, none⟩) (ts.length + 1) cap) (ts ++ [⟨r, A1, c1⟩]) := by
  have hs6 := hb6.size
  have hs7 := hgrow.size
  rw [size_alloc] at hs7
  have blk6 : ∀ b, b < w6.heap.size → v.ownBlock ≠ some b → w7.heap[b]? = w6.heap[b]? := fun b hb hne => by
    rw [hgrow.block b (by rw [size_alloc]; omega) (Ne.symm hne), Below.heap_alloc _ _ _ (by omega)]
  have hg : B ≤ g := (hown.lt g rfl).1
  have hvlt : ∀ b, v.ownBlock = some b → b < w5.heap.size := fun b e => (h.own.lt b e).2
  refine ⟨?_, ?_⟩
  · have : (ts ++ [RowAt.mk r A1 c1]).flatMap RowAt.cells = ts.flatMap RowAt.cells ++ (RowAt.mk r A1 c1).cells := by simp
    rw [this, List.length_append]
    exact hown
  · intro k hk
    rw [List.length_append] at hk
    have hlate : ∀ b, b < w6.heap.size → v.ownBlock ≠ some b → ∀ o, w7.cell? ⟨b, o, none⟩ = w6.cell? ⟨b, o, none⟩ := fun b h2 h3 o => World.cell?_of_block (a := ⟨b, o, none⟩) (blk6 b h2 h3)
    by_cases hkt : k < ts.length
    · rw [List.getElem_append_left hkt]
      refine (h.names k hkt).keep (fun b o hs => ?_) (fun b hs => ⟨hs.1, by have := hs.2.1; omega, ?_⟩)
      · rw [hlate b (by have := hs.2.1; omega) hs.2.2]
        exact hb6.cell (p := ⟨b, o, none⟩) hs.2.1
      · rcases hat with e | e
        · have := hs.2.2; rw [e] at this; exact this
        · intro e'; injection e' with e'; have := hs.2.1; have e'' : g = b := e'; omega
    · have hkk : k = ts.length := by simp at hk; omega
      have : (ts ++ [RowAt.mk r A1 c1])[k]'(by simp; omega) = ⟨r, A1, c1⟩ := by subst hkk; simp
      rw [this]
      refine hA1.keep (fun b o hs => ?_) (fun b hs => ⟨by have := hs.1; omega, by have := hs.2; omega, ?_⟩)
      · exact hlate b hs.2 (fun e => by have := hvlt b e; have := hs.1; omega) o
      · intro e'; injection e' with e'
        have e'' : g = b := e'
        have := hs.1; have := hs.2
        rcases hat with e | e
        · have := hvlt g e; omega
        · omega
/-- Names that lie in a new block. -/
theorem names_new (w : World) (l : List ByteArray) (cs : Array Value) (hcs : cs = (l.map Value.string).toArray) : NamesIn (w.alloc (.cells cs 9)) (fresh w (w.alloc (.cells cs 9))) l (some ⟨w.heap.size, 0, none⟩) := fun _ =>
  ⟨w.heap.size, 0, rfl, ⟨Nat.le_refl _, by simp⟩, fun j hj => by
    rw [Nat.zero_add, World.cell?_alloc_new, hcs]; simp [hj]⟩
theorem RowsOwn.lies {w : World} {B : Nat} {v : Value} {ts : List RowAt} (h : RowsOwn w B v ts) : ∃ A c, v = .slice A ts.length c ∧ RowsIn w (fun b => B ≤ b ∧ b < w.heap.size) ts A := by
  rcases h.own.2 with ⟨e, h2⟩ | ⟨g, cap, cur, e, _⟩
  · exact ⟨none, 0, by rw [e, h2], fun h => by omega⟩
  · subst e
    have hlt := h.own.lt g rfl
    refine ⟨_, _, rfl, fun hl => ⟨g, 0, rfl, hlt, fun k hk => ⟨fun j hj => ?_, (h.names k hk).keep (fun _ _ _ => rfl) (fun b hs => ⟨hs.1, hs.2.1⟩)⟩⟩⟩
    rw [Nat.zero_add, h.own.cellAt (k * 6 + j) (by omega), flat_at ts k hk j hj]
/-- A block that is not the row's own, behind a step. -/
theorem step_block {w5 w6 w7 : World} {Y : Obj} {v : Value} {b : Nat} {o : Obj} (hb6 : Below w5.heap.size w5 w6) (hgrow : (w6.alloc Y).grownBy w7 v.ownBlock) (hb : w5.heap[b]? = some o) (hne : v.ownBlock ≠ some b) : w7.heap[b]? = some o := by
  have hs6 := hb6.size
  have := heap_lt hb
  rw [hgrow.block b (by rw [size_alloc]; omega) (Ne.symm hne), Below.heap_alloc _ _ _ (by omega), hb6.block b this, hb]
theorem step_below {w w5 w6 w7 : World} {B : Nat} {Y : Obj} {v : Value} {base n : Nat} {e : TypeId} {size : Nat} {xs : List Value} (h : Below B w w5) (hB : B ≤ w5.heap.size) (hb6 : Below w5.heap.size w5 w6) (hgrow : (w6.alloc Y).grownBy w7 v.ownBlock) (hown : w5.ownsRow base e size v n xs) (hbase : B ≤ base) : Below B w w7 := by
  have hs := hb6.size
  exact ((h.trans (hb6.mono hB)).alloc (Nat.le_trans hB hs) Y).grown hgrow (by rw [size_alloc]; omega) (fun g hg => by have := (hown.lt g hg).1; omega)
end Go.Proofs.YthjpphojddbbmaaGreatDoor
