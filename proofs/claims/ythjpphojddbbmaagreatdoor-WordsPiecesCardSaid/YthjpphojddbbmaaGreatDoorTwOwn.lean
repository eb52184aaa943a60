/-
  Twins that a call owns, in a row of its own. Conditions: none.
-/
import Derived.Test.YthjpphojddbbmaaGreatDoorPlKept
import Derived.Test.YthjpphojddbbmaaGreatDoorPlLight
namespace Go.Proofs.YthjpphojddbbmaaGreatDoor
open Go.RowKit
set_option linter.unusedVariables false

/-- A light one: in memory of its own, with marks; a heavy one: where it was. -/
def TwEl (w0 : Nat) (w : World) (S : Nat → Prop) (x : PlAt) : Prop := x.p.sane ∧ (x.p.isLight = true → Marked w S x.p.list x.A x.c) ∧ (x.p.isLight = false → Pls.lies w w0 x.p.list x.A)
theorem TwEl.keep {w0 : Nat} {w w' : World} {S S' : Nat → Prop} {x : PlAt} (h : TwEl w0 w S x) (h0 : ∀ b o, b < w0 → w'.cell? ⟨b, o, none⟩ = w.cell? ⟨b, o, none⟩) (hk : ∀ b o, S b → w'.cell? ⟨b, o, none⟩ = w.cell? ⟨b, o, none⟩) (hS : ∀ b, S b → S' b) : TwEl w0 w' S' x :=
  ⟨h.1, fun hl => (h.2.1 hl).keep hk hS, fun hl => (h.2.2 hl).keep h0 (Nat.le_refl _)⟩
theorem TwEl.lies {w0 : Nat} {w : World} {S : Nat → Prop} {x : PlAt} {B : Nat} (h : TwEl w0 w S x) (hB : w0 ≤ B) (hS : ∀ b, S b → b < B) : Pls.lies w B x.p.list x.A := by
  cases hl : x.p.isLight
  · exact (h.2.2 hl).keep (fun _ _ _ => rfl) hB
  · exact (h.2.1 hl).lies hS
structure TwOwn (w0 : Nat) (w : World) (v : Value) (us : List PlAt) : Prop where
  own : w.ownsRow w0 34 4 v us.length (us.flatMap PlAt.cells)
  els : ∀ x ∈ us, TwEl w0 w (fun b => w0 ≤ b ∧ b < w.heap.size ∧ v.ownBlock ≠ some b) x
theorem TwOwn.nil (w0 : Nat) (w : World) : TwOwn w0 w (.slice none 0 0) [] := ⟨World.ownsRow_nil _ _ _ _, fun x h => absurd h (List.not_mem_nil)⟩
theorem TwOwn.step {w0 : Nat} {w5 w6 w7 : World} {v : Value} {us : List PlAt} (h : TwOwn w0 w5 v us) (x : PlAt) (hB : w0 ≤ w5.heap.size) {g cap : Nat} {Y : Obj}
    (hb6 : Below w5.heap.size w5 w6) (hx : TwEl w0 w6 (fresh w5 w6) x) (hgrow : (w6.alloc Y).grownBy w7 v.ownBlock) (hat : v.ownBlock = some g ∨ g = w6.heap.size + 1)
    (hown : w7.ownsRow w0 34 4 (.slice (some ⟨g, 0, none⟩) (us.length + 1) cap) (us.length + 1) (us.flatMap PlAt.cells ++ x.cells)) :
    TwOwn w0 w7 (.slice (some ⟨g, 0, none⟩) (us.length + 1) cap) (us ++ [x]) := by
  have hs6 := hb6.size
  have hs7 := hgrow.size
  rw [size_alloc] at hs7
  have blk6 : ∀ b, b < w6.heap.size → v.ownBlock ≠ some b → w7.heap[b]? = w6.heap[b]? := fun b hb hne => by
    rw [hgrow.block b (by rw [size_alloc]; omega) (Ne.symm hne), Below.heap_alloc _ _ _ (by omega)]
  have hvlt : ∀ b, v.ownBlock = some b → w0 ≤ b ∧ b < w5.heap.size := fun b e => h.own.lt b e
  have hlate : ∀ b, b < w6.heap.size → v.ownBlock ≠ some b → ∀ o, w7.cell? ⟨b, o, none⟩ = w6.cell? ⟨b, o, none⟩ := fun b h2 h3 o => World.cell?_of_block (a := ⟨b, o, none⟩) (blk6 b h2 h3)
  have hold : ∀ b o, b < w0 → w7.cell? ⟨b, o, none⟩ = w6.cell? ⟨b, o, none⟩ := fun b o hb => hlate b (by omega) (fun e => by have := (hvlt b e).1; omega) o
  refine ⟨?_, fun y hy => ?_⟩
  · have : (us ++ [x]).flatMap PlAt.cells = us.flatMap PlAt.cells ++ x.cells := by simp
    rw [this, List.length_append]
    exact hown
  · rcases List.mem_append.1 hy with hy | hy
    · refine (h.els y hy).keep (fun b o hb => by rw [hold b o hb]; exact hb6.cell (p := ⟨b, o, none⟩) (by show b < _; omega)) (fun b o hs => ?_) (fun b hs => ⟨hs.1, by have := hs.2.1; omega, ?_⟩)
      · rw [hlate b (by have := hs.2.1; omega) hs.2.2]
        exact hb6.cell (p := ⟨b, o, none⟩) hs.2.1
      · rcases hat with e | e
        · have := hs.2.2; rw [e] at this; exact this
        · intro e'; injection e' with e'; have := hs.2.1; have e'' : g = b := e'; omega
    · rw [List.mem_singleton] at hy
      subst hy
      refine hx.keep hold (fun b o hs => hlate b hs.2 (fun e => by have := (hvlt b e).2; have := hs.1; omega) o) (fun b hs => ⟨by have := hs.1; omega, by have := hs.2; omega, ?_⟩)
      intro e'; injection e' with e'
      have e'' : g = b := e'
      have := hs.1; have := hs.2
      rcases hat with e | e
      · have := (hvlt g e).2; omega
      · omega
theorem TwOwn.below {w0 : Nat} {w w' : World} {v : Value} {us : List PlAt} (h : TwOwn w0 w v us) (hb : Below w.heap.size w w') (h0 : w0 ≤ w.heap.size) : TwOwn w0 w' v us :=
  ⟨own_below h.own hb, fun x hx => (h.els x hx).keep (fun b o hb' => hb.cell (p := ⟨b, o, none⟩) (by show b < _; omega)) (fun b o hs => hb.cell (p := ⟨b, o, none⟩) hs.2.1) (fun b hs => ⟨hs.1, Nat.lt_of_lt_of_le hs.2.1 hb.size, hs.2.2⟩)⟩
/-- Its slice, and what lies there. -/
theorem TwOwn.slice {w0 : Nat} {w : World} {v : Value} {us : List PlAt} (h : TwOwn w0 w v us) : ∃ A c, v = .slice A us.length c ∧ (0 < us.length → ∃ g, A = some ⟨g, 0, none⟩ ∧ g < w.heap.size ∧ ∀ k (hk : k < us.length) j u, us[k].cells[j]? = some u → w.cell? ⟨g, k * 4 + j, none⟩ = some u) := by
  rcases h.own.2 with ⟨e, h2⟩ | ⟨g, cap, cur, e, _⟩
  · exact ⟨none, 0, by rw [e, h2], fun h => by omega⟩
  · subst e
    have hlt := h.own.lt g rfl
    refine ⟨_, _, rfl, fun hl => ⟨g, rfl, hlt.2, fun k hk j u hj => ?_⟩⟩
    have hj4 : j < 4 := by
      rcases Nat.lt_or_ge j 4 with h | h
      · exact h
      · rw [List.getElem?_eq_none (by exact h)] at hj; cases hj
    rw [h.own.cellAt (k * 4 + j) (by omega), plat_flat us k hk j hj4]
    exact hj
theorem plies_of {w : World} {B b : Nat} (hb : b < B) : ∀ (us : List PlAt) (o : Nat), (∀ k (hk : k < us.length) j u, us[k].cells[j]? = some u → w.cell? ⟨b, o + (k * 4 + j), none⟩ = some u) → (∀ x ∈ us, x.p.sane ∧ Pls.lies w B x.p.list x.A) → Pls.lies w B (us.map PlAt.p) (some ⟨b, o, none⟩)
  | [], _, _, _ => by unfold List.map Pls.lies; trivial
  | x :: us, o, hc, hx => by
    unfold List.map Pls.lies
    obtain ⟨hs, hl⟩ := hx x (by simp)
    refine ⟨b, o, rfl, ?_, plies_of hb us (o + 4) (fun k hk j u hj => ?_) (fun y hy => hx y (by simp [hy]))⟩
    · have h0 : ∀ j u, x.cells[j]? = some u → w.cell? ⟨b, o + j, none⟩ = some u := fun j u hj => by
        have := hc 0 (by simp) j u (by simpa using hj)
        rwa [Nat.zero_mul, Nat.zero_add] at this
      obtain ⟨⟨k, n, t, l⟩, A, c⟩ := x
      unfold Pl.lies
      exact ⟨hb, h0 0 _ rfl, h0 1 _ rfl, h0 2 _ rfl, hs.1, hs.2.1, hs.2.2.1, hs.2.2.2, A, c, h0 3 _ rfl, hl⟩
    · rw [show o + 4 + (k * 4 + j) = o + ((k + 1) * 4 + j) by omega]
      exact hc (k + 1) (by simpa using hk) j u (by simpa using hj)
/-- All of them lie there as plain values. -/
theorem TwOwn.lies {w0 : Nat} {w : World} {v : Value} {us : List PlAt} {A : Option Addr} {c : Nat} (h : TwOwn w0 w v us) (h0 : w0 ≤ w.heap.size) (e : v = .slice A us.length c) : Pls.lies w w.heap.size (us.map PlAt.p) A := by
  obtain ⟨A', c', e', hx⟩ := h.slice
  rw [e] at e'
  injection e' with e1 _ e2
  subst e1
  by_cases hn : 0 < us.length
  · obtain ⟨g, rfl, hg, hc⟩ := hx hn
    exact plies_of hg us 0 (fun k hk j u hj => by rw [Nat.zero_add]; exact hc k hk j u hj) (fun x hx => ⟨(h.els x hx).1, (h.els x hx).lies h0 (fun b hs => hs.2.1)⟩)
  · have : us = [] := List.eq_nil_of_length_eq_zero (by omega)
    subst this
    unfold List.map Pls.lies; trivial
end Go.Proofs.YthjpphojddbbmaaGreatDoor
