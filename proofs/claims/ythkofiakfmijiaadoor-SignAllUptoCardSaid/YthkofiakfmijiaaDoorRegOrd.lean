/-
  The invariant of a region that draws its order (espalierlaw3.SignOrder) and its steps, one an operation. Written by a program of mine (gen_reg.py). Conditions: none.
-/
import Derived.Test.YthkofiakfmijiaaDoorRegLaws
namespace Go.Proofs.YthkofiakfmijiaaDoor
open Go.RowKit
set_option linter.unusedVariables false

theorem blk_lt {w : World} {b : Nat} {o : Obj} (h : w.heap[b]? = some o) : b < w.heap.size := by
  rcases Nat.lt_or_ge b w.heap.size with h1 | h1
  · exact h1
  · rw [Array.getElem?_eq_none h1] at h; cases h
theorem own_ne {w : World} {base n b : Nat} {v : Value} {e t : TypeId} {size : Nat} {xs : List Value} {cs : Array Value} (h : w.ownsRow base e size v n xs) (hb : w.heap[b]? = some (.cells cs t (0, 0))) (hne : e ≠ t) : v.ownBlock ≠ some b := by
  rcases h.2 with ⟨rfl, _⟩ | ⟨g, cap, cur, rfl, _, hh, _⟩
  · simp [Value.ownBlock]
  · intro he
    have hg : g = b := by simpa [Value.ownBlock] using he
    subst hg
    rw [hh] at hb
    injection hb with hb
    injection hb with _ ht
    exact hne ht
structure OrdInv (B0 : Nat) (W0 : World) (a0 : Act) (bA : Nat) (f : ByteArray) (A : Option Addr) (c : Nat) (l : List Int) (k : Int) (L : Array Bool) (a : Act) (w : World) : Prop where
  agree : Agree [68, 69, 70, 71, 72, 73, 74, 75, 76, 12] a0 a
  bel : Below B0 W0 w
  f0 : L.getD 0 false = true → a.tmps.getD 68 undef = .pointer (some ⟨bA, 0, none⟩)
  f1 : L.getD 1 false = true → a.tmps.getD 69 undef = .string f
  f2 : L.getD 2 false = true → a.tmps.getD 70 undef = .pointer (some ⟨bA, 1, none⟩)
  f3 : L.getD 3 false = true → a.tmps.getD 71 undef = .slice A l.length c
  f4 : L.getD 4 false = true → L.getD 7 false = false → ∃ A1 c1, a.tmps.getD 72 undef = .slice A1 l.length c1 ∧ w.ownsRow B0 3 1 (.slice A1 l.length c1) l.length (l.map vI)
  f5 : L.getD 5 false = true → a.tmps.getD 73 undef = .int .i64 k
  f6 : L.getD 6 false = true → L.getD 7 false = false → ∃ b, a.tmps.getD 74 undef = .slice (some ⟨b, 0, none⟩) 1 1 ∧ w.cell? ⟨b, 0, none⟩ = some (.int .i64 k)
  f7 : L.getD 7 false = true → ∃ g cap, a.tmps.getD 75 undef = .slice (some ⟨g, 0, none⟩) (l.length + 1) cap ∧ w.ownsRow B0 3 1 (.slice (some ⟨g, 0, none⟩) (l.length + 1) cap) (l.length + 1) (l.map vI ++ [vI k])
  f8 : L.getD 8 false = true → L.getD 7 false = true ∧ a.tmps.getD 76 undef = .agg #[.string f, a.tmps.getD 75 undef]
  f9 : L.getD 9 false = true → ∃ b cs, a.tmps.getD 12 undef = .pointer (some ⟨b, 0, none⟩) ∧ B0 ≤ b ∧ w.heap[b]? = some (.cells cs 27 (0, 0)) ∧ cs.size = 2 ∧ (L.getD 10 false = true → cs = #[.string f, a.tmps.getD 75 undef])
  f10 : L.getD 10 false = true → L.getD 7 false = true ∧ L.getD 8 false = true ∧ L.getD 9 false = true
theorem OrdInv.s0 {B0 : Nat} {W0 : World} {a0 : Act} {bA : Nat} {f : ByteArray} {A : Option Addr} {c : Nat} {l : List Int} {k : Int} {L : Array Bool} {a : Act} {w : World} (h : OrdInv B0 W0 a0 bA f A c l k L a w) (hs : 0 < L.size) (hl : L.getD 0 true = false) {v : Value} (hd : 68 < a0.tmps.size) (hn : v = .pointer (some ⟨bA, 0, none⟩)) :
    OrdInv B0 W0 a0 bA f A c l k (L.setIfInBounds 0 true) (a.put (some 68) v) w := by
  have sz := h.agree.size
  have ne : ∀ j, j ≠ 0 → (L.setIfInBounds 0 true).getD j false = L.getD j false := fun j hj => by simp only [Array.getD_eq_getD_getElem?]; rw [Array.getElem?_setIfInBounds_ne (fun e => hj e.symm)]
  have me : L.getD 0 false = false := by simp [hs] at hl ⊢; exact hl
  have mt : (L.setIfInBounds 0 true).getD 0 false = true := by simp [hs]
  have pn : ∀ j, 68 ≠ j → (a.put (some 68) v).tmps.getD j undef = a.tmps.getD j undef := fun j hj => getD_put_ne hj v
  have ps : (a.put (some 68) v).tmps.getD 68 undef = v := getD_put_same (by rw [sz]; exact hd) v
  exact {
    agree := h.agree.put (by decide) v
    bel := h.bel
    f0 := fun _ => by rw [ps]; exact hn
    f1 := fun hj => by rw [ne 1 (by decide)] at hj; rw [pn 69 (by decide)]; exact h.f1 hj
    f2 := fun hj => by rw [ne 2 (by decide)] at hj; rw [pn 70 (by decide)]; exact h.f2 hj
    f3 := fun hj => by rw [ne 3 (by decide)] at hj; rw [pn 71 (by decide)]; exact h.f3 hj
    f4 := fun hj h7 => by
        rw [ne 4 (by decide)] at hj
        rw [ne 7 (by decide)] at h7
        rw [pn 72 (by decide)]
        exact h.f4 hj h7
    f5 := fun hj => by rw [ne 5 (by decide)] at hj; rw [pn 73 (by decide)]; exact h.f5 hj
    f6 := fun hj h7 => by
        rw [ne 6 (by decide)] at hj
        rw [ne 7 (by decide)] at h7
        rw [pn 74 (by decide)]
        exact h.f6 hj h7
    f7 := fun hj => by
        rw [ne 7 (by decide)] at hj
        rw [pn 75 (by decide)]
        exact h.f7 hj
    f8 := fun hj => by
        rw [ne 8 (by decide)] at hj
        obtain ⟨e1, e2⟩ := h.f8 hj
        refine ⟨?_, ?_⟩
        · rw [ne 7 (by decide)]; exact e1
        · rw [pn 76 (by decide)]; rw [pn 75 (by decide)]; exact e2
    f9 := fun hj => by
        rw [ne 9 (by decide)] at hj
        obtain ⟨b1, cs, e1, e2, e3, e4, e5⟩ := h.f9 hj
        refine ⟨b1, cs, ?_, e2, e3, e4, fun hc => by rw [ne 10 (by decide)] at hc; rw [pn 75 (by decide)]; exact e5 hc⟩
        rw [pn 12 (by decide)]; exact e1
    f10 := fun hj => by
        rw [ne 10 (by decide)] at hj
        have := h.f10 hj
        rw [ne 7 (by decide)]; rw [ne 8 (by decide)]; rw [ne 9 (by decide)]
        exact this }
theorem OrdInv.s1 {B0 : Nat} {W0 : World} {a0 : Act} {bA : Nat} {f : ByteArray} {A : Option Addr} {c : Nat} {l : List Int} {k : Int} {L : Array Bool} {a : Act} {w : World} (h : OrdInv B0 W0 a0 bA f A c l k L a w) (hs : 1 < L.size) (hl : L.getD 1 true = false) {v : Value} (hd : 69 < a0.tmps.size) (hn : v = .string f) :
    OrdInv B0 W0 a0 bA f A c l k (L.setIfInBounds 1 true) (a.put (some 69) v) w := by
  have sz := h.agree.size
  have ne : ∀ j, j ≠ 1 → (L.setIfInBounds 1 true).getD j false = L.getD j false := fun j hj => by simp only [Array.getD_eq_getD_getElem?]; rw [Array.getElem?_setIfInBounds_ne (fun e => hj e.symm)]
  have me : L.getD 1 false = false := by simp [hs] at hl ⊢; exact hl
  have mt : (L.setIfInBounds 1 true).getD 1 false = true := by simp [hs]
  have pn : ∀ j, 69 ≠ j → (a.put (some 69) v).tmps.getD j undef = a.tmps.getD j undef := fun j hj => getD_put_ne hj v
  have ps : (a.put (some 69) v).tmps.getD 69 undef = v := getD_put_same (by rw [sz]; exact hd) v
  exact {
    agree := h.agree.put (by decide) v
    bel := h.bel
    f0 := fun hj => by rw [ne 0 (by decide)] at hj; rw [pn 68 (by decide)]; exact h.f0 hj
    f1 := fun _ => by rw [ps]; exact hn
    f2 := fun hj => by rw [ne 2 (by decide)] at hj; rw [pn 70 (by decide)]; exact h.f2 hj
    f3 := fun hj => by rw [ne 3 (by decide)] at hj; rw [pn 71 (by decide)]; exact h.f3 hj
    f4 := fun hj h7 => by
        rw [ne 4 (by decide)] at hj
        rw [ne 7 (by decide)] at h7
        rw [pn 72 (by decide)]
        exact h.f4 hj h7
    f5 := fun hj => by rw [ne 5 (by decide)] at hj; rw [pn 73 (by decide)]; exact h.f5 hj
    f6 := fun hj h7 => by
        rw [ne 6 (by decide)] at hj
        rw [ne 7 (by decide)] at h7
        rw [pn 74 (by decide)]
        exact h.f6 hj h7
    f7 := fun hj => by
        rw [ne 7 (by decide)] at hj
        rw [pn 75 (by decide)]
        exact h.f7 hj
    f8 := fun hj => by
        rw [ne 8 (by decide)] at hj
        obtain ⟨e1, e2⟩ := h.f8 hj
        refine ⟨?_, ?_⟩
        · rw [ne 7 (by decide)]; exact e1
        · rw [pn 76 (by decide)]; rw [pn 75 (by decide)]; exact e2
    f9 := fun hj => by
        rw [ne 9 (by decide)] at hj
        obtain ⟨b1, cs, e1, e2, e3, e4, e5⟩ := h.f9 hj
        refine ⟨b1, cs, ?_, e2, e3, e4, fun hc => by rw [ne 10 (by decide)] at hc; rw [pn 75 (by decide)]; exact e5 hc⟩
        rw [pn 12 (by decide)]; exact e1
    f10 := fun hj => by
        rw [ne 10 (by decide)] at hj
        have := h.f10 hj
        rw [ne 7 (by decide)]; rw [ne 8 (by decide)]; rw [ne 9 (by decide)]
        exact this }
theorem OrdInv.s2 {B0 : Nat} {W0 : World} {a0 : Act} {bA : Nat} {f : ByteArray} {A : Option Addr} {c : Nat} {l : List Int} {k : Int} {L : Array Bool} {a : Act} {w : World} (h : OrdInv B0 W0 a0 bA f A c l k L a w) (hs : 2 < L.size) (hl : L.getD 2 true = false) {v : Value} (hd : 70 < a0.tmps.size) (hn : v = .pointer (some ⟨bA, 1, none⟩)) :
    OrdInv B0 W0 a0 bA f A c l k (L.setIfInBounds 2 true) (a.put (some 70) v) w := by
  have sz := h.agree.size
  have ne : ∀ j, j ≠ 2 → (L.setIfInBounds 2 true).getD j false = L.getD j false := fun j hj => by simp only [Array.getD_eq_getD_getElem?]; rw [Array.getElem?_setIfInBounds_ne (fun e => hj e.symm)]
  have me : L.getD 2 false = false := by simp [hs] at hl ⊢; exact hl
  have mt : (L.setIfInBounds 2 true).getD 2 false = true := by simp [hs]
  have pn : ∀ j, 70 ≠ j → (a.put (some 70) v).tmps.getD j undef = a.tmps.getD j undef := fun j hj => getD_put_ne hj v
  have ps : (a.put (some 70) v).tmps.getD 70 undef = v := getD_put_same (by rw [sz]; exact hd) v
  exact {
    agree := h.agree.put (by decide) v
    bel := h.bel
    f0 := fun hj => by rw [ne 0 (by decide)] at hj; rw [pn 68 (by decide)]; exact h.f0 hj
    f1 := fun hj => by rw [ne 1 (by decide)] at hj; rw [pn 69 (by decide)]; exact h.f1 hj
    f2 := fun _ => by rw [ps]; exact hn
    f3 := fun hj => by rw [ne 3 (by decide)] at hj; rw [pn 71 (by decide)]; exact h.f3 hj
    f4 := fun hj h7 => by
        rw [ne 4 (by decide)] at hj
        rw [ne 7 (by decide)] at h7
        rw [pn 72 (by decide)]
        exact h.f4 hj h7
    f5 := fun hj => by rw [ne 5 (by decide)] at hj; rw [pn 73 (by decide)]; exact h.f5 hj
    f6 := fun hj h7 => by
        rw [ne 6 (by decide)] at hj
        rw [ne 7 (by decide)] at h7
        rw [pn 74 (by decide)]
        exact h.f6 hj h7
    f7 := fun hj => by
        rw [ne 7 (by decide)] at hj
        rw [pn 75 (by decide)]
        exact h.f7 hj
    f8 := fun hj => by
        rw [ne 8 (by decide)] at hj
        obtain ⟨e1, e2⟩ := h.f8 hj
        refine ⟨?_, ?_⟩
        · rw [ne 7 (by decide)]; exact e1
        · rw [pn 76 (by decide)]; rw [pn 75 (by decide)]; exact e2
    f9 := fun hj => by
        rw [ne 9 (by decide)] at hj
        obtain ⟨b1, cs, e1, e2, e3, e4, e5⟩ := h.f9 hj
        refine ⟨b1, cs, ?_, e2, e3, e4, fun hc => by rw [ne 10 (by decide)] at hc; rw [pn 75 (by decide)]; exact e5 hc⟩
        rw [pn 12 (by decide)]; exact e1
    f10 := fun hj => by
        rw [ne 10 (by decide)] at hj
        have := h.f10 hj
        rw [ne 7 (by decide)]; rw [ne 8 (by decide)]; rw [ne 9 (by decide)]
        exact this }
theorem OrdInv.s3 {B0 : Nat} {W0 : World} {a0 : Act} {bA : Nat} {f : ByteArray} {A : Option Addr} {c : Nat} {l : List Int} {k : Int} {L : Array Bool} {a : Act} {w : World} (h : OrdInv B0 W0 a0 bA f A c l k L a w) (hs : 3 < L.size) (hl : L.getD 3 true = false) {v : Value} (hd : 71 < a0.tmps.size) (hn : v = .slice A l.length c) :
    OrdInv B0 W0 a0 bA f A c l k (L.setIfInBounds 3 true) (a.put (some 71) v) w := by
  have sz := h.agree.size
  have ne : ∀ j, j ≠ 3 → (L.setIfInBounds 3 true).getD j false = L.getD j false := fun j hj => by simp only [Array.getD_eq_getD_getElem?]; rw [Array.getElem?_setIfInBounds_ne (fun e => hj e.symm)]
  have me : L.getD 3 false = false := by simp [hs] at hl ⊢; exact hl
  have mt : (L.setIfInBounds 3 true).getD 3 false = true := by simp [hs]
  have pn : ∀ j, 71 ≠ j → (a.put (some 71) v).tmps.getD j undef = a.tmps.getD j undef := fun j hj => getD_put_ne hj v
  have ps : (a.put (some 71) v).tmps.getD 71 undef = v := getD_put_same (by rw [sz]; exact hd) v
  exact {
    agree := h.agree.put (by decide) v
    bel := h.bel
    f0 := fun hj => by rw [ne 0 (by decide)] at hj; rw [pn 68 (by decide)]; exact h.f0 hj
    f1 := fun hj => by rw [ne 1 (by decide)] at hj; rw [pn 69 (by decide)]; exact h.f1 hj
    f2 := fun hj => by rw [ne 2 (by decide)] at hj; rw [pn 70 (by decide)]; exact h.f2 hj
    f3 := fun _ => by rw [ps]; exact hn
    f4 := fun hj h7 => by
        rw [ne 4 (by decide)] at hj
        rw [ne 7 (by decide)] at h7
        rw [pn 72 (by decide)]
        exact h.f4 hj h7
    f5 := fun hj => by rw [ne 5 (by decide)] at hj; rw [pn 73 (by decide)]; exact h.f5 hj
    f6 := fun hj h7 => by
        rw [ne 6 (by decide)] at hj
        rw [ne 7 (by decide)] at h7
        rw [pn 74 (by decide)]
        exact h.f6 hj h7
    f7 := fun hj => by
        rw [ne 7 (by decide)] at hj
        rw [pn 75 (by decide)]
        exact h.f7 hj
    f8 := fun hj => by
        rw [ne 8 (by decide)] at hj
        obtain ⟨e1, e2⟩ := h.f8 hj
        refine ⟨?_, ?_⟩
        · rw [ne 7 (by decide)]; exact e1
        · rw [pn 76 (by decide)]; rw [pn 75 (by decide)]; exact e2
    f9 := fun hj => by
        rw [ne 9 (by decide)] at hj
        obtain ⟨b1, cs, e1, e2, e3, e4, e5⟩ := h.f9 hj
        refine ⟨b1, cs, ?_, e2, e3, e4, fun hc => by rw [ne 10 (by decide)] at hc; rw [pn 75 (by decide)]; exact e5 hc⟩
        rw [pn 12 (by decide)]; exact e1
    f10 := fun hj => by
        rw [ne 10 (by decide)] at hj
        have := h.f10 hj
        rw [ne 7 (by decide)]; rw [ne 8 (by decide)]; rw [ne 9 (by decide)]
        exact this }
theorem OrdInv.s4 {B0 : Nat} {W0 : World} {a0 : Act} {bA : Nat} {f : ByteArray} {A : Option Addr} {c : Nat} {l : List Int} {k : Int} {L : Array Bool} {a : Act} {w : World} (h : OrdInv B0 W0 a0 bA f A c l k L a w) (hs : 4 < L.size) (hl : L.getD 4 true = false) {v : Value} (hd : 72 < a0.tmps.size) {w' : World} (hg : w.grownBy w' none) (hbw : Below B0 W0 w') (hn : ∃ A1 c1, v = .slice A1 l.length c1 ∧ w'.ownsRow B0 3 1 (.slice A1 l.length c1) l.length (l.map vI)) :
    OrdInv B0 W0 a0 bA f A c l k (L.setIfInBounds 4 true) (a.put (some 72) v) w' := by
  have sz := h.agree.size
  have ne : ∀ j, j ≠ 4 → (L.setIfInBounds 4 true).getD j false = L.getD j false := fun j hj => by simp only [Array.getD_eq_getD_getElem?]; rw [Array.getElem?_setIfInBounds_ne (fun e => hj e.symm)]
  have me : L.getD 4 false = false := by simp [hs] at hl ⊢; exact hl
  have mt : (L.setIfInBounds 4 true).getD 4 false = true := by simp [hs]
  have pn : ∀ j, 72 ≠ j → (a.put (some 72) v).tmps.getD j undef = a.tmps.getD j undef := fun j hj => getD_put_ne hj v
  have ps : (a.put (some 72) v).tmps.getD 72 undef = v := getD_put_same (by rw [sz]; exact hd) v
  exact {
    agree := h.agree.put (by decide) v
    bel := hbw
    f0 := fun hj => by rw [ne 0 (by decide)] at hj; rw [pn 68 (by decide)]; exact h.f0 hj
    f1 := fun hj => by rw [ne 1 (by decide)] at hj; rw [pn 69 (by decide)]; exact h.f1 hj
    f2 := fun hj => by rw [ne 2 (by decide)] at hj; rw [pn 70 (by decide)]; exact h.f2 hj
    f3 := fun hj => by rw [ne 3 (by decide)] at hj; rw [pn 71 (by decide)]; exact h.f3 hj
    f4 := fun _ _ => by rw [ps]; exact hn
    f5 := fun hj => by rw [ne 5 (by decide)] at hj; rw [pn 73 (by decide)]; exact h.f5 hj
    f6 := fun hj h7 => by
        rw [ne 6 (by decide)] at hj
        rw [ne 7 (by decide)] at h7
        rw [pn 74 (by decide)]
        obtain ⟨b, e1, e2⟩ := h.f6 hj h7
        exact ⟨b, e1, (World.cell?_of_block (a := ⟨b, 0, none⟩) (hg.block b (World.block_lt_of_cell? _ _ e2) (by simp))).trans e2⟩
    f7 := fun hj => by
        rw [ne 7 (by decide)] at hj
        rw [pn 75 (by decide)]
        obtain ⟨g, cap, e1, e2⟩ := h.f7 hj
        exact ⟨g, cap, e1, e2.kept hg (.inr (by simp [Value.ownBlock]))⟩
    f8 := fun hj => by
        rw [ne 8 (by decide)] at hj
        obtain ⟨e1, e2⟩ := h.f8 hj
        refine ⟨?_, ?_⟩
        · rw [ne 7 (by decide)]; exact e1
        · rw [pn 76 (by decide)]; rw [pn 75 (by decide)]; exact e2
    f9 := fun hj => by
        rw [ne 9 (by decide)] at hj
        obtain ⟨b1, cs, e1, e2, e3, e4, e5⟩ := h.f9 hj
        refine ⟨b1, cs, ?_, e2, (hg.block b1 (blk_lt e3) (by simp)).trans e3, e4, fun hc => by rw [ne 10 (by decide)] at hc; rw [pn 75 (by decide)]; exact e5 hc⟩
        rw [pn 12 (by decide)]; exact e1
    f10 := fun hj => by
        rw [ne 10 (by decide)] at hj
        have := h.f10 hj
        rw [ne 7 (by decide)]; rw [ne 8 (by decide)]; rw [ne 9 (by decide)]
        exact this }
theorem OrdInv.s5 {B0 : Nat} {W0 : World} {a0 : Act} {bA : Nat} {f : ByteArray} {A : Option Addr} {c : Nat} {l : List Int} {k : Int} {L : Array Bool} {a : Act} {w : World} (h : OrdInv B0 W0 a0 bA f A c l k L a w) (hs : 5 < L.size) (hl : L.getD 5 true = false) {v : Value} (hd : 73 < a0.tmps.size) (hn : v = .int .i64 k) :
    OrdInv B0 W0 a0 bA f A c l k (L.setIfInBounds 5 true) (a.put (some 73) v) w := by
  have sz := h.agree.size
  have ne : ∀ j, j ≠ 5 → (L.setIfInBounds 5 true).getD j false = L.getD j false := fun j hj => by simp only [Array.getD_eq_getD_getElem?]; rw [Array.getElem?_setIfInBounds_ne (fun e => hj e.symm)]
  have me : L.getD 5 false = false := by simp [hs] at hl ⊢; exact hl
  have mt : (L.setIfInBounds 5 true).getD 5 false = true := by simp [hs]
  have pn : ∀ j, 73 ≠ j → (a.put (some 73) v).tmps.getD j undef = a.tmps.getD j undef := fun j hj => getD_put_ne hj v
  have ps : (a.put (some 73) v).tmps.getD 73 undef = v := getD_put_same (by rw [sz]; exact hd) v
  exact {
    agree := h.agree.put (by decide) v
    bel := h.bel
    f0 := fun hj => by rw [ne 0 (by decide)] at hj; rw [pn 68 (by decide)]; exact h.f0 hj
    f1 := fun hj => by rw [ne 1 (by decide)] at hj; rw [pn 69 (by decide)]; exact h.f1 hj
    f2 := fun hj => by rw [ne 2 (by decide)] at hj; rw [pn 70 (by decide)]; exact h.f2 hj
    f3 := fun hj => by rw [ne 3 (by decide)] at hj; rw [pn 71 (by decide)]; exact h.f3 hj
    f4 := fun hj h7 => by
        rw [ne 4 (by decide)] at hj
        rw [ne 7 (by decide)] at h7
        rw [pn 72 (by decide)]
        exact h.f4 hj h7
    f5 := fun _ => by rw [ps]; exact hn
    f6 := fun hj h7 => by
        rw [ne 6 (by decide)] at hj
        rw [ne 7 (by decide)] at h7
        rw [pn 74 (by decide)]
        exact h.f6 hj h7
    f7 := fun hj => by
        rw [ne 7 (by decide)] at hj
        rw [pn 75 (by decide)]
        exact h.f7 hj
    f8 := fun hj => by
        rw [ne 8 (by decide)] at hj
        obtain ⟨e1, e2⟩ := h.f8 hj
        refine ⟨?_, ?_⟩
        · rw [ne 7 (by decide)]; exact e1
        · rw [pn 76 (by decide)]; rw [pn 75 (by decide)]; exact e2
    f9 := fun hj => by
        rw [ne 9 (by decide)] at hj
        obtain ⟨b1, cs, e1, e2, e3, e4, e5⟩ := h.f9 hj
        refine ⟨b1, cs, ?_, e2, e3, e4, fun hc => by rw [ne 10 (by decide)] at hc; rw [pn 75 (by decide)]; exact e5 hc⟩
        rw [pn 12 (by decide)]; exact e1
    f10 := fun hj => by
        rw [ne 10 (by decide)] at hj
        have := h.f10 hj
        rw [ne 7 (by decide)]; rw [ne 8 (by decide)]; rw [ne 9 (by decide)]
        exact this }
theorem OrdInv.s6 {B0 : Nat} {W0 : World} {a0 : Act} {bA : Nat} {f : ByteArray} {A : Option Addr} {c : Nat} {l : List Int} {k : Int} {L : Array Bool} {a : Act} {w : World} (h : OrdInv B0 W0 a0 bA f A c l k L a w) (hs : 6 < L.size) (hl : L.getD 6 true = false) {v : Value} (hd : 74 < a0.tmps.size) {w' : World} (hg : w.grownBy w' none) (hbw : Below B0 W0 w') (hn : ∃ b, v = .slice (some ⟨b, 0, none⟩) 1 1 ∧ w'.cell? ⟨b, 0, none⟩ = some (.int .i64 k)) :
    OrdInv B0 W0 a0 bA f A c l k (L.setIfInBounds 6 true) (a.put (some 74) v) w' := by
  have sz := h.agree.size
  have ne : ∀ j, j ≠ 6 → (L.setIfInBounds 6 true).getD j false = L.getD j false := fun j hj => by simp only [Array.getD_eq_getD_getElem?]; rw [Array.getElem?_setIfInBounds_ne (fun e => hj e.symm)]
  have me : L.getD 6 false = false := by simp [hs] at hl ⊢; exact hl
  have mt : (L.setIfInBounds 6 true).getD 6 false = true := by simp [hs]
  have pn : ∀ j, 74 ≠ j → (a.put (some 74) v).tmps.getD j undef = a.tmps.getD j undef := fun j hj => getD_put_ne hj v
  have ps : (a.put (some 74) v).tmps.getD 74 undef = v := getD_put_same (by rw [sz]; exact hd) v
  exact {
    agree := h.agree.put (by decide) v
    bel := hbw
    f0 := fun hj => by rw [ne 0 (by decide)] at hj; rw [pn 68 (by decide)]; exact h.f0 hj
    f1 := fun hj => by rw [ne 1 (by decide)] at hj; rw [pn 69 (by decide)]; exact h.f1 hj
    f2 := fun hj => by rw [ne 2 (by decide)] at hj; rw [pn 70 (by decide)]; exact h.f2 hj
    f3 := fun hj => by rw [ne 3 (by decide)] at hj; rw [pn 71 (by decide)]; exact h.f3 hj
    f4 := fun hj h7 => by
        rw [ne 4 (by decide)] at hj
        rw [ne 7 (by decide)] at h7
        rw [pn 72 (by decide)]
        obtain ⟨A1, c1, e1, e2⟩ := h.f4 hj h7
        exact ⟨A1, c1, e1, e2.kept hg (by cases hv : (Value.slice A1 l.length c1).ownBlock <;> simp)⟩
    f5 := fun hj => by rw [ne 5 (by decide)] at hj; rw [pn 73 (by decide)]; exact h.f5 hj
    f6 := fun _ _ => by rw [ps]; exact hn
    f7 := fun hj => by
        rw [ne 7 (by decide)] at hj
        rw [pn 75 (by decide)]
        obtain ⟨g, cap, e1, e2⟩ := h.f7 hj
        exact ⟨g, cap, e1, e2.kept hg (.inr (by simp [Value.ownBlock]))⟩
    f8 := fun hj => by
        rw [ne 8 (by decide)] at hj
        obtain ⟨e1, e2⟩ := h.f8 hj
        refine ⟨?_, ?_⟩
        · rw [ne 7 (by decide)]; exact e1
        · rw [pn 76 (by decide)]; rw [pn 75 (by decide)]; exact e2
    f9 := fun hj => by
        rw [ne 9 (by decide)] at hj
        obtain ⟨b1, cs, e1, e2, e3, e4, e5⟩ := h.f9 hj
        refine ⟨b1, cs, ?_, e2, (hg.block b1 (blk_lt e3) (by simp)).trans e3, e4, fun hc => by rw [ne 10 (by decide)] at hc; rw [pn 75 (by decide)]; exact e5 hc⟩
        rw [pn 12 (by decide)]; exact e1
    f10 := fun hj => by
        rw [ne 10 (by decide)] at hj
        have := h.f10 hj
        rw [ne 7 (by decide)]; rw [ne 8 (by decide)]; rw [ne 9 (by decide)]
        exact this }
theorem OrdInv.s7 {B0 : Nat} {W0 : World} {a0 : Act} {bA : Nat} {f : ByteArray} {A : Option Addr} {c : Nat} {l : List Int} {k : Int} {L : Array Bool} {a : Act} {w : World} (h : OrdInv B0 W0 a0 bA f A c l k L a w) (hs : 7 < L.size) (hl : L.getD 7 true = false) {v : Value} (hd : 75 < a0.tmps.size) {w' : World} {r : Option Nat} (hg : w.grownBy w' r) (hbw : Below B0 W0 w') (hr : ∀ b cs, w.heap[b]? = some (.cells cs 27 (0, 0)) → some b ≠ r) (hn : ∃ g cap, v = .slice (some ⟨g, 0, none⟩) (l.length + 1) cap ∧ w'.ownsRow B0 3 1 (.slice (some ⟨g, 0, none⟩) (l.length + 1) cap) (l.length + 1) (l.map vI ++ [vI k])) :
    OrdInv B0 W0 a0 bA f A c l k (L.setIfInBounds 7 true) (a.put (some 75) v) w' := by
  have sz := h.agree.size
  have ne : ∀ j, j ≠ 7 → (L.setIfInBounds 7 true).getD j false = L.getD j false := fun j hj => by simp only [Array.getD_eq_getD_getElem?]; rw [Array.getElem?_setIfInBounds_ne (fun e => hj e.symm)]
  have me : L.getD 7 false = false := by simp [hs] at hl ⊢; exact hl
  have mt : (L.setIfInBounds 7 true).getD 7 false = true := by simp [hs]
  have pn : ∀ j, 75 ≠ j → (a.put (some 75) v).tmps.getD j undef = a.tmps.getD j undef := fun j hj => getD_put_ne hj v
  have ps : (a.put (some 75) v).tmps.getD 75 undef = v := getD_put_same (by rw [sz]; exact hd) v
  exact {
    agree := h.agree.put (by decide) v
    bel := hbw
    f0 := fun hj => by rw [ne 0 (by decide)] at hj; rw [pn 68 (by decide)]; exact h.f0 hj
    f1 := fun hj => by rw [ne 1 (by decide)] at hj; rw [pn 69 (by decide)]; exact h.f1 hj
    f2 := fun hj => by rw [ne 2 (by decide)] at hj; rw [pn 70 (by decide)]; exact h.f2 hj
    f3 := fun hj => by rw [ne 3 (by decide)] at hj; rw [pn 71 (by decide)]; exact h.f3 hj
    f4 := fun hj h7 => by rw [mt] at h7; cases h7
    f5 := fun hj => by rw [ne 5 (by decide)] at hj; rw [pn 73 (by decide)]; exact h.f5 hj
    f6 := fun hj h7 => by rw [mt] at h7; cases h7
    f7 := fun _ => by rw [ps]; exact hn
    f8 := fun hj => by
        rw [ne 8 (by decide)] at hj
        have := (h.f8 hj).1
        rw [me] at this; cases this
    f9 := fun hj => by
        rw [ne 9 (by decide)] at hj
        obtain ⟨b1, cs, e1, e2, e3, e4, e5⟩ := h.f9 hj
        refine ⟨b1, cs, ?_, e2, (hg.block b1 (blk_lt e3) (hr b1 cs e3)).trans e3, e4, fun hc => by rw [ne 10 (by decide)] at hc; have := h.f10 hc; simp only [me] at this; simp at this⟩
        rw [pn 12 (by decide)]; exact e1
    f10 := fun hj => by
        rw [ne 10 (by decide)] at hj
        have := h.f10 hj
        simp only [me] at this
        simp at this }
theorem OrdInv.s8 {B0 : Nat} {W0 : World} {a0 : Act} {bA : Nat} {f : ByteArray} {A : Option Addr} {c : Nat} {l : List Int} {k : Int} {L : Array Bool} {a : Act} {w : World} (h : OrdInv B0 W0 a0 bA f A c l k L a w) (hs : 8 < L.size) (hl : L.getD 8 true = false) {v : Value} (hd : 76 < a0.tmps.size) (hdep : L.getD 7 false = true) (hn : v = .agg #[.string f, a.tmps.getD 75 undef]) :
    OrdInv B0 W0 a0 bA f A c l k (L.setIfInBounds 8 true) (a.put (some 76) v) w := by
  have sz := h.agree.size
  have ne : ∀ j, j ≠ 8 → (L.setIfInBounds 8 true).getD j false = L.getD j false := fun j hj => by simp only [Array.getD_eq_getD_getElem?]; rw [Array.getElem?_setIfInBounds_ne (fun e => hj e.symm)]
  have me : L.getD 8 false = false := by simp [hs] at hl ⊢; exact hl
  have mt : (L.setIfInBounds 8 true).getD 8 false = true := by simp [hs]
  have pn : ∀ j, 76 ≠ j → (a.put (some 76) v).tmps.getD j undef = a.tmps.getD j undef := fun j hj => getD_put_ne hj v
  have ps : (a.put (some 76) v).tmps.getD 76 undef = v := getD_put_same (by rw [sz]; exact hd) v
  exact {
    agree := h.agree.put (by decide) v
    bel := h.bel
    f0 := fun hj => by rw [ne 0 (by decide)] at hj; rw [pn 68 (by decide)]; exact h.f0 hj
    f1 := fun hj => by rw [ne 1 (by decide)] at hj; rw [pn 69 (by decide)]; exact h.f1 hj
    f2 := fun hj => by rw [ne 2 (by decide)] at hj; rw [pn 70 (by decide)]; exact h.f2 hj
    f3 := fun hj => by rw [ne 3 (by decide)] at hj; rw [pn 71 (by decide)]; exact h.f3 hj
    f4 := fun hj h7 => by
        rw [ne 4 (by decide)] at hj
        rw [ne 7 (by decide)] at h7
        rw [pn 72 (by decide)]
        exact h.f4 hj h7
    f5 := fun hj => by rw [ne 5 (by decide)] at hj; rw [pn 73 (by decide)]; exact h.f5 hj
    f6 := fun hj h7 => by
        rw [ne 6 (by decide)] at hj
        rw [ne 7 (by decide)] at h7
        rw [pn 74 (by decide)]
        exact h.f6 hj h7
    f7 := fun hj => by
        rw [ne 7 (by decide)] at hj
        rw [pn 75 (by decide)]
        exact h.f7 hj
    f8 := fun _ => by rw [ps, pn 75 (by decide), ne 7 (by decide)]; exact ⟨hdep, hn⟩
    f9 := fun hj => by
        rw [ne 9 (by decide)] at hj
        obtain ⟨b1, cs, e1, e2, e3, e4, e5⟩ := h.f9 hj
        refine ⟨b1, cs, ?_, e2, e3, e4, fun hc => by rw [ne 10 (by decide)] at hc; rw [pn 75 (by decide)]; exact e5 hc⟩
        rw [pn 12 (by decide)]; exact e1
    f10 := fun hj => by
        rw [ne 10 (by decide)] at hj
        have := h.f10 hj
        simp only [me] at this
        simp at this }
theorem OrdInv.s9 {B0 : Nat} {W0 : World} {a0 : Act} {bA : Nat} {f : ByteArray} {A : Option Addr} {c : Nat} {l : List Int} {k : Int} {L : Array Bool} {a : Act} {w : World} (h : OrdInv B0 W0 a0 bA f A c l k L a w) (hs : 9 < L.size) (hl : L.getD 9 true = false) {v : Value} (hd : 12 < a0.tmps.size) {w' : World} (hg : w.grownBy w' none) (hbw : Below B0 W0 w') (hn : ∃ b cs, v = .pointer (some ⟨b, 0, none⟩) ∧ B0 ≤ b ∧ w'.heap[b]? = some (.cells cs 27 (0, 0)) ∧ cs.size = 2) :
    OrdInv B0 W0 a0 bA f A c l k (L.setIfInBounds 9 true) (a.put (some 12) v) w' := by
  have sz := h.agree.size
  have ne : ∀ j, j ≠ 9 → (L.setIfInBounds 9 true).getD j false = L.getD j false := fun j hj => by simp only [Array.getD_eq_getD_getElem?]; rw [Array.getElem?_setIfInBounds_ne (fun e => hj e.symm)]
  have me : L.getD 9 false = false := by simp [hs] at hl ⊢; exact hl
  have mt : (L.setIfInBounds 9 true).getD 9 false = true := by simp [hs]
  have pn : ∀ j, 12 ≠ j → (a.put (some 12) v).tmps.getD j undef = a.tmps.getD j undef := fun j hj => getD_put_ne hj v
  have ps : (a.put (some 12) v).tmps.getD 12 undef = v := getD_put_same (by rw [sz]; exact hd) v
  exact {
    agree := h.agree.put (by decide) v
    bel := hbw
    f0 := fun hj => by rw [ne 0 (by decide)] at hj; rw [pn 68 (by decide)]; exact h.f0 hj
    f1 := fun hj => by rw [ne 1 (by decide)] at hj; rw [pn 69 (by decide)]; exact h.f1 hj
    f2 := fun hj => by rw [ne 2 (by decide)] at hj; rw [pn 70 (by decide)]; exact h.f2 hj
    f3 := fun hj => by rw [ne 3 (by decide)] at hj; rw [pn 71 (by decide)]; exact h.f3 hj
    f4 := fun hj h7 => by
        rw [ne 4 (by decide)] at hj
        rw [ne 7 (by decide)] at h7
        rw [pn 72 (by decide)]
        obtain ⟨A1, c1, e1, e2⟩ := h.f4 hj h7
        exact ⟨A1, c1, e1, e2.kept hg (by cases hv : (Value.slice A1 l.length c1).ownBlock <;> simp)⟩
    f5 := fun hj => by rw [ne 5 (by decide)] at hj; rw [pn 73 (by decide)]; exact h.f5 hj
    f6 := fun hj h7 => by
        rw [ne 6 (by decide)] at hj
        rw [ne 7 (by decide)] at h7
        rw [pn 74 (by decide)]
        obtain ⟨b, e1, e2⟩ := h.f6 hj h7
        exact ⟨b, e1, (World.cell?_of_block (a := ⟨b, 0, none⟩) (hg.block b (World.block_lt_of_cell? _ _ e2) (by simp))).trans e2⟩
    f7 := fun hj => by
        rw [ne 7 (by decide)] at hj
        rw [pn 75 (by decide)]
        obtain ⟨g, cap, e1, e2⟩ := h.f7 hj
        exact ⟨g, cap, e1, e2.kept hg (.inr (by simp [Value.ownBlock]))⟩
    f8 := fun hj => by
        rw [ne 8 (by decide)] at hj
        obtain ⟨e1, e2⟩ := h.f8 hj
        refine ⟨?_, ?_⟩
        · rw [ne 7 (by decide)]; exact e1
        · rw [pn 76 (by decide)]; rw [pn 75 (by decide)]; exact e2
    f9 := fun _ => by
        obtain ⟨b, cs, e1, e2, e3, e4⟩ := hn
        rw [ps, ne 10 (by decide)]
        exact ⟨b, cs, e1, e2, e3, e4, fun hc => by have := h.f10 hc; simp only [me] at this; simp at this⟩
    f10 := fun hj => by
        rw [ne 10 (by decide)] at hj
        have := h.f10 hj
        simp only [me] at this
        simp at this }
theorem OrdInv.s10 {B0 : Nat} {W0 : World} {a0 : Act} {bA : Nat} {f : ByteArray} {A : Option Addr} {c : Nat} {l : List Int} {k : Int} {L : Array Bool} {a : Act} {w : World} (h : OrdInv B0 W0 a0 bA f A c l k L a w) (hs : 10 < L.size) (hl : L.getD 10 true = false) {w' : World} {b : Nat} {cs0 : Array Value} (hg : w.grownBy w' (some b)) (hbw : Below B0 W0 w') (hb0 : w.heap[b]? = some (.cells cs0 27 (0, 0))) (hdep7 : L.getD 7 false = true) (hdep8 : L.getD 8 false = true) (hdep9 : L.getD 9 false = true) (hn : a.tmps.getD 12 undef = .pointer (some ⟨b, 0, none⟩) ∧ B0 ≤ b ∧ w'.heap[b]? = some (.cells #[.string f, a.tmps.getD 75 undef] 27 (0, 0))) :
    OrdInv B0 W0 a0 bA f A c l k (L.setIfInBounds 10 true) (a) w' := by
  have sz := h.agree.size
  have ne : ∀ j, j ≠ 10 → (L.setIfInBounds 10 true).getD j false = L.getD j false := fun j hj => by simp only [Array.getD_eq_getD_getElem?]; rw [Array.getElem?_setIfInBounds_ne (fun e => hj e.symm)]
  have me : L.getD 10 false = false := by simp [hs] at hl ⊢; exact hl
  have mt : (L.setIfInBounds 10 true).getD 10 false = true := by simp [hs]
  exact {
    agree := h.agree
    bel := hbw
    f0 := fun hj => by rw [ne 0 (by decide)] at hj; exact h.f0 hj
    f1 := fun hj => by rw [ne 1 (by decide)] at hj; exact h.f1 hj
    f2 := fun hj => by rw [ne 2 (by decide)] at hj; exact h.f2 hj
    f3 := fun hj => by rw [ne 3 (by decide)] at hj; exact h.f3 hj
    f4 := fun hj h7 => by rw [ne 7 (by decide), hdep7] at h7; cases h7
    f5 := fun hj => by rw [ne 5 (by decide)] at hj; exact h.f5 hj
    f6 := fun hj h7 => by rw [ne 7 (by decide), hdep7] at h7; cases h7
    f7 := fun hj => by
        rw [ne 7 (by decide)] at hj
        skip
        obtain ⟨g, cap, e1, e2⟩ := h.f7 hj
        exact ⟨g, cap, e1, e2.kept hg (.inr (own_ne e2 hb0 (by decide)))⟩
    f8 := fun hj => by
        rw [ne 8 (by decide)] at hj
        obtain ⟨e1, e2⟩ := h.f8 hj
        refine ⟨?_, ?_⟩
        · rw [ne 7 (by decide)]; exact e1
        · exact e2
    f9 := fun hj => by
        rw [ne 9 (by decide)] at hj
        obtain ⟨b1, cs, e1, e2, e3, e4, e5⟩ := h.f9 hj
        obtain ⟨n1, n2, n3⟩ := hn
        rw [n1] at e1
        have eb : b = b1 := by injection e1 with e1; injection e1 with e1; injection e1
        subst eb
        exact ⟨b, _, n1, n2, n3, rfl, fun _ => rfl⟩
    f10 := fun _ => by rw [ne 7 (by decide)]; rw [ne 8 (by decide)]; rw [ne 9 (by decide)]; exact ⟨hdep7, hdep8, hdep9⟩ }
end Go.Proofs.YthkofiakfmijiaaDoor
