/-
  The invariant of a region that draws its order (espalierlaw3.plays) and its steps, one an operation. Written by a program of mine (gen_reg.py). Conditions: none.
-/
import Derived.Test.YthkofiakfmijiaaDoorRegOrd
namespace Go.Proofs.YthkofiakfmijiaaDoor
open Go.RowKit
set_option linter.unusedVariables false

structure PlayInv (B0 : Nat) (W0 : World) (a0 : Act) (bA : Nat) (f : ByteArray) (A : Option Addr) (c : Nat) (l : List Int) (k : Int) (L : Array Bool) (a : Act) (w : World) : Prop where
  agree : Agree [21, 22, 23, 24, 25, 26, 27, 28, 3] a0 a
  bel : Below B0 W0 w
  f0 : L.getD 0 false = true → a.tmps.getD 21 undef = .pointer (some ⟨bA, 2, none⟩)
  f1 : L.getD 1 false = true → a.tmps.getD 22 undef = .pointer (some ⟨bA, 2, none⟩)
  f2 : L.getD 2 false = true → a.tmps.getD 23 undef = .string f
  f3 : L.getD 3 false = true → a.tmps.getD 24 undef = .pointer (some ⟨bA, 2, none⟩)
  f4 : L.getD 4 false = true → a.tmps.getD 25 undef = .pointer (some ⟨bA, 3, none⟩)
  f5 : L.getD 5 false = true → a.tmps.getD 26 undef = .slice A l.length c
  f6 : L.getD 6 false = true → ∃ A1 c1, a.tmps.getD 27 undef = .slice A1 l.length c1 ∧ w.ownsRow B0 3 1 (.slice A1 l.length c1) l.length (l.map vI)
  f7 : L.getD 7 false = true → L.getD 6 false = true ∧ a.tmps.getD 28 undef = .agg #[.string f, a.tmps.getD 27 undef]
  f8 : L.getD 8 false = true → ∃ b cs, a.tmps.getD 3 undef = .pointer (some ⟨b, 0, none⟩) ∧ B0 ≤ b ∧ w.heap[b]? = some (.cells cs 27 (0, 0)) ∧ cs.size = 2 ∧ (L.getD 9 false = true → cs = #[.string f, a.tmps.getD 27 undef])
  f9 : L.getD 9 false = true → L.getD 6 false = true ∧ L.getD 7 false = true ∧ L.getD 8 false = true
theorem PlayInv.s0 {B0 : Nat} {W0 : World} {a0 : Act} {bA : Nat} {f : ByteArray} {A : Option Addr} {c : Nat} {l : List Int} {k : Int} {L : Array Bool} {a : Act} {w : World} (h : PlayInv B0 W0 a0 bA f A c l k L a w) (hs : 0 < L.size) (hl : L.getD 0 true = false) {v : Value} (hd : 21 < a0.tmps.size) (hn : v = .pointer (some ⟨bA, 2, none⟩)) :
    PlayInv B0 W0 a0 bA f A c l k (L.setIfInBounds 0 true) (a.put (some 21) v) w := by
  have sz := h.agree.size
  have ne : ∀ j, j ≠ 0 → (L.setIfInBounds 0 true).getD j false = L.getD j false := fun j hj => by simp only [Array.getD_eq_getD_getElem?]; rw [Array.getElem?_setIfInBounds_ne (fun e => hj e.symm)]
  have me : L.getD 0 false = false := by simp [hs] at hl ⊢; exact hl
  have mt : (L.setIfInBounds 0 true).getD 0 false = true := by simp [hs]
  have pn : ∀ j, 21 ≠ j → (a.put (some 21) v).tmps.getD j undef = a.tmps.getD j undef := fun j hj => getD_put_ne hj v
  have ps : (a.put (some 21) v).tmps.getD 21 undef = v := getD_put_same (by rw [sz]; exact hd) v
  exact {
    agree := h.agree.put (by decide) v
    bel := h.bel
    f0 := fun _ => by rw [ps]; exact hn
    f1 := fun hj => by rw [ne 1 (by decide)] at hj; rw [pn 22 (by decide)]; exact h.f1 hj
    f2 := fun hj => by rw [ne 2 (by decide)] at hj; rw [pn 23 (by decide)]; exact h.f2 hj
    f3 := fun hj => by rw [ne 3 (by decide)] at hj; rw [pn 24 (by decide)]; exact h.f3 hj
    f4 := fun hj => by rw [ne 4 (by decide)] at hj; rw [pn 25 (by decide)]; exact h.f4 hj
    f5 := fun hj => by rw [ne 5 (by decide)] at hj; rw [pn 26 (by decide)]; exact h.f5 hj
    f6 := fun hj => by
        rw [ne 6 (by decide)] at hj
        rw [pn 27 (by decide)]
        exact h.f6 hj
    f7 := fun hj => by
        rw [ne 7 (by decide)] at hj
        obtain ⟨e1, e2⟩ := h.f7 hj
        refine ⟨?_, ?_⟩
        · rw [ne 6 (by decide)]; exact e1
        · rw [pn 28 (by decide)]; rw [pn 27 (by decide)]; exact e2
    f8 := fun hj => by
        rw [ne 8 (by decide)] at hj
        obtain ⟨b1, cs, e1, e2, e3, e4, e5⟩ := h.f8 hj
        refine ⟨b1, cs, ?_, e2, e3, e4, fun hc => by rw [ne 9 (by decide)] at hc; rw [pn 27 (by decide)]; exact e5 hc⟩
        rw [pn 3 (by decide)]; exact e1
    f9 := fun hj => by
        rw [ne 9 (by decide)] at hj
        have := h.f9 hj
        rw [ne 6 (by decide)]; rw [ne 7 (by decide)]; rw [ne 8 (by decide)]
        exact this }
theorem PlayInv.s1 {B0 : Nat} {W0 : World} {a0 : Act} {bA : Nat} {f : ByteArray} {A : Option Addr} {c : Nat} {l : List Int} {k : Int} {L : Array Bool} {a : Act} {w : World} (h : PlayInv B0 W0 a0 bA f A c l k L a w) (hs : 1 < L.size) (hl : L.getD 1 true = false) {v : Value} (hd : 22 < a0.tmps.size) (hn : v = .pointer (some ⟨bA, 2, none⟩)) :
    PlayInv B0 W0 a0 bA f A c l k (L.setIfInBounds 1 true) (a.put (some 22) v) w := by
  have sz := h.agree.size
  have ne : ∀ j, j ≠ 1 → (L.setIfInBounds 1 true).getD j false = L.getD j false := fun j hj => by simp only [Array.getD_eq_getD_getElem?]; rw [Array.getElem?_setIfInBounds_ne (fun e => hj e.symm)]
  have me : L.getD 1 false = false := by simp [hs] at hl ⊢; exact hl
  have mt : (L.setIfInBounds 1 true).getD 1 false = true := by simp [hs]
  have pn : ∀ j, 22 ≠ j → (a.put (some 22) v).tmps.getD j undef = a.tmps.getD j undef := fun j hj => getD_put_ne hj v
  have ps : (a.put (some 22) v).tmps.getD 22 undef = v := getD_put_same (by rw [sz]; exact hd) v
  exact {
    agree := h.agree.put (by decide) v
    bel := h.bel
    f0 := fun hj => by rw [ne 0 (by decide)] at hj; rw [pn 21 (by decide)]; exact h.f0 hj
    f1 := fun _ => by rw [ps]; exact hn
    f2 := fun hj => by rw [ne 2 (by decide)] at hj; rw [pn 23 (by decide)]; exact h.f2 hj
    f3 := fun hj => by rw [ne 3 (by decide)] at hj; rw [pn 24 (by decide)]; exact h.f3 hj
    f4 := fun hj => by rw [ne 4 (by decide)] at hj; rw [pn 25 (by decide)]; exact h.f4 hj
    f5 := fun hj => by rw [ne 5 (by decide)] at hj; rw [pn 26 (by decide)]; exact h.f5 hj
    f6 := fun hj => by
        rw [ne 6 (by decide)] at hj
        rw [pn 27 (by decide)]
        exact h.f6 hj
    f7 := fun hj => by
        rw [ne 7 (by decide)] at hj
        obtain ⟨e1, e2⟩ := h.f7 hj
        refine ⟨?_, ?_⟩
        · rw [ne 6 (by decide)]; exact e1
        · rw [pn 28 (by decide)]; rw [pn 27 (by decide)]; exact e2
    f8 := fun hj => by
        rw [ne 8 (by decide)] at hj
        obtain ⟨b1, cs, e1, e2, e3, e4, e5⟩ := h.f8 hj
        refine ⟨b1, cs, ?_, e2, e3, e4, fun hc => by rw [ne 9 (by decide)] at hc; rw [pn 27 (by decide)]; exact e5 hc⟩
        rw [pn 3 (by decide)]; exact e1
    f9 := fun hj => by
        rw [ne 9 (by decide)] at hj
        have := h.f9 hj
        rw [ne 6 (by decide)]; rw [ne 7 (by decide)]; rw [ne 8 (by decide)]
        exact this }
theorem PlayInv.s2 {B0 : Nat} {W0 : World} {a0 : Act} {bA : Nat} {f : ByteArray} {A : Option Addr} {c : Nat} {l : List Int} {k : Int} {L : Array Bool} {a : Act} {w : World} (h : PlayInv B0 W0 a0 bA f A c l k L a w) (hs : 2 < L.size) (hl : L.getD 2 true = false) {v : Value} (hd : 23 < a0.tmps.size) (hn : v = .string f) :
    PlayInv B0 W0 a0 bA f A c l k (L.setIfInBounds 2 true) (a.put (some 23) v) w := by
  have sz := h.agree.size
  have ne : ∀ j, j ≠ 2 → (L.setIfInBounds 2 true).getD j false = L.getD j false := fun j hj => by simp only [Array.getD_eq_getD_getElem?]; rw [Array.getElem?_setIfInBounds_ne (fun e => hj e.symm)]
  have me : L.getD 2 false = false := by simp [hs] at hl ⊢; exact hl
  have mt : (L.setIfInBounds 2 true).getD 2 false = true := by simp [hs]
  have pn : ∀ j, 23 ≠ j → (a.put (some 23) v).tmps.getD j undef = a.tmps.getD j undef := fun j hj => getD_put_ne hj v
  have ps : (a.put (some 23) v).tmps.getD 23 undef = v := getD_put_same (by rw [sz]; exact hd) v
  exact {
    agree := h.agree.put (by decide) v
    bel := h.bel
    f0 := fun hj => by rw [ne 0 (by decide)] at hj; rw [pn 21 (by decide)]; exact h.f0 hj
    f1 := fun hj => by rw [ne 1 (by decide)] at hj; rw [pn 22 (by decide)]; exact h.f1 hj
    f2 := fun _ => by rw [ps]; exact hn
    f3 := fun hj => by rw [ne 3 (by decide)] at hj; rw [pn 24 (by decide)]; exact h.f3 hj
    f4 := fun hj => by rw [ne 4 (by decide)] at hj; rw [pn 25 (by decide)]; exact h.f4 hj
    f5 := fun hj => by rw [ne 5 (by decide)] at hj; rw [pn 26 (by decide)]; exact h.f5 hj
    f6 := fun hj => by
        rw [ne 6 (by decide)] at hj
        rw [pn 27 (by decide)]
        exact h.f6 hj
    f7 := fun hj => by
        rw [ne 7 (by decide)] at hj
        obtain ⟨e1, e2⟩ := h.f7 hj
        refine ⟨?_, ?_⟩
        · rw [ne 6 (by decide)]; exact e1
        · rw [pn 28 (by decide)]; rw [pn 27 (by decide)]; exact e2
    f8 := fun hj => by
        rw [ne 8 (by decide)] at hj
        obtain ⟨b1, cs, e1, e2, e3, e4, e5⟩ := h.f8 hj
        refine ⟨b1, cs, ?_, e2, e3, e4, fun hc => by rw [ne 9 (by decide)] at hc; rw [pn 27 (by decide)]; exact e5 hc⟩
        rw [pn 3 (by decide)]; exact e1
    f9 := fun hj => by
        rw [ne 9 (by decide)] at hj
        have := h.f9 hj
        rw [ne 6 (by decide)]; rw [ne 7 (by decide)]; rw [ne 8 (by decide)]
        exact this }
theorem PlayInv.s3 {B0 : Nat} {W0 : World} {a0 : Act} {bA : Nat} {f : ByteArray} {A : Option Addr} {c : Nat} {l : List Int} {k : Int} {L : Array Bool} {a : Act} {w : World} (h : PlayInv B0 W0 a0 bA f A c l k L a w) (hs : 3 < L.size) (hl : L.getD 3 true = false) {v : Value} (hd : 24 < a0.tmps.size) (hn : v = .pointer (some ⟨bA, 2, none⟩)) :
    PlayInv B0 W0 a0 bA f A c l k (L.setIfInBounds 3 true) (a.put (some 24) v) w := by
  have sz := h.agree.size
  have ne : ∀ j, j ≠ 3 → (L.setIfInBounds 3 true).getD j false = L.getD j false := fun j hj => by simp only [Array.getD_eq_getD_getElem?]; rw [Array.getElem?_setIfInBounds_ne (fun e => hj e.symm)]
  have me : L.getD 3 false = false := by simp [hs] at hl ⊢; exact hl
  have mt : (L.setIfInBounds 3 true).getD 3 false = true := by simp [hs]
  have pn : ∀ j, 24 ≠ j → (a.put (some 24) v).tmps.getD j undef = a.tmps.getD j undef := fun j hj => getD_put_ne hj v
  have ps : (a.put (some 24) v).tmps.getD 24 undef = v := getD_put_same (by rw [sz]; exact hd) v
  exact {
    agree := h.agree.put (by decide) v
    bel := h.bel
    f0 := fun hj => by rw [ne 0 (by decide)] at hj; rw [pn 21 (by decide)]; exact h.f0 hj
    f1 := fun hj => by rw [ne 1 (by decide)] at hj; rw [pn 22 (by decide)]; exact h.f1 hj
    f2 := fun hj => by rw [ne 2 (by decide)] at hj; rw [pn 23 (by decide)]; exact h.f2 hj
    f3 := fun _ => by rw [ps]; exact hn
    f4 := fun hj => by rw [ne 4 (by decide)] at hj; rw [pn 25 (by decide)]; exact h.f4 hj
    f5 := fun hj => by rw [ne 5 (by decide)] at hj; rw [pn 26 (by decide)]; exact h.f5 hj
    f6 := fun hj => by
        rw [ne 6 (by decide)] at hj
        rw [pn 27 (by decide)]
        exact h.f6 hj
    f7 := fun hj => by
        rw [ne 7 (by decide)] at hj
        obtain ⟨e1, e2⟩ := h.f7 hj
        refine ⟨?_, ?_⟩
        · rw [ne 6 (by decide)]; exact e1
        · rw [pn 28 (by decide)]; rw [pn 27 (by decide)]; exact e2
    f8 := fun hj => by
        rw [ne 8 (by decide)] at hj
        obtain ⟨b1, cs, e1, e2, e3, e4, e5⟩ := h.f8 hj
        refine ⟨b1, cs, ?_, e2, e3, e4, fun hc => by rw [ne 9 (by decide)] at hc; rw [pn 27 (by decide)]; exact e5 hc⟩
        rw [pn 3 (by decide)]; exact e1
    f9 := fun hj => by
        rw [ne 9 (by decide)] at hj
        have := h.f9 hj
        rw [ne 6 (by decide)]; rw [ne 7 (by decide)]; rw [ne 8 (by decide)]
        exact this }
theorem PlayInv.s4 {B0 : Nat} {W0 : World} {a0 : Act} {bA : Nat} {f : ByteArray} {A : Option Addr} {c : Nat} {l : List Int} {k : Int} {L : Array Bool} {a : Act} {w : World} (h : PlayInv B0 W0 a0 bA f A c l k L a w) (hs : 4 < L.size) (hl : L.getD 4 true = false) {v : Value} (hd : 25 < a0.tmps.size) (hn : v = .pointer (some ⟨bA, 3, none⟩)) :
    PlayInv B0 W0 a0 bA f A c l k (L.setIfInBounds 4 true) (a.put (some 25) v) w := by
  have sz := h.agree.size
  have ne : ∀ j, j ≠ 4 → (L.setIfInBounds 4 true).getD j false = L.getD j false := fun j hj => by simp only [Array.getD_eq_getD_getElem?]; rw [Array.getElem?_setIfInBounds_ne (fun e => hj e.symm)]
  have me : L.getD 4 false = false := by simp [hs] at hl ⊢; exact hl
  have mt : (L.setIfInBounds 4 true).getD 4 false = true := by simp [hs]
  have pn : ∀ j, 25 ≠ j → (a.put (some 25) v).tmps.getD j undef = a.tmps.getD j undef := fun j hj => getD_put_ne hj v
  have ps : (a.put (some 25) v).tmps.getD 25 undef = v := getD_put_same (by rw [sz]; exact hd) v
  exact {
    agree := h.agree.put (by decide) v
    bel := h.bel
    f0 := fun hj => by rw [ne 0 (by decide)] at hj; rw [pn 21 (by decide)]; exact h.f0 hj
    f1 := fun hj => by rw [ne 1 (by decide)] at hj; rw [pn 22 (by decide)]; exact h.f1 hj
    f2 := fun hj => by rw [ne 2 (by decide)] at hj; rw [pn 23 (by decide)]; exact h.f2 hj
    f3 := fun hj => by rw [ne 3 (by decide)] at hj; rw [pn 24 (by decide)]; exact h.f3 hj
    f4 := fun _ => by rw [ps]; exact hn
    f5 := fun hj => by rw [ne 5 (by decide)] at hj; rw [pn 26 (by decide)]; exact h.f5 hj
    f6 := fun hj => by
        rw [ne 6 (by decide)] at hj
        rw [pn 27 (by decide)]
        exact h.f6 hj
    f7 := fun hj => by
        rw [ne 7 (by decide)] at hj
        obtain ⟨e1, e2⟩ := h.f7 hj
        refine ⟨?_, ?_⟩
        · rw [ne 6 (by decide)]; exact e1
        · rw [pn 28 (by decide)]; rw [pn 27 (by decide)]; exact e2
    f8 := fun hj => by
        rw [ne 8 (by decide)] at hj
        obtain ⟨b1, cs, e1, e2, e3, e4, e5⟩ := h.f8 hj
        refine ⟨b1, cs, ?_, e2, e3, e4, fun hc => by rw [ne 9 (by decide)] at hc; rw [pn 27 (by decide)]; exact e5 hc⟩
        rw [pn 3 (by decide)]; exact e1
    f9 := fun hj => by
        rw [ne 9 (by decide)] at hj
        have := h.f9 hj
        rw [ne 6 (by decide)]; rw [ne 7 (by decide)]; rw [ne 8 (by decide)]
        exact this }
theorem PlayInv.s5 {B0 : Nat} {W0 : World} {a0 : Act} {bA : Nat} {f : ByteArray} {A : Option Addr} {c : Nat} {l : List Int} {k : Int} {L : Array Bool} {a : Act} {w : World} (h : PlayInv B0 W0 a0 bA f A c l k L a w) (hs : 5 < L.size) (hl : L.getD 5 true = false) {v : Value} (hd : 26 < a0.tmps.size) (hn : v = .slice A l.length c) :
    PlayInv B0 W0 a0 bA f A c l k (L.setIfInBounds 5 true) (a.put (some 26) v) w := by
  have sz := h.agree.size
  have ne : ∀ j, j ≠ 5 → (L.setIfInBounds 5 true).getD j false = L.getD j false := fun j hj => by simp only [Array.getD_eq_getD_getElem?]; rw [Array.getElem?_setIfInBounds_ne (fun e => hj e.symm)]
  have me : L.getD 5 false = false := by simp [hs] at hl ⊢; exact hl
  have mt : (L.setIfInBounds 5 true).getD 5 false = true := by simp [hs]
  have pn : ∀ j, 26 ≠ j → (a.put (some 26) v).tmps.getD j undef = a.tmps.getD j undef := fun j hj => getD_put_ne hj v
  have ps : (a.put (some 26) v).tmps.getD 26 undef = v := getD_put_same (by rw [sz]; exact hd) v
  exact {
    agree := h.agree.put (by decide) v
    bel := h.bel
    f0 := fun hj => by rw [ne 0 (by decide)] at hj; rw [pn 21 (by decide)]; exact h.f0 hj
    f1 := fun hj => by rw [ne 1 (by decide)] at hj; rw [pn 22 (by decide)]; exact h.f1 hj
    f2 := fun hj => by rw [ne 2 (by decide)] at hj; rw [pn 23 (by decide)]; exact h.f2 hj
    f3 := fun hj => by rw [ne 3 (by decide)] at hj; rw [pn 24 (by decide)]; exact h.f3 hj
    f4 := fun hj => by rw [ne 4 (by decide)] at hj; rw [pn 25 (by decide)]; exact h.f4 hj
    f5 := fun _ => by rw [ps]; exact hn
    f6 := fun hj => by
        rw [ne 6 (by decide)] at hj
        rw [pn 27 (by decide)]
        exact h.f6 hj
    f7 := fun hj => by
        rw [ne 7 (by decide)] at hj
        obtain ⟨e1, e2⟩ := h.f7 hj
        refine ⟨?_, ?_⟩
        · rw [ne 6 (by decide)]; exact e1
        · rw [pn 28 (by decide)]; rw [pn 27 (by decide)]; exact e2
    f8 := fun hj => by
        rw [ne 8 (by decide)] at hj
        obtain ⟨b1, cs, e1, e2, e3, e4, e5⟩ := h.f8 hj
        refine ⟨b1, cs, ?_, e2, e3, e4, fun hc => by rw [ne 9 (by decide)] at hc; rw [pn 27 (by decide)]; exact e5 hc⟩
        rw [pn 3 (by decide)]; exact e1
    f9 := fun hj => by
        rw [ne 9 (by decide)] at hj
        have := h.f9 hj
        rw [ne 6 (by decide)]; rw [ne 7 (by decide)]; rw [ne 8 (by decide)]
        exact this }
theorem PlayInv.s6 {B0 : Nat} {W0 : World} {a0 : Act} {bA : Nat} {f : ByteArray} {A : Option Addr} {c : Nat} {l : List Int} {k : Int} {L : Array Bool} {a : Act} {w : World} (h : PlayInv B0 W0 a0 bA f A c l k L a w) (hs : 6 < L.size) (hl : L.getD 6 true = false) {v : Value} (hd : 27 < a0.tmps.size) {w' : World} (hg : w.grownBy w' none) (hbw : Below B0 W0 w') (hn : ∃ A1 c1, v = .slice A1 l.length c1 ∧ w'.ownsRow B0 3 1 (.slice A1 l.length c1) l.length (l.map vI)) :
    PlayInv B0 W0 a0 bA f A c l k (L.setIfInBounds 6 true) (a.put (some 27) v) w' := by
  have sz := h.agree.size
  have ne : ∀ j, j ≠ 6 → (L.setIfInBounds 6 true).getD j false = L.getD j false := fun j hj => by simp only [Array.getD_eq_getD_getElem?]; rw [Array.getElem?_setIfInBounds_ne (fun e => hj e.symm)]
  have me : L.getD 6 false = false := by simp [hs] at hl ⊢; exact hl
  have mt : (L.setIfInBounds 6 true).getD 6 false = true := by simp [hs]
  have pn : ∀ j, 27 ≠ j → (a.put (some 27) v).tmps.getD j undef = a.tmps.getD j undef := fun j hj => getD_put_ne hj v
  have ps : (a.put (some 27) v).tmps.getD 27 undef = v := getD_put_same (by rw [sz]; exact hd) v
  exact {
    agree := h.agree.put (by decide) v
    bel := hbw
    f0 := fun hj => by rw [ne 0 (by decide)] at hj; rw [pn 21 (by decide)]; exact h.f0 hj
    f1 := fun hj => by rw [ne 1 (by decide)] at hj; rw [pn 22 (by decide)]; exact h.f1 hj
    f2 := fun hj => by rw [ne 2 (by decide)] at hj; rw [pn 23 (by decide)]; exact h.f2 hj
    f3 := fun hj => by rw [ne 3 (by decide)] at hj; rw [pn 24 (by decide)]; exact h.f3 hj
    f4 := fun hj => by rw [ne 4 (by decide)] at hj; rw [pn 25 (by decide)]; exact h.f4 hj
    f5 := fun hj => by rw [ne 5 (by decide)] at hj; rw [pn 26 (by decide)]; exact h.f5 hj
    f6 := fun _ => by rw [ps]; exact hn
    f7 := fun hj => by
        rw [ne 7 (by decide)] at hj
        have := (h.f7 hj).1
        rw [me] at this; cases this
    f8 := fun hj => by
        rw [ne 8 (by decide)] at hj
        obtain ⟨b1, cs, e1, e2, e3, e4, e5⟩ := h.f8 hj
        refine ⟨b1, cs, ?_, e2, (hg.block b1 (blk_lt e3) (by simp)).trans e3, e4, fun hc => by rw [ne 9 (by decide)] at hc; have := h.f9 hc; simp only [me] at this; simp at this⟩
        rw [pn 3 (by decide)]; exact e1
    f9 := fun hj => by
        rw [ne 9 (by decide)] at hj
        have := h.f9 hj
        simp only [me] at this
        simp at this }
theorem PlayInv.s7 {B0 : Nat} {W0 : World} {a0 : Act} {bA : Nat} {f : ByteArray} {A : Option Addr} {c : Nat} {l : List Int} {k : Int} {L : Array Bool} {a : Act} {w : World} (h : PlayInv B0 W0 a0 bA f A c l k L a w) (hs : 7 < L.size) (hl : L.getD 7 true = false) {v : Value} (hd : 28 < a0.tmps.size) (hdep : L.getD 6 false = true) (hn : v = .agg #[.string f, a.tmps.getD 27 undef]) :
    PlayInv B0 W0 a0 bA f A c l k (L.setIfInBounds 7 true) (a.put (some 28) v) w := by
  have sz := h.agree.size
  have ne : ∀ j, j ≠ 7 → (L.setIfInBounds 7 true).getD j false = L.getD j false := fun j hj => by simp only [Array.getD_eq_getD_getElem?]; rw [Array.getElem?_setIfInBounds_ne (fun e => hj e.symm)]
  have me : L.getD 7 false = false := by simp [hs] at hl ⊢; exact hl
  have mt : (L.setIfInBounds 7 true).getD 7 false = true := by simp [hs]
  have pn : ∀ j, 28 ≠ j → (a.put (some 28) v).tmps.getD j undef = a.tmps.getD j undef := fun j hj => getD_put_ne hj v
  have ps : (a.put (some 28) v).tmps.getD 28 undef = v := getD_put_same (by rw [sz]; exact hd) v
  exact {
    agree := h.agree.put (by decide) v
    bel := h.bel
    f0 := fun hj => by rw [ne 0 (by decide)] at hj; rw [pn 21 (by decide)]; exact h.f0 hj
    f1 := fun hj => by rw [ne 1 (by decide)] at hj; rw [pn 22 (by decide)]; exact h.f1 hj
    f2 := fun hj => by rw [ne 2 (by decide)] at hj; rw [pn 23 (by decide)]; exact h.f2 hj
    f3 := fun hj => by rw [ne 3 (by decide)] at hj; rw [pn 24 (by decide)]; exact h.f3 hj
    f4 := fun hj => by rw [ne 4 (by decide)] at hj; rw [pn 25 (by decide)]; exact h.f4 hj
    f5 := fun hj => by rw [ne 5 (by decide)] at hj; rw [pn 26 (by decide)]; exact h.f5 hj
    f6 := fun hj => by
        rw [ne 6 (by decide)] at hj
        rw [pn 27 (by decide)]
        exact h.f6 hj
    f7 := fun _ => by rw [ps, pn 27 (by decide), ne 6 (by decide)]; exact ⟨hdep, hn⟩
    f8 := fun hj => by
        rw [ne 8 (by decide)] at hj
        obtain ⟨b1, cs, e1, e2, e3, e4, e5⟩ := h.f8 hj
        refine ⟨b1, cs, ?_, e2, e3, e4, fun hc => by rw [ne 9 (by decide)] at hc; rw [pn 27 (by decide)]; exact e5 hc⟩
        rw [pn 3 (by decide)]; exact e1
    f9 := fun hj => by
        rw [ne 9 (by decide)] at hj
        have := h.f9 hj
        simp only [me] at this
        simp at this }
theorem PlayInv.s8 {B0 : Nat} {W0 : World} {a0 : Act} {bA : Nat} {f : ByteArray} {A : Option Addr} {c : Nat} {l : List Int} {k : Int} {L : Array Bool} {a : Act} {w : World} (h : PlayInv B0 W0 a0 bA f A c l k L a w) (hs : 8 < L.size) (hl : L.getD 8 true = false) {v : Value} (hd : 3 < a0.tmps.size) {w' : World} (hg : w.grownBy w' none) (hbw : Below B0 W0 w') (hn : ∃ b cs, v = .pointer (some ⟨b, 0, none⟩) ∧ B0 ≤ b ∧ w'.heap[b]? = some (.cells cs 27 (0, 0)) ∧ cs.size = 2) :
    PlayInv B0 W0 a0 bA f A c l k (L.setIfInBounds 8 true) (a.put (some 3) v) w' := by
  have sz := h.agree.size
  have ne : ∀ j, j ≠ 8 → (L.setIfInBounds 8 true).getD j false = L.getD j false := fun j hj => by simp only [Array.getD_eq_getD_getElem?]; rw [Array.getElem?_setIfInBounds_ne (fun e => hj e.symm)]
  have me : L.getD 8 false = false := by simp [hs] at hl ⊢; exact hl
  have mt : (L.setIfInBounds 8 true).getD 8 false = true := by simp [hs]
  have pn : ∀ j, 3 ≠ j → (a.put (some 3) v).tmps.getD j undef = a.tmps.getD j undef := fun j hj => getD_put_ne hj v
  have ps : (a.put (some 3) v).tmps.getD 3 undef = v := getD_put_same (by rw [sz]; exact hd) v
  exact {
    agree := h.agree.put (by decide) v
    bel := hbw
    f0 := fun hj => by rw [ne 0 (by decide)] at hj; rw [pn 21 (by decide)]; exact h.f0 hj
    f1 := fun hj => by rw [ne 1 (by decide)] at hj; rw [pn 22 (by decide)]; exact h.f1 hj
    f2 := fun hj => by rw [ne 2 (by decide)] at hj; rw [pn 23 (by decide)]; exact h.f2 hj
    f3 := fun hj => by rw [ne 3 (by decide)] at hj; rw [pn 24 (by decide)]; exact h.f3 hj
    f4 := fun hj => by rw [ne 4 (by decide)] at hj; rw [pn 25 (by decide)]; exact h.f4 hj
    f5 := fun hj => by rw [ne 5 (by decide)] at hj; rw [pn 26 (by decide)]; exact h.f5 hj
    f6 := fun hj => by
        rw [ne 6 (by decide)] at hj
        rw [pn 27 (by decide)]
        obtain ⟨A1, c1, e1, e2⟩ := h.f6 hj
        exact ⟨A1, c1, e1, e2.kept hg (by cases hv : (Value.slice A1 l.length c1).ownBlock <;> simp)⟩
    f7 := fun hj => by
        rw [ne 7 (by decide)] at hj
        obtain ⟨e1, e2⟩ := h.f7 hj
        refine ⟨?_, ?_⟩
        · rw [ne 6 (by decide)]; exact e1
        · rw [pn 28 (by decide)]; rw [pn 27 (by decide)]; exact e2
    f8 := fun _ => by
        obtain ⟨b, cs, e1, e2, e3, e4⟩ := hn
        rw [ps, ne 9 (by decide)]
        exact ⟨b, cs, e1, e2, e3, e4, fun hc => by have := h.f9 hc; simp only [me] at this; simp at this⟩
    f9 := fun hj => by
        rw [ne 9 (by decide)] at hj
        have := h.f9 hj
        simp only [me] at this
        simp at this }
theorem PlayInv.s9 {B0 : Nat} {W0 : World} {a0 : Act} {bA : Nat} {f : ByteArray} {A : Option Addr} {c : Nat} {l : List Int} {k : Int} {L : Array Bool} {a : Act} {w : World} (h : PlayInv B0 W0 a0 bA f A c l k L a w) (hs : 9 < L.size) (hl : L.getD 9 true = false) {w' : World} {b : Nat} {cs0 : Array Value} (hg : w.grownBy w' (some b)) (hbw : Below B0 W0 w') (hb0 : w.heap[b]? = some (.cells cs0 27 (0, 0))) (hdep6 : L.getD 6 false = true) (hdep7 : L.getD 7 false = true) (hdep8 : L.getD 8 false = true) (hn : a.tmps.getD 3 undef = .pointer (some ⟨b, 0, none⟩) ∧ B0 ≤ b ∧ w'.heap[b]? = some (.cells #[.string f, a.tmps.getD 27 undef] 27 (0, 0))) :
    PlayInv B0 W0 a0 bA f A c l k (L.setIfInBounds 9 true) (a) w' := by
  have sz := h.agree.size
  have ne : ∀ j, j ≠ 9 → (L.setIfInBounds 9 true).getD j false = L.getD j false := fun j hj => by simp only [Array.getD_eq_getD_getElem?]; rw [Array.getElem?_setIfInBounds_ne (fun e => hj e.symm)]
  have me : L.getD 9 false = false := by simp [hs] at hl ⊢; exact hl
  have mt : (L.setIfInBounds 9 true).getD 9 false = true := by simp [hs]
  exact {
    agree := h.agree
    bel := hbw
    f0 := fun hj => by rw [ne 0 (by decide)] at hj; exact h.f0 hj
    f1 := fun hj => by rw [ne 1 (by decide)] at hj; exact h.f1 hj
    f2 := fun hj => by rw [ne 2 (by decide)] at hj; exact h.f2 hj
    f3 := fun hj => by rw [ne 3 (by decide)] at hj; exact h.f3 hj
    f4 := fun hj => by rw [ne 4 (by decide)] at hj; exact h.f4 hj
    f5 := fun hj => by rw [ne 5 (by decide)] at hj; exact h.f5 hj
    f6 := fun hj => by
        rw [ne 6 (by decide)] at hj
        skip
        obtain ⟨A1, c1, e1, e2⟩ := h.f6 hj
        exact ⟨A1, c1, e1, e2.kept hg (.inr (own_ne e2 hb0 (by decide)))⟩
    f7 := fun hj => by
        rw [ne 7 (by decide)] at hj
        obtain ⟨e1, e2⟩ := h.f7 hj
        refine ⟨?_, ?_⟩
        · rw [ne 6 (by decide)]; exact e1
        · exact e2
    f8 := fun hj => by
        rw [ne 8 (by decide)] at hj
        obtain ⟨b1, cs, e1, e2, e3, e4, e5⟩ := h.f8 hj
        obtain ⟨n1, n2, n3⟩ := hn
        rw [n1] at e1
        have eb : b = b1 := by injection e1 with e1; injection e1 with e1; injection e1
        subst eb
        exact ⟨b, _, n1, n2, n3, rfl, fun _ => rfl⟩
    f9 := fun _ => by rw [ne 6 (by decide)]; rw [ne 7 (by decide)]; rw [ne 8 (by decide)]; exact ⟨hdep6, hdep7, hdep8⟩ }
theorem run_op2 (w : World) (b : Nat) : (Instr.fieldAt 29 (.pointer (some ⟨b, 0, none⟩)) 2).run Tryd.prog w = .ok (.pointer (some ⟨b, 2, none⟩)) w := by
  go_simp
theorem run_place0 (w : World) (b o : Nat) : (Instr.fieldAt 27 (.pointer (some ⟨b, o + 1, none⟩)) 0).run Tryd.prog w = .ok (.pointer (some ⟨b, o + 1, none⟩)) w := by
  go_simp
theorem run_place1 (w : World) (b o : Nat) : (Instr.fieldAt 27 (.pointer (some ⟨b, o + 1, none⟩)) 1).run Tryd.prog w = .ok (.pointer (some ⟨b, o + 2, none⟩)) w := by
  go_simp
end Go.Proofs.YthkofiakfmijiaaDoor
