/-
  The invariant of a region that draws its order (a maker of nodes: a base and a second part that no call makes) and its steps. Written by a program of mine (gen_mk2.py). Conditions: none.
-/
import Derived.Test.YtjdpnljaichdmaaGreatDoorRegMk
namespace Go.Proofs.YtjdpnljaichdmaaGreatDoor
open Go.RowKit
set_option linter.unusedVariables false

structure MkL (c : MkC) (X Y : Nat) (A : Option Addr) (k : Nat) (cs : Array Value) (p : Nat → Prop) (a : Act) (w : World) : Prop where
  agree : Agree c.D c.a0 a
  bel : Below c.B0 c.W0 w
  f0 : p 0 → a.tmps.getD c.d0 undef = c.v0
  f1 : p 1 → a.tmps.getD c.d1 undef = c.v1
  f2 : p 2 → a.tmps.getD c.d2 undef = .agg (c.lay A k)
  g2 : p 2 → ValsIn w (fun b => c.B0 ≤ b ∧ b < w.heap.size ∧ (p 6 → b ≠ X) ∧ (p 7 → b ≠ Y)) c.vs A
  f3 : p 3 → a.tmps.getD c.d3 undef = c.v3
  f4 : p 4 → a.tmps.getD c.d4 undef = c.v4
  f6 : p 5 → a.tmps.getD c.d6 undef = .agg cs
  f7 : p 6 → a.tmps.getD c.sX undef = .pointer (some ⟨X, 0, none⟩)
  g7 : p 6 → c.B0 ≤ X ∧ X < w.heap.size
  z7 : p 6 → ¬ p 8 → w.heap[X]? = some (.cells zBase 122)
  x7 : p 8 → w.heap[X]? = some (.cells (c.lay A k) 122)
  f8 : p 7 → a.tmps.getD c.sY undef = .pointer (some ⟨Y, 0, none⟩)
  g8 : p 7 → c.B0 ≤ Y ∧ Y < w.heap.size
  z8 : p 7 → ¬ p 9 → w.heap[Y]? = some (.cells c.zY c.TY)
  x8 : p 9 → w.heap[Y]? = some (.cells cs c.TY)
  xy : p 6 → p 7 → X ≠ Y
  d9 : p 8 → p 2 ∧ p 6
  d10 : p 9 → p 5 ∧ p 7
theorem MkL.s0 {c : MkC} {X Y : Nat} {A : Option Addr} {k : Nat} {cs : Array Value} {p : Nat → Prop} {a : Act} {w : World} (hS : MkS c) (h : MkL c X Y A k cs p a w) (hp : ¬ p 0)  {w' : World} {v : Value} (hg : w.grownBy w' none) (hb : Below c.B0 c.W0 w') (hB : c.B0 ≤ w.heap.size) (hn : v = c.v0) :
    MkL c (X) (Y) A k cs (fun j => j = 0 ∨ p j) (a.put (some c.d0) v) w' := by
  have sz := h.agree.size
  have ps : (a.put (some c.d0) v).tmps.getD c.d0 undef = v := getD_put_same (by rw [sz]; exact (hS.mem _ (by simp)).2) v
  have hsz := hg.size
  have blk : ∀ b, b < w.heap.size → some b ≠ none → w'.heap[b]? = w.heap[b]? := fun b hb hne => hg.block b hb hne
  exact {
    agree := h.agree.put (hS.mem _ (by simp)).1 v
    bel := hb
    f0 := fun _ => by rw [ps]; exact hn
    f1 := fun hj => (getD_put_ne (hS.ne_d0_d1) v).trans (h.f1 (hj.resolve_left (by decide)))
    f2 := fun hj => (getD_put_ne (hS.ne_d0_d2) v).trans (h.f2 (hj.resolve_left (by decide)))
    f3 := fun hj => (getD_put_ne (hS.ne_d0_d3) v).trans (h.f3 (hj.resolve_left (by decide)))
    f4 := fun hj => (getD_put_ne (hS.ne_d0_d4) v).trans (h.f4 (hj.resolve_left (by decide)))
    f6 := fun hj => (getD_put_ne (hS.ne_d0_d6) v).trans (h.f6 (hj.resolve_left (by decide)))
    f7 := fun hj => (getD_put_ne (hS.ne_d0_sX) v).trans (h.f7 (hj.resolve_left (by decide)))
    f8 := fun hj => (getD_put_ne (hS.ne_d0_sY) v).trans (h.f8 (hj.resolve_left (by decide)))
    g2 := fun hj => (h.g2 (hj.resolve_left (by decide))).keep (fun b o hs => World.cell?_of_block (a := ⟨b, o, none⟩) (blk b hs.2.1 (by simp))) (fun b hs => ⟨hs.1, Nat.lt_of_lt_of_le hs.2.1 hsz, fun h7 => hs.2.2.1 (h7.resolve_left (by decide)), fun h8 => hs.2.2.2 (h8.resolve_left (by decide))⟩)
    g7 := fun hj => ⟨(h.g7 (hj.resolve_left (by decide))).1, Nat.lt_of_lt_of_le (h.g7 (hj.resolve_left (by decide))).2 hsz⟩
    g8 := fun hj => ⟨(h.g8 (hj.resolve_left (by decide))).1, Nat.lt_of_lt_of_le (h.g8 (hj.resolve_left (by decide))).2 hsz⟩
    z7 := fun hj hk => (blk X (h.g7 (hj.resolve_left (by decide))).2 (by simp)).trans (h.z7 (hj.resolve_left (by decide)) (fun h9 => hk (Or.inr h9)))
    x7 := fun hj => (blk X (h.g7 (h.d9 (hj.resolve_left (by decide))).2).2 (by simp)).trans (h.x7 (hj.resolve_left (by decide)))
    z8 := fun hj hk => (blk Y (h.g8 (hj.resolve_left (by decide))).2 (by simp)).trans (h.z8 (hj.resolve_left (by decide)) (fun h9 => hk (Or.inr h9)))
    x8 := fun hj => (blk Y (h.g8 (h.d10 (hj.resolve_left (by decide))).2).2 (by simp)).trans (h.x8 (hj.resolve_left (by decide)))
    xy := fun h7 h8 => h.xy (h7.resolve_left (by decide)) (h8.resolve_left (by decide))
    d9 := fun hj => ⟨Or.inr (h.d9 (hj.resolve_left (by decide))).1, Or.inr (h.d9 (hj.resolve_left (by decide))).2⟩
    d10 := fun hj => ⟨Or.inr (h.d10 (hj.resolve_left (by decide))).1, Or.inr (h.d10 (hj.resolve_left (by decide))).2⟩ }
theorem MkL.s1 {c : MkC} {X Y : Nat} {A : Option Addr} {k : Nat} {cs : Array Value} {p : Nat → Prop} {a : Act} {w : World} (hS : MkS c) (h : MkL c X Y A k cs p a w) (hp : ¬ p 1)  {w' : World} {v : Value} (hg : w.grownBy w' none) (hb : Below c.B0 c.W0 w') (hB : c.B0 ≤ w.heap.size) (hn : v = c.v1) :
    MkL c (X) (Y) A k cs (fun j => j = 1 ∨ p j) (a.put (some c.d1) v) w' := by
  have sz := h.agree.size
  have ps : (a.put (some c.d1) v).tmps.getD c.d1 undef = v := getD_put_same (by rw [sz]; exact (hS.mem _ (by simp)).2) v
  have hsz := hg.size
  have blk : ∀ b, b < w.heap.size → some b ≠ none → w'.heap[b]? = w.heap[b]? := fun b hb hne => hg.block b hb hne
  exact {
    agree := h.agree.put (hS.mem _ (by simp)).1 v
    bel := hb
    f0 := fun hj => (getD_put_ne (Ne.symm hS.ne_d0_d1) v).trans (h.f0 (hj.resolve_left (by decide)))
    f1 := fun _ => by rw [ps]; exact hn
    f2 := fun hj => (getD_put_ne (hS.ne_d1_d2) v).trans (h.f2 (hj.resolve_left (by decide)))
    f3 := fun hj => (getD_put_ne (hS.ne_d1_d3) v).trans (h.f3 (hj.resolve_left (by decide)))
    f4 := fun hj => (getD_put_ne (hS.ne_d1_d4) v).trans (h.f4 (hj.resolve_left (by decide)))
    f6 := fun hj => (getD_put_ne (hS.ne_d1_d6) v).trans (h.f6 (hj.resolve_left (by decide)))
    f7 := fun hj => (getD_put_ne (hS.ne_d1_sX) v).trans (h.f7 (hj.resolve_left (by decide)))
    f8 := fun hj => (getD_put_ne (hS.ne_d1_sY) v).trans (h.f8 (hj.resolve_left (by decide)))
    g2 := fun hj => (h.g2 (hj.resolve_left (by decide))).keep (fun b o hs => World.cell?_of_block (a := ⟨b, o, none⟩) (blk b hs.2.1 (by simp))) (fun b hs => ⟨hs.1, Nat.lt_of_lt_of_le hs.2.1 hsz, fun h7 => hs.2.2.1 (h7.resolve_left (by decide)), fun h8 => hs.2.2.2 (h8.resolve_left (by decide))⟩)
    g7 := fun hj => ⟨(h.g7 (hj.resolve_left (by decide))).1, Nat.lt_of_lt_of_le (h.g7 (hj.resolve_left (by decide))).2 hsz⟩
    g8 := fun hj => ⟨(h.g8 (hj.resolve_left (by decide))).1, Nat.lt_of_lt_of_le (h.g8 (hj.resolve_left (by decide))).2 hsz⟩
    z7 := fun hj hk => (blk X (h.g7 (hj.resolve_left (by decide))).2 (by simp)).trans (h.z7 (hj.resolve_left (by decide)) (fun h9 => hk (Or.inr h9)))
    x7 := fun hj => (blk X (h.g7 (h.d9 (hj.resolve_left (by decide))).2).2 (by simp)).trans (h.x7 (hj.resolve_left (by decide)))
    z8 := fun hj hk => (blk Y (h.g8 (hj.resolve_left (by decide))).2 (by simp)).trans (h.z8 (hj.resolve_left (by decide)) (fun h9 => hk (Or.inr h9)))
    x8 := fun hj => (blk Y (h.g8 (h.d10 (hj.resolve_left (by decide))).2).2 (by simp)).trans (h.x8 (hj.resolve_left (by decide)))
    xy := fun h7 h8 => h.xy (h7.resolve_left (by decide)) (h8.resolve_left (by decide))
    d9 := fun hj => ⟨Or.inr (h.d9 (hj.resolve_left (by decide))).1, Or.inr (h.d9 (hj.resolve_left (by decide))).2⟩
    d10 := fun hj => ⟨Or.inr (h.d10 (hj.resolve_left (by decide))).1, Or.inr (h.d10 (hj.resolve_left (by decide))).2⟩ }
theorem MkL.s2 {c : MkC} {X Y : Nat} {A : Option Addr} {k : Nat} {cs : Array Value} {p : Nat → Prop} {a : Act} {w : World} (hS : MkS c) (h : MkL c X Y A k cs p a w) (hp : ¬ p 2) {A' : Option Addr} {k' : Nat} {w' : World} {v : Value} (hg : w.grownBy w' none) (hb : Below c.B0 c.W0 w') (hB : c.B0 ≤ w.heap.size) (hn : v = .agg (c.lay A' k')) (hv : ValsIn w' (fresh w w') c.vs A') :
    MkL c (X) (Y) A' k' cs (fun j => j = 2 ∨ p j) (a.put (some c.d2) v) w' := by
  have sz := h.agree.size
  have ps : (a.put (some c.d2) v).tmps.getD c.d2 undef = v := getD_put_same (by rw [sz]; exact (hS.mem _ (by simp)).2) v
  have hsz := hg.size
  have blk : ∀ b, b < w.heap.size → some b ≠ none → w'.heap[b]? = w.heap[b]? := fun b hb hne => hg.block b hb hne
  exact {
    agree := h.agree.put (hS.mem _ (by simp)).1 v
    bel := hb
    f0 := fun hj => (getD_put_ne (Ne.symm hS.ne_d0_d2) v).trans (h.f0 (hj.resolve_left (by decide)))
    f1 := fun hj => (getD_put_ne (Ne.symm hS.ne_d1_d2) v).trans (h.f1 (hj.resolve_left (by decide)))
    f2 := fun _ => by rw [ps]; exact hn
    f3 := fun hj => (getD_put_ne (hS.ne_d2_d3) v).trans (h.f3 (hj.resolve_left (by decide)))
    f4 := fun hj => (getD_put_ne (hS.ne_d2_d4) v).trans (h.f4 (hj.resolve_left (by decide)))
    f6 := fun hj => (getD_put_ne (hS.ne_d2_d6) v).trans (h.f6 (hj.resolve_left (by decide)))
    f7 := fun hj => (getD_put_ne (hS.ne_d2_sX) v).trans (h.f7 (hj.resolve_left (by decide)))
    f8 := fun hj => (getD_put_ne (hS.ne_d2_sY) v).trans (h.f8 (hj.resolve_left (by decide)))
    g2 := fun _ => hv.keep (fun _ _ _ => rfl) (fun b hs => ⟨Nat.le_trans hB hs.1, hs.2, fun h7 e => by have := (h.g7 (h7.resolve_left (by decide))).2; have := hs.1; omega, fun h8 e => by have := (h.g8 (h8.resolve_left (by decide))).2; have := hs.1; omega⟩)
    g7 := fun hj => ⟨(h.g7 (hj.resolve_left (by decide))).1, Nat.lt_of_lt_of_le (h.g7 (hj.resolve_left (by decide))).2 hsz⟩
    g8 := fun hj => ⟨(h.g8 (hj.resolve_left (by decide))).1, Nat.lt_of_lt_of_le (h.g8 (hj.resolve_left (by decide))).2 hsz⟩
    z7 := fun hj hk => (blk X (h.g7 (hj.resolve_left (by decide))).2 (by simp)).trans (h.z7 (hj.resolve_left (by decide)) (fun h9 => hk (Or.inr h9)))
    x7 := fun hj => absurd (h.d9 (hj.resolve_left (by decide))).1 hp
    z8 := fun hj hk => (blk Y (h.g8 (hj.resolve_left (by decide))).2 (by simp)).trans (h.z8 (hj.resolve_left (by decide)) (fun h9 => hk (Or.inr h9)))
    x8 := fun hj => (blk Y (h.g8 (h.d10 (hj.resolve_left (by decide))).2).2 (by simp)).trans (h.x8 (hj.resolve_left (by decide)))
    xy := fun h7 h8 => h.xy (h7.resolve_left (by decide)) (h8.resolve_left (by decide))
    d9 := fun hj => ⟨Or.inr (h.d9 (hj.resolve_left (by decide))).1, Or.inr (h.d9 (hj.resolve_left (by decide))).2⟩
    d10 := fun hj => ⟨Or.inr (h.d10 (hj.resolve_left (by decide))).1, Or.inr (h.d10 (hj.resolve_left (by decide))).2⟩ }
theorem MkL.s3 {c : MkC} {X Y : Nat} {A : Option Addr} {k : Nat} {cs : Array Value} {p : Nat → Prop} {a : Act} {w : World} (hS : MkS c) (h : MkL c X Y A k cs p a w) (hp : ¬ p 3)  {w' : World} {v : Value} (hg : w.grownBy w' none) (hb : Below c.B0 c.W0 w') (hB : c.B0 ≤ w.heap.size) (hn : v = c.v3) :
    MkL c (X) (Y) A k cs (fun j => j = 3 ∨ p j) (a.put (some c.d3) v) w' := by
  have sz := h.agree.size
  have ps : (a.put (some c.d3) v).tmps.getD c.d3 undef = v := getD_put_same (by rw [sz]; exact (hS.mem _ (by simp)).2) v
  have hsz := hg.size
  have blk : ∀ b, b < w.heap.size → some b ≠ none → w'.heap[b]? = w.heap[b]? := fun b hb hne => hg.block b hb hne
  exact {
    agree := h.agree.put (hS.mem _ (by simp)).1 v
    bel := hb
    f0 := fun hj => (getD_put_ne (Ne.symm hS.ne_d0_d3) v).trans (h.f0 (hj.resolve_left (by decide)))
    f1 := fun hj => (getD_put_ne (Ne.symm hS.ne_d1_d3) v).trans (h.f1 (hj.resolve_left (by decide)))
    f2 := fun hj => (getD_put_ne (Ne.symm hS.ne_d2_d3) v).trans (h.f2 (hj.resolve_left (by decide)))
    f3 := fun _ => by rw [ps]; exact hn
    f4 := fun hj => (getD_put_ne (hS.ne_d3_d4) v).trans (h.f4 (hj.resolve_left (by decide)))
    f6 := fun hj => (getD_put_ne (hS.ne_d3_d6) v).trans (h.f6 (hj.resolve_left (by decide)))
    f7 := fun hj => (getD_put_ne (hS.ne_d3_sX) v).trans (h.f7 (hj.resolve_left (by decide)))
    f8 := fun hj => (getD_put_ne (hS.ne_d3_sY) v).trans (h.f8 (hj.resolve_left (by decide)))
    g2 := fun hj => (h.g2 (hj.resolve_left (by decide))).keep (fun b o hs => World.cell?_of_block (a := ⟨b, o, none⟩) (blk b hs.2.1 (by simp))) (fun b hs => ⟨hs.1, Nat.lt_of_lt_of_le hs.2.1 hsz, fun h7 => hs.2.2.1 (h7.resolve_left (by decide)), fun h8 => hs.2.2.2 (h8.resolve_left (by decide))⟩)
    g7 := fun hj => ⟨(h.g7 (hj.resolve_left (by decide))).1, Nat.lt_of_lt_of_le (h.g7 (hj.resolve_left (by decide))).2 hsz⟩
    g8 := fun hj => ⟨(h.g8 (hj.resolve_left (by decide))).1, Nat.lt_of_lt_of_le (h.g8 (hj.resolve_left (by decide))).2 hsz⟩
    z7 := fun hj hk => (blk X (h.g7 (hj.resolve_left (by decide))).2 (by simp)).trans (h.z7 (hj.resolve_left (by decide)) (fun h9 => hk (Or.inr h9)))
    x7 := fun hj => (blk X (h.g7 (h.d9 (hj.resolve_left (by decide))).2).2 (by simp)).trans (h.x7 (hj.resolve_left (by decide)))
    z8 := fun hj hk => (blk Y (h.g8 (hj.resolve_left (by decide))).2 (by simp)).trans (h.z8 (hj.resolve_left (by decide)) (fun h9 => hk (Or.inr h9)))
    x8 := fun hj => (blk Y (h.g8 (h.d10 (hj.resolve_left (by decide))).2).2 (by simp)).trans (h.x8 (hj.resolve_left (by decide)))
    xy := fun h7 h8 => h.xy (h7.resolve_left (by decide)) (h8.resolve_left (by decide))
    d9 := fun hj => ⟨Or.inr (h.d9 (hj.resolve_left (by decide))).1, Or.inr (h.d9 (hj.resolve_left (by decide))).2⟩
    d10 := fun hj => ⟨Or.inr (h.d10 (hj.resolve_left (by decide))).1, Or.inr (h.d10 (hj.resolve_left (by decide))).2⟩ }
theorem MkL.s4 {c : MkC} {X Y : Nat} {A : Option Addr} {k : Nat} {cs : Array Value} {p : Nat → Prop} {a : Act} {w : World} (hS : MkS c) (h : MkL c X Y A k cs p a w) (hp : ¬ p 4)  {w' : World} {v : Value} (hg : w.grownBy w' none) (hb : Below c.B0 c.W0 w') (hB : c.B0 ≤ w.heap.size) (hn : v = c.v4) :
    MkL c (X) (Y) A k cs (fun j => j = 4 ∨ p j) (a.put (some c.d4) v) w' := by
  have sz := h.agree.size
  have ps : (a.put (some c.d4) v).tmps.getD c.d4 undef = v := getD_put_same (by rw [sz]; exact (hS.mem _ (by simp)).2) v
  have hsz := hg.size
  have blk : ∀ b, b < w.heap.size → some b ≠ none → w'.heap[b]? = w.heap[b]? := fun b hb hne => hg.block b hb hne
  exact {
    agree := h.agree.put (hS.mem _ (by simp)).1 v
    bel := hb
    f0 := fun hj => (getD_put_ne (Ne.symm hS.ne_d0_d4) v).trans (h.f0 (hj.resolve_left (by decide)))
    f1 := fun hj => (getD_put_ne (Ne.symm hS.ne_d1_d4) v).trans (h.f1 (hj.resolve_left (by decide)))
    f2 := fun hj => (getD_put_ne (Ne.symm hS.ne_d2_d4) v).trans (h.f2 (hj.resolve_left (by decide)))
    f3 := fun hj => (getD_put_ne (Ne.symm hS.ne_d3_d4) v).trans (h.f3 (hj.resolve_left (by decide)))
    f4 := fun _ => by rw [ps]; exact hn
    f6 := fun hj => (getD_put_ne (hS.ne_d4_d6) v).trans (h.f6 (hj.resolve_left (by decide)))
    f7 := fun hj => (getD_put_ne (hS.ne_d4_sX) v).trans (h.f7 (hj.resolve_left (by decide)))
    f8 := fun hj => (getD_put_ne (hS.ne_d4_sY) v).trans (h.f8 (hj.resolve_left (by decide)))
    g2 := fun hj => (h.g2 (hj.resolve_left (by decide))).keep (fun b o hs => World.cell?_of_block (a := ⟨b, o, none⟩) (blk b hs.2.1 (by simp))) (fun b hs => ⟨hs.1, Nat.lt_of_lt_of_le hs.2.1 hsz, fun h7 => hs.2.2.1 (h7.resolve_left (by decide)), fun h8 => hs.2.2.2 (h8.resolve_left (by decide))⟩)
    g7 := fun hj => ⟨(h.g7 (hj.resolve_left (by decide))).1, Nat.lt_of_lt_of_le (h.g7 (hj.resolve_left (by decide))).2 hsz⟩
    g8 := fun hj => ⟨(h.g8 (hj.resolve_left (by decide))).1, Nat.lt_of_lt_of_le (h.g8 (hj.resolve_left (by decide))).2 hsz⟩
    z7 := fun hj hk => (blk X (h.g7 (hj.resolve_left (by decide))).2 (by simp)).trans (h.z7 (hj.resolve_left (by decide)) (fun h9 => hk (Or.inr h9)))
    x7 := fun hj => (blk X (h.g7 (h.d9 (hj.resolve_left (by decide))).2).2 (by simp)).trans (h.x7 (hj.resolve_left (by decide)))
    z8 := fun hj hk => (blk Y (h.g8 (hj.resolve_left (by decide))).2 (by simp)).trans (h.z8 (hj.resolve_left (by decide)) (fun h9 => hk (Or.inr h9)))
    x8 := fun hj => (blk Y (h.g8 (h.d10 (hj.resolve_left (by decide))).2).2 (by simp)).trans (h.x8 (hj.resolve_left (by decide)))
    xy := fun h7 h8 => h.xy (h7.resolve_left (by decide)) (h8.resolve_left (by decide))
    d9 := fun hj => ⟨Or.inr (h.d9 (hj.resolve_left (by decide))).1, Or.inr (h.d9 (hj.resolve_left (by decide))).2⟩
    d10 := fun hj => ⟨Or.inr (h.d10 (hj.resolve_left (by decide))).1, Or.inr (h.d10 (hj.resolve_left (by decide))).2⟩ }
theorem MkL.s5 {c : MkC} {X Y : Nat} {A : Option Addr} {k : Nat} {cs : Array Value} {p : Nat → Prop} {a : Act} {w : World} (hS : MkS c) (h : MkL c X Y A k cs p a w) (hp : ¬ p 5)  {w' : World} {v : Value} (hg : w.grownBy w' none) (hb : Below c.B0 c.W0 w') (hB : c.B0 ≤ w.heap.size) (hn : v = .agg cs) :
    MkL c (X) (Y) A k cs (fun j => j = 5 ∨ p j) (a.put (some c.d6) v) w' := by
  have sz := h.agree.size
  have ps : (a.put (some c.d6) v).tmps.getD c.d6 undef = v := getD_put_same (by rw [sz]; exact (hS.mem _ (by simp)).2) v
  have hsz := hg.size
  have blk : ∀ b, b < w.heap.size → some b ≠ none → w'.heap[b]? = w.heap[b]? := fun b hb hne => hg.block b hb hne
  exact {
    agree := h.agree.put (hS.mem _ (by simp)).1 v
    bel := hb
    f0 := fun hj => (getD_put_ne (Ne.symm hS.ne_d0_d6) v).trans (h.f0 (hj.resolve_left (by decide)))
    f1 := fun hj => (getD_put_ne (Ne.symm hS.ne_d1_d6) v).trans (h.f1 (hj.resolve_left (by decide)))
    f2 := fun hj => (getD_put_ne (Ne.symm hS.ne_d2_d6) v).trans (h.f2 (hj.resolve_left (by decide)))
    f3 := fun hj => (getD_put_ne (Ne.symm hS.ne_d3_d6) v).trans (h.f3 (hj.resolve_left (by decide)))
    f4 := fun hj => (getD_put_ne (Ne.symm hS.ne_d4_d6) v).trans (h.f4 (hj.resolve_left (by decide)))
    f6 := fun _ => by rw [ps]; exact hn
    f7 := fun hj => (getD_put_ne (hS.ne_d6_sX) v).trans (h.f7 (hj.resolve_left (by decide)))
    f8 := fun hj => (getD_put_ne (hS.ne_d6_sY) v).trans (h.f8 (hj.resolve_left (by decide)))
    g2 := fun hj => (h.g2 (hj.resolve_left (by decide))).keep (fun b o hs => World.cell?_of_block (a := ⟨b, o, none⟩) (blk b hs.2.1 (by simp))) (fun b hs => ⟨hs.1, Nat.lt_of_lt_of_le hs.2.1 hsz, fun h7 => hs.2.2.1 (h7.resolve_left (by decide)), fun h8 => hs.2.2.2 (h8.resolve_left (by decide))⟩)
    g7 := fun hj => ⟨(h.g7 (hj.resolve_left (by decide))).1, Nat.lt_of_lt_of_le (h.g7 (hj.resolve_left (by decide))).2 hsz⟩
    g8 := fun hj => ⟨(h.g8 (hj.resolve_left (by decide))).1, Nat.lt_of_lt_of_le (h.g8 (hj.resolve_left (by decide))).2 hsz⟩
    z7 := fun hj hk => (blk X (h.g7 (hj.resolve_left (by decide))).2 (by simp)).trans (h.z7 (hj.resolve_left (by decide)) (fun h9 => hk (Or.inr h9)))
    x7 := fun hj => (blk X (h.g7 (h.d9 (hj.resolve_left (by decide))).2).2 (by simp)).trans (h.x7 (hj.resolve_left (by decide)))
    z8 := fun hj hk => (blk Y (h.g8 (hj.resolve_left (by decide))).2 (by simp)).trans (h.z8 (hj.resolve_left (by decide)) (fun h9 => hk (Or.inr h9)))
    x8 := fun hj => (blk Y (h.g8 (h.d10 (hj.resolve_left (by decide))).2).2 (by simp)).trans (h.x8 (hj.resolve_left (by decide)))
    xy := fun h7 h8 => h.xy (h7.resolve_left (by decide)) (h8.resolve_left (by decide))
    d9 := fun hj => ⟨Or.inr (h.d9 (hj.resolve_left (by decide))).1, Or.inr (h.d9 (hj.resolve_left (by decide))).2⟩
    d10 := fun hj => ⟨Or.inr (h.d10 (hj.resolve_left (by decide))).1, Or.inr (h.d10 (hj.resolve_left (by decide))).2⟩ }
theorem MkL.s6 {c : MkC} {X Y : Nat} {A : Option Addr} {k : Nat} {cs : Array Value} {p : Nat → Prop} {a : Act} {w : World} (hS : MkS c) (h : MkL c X Y A k cs p a w) (hp : ¬ p 6)  {w' : World} {v : Value} (hg : w.grownBy w' none) (hb : Below c.B0 c.W0 w') (hB : c.B0 ≤ w.heap.size) (hn : v = .pointer (some ⟨w.heap.size, 0, none⟩)) (hx : w'.heap[w.heap.size]? = some (.cells zBase 122)) :
    MkL c (w.heap.size) (Y) A k cs (fun j => j = 6 ∨ p j) (a.put (some c.sX) v) w' := by
  have sz := h.agree.size
  have ps : (a.put (some c.sX) v).tmps.getD c.sX undef = v := getD_put_same (by rw [sz]; exact (hS.mem _ (by simp)).2) v
  have hsz := hg.size
  have blk : ∀ b, b < w.heap.size → some b ≠ none → w'.heap[b]? = w.heap[b]? := fun b hb hne => hg.block b hb hne
  exact {
    agree := h.agree.put (hS.mem _ (by simp)).1 v
    bel := hb
    f0 := fun hj => (getD_put_ne (Ne.symm hS.ne_d0_sX) v).trans (h.f0 (hj.resolve_left (by decide)))
    f1 := fun hj => (getD_put_ne (Ne.symm hS.ne_d1_sX) v).trans (h.f1 (hj.resolve_left (by decide)))
    f2 := fun hj => (getD_put_ne (Ne.symm hS.ne_d2_sX) v).trans (h.f2 (hj.resolve_left (by decide)))
    f3 := fun hj => (getD_put_ne (Ne.symm hS.ne_d3_sX) v).trans (h.f3 (hj.resolve_left (by decide)))
    f4 := fun hj => (getD_put_ne (Ne.symm hS.ne_d4_sX) v).trans (h.f4 (hj.resolve_left (by decide)))
    f6 := fun hj => (getD_put_ne (Ne.symm hS.ne_d6_sX) v).trans (h.f6 (hj.resolve_left (by decide)))
    f7 := fun _ => by rw [ps]; exact hn
    f8 := fun hj => (getD_put_ne (hS.ne_sX_sY) v).trans (h.f8 (hj.resolve_left (by decide)))
    g2 := fun hj => (h.g2 (hj.resolve_left (by decide))).keep (fun b o hs => World.cell?_of_block (a := ⟨b, o, none⟩) (blk b hs.2.1 (by simp))) (fun b hs => ⟨hs.1, Nat.lt_of_lt_of_le hs.2.1 hsz, fun h7 => (by have := hs.2.1; intro e; omega), fun h8 => hs.2.2.2 (h8.resolve_left (by decide))⟩)
    g7 := fun _ => ⟨hB, by have := lt_of_block hx; exact this⟩
    g8 := fun hj => ⟨(h.g8 (hj.resolve_left (by decide))).1, Nat.lt_of_lt_of_le (h.g8 (hj.resolve_left (by decide))).2 hsz⟩
    z7 := fun _ _ => hx
    x7 := fun hj => absurd (h.d9 (hj.resolve_left (by decide))).2 hp
    z8 := fun hj hk => (blk Y (h.g8 (hj.resolve_left (by decide))).2 (by simp)).trans (h.z8 (hj.resolve_left (by decide)) (fun h9 => hk (Or.inr h9)))
    x8 := fun hj => (blk Y (h.g8 (h.d10 (hj.resolve_left (by decide))).2).2 (by simp)).trans (h.x8 (hj.resolve_left (by decide)))
    xy := fun _ h8 e => by have := (h.g8 (h8.resolve_left (by decide))).2; omega
    d9 := fun hj => ⟨Or.inr (h.d9 (hj.resolve_left (by decide))).1, Or.inr (h.d9 (hj.resolve_left (by decide))).2⟩
    d10 := fun hj => ⟨Or.inr (h.d10 (hj.resolve_left (by decide))).1, Or.inr (h.d10 (hj.resolve_left (by decide))).2⟩ }
theorem MkL.s7 {c : MkC} {X Y : Nat} {A : Option Addr} {k : Nat} {cs : Array Value} {p : Nat → Prop} {a : Act} {w : World} (hS : MkS c) (h : MkL c X Y A k cs p a w) (hp : ¬ p 7)  {w' : World} {v : Value} (hg : w.grownBy w' none) (hb : Below c.B0 c.W0 w') (hB : c.B0 ≤ w.heap.size) (hn : v = .pointer (some ⟨w.heap.size, 0, none⟩)) (hx : w'.heap[w.heap.size]? = some (.cells c.zY c.TY)) :
    MkL c (X) (w.heap.size) A k cs (fun j => j = 7 ∨ p j) (a.put (some c.sY) v) w' := by
  have sz := h.agree.size
  have ps : (a.put (some c.sY) v).tmps.getD c.sY undef = v := getD_put_same (by rw [sz]; exact (hS.mem _ (by simp)).2) v
  have hsz := hg.size
  have blk : ∀ b, b < w.heap.size → some b ≠ none → w'.heap[b]? = w.heap[b]? := fun b hb hne => hg.block b hb hne
  exact {
    agree := h.agree.put (hS.mem _ (by simp)).1 v
    bel := hb
    f0 := fun hj => (getD_put_ne (Ne.symm hS.ne_d0_sY) v).trans (h.f0 (hj.resolve_left (by decide)))
    f1 := fun hj => (getD_put_ne (Ne.symm hS.ne_d1_sY) v).trans (h.f1 (hj.resolve_left (by decide)))
    f2 := fun hj => (getD_put_ne (Ne.symm hS.ne_d2_sY) v).trans (h.f2 (hj.resolve_left (by decide)))
    f3 := fun hj => (getD_put_ne (Ne.symm hS.ne_d3_sY) v).trans (h.f3 (hj.resolve_left (by decide)))
    f4 := fun hj => (getD_put_ne (Ne.symm hS.ne_d4_sY) v).trans (h.f4 (hj.resolve_left (by decide)))
    f6 := fun hj => (getD_put_ne (Ne.symm hS.ne_d6_sY) v).trans (h.f6 (hj.resolve_left (by decide)))
    f7 := fun hj => (getD_put_ne (Ne.symm hS.ne_sX_sY) v).trans (h.f7 (hj.resolve_left (by decide)))
    f8 := fun _ => by rw [ps]; exact hn
    g2 := fun hj => (h.g2 (hj.resolve_left (by decide))).keep (fun b o hs => World.cell?_of_block (a := ⟨b, o, none⟩) (blk b hs.2.1 (by simp))) (fun b hs => ⟨hs.1, Nat.lt_of_lt_of_le hs.2.1 hsz, fun h7 => hs.2.2.1 (h7.resolve_left (by decide)), fun h8 => (by have := hs.2.1; intro e; omega)⟩)
    g7 := fun hj => ⟨(h.g7 (hj.resolve_left (by decide))).1, Nat.lt_of_lt_of_le (h.g7 (hj.resolve_left (by decide))).2 hsz⟩
    g8 := fun _ => ⟨hB, by have := lt_of_block hx; exact this⟩
    z7 := fun hj hk => (blk X (h.g7 (hj.resolve_left (by decide))).2 (by simp)).trans (h.z7 (hj.resolve_left (by decide)) (fun h9 => hk (Or.inr h9)))
    x7 := fun hj => (blk X (h.g7 (h.d9 (hj.resolve_left (by decide))).2).2 (by simp)).trans (h.x7 (hj.resolve_left (by decide)))
    z8 := fun _ _ => hx
    x8 := fun hj => absurd (h.d10 (hj.resolve_left (by decide))).2 hp
    xy := fun h7 _ e => by have := (h.g7 (h7.resolve_left (by decide))).2; omega
    d9 := fun hj => ⟨Or.inr (h.d9 (hj.resolve_left (by decide))).1, Or.inr (h.d9 (hj.resolve_left (by decide))).2⟩
    d10 := fun hj => ⟨Or.inr (h.d10 (hj.resolve_left (by decide))).1, Or.inr (h.d10 (hj.resolve_left (by decide))).2⟩ }
theorem MkL.s8 {c : MkC} {X Y : Nat} {A : Option Addr} {k : Nat} {cs : Array Value} {p : Nat → Prop} {a : Act} {w : World} (hS : MkS c) (h : MkL c X Y A k cs p a w) (hp : ¬ p 8)  {w' : World} (hg : w.grownBy w' (some X)) (hb : Below c.B0 c.W0 w') (hB : c.B0 ≤ w.heap.size) (h2 : p 2) (h7 : p 6) (hx : w'.heap[X]? = some (.cells (c.lay A k) 122)) :
    MkL c (X) (Y) A k cs (fun j => j = 8 ∨ p j) (a) w' := by
  have hsz := hg.size
  have blk : ∀ b, b < w.heap.size → some b ≠ (some X) → w'.heap[b]? = w.heap[b]? := fun b hb hne => hg.block b hb hne
  exact {
    agree := h.agree
    bel := hb
    f0 := fun hj => h.f0 (hj.resolve_left (by decide))
    f1 := fun hj => h.f1 (hj.resolve_left (by decide))
    f2 := fun hj => h.f2 (hj.resolve_left (by decide))
    f3 := fun hj => h.f3 (hj.resolve_left (by decide))
    f4 := fun hj => h.f4 (hj.resolve_left (by decide))
    f6 := fun hj => h.f6 (hj.resolve_left (by decide))
    f7 := fun hj => h.f7 (hj.resolve_left (by decide))
    f8 := fun hj => h.f8 (hj.resolve_left (by decide))
    g2 := fun hj => (h.g2 (hj.resolve_left (by decide))).keep (fun b o hs => World.cell?_of_block (a := ⟨b, o, none⟩) (blk b hs.2.1 (fun e => hs.2.2.1 h7 (by injection e)))) (fun b hs => ⟨hs.1, Nat.lt_of_lt_of_le hs.2.1 hsz, fun h7 => hs.2.2.1 (h7.resolve_left (by decide)), fun h8 => hs.2.2.2 (h8.resolve_left (by decide))⟩)
    g7 := fun hj => ⟨(h.g7 (hj.resolve_left (by decide))).1, Nat.lt_of_lt_of_le (h.g7 (hj.resolve_left (by decide))).2 hsz⟩
    g8 := fun hj => ⟨(h.g8 (hj.resolve_left (by decide))).1, Nat.lt_of_lt_of_le (h.g8 (hj.resolve_left (by decide))).2 hsz⟩
    z7 := fun _ hj => absurd (Or.inl rfl) hj
    x7 := fun _ => hx
    z8 := fun hj hk => (blk Y (h.g8 (hj.resolve_left (by decide))).2 (fun e => h.xy h7 (hj.resolve_left (by decide)) (by injection e with e; exact e.symm))).trans (h.z8 (hj.resolve_left (by decide)) (fun h9 => hk (Or.inr h9)))
    x8 := fun hj => (blk Y (h.g8 (h.d10 (hj.resolve_left (by decide))).2).2 (fun e => h.xy h7 (h.d10 (hj.resolve_left (by decide))).2 (by injection e with e; exact e.symm))).trans (h.x8 (hj.resolve_left (by decide)))
    xy := fun h7 h8 => h.xy (h7.resolve_left (by decide)) (h8.resolve_left (by decide))
    d9 := fun _ => ⟨Or.inr h2, Or.inr h7⟩
    d10 := fun hj => ⟨Or.inr (h.d10 (hj.resolve_left (by decide))).1, Or.inr (h.d10 (hj.resolve_left (by decide))).2⟩ }
theorem MkL.s9 {c : MkC} {X Y : Nat} {A : Option Addr} {k : Nat} {cs : Array Value} {p : Nat → Prop} {a : Act} {w : World} (hS : MkS c) (h : MkL c X Y A k cs p a w) (hp : ¬ p 9)  {w' : World} (hg : w.grownBy w' (some Y)) (hb : Below c.B0 c.W0 w') (hB : c.B0 ≤ w.heap.size) (h6 : p 5) (h8 : p 7) (hx : w'.heap[Y]? = some (.cells cs c.TY)) :
    MkL c (X) (Y) A k cs (fun j => j = 9 ∨ p j) (a) w' := by
  have hsz := hg.size
  have blk : ∀ b, b < w.heap.size → some b ≠ (some Y) → w'.heap[b]? = w.heap[b]? := fun b hb hne => hg.block b hb hne
  exact {
    agree := h.agree
    bel := hb
    f0 := fun hj => h.f0 (hj.resolve_left (by decide))
    f1 := fun hj => h.f1 (hj.resolve_left (by decide))
    f2 := fun hj => h.f2 (hj.resolve_left (by decide))
    f3 := fun hj => h.f3 (hj.resolve_left (by decide))
    f4 := fun hj => h.f4 (hj.resolve_left (by decide))
    f6 := fun hj => h.f6 (hj.resolve_left (by decide))
    f7 := fun hj => h.f7 (hj.resolve_left (by decide))
    f8 := fun hj => h.f8 (hj.resolve_left (by decide))
    g2 := fun hj => (h.g2 (hj.resolve_left (by decide))).keep (fun b o hs => World.cell?_of_block (a := ⟨b, o, none⟩) (blk b hs.2.1 (fun e => hs.2.2.2 h8 (by injection e)))) (fun b hs => ⟨hs.1, Nat.lt_of_lt_of_le hs.2.1 hsz, fun h7 => hs.2.2.1 (h7.resolve_left (by decide)), fun h8 => hs.2.2.2 (h8.resolve_left (by decide))⟩)
    g7 := fun hj => ⟨(h.g7 (hj.resolve_left (by decide))).1, Nat.lt_of_lt_of_le (h.g7 (hj.resolve_left (by decide))).2 hsz⟩
    g8 := fun hj => ⟨(h.g8 (hj.resolve_left (by decide))).1, Nat.lt_of_lt_of_le (h.g8 (hj.resolve_left (by decide))).2 hsz⟩
    z7 := fun hj hk => (blk X (h.g7 (hj.resolve_left (by decide))).2 (fun e => h.xy (hj.resolve_left (by decide)) h8 (by injection e))).trans (h.z7 (hj.resolve_left (by decide)) (fun h9 => hk (Or.inr h9)))
    x7 := fun hj => (blk X (h.g7 (h.d9 (hj.resolve_left (by decide))).2).2 (fun e => h.xy (h.d9 (hj.resolve_left (by decide))).2 h8 (by injection e))).trans (h.x7 (hj.resolve_left (by decide)))
    z8 := fun _ hj => absurd (Or.inl rfl) hj
    x8 := fun _ => hx
    xy := fun h7 h8 => h.xy (h7.resolve_left (by decide)) (h8.resolve_left (by decide))
    d9 := fun hj => ⟨Or.inr (h.d9 (hj.resolve_left (by decide))).1, Or.inr (h.d9 (hj.resolve_left (by decide))).2⟩
    d10 := fun _ => ⟨Or.inr h6, Or.inr h8⟩ }
end Go.Proofs.YtjdpnljaichdmaaGreatDoor
