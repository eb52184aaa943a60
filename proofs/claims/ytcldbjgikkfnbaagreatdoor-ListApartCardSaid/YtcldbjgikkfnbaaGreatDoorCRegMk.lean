/-
  The invariant of a region that draws its order (a maker of nodes: a base and a second part, each into a variable of its own) and its steps, one an operation. Written by a program of mine (gen_mk.py). Conditions: none.
-/
import Derived.Test.YtcldbjgikkfnbaaGreatDoorCRegInv2
import Derived.Test.YtcldbjgikkfnbaaGreatDoorCKitMade
namespace Go.Proofs.YtcldbjgikkfnbaaGreatDoor
open Go.RowKit
set_option linter.unusedVariables false

/-- Which slots, which values: of one maker. -/
structure MkC where
  B0 : Nat
  W0 : World
  a0 : Act
  D : List Nat
  d0 : Nat
  d1 : Nat
  d2 : Nat
  d3 : Nat
  d4 : Nat
  d5 : Nat
  d6 : Nat
  sX : Nat
  sY : Nat
  v0 : Value
  v1 : Value
  v3 : Value
  v4 : Value
  kind : ByteArray
  text : ByteArray
  vs : List Value
  TY : TypeId
  zY : Array Value
  ok : Array Value → Prop
def MkC.lay (c : MkC) (A : Option Addr) (k : Nat) : Array Value := #[.string c.kind, .int .i64 0, .string c.text, .slice A c.vs.length k]
def zBase : Array Value := #[.string ⟨#[]⟩, .int .i64 0, .string ⟨#[]⟩, .slice none 0 0]
structure MkJ (c : MkC) (X Y : Nat) (A : Option Addr) (k : Nat) (cs : Array Value) (p : Nat → Prop) (a : Act) (w : World) : Prop where
  agree : Agree c.D c.a0 a
  bel : Below c.B0 c.W0 w
  f0 : p 0 → a.tmps.getD c.d0 undef = c.v0
  f1 : p 1 → a.tmps.getD c.d1 undef = c.v1
  f2 : p 2 → a.tmps.getD c.d2 undef = .agg (c.lay A k)
  g2 : p 2 → ValsIn w (fun b => c.B0 ≤ b ∧ b < w.heap.size ∧ (p 7 → b ≠ X) ∧ (p 8 → b ≠ Y)) c.vs A
  f3 : p 3 → a.tmps.getD c.d3 undef = c.v3
  f4 : p 4 → a.tmps.getD c.d4 undef = c.v4
  f5 : p 5 → a.tmps.getD c.d5 undef = .agg cs
  g5 : p 5 → c.ok cs
  f6 : p 6 → a.tmps.getD c.d6 undef = .agg cs
  f7 : p 7 → a.tmps.getD c.sX undef = .pointer (some ⟨X, 0, none⟩)
  g7 : p 7 → c.B0 ≤ X ∧ X < w.heap.size
  z7 : p 7 → ¬ p 9 → w.heap[X]? = some (.cells zBase 138)
  x7 : p 9 → w.heap[X]? = some (.cells (c.lay A k) 138)
  f8 : p 8 → a.tmps.getD c.sY undef = .pointer (some ⟨Y, 0, none⟩)
  g8 : p 8 → c.B0 ≤ Y ∧ Y < w.heap.size
  z8 : p 8 → ¬ p 10 → w.heap[Y]? = some (.cells c.zY c.TY)
  x8 : p 10 → w.heap[Y]? = some (.cells cs c.TY)
  xy : p 7 → p 8 → X ≠ Y
  d6_ : p 6 → p 5
  d9 : p 9 → p 2 ∧ p 7
  d10 : p 10 → p 6 ∧ p 8
/-- The slots of a maker are different ones. -/
structure MkS (c : MkC) : Prop where
  mem : ∀ i ∈ [c.d0, c.d1, c.d2, c.d3, c.d4, c.d5, c.d6, c.sX, c.sY], i ∈ c.D ∧ i < c.a0.tmps.size
  apart : [c.d0, c.d1, c.d2, c.d3, c.d4, c.d5, c.d6, c.sX, c.sY].Nodup
theorem MkS.ne_d0_d1 {c : MkC} (h : MkS c) : c.d0 ≠ c.d1 := by have := h.apart; simp only [List.nodup_cons, List.mem_cons, List.not_mem_nil, not_or] at this; simp_all
theorem MkS.ne_d0_d2 {c : MkC} (h : MkS c) : c.d0 ≠ c.d2 := by have := h.apart; simp only [List.nodup_cons, List.mem_cons, List.not_mem_nil, not_or] at this; simp_all
theorem MkS.ne_d0_d3 {c : MkC} (h : MkS c) : c.d0 ≠ c.d3 := by have := h.apart; simp only [List.nodup_cons, List.mem_cons, List.not_mem_nil, not_or] at this; simp_all
theorem MkS.ne_d0_d4 {c : MkC} (h : MkS c) : c.d0 ≠ c.d4 := by have := h.apart; simp only [List.nodup_cons, List.mem_cons, List.not_mem_nil, not_or] at this; simp_all
theorem MkS.ne_d0_d5 {c : MkC} (h : MkS c) : c.d0 ≠ c.d5 := by have := h.apart; simp only [List.nodup_cons, List.mem_cons, List.not_mem_nil, not_or] at this; simp_all
theorem MkS.ne_d0_d6 {c : MkC} (h : MkS c) : c.d0 ≠ c.d6 := by have := h.apart; simp only [List.nodup_cons, List.mem_cons, List.not_mem_nil, not_or] at this; simp_all
theorem MkS.ne_d0_sX {c : MkC} (h : MkS c) : c.d0 ≠ c.sX := by have := h.apart; simp only [List.nodup_cons, List.mem_cons, List.not_mem_nil, not_or] at this; simp_all
theorem MkS.ne_d0_sY {c : MkC} (h : MkS c) : c.d0 ≠ c.sY := by have := h.apart; simp only [List.nodup_cons, List.mem_cons, List.not_mem_nil, not_or] at this; simp_all
theorem MkS.ne_d1_d2 {c : MkC} (h : MkS c) : c.d1 ≠ c.d2 := by have := h.apart; simp only [List.nodup_cons, List.mem_cons, List.not_mem_nil, not_or] at this; simp_all
theorem MkS.ne_d1_d3 {c : MkC} (h : MkS c) : c.d1 ≠ c.d3 := by have := h.apart; simp only [List.nodup_cons, List.mem_cons, List.not_mem_nil, not_or] at this; simp_all
theorem MkS.ne_d1_d4 {c : MkC} (h : MkS c) : c.d1 ≠ c.d4 := by have := h.apart; simp only [List.nodup_cons, List.mem_cons, List.not_mem_nil, not_or] at this; simp_all
theorem MkS.ne_d1_d5 {c : MkC} (h : MkS c) : c.d1 ≠ c.d5 := by have := h.apart; simp only [List.nodup_cons, List.mem_cons, List.not_mem_nil, not_or] at this; simp_all
theorem MkS.ne_d1_d6 {c : MkC} (h : MkS c) : c.d1 ≠ c.d6 := by have := h.apart; simp only [List.nodup_cons, List.mem_cons, List.not_mem_nil, not_or] at this; simp_all
theorem MkS.ne_d1_sX {c : MkC} (h : MkS c) : c.d1 ≠ c.sX := by have := h.apart; simp only [List.nodup_cons, List.mem_cons, List.not_mem_nil, not_or] at this; simp_all
theorem MkS.ne_d1_sY {c : MkC} (h : MkS c) : c.d1 ≠ c.sY := by have := h.apart; simp only [List.nodup_cons, List.mem_cons, List.not_mem_nil, not_or] at this; simp_all
theorem MkS.ne_d2_d3 {c : MkC} (h : MkS c) : c.d2 ≠ c.d3 := by have := h.apart; simp only [List.nodup_cons, List.mem_cons, List.not_mem_nil, not_or] at this; simp_all
theorem MkS.ne_d2_d4 {c : MkC} (h : MkS c) : c.d2 ≠ c.d4 := by have := h.apart; simp only [List.nodup_cons, List.mem_cons, List.not_mem_nil, not_or] at this; simp_all
theorem MkS.ne_d2_d5 {c : MkC} (h : MkS c) : c.d2 ≠ c.d5 := by have := h.apart; simp only [List.nodup_cons, List.mem_cons, List.not_mem_nil, not_or] at this; simp_all
theorem MkS.ne_d2_d6 {c : MkC} (h : MkS c) : c.d2 ≠ c.d6 := by have := h.apart; simp only [List.nodup_cons, List.mem_cons, List.not_mem_nil, not_or] at this; simp_all
theorem MkS.ne_d2_sX {c : MkC} (h : MkS c) : c.d2 ≠ c.sX := by have := h.apart; simp only [List.nodup_cons, List.mem_cons, List.not_mem_nil, not_or] at this; simp_all
theorem MkS.ne_d2_sY {c : MkC} (h : MkS c) : c.d2 ≠ c.sY := by have := h.apart; simp only [List.nodup_cons, List.mem_cons, List.not_mem_nil, not_or] at this; simp_all
theorem MkS.ne_d3_d4 {c : MkC} (h : MkS c) : c.d3 ≠ c.d4 := by have := h.apart; simp only [List.nodup_cons, List.mem_cons, List.not_mem_nil, not_or] at this; simp_all
theorem MkS.ne_d3_d5 {c : MkC} (h : MkS c) : c.d3 ≠ c.d5 := by have := h.apart; simp only [List.nodup_cons, List.mem_cons, List.not_mem_nil, not_or] at this; simp_all
theorem MkS.ne_d3_d6 {c : MkC} (h : MkS c) : c.d3 ≠ c.d6 := by have := h.apart; simp only [List.nodup_cons, List.mem_cons, List.not_mem_nil, not_or] at this; simp_all
theorem MkS.ne_d3_sX {c : MkC} (h : MkS c) : c.d3 ≠ c.sX := by have := h.apart; simp only [List.nodup_cons, List.mem_cons, List.not_mem_nil, not_or] at this; simp_all
theorem MkS.ne_d3_sY {c : MkC} (h : MkS c) : c.d3 ≠ c.sY := by have := h.apart; simp only [List.nodup_cons, List.mem_cons, List.not_mem_nil, not_or] at this; simp_all
theorem MkS.ne_d4_d5 {c : MkC} (h : MkS c) : c.d4 ≠ c.d5 := by have := h.apart; simp only [List.nodup_cons, List.mem_cons, List.not_mem_nil, not_or] at this; simp_all
theorem MkS.ne_d4_d6 {c : MkC} (h : MkS c) : c.d4 ≠ c.d6 := by have := h.apart; simp only [List.nodup_cons, List.mem_cons, List.not_mem_nil, not_or] at this; simp_all
theorem MkS.ne_d4_sX {c : MkC} (h : MkS c) : c.d4 ≠ c.sX := by have := h.apart; simp only [List.nodup_cons, List.mem_cons, List.not_mem_nil, not_or] at this; simp_all
theorem MkS.ne_d4_sY {c : MkC} (h : MkS c) : c.d4 ≠ c.sY := by have := h.apart; simp only [List.nodup_cons, List.mem_cons, List.not_mem_nil, not_or] at this; simp_all
theorem MkS.ne_d5_d6 {c : MkC} (h : MkS c) : c.d5 ≠ c.d6 := by have := h.apart; simp only [List.nodup_cons, List.mem_cons, List.not_mem_nil, not_or] at this; simp_all
theorem MkS.ne_d5_sX {c : MkC} (h : MkS c) : c.d5 ≠ c.sX := by have := h.apart; simp only [List.nodup_cons, List.mem_cons, List.not_mem_nil, not_or] at this; simp_all
theorem MkS.ne_d5_sY {c : MkC} (h : MkS c) : c.d5 ≠ c.sY := by have := h.apart; simp only [List.nodup_cons, List.mem_cons, List.not_mem_nil, not_or] at this; simp_all
theorem MkS.ne_d6_sX {c : MkC} (h : MkS c) : c.d6 ≠ c.sX := by have := h.apart; simp only [List.nodup_cons, List.mem_cons, List.not_mem_nil, not_or] at this; simp_all
theorem MkS.ne_d6_sY {c : MkC} (h : MkS c) : c.d6 ≠ c.sY := by have := h.apart; simp only [List.nodup_cons, List.mem_cons, List.not_mem_nil, not_or] at this; simp_all
theorem MkS.ne_sX_sY {c : MkC} (h : MkS c) : c.sX ≠ c.sY := by have := h.apart; simp only [List.nodup_cons, List.mem_cons, List.not_mem_nil, not_or] at this; simp_all
theorem MkJ.s0 {c : MkC} {X Y : Nat} {A : Option Addr} {k : Nat} {cs : Array Value} {p : Nat → Prop} {a : Act} {w : World} (hS : MkS c) (h : MkJ c X Y A k cs p a w) (hp : ¬ p 0)  {w' : World} {v : Value} (hg : w.grownBy w' none) (hb : Below c.B0 c.W0 w') (hB : c.B0 ≤ w.heap.size) (hn : v = c.v0) :
    MkJ c (X) (Y) A k cs (fun j => j = 0 ∨ p j) (a.put (some c.d0) v) w' := by
  have sz := h.agree.size
  have ps : (a.put (some c.d0) v).tmps.getD c.d0 undef = v := getD_put_same (by rw [sz]; exact (hS.mem _ (by simp)).2) v
  have hsz := hg.size
  have blk : ∀ b, b < w.heap.size → some b ≠ none → w'.heap[b]? = w.heap[b]? := fun b hb hne => hg.block b hb hne
  exact {
    agree := h.agree.put (hS.mem _ (by simp)).1 v
    bel := hb
    f0 := fun _ => by rw [ps]; exact hn
    f1 := fun hj => (getD_put_ne (hS.ne_d0_d1) v).trans (h.f1 (hj.resolve_left (by decide)))
    f2 := fun hj => (getD_put_ne (hS.ne_d0_d2) v).trans (h.f2 (hj.resolve_left (by decide)))
    f3 := fun hj => (getD_put_ne (hS.ne_d0_d3) v).trans (h.f3 (hj.resolve_left (by decide)))
    f4 := fun hj => (getD_put_ne (hS.ne_d0_d4) v).trans (h.f4 (hj.resolve_left (by decide)))
    f5 := fun hj => (getD_put_ne (hS.ne_d0_d5) v).trans (h.f5 (hj.resolve_left (by decide)))
    f6 := fun hj => (getD_put_ne (hS.ne_d0_d6) v).trans (h.f6 (hj.resolve_left (by decide)))
    f7 := fun hj => (getD_put_ne (hS.ne_d0_sX) v).trans (h.f7 (hj.resolve_left (by decide)))
    f8 := fun hj => (getD_put_ne (hS.ne_d0_sY) v).trans (h.f8 (hj.resolve_left (by decide)))
    g2 := fun hj => (h.g2 (hj.resolve_left (by decide))).keep (fun b o hs => World.cell?_of_block (a := ⟨b, o, none⟩) (blk b hs.2.1 (by simp))) (fun b hs => ⟨hs.1, Nat.lt_of_lt_of_le hs.2.1 hsz, fun h7 => hs.2.2.1 (h7.resolve_left (by decide)), fun h8 => hs.2.2.2 (h8.resolve_left (by decide))⟩)
    g5 := fun hj => h.g5 (hj.resolve_left (by decide))
    g7 := fun hj => ⟨(h.g7 (hj.resolve_left (by decide))).1, Nat.lt_of_lt_of_le (h.g7 (hj.resolve_left (by decide))).2 hsz⟩
    g8 := fun hj => ⟨(h.g8 (hj.resolve_left (by decide))).1, Nat.lt_of_lt_of_le (h.g8 (hj.resolve_left (by decide))).2 hsz⟩
    z7 := fun hj hk => (blk X (h.g7 (hj.resolve_left (by decide))).2 (by simp)).trans (h.z7 (hj.resolve_left (by decide)) (fun h9 => hk (Or.inr h9)))
    x7 := fun hj => (blk X (h.g7 (h.d9 (hj.resolve_left (by decide))).2).2 (by simp)).trans (h.x7 (hj.resolve_left (by decide)))
    z8 := fun hj hk => (blk Y (h.g8 (hj.resolve_left (by decide))).2 (by simp)).trans (h.z8 (hj.resolve_left (by decide)) (fun h9 => hk (Or.inr h9)))
    x8 := fun hj => (blk Y (h.g8 (h.d10 (hj.resolve_left (by decide))).2).2 (by simp)).trans (h.x8 (hj.resolve_left (by decide)))
    xy := fun h7 h8 => h.xy (h7.resolve_left (by decide)) (h8.resolve_left (by decide))
    d6_ := fun hj => Or.inr (h.d6_ (hj.resolve_left (by decide)))
    d9 := fun hj => ⟨Or.inr (h.d9 (hj.resolve_left (by decide))).1, Or.inr (h.d9 (hj.resolve_left (by decide))).2⟩
    d10 := fun hj => ⟨Or.inr (h.d10 (hj.resolve_left (by decide))).1, Or.inr (h.d10 (hj.resolve_left (by decide))).2⟩ }
theorem MkJ.s1 {c : MkC} {X Y : Nat} {A : Option Addr} {k : Nat} {cs : Array Value} {p : Nat → Prop} {a : Act} {w : World} (hS : MkS c) (h : MkJ c X Y A k cs p a w) (hp : ¬ p 1)  {w' : World} {v : Value} (hg : w.grownBy w' none) (hb : Below c.B0 c.W0 w') (hB : c.B0 ≤ w.heap.size) (hn : v = c.v1) :
    MkJ c (X) (Y) A k cs (fun j => j = 1 ∨ p j) (a.put (some c.d1) v) w' := by
  have sz := h.agree.size
  have ps : (a.put (some c.d1) v).tmps.getD c.d1 undef = v := getD_put_same (by rw [sz]; exact (hS.mem _ (by simp)).2) v
  have hsz := hg.size
  have blk : ∀ b, b < w.heap.size → some b ≠ none → w'.heap[b]? = w.heap[b]? := fun b hb hne => hg.block b hb hne
  exact {
    agree := h.agree.put (hS.mem _ (by simp)).1 v
    bel := hb
    f0 := fun hj => (getD_put_ne (Ne.symm hS.ne_d0_d1) v).trans (h.f0 (hj.resolve_left (by decide)))
    f1 := fun _ => by rw [ps]; exact hn
    f2 := fun hj => (getD_put_ne (hS.ne_d1_d2) v).trans (h.f2 (hj.resolve_left (by decide)))
    f3 := fun hj => (getD_put_ne (hS.ne_d1_d3) v).trans (h.f3 (hj.resolve_left (by decide)))
    f4 := fun hj => (getD_put_ne (hS.ne_d1_d4) v).trans (h.f4 (hj.resolve_left (by decide)))
    f5 := fun hj => (getD_put_ne (hS.ne_d1_d5) v).trans (h.f5 (hj.resolve_left (by decide)))
    f6 := fun hj => (getD_put_ne (hS.ne_d1_d6) v).trans (h.f6 (hj.resolve_left (by decide)))
    f7 := fun hj => (getD_put_ne (hS.ne_d1_sX) v).trans (h.f7 (hj.resolve_left (by decide)))
    f8 := fun hj => (getD_put_ne (hS.ne_d1_sY) v).trans (h.f8 (hj.resolve_left (by decide)))
    g2 := fun hj => (h.g2 (hj.resolve_left (by decide))).keep (fun b o hs => World.cell?_of_block (a := ⟨b, o, none⟩) (blk b hs.2.1 (by simp))) (fun b hs => ⟨hs.1, Nat.lt_of_lt_of_le hs.2.1 hsz, fun h7 => hs.2.2.1 (h7.resolve_left (by decide)), fun h8 => hs.2.2.2 (h8.resolve_left (by decide))⟩)
    g5 := fun hj => h.g5 (hj.resolve_left (by decide))
    g7 := fun hj => ⟨(h.g7 (hj.resolve_left (by decide))).1, Nat.lt_of_lt_of_le (h.g7 (hj.resolve_left (by decide))).2 hsz⟩
    g8 := fun hj => ⟨(h.g8 (hj.resolve_left (by decide))).1, Nat.lt_of_lt_of_le (h.g8 (hj.resolve_left (by decide))).2 hsz⟩
    z7 := fun hj hk => (blk X (h.g7 (hj.resolve_left (by decide))).2 (by simp)).trans (h.z7 (hj.resolve_left (by decide)) (fun h9 => hk (Or.inr h9)))
    x7 := fun hj => (blk X (h.g7 (h.d9 (hj.resolve_left (by decide))).2).2 (by simp)).trans (h.x7 (hj.resolve_left (by decide)))
    z8 := fun hj hk => (blk Y (h.g8 (hj.resolve_left (by decide))).2 (by simp)).trans (h.z8 (hj.resolve_left (by decide)) (fun h9 => hk (Or.inr h9)))
    x8 := fun hj => (blk Y (h.g8 (h.d10 (hj.resolve_left (by decide))).2).2 (by simp)).trans (h.x8 (hj.resolve_left (by decide)))
    xy := fun h7 h8 => h.xy (h7.resolve_left (by decide)) (h8.resolve_left (by decide))
    d6_ := fun hj => Or.inr (h.d6_ (hj.resolve_left (by decide)))
    d9 := fun hj => ⟨Or.inr (h.d9 (hj.resolve_left (by decide))).1, Or.inr (h.d9 (hj.resolve_left (by decide))).2⟩
    d10 := fun hj => ⟨Or.inr (h.d10 (hj.resolve_left (by decide))).1, Or.inr (h.d10 (hj.resolve_left (by decide))).2⟩ }
theorem MkJ.s2 {c : MkC} {X Y : Nat} {A : Option Addr} {k : Nat} {cs : Array Value} {p : Nat → Prop} {a : Act} {w : World} (hS : MkS c) (h : MkJ c X Y A k cs p a w) (hp : ¬ p 2) {A' : Option Addr} {k' : Nat} {w' : World} {v : Value} (hg : w.grownBy w' none) (hb : Below c.B0 c.W0 w') (hB : c.B0 ≤ w.heap.size) (hn : v = .agg (c.lay A' k')) (hv : ValsIn w' (fresh w w') c.vs A') :
    MkJ c (X) (Y) A' k' cs (fun j => j = 2 ∨ p j) (a.put (some c.d2) v) w' := by
  have sz := h.agree.size
  have ps : (a.put (some c.d2) v).tmps.getD c.d2 undef = v := getD_put_same (by rw [sz]; exact (hS.mem _ (by simp)).2) v
  have hsz := hg.size
  have blk : ∀ b, b < w.heap.size → some b ≠ none → w'.heap[b]? = w.heap[b]? := fun b hb hne => hg.block b hb hne
  exact {
    agree := h.agree.put (hS.mem _ (by simp)).1 v
    bel := hb
    f0 := fun hj => (getD_put_ne (Ne.symm hS.ne_d0_d2) v).trans (h.f0 (hj.resolve_left (by decide)))
    f1 := fun hj => (getD_put_ne (Ne.symm hS.ne_d1_d2) v).trans (h.f1 (hj.resolve_left (by decide)))
    f2 := fun _ => by rw [ps]; exact hn
    f3 := fun hj => (getD_put_ne (hS.ne_d2_d3) v).trans (h.f3 (hj.resolve_left (by decide)))
    f4 := fun hj => (getD_put_ne (hS.ne_d2_d4) v).trans (h.f4 (hj.resolve_left (by decide)))
    f5 := fun hj => (getD_put_ne (hS.ne_d2_d5) v).trans (h.f5 (hj.resolve_left (by decide)))
    f6 := fun hj => (getD_put_ne (hS.ne_d2_d6) v).trans (h.f6 (hj.resolve_left (by decide)))
    f7 := fun hj => (getD_put_ne (hS.ne_d2_sX) v).trans (h.f7 (hj.resolve_left (by decide)))
    f8 := fun hj => (getD_put_ne (hS.ne_d2_sY) v).trans (h.f8 (hj.resolve_left (by decide)))
    g2 := fun _ => hv.keep (fun _ _ _ => rfl) (fun b hs => ⟨Nat.le_trans hB hs.1, hs.2, fun h7 e => by have := (h.g7 (h7.resolve_left (by decide))).2; have := hs.1; omega, fun h8 e => by have := (h.g8 (h8.resolve_left (by decide))).2; have := hs.1; omega⟩)
    g5 := fun hj => h.g5 (hj.resolve_left (by decide))
    g7 := fun hj => ⟨(h.g7 (hj.resolve_left (by decide))).1, Nat.lt_of_lt_of_le (h.g7 (hj.resolve_left (by decide))).2 hsz⟩
    g8 := fun hj => ⟨(h.g8 (hj.resolve_left (by decide))).1, Nat.lt_of_lt_of_le (h.g8 (hj.resolve_left (by decide))).2 hsz⟩
    z7 := fun hj hk => (blk X (h.g7 (hj.resolve_left (by decide))).2 (by simp)).trans (h.z7 (hj.resolve_left (by decide)) (fun h9 => hk (Or.inr h9)))
    x7 := fun hj => absurd (h.d9 (hj.resolve_left (by decide))).1 hp
    z8 := fun hj hk => (blk Y (h.g8 (hj.resolve_left (by decide))).2 (by simp)).trans (h.z8 (hj.resolve_left (by decide)) (fun h9 => hk (Or.inr h9)))
    x8 := fun hj => (blk Y (h.g8 (h.d10 (hj.resolve_left (by decide))).2).2 (by simp)).trans (h.x8 (hj.resolve_left (by decide)))
    xy := fun h7 h8 => h.xy (h7.resolve_left (by decide)) (h8.resolve_left (by decide))
    d6_ := fun hj => Or.inr (h.d6_ (hj.resolve_left (by decide)))
    d9 := fun hj => ⟨Or.inr (h.d9 (hj.resolve_left (by decide))).1, Or.inr (h.d9 (hj.resolve_left (by decide))).2⟩
    d10 := fun hj => ⟨Or.inr (h.d10 (hj.resolve_left (by decide))).1, Or.inr (h.d10 (hj.resolve_left (by decide))).2⟩ }
theorem MkJ.s3 {c : MkC} {X Y : Nat} {A : Option Addr} {k : Nat} {cs : Array Value} {p : Nat → Prop} {a : Act} {w : World} (hS : MkS c) (h : MkJ c X Y A k cs p a w) (hp : ¬ p 3)  {w' : World} {v : Value} (hg : w.grownBy w' none) (hb : Below c.B0 c.W0 w') (hB : c.B0 ≤ w.heap.size) (hn : v = c.v3) :
    MkJ c (X) (Y) A k cs (fun j => j = 3 ∨ p j) (a.put (some c.d3) v) w' := by
  have sz := h.agree.size
  have ps : (a.put (some c.d3) v).tmps.getD c.d3 undef = v := getD_put_same (by rw [sz]; exact (hS.mem _ (by simp)).2) v
  have hsz := hg.size
  have blk : ∀ b, b < w.heap.size → some b ≠ none → w'.heap[b]? = w.heap[b]? := fun b hb hne => hg.block b hb hne
  exact {
    agree := h.agree.put (hS.mem _ (by simp)).1 v
    bel := hb
    f0 := fun hj => (getD_put_ne (Ne.symm hS.ne_d0_d3) v).trans (h.f0 (hj.resolve_left (by decide)))
    f1 := fun hj => (getD_put_ne (Ne.symm hS.ne_d1_d3) v).trans (h.f1 (hj.resolve_left (by decide)))
    f2 := fun hj => (getD_put_ne (Ne.symm hS.ne_d2_d3) v).trans (h.f2 (hj.resolve_left (by decide)))
    f3 := fun _ => by rw [ps]; exact hn
    f4 := fun hj => (getD_put_ne (hS.ne_d3_d4) v).trans (h.f4 (hj.resolve_left (by decide)))
    f5 := fun hj => (getD_put_ne (hS.ne_d3_d5) v).trans (h.f5 (hj.resolve_left (by decide)))
    f6 := fun hj => (getD_put_ne (hS.ne_d3_d6) v).trans (h.f6 (hj.resolve_left (by decide)))
    f7 := fun hj => (getD_put_ne (hS.ne_d3_sX) v).trans (h.f7 (hj.resolve_left (by decide)))
    f8 := fun hj => (getD_put_ne (hS.ne_d3_sY) v).trans (h.f8 (hj.resolve_left (by decide)))
    g2 := fun hj => (h.g2 (hj.resolve_left (by decide))).keep (fun b o hs => World.cell?_of_block (a := ⟨b, o, none⟩) (blk b hs.2.1 (by simp))) (fun b hs => ⟨hs.1, Nat.lt_of_lt_of_le hs.2.1 hsz, fun h7 => hs.2.2.1 (h7.resolve_left (by decide)), fun h8 => hs.2.2.2 (h8.resolve_left (by decide))⟩)
    g5 := fun hj => h.g5 (hj.resolve_left (by decide))
    g7 := fun hj => ⟨(h.g7 (hj.resolve_left (by decide))).1, Nat.lt_of_lt_of_le (h.g7 (hj.resolve_left (by decide))).2 hsz⟩
    g8 := fun hj => ⟨(h.g8 (hj.resolve_left (by decide))).1, Nat.lt_of_lt_of_le (h.g8 (hj.resolve_left (by decide))).2 hsz⟩
    z7 := fun hj hk => (blk X (h.g7 (hj.resolve_left (by decide))).2 (by simp)).trans (h.z7 (hj.resolve_left (by decide)) (fun h9 => hk (Or.inr h9)))
    x7 := fun hj => (blk X (h.g7 (h.d9 (hj.resolve_left (by decide))).2).2 (by simp)).trans (h.x7 (hj.resolve_left (by decide)))
    z8 := fun hj hk => (blk Y (h.g8 (hj.resolve_left (by decide))).2 (by simp)).trans (h.z8 (hj.resolve_left (by decide)) (fun h9 => hk (Or.inr h9)))
    x8 := fun hj => (blk Y (h.g8 (h.d10 (hj.resolve_left (by decide))).2).2 (by simp)).trans (h.x8 (hj.resolve_left (by decide)))
    xy := fun h7 h8 => h.xy (h7.resolve_left (by decide)) (h8.resolve_left (by decide))
    d6_ := fun hj => Or.inr (h.d6_ (hj.resolve_left (by decide)))
    d9 := fun hj => ⟨Or.inr (h.d9 (hj.resolve_left (by decide))).1, Or.inr (h.d9 (hj.resolve_left (by decide))).2⟩
    d10 := fun hj => ⟨Or.inr (h.d10 (hj.resolve_left (by decide))).1, Or.inr (h.d10 (hj.resolve_left (by decide))).2⟩ }
theorem MkJ.s4 {c : MkC} {X Y : Nat} {A : Option Addr} {k : Nat} {cs : Array Value} {p : Nat → Prop} {a : Act} {w : World} (hS : MkS c) (h : MkJ c X Y A k cs p a w) (hp : ¬ p 4)  {w' : World} {v : Value} (hg : w.grownBy w' none) (hb : Below c.B0 c.W0 w') (hB : c.B0 ≤ w.heap.size) (hn : v = c.v4) :
    MkJ c (X) (Y) A k cs (fun j => j = 4 ∨ p j) (a.put (some c.d4) v) w' := by
  have sz := h.agree.size
  have ps : (a.put (some c.d4) v).tmps.getD c.d4 undef = v := getD_put_same (by rw [sz]; exact (hS.mem _ (by simp)).2) v
  have hsz := hg.size
  have blk : ∀ b, b < w.heap.size → some b ≠ none → w'.heap[b]? = w.heap[b]? := fun b hb hne => hg.block b hb hne
  exact {
    agree := h.agree.put (hS.mem _ (by simp)).1 v
    bel := hb
    f0 := fun hj => (getD_put_ne (Ne.symm hS.ne_d0_d4) v).trans (h.f0 (hj.resolve_left (by decide)))
    f1 := fun hj => (getD_put_ne (Ne.symm hS.ne_d1_d4) v).trans (h.f1 (hj.resolve_left (by decide)))
    f2 := fun hj => (getD_put_ne (Ne.symm hS.ne_d2_d4) v).trans (h.f2 (hj.resolve_left (by decide)))
    f3 := fun hj => (getD_put_ne (Ne.symm hS.ne_d3_d4) v).trans (h.f3 (hj.resolve_left (by decide)))
    f4 := fun _ => by rw [ps]; exact hn
    f5 := fun hj => (getD_put_ne (hS.ne_d4_d5) v).trans (h.f5 (hj.resolve_left (by decide)))
    f6 := fun hj => (getD_put_ne (hS.ne_d4_d6) v).trans (h.f6 (hj.resolve_left (by decide)))
    f7 := fun hj => (getD_put_ne (hS.ne_d4_sX) v).trans (h.f7 (hj.resolve_left (by decide)))
    f8 := fun hj => (getD_put_ne (hS.ne_d4_sY) v).trans (h.f8 (hj.resolve_left (by decide)))
    g2 := fun hj => (h.g2 (hj.resolve_left (by decide))).keep (fun b o hs => World.cell?_of_block (a := ⟨b, o, none⟩) (blk b hs.2.1 (by simp))) (fun b hs => ⟨hs.1, Nat.lt_of_lt_of_le hs.2.1 hsz, fun h7 => hs.2.2.1 (h7.resolve_left (by decide)), fun h8 => hs.2.2.2 (h8.resolve_left (by decide))⟩)
    g5 := fun hj => h.g5 (hj.resolve_left (by decide))
    g7 := fun hj => ⟨(h.g7 (hj.resolve_left (by decide))).1, Nat.lt_of_lt_of_le (h.g7 (hj.resolve_left (by decide))).2 hsz⟩
    g8 := fun hj => ⟨(h.g8 (hj.resolve_left (by decide))).1, Nat.lt_of_lt_of_le (h.g8 (hj.resolve_left (by decide))).2 hsz⟩
    z7 := fun hj hk => (blk X (h.g7 (hj.resolve_left (by decide))).2 (by simp)).trans (h.z7 (hj.resolve_left (by decide)) (fun h9 => hk (Or.inr h9)))
    x7 := fun hj => (blk X (h.g7 (h.d9 (hj.resolve_left (by decide))).2).2 (by simp)).trans (h.x7 (hj.resolve_left (by decide)))
    z8 := fun hj hk => (blk Y (h.g8 (hj.resolve_left (by decide))).2 (by simp)).trans (h.z8 (hj.resolve_left (by decide)) (fun h9 => hk (Or.inr h9)))
    x8 := fun hj => (blk Y (h.g8 (h.d10 (hj.resolve_left (by decide))).2).2 (by simp)).trans (h.x8 (hj.resolve_left (by decide)))
    xy := fun h7 h8 => h.xy (h7.resolve_left (by decide)) (h8.resolve_left (by decide))
    d6_ := fun hj => Or.inr (h.d6_ (hj.resolve_left (by decide)))
    d9 := fun hj => ⟨Or.inr (h.d9 (hj.resolve_left (by decide))).1, Or.inr (h.d9 (hj.resolve_left (by decide))).2⟩
    d10 := fun hj => ⟨Or.inr (h.d10 (hj.resolve_left (by decide))).1, Or.inr (h.d10 (hj.resolve_left (by decide))).2⟩ }
theorem MkJ.s5 {c : MkC} {X Y : Nat} {A : Option Addr} {k : Nat} {cs : Array Value} {p : Nat → Prop} {a : Act} {w : World} (hS : MkS c) (h : MkJ c X Y A k cs p a w) (hp : ¬ p 5) {cs' : Array Value} {w' : World} {v : Value} (hg : w.grownBy w' none) (hb : Below c.B0 c.W0 w') (hB : c.B0 ≤ w.heap.size) (hn : v = .agg cs') (ho : c.ok cs') :
    MkJ c (X) (Y) A k cs' (fun j => j = 5 ∨ p j) (a.put (some c.d5) v) w' := by
  have sz := h.agree.size
  have ps : (a.put (some c.d5) v).tmps.getD c.d5 undef = v := getD_put_same (by rw [sz]; exact (hS.mem _ (by simp)).2) v
  have hsz := hg.size
  have blk : ∀ b, b < w.heap.size → some b ≠ none → w'.heap[b]? = w.heap[b]? := fun b hb hne => hg.block b hb hne
  exact {
    agree := h.agree.put (hS.mem _ (by simp)).1 v
    bel := hb
    f0 := fun hj => (getD_put_ne (Ne.symm hS.ne_d0_d5) v).trans (h.f0 (hj.resolve_left (by decide)))
    f1 := fun hj => (getD_put_ne (Ne.symm hS.ne_d1_d5) v).trans (h.f1 (hj.resolve_left (by decide)))
    f2 := fun hj => (getD_put_ne (Ne.symm hS.ne_d2_d5) v).trans (h.f2 (hj.resolve_left (by decide)))
    f3 := fun hj => (getD_put_ne (Ne.symm hS.ne_d3_d5) v).trans (h.f3 (hj.resolve_left (by decide)))
    f4 := fun hj => (getD_put_ne (Ne.symm hS.ne_d4_d5) v).trans (h.f4 (hj.resolve_left (by decide)))
    f5 := fun _ => by rw [ps]; exact hn
    f6 := fun hj => absurd (h.d6_ (hj.resolve_left (by decide))) hp
    f7 := fun hj => (getD_put_ne (hS.ne_d5_sX) v).trans (h.f7 (hj.resolve_left (by decide)))
    f8 := fun hj => (getD_put_ne (hS.ne_d5_sY) v).trans (h.f8 (hj.resolve_left (by decide)))
    g2 := fun hj => (h.g2 (hj.resolve_left (by decide))).keep (fun b o hs => World.cell?_of_block (a := ⟨b, o, none⟩) (blk b hs.2.1 (by simp))) (fun b hs => ⟨hs.1, Nat.lt_of_lt_of_le hs.2.1 hsz, fun h7 => hs.2.2.1 (h7.resolve_left (by decide)), fun h8 => hs.2.2.2 (h8.resolve_left (by decide))⟩)
    g5 := fun _ => ho
    g7 := fun hj => ⟨(h.g7 (hj.resolve_left (by decide))).1, Nat.lt_of_lt_of_le (h.g7 (hj.resolve_left (by decide))).2 hsz⟩
    g8 := fun hj => ⟨(h.g8 (hj.resolve_left (by decide))).1, Nat.lt_of_lt_of_le (h.g8 (hj.resolve_left (by decide))).2 hsz⟩
    z7 := fun hj hk => (blk X (h.g7 (hj.resolve_left (by decide))).2 (by simp)).trans (h.z7 (hj.resolve_left (by decide)) (fun h9 => hk (Or.inr h9)))
    x7 := fun hj => (blk X (h.g7 (h.d9 (hj.resolve_left (by decide))).2).2 (by simp)).trans (h.x7 (hj.resolve_left (by decide)))
    z8 := fun hj hk => (blk Y (h.g8 (hj.resolve_left (by decide))).2 (by simp)).trans (h.z8 (hj.resolve_left (by decide)) (fun h9 => hk (Or.inr h9)))
    x8 := fun hj => absurd (h.d6_ (h.d10 (hj.resolve_left (by decide))).1) hp
    xy := fun h7 h8 => h.xy (h7.resolve_left (by decide)) (h8.resolve_left (by decide))
    d6_ := fun hj => Or.inr (h.d6_ (hj.resolve_left (by decide)))
    d9 := fun hj => ⟨Or.inr (h.d9 (hj.resolve_left (by decide))).1, Or.inr (h.d9 (hj.resolve_left (by decide))).2⟩
    d10 := fun hj => ⟨Or.inr (h.d10 (hj.resolve_left (by decide))).1, Or.inr (h.d10 (hj.resolve_left (by decide))).2⟩ }
theorem MkJ.s6 {c : MkC} {X Y : Nat} {A : Option Addr} {k : Nat} {cs : Array Value} {p : Nat → Prop} {a : Act} {w : World} (hS : MkS c) (h : MkJ c X Y A k cs p a w) (hp : ¬ p 6)  {w' : World} {v : Value} (hg : w.grownBy w' none) (hb : Below c.B0 c.W0 w') (hB : c.B0 ≤ w.heap.size) (h5 : p 5) (hn : v = .agg cs) :
    MkJ c (X) (Y) A k cs (fun j => j = 6 ∨ p j) (a.put (some c.d6) v) w' := by
  have sz := h.agree.size
  have ps : (a.put (some c.d6) v).tmps.getD c.d6 undef = v := getD_put_same (by rw [sz]; exact (hS.mem _ (by simp)).2) v
  have hsz := hg.size
  have blk : ∀ b, b < w.heap.size → some b ≠ none → w'.heap[b]? = w.heap[b]? := fun b hb hne => hg.block b hb hne
  exact {
    agree := h.agree.put (hS.mem _ (by simp)).1 v
    bel := hb
    f0 := fun hj => (getD_put_ne (Ne.symm hS.ne_d0_d6) v).trans (h.f0 (hj.resolve_left (by decide)))
    f1 := fun hj => (getD_put_ne (Ne.symm hS.ne_d1_d6) v).trans (h.f1 (hj.resolve_left (by decide)))
    f2 := fun hj => (getD_put_ne (Ne.symm hS.ne_d2_d6) v).trans (h.f2 (hj.resolve_left (by decide)))
    f3 := fun hj => (getD_put_ne (Ne.symm hS.ne_d3_d6) v).trans (h.f3 (hj.resolve_left (by decide)))
    f4 := fun hj => (getD_put_ne (Ne.symm hS.ne_d4_d6) v).trans (h.f4 (hj.resolve_left (by decide)))
    f5 := fun hj => (getD_put_ne (Ne.symm hS.ne_d5_d6) v).trans (h.f5 (hj.resolve_left (by decide)))
    f6 := fun _ => by rw [ps]; exact hn
    f7 := fun hj => (getD_put_ne (hS.ne_d6_sX) v).trans (h.f7 (hj.resolve_left (by decide)))
    f8 := fun hj => (getD_put_ne (hS.ne_d6_sY) v).trans (h.f8 (hj.resolve_left (by decide)))
    g2 := fun hj => (h.g2 (hj.resolve_left (by decide))).keep (fun b o hs => World.cell?_of_block (a := ⟨b, o, none⟩) (blk b hs.2.1 (by simp))) (fun b hs => ⟨hs.1, Nat.lt_of_lt_of_le hs.2.1 hsz, fun h7 => hs.2.2.1 (h7.resolve_left (by decide)), fun h8 => hs.2.2.2 (h8.resolve_left (by decide))⟩)
    g5 := fun hj => h.g5 (hj.resolve_left (by decide))
    g7 := fun hj => ⟨(h.g7 (hj.resolve_left (by decide))).1, Nat.lt_of_lt_of_le (h.g7 (hj.resolve_left (by decide))).2 hsz⟩
    g8 := fun hj => ⟨(h.g8 (hj.resolve_left (by decide))).1, Nat.lt_of_lt_of_le (h.g8 (hj.resolve_left (by decide))).2 hsz⟩
    z7 := fun hj hk => (blk X (h.g7 (hj.resolve_left (by decide))).2 (by simp)).trans (h.z7 (hj.resolve_left (by decide)) (fun h9 => hk (Or.inr h9)))
    x7 := fun hj => (blk X (h.g7 (h.d9 (hj.resolve_left (by decide))).2).2 (by simp)).trans (h.x7 (hj.resolve_left (by decide)))
    z8 := fun hj hk => (blk Y (h.g8 (hj.resolve_left (by decide))).2 (by simp)).trans (h.z8 (hj.resolve_left (by decide)) (fun h9 => hk (Or.inr h9)))
    x8 := fun hj => (blk Y (h.g8 (h.d10 (hj.resolve_left (by decide))).2).2 (by simp)).trans (h.x8 (hj.resolve_left (by decide)))
    xy := fun h7 h8 => h.xy (h7.resolve_left (by decide)) (h8.resolve_left (by decide))
    d6_ := fun _ => Or.inr h5
    d9 := fun hj => ⟨Or.inr (h.d9 (hj.resolve_left (by decide))).1, Or.inr (h.d9 (hj.resolve_left (by decide))).2⟩
    d10 := fun hj => ⟨Or.inr (h.d10 (hj.resolve_left (by decide))).1, Or.inr (h.d10 (hj.resolve_left (by decide))).2⟩ }
theorem MkJ.s7 {c : MkC} {X Y : Nat} {A : Option Addr} {k : Nat} {cs : Array Value} {p : Nat → Prop} {a : Act} {w : World} (hS : MkS c) (h : MkJ c X Y A k cs p a w) (hp : ¬ p 7)  {w' : World} {v : Value} (hg : w.grownBy w' none) (hb : Below c.B0 c.W0 w') (hB : c.B0 ≤ w.heap.size) (hn : v = .pointer (some ⟨w.heap.size, 0, none⟩)) (hx : w'.heap[w.heap.size]? = some (.cells zBase 138)) :
    MkJ c (w.heap.size) (Y) A k cs (fun j => j = 7 ∨ p j) (a.put (some c.sX) v) w' := by
  have sz := h.agree.size
  have ps : (a.put (some c.sX) v).tmps.getD c.sX undef = v := getD_put_same (by rw [sz]; exact (hS.mem _ (by simp)).2) v
  have hsz := hg.size
  have blk : ∀ b, b < w.heap.size → some b ≠ none → w'.heap[b]? = w.heap[b]? := fun b hb hne => hg.block b hb hne
  exact {
    agree := h.agree.put (hS.mem _ (by simp)).1 v
    bel := hb
    f0 := fun hj => (getD_put_ne (Ne.symm hS.ne_d0_sX) v).trans (h.f0 (hj.resolve_left (by decide)))
    f1 := fun hj => (getD_put_ne (Ne.symm hS.ne_d1_sX) v).trans (h.f1 (hj.resolve_left (by decide)))
    f2 := fun hj => (getD_put_ne (Ne.symm hS.ne_d2_sX) v).trans (h.f2 (hj.resolve_left (by decide)))
    f3 := fun hj => (getD_put_ne (Ne.symm hS.ne_d3_sX) v).trans (h.f3 (hj.resolve_left (by decide)))
    f4 := fun hj => (getD_put_ne (Ne.symm hS.ne_d4_sX) v).trans (h.f4 (hj.resolve_left (by decide)))
    f5 := fun hj => (getD_put_ne (Ne.symm hS.ne_d5_sX) v).trans (h.f5 (hj.resolve_left (by decide)))
    f6 := fun hj => (getD_put_ne (Ne.symm hS.ne_d6_sX) v).trans (h.f6 (hj.resolve_left (by decide)))
    f7 := fun _ => by rw [ps]; exact hn
    f8 := fun hj => (getD_put_ne (hS.ne_sX_sY) v).trans (h.f8 (hj.resolve_left (by decide)))
    g2 := fun hj => (h.g2 (hj.resolve_left (by decide))).keep (fun b o hs => World.cell?_of_block (a := ⟨b, o, none⟩) (blk b hs.2.1 (by simp))) (fun b hs => ⟨hs.1, Nat.lt_of_lt_of_le hs.2.1 hsz, fun h7 => (by have := hs.2.1; intro e; omega), fun h8 => hs.2.2.2 (h8.resolve_left (by decide))⟩)
    g5 := fun hj => h.g5 (hj.resolve_left (by decide))
    g7 := fun _ => ⟨hB, by have := lt_of_block hx; exact this⟩
    g8 := fun hj => ⟨(h.g8 (hj.resolve_left (by decide))).1, Nat.lt_of_lt_of_le (h.g8 (hj.resolve_left (by decide))).2 hsz⟩
    z7 := fun _ _ => hx
    x7 := fun hj => absurd (h.d9 (hj.resolve_left (by decide))).2 hp
    z8 := fun hj hk => (blk Y (h.g8 (hj.resolve_left (by decide))).2 (by simp)).trans (h.z8 (hj.resolve_left (by decide)) (fun h9 => hk (Or.inr h9)))
    x8 := fun hj => (blk Y (h.g8 (h.d10 (hj.resolve_left (by decide))).2).2 (by simp)).trans (h.x8 (hj.resolve_left (by decide)))
    xy := fun _ h8 e => by have := (h.g8 (h8.resolve_left (by decide))).2; omega
    d6_ := fun hj => Or.inr (h.d6_ (hj.resolve_left (by decide)))
    d9 := fun hj => ⟨Or.inr (h.d9 (hj.resolve_left (by decide))).1, Or.inr (h.d9 (hj.resolve_left (by decide))).2⟩
    d10 := fun hj => ⟨Or.inr (h.d10 (hj.resolve_left (by decide))).1, Or.inr (h.d10 (hj.resolve_left (by decide))).2⟩ }
theorem MkJ.s8 {c : MkC} {X Y : Nat} {A : Option Addr} {k : Nat} {cs : Array Value} {p : Nat → Prop} {a : Act} {w : World} (hS : MkS c) (h : MkJ c X Y A k cs p a w) (hp : ¬ p 8)  {w' : World} {v : Value} (hg : w.grownBy w' none) (hb : Below c.B0 c.W0 w') (hB : c.B0 ≤ w.heap.size) (hn : v = .pointer (some ⟨w.heap.size, 0, none⟩)) (hx : w'.heap[w.heap.size]? = some (.cells c.zY c.TY)) :
    MkJ c (X) (w.heap.size) A k cs (fun j => j = 8 ∨ p j) (a.put (some c.sY) v) w' := by
  have sz := h.agree.size
  have ps : (a.put (some c.sY) v).tmps.getD c.sY undef = v := getD_put_same (by rw [sz]; exact (hS.mem _ (by simp)).2) v
  have hsz := hg.size
  have blk : ∀ b, b < w.heap.size → some b ≠ none → w'.heap[b]? = w.heap[b]? := fun b hb hne => hg.block b hb hne
  exact {
    agree := h.agree.put (hS.mem _ (by simp)).1 v
    bel := hb
    f0 := fun hj => (getD_put_ne (Ne.symm hS.ne_d0_sY) v).trans (h.f0 (hj.resolve_left (by decide)))
    f1 := fun hj => (getD_put_ne (Ne.symm hS.ne_d1_sY) v).trans (h.f1 (hj.resolve_left (by decide)))
    f2 := fun hj => (getD_put_ne (Ne.symm hS.ne_d2_sY) v).trans (h.f2 (hj.resolve_left (by decide)))
    f3 := fun hj => (getD_put_ne (Ne.symm hS.ne_d3_sY) v).trans (h.f3 (hj.resolve_left (by decide)))
    f4 := fun hj => (getD_put_ne (Ne.symm hS.ne_d4_sY) v).trans (h.f4 (hj.resolve_left (by decide)))
    f5 := fun hj => (getD_put_ne (Ne.symm hS.ne_d5_sY) v).trans (h.f5 (hj.resolve_left (by decide)))
    f6 := fun hj => (getD_put_ne (Ne.symm hS.ne_d6_sY) v).trans (h.f6 (hj.resolve_left (by decide)))
    f7 := fun hj => (getD_put_ne (Ne.symm hS.ne_sX_sY) v).trans (h.f7 (hj.resolve_left (by decide)))
    f8 := fun _ => by rw [ps]; exact hn
    g2 := fun hj => (h.g2 (hj.resolve_left (by decide))).keep (fun b o hs => World.cell?_of_block (a := ⟨b, o, none⟩) (blk b hs.2.1 (by simp))) (fun b hs => ⟨hs.1, Nat.lt_of_lt_of_le hs.2.1 hsz, fun h7 => hs.2.2.1 (h7.resolve_left (by decide)), fun h8 => (by have := hs.2.1; intro e; omega)⟩)
    g5 := fun hj => h.g5 (hj.resolve_left (by decide))
    g7 := fun hj => ⟨(h.g7 (hj.resolve_left (by decide))).1, Nat.lt_of_lt_of_le (h.g7 (hj.resolve_left (by decide))).2 hsz⟩
    g8 := fun _ => ⟨hB, by have := lt_of_block hx; exact this⟩
    z7 := fun hj hk => (blk X (h.g7 (hj.resolve_left (by decide))).2 (by simp)).trans (h.z7 (hj.resolve_left (by decide)) (fun h9 => hk (Or.inr h9)))
    x7 := fun hj => (blk X (h.g7 (h.d9 (hj.resolve_left (by decide))).2).2 (by simp)).trans (h.x7 (hj.resolve_left (by decide)))
    z8 := fun _ _ => hx
    x8 := fun hj => absurd (h.d10 (hj.resolve_left (by decide))).2 hp
    xy := fun h7 _ e => by have := (h.g7 (h7.resolve_left (by decide))).2; omega
    d6_ := fun hj => Or.inr (h.d6_ (hj.resolve_left (by decide)))
    d9 := fun hj => ⟨Or.inr (h.d9 (hj.resolve_left (by decide))).1, Or.inr (h.d9 (hj.resolve_left (by decide))).2⟩
    d10 := fun hj => ⟨Or.inr (h.d10 (hj.resolve_left (by decide))).1, Or.inr (h.d10 (hj.resolve_left (by decide))).2⟩ }
theorem MkJ.s9 {c : MkC} {X Y : Nat} {A : Option Addr} {k : Nat} {cs : Array Value} {p : Nat → Prop} {a : Act} {w : World} (hS : MkS c) (h : MkJ c X Y A k cs p a w) (hp : ¬ p 9)  {w' : World} (hg : w.grownBy w' (some X)) (hb : Below c.B0 c.W0 w') (hB : c.B0 ≤ w.heap.size) (h2 : p 2) (h7 : p 7) (hx : w'.heap[X]? = some (.cells (c.lay A k) 138)) :
    MkJ c (X) (Y) A k cs (fun j => j = 9 ∨ p j) (a) w' := by
  have hsz := hg.size
  have blk : ∀ b, b < w.heap.size → some b ≠ (some X) → w'.heap[b]? = w.heap[b]? := fun b hb hne => hg.block b hb hne
  exact {
    agree := h.agree
    bel := hb
    f0 := fun hj => h.f0 (hj.resolve_left (by decide))
    f1 := fun hj => h.f1 (hj.resolve_left (by decide))
    f2 := fun hj => h.f2 (hj.resolve_left (by decide))
    f3 := fun hj => h.f3 (hj.resolve_left (by decide))
    f4 := fun hj => h.f4 (hj.resolve_left (by decide))
    f5 := fun hj => h.f5 (hj.resolve_left (by decide))
    f6 := fun hj => h.f6 (hj.resolve_left (by decide))
    f7 := fun hj => h.f7 (hj.resolve_left (by decide))
    f8 := fun hj => h.f8 (hj.resolve_left (by decide))
    g2 := fun hj => (h.g2 (hj.resolve_left (by decide))).keep (fun b o hs => World.cell?_of_block (a := ⟨b, o, none⟩) (blk b hs.2.1 (fun e => hs.2.2.1 h7 (by injection e)))) (fun b hs => ⟨hs.1, Nat.lt_of_lt_of_le hs.2.1 hsz, fun h7 => hs.2.2.1 (h7.resolve_left (by decide)), fun h8 => hs.2.2.2 (h8.resolve_left (by decide))⟩)
    g5 := fun hj => h.g5 (hj.resolve_left (by decide))
    g7 := fun hj => ⟨(h.g7 (hj.resolve_left (by decide))).1, Nat.lt_of_lt_of_le (h.g7 (hj.resolve_left (by decide))).2 hsz⟩
    g8 := fun hj => ⟨(h.g8 (hj.resolve_left (by decide))).1, Nat.lt_of_lt_of_le (h.g8 (hj.resolve_left (by decide))).2 hsz⟩
    z7 := fun _ hj => absurd (Or.inl rfl) hj
    x7 := fun _ => hx
    z8 := fun hj hk => (blk Y (h.g8 (hj.resolve_left (by decide))).2 (fun e => h.xy h7 (hj.resolve_left (by decide)) (by injection e with e; exact e.symm))).trans (h.z8 (hj.resolve_left (by decide)) (fun h9 => hk (Or.inr h9)))
    x8 := fun hj => (blk Y (h.g8 (h.d10 (hj.resolve_left (by decide))).2).2 (fun e => h.xy h7 (h.d10 (hj.resolve_left (by decide))).2 (by injection e with e; exact e.symm))).trans (h.x8 (hj.resolve_left (by decide)))
    xy := fun h7 h8 => h.xy (h7.resolve_left (by decide)) (h8.resolve_left (by decide))
    d6_ := fun hj => Or.inr (h.d6_ (hj.resolve_left (by decide)))
    d9 := fun _ => ⟨Or.inr h2, Or.inr h7⟩
    d10 := fun hj => ⟨Or.inr (h.d10 (hj.resolve_left (by decide))).1, Or.inr (h.d10 (hj.resolve_left (by decide))).2⟩ }
theorem MkJ.s10 {c : MkC} {X Y : Nat} {A : Option Addr} {k : Nat} {cs : Array Value} {p : Nat → Prop} {a : Act} {w : World} (hS : MkS c) (h : MkJ c X Y A k cs p a w) (hp : ¬ p 10)  {w' : World} (hg : w.grownBy w' (some Y)) (hb : Below c.B0 c.W0 w') (hB : c.B0 ≤ w.heap.size) (h6 : p 6) (h8 : p 8) (hx : w'.heap[Y]? = some (.cells cs c.TY)) :
    MkJ c (X) (Y) A k cs (fun j => j = 10 ∨ p j) (a) w' := by
  have hsz := hg.size
  have blk : ∀ b, b < w.heap.size → some b ≠ (some Y) → w'.heap[b]? = w.heap[b]? := fun b hb hne => hg.block b hb hne
  exact {
    agree := h.agree
    bel := hb
    f0 := fun hj => h.f0 (hj.resolve_left (by decide))
    f1 := fun hj => h.f1 (hj.resolve_left (by decide))
    f2 := fun hj => h.f2 (hj.resolve_left (by decide))
    f3 := fun hj => h.f3 (hj.resolve_left (by decide))
    f4 := fun hj => h.f4 (hj.resolve_left (by decide))
    f5 := fun hj => h.f5 (hj.resolve_left (by decide))
    f6 := fun hj => h.f6 (hj.resolve_left (by decide))
    f7 := fun hj => h.f7 (hj.resolve_left (by decide))
    f8 := fun hj => h.f8 (hj.resolve_left (by decide))
    g2 := fun hj => (h.g2 (hj.resolve_left (by decide))).keep (fun b o hs => World.cell?_of_block (a := ⟨b, o, none⟩) (blk b hs.2.1 (fun e => hs.2.2.2 h8 (by injection e)))) (fun b hs => ⟨hs.1, Nat.lt_of_lt_of_le hs.2.1 hsz, fun h7 => hs.2.2.1 (h7.resolve_left (by decide)), fun h8 => hs.2.2.2 (h8.resolve_left (by decide))⟩)
    g5 := fun hj => h.g5 (hj.resolve_left (by decide))
    g7 := fun hj => ⟨(h.g7 (hj.resolve_left (by decide))).1, Nat.lt_of_lt_of_le (h.g7 (hj.resolve_left (by decide))).2 hsz⟩
    g8 := fun hj => ⟨(h.g8 (hj.resolve_left (by decide))).1, Nat.lt_of_lt_of_le (h.g8 (hj.resolve_left (by decide))).2 hsz⟩
    z7 := fun hj hk => (blk X (h.g7 (hj.resolve_left (by decide))).2 (fun e => h.xy (hj.resolve_left (by decide)) h8 (by injection e))).trans (h.z7 (hj.resolve_left (by decide)) (fun h9 => hk (Or.inr h9)))
    x7 := fun hj => (blk X (h.g7 (h.d9 (hj.resolve_left (by decide))).2).2 (fun e => h.xy (h.d9 (hj.resolve_left (by decide))).2 h8 (by injection e))).trans (h.x7 (hj.resolve_left (by decide)))
    z8 := fun _ hj => absurd (Or.inl rfl) hj
    x8 := fun _ => hx
    xy := fun h7 h8 => h.xy (h7.resolve_left (by decide)) (h8.resolve_left (by decide))
    d6_ := fun hj => Or.inr (h.d6_ (hj.resolve_left (by decide)))
    d9 := fun hj => ⟨Or.inr (h.d9 (hj.resolve_left (by decide))).1, Or.inr (h.d9 (hj.resolve_left (by decide))).2⟩
    d10 := fun _ => ⟨Or.inr h6, Or.inr h8⟩ }
theorem heap_at' {w : World} {o : Obj} {n : Nat} (h : w.heap.size = n) : (w.alloc o).heap[n]? = some o := h ▸ heap_alloc_new w o
theorem mk_end {w w2 w3 : World} {kind s : ByteArray} {vs : List Value} {Ay : Option Addr} {k nb n : Nat} {T : TypeId} {X : Obj} (hb : Below w.heap.size w w2) (h23 : Below w2.heap.size w2 w3) (hv : ValsIn w2 (fresh w w2) vs Ay) (hn : w2.heap.size ≤ nb) (hsz : w3.heap.size = n)
    (hx : w3.heap[nb]? = some X) (hX : ∃ (rest : List Value) (tT : TypeId), X = .cells (Value.string kind :: .int .i64 0 :: .string s :: .slice Ay vs.length k :: (extra T s ++ rest)).toArray tT) :
    MkPost kind s vs T w (.returned (.pointer (some ⟨n, 0, none⟩))) (w3.alloc (.cells #[.iface T (.pointer (some ⟨nb, 0, none⟩))] 202)) := by
  subst hsz
  obtain ⟨rest, tT, rfl⟩ := hX
  have hs := hb.size
  have hs3 := h23.size
  have hnl := lt_of_block hx
  have hx4 := (Below.heap_alloc w3 (.cells #[.iface T (.pointer (some ⟨nb, 0, none⟩))] 202) nb hnl).trans hx
  have hb4 : Below w.heap.size w (w3.alloc (.cells #[.iface T (.pointer (some ⟨nb, 0, none⟩))] 202)) := (hb.trans (h23.mono hs)).alloc (by omega) _
  refine ⟨⟨w3.heap.size, .iface T (.pointer (some ⟨nb, 0, none⟩))⟩, nb, rfl, by show w.heap.size ≤ w3.heap.size; omega, rfl, ⟨heap_alloc_new _ _, _, _, rfl⟩, ⟨⟨by omega, by rw [size_alloc]; omega⟩, ?_, ?_, ?_, ⟨Ay, k, ?_, ?_⟩, fun j u hu => ?_⟩, hb4⟩
  · simp [World.cell?, hx4]
  · simp [World.cell?, hx4]
  · simp [World.cell?, hx4]
  · simp [World.cell?, hx4]
  · refine hv.keep (fun b o hb' => ?_) (fun b hb' => ⟨hb'.1, by rw [size_alloc]; have := hb'.2; omega⟩)
    rw [World.cell?_alloc_lt _ _ _ (show b < w3.heap.size by have := hb'.2; omega)]
    exact h23.cell (p := ⟨b, o, none⟩) hb'.2
  · have hj : j < (extra T s).length := (List.getElem?_eq_some_iff.1 hu).1
    have e4 : 4 + j = j + 4 := by omega
    simp only [World.cell?, hx4, e4, List.getElem?_toArray, List.getElem?_cons_succ]
    rw [List.getElem?_append_left hj]
    exact hu
/-- A signature: six cells. -/
def SigOk (cs : Array Value) : Prop := ∃ (A1 : Option Addr) (n1 c1 : Nat) (b : Bool) (x : ByteArray) (A2 : Option Addr) (n2 c2 : Nat) (y : ByteArray) (A3 : Option Addr) (n3 c3 : Nat), cs = #[.slice A1 n1 c1, .bool b, .string x, .slice A2 n2 c2, .string y, .slice A3 n3 c3]
def SigPost (w : World) (e : Ending) (w' : World) : Prop := ∃ cs, e = .returned (.agg cs) ∧ SigOk cs ∧ Below w.heap.size w w'
theorem set_fun {L : Array Bool} {i : Nat} (hi : i < L.size) : (fun j => (L.setIfInBounds i true).getD j false = true) = (fun j => j = i ∨ L.getD j false = true) := by
  funext j
  by_cases h : j = i
  · subst h; simp [hi]
  · simp only [Array.getD_eq_getD_getElem?]
    rw [Array.getElem?_setIfInBounds_ne (fun e => h e.symm)]
    simp [h]
theorem not_yet {L : Array Bool} {i : Nat} (hi : i < L.size) (hl : L.getD i true = false) : ¬ L.getD i false = true := by
  simp [hi] at hl ⊢; exact hl
theorem grown_row (w : World) (g : Nat) (cs : Array Value) : w.grownBy (w.setRow g cs) (some g) :=
  ⟨rfl, rfl, rfl, by simp, fun k hk hne => setRow_other w g k cs (fun e => hne (by rw [e]))⟩
theorem grown_refl (w : World) : w.grownBy w none := ⟨rfl, rfl, rfl, Nat.le_refl _, fun _ _ _ => rfl⟩
theorem grown_below {w w' : World} (h : Below w.heap.size w w') : w.grownBy w' none := ⟨h.os, h.tape, h.output, h.size, fun k hk _ => h.block k hk⟩
section
variable {P : Program} {o : Oper} {a : Act} {w : World} {K : Act → World → Prop} {Q : Exit → Act → World → Prop}
theorem wp_alloc_run {T : TypeId} {v : Value} {w' : World} (ho : o.op = .alloc T) (hr : (Instr.alloc T true (.tuple #[])).run P w = .ok v w') (hk : K (a.put o.dst v) w') : o.wp P a w K Q := by
  unfold Oper.wp execOp
  simp only [ho, Sem.run_bind, hr, Result.andThen_ok, Sem.run_pure]
  exact hk
theorem wp_load1 {T : TypeId} {x : Operand} {p : Addr} {v : Value} (ho : o.op = .load T x) (hx : a.eval x = .pointer (some p)) (hr : (loadVar T p).run P w = .ok v w) (hk : K (a.put o.dst v) w) : o.wp P a w K Q := by
  unfold Oper.wp execOp
  simp only [ho, hx, Instr.loadAt, Instr.sureAddr, Sem.run_bind, Sem.run_pure, Result.andThen_ok, hr]
  exact hk
theorem wp_field {T : TypeId} {x : Operand} {j : Nat} {u v : Value} (ho : o.op = .fieldAddr T x j) (hx : a.eval x = u) (hr : (Instr.fieldAt T u j).run P w = .ok v w) (hk : K (a.put o.dst v) w) : o.wp P a w K Q := by
  unfold Oper.wp execOp
  simp only [ho, hx, Sem.run_bind, hr, Result.andThen_ok, Sem.run_pure]
  exact hk
theorem wp_move1 {x : Operand} {u : Value} (ho : o.op = .move x) (hx : a.eval x = u) (hk : K (a.put o.dst u) w) : o.wp P a w K Q := by
  unfold Oper.wp execOp
  simp only [ho, hx, Sem.run_pure]
  exact hk
theorem wp_call1 {f : FuncId} {xs : Array Operand} {ts : Array TypeId} {vs : Array Value} (ho : o.op = .call { callee := .value (.func f), args := xs, argTypes := ts }) (hx : xs.map a.eval = vs) (hent : (callFunc f vs).run P w = .ok (.enter f vs) w)
    (h : Calls P f vs w fun e w' => ∃ v, e = .returned v ∧ K (a.put o.dst v) w') : o.wp P a w K Q := by
  have hr : (execOp a.eval o).run P w = .ok (.enter f vs) w := by
    have hx' : Array.map a.eval xs = vs := hx
    unfold execOp
    simp [ho, resolve, go_sem, hx', invoke, hent, Act.eval]
  unfold Oper.wp
  rw [hr, Oper.upon_enter]
  refine h.mono fun e w' hh => ?_
  obtain ⟨v, rfl, hk⟩ := hh
  exact hk
end
end Go.Proofs.YtcldbjgikkfnbaaGreatDoor
