/-
  Texts of a proof in one: SavW, FullP. Conditions: each names its own.
-/
import Derived.Test.YtcldbjgikkfnbaaGreatDoorCPlSameL
/-
  A call that writes only into the blocks of S: what else was there is as it was. Plain. Conditions: none.
-/
namespace Go.Proofs.YtcldbjgikkfnbaaGreatDoor
open Go.RowKit
set_option linter.unusedVariables false

/-- Old blocks outside S are as they were. -/
structure Sav (S : Nat → Prop) (w w' : World) : Prop where
  os : w'.os = w.os
  tape : w'.tape = w.tape
  output : w'.output = w.output
  size : w.heap.size ≤ w'.heap.size
  block : ∀ k, k < w.heap.size → ¬ S k → w'.heap[k]? = w.heap[k]?
theorem Sav.refl (S : Nat → Prop) (w : World) : Sav S w w := ⟨rfl, rfl, rfl, Nat.le_refl _, fun _ _ _ => rfl⟩
theorem Sav.trans {S : Nat → Prop} {a b c : World} (h : Sav S a b) (h' : Sav S b c) : Sav S a c :=
  ⟨h'.os.trans h.os, h'.tape.trans h.tape, h'.output.trans h.output, Nat.le_trans h.size h'.size, fun k hk hs => (h'.block k (Nat.lt_of_lt_of_le hk h.size) hs).trans (h.block k hk hs)⟩
theorem Sav.mono {S S' : Nat → Prop} {a b : World} (h : Sav S a b) (hS : ∀ k, S k → S' k) : Sav S' a b :=
  ⟨h.os, h.tape, h.output, h.size, fun k hk hs => h.block k hk (fun h1 => hs (hS k h1))⟩
theorem Sav.of_below {S : Nat → Prop} {a b : World} (h : Below a.heap.size a b) : Sav S a b := ⟨h.os, h.tape, h.output, h.size, fun k hk _ => h.block k hk⟩
/-- Where S holds only what is not below B. -/
theorem Sav.below {S : Nat → Prop} {B : Nat} {a b : World} (h : Sav S a b) (hB : B ≤ a.heap.size) (hS : ∀ k, S k → B ≤ k) : Below B a b :=
  ⟨h.os, h.tape, h.output, h.size, fun k hk => h.block k (Nat.lt_of_lt_of_le hk hB) (fun h1 => absurd (hS k h1) (by omega))⟩
theorem Sav.sep {S T : Nat → Prop} {a b : World} {x : Vl} {v : Value} (h : Sav S a b) (hx : x.sep a T v) (hT : ∀ k, T k → k < a.heap.size ∧ ¬ S k) : x.sep b T v :=
  Vl.sep.keep x T T v (fun k hk => h.block k (hT k hk).1 (hT k hk).2) (fun _ h => h) hx
end Go.Proofs.YtcldbjgikkfnbaaGreatDoor

/-
  What espalierlaw2.Full's walk carries. Plain. Conditions: none.
-/
namespace Go.Proofs.YtcldbjgikkfnbaaGreatDoor
open Go.RowKit
set_option linter.unusedVariables false

theorem Sav.set {S : Nat → Prop} {a b : World} (h : Sav S a b) (p : Addr) (hp : S p.block ∨ a.heap.size ≤ p.block) (u : Value) : Sav S a (b.setCell p u) :=
  ⟨h.os, h.tape, h.output, by rw [size_set]; exact h.size, fun k hk hs => (Below.heap_setCell b p u k (fun e => by subst e; rcases hp with h1 | h1; exact hs h1; omega)).trans (h.block k hk hs)⟩
theorem Sav.alloc {S : Nat → Prop} {a b : World} (h : Sav S a b) (o : Obj) : Sav S a (b.alloc o) :=
  h.trans (Sav.of_below ((Below.refl b.heap.size b).alloc (Nat.le_refl _) o))
theorem Sav.grown {S : Nat → Prop} {a b c : World} (h : Sav S a b) {row : Option Nat} (hg : b.grownBy c row) (hr : ∀ g, row = some g → S g ∨ a.heap.size ≤ g) : Sav S a c :=
  ⟨hg.os.trans h.os, hg.tape.trans h.tape, hg.output.trans h.output, Nat.le_trans h.size hg.size, fun k hk hs => (hg.block k (Nat.lt_of_lt_of_le hk h.size) (fun e => by rcases hr k e.symm with h1 | h1; exact hs h1; omega)).trans (h.block k hk hs)⟩
theorem own_some {w : World} {base size n : Nat} {e : TypeId} {v : Value} {xs : List Value} (h : w.ownsRow base e size v (n + 1) xs) : ∃ g c, v = .slice (some ⟨g, 0, none⟩) (n + 1) c := by
  rcases h.2 with ⟨_, h0⟩ | ⟨g, cap, cur, e, _⟩
  · omega
  · exact ⟨g, cap, e⟩
/-- A row, whatever lies in it. -/
def RowIs (w : World) (g n c : Nat) : Prop := ∃ cur : Array Value, w.heap[g]? = some (.cells cur 35 (0, 0)) ∧ cur.size = c ∧ n ≤ c ∧ c ≤ maxLen
theorem RowIs.cell {w : World} {g n c : Nat} (h : RowIs w g n c) {k : Nat} (hk : k < c) : ∃ v, w.cell? ⟨g, k, none⟩ = some v := by
  obtain ⟨cur, h1, h2, _⟩ := h
  exact ⟨cur[k]'(by omega), by simp [World.cell?, h1, h2, hk]⟩
theorem RowIs.free {w : World} {g n c : Nat} (h : RowIs w g n c) (k : Nat) : w.frozen? ⟨g, k, none⟩ = false := by
  obtain ⟨cur, h1, h2, _⟩ := h
  simp [World.frozen?, h1]
theorem RowIs.set {w : World} {g n c : Nat} (h : RowIs w g n c) (k : Nat) (v : Value) : RowIs (w.setCell ⟨g, k, none⟩ v) g n c := by
  obtain ⟨cur, h1, h2, h3⟩ := h
  exact ⟨_, blk_set h1 k v, by simp [h2], h3⟩
theorem RowIs.sav {S : Nat → Prop} {w w' : World} {g n c : Nat} (h : RowIs w g n c) (hs : Sav S w w') (hg : ¬ S g) : RowIs w' g n c := by
  obtain ⟨cur, h1, h2⟩ := h
  exact ⟨cur, (hs.block g (lt_of_block h1) hg).trans h1, h2⟩
theorem RowIs.own {w : World} {g n c : Nat} (h : RowIs w g n c) : ∃ xs, w.ownsRow 0 35 1 (.slice (some ⟨g, 0, none⟩) n c) n xs := by
  obtain ⟨cur, h1, h2, h3, h4⟩ := h
  exact ⟨cur.toList.take n, by simp [h2]; omega, .inr ⟨g, c, cur, rfl, Nat.zero_le _, h1, h3, h4, by omega, by simp⟩⟩
theorem row_is {w : World} {g n c : Nat} {us : List Value} (h : w.ownsRow 0 35 1 (.slice (some ⟨g, 0, none⟩) n c) n us) : RowIs w g n c := by
  rcases h.2 with ⟨e, _⟩ | ⟨g', cap, cur, e, _, h1, h2, h3, h4, _⟩
  · cases e
  · injection e with e1 e2 e3
    injection e1 with e1
    injection e1 with e1 _ _
    subst e1 e3
    exact ⟨cur, h1, by omega, h2, h3⟩
/-- What Full's first loop leaves: what is ahead may be anything, the rest is as it was. -/
structure FullI (S : Nat → Prop) (w : World) (g c : Nat) (l : List Vl) (us : List Value) (k : Nat) (wr : World) : Prop where
  sav : Sav S w wr
  row : RowIs wr g l.length c
  cells : ∀ j, k ≤ j → j < l.length → wr.cell? ⟨g, j, none⟩ = us[j]?
  rest : Vls.sep wr (l.drop k) (fun b => S b ∧ b ≠ g) (us.drop k)
theorem FullI.head {S : Nat → Prop} {w wr : World} {g c k : Nat} {l : List Vl} {us : List Value} (h : FullI S w g c l us k wr) (hk : k < l.length) : ∃ u S1, us[k]? = some u ∧ wr.cell? ⟨g, k, none⟩ = some u ∧ l[k].sep wr S1 u ∧ (∀ b, S1 b → S b ∧ b ≠ g) ∧
    ∀ w2, Sav S1 wr w2 → (∀ b, S b → b < w.heap.size) → S g → ∀ v, FullI S w g c l us (k + 1) (w2.setCell ⟨g, k, none⟩ v) ∧ w2.cell? ⟨g, k, none⟩ = some u ∧ w2.frozen? ⟨g, k, none⟩ = false := by
  have hr := h.rest
  have hlen := hr.length
  rw [List.length_drop, List.length_drop] at hlen
  have hku : k < us.length := by omega
  rw [List.drop_eq_getElem_cons hk, List.drop_eq_getElem_cons hku] at hr
  unfold Vls.sep at hr
  obtain ⟨u, vs, S1, S2, e, h1, h2, h3, h4, h5⟩ := hr
  injection e with e1 e2
  subst e1 e2
  have hc : wr.cell? ⟨g, k, none⟩ = some us[k] := by rw [h.cells k (Nat.le_refl _) hk, List.getElem?_eq_getElem hku]
  refine ⟨us[k], S1, by rw [List.getElem?_eq_getElem hku], hc, h4, h1, fun w2 hs hSlt hSg v => ?_⟩
  have hg1 : ¬ S1 g := fun hb => (h1 g hb).2 rfl
  have hglt : g < wr.heap.size := Nat.lt_of_lt_of_le (hSlt g hSg) h.sav.size
  have hcell : ∀ j, w2.cell? ⟨g, j, none⟩ = wr.cell? ⟨g, j, none⟩ := fun j => World.cell?_of_block (a := ⟨g, j, none⟩) (hs.block g hglt hg1)
  have hrow2 := h.row.sav hs hg1
  refine ⟨⟨?_, hrow2.set k v, fun j hj hjl => ?_, ?_⟩, (hcell k).trans hc, hrow2.free k⟩
  · exact (h.sav.trans (hs.mono fun b hb => (h1 b hb).1)).set _ (.inl hSg) v
  · have hne : j ≠ k := by omega
    rw [World.cell?_setCell_other _ ⟨g, k, none⟩ ⟨g, j, none⟩ _ (fun e => by injection e with _ e _; exact hne e.symm), hcell]
    exact h.cells j (by omega) hjl
  · refine Vls.sep.keep _ _ _ _ (fun b hb => ?_) (fun b hb => h2 b hb) h5
    have hb2 := h2 b hb
    rw [Below.heap_setCell _ _ _ _ (show b ≠ g from hb2.2)]
    exact hs.block b (Nat.lt_of_lt_of_le (hSlt b hb2.1) h.sav.size) (fun h => h3 b h hb)
end Go.Proofs.YtcldbjgikkfnbaaGreatDoor
