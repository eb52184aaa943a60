/-
  What a law's 'made' keeps: handles of literals in a row of its own. Plain. Conditions: none.
-/
import Derived.Test.YtjdpnljaichdmaaGreatDoorKitMake
namespace Go.Proofs.YtjdpnljaichdmaaGreatDoor
open Go.RowKit
set_option linter.unusedVariables false

/-- Handles of literals, in a row that a call owns. -/
structure KidRow (w : World) (base : Nat) (v : Value) (ks : List Kd) : Prop where
  own : w.ownsRow base 97 1 v ks.length (ks.map Kd.ptr)
  kids : ∀ k ∈ ks, k.at_ w ∧ IsLit k.n
  nil_ : ks = [] → v = .slice none 0 0
theorem KidRow.nil (w : World) (base : Nat) : KidRow w base (.slice none 0 0) [] := ⟨World.ownsRow_nil _ _ _ _, fun k hk => absurd hk List.not_mem_nil, fun _ => rfl⟩
theorem KidRow.below {w w' : World} {base : Nat} {v : Value} {ks : List Kd} (h : KidRow w base v ks) (hb : Below w.heap.size w w') : KidRow w' base v ks := ⟨own_below h.own hb, fun k hk => ⟨(h.kids k hk).1.below hb, (h.kids k hk).2⟩, h.nil_⟩
theorem KidRow.other {w : World} {base : Nat} {v : Value} {ks : List Kd} (h : KidRow w base v ks) {b : Nat} (hb : b < base) : some b ≠ v.ownBlock := fun e => by have := (h.own.lt b e.symm).1; omega
theorem KidRow.push {w w' : World} {base : Nat} {v : Value} {ks : List Kd} (h : KidRow w base v ks) {k : Kd} (hk : k.at_ w) (hl : IsLit k.n) {Y : Obj} (hgr : (w.alloc Y).grownBy w' v.ownBlock) {g cap : Nat}
    (hown : w'.ownsRow base 97 1 (.slice (some ⟨g, 0, none⟩) (ks.length + 1) cap) (ks.length + 1) (ks.map Kd.ptr ++ [k.ptr])) : KidRow w' base (.slice (some ⟨g, 0, none⟩) (ks.length + 1) cap) (ks ++ [k]) := by
  have hne : ∀ q : Kd, q.at_ w → v.ownBlock ≠ some q.blk := fun q hq e => by
    rcases h.own.2 with ⟨e2, _⟩ | ⟨g', cap', cur, e1, e2, e3, _⟩
    · rw [e2] at e; cases e
    · rw [e1] at e
      have e5 : g' = q.blk := by simpa [Value.ownBlock] using e
      rw [e5, hq.1] at e3
      injection e3 with e3
      injection e3 with _ e6 _
      exact absurd e6 (by decide)
  have hat : ∀ q : Kd, q.at_ w → q.at_ w' := fun q hq => ⟨by rw [hgr.block q.blk (by rw [size_alloc]; have := hq.lt; omega) (Ne.symm (hne q hq)), Below.heap_alloc _ _ _ hq.lt]; exact hq.1, hq.2⟩
  refine ⟨by simpa using hown, fun q hq => ?_, fun e => absurd e (by simp)⟩
  rcases List.mem_append.1 hq with h1 | h1
  · exact ⟨hat q (h.kids q h1).1, (h.kids q h1).2⟩
  · rw [List.mem_singleton.1 h1]; exact ⟨hat k hk, hl⟩
theorem KidRow.kidsIn {w : World} {base : Nat} {v : Value} {ks : List Kd} (h : KidRow w base v ks) : ∃ A c, v = .slice A ks.length c ∧ KidsIn w ks A ∧ (ks = [] → A = none ∧ c = 0) := by
  obtain ⟨A, c, e, hv⟩ := own_vals h.own (by simp)
  refine ⟨A, c, e, ⟨hv.keep (fun _ _ _ => rfl) (fun b hb => hb.2), fun k hk => (h.kids k hk).1⟩, fun e0 => ?_⟩
  have := h.nil_ e0
  rw [e] at this
  injection this with h1 h2 h3
  exact ⟨h1, h3⟩
/-- What 'made' gives: a node, in memory. -/
def MadePost (kind text : ByteArray) (n : Nat) (T : TypeId) (w : World) (e : Ending) (w' : World) : Prop :=
  ∃ (nb : Nat) (vs : List Value), vs.length = n ∧ e = .returned (.iface T (.pointer (some ⟨nb, 0, none⟩))) ∧ NodeAt w' (· < w'.heap.size) nb kind text vs (extra T text) ∧ Below w.heap.size w w'
end Go.Proofs.YtjdpnljaichdmaaGreatDoor
