/-
  Values gathered one by one in a row of one's own: what a round keeps. Plain. Conditions: none.
-/
import Derived.Test.YthjpphojddbbmaaGreatDoorCBase
namespace Go.Proofs.YthjpphojddbbmaaGreatDoor
open Go.RowKit
set_option linter.unusedVariables false

/-- What one round does to the values that have been gathered. -/
theorem val_step {ps : List Pl} {k base : Nat} {us : List Value} {wr w2 w3 w4 : World} {s4 v' v : Value} {X Y : Obj} (hlt : k < ps.length) (hus : us.length = k) {e : TypeId}
    (hown : wr.ownsRow base e 1 s4 k us) (hb2 : Below (wr.alloc X).heap.size (wr.alloc X) w2) (hb3 : Below w2.heap.size w2 w3) (hgr : (w3.alloc Y).grownBy w4 s4.ownBlock) (hblk : v'.ownBlock = s4.ownBlock ∨ v'.ownBlock = some (w3.alloc Y).heap.size)
    (hel : ∀ j (h : j < ps.length) (h' : j < us.length), ps[j].toVl.is wr (fun b => (base ≤ b ∧ b < wr.heap.size) ∧ s4.ownBlock ≠ some b) us[j]) (hv : ps[k].toVl.is w3 (fresh w2 w3) v) (hbase : base ≤ wr.heap.size) :
    ∀ j (h : j < ps.length) (h' : j < (us ++ [v]).length), ps[j].toVl.is w4 (fun b => (base ≤ b ∧ b < w4.heap.size) ∧ v'.ownBlock ≠ some b) (us ++ [v])[j] := by
  intro j h h'
  have hs2 := hb2.size
  have hs3 := hb3.size
  have hs4 := hgr.size
  rw [size_alloc] at hs2 hs4 hblk
  have hol : ∀ g, s4.ownBlock = some g → g < wr.heap.size := fun g hg => (hown.lt g hg).2
  have hc3 : ∀ b o, b < w3.heap.size → s4.ownBlock ≠ some b → w4.cell? ⟨b, o, none⟩ = w3.cell? ⟨b, o, none⟩ := fun b o hb hne => by
    rw [World.cell?_of_block (a := ⟨b, o, none⟩) (hgr.block b (by rw [size_alloc]; omega) (Ne.symm hne)), World.cell?_alloc_lt _ _ _ hb]
  by_cases hj : j < k
  · rw [List.getElem_append_left (by omega)]
    refine (hel j h (by omega)).keep (fun b o hb => ?_) (fun b hb => ⟨⟨hb.1.1, by have := hb.1.2; omega⟩, ?_⟩)
    · rw [hc3 b o (by have := hb.1.2; omega) hb.2, hb3.cell (p := ⟨b, o, none⟩) (by have := hb.1.2; simp; omega), hb2.cell (p := ⟨b, o, none⟩) (by have := hb.1.2; simp; omega), World.cell?_alloc_lt _ _ _ hb.1.2]
    · rcases hblk with e | e <;> rw [e]
      · exact hb.2
      · intro e; injection e with e; have := hb.1.2; omega
  · have hjk : j = k := by simp at h'; omega
    rw [List.getElem_append_right (by omega)]
    simp only [hjk, hus, Nat.sub_self, List.getElem_cons_zero]
    have hne : ∀ b, fresh w2 w3 b → s4.ownBlock ≠ some b := fun b hb e => by have := hol b e; have := hb.1; omega
    refine hv.keep (fun b o hb => hc3 b o hb.2 (hne b hb)) (fun b hb => ⟨⟨by have := hb.1; omega, by have := hb.2; omega⟩, ?_⟩)
    rcases hblk with e | e <;> rw [e]
    · exact hne b hb
    · intro e; injection e with e; have := hb.2; omega

end Go.Proofs.YthjpphojddbbmaaGreatDoor
