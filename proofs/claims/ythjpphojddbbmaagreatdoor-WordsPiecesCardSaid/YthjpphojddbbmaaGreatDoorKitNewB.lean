/-
  kit.New: the step that adds a row. Conditions: none.
-/
import Derived.Test.YthjpphojddbbmaaGreatDoorKitNewA
namespace Go.Proofs.YthjpphojddbbmaaGreatDoor
open Go.RowKit
set_option linter.unusedVariables false

theorem info_row : (Tryz.prog.info? 81).map (fun i => (i.zero, i.size, i.bytes)) = some (some (.agg #[.string ⟨#[]⟩, .int .i64 0, .int .i64 0, .bool false, .int .i64 0, .slice none 0 0]), 6, 72) := by kernel_rfl

theorem own_no {w : World} {base : Nat} {e : TypeId} {size : Nat} {v : Value} {n : Nat} {xs : List Value} (h : w.ownsRow base e size v n xs) {b : Nat} (hb : b < base) : v.ownBlock ≠ some b := fun e => by
  have := (h.lt b e).1; omega

theorem KitMid.copied {w5 w6 w7 : World} {M KB : Nat} {name : ByteArray} {m v : Value} {ts : List RowAt} {r : RowD} (h : KitMid w5 M KB name m v ts r) (hMK : M < KB) {A1 : Option Addr} {c1 g cap : Nat} {Y : Obj}
    (hb6 : Below w5.heap.size w5 w6) (hA1 : NamesIn w6 (fresh w5 w6) r.abil A1) (hgrow : (w6.alloc Y).grownBy w7 v.ownBlock) (hat : v.ownBlock = some g ∨ g = w6.heap.size + 1)
    (hown : w7.ownsRow (KB + 1) 81 6 (.slice (some ⟨g, 0, none⟩) (ts.length + 1) cap) (ts.length + 1) (ts.flatMap RowAt.cells ++ (RowAt.mk r A1 c1).cells)) :
    KitIn (w7.setCell ⟨KB, 1, none⟩ (.slice (some ⟨g, 0, none⟩) (ts.length + 1) cap)) M KB name m (.slice (some ⟨g, 0, none⟩) (ts.length + 1) cap) (ts ++ [⟨r, A1, c1⟩]) := by
  have hs6 := hb6.size
  have hs7 := hgrow.size
  rw [size_alloc] at hs7
  have hM := heap_lt h.map
  have hK := heap_lt h.kit
  have blk : ∀ b, b < w5.heap.size → v.ownBlock ≠ some b → w7.heap[b]? = w5.heap[b]? := fun b hb hne => by
    rw [hgrow.block b (by rw [size_alloc]; omega) (Ne.symm hne), Below.heap_alloc _ _ _ (by omega), hb6.block b hb]
  have blk6 : ∀ b, b < w6.heap.size → v.ownBlock ≠ some b → w7.heap[b]? = w6.heap[b]? := fun b hb hne => by
    rw [hgrow.block b (by rw [size_alloc]; omega) (Ne.symm hne), Below.heap_alloc _ _ _ (by omega)]
  have hg : KB + 1 ≤ g := (hown.lt g rfl).1
  have hvlt : ∀ b, v.ownBlock = some b → b < w5.heap.size := fun b e => (h.own.lt b e).2
  refine ⟨?_, ?_, ?_, ?_⟩
  · rw [Below.heap_setCell _ _ _ _ (show M ≠ KB by omega), blk M hM (own_no h.own (by omega)), h.map]
    simp
  · have := blk_set ((blk KB hK (own_no h.own (by omega))).trans h.kit) 1 (.slice (some ⟨g, 0, none⟩) (ts.length + 1) cap)
    simpa using this
  · have : (ts ++ [RowAt.mk r A1 c1]).flatMap RowAt.cells = ts.flatMap RowAt.cells ++ (RowAt.mk r A1 c1).cells := by simp
    rw [this, List.length_append]
    refine ⟨hown.1, ?_⟩
    rcases hown.2 with h2 | ⟨g', cap', cur, e1, e2, e3, e4⟩
    · exact .inl h2
    · exact .inr ⟨g', cap', cur, e1, e2, by rw [Below.heap_setCell _ _ _ _ (show g' ≠ KB by omega)]; exact e3, e4⟩
  · intro k hk
    rw [List.length_append] at hk
    have hlate : ∀ b, b ≠ KB → b < w6.heap.size → v.ownBlock ≠ some b → ∀ o, (w7.setCell ⟨KB, 1, none⟩ (.slice (some ⟨g, 0, none⟩) (ts.length + 1) cap)).cell? ⟨b, o, none⟩ = w6.cell? ⟨b, o, none⟩ := fun b h1 h2 h3 o => by
      rw [cell_far _ _ h1]; exact World.cell?_of_block (a := ⟨b, o, none⟩) (blk6 b h2 h3)
    by_cases hkt : k < ts.length
    · rw [List.getElem_append_left hkt]
      refine (h.names k hkt).keep (fun b o hs => ?_) (fun b hs => ⟨hs.1, by rw [size_set]; have := hs.2.1; omega, ?_⟩)
      · rw [hlate b (by have := hs.1; omega) (by have := hs.2.1; omega) hs.2.2]
        exact hb6.cell (p := ⟨b, o, none⟩) hs.2.1
      · rcases hat with e | e
        · have := hs.2.2; rw [e] at this; exact this
        · intro e'; injection e' with e'; have := hs.2.1; have e'' : g = b := e'; omega
    · have hkk : k = ts.length := by simp at hk; omega
      have : (ts ++ [RowAt.mk r A1 c1])[k]'(by simp; omega) = ⟨r, A1, c1⟩ := by subst hkk; simp
      rw [this]
      refine hA1.keep (fun b o hs => ?_) (fun b hs => ⟨by have := hs.1; omega, by rw [size_set]; have := hs.2; omega, ?_⟩)
      · exact hlate b (by have := hs.1; omega) hs.2 (fun e => by have := hvlt b e; have := hs.1; omega) o
      · intro e'; injection e' with e'
        have e'' : g = b := e'
        have := hs.1; have := hs.2
        rcases hat with e | e
        · have := hvlt g e; omega
        · omega
theorem KitMid.kit_lt {w : World} {M KB : Nat} {name : ByteArray} {m v : Value} {ts : List RowAt} {r : RowD} (h : KitMid w M KB name m v ts r) : KB < w.heap.size := heap_lt h.kit
theorem KitMid.drew {w : World} {M KB : Nat} {name : ByteArray} {m v : Value} {ts : List RowAt} {r : RowD} (h : KitMid w M KB name m v ts r) : KitMid w.drew M KB name m v ts r :=
  ⟨h.map, h.kit, own_below h.own (Below.refl _ w).drew, h.names⟩
theorem KitMid.store {w5 w6 w7 : World} {M KB : Nat} {name : ByteArray} {m v : Value} {ts : List RowAt} {r : RowD} (h : KitMid w5 M KB name m v ts r) {Y : Obj}
    (hb6 : Below w5.heap.size w5 w6) (hgrow : (w6.alloc Y).grownBy w7 v.ownBlock) : w7.cell? ⟨KB, 1, none⟩ = some v ∧ w7.frozen? ⟨KB, 1, none⟩ = false := by
  have hs6 := hb6.size
  have hK := heap_lt h.kit
  have blk : w7.heap[KB]? = w5.heap[KB]? := by
    rw [hgrow.block KB (by rw [size_alloc]; omega) (Ne.symm (own_no h.own (by omega))), Below.heap_alloc _ _ _ (by omega), hb6.block KB hK]
  rw [h.kit] at blk
  exact ⟨by simp [World.cell?, blk], by simp [World.frozen?, blk]⟩
end Go.Proofs.YthjpphojddbbmaaGreatDoor
