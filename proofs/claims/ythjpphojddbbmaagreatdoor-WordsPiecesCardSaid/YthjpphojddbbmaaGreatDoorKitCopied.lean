/-
  kit.copied: a walk. Conditions: the row lies in memory.
-/
import Derived.Test.YthjpphojddbbmaaGreatDoorKitMay
import Derived.Laws.ResultCell
namespace Go.Proofs.YthjpphojddbbmaaGreatDoor
open Go.RowKit
set_option linter.unusedVariables false

/-- A row in memory of its own. -/
def CopiedPost (r : RowD) (w : World) (e : Ending) (w' : World) : Prop := ∃ A c, e = .returned (r.val A c) ∧ NamesIn w' (fresh w w') r.abil A ∧ Below w.heap.size w w'
theorem names_of_own {w : World} {base g0 g1 : Nat} {l : List ByteArray} {v : Value} (h : w.ownsRow base 9 1 v l.length (l.map Value.string)) (h0 : g0 ≤ base) (h1 : w.heap.size ≤ g1) :
    ∃ A c, v = .slice A l.length c ∧ NamesIn w (fun b => g0 ≤ b ∧ b < g1) l A := by
  rcases h.2 with ⟨rfl, h2⟩ | ⟨g, cap, cur, rfl, _⟩
  · exact ⟨none, 0, by rw [h2], fun h => by omega⟩
  · have hlt := h.lt g rfl
    exact ⟨_, _, rfl, fun _ => ⟨g, 0, rfl, ⟨by omega, by omega⟩, fun j hj => by
      rw [Nat.zero_add, h.cellAt j (by omega)]; simp [hj]⟩⟩

set_option maxHeartbeats 400000 in
theorem kit_copied (r : RowD) (h0 : 0 < r.abil.length) (h1 : r.abil.length ≤ 140737488351) (A : Option Addr) (c : Nat) (w : World) (hA : NamesIn w (· < w.heap.size) r.abil A) :
    Calls Tryz.prog 68 #[r.val A c] w (CopiedPost r w) := by
  have HA := Lib.hid hA
  have hbx : Hid (Below w.heap.size w ((w.alloc (.cells #[.string r.kind, .int .i64 r.min, .int .i64 r.max, .bool r.num, .int .i64 r.text, .slice A r.abil.length c] 81)).alloc (.cells #[.string ⟨#[]⟩, .int .i64 0, .int .i64 0, .bool false, .int .i64 0, .slice none 0 0] 81))) := ((Below.refl _ _).alloc (Nat.le_refl _) _).alloc (by simp) _
  obtain ⟨b, o, rfl, hb, hc⟩ := hA h0
  have hcl := Lib.hid (Tryz.slices_Clone_string b o r.abil.length c r.abil ((w.alloc (.cells #[.string r.kind, .int .i64 r.min, .int .i64 r.max, .bool r.num, .int .i64 r.text, .slice (some ⟨b, o, none⟩) r.abil.length c] 81)).alloc (.cells #[.string ⟨#[]⟩, .int .i64 0, .int .i64 0, .bool false, .int .i64 0, .slice none 0 0] 81)) (Nat.le_refl _) (by omega) (fun j hj => (hbx.out.cell (p := ⟨b, o + j, none⟩) hb).trans (hc j hj)))
  clear hA hc
  unfold RowD.val
  go_enter Tryz.func68, Tryz.ntmps68
  go_wp2_with fail
  refine hcl.out.mono ?_
  rintro e w1 ⟨v, rfl, hown, _, hb1⟩
  rw [List.take_length] at hown
  have hsz2 : w.heap.size + 2 ≤ ((w.alloc (.cells #[.string r.kind, .int .i64 r.min, .int .i64 r.max, .bool r.num, .int .i64 r.text, .slice (some ⟨b, o, none⟩) r.abil.length c] 81)).alloc (.cells #[.string ⟨#[]⟩, .int .i64 0, .int .i64 0, .bool false, .int .i64 0, .slice none 0 0] 81)).heap.size := by simp
  obtain ⟨A1, c1, rfl, hA1⟩ := names_of_own hown (g0 := w.heap.size + 2) (g1 := w1.heap.size) hsz2 (Nat.le_refl _)
  have hs1 := hb1.size
  have hg := heap_alloc2 w (.cells #[.string r.kind, .int .i64 r.min, .int .i64 r.max, .bool r.num, .int .i64 r.text, .slice (some ⟨b, o, none⟩) r.abil.length c] 81) (.cells #[.string ⟨#[]⟩, .int .i64 0, .int .i64 0, .bool false, .int .i64 0, .slice none 0 0] 81)
  have b0 := (hb1.block w.heap.size (by simp; omega)).trans hg.1
  have b1 := (hb1.block (w.heap.size + 1) (by simp)).trans hg.2
  have HB := Lib.hid (hbx.out.trans (hb1.mono (by simp; omega)))
  have HA1 := Lib.hid hA1
  have e0 : ∀ j, w1.cell? ⟨w.heap.size, j, none⟩ = (#[.string r.kind, .int .i64 r.min, .int .i64 r.max, .bool r.num, .int .i64 r.text, .slice (some ⟨b, o, none⟩) r.abil.length c] : Array Value)[j]? := fun j => by simp [World.cell?, b0]
  have f0 : ∀ j, w1.cell? ⟨w.heap.size + 1, j, none⟩ = (#[.string ⟨#[]⟩, .int .i64 0, .int .i64 0, .bool false, .int .i64 0, .slice none 0 0] : Array Value)[j]? := fun j => by simp [World.cell?, b1]
  have g0 : ∀ j, w1.frozen? ⟨w.heap.size, j, none⟩ = false := fun j => by simp [World.frozen?, b0]
  have g1 : ∀ j, w1.frozen? ⟨w.heap.size + 1, j, none⟩ = false := fun j => by simp [World.frozen?, b1]
  simp at hs1
  have B1 := Lib.hid b1
  clear hown hb1 hA1 hg b0 b1 hsz2
  go_wp2
  have hres := run_loadVar_row (P := Tryz.prog) _ _ _ 81 _ _ _ (blk_set (blk_set (blk_set (blk_set (blk_set (blk_set (blk_far B1.out (p := ⟨w.heap.size, 5, none⟩) (by simp) (.slice A1 r.abil.length c1)) 0 (.string r.kind)) 1 (.int .i64 r.min)) 2 (.int .i64 r.max)) 3 (.bool r.num)) 4 (.int .i64 r.text)) 5 (.slice A1 r.abil.length c1)) Tryz.underlying81 rfl (by kernel_rfl)
  refine bodyPost_ret (fn := Tryz.f68) (v := r.val A1 c1) ?_ ?_ ?_
  · skip
    refine results_cell (p := 2) (ty := 81) (a := ⟨w.heap.size + 1, 0, none⟩) Tryz.results68 ?_ ?_
    · skip
      rfl
    · skip
      exact hres
  · rfl
  have hsz : (((((((w1.setCell ⟨w.heap.size, 5, none⟩ (.slice A1 r.abil.length c1)).setCell ⟨w.heap.size + 1, 0, none⟩ (.string r.kind)).setCell ⟨w.heap.size + 1, 1, none⟩ (.int .i64 r.min)).setCell ⟨w.heap.size + 1, 2, none⟩ (.int .i64 r.max)).setCell ⟨w.heap.size + 1, 3, none⟩ (.bool r.num)).setCell ⟨w.heap.size + 1, 4, none⟩ (.int .i64 r.text)).setCell ⟨w.heap.size + 1, 5, none⟩ (.slice A1 r.abil.length c1)).heap.size = w1.heap.size := by
    rw [size_set, size_set, size_set, size_set, size_set, size_set, size_set]
  refine ⟨A1, c1, rfl, HA1.out.keep (fun b o hb => ?_) (fun b hb => ⟨by have := hb.1; omega, by rw [hsz]; exact hb.2⟩), ?_⟩
  · skip
    have h2 := hb.1
    have n0 : b ≠ w.heap.size := by omega
    have n1 : b ≠ w.heap.size + 1 := by omega
    rw [cell_far _ _ (p := ⟨w.heap.size + 1, 5, none⟩) n1, cell_far _ _ (p := ⟨w.heap.size + 1, 4, none⟩) n1, cell_far _ _ (p := ⟨w.heap.size + 1, 3, none⟩) n1, cell_far _ _ (p := ⟨w.heap.size + 1, 2, none⟩) n1, cell_far _ _ (p := ⟨w.heap.size + 1, 1, none⟩) n1, cell_far _ _ (p := ⟨w.heap.size + 1, 0, none⟩) n1, cell_far _ _ (p := ⟨w.heap.size, 5, none⟩) n0]
  · skip
    exact (((((((HB.out.setCell (p := ⟨w.heap.size, 5, none⟩) (Nat.le_refl _) _).setCell (p := ⟨w.heap.size + 1, 0, none⟩) (Nat.le_succ _) _).setCell (p := ⟨w.heap.size + 1, 1, none⟩) (Nat.le_succ _) _).setCell (p := ⟨w.heap.size + 1, 2, none⟩) (Nat.le_succ _) _).setCell (p := ⟨w.heap.size + 1, 3, none⟩) (Nat.le_succ _) _).setCell (p := ⟨w.heap.size + 1, 4, none⟩) (Nat.le_succ _) _).setCell (p := ⟨w.heap.size + 1, 5, none⟩) (Nat.le_succ _) _)
end Go.Proofs.YthjpphojddbbmaaGreatDoor
