/-
  Rows that a text writes down: abilities ahead, each list a block, the rows behind. Plain. Conditions: none.
-/
import Derived.Test.YtjdpnljaichdmaaGreatDoorKitOf
namespace Go.Proofs.YtjdpnljaichdmaaGreatDoor
open Go.RowKit
set_option linter.unusedVariables false

def litNames (w : World) : List RowD → World
  | [] => w
  | r :: rs => litNames (w.alloc (.cells (r.abil.map Value.string).toArray 9)) rs
def litRows (b : Nat) : List RowD → List RowAt
  | [] => []
  | r :: rs => ⟨r, some ⟨b, 0, none⟩, r.abil.length⟩ :: litRows (b + 1) rs
def litWorld (w : World) (rs : List RowD) : World := (litNames w rs).alloc (.cells ((litRows w.heap.size rs).flatMap RowAt.cells).toArray 93)
theorem litRows_row : ∀ (rs : List RowD) (b : Nat), (litRows b rs).map RowAt.row = rs
  | [], _ => rfl
  | r :: rs, b => by simp [litRows, litRows_row rs]
theorem litRows_length (rs : List RowD) (b : Nat) : (litRows b rs).length = rs.length := by
  have := congrArg List.length (litRows_row rs b)
  simpa using this
theorem litNames_size : ∀ (rs : List RowD) (w : World), (litNames w rs).heap.size = w.heap.size + rs.length
  | [], w => rfl
  | r :: rs, w => by rw [litNames, litNames_size rs, size_alloc, List.length_cons]; omega
theorem litNames_below : ∀ (rs : List RowD) (B : Nat) (w0 w : World), B ≤ w.heap.size → Below B w0 w → Below B w0 (litNames w rs)
  | [], B, w0, w, _, h => h
  | r :: rs, B, w0, w, hB, h => litNames_below rs B w0 _ (by rw [size_alloc]; omega) (h.alloc hB _)
theorem litNames_at : ∀ (rs : List RowD) (w : World) (k : Nat) (hk : k < (litRows w.heap.size rs).length), ∃ b, (litRows w.heap.size rs)[k].at_ = some ⟨b, 0, none⟩ ∧ w.heap.size ≤ b ∧ b < w.heap.size + rs.length ∧ (litNames w rs).heap[b]? = some (.cells (((litRows w.heap.size rs)[k].row.abil).map Value.string).toArray 9)
  | [], w, k, hk => absurd hk (by simp [litRows])
  | r :: rs, w, 0, hk => ⟨w.heap.size, rfl, Nat.le_refl _, by simp, by
      have hb := litNames_below rs (w.heap.size + 1) _ (w.alloc (.cells (r.abil.map Value.string).toArray 9)) (by rw [size_alloc]; omega) (Below.refl _ _)
      exact (hb.block _ (Nat.lt_succ_self _)).trans (heap_alloc_new _ _)⟩
  | r :: rs, w, k + 1, hk => by
      have h := litNames_at rs (w.alloc (.cells (r.abil.map Value.string).toArray 9)) k (by rw [litRows_length]; rw [litRows_length] at hk; simpa using hk)
      obtain ⟨b, h1, h2, h3, h4⟩ := h
      rw [size_alloc] at h2 h3
      refine ⟨b, ?_, by omega, by simp; omega, ?_⟩
      · simpa [litRows, size_alloc] using h1
      · simpa [litRows, litNames, size_alloc] using h4
theorem cells_string (l : List ByteArray) (t : TypeId) {w : World} {b : Nat} (h : w.heap[b]? = some (.cells (l.map Value.string).toArray t)) (j : Nat) (hj : j < l.length) : w.cell? ⟨b, 0 + j, none⟩ = some (.string (l.getD j ByteArray.empty)) := by
  simp only [World.cell?, h, Nat.zero_add]
  simp [hj]
theorem lit_rows (w : World) (rs : List RowD) : RowsIn (litWorld w rs) (fresh w (litWorld w rs)) (litRows w.heap.size rs) (some ⟨w.heap.size + rs.length, 0, none⟩) ∧ Below w.heap.size w (litWorld w rs) := by
  have hs := litNames_size rs w
  have hx := heap_alloc_new (litNames w rs) (.cells ((litRows w.heap.size rs).flatMap RowAt.cells).toArray 93)
  have hz : (litWorld w rs).heap.size = w.heap.size + rs.length + 1 := by rw [litWorld, size_alloc, hs]
  rw [hs] at hx
  refine ⟨fun hl => ⟨_, 0, rfl, ⟨by omega, by omega⟩, fun k hk => ⟨fun j hj => ?_, fun hl2 => ?_⟩⟩, (litNames_below rs _ _ _ (Nat.le_refl _) (Below.refl _ _)).alloc (by omega) _⟩
  · have hf := flat_at (litRows w.heap.size rs) k hk j hj
    rw [← hf]
    show (litWorld w rs).cell? _ = _
    unfold litWorld
    simp only [World.cell?, hx, Nat.zero_add, List.getElem?_toArray]
    rfl
  · obtain ⟨b, h1, h2, h3, h4⟩ := litNames_at rs w k hk
    refine ⟨b, 0, h1, ⟨h2, by omega⟩, fun j hj => ?_⟩
    have h5 : (litWorld w rs).heap[b]? = some (.cells (((litRows w.heap.size rs)[k].row.abil).map Value.string).toArray 9) := (Below.heap_alloc _ _ _ (by rw [hs]; exact h3)).trans h4
    exact cells_string _ _ h5 j hj
theorem rows_at (w : World) (ts : List RowAt) {S : Nat → Prop} (hS : S w.heap.size) (hn : ∀ t ∈ ts, NamesIn (w.alloc (.cells (ts.flatMap RowAt.cells).toArray 93)) S t.row.abil t.at_) :
    RowsIn (w.alloc (.cells (ts.flatMap RowAt.cells).toArray 93)) S ts (some ⟨w.heap.size, 0, none⟩) := fun hl => ⟨_, 0, rfl, hS, fun k hk => ⟨fun j hj => by
  rw [← flat_at ts k hk j hj]
  simp only [World.cell?, heap_alloc_new, Nat.zero_add, List.getElem?_toArray]
  rfl, hn _ (List.getElem_mem hk)⟩⟩
theorem NamesIn.step {w0 w1 W : World} {B : Nat} {l : List ByteArray} {A : Option Addr} (h : NamesIn w1 (fresh w0 w1) l A) (h0 : B ≤ w0.heap.size) (hb : Below w1.heap.size w1 W) : NamesIn W (fun b => B ≤ b ∧ b < W.heap.size) l A :=
  h.keep (fun b o hs => hb.cell (p := ⟨b, o, none⟩) hs.2) (fun b hs => ⟨Nat.le_trans h0 hs.1, Nat.lt_of_lt_of_le hs.2 hb.size⟩)
end Go.Proofs.YtjdpnljaichdmaaGreatDoor
