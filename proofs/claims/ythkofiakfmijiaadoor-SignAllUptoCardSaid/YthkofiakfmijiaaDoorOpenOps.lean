/-
  A slice of operations, opened: its elements' texts and lists, their bounds by the bulk. Conditions: none.
-/
import Derived.Test.YthkofiakfmijiaaDoorSignRow
import Derived.Test.YthkofiakfmijiaaDoorLawAll
import Derived.Deep.Slices
import Derived.Lib.LaidU8
namespace Go.Proofs.YthkofiakfmijiaaDoor
open Go.RowKit Go.WideShapes Go.ChangeShapes Go.ChangeAt Go.Joins
set_option linter.unusedVariables false

theorem bulk_pos {H : Type} (d : DataW H) : 1 ≤ Rows.uptoBulk d := by
  cases d with
  | lit l => cases l <;> simp [Rows.uptoBulk]
  | _ => simp [Rows.uptoBulk]
theorem bulk_mem {H : Type} {d : DataW H} : ∀ {l : List (DataW H)}, d ∈ l → Rows.uptoBulk d ≤ Rows.uptoBulkAll l
  | x :: l, h => by
    simp only [Rows.uptoBulkAll]
    rcases List.mem_cons.1 h with rfl | h
    · omega
    · have := bulk_mem h; omega
theorem bulk_len {H : Type} : ∀ (l : List (DataW H)), l.length ≤ Rows.uptoBulkAll l
  | [] => Nat.le_refl _
  | x :: l => by
    have := bulk_len l
    have := bulk_pos x
    simp only [Rows.uptoBulkAll, List.length_cons]
    omega
theorem bulk_rd {H : Type} {d : DataW H} {l : List Int} (h : ∃ sp, d = .slice (lits .i64 l) sp ∨ (d = .nil ∧ l = [])) : l.length ≤ Rows.uptoBulk d := by
  obtain ⟨sp, rfl | ⟨rfl, rfl⟩⟩ := h
  · have := bulk_len (lits (H := H) .i64 l)
    rw [lits_length] at this
    simp only [Rows.uptoBulk]
    omega
  · simp
theorem len6 {α : Type} {l : List α} (h : l.length = 6) : ∃ a b c d e f, l = [a, b, c, d, e, f] := by
  match l, h with
  | [a, b, c, d, e, f], _ => exact ⟨a, b, c, d, e, f, rfl⟩
theorem c29 : Tryd.prog.cellsOf 29 = 6 := by kernel_rfl
theorem open_place {H : Type} {enc : TypeId × Value → H} {w : World} {spare : Nat → Bool} {held : Bool} {fuel : Nat} {u v : Value} {x : DataW H × List MemPlace}
    (h : DataW.trod enc Tryd.prog w 0 spare held fuel 27 [u, v] = some x) (hlt : ∀ p ∈ x.2, p.block < w.heap.size) :
    ∃ (f : ByteArray) (A : Option Addr) (l : List Int) (c : Nat), u = .string f ∧ v = .slice A l.length c ∧ RdI w w.heap.size A l ∧ (A = none → l = [] ∧ c = 0) ∧ f.size ≤ Rows.uptoBulk x.1 ∧ l.length ≤ Rows.uptoBulk x.1 := by
  obtain ⟨y0, y1, n, rfl, hl, h0, h1⟩ := trod_struct2 Tryd.underlying27 h
  have h0' : DataW.trod enc Tryd.prog w 0 spare held n 9 [u] = some y0 := by simpa [c9] using h0
  have h1' : DataW.trod enc Tryd.prog w 0 spare held n 25 [v] = some y1 := by
    have e : Tryd.prog.cellsOf 25 = 1 := by kernel_rfl
    simpa [e] using h1
  obtain ⟨f, e0, rfl, _⟩ := DataW.trod_string Tryd.underlying9 h0'
  simp only [List.cons.injEq, and_true] at e0
  subst e0
  obtain ⟨A, l, c, rfl, hR, hn, hs, _⟩ := open_rd Tryd.underlying25 Tryd.underlying3 c3 h1' (fun p hp => hlt p (List.mem_append_right _ hp))
  have := bulk_rd hs
  refine ⟨f, A, l, c, rfl, rfl, hR, hn, ?_, ?_⟩
  · simp only [Rows.uptoBulk, Rows.uptoBulkAll]
    rw [Lib.size_eq]
    omega
  · simp only [Rows.uptoBulk, Rows.uptoBulkAll]
    omega
theorem open_op {H : Type} {enc : TypeId × Value → H} {w : World} {spare : Nat → Bool} {held : Bool} {fuel : Nat} {cs : List Value} {x : DataW H × List MemPlace}
    (h : DataW.trod enc Tryd.prog w 0 spare held fuel 29 cs = some x) (hlt : ∀ p ∈ x.2, p.block < w.heap.size) (hb : Rows.uptoBulk x.1 ≤ 1048576) :
    ∃ y : OpD, y.Ok w w.heap.size ∧ cs = y.cells.toList := by
  obtain ⟨xs, n, _, rfl, hl, hlen, hf⟩ := DataW.trod_struct Tryd.underlying29 h
  rw [c29] at hl
  obtain ⟨v0, v1, v2, v3, v4, v5, rfl⟩ := len6 hl
  match xs, hlen with
  | [x0, x1, x2, x3], _ =>
    have h0 : DataW.trod enc Tryd.prog w 0 spare held n 3 [v0] = some x0 := by
      have := hf 0 _ rfl
      simpa [c3] using this
    have h1 : DataW.trod enc Tryd.prog w 0 spare held n 9 [v1] = some x1 := by
      have := hf 1 _ rfl
      simpa [c9] using this
    have h2 : DataW.trod enc Tryd.prog w 0 spare held n 27 [v2, v3] = some x2 := by
      have := hf 2 _ rfl
      simpa [c27] using this
    have h3 : DataW.trod enc Tryd.prog w 0 spare held n 27 [v4, v5] = some x3 := by
      have := hf 3 _ rfl
      simpa [c27] using this
    obtain ⟨k, e0, rfl, _⟩ := DataW.trod_int Tryd.underlying3 h0
    obtain ⟨s, e1, rfl, _⟩ := DataW.trod_string Tryd.underlying9 h1
    simp only [List.cons.injEq, and_true] at e0 e1
    subst e0 e1
    have m2 : ∀ p ∈ x2.2, p.block < w.heap.size := fun p hp => hlt p (List.mem_flatMap.2 ⟨x2, by simp, hp⟩)
    have m3 : ∀ p ∈ x3.2, p.block < w.heap.size := fun p hp => hlt p (List.mem_flatMap.2 ⟨x3, by simp, hp⟩)
    obtain ⟨f, A, l, c, rfl, rfl, hR, hn, bf, bl⟩ := open_place h2 m2
    obtain ⟨f2, A2, l2, c2, rfl, rfl, hR2, hn2, bf2, bl2⟩ := open_place h3 m3
    have hbb : s.size ≤ 1048576 ∧ Rows.uptoBulk x2.1 ≤ 1048576 ∧ Rows.uptoBulk x3.1 ≤ 1048576 := by
      simp only [List.map_cons, List.map_nil, Rows.uptoBulk, Rows.uptoBulkAll] at hb
      rw [Lib.size_eq]
      omega
    exact ⟨⟨k, s, f, f2, A, A2, l, l2, c, c2⟩, ⟨hbb.1, by show f.size ≤ _; omega, by show f2.size ≤ _; omega, by show l.length ≤ _; omega, by show l2.length ≤ _; omega, hn, hR, hR2⟩, rfl⟩
/-- The slice, opened: nil let in. -/
theorem open_ops {H : Type} {enc : TypeId × Value → H} {w : World} {held : Bool} {fuel : Nat} {v : Value} {x : DataW H × List MemPlace}
    (h : DataW.trod enc Tryd.prog w 0 (fun _ => true) held fuel 22 [v] = some x) (hlt : ∀ p ∈ x.2, p.block < w.heap.size) (hb : Rows.uptoBulk x.1 ≤ 1048576) :
    ∃ (A : Option Addr) (n c : Nat), v = .slice A n c ∧ n ≤ 1048576 ∧ OpsRd w A n := by
  rcases Deep.open_slice Tryd.underlying22 h with ⟨hcs, rfl⟩ | ⟨a, len, cap, m, n, D, Pl, hcs, _, hle, hm, hmm, rfl, hx⟩
  · simp only [List.cons.injEq, and_true] at hcs
    subst hcs
    exact ⟨none, 0, 0, rfl, by omega, fun h => absurd h (by simp)⟩
  · simp only [List.cons.injEq, and_true] at hcs
    subst hcs
    simp only [if_true] at hmm
    subst hmm
    rw [c29] at hx
    have hbe : Rows.uptoBulkAll ((List.range len).map D) ≤ 1048576 := by
      simp only [Rows.uptoBulk] at hb
      omega
    refine ⟨some a, len, _, rfl, ?_, fun hn => ?_⟩
    · have := bulk_len ((List.range len).map D)
      rw [List.length_map, List.length_range] at this
      omega
    · have hone : ∀ i, i < len → ∃ y : OpD, y.Ok w w.heap.size ∧ ∀ j, j < 6 → w.cell? ((a.add (i * 6)).add j) = y.cells[j]? := by
        intro i hi
        obtain ⟨cs, h1, h2⟩ := hx i (by omega)
        obtain ⟨_, hcl, hcc⟩ := World.cells?_some h1
        obtain ⟨y, hy, rfl⟩ := open_op h2 (fun p hp => hlt p (List.mem_append_right _ (List.mem_flatMap.2 ⟨i, List.mem_range.2 (by omega), hp⟩))) (Nat.le_trans (bulk_mem (List.mem_map.2 ⟨i, List.mem_range.2 hi, rfl⟩)) hbe)
        refine ⟨y, hy, fun j hj => ?_⟩
        rw [hcc j hj]
        simp
      obtain ⟨y0, _, hy0⟩ := hone 0 hn
      have h00 := hy0 0 (by omega)
      rw [show (a.add (0 * 6)).add 0 = a by simp [Addr.add]] at h00
      obtain ⟨b, o, sp⟩ := a
      have hsp := cell_spot (h00.trans (show y0.cells[0]? = some (.int .i64 y0.k) from rfl))
      subst hsp
      have hbl : b < w.heap.size := World.block_lt_of_cell? _ _ (h00.trans (show y0.cells[0]? = some (.int .i64 y0.k) from rfl))
      refine ⟨b, o, rfl, hbl, fun i hi => ?_⟩
      obtain ⟨y, hy, hc⟩ := hone i hi
      refine ⟨y, hy, fun j hj => ?_⟩
      rw [← hc j hj, Deep.add_add]
      congr 1
      unfold Addr.add
      split
      · simp
      · simp [Nat.add_assoc]
end Go.Proofs.YthkofiakfmijiaaDoor
