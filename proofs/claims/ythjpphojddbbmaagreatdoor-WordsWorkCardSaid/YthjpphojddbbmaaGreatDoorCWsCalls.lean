/-
  A slice of calls (an operation's name, plain values), opened out of the row's datum. Conditions: none.
-/
import Derived.Test.YthjpphojddbbmaaGreatDoorCPlRow
import Derived.Test.YthjpphojddbbmaaGreatDoorCLawWordsWork
namespace Go.Proofs.YthjpphojddbbmaaGreatDoor
open Go.RowKit Go.WideShapes Go.ChangeShapes Go.ChangeAt
set_option linter.unusedVariables false

theorem op_c2 : Tryz.prog.cellsOf 27 = 2 := by kernel_rfl
theorem open_call {H : Type} {enc : TypeId × Value → H} {w : World} {spare : Nat → Bool} {held : Bool} {fuel : Nat} {cs : List Value} {x : DataW H × List MemPlace}
    (h : DataW.trod enc Tryz.prog w 0 spare held fuel 27 cs = some x) (hlt : ∀ p ∈ x.2, p.block < w.heap.size) (hfit : Fit 27 x.1) :
    ∃ (op : ByteArray) (ps : List Pl) (A : Option Addr) (c : Nat), cs = [.string op, .slice A ps.length c] ∧ ps.length * 56 ≤ 140737488351232 ∧ Pls.lies w w.heap.size ps A := by
  obtain ⟨xs, n, hfu, rfl, hl, hlen, hf⟩ := DataW.trod_struct Tryz.underlying27 h
  rw [op_c2] at hl
  obtain ⟨v0, v1, rfl⟩ := len2 hl
  obtain ⟨x0, x1, rfl⟩ := len2 hlen
  have h0 : DataW.trod enc Tryz.prog w 0 spare held n 9 [v0] = some x0 := by
    have := hf 0 _ rfl
    simpa [op_c1s] using this
  have h1 : DataW.trod enc Tryz.prog w 0 spare held n 24 [v1] = some x1 := by
    have := hf 1 _ rfl
    simpa [op_c1l] using this
  obtain ⟨s, e0, rfl, _⟩ := DataW.trod_string Tryz.underlying9 h0
  simp only [List.cons.injEq, and_true] at e0
  subst e0
  obtain ⟨ps, A, c, rfl, hp, hpl⟩ := open_plains h1 (fun p hp => hlt p (List.mem_flatMap.2 ⟨x1, by simp, hp⟩)) (fun q hq => hfit q (by
    simp only [List.map_cons, List.map_nil, DataW.weights, Tryz.underlying27, DataW.weightsEach, List.nil_append, List.append_nil, List.cons_append]
    exact List.mem_cons_of_mem _ hq))
  exact ⟨s, ps, A, c, rfl, hp, hpl⟩
theorem open_calls {H : Type} {enc : TypeId × Value → H} {w : World} {spare : Nat → Bool} {held : Bool} {fuel : Nat} {v : Value} {x : DataW H × List MemPlace}
    (h : DataW.trod enc Tryz.prog w 0 spare held fuel 22 [v] = some x) (hlt : ∀ p ∈ x.2, p.block < w.heap.size) (hfit : Fit 22 x.1) :
    ∃ (A : Option Addr) (n c : Nat), v = .slice A n c ∧ (0 < n → ∃ b o, A = some ⟨b, o, none⟩ ∧ ∀ k, k < n → ∃ op ps A c, CallAt w b (o + k * 2) op ps A c) := by
  rcases DataW.trod_slice Tryz.underlying22 h with ⟨hcs, rfl⟩ | ⟨a, len, cap, elems, rest, n2, hn2, hcs, rfl, _, hle, hmx, hel, hx, _, _⟩
  · simp only [List.cons.injEq, and_true] at hcs
    subst hcs
    exact ⟨none, 0, 0, rfl, fun h => absurd h (by omega)⟩
  · simp only [List.cons.injEq, and_true] at hcs
    subst hcs
    refine ⟨some a, len, cap, rfl, fun hpos => ?_⟩
    have hone : ∀ i, i < len → ∃ (op : ByteArray) (ps : List Pl) (A : Option Addr) (c : Nat), ps.length * 56 ≤ 140737488351232 ∧ Pls.lies w w.heap.size ps A ∧ ∀ j, j < 2 → w.cell? ((a.add (i * 2)).add j) = [Value.string op, .slice A ps.length c][j]? := by
      intro i hi
      have key := hx i hi
      rw [List.getElem?_eq_getElem (by omega), op_c2] at key
      obtain ⟨cs', c1, c2⟩ := Option.bind_eq_some_iff.1 key
      obtain ⟨_, hcl, hcc⟩ := World.cells?_some c1
      have hmem : elems[i]'(by omega) ∈ elems := List.getElem_mem _
      obtain ⟨op, ps, A, c, rfl, hps, hpl⟩ := open_call c2 (fun q hq => hlt q (List.mem_append_right _ (List.mem_flatMap.2 ⟨_, List.mem_append_left _ hmem, hq⟩)))
        (fun q hq => hfit q (by
          simp only [DataW.weights, Tryz.underlying22]
          exact List.mem_cons_of_mem _ (List.mem_append_left _ (weightsAll_mem (List.mem_map.2 ⟨_, hmem, rfl⟩) q hq))))
      exact ⟨op, ps, A, c, hps, hpl, fun j hj => by rw [hcc j hj]⟩
    obtain ⟨op0, ps0, A0, c0, _, _, hy0⟩ := hone 0 hpos
    have h00 := hy0 0 (by omega)
    rw [show (a.add (0 * 2)).add 0 = a by simp [Addr.add]] at h00
    obtain ⟨b, o, sp⟩ := a
    have hsp := spot_none (h00.trans (show _ = some (.string op0) from rfl))
    subst hsp
    refine ⟨b, o, rfl, fun k hk => ?_⟩
    obtain ⟨op, ps, A, c, hps, hpl, hc⟩ := hone k hk
    simp only [add_add_none] at hc
    exact ⟨op, ps, A, c, hc 0 (by omega), hc 1 (by omega), hps, hpl⟩
end Go.Proofs.YthjpphojddbbmaaGreatDoor
