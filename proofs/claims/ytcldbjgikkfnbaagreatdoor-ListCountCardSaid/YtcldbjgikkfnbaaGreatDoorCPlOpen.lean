/-
  Plain values, and rows of them, opened out of a row's datum: how they lie in memory. Conditions: none.
-/
import Derived.Test.YtcldbjgikkfnbaaGreatDoorCPlTwin
import Derived.Deep.Slices
import Derived.ChangeSame
namespace Go.Proofs.YtcldbjgikkfnbaaGreatDoor
open Go.RowKit Go.WideShapes Go.ChangeShapes Go.ChangeAt
set_option linter.unusedVariables false

theorem size_data (s : ByteArray) : s.data.toList.length = s.size := by
  exact s.data.length_toList
theorem spot_none {w : World} {b o : Nat} {sp : Option Nat} {v : Value} (h : w.cell? ⟨b, o, sp⟩ = some v) : sp = none := by
  cases sp with
  | none => rfl
  | some x =>
    unfold World.cell? at h
    split at h <;> simp at h
theorem weightsAll_mem {H : Type} {P : Program} {e : TypeId} : ∀ {l : List (DataW H)} {d : DataW H}, d ∈ l → ∀ n ∈ d.weights P e, n ∈ DataW.weightsAll P e l
  | x :: l, d, h, n, hn => by
    simp only [DataW.weightsAll, List.mem_append]
    rcases List.mem_cons.1 h with rfl | h
    · exact Or.inl hn
    · exact Or.inr (weightsAll_mem h n hn)
/-- All that a datum weighs is within reach. -/
def Fit {H : Type} (t : TypeId) (d : DataW H) : Prop := ∀ n ∈ d.weights Tryz.prog t, n ≤ 140737488351232
theorem lies_build {w : World} {B b : Nat} : ∀ (n o : Nat), (∀ i, i < n → ∃ p : Pl, p.lies w B b (o + i * 4)) → ∃ l : List Pl, l.length = n ∧ Pls.lies w B l (some ⟨b, o, none⟩)
  | 0, o, h => ⟨[], rfl, by unfold Pls.lies; trivial⟩
  | n + 1, o, h => by
    obtain ⟨p, hp⟩ := h 0 (by omega)
    obtain ⟨l, hl, hs⟩ := lies_build n (o + 4) (fun i hi => by
      obtain ⟨q, hq⟩ := h (i + 1) (by omega)
      exact ⟨q, by rw [show o + 4 + i * 4 = o + (i + 1) * 4 by omega]; exact hq⟩)
    refine ⟨p :: l, by simp [hl], ?_⟩
    unfold Pls.lies
    exact ⟨b, o, rfl, by simpa using hp, hs⟩
theorem add_add_none (b o i j : Nat) : ((⟨b, o, none⟩ : Addr).add i).add j = ⟨b, o + i + j, none⟩ := by
  rw [Deep.add_add]
  unfold Addr.add
  split
  · simp_all
  · simp [Nat.add_assoc]
theorem op_c4 : Tryz.prog.cellsOf 31 = 4 := by kernel_rfl
theorem op_b4 : Tryz.prog.bytesOf 31 = 56 := by kernel_rfl
theorem op_c1 : Tryz.prog.cellsOf 3 = 1 := by kernel_rfl
theorem op_c1' : Tryz.prog.cellsOf 2 = 1 := by kernel_rfl
theorem op_c1s : Tryz.prog.cellsOf 9 = 1 := by kernel_rfl
theorem op_c1l : Tryz.prog.cellsOf 25 = 1 := by kernel_rfl
theorem len4 {α : Type} {l : List α} (h : l.length = 4) : ∃ a b c d, l = [a, b, c, d] := by
  match l, h with
  | [a, b, c, d], _ => exact ⟨a, b, c, d, rfl⟩
theorem rng_of_wf {n : Int} (h : (Lit.int .i64 n).wf = true) : rng n = true := by
  have h' : IntKind.i64.min ≤ n ∧ n ≤ 9223372036854775807 := by simpa [Lit.wf] using h
  exact rng_iff.mpr ⟨h'.1, h'.2⟩

theorem open_plain {H : Type} {enc : TypeId × Value → H} {w : World} {spare : Nat → Bool} {held : Bool} : ∀ (z fuel : Nat) (cs : List Value) (x : DataW H × List MemPlace), fuel ≤ z →
    DataW.trod enc Tryz.prog w 0 spare held fuel 31 cs = some x → (∀ p ∈ x.2, p.block < w.heap.size) → Fit 31 x.1 →
    ∃ (p : Pl) (A : Option Addr) (c : Nat), cs = [.int .i64 p.kind, .int .i64 p.num, .string p.text, .slice A p.list.length c] ∧ p.sane ∧ Pls.lies w w.heap.size p.list A := by
  intro z
  induction z with
  | zero =>
    intro fuel cs x hz h _ _
    obtain rfl : fuel = 0 := by omega
    simp [DataW.trod] at h
  | succ z ih =>
    intro fuel cs x hz h hlt hfit
    obtain ⟨xs, n, hfu, rfl, hl, hlen, hf⟩ := DataW.trod_struct Tryz.underlying31 h
    rw [op_c4] at hl
    obtain ⟨v0, v1, v2, v3, rfl⟩ := len4 hl
    obtain ⟨x0, x1, x2, x3, rfl⟩ := len4 hlen
    have h0 : DataW.trod enc Tryz.prog w 0 spare held n 3 [v0] = some x0 := by
      have := hf 0 _ rfl
      simpa [op_c1] using this
    have h1 : DataW.trod enc Tryz.prog w 0 spare held n 2 [v1] = some x1 := by
      have := hf 1 _ rfl
      simpa [op_c1'] using this
    have h2 : DataW.trod enc Tryz.prog w 0 spare held n 9 [v2] = some x2 := by
      have := hf 2 _ rfl
      simpa [op_c1s] using this
    have h3 : DataW.trod enc Tryz.prog w 0 spare held n 25 [v3] = some x3 := by
      have := hf 3 _ rfl
      simpa [op_c1l] using this
    obtain ⟨k, e0, rfl, g0⟩ := DataW.trod_int Tryz.underlying3 h0
    obtain ⟨m, e1, rfl, g1⟩ := DataW.trod_int Tryz.underlying2 h1
    obtain ⟨s, e2, rfl, _⟩ := DataW.trod_string Tryz.underlying9 h2
    simp only [List.cons.injEq, and_true] at e0 e1 e2
    subst e0 e1 e2
    have m3 : ∀ p ∈ x3.2, p.block < w.heap.size := fun p hp => hlt p (List.mem_flatMap.2 ⟨x3, by simp, hp⟩)
    have hw : ∀ q ∈ s.data.toList.length :: x3.1.weights Tryz.prog 25, q ≤ 140737488351232 := fun q hq => hfit q (by
      simp only [List.map_cons, List.map_nil, DataW.weights, Tryz.underlying31, DataW.weightsEach, List.nil_append, List.append_nil, List.cons_append]
      exact hq)
    have hs : s.size ≤ 140737488351232 := by
      have := hw _ (List.mem_cons_self ..)
      exact (size_data s) ▸ this
    rcases DataW.trod_slice Tryz.underlying25 h3 with ⟨hcs, rfl⟩ | ⟨a, len, cap, elems, rest, n2, hn2, hcs, rfl, _, hle, hmx, hel, hx, _, _⟩
    · simp only [List.cons.injEq, and_true] at hcs
      subst hcs
      exact ⟨.mk k m s [], none, 0, rfl, ⟨rng_of_wf g0, rng_of_wf g1, hs, by simp [Pl.list]⟩, by unfold Pl.list Pls.lies; trivial⟩
    · simp only [List.cons.injEq, and_true] at hcs
      subst hcs
      have hsl : elems.length * 56 ≤ 140737488351232 := by
        have := hw ((elems.length + rest.length) * 56) (List.mem_cons_of_mem _ (by simp [DataW.weights, Tryz.underlying25, op_b4]))
        omega
      rcases Nat.eq_zero_or_pos len with hz0 | hpos
      · subst hz0
        exact ⟨.mk k m s [], some a, cap, rfl, ⟨rng_of_wf g0, rng_of_wf g1, hs, by simp [Pl.list]⟩, by unfold Pl.list Pls.lies; trivial⟩
      · have hone : ∀ i, i < len → ∃ p : Pl, ∃ A c, p.sane ∧ Pls.lies w w.heap.size p.list A ∧ ∀ j, j < 4 → w.cell? ((a.add (i * 4)).add j) = [Value.int .i64 p.kind, .int .i64 p.num, .string p.text, .slice A p.list.length c][j]? := by
          intro i hi
          have key := hx i hi
          rw [List.getElem?_eq_getElem (by omega), op_c4] at key
          obtain ⟨cs', c1, c2⟩ := Option.bind_eq_some_iff.1 key
          obtain ⟨_, hcl, hcc⟩ := World.cells?_some c1
          have hmem : elems[i]'(by omega) ∈ elems := List.getElem_mem _
          obtain ⟨p, A, c, rfl, hps, hpl⟩ := ih n2 cs' _ (by omega) c2 (fun q hq => m3 q (List.mem_append_right _ (List.mem_flatMap.2 ⟨_, List.mem_append_left _ hmem, hq⟩)))
            (fun q hq => hw q (List.mem_cons_of_mem _ (by
              simp only [DataW.weights, Tryz.underlying25]
              exact List.mem_cons_of_mem _ (List.mem_append_left _ (weightsAll_mem (List.mem_map.2 ⟨_, hmem, rfl⟩) q hq)))))
          exact ⟨p, A, c, hps, hpl, fun j hj => by rw [hcc j hj]⟩
        obtain ⟨p0, A0, c0, _, _, hy0⟩ := hone 0 hpos
        have h00 := hy0 0 (by omega)
        rw [show (a.add (0 * 4)).add 0 = a by simp [Addr.add]] at h00
        obtain ⟨b, o, sp⟩ := a
        have hsp := spot_none (h00.trans (show _ = some (.int .i64 p0.kind) from rfl))
        subst hsp
        have hbl : b < w.heap.size := World.block_lt_of_cell? _ _ (h00.trans (show _ = some (.int .i64 p0.kind) from rfl))
        obtain ⟨l, hll, hlies⟩ := lies_build (w := w) (B := w.heap.size) (b := b) len o (fun i hi => by
          obtain ⟨p, A, c, hps, hpl, hc⟩ := hone i hi
          simp only [add_add_none] at hc
          refine ⟨p, ?_⟩
          obtain ⟨pk, pn, pt, pl⟩ := p
          unfold Pl.lies
          exact ⟨hbl, hc 0 (by omega), hc 1 (by omega), hc 2 (by omega), hps.1, hps.2.1, hps.2.2.1, hps.2.2.2, A, c, hc 3 (by omega), hpl⟩)
        refine ⟨.mk k m s l, some ⟨b, o, none⟩, cap, ?_, ⟨rng_of_wf g0, rng_of_wf g1, hs, ?_⟩, hlies⟩
        · simp [Pl.kind, Pl.num, Pl.text, Pl.list, hll]
        · simp only [Pl.list, hll]
          omega
/-- A slice of plain values, opened. -/
theorem open_plains {H : Type} {enc : TypeId × Value → H} {w : World} {spare : Nat → Bool} {held : Bool} {fuel : Nat} {v : Value} {x : DataW H × List MemPlace}
    (h : DataW.trod enc Tryz.prog w 0 spare held fuel 25 [v] = some x) (hlt : ∀ p ∈ x.2, p.block < w.heap.size) (hfit : Fit 25 x.1) :
    ∃ (l : List Pl) (A : Option Addr) (c : Nat), v = .slice A l.length c ∧ l.length * 56 ≤ 140737488351232 ∧ Pls.lies w w.heap.size l A := by
  rcases DataW.trod_slice Tryz.underlying25 h with ⟨hcs, rfl⟩ | ⟨a, len, cap, elems, rest, n2, hn2, hcs, rfl, _, hle, hmx, hel, hx, _, _⟩
  · simp only [List.cons.injEq, and_true] at hcs
    subst hcs
    exact ⟨[], none, 0, rfl, by simp, by unfold Pls.lies; trivial⟩
  · simp only [List.cons.injEq, and_true] at hcs
    subst hcs
    have hsl : elems.length * 56 ≤ 140737488351232 := by
      have := hfit ((elems.length + rest.length) * 56) (by simp [DataW.weights, Tryz.underlying25, op_b4])
      omega
    rcases Nat.eq_zero_or_pos len with hz0 | hpos
    · subst hz0
      exact ⟨[], some a, cap, rfl, by simp, by unfold Pls.lies; trivial⟩
    · have hone : ∀ i, i < len → ∃ p : Pl, ∃ A c, p.sane ∧ Pls.lies w w.heap.size p.list A ∧ ∀ j, j < 4 → w.cell? ((a.add (i * 4)).add j) = [Value.int .i64 p.kind, .int .i64 p.num, .string p.text, .slice A p.list.length c][j]? := by
        intro i hi
        have key := hx i hi
        rw [List.getElem?_eq_getElem (by omega), op_c4] at key
        obtain ⟨cs', c1, c2⟩ := Option.bind_eq_some_iff.1 key
        obtain ⟨_, hcl, hcc⟩ := World.cells?_some c1
        have hmem : elems[i]'(by omega) ∈ elems := List.getElem_mem _
        obtain ⟨p, A, c, rfl, hps, hpl⟩ := open_plain _ n2 cs' _ (Nat.le_refl _) c2 (fun q hq => hlt q (List.mem_append_right _ (List.mem_flatMap.2 ⟨_, List.mem_append_left _ hmem, hq⟩)))
          (fun q hq => hfit q (by
            simp only [DataW.weights, Tryz.underlying25]
            exact List.mem_cons_of_mem _ (List.mem_append_left _ (weightsAll_mem (List.mem_map.2 ⟨_, hmem, rfl⟩) q hq))))
        exact ⟨p, A, c, hps, hpl, fun j hj => by rw [hcc j hj]⟩
      obtain ⟨p0, A0, c0, _, _, hy0⟩ := hone 0 hpos
      have h00 := hy0 0 (by omega)
      rw [show (a.add (0 * 4)).add 0 = a by simp [Addr.add]] at h00
      obtain ⟨b, o, sp⟩ := a
      have hsp := spot_none (h00.trans (show _ = some (.int .i64 p0.kind) from rfl))
      subst hsp
      have hbl : b < w.heap.size := World.block_lt_of_cell? _ _ (h00.trans (show _ = some (.int .i64 p0.kind) from rfl))
      obtain ⟨l, hll, hlies⟩ := lies_build (w := w) (B := w.heap.size) (b := b) len o (fun i hi => by
        obtain ⟨p, A, c, hps, hpl, hc⟩ := hone i hi
        simp only [add_add_none] at hc
        refine ⟨p, ?_⟩
        obtain ⟨pk, pn, pt, pl⟩ := p
        unfold Pl.lies
        exact ⟨hbl, hc 0 (by omega), hc 1 (by omega), hc 2 (by omega), hps.1, hps.2.1, hps.2.2.1, hps.2.2.2, A, c, hc 3 (by omega), hpl⟩)
      exact ⟨l, some ⟨b, o, none⟩, cap, by rw [hll], by omega, hlies⟩
end Go.Proofs.YtcldbjgikkfnbaaGreatDoor
