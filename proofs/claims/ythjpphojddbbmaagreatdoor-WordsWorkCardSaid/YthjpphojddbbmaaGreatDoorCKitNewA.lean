/-
  Texts of a proof in one: KitNewA, KitNewB. Conditions: each names its own.
-/
import Derived.Test.YthjpphojddbbmaaGreatDoorCKitMay
import Derived.Test.YthjpphojddbbmaaGreatDoorCMapLaws
import Derived.Deep.AppendLies
/-
  kit.New: what its memory is like, and laws for its steps. Conditions: none.
-/
namespace Go.Proofs.YthjpphojddbbmaaGreatDoor
open Go.RowKit
set_option linter.unusedVariables false

/-- A block of its own. -/
def setB (w : World) (r : Nat) (o : Obj) : World := { w with heap := w.heap.setIfInBounds r o }
theorem setB_size (w : World) (r : Nat) (o : Obj) : (setB w r o).heap.size = w.heap.size := by simp [setB]
theorem setB_far (w : World) {r k : Nat} (o : Obj) (h : k ≠ r) : (setB w r o).heap[k]? = w.heap[k]? := by
  simp [setB, Ne.symm h]
theorem setB_at {w : World} {r : Nat} (o : Obj) (h : r < w.heap.size) : (setB w r o).heap[r]? = some o := by
  simp [setB, h]
theorem setB_below {w0 w : World} {B : Nat} {r : Nat} (o : Obj) (h : Below B w0 w) (hr : B ≤ r) : Below B w0 (setB w r o) :=
  ⟨h.os, h.tape, h.output, by rw [setB_size]; exact h.size, fun k hk => by rw [setB_far _ _ (by omega)]; exact h.block k hk⟩
theorem setB_own {w : World} {r base : Nat} {e : TypeId} {size : Nat} {v : Value} {n : Nat} {xs : List Value} (o : Obj) (h : w.ownsRow base e size v n xs) (hr : r < base) : (setB w r o).ownsRow base e size v n xs := by
  refine ⟨h.1, ?_⟩
  rcases h.2 with h2 | ⟨g, cap, cur, e1, e2, e3, e4⟩
  · exact .inl h2
  · exact .inr ⟨g, cap, cur, e1, e2, by rw [setB_far _ _ (by omega)]; exact e3, e4⟩

section
variable {P : Program}
theorem run_update_new {T K E : TypeId} (hT : P.underlying T = some (.map K E)) (hK : P.underlying K = some .string) {r : Nat} (es : Array MapEntry) (c : Nat) (s : ByteArray) (v : Value) (w : World) (hb : w.heap[r]? = some (.map es c))
    (hf : Instr.findNow .string (.string s) es.toList 0 = some none) :
    (Instr.mapUpdate T (.map (some r)) (.string s) v).run P w = .ok () (setB w r (.map (es.push ⟨.string s, v, c⟩) (c + 1))) := by
  unfold Instr.mapUpdate
  simp only [Sem.run_bind, run_underlying hT, Result.andThen_ok, get_map hb, run_check_str hK, find_str hK hf, set_map _ hb]
  rfl
theorem wpList_update_new {ops : Array Oper} {rest : List Oper} {o : Oper} {a : Act} {Q : Exit → Act → World → Prop} (w : World) (hgd : o.guard = none) (T K E : TypeId) (m k v : Operand) (ho : o.op = .mapUpdate T m k v)
    (hT : P.underlying T = some (.map K E)) (hK : P.underlying K = some .string) {r : Nat} (es : Array MapEntry) (c : Nat) (s : ByteArray) (hm : a.eval m = .map (some r)) (hk : a.eval k = .string s) (hb : w.heap[r]? = some (.map es c))
    (hf : Instr.findNow .string (.string s) es.toList 0 = some none)
    (h : wpList P ops Q rest (a.put o.dst undef) (setB w r (.map (es.push ⟨.string s, a.eval v, c⟩) (c + 1)))) : wpList P ops Q (o :: rest) a w :=
  wpList_plain hgd fun K' hK' => by
    unfold Oper.wp execOp
    simp only [ho, hm, hk, Sem.run_bind, run_update_new hT hK es c s (a.eval v) w hb hf, Result.andThen_ok, Sem.run_pure, Oper.upon]
    exact hK' _ _ h
end

theorem bytes_ne {a b : ByteArray} (h : a ≠ b) : (a == b) = false := by
  cases e : a == b
  · rfl
  · exact absurd ((MapKept.bytes_beq a b).mp e) h
theorem bytes_same (a : ByteArray) : (a == a) = true := (MapKept.bytes_beq a a).mpr rfl

/-- The entries of a kit's map. -/
def entr : List RowD → Nat → List MapEntry
  | [], _ => []
  | r :: l, j => ⟨.string r.kind, .int .i64 (j : Int), j⟩ :: entr l (j + 1)
theorem entr_snoc (l : List RowD) (r : RowD) : ∀ j, entr (l ++ [r]) j = entr l j ++ [⟨.string r.kind, .int .i64 ((j + l.length : Nat) : Int), j + l.length⟩] := by
  induction l with
  | nil => intro j; rfl
  | cons a l ih => intro j; simp only [List.cons_append, entr, ih, List.length_cons]; rw [show j + 1 + l.length = j + (l.length + 1) by omega]
theorem entr_push (l : List RowD) (r : RowD) : (entr l 0).toArray.push ⟨.string r.kind, .int .i64 (l.length : Int), l.length⟩ = (entr (l ++ [r]) 0).toArray := by
  rw [entr_snoc]; simp
theorem find_none (l : List RowD) (s : ByteArray) (h : ∀ r ∈ l, r.kind ≠ s) : ∀ j i, Instr.findNow .string (.string s) (entr l j) i = some none := by
  induction l with
  | nil => intro j i; rfl
  | cons a l ih =>
    intro j i
    have h1 : (s == a.kind) = false := bytes_ne (h a (by simp)).symm
    simp only [entr, Instr.findNow, Instr.sameNow, h1]
    exact ih (fun r hr => h r (by simp [hr])) _ _
theorem find_some (l : List RowD) (s : ByteArray) : ∀ (n : Nat) (hn : n < l.length), l[n].kind = s → (∀ m (hm : m < n), (l[m]'(by omega)).kind ≠ s) → ∀ j i, Instr.findNow .string (.string s) (entr l j) i = some (some (i + n, .int .i64 ((j + n : Nat) : Int))) := by
  induction l with
  | nil => intro n hn; simp at hn
  | cons a l ih =>
    intro n hn hk hm j i
    cases n with
    | zero =>
      have h1 : (s == a.kind) = true := by rw [show s = a.kind from hk.symm]; exact bytes_same _
      simp only [entr, Instr.findNow, Instr.sameNow, h1]; rfl
    | succ n =>
      have h1 : (s == a.kind) = false := bytes_ne (hm 0 (by omega)).symm
      simp only [entr, Instr.findNow, Instr.sameNow, h1]
      rw [ih n (by simpa using hn) (by simpa using hk) (fun m hm' => by simpa using hm (m + 1) (by omega)) (j + 1) (i + 1)]
      simp only [Option.some.injEq, Prod.mk.injEq, Value.int.injEq, true_and]
      omega

/-- A row in memory: its data, its list's place, its list's capacity. -/
structure RowAt where
  row : RowD
  at_ : Option Addr
  cap : Nat
def RowAt.cells (t : RowAt) : List Value := [.string t.row.kind, .int .i64 t.row.min, .int .i64 t.row.max, .bool t.row.num, .int .i64 t.row.text, .slice t.at_ t.row.abil.length t.cap]
theorem cells_one (t : RowAt) : ∀ u ∈ t.cells, u.oneCell' = true := by
  intro u hu
  simp only [RowAt.cells, List.mem_cons, List.not_mem_nil, or_false] at hu
  rcases hu with rfl | rfl | rfl | rfl | rfl | rfl <;> rfl
theorem flat_length (l : List RowAt) : (l.flatMap RowAt.cells).length = l.length * 6 := by
  induction l with
  | nil => rfl
  | cons a l ih => simp only [List.flatMap_cons, List.length_append, ih, List.length_cons, RowAt.cells]; simp; omega
theorem flat_at (l : List RowAt) : ∀ (k : Nat) (hk : k < l.length) (j : Nat), j < 6 → (l.flatMap RowAt.cells)[k * 6 + j]? = (l[k].cells)[j]? := by
  induction l with
  | nil => intro k hk; simp at hk
  | cons a l ih =>
    intro k hk j hj
    cases k with
    | zero =>
      simp only [List.flatMap_cons, List.getElem_cons_zero, Nat.zero_mul, Nat.zero_add]
      rw [List.getElem?_append_left (by simpa [RowAt.cells] using hj)]
    | succ k =>
      simp only [List.flatMap_cons, List.getElem_cons_succ]
      rw [List.getElem?_append_right (by simp [RowAt.cells]; omega)]
      rw [show (k + 1) * 6 + j - a.cells.length = k * 6 + j by simp [RowAt.cells]; omega]
      exact ih k (by simpa using hk) j hj

/-- Rows as an argument. -/
def RowsIn (w : World) (S : Nat → Prop) (ts : List RowAt) (A : Option Addr) : Prop :=
  0 < ts.length → ∃ b o, A = some ⟨b, o, none⟩ ∧ S b ∧ (∀ k (h : k < ts.length), (∀ j, j < 6 → w.cell? ⟨b, o + k * 6 + j, none⟩ = ts[k].cells[j]?) ∧ NamesIn w S ts[k].row.abil ts[k].at_)
theorem RowsIn.below {w w' : World} {B : Nat} {ts : List RowAt} {A : Option Addr} (h : RowsIn w (· < B) ts A) (hb : Below B w w') : RowsIn w' (· < B) ts A := fun hl => by
  obtain ⟨b, o, e, hs, hc⟩ := h hl
  exact ⟨b, o, e, hs, fun k hk => ⟨fun j hj => (hb.cell (p := ⟨b, _, none⟩) hs).trans ((hc k hk).1 j hj), (hc k hk).2.below hb⟩⟩

/-- What a kit's memory is: the map's block, the kit's block, the rows. -/
structure KitIn (w : World) (M KB : Nat) (name : ByteArray) (m : Value) (v : Value) (ts : List RowAt) : Prop where
  map : w.heap[M]? = some (.map (entr (ts.map RowAt.row) 0).toArray ts.length)
  kit : w.heap[KB]? = some (.cells #[.string name, v, .map (some M), m] 94)
  own : w.ownsRow (KB + 1) 81 6 v ts.length (ts.flatMap RowAt.cells)
  names : ∀ k (h : k < ts.length), NamesIn w (fun b => KB < b ∧ b < w.heap.size ∧ v.ownBlock ≠ some b) ts[k].row.abil ts[k].at_
theorem KitIn.below {w w' : World} {M KB : Nat} {name : ByteArray} {m v : Value} {ts : List RowAt} (h : KitIn w M KB name m v ts) (hb : Below w.heap.size w w') : KitIn w' M KB name m v ts := by
  have hlt : ∀ {k : Nat} {o : Obj}, w.heap[k]? = some o → k < w.heap.size := fun {k o} h => by
    rcases Nat.lt_or_ge k w.heap.size with h' | h'
    · exact h'
    · rw [Array.getElem?_eq_none h'] at h; cases h
  exact ⟨(hb.block _ (hlt h.map)).trans h.map, (hb.block _ (hlt h.kit)).trans h.kit, own_below h.own hb, fun k hk => (h.names k hk).keep (fun b o hs => hb.cell (p := ⟨b, o, none⟩) hs.2.1) (fun b hs => ⟨hs.1, Nat.lt_of_lt_of_le hs.2.1 hb.size, hs.2.2⟩)⟩
theorem heap_lt {w : World} {k : Nat} {o : Obj} (h : w.heap[k]? = some o) : k < w.heap.size := by
  rcases Nat.lt_or_ge k w.heap.size with h' | h'
  · exact h'
  · rw [Array.getElem?_eq_none h'] at h; cases h
theorem KitIn.map_lt {w : World} {M KB : Nat} {name : ByteArray} {m v : Value} {ts : List RowAt} (h : KitIn w M KB name m v ts) : M < w.heap.size := heap_lt h.map
theorem KitIn.kit_lt {w : World} {M KB : Nat} {name : ByteArray} {m v : Value} {ts : List RowAt} (h : KitIn w M KB name m v ts) : KB < w.heap.size := heap_lt h.kit
/-- A kit of which the map has one row more than the rows. -/
structure KitMid (w : World) (M KB : Nat) (name : ByteArray) (m : Value) (v : Value) (ts : List RowAt) (r : RowD) : Prop where
  map : w.heap[M]? = some (.map (entr (ts.map RowAt.row ++ [r]) 0).toArray (ts.length + 1))
  kit : w.heap[KB]? = some (.cells #[.string name, v, .map (some M), m] 94)
  own : w.ownsRow (KB + 1) 81 6 v ts.length (ts.flatMap RowAt.cells)
  names : ∀ k (h : k < ts.length), NamesIn w (fun b => KB < b ∧ b < w.heap.size ∧ v.ownBlock ≠ some b) ts[k].row.abil ts[k].at_
theorem KitIn.entry {w : World} {M KB : Nat} {name : ByteArray} {m v u : Value} {ts : List RowAt} (h : KitIn w M KB name m v ts) (hMK : M < KB) (r : RowD) {k : Nat} (hl : ts.length = k) (hu : u = .int .i64 (k : Int) := by rfl) :
    KitMid (setB w.drew M (.map ((entr (ts.map RowAt.row) 0).toArray.push ⟨.string r.kind, u, ts.length⟩) (ts.length + 1))) M KB name m v ts r := by
  subst hl hu
  refine ⟨?_, ?_, ?_, ?_⟩
  · rw [setB_at _ (show M < w.drew.heap.size from h.map_lt)]
    have := entr_push (ts.map RowAt.row) r
    rw [List.length_map] at this
    rw [this]
  · rw [setB_far _ _ (by omega)]; exact h.kit
  · exact setB_own _ (own_below h.own (Below.refl _ w).drew) (by omega)
  · intro k hk
    refine (h.names k hk).keep (fun b o hs => ?_) (fun b hs => ⟨hs.1, by rw [setB_size]; exact hs.2.1, hs.2.2⟩)
    exact World.cell?_of_block (a := ⟨b, o, none⟩) (by rw [setB_far _ _ (by have := hs.1; show b ≠ M; omega)]; rfl)
end Go.Proofs.YthjpphojddbbmaaGreatDoor

/-
  kit.New: the step that adds a row. Conditions: none.
-/
namespace Go.Proofs.YthjpphojddbbmaaGreatDoor
open Go.RowKit
set_option linter.unusedVariables false

theorem info_row : (Tryz.prog.info? 81).map (fun i => (i.zero, i.size, i.bytes)) = some (some (.agg #[.string ⟨#[]⟩, .int .i64 0, .int .i64 0, .bool false, .int .i64 0, .slice none 0 0]), 6, 72) := by kernel_rfl

theorem own_no {w : World} {base : Nat} {e : TypeId} {size : Nat} {v : Value} {n : Nat} {xs : List Value} (h : w.ownsRow base e size v n xs) {b : Nat} (hb : b < base) : v.ownBlock ≠ some b := fun e => by
  have := (h.lt b e).1; omega

theorem KitMid.copied {w5 w6 w7 : World} {M KB : Nat} {name : ByteArray} {m v : Value} {ts : List RowAt} {r : RowD} (h : KitMid w5 M KB name m v ts r) (hMK : M < KB) {A1 : Option Addr} {c1 g cap : Nat} {Y : Obj}
    (hb6 : Below w5.heap.size w5 w6) (hA1 : NamesIn w6 (fresh w5 w6) r.abil A1) (hgrow : (w6.alloc Y).grownBy w7 v.ownBlock) (hat : v.ownBlock = some g ∨ g = w6.heap.size + 1)
    (hown : w7.ownsRow (KB + 1) 81 6 (.slice (some ⟨g, 0, none⟩) (ts.length + 1) cap) (ts.length + 1) (ts.flatMap RowAt.cells ++ (RowAt.mk r A1 c1).cells)) :
    KitIn (w7.setCell ⟨KB, 1, none⟩ (.slice (some ⟨g, 0, none⟩) (ts.length + 1) cap)) M KB name m (.slice (some ⟨g, 0, none⟩) (ts.length + 1) cap) (ts ++ [⟨r, A1, c1⟩]) := by
  have hs6 := hb6.size
  have hs7 := hgrow.size
  rw [size_alloc] at hs7
  have hM := heap_lt h.map
  have hK := heap_lt h.kit
  have blk : ∀ b, b < w5.heap.size → v.ownBlock ≠ some b → w7.heap[b]? = w5.heap[b]? := fun b hb hne => by
    rw [hgrow.block b (by rw [size_alloc]; omega) (Ne.symm hne), Below.heap_alloc _ _ _ (by omega), hb6.block b hb]
  have blk6 : ∀ b, b < w6.heap.size → v.ownBlock ≠ some b → w7.heap[b]? = w6.heap[b]? := fun b hb hne => by
    rw [hgrow.block b (by rw [size_alloc]; omega) (Ne.symm hne), Below.heap_alloc _ _ _ (by omega)]
  have hg : KB + 1 ≤ g := (hown.lt g rfl).1
  have hvlt : ∀ b, v.ownBlock = some b → b < w5.heap.size := fun b e => (h.own.lt b e).2
  refine ⟨?_, ?_, ?_, ?_⟩
  · rw [Below.heap_setCell _ _ _ _ (show M ≠ KB by omega), blk M hM (own_no h.own (by omega)), h.map]
    simp
  · have := blk_set ((blk KB hK (own_no h.own (by omega))).trans h.kit) 1 (.slice (some ⟨g, 0, none⟩) (ts.length + 1) cap)
    simpa using this
  · have : (ts ++ [RowAt.mk r A1 c1]).flatMap RowAt.cells = ts.flatMap RowAt.cells ++ (RowAt.mk r A1 c1).cells := by simp
    rw [this, List.length_append]
    refine ⟨hown.1, ?_⟩
    rcases hown.2 with h2 | ⟨g', cap', cur, e1, e2, e3, e4⟩
    · exact .inl h2
    · exact .inr ⟨g', cap', cur, e1, e2, by rw [Below.heap_setCell _ _ _ _ (show g' ≠ KB by omega)]; exact e3, e4⟩
  · intro k hk
    rw [List.length_append] at hk
    have hlate : ∀ b, b ≠ KB → b < w6.heap.size → v.ownBlock ≠ some b → ∀ o, (w7.setCell ⟨KB, 1, none⟩ (.slice (some ⟨g, 0, none⟩) (ts.length + 1) cap)).cell? ⟨b, o, none⟩ = w6.cell? ⟨b, o, none⟩ := fun b h1 h2 h3 o => by
      rw [cell_far _ _ h1]; exact World.cell?_of_block (a := ⟨b, o, none⟩) (blk6 b h2 h3)
    by_cases hkt : k < ts.length
    · rw [List.getElem_append_left hkt]
      refine (h.names k hkt).keep (fun b o hs => ?_) (fun b hs => ⟨hs.1, by rw [size_set]; have := hs.2.1; omega, ?_⟩)
      · rw [hlate b (by have := hs.1; omega) (by have := hs.2.1; omega) hs.2.2]
        exact hb6.cell (p := ⟨b, o, none⟩) hs.2.1
      · rcases hat with e | e
        · have := hs.2.2; rw [e] at this; exact this
        · intro e'; injection e' with e'; have := hs.2.1; have e'' : g = b := e'; omega
    · have hkk : k = ts.length := by simp at hk; omega
      have : (ts ++ [RowAt.mk r A1 c1])[k]'(by simp; omega) = ⟨r, A1, c1⟩ := by subst hkk; simp
      rw [this]
      refine hA1.keep (fun b o hs => ?_) (fun b hs => ⟨by have := hs.1; omega, by rw [size_set]; have := hs.2; omega, ?_⟩)
      · exact hlate b (by have := hs.1; omega) hs.2 (fun e => by have := hvlt b e; have := hs.1; omega) o
      · intro e'; injection e' with e'
        have e'' : g = b := e'
        have := hs.1; have := hs.2
        rcases hat with e | e
        · have := hvlt g e; omega
        · omega
theorem KitMid.kit_lt {w : World} {M KB : Nat} {name : ByteArray} {m v : Value} {ts : List RowAt} {r : RowD} (h : KitMid w M KB name m v ts r) : KB < w.heap.size := heap_lt h.kit
theorem KitMid.drew {w : World} {M KB : Nat} {name : ByteArray} {m v : Value} {ts : List RowAt} {r : RowD} (h : KitMid w M KB name m v ts r) : KitMid w.drew M KB name m v ts r :=
  ⟨h.map, h.kit, own_below h.own (Below.refl _ w).drew, h.names⟩
theorem KitMid.store {w5 w6 w7 : World} {M KB : Nat} {name : ByteArray} {m v : Value} {ts : List RowAt} {r : RowD} (h : KitMid w5 M KB name m v ts r) {Y : Obj}
    (hb6 : Below w5.heap.size w5 w6) (hgrow : (w6.alloc Y).grownBy w7 v.ownBlock) : w7.cell? ⟨KB, 1, none⟩ = some v ∧ w7.frozen? ⟨KB, 1, none⟩ = false := by
  have hs6 := hb6.size
  have hK := heap_lt h.kit
  have blk : w7.heap[KB]? = w5.heap[KB]? := by
    rw [hgrow.block KB (by rw [size_alloc]; omega) (Ne.symm (own_no h.own (by omega))), Below.heap_alloc _ _ _ (by omega), hb6.block KB hK]
  rw [h.kit] at blk
  exact ⟨by simp [World.cell?, blk], by simp [World.frozen?, blk]⟩
end Go.Proofs.YthjpphojddbbmaaGreatDoor
