/-
  Texts of a proof in one: BookP, BookP2. Conditions: each names its own.
-/
import Derived.Test.YtcldbjgikkfnbaaGreatDoorCSavW
/-
  The book of lists that are written over with marks: what its walks carry. Plain. Conditions: none.
-/
namespace Go.Proofs.YtcldbjgikkfnbaaGreatDoor
open Go.RowKit
set_option linter.unusedVariables false

/-- A list that the book keeps. -/
structure Ent where
  A : Option Addr
  n : Nat
  c : Nat
def Ent.v (e : Ent) : Value := .slice e.A e.n e.c
def mk_ (j : Nat) : Value := .iface 43 (.int .i64 (-1000001 - (j : Int)))
/-- It bears its mark all over. -/
structure EntAt (w : World) (D : Nat → Prop) (j : Nat) (e : Ent) : Prop where
  form : (e.A = none ∧ e.n = 0 ∧ e.c = 0) ∨ ∃ g, e.A = some ⟨g, 0, none⟩ ∧ D g ∧ ∀ i, i < min e.c (e.n + 2000) → w.cell? ⟨g, i, none⟩ = some (mk_ j)
  small : e.n ≤ 65536
  cap : e.n ≤ e.c ∧ e.c ≤ maxLen
structure BookRow (w : World) (B Q : Nat) (v : Value) (es : List Ent) : Prop where
  blk : w.heap[Q]? = some (.cells #[v] 56 (0, 0))
  base : B ≤ Q
  row : w.ownsRow B 47 1 v es.length (es.map Ent.v)
def BookMarks (w : World) (D : Nat → Prop) (es : List Ent) : Prop := ∀ j e, es[j]? = some e → EntAt w D j e
/-- Blocks of rows of values. -/
def isRow (w : World) (k : Nat) : Prop := ∃ cur fz, w.heap[k]? = some (.cells cur 35 fz)
/-- Rows of values outside S are as they were. -/
structure SavT (S : Nat → Prop) (w w' : World) : Prop where
  os : w'.os = w.os
  tape : w'.tape = w.tape
  output : w'.output = w.output
  size : w.heap.size ≤ w'.heap.size
  block : ∀ k, k < w.heap.size → ¬ S k → isRow w k → w'.heap[k]? = w.heap[k]?
theorem SavT.refl (S : Nat → Prop) (w : World) : SavT S w w := ⟨rfl, rfl, rfl, Nat.le_refl _, fun _ _ _ _ => rfl⟩
theorem SavT.trans {S : Nat → Prop} {a b c : World} (h : SavT S a b) (h' : SavT S b c) : SavT S a c :=
  ⟨h'.os.trans h.os, h'.tape.trans h.tape, h'.output.trans h.output, Nat.le_trans h.size h'.size, fun k hk hs hr => (h'.block k (Nat.lt_of_lt_of_le hk h.size) hs (by obtain ⟨cur, fz, e⟩ := hr; exact ⟨cur, fz, (h.block k hk hs ⟨cur, fz, e⟩).trans e⟩)).trans (h.block k hk hs hr)⟩
theorem SavT.mono {S S' : Nat → Prop} {a b : World} (h : SavT S a b) (hS : ∀ k, S k → S' k) : SavT S' a b :=
  ⟨h.os, h.tape, h.output, h.size, fun k hk hs hr => h.block k hk (fun h1 => hs (hS k h1)) hr⟩
theorem SavT.of_below {S : Nat → Prop} {a b : World} (h : Below a.heap.size a b) : SavT S a b := ⟨h.os, h.tape, h.output, h.size, fun k hk _ _ => h.block k hk⟩
theorem SavT.of_sav {S : Nat → Prop} {a b : World} (h : Sav S a b) : SavT S a b := ⟨h.os, h.tape, h.output, h.size, fun k hk hs _ => h.block k hk hs⟩
theorem SavT.grown {S : Nat → Prop} {a b : World} {row : Option Nat} (hg : a.grownBy b row) (hr : ∀ g, row = some g → ¬ isRow a g) : SavT S a b :=
  ⟨hg.os, hg.tape, hg.output, hg.size, fun k hk hs hi => hg.block k hk (fun e => hr k e.symm hi)⟩
theorem SavT.set {S : Nat → Prop} (a : World) (p : Addr) (u : Value) (hp : ¬ isRow a p.block) : SavT S a (a.setCell p u) :=
  ⟨rfl, rfl, rfl, by rw [size_set]; exact Nat.le_refl _, fun k hk hs hi => Below.heap_setCell a p u k (fun e => by subst e; exact hp hi)⟩
/-- A value's blocks are rows of values. -/
theorem own_isRow {w : World} {base size n : Nat} {v : Value} {xs : List Value} (h : w.ownsRow base 35 size v n xs) {g : Nat} (hg : v.ownBlock = some g) : isRow w g := by
  rcases h.2 with ⟨e, _⟩ | ⟨g', cap, cur, e, _, h1, _⟩
  · subst e; cases hg
  · subst e; injection hg with hg; have hg' : g' = g := hg; subst hg'; exact ⟨cur, _, h1⟩
mutual
theorem Vl.sep.rows {w : World} : ∀ (x : Vl) (S : Nat → Prop) (v : Value), x.sep w S v → x.sep w (fun b => S b ∧ isRow w b) v
  | .unit, S, v, h => by unfold Vl.sep at h ⊢; exact h
  | .truth _, S, v, h => by unfold Vl.sep at h ⊢; exact h
  | .int _, S, v, h => by unfold Vl.sep at h ⊢; exact h
  | .text _, S, v, h => by unfold Vl.sep at h ⊢; exact h
  | .list l, S, v, h => by
    unfold Vl.sep at h ⊢
    obtain ⟨A, c, us, h1, h2, h3, h4⟩ := h
    exact ⟨A, c, us, h1, h2, fun g hg => ⟨h3 g hg, own_isRow h2 hg⟩, (Vls.sep.rows l _ us h4).mono (fun b hb => ⟨⟨hb.1.1, hb.2⟩, hb.1.2⟩)⟩
theorem Vls.sep.rows {w : World} : ∀ (l : List Vl) (S : Nat → Prop) (us : List Value), Vls.sep w l S us → Vls.sep w l (fun b => S b ∧ isRow w b) us
  | [], S, us, h => by unfold Vls.sep at h ⊢; exact h
  | x :: xs, S, us, h => by
    unfold Vls.sep at h ⊢
    obtain ⟨u, vs, S1, S2, h1, h2, h3, h4, h5, h6⟩ := h
    exact ⟨u, vs, _, _, h1, fun b hb => ⟨h2 b hb.1, hb.2⟩, fun b hb => ⟨h3 b hb.1, hb.2⟩, fun b hb hb' => h4 b hb.1 hb'.1, Vl.sep.rows x S1 u h5, Vls.sep.rows xs S2 vs h6⟩
end
theorem Vl.sep.savT {S T : Nat → Prop} {a b : World} {x : Vl} {v : Value} (h : SavT S a b) (hx : x.sep a T v) (hT : ∀ k, T k → k < a.heap.size ∧ ¬ S k) : x.sep b T v :=
  (Vl.sep.keep x _ T v (fun k hk => h.block k (hT k hk.1).1 (hT k hk.1).2 hk.2) (fun _ h => h.1) hx.rows)
theorem Vls.sep.savT {S T : Nat → Prop} {a b : World} {l : List Vl} {vs : List Value} (h : SavT S a b) (hx : Vls.sep a l T vs) (hT : ∀ k, T k → k < a.heap.size ∧ ¬ S k) : Vls.sep b l T vs :=
  (Vls.sep.keep l _ T vs (fun k hk => h.block k (hT k hk.1).1 (hT k hk.1).2 hk.2) (fun _ h => h.1) hx.rows)
/-- D holds rows of values that are there. -/
def Rows_ (w : World) (D : Nat → Prop) : Prop := ∀ b, D b → b < w.heap.size ∧ isRow w b
theorem EntAt.keep {w w' : World} {D D' : Nat → Prop} {j : Nat} {e : Ent} (h : EntAt w D j e) (hk : ∀ b, D b → w'.heap[b]? = w.heap[b]?) (hD : ∀ b, D b → D' b) : EntAt w' D' j e := by
  refine ⟨?_, h.small, h.cap⟩
  rcases h.form with h1 | ⟨g, h1, h2, h3⟩
  · exact .inl h1
  · exact .inr ⟨g, h1, hD g h2, fun i hi => (World.cell?_of_block (a := ⟨g, i, none⟩) (hk g h2)).trans (h3 i hi)⟩
theorem BookMarks.keep {w w' : World} {D D' : Nat → Prop} {es : List Ent} (h : BookMarks w D es) (hk : ∀ b, D b → w'.heap[b]? = w.heap[b]?) (hD : ∀ b, D b → D' b) : BookMarks w' D' es := fun j e he => (h j e he).keep hk hD
theorem BookMarks.snoc {w : World} {D : Nat → Prop} {es : List Ent} {e : Ent} (h : BookMarks w D es) (he : EntAt w D es.length e) : BookMarks w D (es ++ [e]) := by
  intro j x hx
  by_cases hj : j < es.length
  · rw [List.getElem?_append_left hj] at hx
    exact h j x hx
  · rw [List.getElem?_append_right (by omega)] at hx
    have h0 : j - es.length = 0 := by
      rcases Nat.eq_zero_or_pos (j - es.length) with h | h
      · exact h
      · rw [List.getElem?_eq_none (by simp; omega)] at hx; cases hx
    rw [h0] at hx
    have : x = e := by simpa using hx.symm
    subst this
    have : j = es.length := by omega
    subst this
    exact he
theorem BookRow.keep {w w' : World} {B Q : Nat} {v : Value} {es : List Ent} (h : BookRow w B Q v es) (hk : ∀ b, b = Q ∨ v.ownBlock = some b → w'.heap[b]? = w.heap[b]?) : BookRow w' B Q v es :=
  ⟨(hk Q (.inl rfl)).trans h.blk, h.base, own_block h.row (fun g hg => hk g (.inr hg))⟩
theorem BookRow.notRow {w : World} {B Q : Nat} {v : Value} {es : List Ent} (h : BookRow w B Q v es) : (¬ isRow w Q) ∧ ∀ g, v.ownBlock = some g → ¬ isRow w g := by
  refine ⟨?_, fun g hg => ?_⟩
  · rintro ⟨cur, fz, e⟩
    rw [h.blk] at e
    injection e with e
    injection e with _ e _
    exact absurd e (by decide)
  · rintro ⟨cur, fz, e⟩
    rcases h.row.2 with ⟨e1, _⟩ | ⟨g', cap, cur', e1, _, h1, _⟩
    · subst e1; cases hg
    · subst e1
      injection hg with hg
      have hg' : g' = g := hg
      subst hg'
      rw [h1] at e
      injection e with e
      injection e with _ e _
      exact absurd e (by decide)
end Go.Proofs.YtcldbjgikkfnbaaGreatDoor

/-
  The book's walk: from a list's elements to the list itself. Plain. Conditions: none.
-/
namespace Go.Proofs.YtcldbjgikkfnbaaGreatDoor
open Go.RowKit
set_option linter.unusedVariables false

/-- D, and what of S is a row. -/
def Dn (D S : Nat → Prop) (w : World) (b : Nat) : Prop := D b ∨ (S b ∧ isRow w b)
/-- The book: where it lies, its list of lists, their marks. -/
structure BookAt (w : World) (B Q : Nat) (v : Value) (es : List Ent) (D : Nat → Prop) : Prop where
  row : BookRow w B Q v es
  marks : BookMarks w D es
  rows : Rows_ w D
def TakePost (S D : Nat → Prop) (B Q : Nat) (es : List Ent) (n : Nat) (w : World) (e : Ending) (w' : World) : Prop :=
  e = .returned (.tuple #[]) ∧ ∃ v' es', BookAt w' B Q v' (es ++ es') (Dn D S w') ∧ es'.length ≤ n ∧ SavT S w w' ∧ Below B w w'
theorem isRow.lt {w : World} {b : Nat} (h : isRow w b) : b < w.heap.size := by
  obtain ⟨cur, fz, e⟩ := h
  exact lt_of_block e
theorem isRow.keep {w w' : World} {b : Nat} (h : isRow w b) (e : w'.heap[b]? = w.heap[b]?) : isRow w' b := by
  obtain ⟨cur, fz, h⟩ := h
  exact ⟨cur, fz, e.trans h⟩
theorem SavT.row {S : Nat → Prop} {a b : World} (h : SavT S a b) {k : Nat} (hr : isRow a k) (hs : ¬ S k) : isRow b k := hr.keep (h.block k hr.lt hs hr)
/-- Nothing taken. -/
theorem take_nothing {S D : Nat → Prop} {B Q : Nat} {es : List Ent} {n : Nat} {w : World} {v : Value} (h : BookAt w B Q v es D) (hS : ∀ b, S b → b < w.heap.size) : TakePost S D B Q es n w (.returned (.tuple #[])) w :=
  ⟨rfl, v, [], by
    rw [List.append_nil]
    exact ⟨h.row, h.marks.keep (fun _ _ => rfl) (fun b hb => .inl hb), fun b hb => hb.elim (h.rows b) (fun hb => ⟨hS b hb.1, hb.2⟩)⟩, Nat.zero_le _, SavT.refl _ _, Below.refl _ _⟩
/-- What the first loop of Take leaves. -/
structure TakeI (S D : Nat → Prop) (B Q g c : Nat) (w : World) (es : List Ent) (l : List Vl) (us : List Value) (k : Nat) (wr : World) (v : Value) (es' : List Ent) (R : Nat → Prop) : Prop where
  book : BookAt wr B Q v (es ++ es') (fun b => D b ∨ (S b ∧ b ≠ g ∧ ¬ R b ∧ isRow wr b))
  len : es'.length ≤ Vls.count (l.take k)
  sav : SavT (fun b => S b ∧ b ≠ g) w wr
  bel : Below B w wr
  rest : Vls.sep wr (l.drop k) R (us.drop k)
  sub : ∀ b, R b → S b ∧ b ≠ g
theorem TakeI.head {S D : Nat → Prop} {B Q g c k : Nat} {w wr : World} {es es' : List Ent} {l : List Vl} {us : List Value} {v : Value} {R : Nat → Prop} (h : TakeI S D B Q g c w es l us k wr v es' R) (hk : k < l.length) (hS : ∀ b, S b → b < w.heap.size) (hSD : ∀ b, S b → ¬ D b)
    (hown : w.ownsRow 0 35 1 (.slice (some ⟨g, 0, none⟩) l.length c) l.length us) :
    ∃ u S1 D1, wr.cell? ⟨g, k, none⟩ = some u ∧ l[k].sep wr S1 u ∧ (∀ b, S1 b → b < wr.heap.size) ∧ (∀ b, S1 b → S b) ∧ BookAt wr B Q v (es ++ es') D1 ∧ (∀ b, S1 b → ¬ D1 b) ∧
      ∀ e w2, TakePost S1 D1 B Q (es ++ es') l[k].count wr e w2 → e = .returned (.tuple #[]) ∧ ∃ v2 es2 R2, TakeI S D B Q g c w es l us (k + 1) w2 v2 es2 R2 := by
  have hr := h.rest
  have hlen := hr.length
  rw [List.length_drop, List.length_drop] at hlen
  have hul : us.length = l.length := by have := hown.1; omega
  have hku : k < us.length := by omega
  rw [List.drop_eq_getElem_cons hk, List.drop_eq_getElem_cons hku] at hr
  unfold Vls.sep at hr
  obtain ⟨u, vs, S1, S2, e, h1, h2, h3, h4, h5⟩ := hr
  injection e with e1 e2
  subst e1 e2
  have hgr : isRow w g := own_isRow hown rfl
  have hgb : wr.heap[g]? = w.heap[g]? := h.sav.block g hgr.lt (fun h => h.2 rfl) hgr
  have hc : wr.cell? ⟨g, k, none⟩ = some us[k] := by
    rw [World.cell?_of_block (a := ⟨g, k, none⟩) hgb, hown.cellAt k (by omega), List.getElem?_eq_getElem hku]
  have hlt : ∀ b, S b → b < wr.heap.size := fun b hb => Nat.lt_of_lt_of_le (hS b hb) h.sav.size
  refine ⟨us[k], S1, _, hc, h4, fun b hb => hlt b (h.sub b (h1 b hb)).1, fun b hb => (h.sub b (h1 b hb)).1, h.book, fun b hb hb' => ?_, ?_⟩
  · rcases hb' with hb' | hb'
    · exact hSD b (h.sub b (h1 b hb)).1 hb'
    · exact hb'.2.2.1 (h1 b hb)
  · rintro e w2 ⟨rfl, v2, es2, hB2, hl2, hs2, hb2⟩
    have hcount : (es' ++ es2).length ≤ Vls.count (l.take (k + 1)) := by
      rw [List.length_append, Vls.count_take l k hk]
      have := h.len
      omega
    refine ⟨rfl, v2, es' ++ es2, S2, ⟨⟨?_, ?_, ?_⟩, hcount, h.sav.trans (hs2.mono fun b hb => h.sub b (h1 b hb)), h.bel.trans hb2, Vls.sep.savT hs2 h5 (fun b hb => ⟨hlt b (h.sub b (h2 b hb)).1, fun hb' => h3 b hb' hb⟩), fun b hb => h.sub b (h2 b hb)⟩⟩
    · rw [← List.append_assoc]; exact hB2.row
    · rw [← List.append_assoc]
      refine hB2.marks.keep (fun _ _ => rfl) (fun b hb => ?_)
      rcases hb with (hb | ⟨hb1, hb2', hb3, hb4⟩) | ⟨hb, hrow⟩
      · exact .inl hb
      · exact .inr ⟨hb1, hb2', fun hb' => hb3 (h2 b hb'), hs2.row hb4 (fun hb' => hb3 (h1 b hb'))⟩
      · exact .inr ⟨(h.sub b (h1 b hb)).1, (h.sub b (h1 b hb)).2, fun hb' => h3 b hb hb', hrow⟩
    · intro b hb
      rcases hb with hb | ⟨hb1, _, _, hb4⟩
      · exact hB2.rows b (.inl (.inl hb))
      · exact ⟨hb4.lt, hb4⟩
/-- What the marks' loops leave: the first k cells bear the mark. -/
structure MarkI (S D : Nat → Prop) (B Q g c J : Nat) (w : World) (es : List Ent) (D1 : Nat → Prop) (v : Value) (e : Ent) (k : Nat) (wr : World) : Prop where
  blk : ∃ cur : Array Value, wr.heap[g]? = some (.cells cur 35 (0, 0)) ∧ cur.size = c ∧ ∀ i, i < k → cur[i]? = some (mk_ J)
  row : BookRow wr B Q v (es ++ [e])
  marks : BookMarks wr D1 es
  rows : Rows_ wr D1
  off : ∀ b, D1 b → b ≠ g ∧ (D b ∨ S b)
  sav : SavT S w wr
  bel : Below B w wr
/-- Where the list's own block alone changes. -/
theorem MarkI.step {S D : Nat → Prop} {B Q g c J k k' : Nat} {w wr w' : World} {es : List Ent} {D1 : Nat → Prop} {v : Value} {e : Ent} (h : MarkI S D B Q g c J w es D1 v e k wr) (hS : S g) (hBg : B ≤ g)
    (hg : wr.grownBy w' (some g)) (hblk : ∃ cur : Array Value, w'.heap[g]? = some (.cells cur 35 (0, 0)) ∧ cur.size = c ∧ ∀ i, i < k' → cur[i]? = some (mk_ J)) (hB : B ≤ wr.heap.size) : MarkI S D B Q g c J w es D1 v e k' w' := by
  obtain ⟨cur, hc, _⟩ := h.blk
  have hr : isRow wr g := ⟨cur, _, hc⟩
  have hnot := h.row.notRow
  have hother : ∀ b, b < wr.heap.size → b ≠ g → w'.heap[b]? = wr.heap[b]? := fun b hb hne => hg.block b hb (fun e => hne (by injection e))
  refine ⟨hblk, h.row.keep (fun b hb => hother b ?_ ?_), h.marks.keep (fun b hb => hother b (h.rows b hb).1 (h.off b hb).1) (fun _ h => h), fun b hb => ⟨Nat.lt_of_lt_of_le (h.rows b hb).1 hg.size, (h.rows b hb).2.keep (hother b (h.rows b hb).1 (h.off b hb).1)⟩, h.off, h.sav.trans ⟨hg.os, hg.tape, hg.output, hg.size, fun b hb hs _ => hother b hb (fun e => hs (e ▸ hS))⟩, h.bel.trans ⟨hg.os, hg.tape, hg.output, hg.size, fun b hb => hother b (Nat.lt_of_lt_of_le hb hB) (by omega)⟩⟩
  · rcases hb with rfl | hb
    · exact lt_of_block h.row.blk
    · exact (h.row.row.lt b hb).2
  · rintro rfl
    rcases hb with rfl | hb
    · exact hnot.1 hr
    · exact hnot.2 _ hb hr
/-- The list is taken. -/
theorem MarkI.done {S D : Nat → Prop} {B Q g c J n : Nat} {w wr : World} {es es' : List Ent} {D1 : Nat → Prop} {v : Value} {m : Nat} (h : MarkI S D B Q g c J w (es ++ es') D1 v ⟨some ⟨g, 0, none⟩, n, c⟩ (min c (n + 2000)) wr) (hJ : J = (es ++ es').length) (hS : S g) (hSl : ∀ b, S b → b < wr.heap.size) (hDr : Rows_ wr D) (hn : n ≤ 65536) (hnc : n ≤ c) (hcm : c ≤ maxLen) (hl : es'.length + 1 ≤ m) :
    TakePost S D B Q es m w (.returned (.tuple #[])) wr := by
  obtain ⟨cur, hc, hsz, hm⟩ := h.blk
  have hr : isRow wr g := ⟨cur, _, hc⟩
  refine ⟨rfl, v, es' ++ [⟨some ⟨g, 0, none⟩, n, c⟩], ⟨by rw [← List.append_assoc]; exact h.row, ?_, fun b hb => ?_⟩, by rw [List.length_append]; exact hl, h.sav, h.bel⟩
  · rw [← List.append_assoc]
    refine (h.marks.keep (fun _ _ => rfl) (fun b hb => ?_)).snoc ⟨.inr ⟨g, rfl, .inr ⟨hS, hr⟩, fun i hi => ?_⟩, hn, hnc, hcm⟩
    · rcases (h.off b hb).2 with h1 | h1
      · exact .inl h1
      · exact .inr ⟨h1, (h.rows b hb).2⟩
    · rw [← hJ, cell_of_row _ _ _ _ _ _ hc]
      exact hm i hi
  · rcases hb with hb | hb
    · exact hDr b hb
    · exact ⟨hSl b hb.1, hb.2⟩
section
variable {P : Program}
/-- append of one value to a row that has room. -/
theorem wpList_append_one {ops : Array Oper} {rest : List Oper} {o : Oper} {a : Act} {w : World} {Q : Exit → Act → World → Prop} (hgd : o.guard = none) (s x : Operand) (t : TypeId)
    (ho : o.op = .call { callee := .builtin .append, args := #[s, x], argTypes := #[t, t] })
    (e : TypeId) (i : TypeInfo) (ht : P.underlying t = some (.slice e)) (hi : P.info? e = some i) (hsize : i.size = 1)
    (g k c : Nat) (cur : Array Value) (hg : w.heap[g]? = some (.cells cur e (0, 0))) (hcs : cur.size = c) (hs : a.eval s = .slice (some ⟨g, 0, none⟩) k c)
    (ad : Addr) (c2 : Nat) (u : Value) (hx : a.eval x = .slice (some ad) 1 c2) (hu : w.cell? (ad.add 0) = some u) (h1 : u.oneCell' = true) (hlt : k + 1 ≤ c)
    (h : ∀ w' cur', w'.heap[g]? = some (.cells cur' e (0, 0)) → cur'.size = c → (∀ i, i < k → cur'[i]? = cur[i]?) → cur'[k]? = some u → w.grownBy w' (some g) → wpList P ops Q rest (a.put o.dst (.slice (some ⟨g, 0, none⟩) (k + 1) c)) w') :
    wpList P ops Q (o :: rest) a w := by
  refine wpList_plain hgd fun K hK => ?_
  have hr := run_append_room (P := P) w t o.type e i ht hi g k c cur hg ad 1 c2 [u] (by simp [hsize]) (fun j v hj => by
    match j with
    | 0 => simp at hj; subst hj; exact hu
    | j + 1 => simp at hj) (by simpa using h1) hlt (by simp [hsize]; omega)
  unfold Oper.wp execOp
  simp only [ho, resolve, invoke, builtin, Sem.run_bind, Sem.run_pure, Result.andThen_ok, List.map_toArray, List.map_cons, List.map_nil, hs, hx, hr]
  refine hK _ _ (h _ _ (setRow_heap w g _ _ e _ hg) ?_ ?_ ?_ ⟨rfl, rfl, rfl, by simp, fun b _ hb => setRow_other w g b _ (fun e => hb (by rw [e]))⟩)
  · simp [hsize]; omega
  · intro j hj
    have hk : j < cur.size := by omega
    have hm : min k cur.size = k := by omega
    simp [hsize, List.getElem?_append, hj, hk, hm]
  · have hk : k < cur.size := by omega
    have hm : min k cur.size = k := by omega
    simp [hsize, hm]
end
end Go.Proofs.YtcldbjgikkfnbaaGreatDoor
