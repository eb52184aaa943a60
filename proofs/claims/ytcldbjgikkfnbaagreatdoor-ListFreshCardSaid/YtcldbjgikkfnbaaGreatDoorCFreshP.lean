/-
  What ListFresh's walk carries: the values that were told, and what was wanted. Plain. Conditions: none.
-/
import Derived.Test.YtcldbjgikkfnbaaGreatDoorCLiesZ
import Derived.Test.YtcldbjgikkfnbaaGreatDoorCAppendZ
import Derived.Test.YtcldbjgikkfnbaaGreatDoorCSavW
import Derived.Test.YtcldbjgikkfnbaaGreatDoorCPlainL
import Derived.Test.YtcldbjgikkfnbaaGreatDoorCLawLight11
namespace Go.Proofs.YtcldbjgikkfnbaaGreatDoor
open Go.RowKit
set_option linter.unusedVariables false

def NewHeld (w w' : World) : Prop := Hid (Below w.heap.size w w')
theorem NewHeld.alloc {w w' : World} (h : NewHeld w w') (o : Obj) : NewHeld w (w'.alloc o) := Lib.hid (h.out.alloc h.out.size o)
theorem NewHeld.next {w w' w2 : World} (h : NewHeld w w') (hb : Below w'.heap.size w' w2) : NewHeld w w2 := Lib.hid (h.out.trans (hb.mono h.out.size))
theorem NewHeld.set {w w' : World} (h : NewHeld w w') {p : Addr} (hp : w.heap.size ≤ p.block) (v : Value) : NewHeld w (w'.setCell p v) := Lib.hid (h.out.setCell hp v)
theorem NewHeld.set4 {w w' : World} (h : NewHeld w w') (x0 x1 x2 x3 : Value) : NewHeld w ((((w'.setCell ⟨w.heap.size, 0, none⟩ x0).setCell ⟨w.heap.size, 1, none⟩ x1).setCell ⟨w.heap.size, 2, none⟩ x2).setCell ⟨w.heap.size, 3, none⟩ x3) :=
  (((h.set (p := ⟨w.heap.size, 0, none⟩) (Nat.le_refl _) _).set (p := ⟨w.heap.size, 1, none⟩) (Nat.le_refl _) _).set (p := ⟨w.heap.size, 2, none⟩) (Nat.le_refl _) _).set (p := ⟨w.heap.size, 3, none⟩) (Nat.le_refl _) _
theorem NewHeld.size {w w' : World} (h : NewHeld w w') : w.heap.size ≤ w'.heap.size := h.out.size
theorem NewHeld.cells {w w' : World} (h : NewHeld w w') {b : Nat} (hb : b < w.heap.size) {o : Nat} {u v : Value} (g0 : w.cell? ⟨b, o, none⟩ = some u) (g1 : w.cell? ⟨b, o + 1, none⟩ = some v) :
    w'.cell? ⟨b, o, none⟩ = some u ∧ w'.cell? ⟨b, o + 1, none⟩ = some v ∧ NewHeld w w' :=
  ⟨(h.out.cell (p := ⟨b, o, none⟩) hb).trans g0, (h.out.cell (p := ⟨b, o + 1, none⟩) hb).trans g1, h⟩
theorem NewHeld.box {w3 w4 : World} {X : Obj} (hb : Below (w3.drew.alloc X).heap.size (w3.drew.alloc X) w4) : w4.heap[w3.heap.size]? = some X :=
  (hb.block w3.heap.size (by rw [size_alloc]; exact Nat.lt_succ_self _)).trans (heap_alloc_new w3.drew X)
def put4 (w : World) (Q : Nat) (x0 x1 x2 x3 : Value) : World := (((w.setCell ⟨Q, 0, none⟩ x0).setCell ⟨Q, 1, none⟩ x1).setCell ⟨Q, 2, none⟩ x2).setCell ⟨Q, 3, none⟩ x3
/-- Blocks that are there and are neither of two rows'. -/
def Kx (w : World) (v u : Value) (b : Nat) : Prop := b < w.heap.size ∧ v.ownBlock ≠ some b ∧ u.ownBlock ≠ some b
structure QuietI (B : Nat) (w : World) (v u : Value) (xs : List Vl) (us : List Value) : Prop where
  own : OwnZ w B 35 [.nilIface] v us.length us
  len : us.length = xs.length
  els : ∀ j (h : j < xs.length) (h' : j < us.length), xs[j].is w (Kx w v u) us[j]
structure WantI (B : Nat) (w : World) (v u : Value) (xs : List Vl) (ts : List PlAt) : Prop where
  own : OwnZ w B 31 z4 u ts.length (ts.flatMap PlAt.cells)
  eqs : ts.map PlAt.p = xs.map Vl.toPl
  els : ∀ t ∈ ts, t.p.sane ∧ Pls.lies w w.heap.size t.p.list t.A
  apart : ∀ b, v.ownBlock = some b → u.ownBlock ≠ some b
theorem QuietI.nil (B : Nat) (w : World) (u : Value) : QuietI B w (.slice none 0 0) u [] [] := ⟨OwnZ.nil _ _ _ _, rfl, fun j h => absurd h (by simp)⟩
theorem WantI.nil (B : Nat) (w : World) : WantI B w (.slice none 0 0) (.slice none 0 0) [] [] := ⟨OwnZ.nil _ _ _ _, rfl, fun t h => absurd h (by simp), fun b h => by cases h⟩
theorem Kx.next {w w' : World} {v u : Value} (hs : w.heap.size ≤ w'.heap.size) {b : Nat} (h : Kx w v u b) : Kx w' v u b := ⟨Nat.lt_of_lt_of_le h.1 hs, h.2⟩
theorem QuietI.next {B : Nat} {w w' : World} {v u : Value} {xs : List Vl} {us : List Value} (h : QuietI B w v u xs us) (hb : Below w.heap.size w w') : QuietI B w' v u xs us :=
  ⟨h.own.keep (fun g hg => hb.block g (h.own.lt g hg).2), h.len, fun j h1 h2 => (h.els j h1 h2).keep (fun b o hs => hb.cell (p := ⟨b, o, none⟩) hs.1) (fun b hs => hs.next hb.size)⟩
theorem WantI.next {B : Nat} {w w' : World} {v u : Value} {xs : List Vl} {ts : List PlAt} (h : WantI B w v u xs ts) (hb : Below w.heap.size w w') : WantI B w' v u xs ts :=
  ⟨h.own.keep (fun g hg => hb.block g (h.own.lt g hg).2), h.eqs, fun t ht => ⟨(h.els t ht).1, (h.els t ht).2.below hb hb.size⟩, h.apart⟩
theorem WantI.nz {B : Nat} {w : World} {v u : Value} {xs : List Vl} {ts : List PlAt} (h : WantI B w v u xs ts) : ∀ t ∈ ts, t.p.nz := by
  intro t ht
  have h1 : t.p ∈ ts.map PlAt.p := List.mem_map_of_mem ht
  rw [h.eqs] at h1
  obtain ⟨x, _, e⟩ := List.mem_map.1 h1
  rw [← e]
  exact Vl.toPl_nz x
theorem Stay4.trans_below {a b c : World} (h : Below a.heap.size a b) (h' : Stay4 b c b.heap.size) : Stay4 a c a.heap.size := by
  intro b o k n t A m c hlt hk h1 h2 h3 h4
  obtain ⟨g1, g2, g3, g4⟩ := stay4_below h b o k n t A m c hlt hk h1 h2 h3 h4
  exact h' b o k n t A m c (Nat.lt_of_lt_of_le hlt h.size) hk g1 g2 g3 g4
theorem repL_one (v : Value) : ∀ n, ∀ x ∈ repL [v] n, x = v
  | 0, x, h => by simp [repL] at h
  | n + 1, x, h => by
    unfold repL at h
    rcases List.mem_append.1 h with h | h
    · simpa using h
    · exact repL_one v n x h
/-- A row of interface values has no number in it. -/
theorem own_noInt {w : World} {B n : Nat} {v : Value} {us : List Value} (h : OwnZ w B 35 [.nilIface] v n us) (hu : ∀ x ∈ us, ∀ k m, x ≠ .int k m) {g : Nat} (hg : v.ownBlock = some g) : ∀ o x, w.cell? ⟨g, o, none⟩ = some x → ∀ k m, x ≠ .int k m := by
  intro o x hx k m
  rcases h.2 with ⟨e, _⟩ | ⟨g', cap, e, _, h1, _⟩
  · subst e; cases hg
  · subst e
    injection hg with hg
    have hg' : g' = g := hg
    subst hg'
    have hc : w.cell? ⟨g', o, none⟩ = (us ++ repL [.nilIface] (cap - n))[o]? := by simp [World.cell?, h1]
    rw [hc] at hx
    have hm := List.mem_of_getElem? hx
    rcases List.mem_append.1 hm with hm | hm
    · exact hu x hm k m
    · rw [repL_one _ _ x hm]; intro e; cases e
theorem zeros4_rep : ∀ n, zeros4 n = repL z4 n
  | 0 => rfl
  | n + 1 => by unfold zeros4 repL; rw [zeros4_rep n]
theorem quiet_append {B : Nat} {w w0 w' : World} {v v' u y : Value} {xs zs : List Vl} {us : List Value} {ts : List PlAt} {x : Vl} (hQ : QuietI B w v u xs us) (hW : WantI B w v u zs ts) (hx : x.is w (Kx w v u) y) (h0 : Below w.heap.size w w0) (hB : B ≤ w.heap.size)
    (hg : w0.grownBy w' v.ownBlock) (hown : OwnZ w' B 35 [.nilIface] v' (us.length + 1) (us ++ [y])) (hat : v'.ownBlock = v.ownBlock ∨ (v'.ownBlock = some w0.heap.size ∧ w0.grownBy w' none)) :
    QuietI B w' v' u (xs ++ [x]) (us ++ [y]) ∧ WantI B w' v' u zs ts ∧ Below B w w' ∧ Stay4 w w' w.heap.size := by
  have hul : ∀ b, u.ownBlock = some b → b < w.heap.size := fun b e => (hW.own.lt b e).2
  have hvl : ∀ b, v.ownBlock = some b → b < w.heap.size := fun b e => (hQ.own.lt b e).2
  have blk : ∀ b, b < w.heap.size → v.ownBlock ≠ some b → w'.heap[b]? = w.heap[b]? := fun b hb hne => (hg.block b (Nat.lt_of_lt_of_le hb h0.size) (Ne.symm hne)).trans (h0.block b hb)
  have hsz : w.heap.size ≤ w'.heap.size := Nat.le_trans h0.size hg.size
  have hKx : ∀ b, Kx w v u b → Kx w' v' u b := fun b hb => ⟨Nat.lt_of_lt_of_le hb.1 hsz, fun e => by
    rcases hat with h | ⟨h, hgn⟩
    · exact hb.2.1 (h ▸ e)
    · rw [h] at e; injection e with e; have := hb.1; have := h0.size; omega, hb.2.2⟩
  have hkeep : ∀ (z : Vl) (q : Value), z.is w (Kx w v u) q → z.is w' (Kx w' v' u) q := fun z q h => h.keep (fun b o hs => World.cell?_of_block (a := ⟨b, o, none⟩) (blk b hs.1 hs.2.1)) hKx
  have hst : Stay4 w w' w.heap.size := by
    cases hv : v.ownBlock with
    | none => exact stay4_below ⟨hg.os.trans h0.os, hg.tape.trans h0.tape, hg.output.trans h0.output, hsz, fun b hb => blk b hb (by rw [hv]; simp)⟩
    | some g =>
      refine stay4_ifaces (g := g) (own_noInt hQ.own (fun z hz k m => ?_) hv) (fun b hb hne => blk b hb (by rw [hv]; intro e; injection e with e; exact hne e.symm))
      obtain ⟨j, hj, rfl⟩ := List.getElem_of_mem hz
      obtain ⟨t, q, e⟩ := (hQ.els j (by rw [← hQ.len]; exact hj) hj).iface
      rw [e]; intro e; cases e
  refine ⟨⟨by rw [List.length_append]; exact hown, by simp [hQ.len], fun j h1 h2 => ?_⟩, ⟨hW.own.keep (fun g hg' => blk g (hul g hg') (fun e => hW.apart g e hg')), hW.eqs, fun t ht => ⟨(hW.els t ht).1, ?_⟩, fun b e e' => ?_⟩, ?_, hst⟩
  · by_cases hj : j < us.length
    · have hj' : j < xs.length := by rw [← hQ.len]; exact hj
      rw [List.getElem_append_left hj, List.getElem_append_left hj']
      exact hkeep _ _ (hQ.els j hj' hj)
    · have e1 : j = us.length := by simp at h2; omega
      subst e1
      have e2 : us.length = xs.length := hQ.len
      rw [List.getElem_append_right (Nat.le_refl _), List.getElem_append_right (by omega)]
      simp only [e2, Nat.sub_self, List.getElem_cons_zero]
      exact hkeep _ _ hx
  · exact Pls.lies.keepZ hsz hst _ _ (Pl.nz_list (hW.nz t ht)) (hW.els t ht).2
  · rcases hat with h | ⟨h, hgn⟩
    · exact hW.apart b (h ▸ e) e'
    · rw [h] at e; injection e with e; have := hul b e'; have := h0.size; omega
  · exact ⟨hg.os.trans h0.os, hg.tape.trans h0.tape, hg.output.trans h0.output, hsz, fun b hb => blk b (by omega) (fun e => by have := (hQ.own.lt b e).1; omega)⟩
theorem want_append {B : Nat} {w w0 w' : World} {v u u' : Value} {xs zs : List Vl} {us : List Value} {ts : List PlAt} {x : Vl} {t : PlAt} (hQ : QuietI B w v u xs us) (hW : WantI B w v u zs ts) (ht : t.p = x.toPl) (hts : t.p.sane) (htl : Pls.lies w w.heap.size t.p.list t.A) (h0 : Below w.heap.size w w0) (hB : B ≤ w.heap.size)
    (hg : w0.grownBy w' u.ownBlock) (hown : OwnZ w' B 31 z4 u' (ts.length + 1) (ts.flatMap PlAt.cells ++ t.cells)) (hat : u'.ownBlock = u.ownBlock ∨ (u'.ownBlock = some w0.heap.size ∧ w0.grownBy w' none)) :
    QuietI B w' v u' xs us ∧ WantI B w' v u' (zs ++ [x]) (ts ++ [t]) ∧ Below B w w' := by
  have hul : ∀ b, u.ownBlock = some b → b < w.heap.size := fun b e => (hW.own.lt b e).2
  have hvl : ∀ b, v.ownBlock = some b → b < w.heap.size := fun b e => (hQ.own.lt b e).2
  have blk : ∀ b, b < w.heap.size → u.ownBlock ≠ some b → w'.heap[b]? = w.heap[b]? := fun b hb hne => (hg.block b (Nat.lt_of_lt_of_le hb h0.size) (Ne.symm hne)).trans (h0.block b hb)
  have hsz : w.heap.size ≤ w'.heap.size := Nat.le_trans h0.size hg.size
  have hKx : ∀ b, Kx w v u b → Kx w' v u' b := fun b hb => ⟨Nat.lt_of_lt_of_le hb.1 hsz, hb.2.1, fun e => by
    rcases hat with h | ⟨h, hgn⟩
    · exact hb.2.2 (h ▸ e)
    · rw [h] at e; injection e with e; have := hb.1; have := h0.size; omega⟩
  have hkeep : ∀ (z : Vl) (q : Value), z.is w (Kx w v u) q → z.is w' (Kx w' v u') q := fun z q h => h.keep (fun b o hs => World.cell?_of_block (a := ⟨b, o, none⟩) (blk b hs.1 hs.2.2)) hKx
  have hst : Stay4 w w' w.heap.size := by
    rcases hW.own.2 with ⟨e, _⟩ | ⟨g, cap, e, hBg, h1, h2, h3⟩
    · refine stay4_below ⟨hg.os.trans h0.os, hg.tape.trans h0.tape, hg.output.trans h0.output, hsz, fun b hb => blk b hb (by rw [e]; simp [Value.ownBlock])⟩
    · have hug : u.ownBlock = some g := by rw [e]; rfl
      have hglt := hul g hug
      have hother : ∀ b, b < w.heap.size → b ≠ g → w'.heap[b]? = w.heap[b]? := fun b hb hne => blk b hb (by rw [hug]; intro e; injection e with e; exact hne e.symm)
      rw [← zeros4_rep] at h1
      rcases hat with h | ⟨h, hgn⟩
      · rcases hown.2 with ⟨e', _⟩ | ⟨g', cap', e', _, h1', _⟩
        · rw [e', hug] at h; simp [Value.ownBlock] at h
        · have hgg : g' = g := by rw [e', hug] at h; simpa [Value.ownBlock] using h
          subst hgg
          rw [List.append_assoc] at h1'
          exact stay4_row (fours_cells ts) h1 h1' hother
      · refine stay4_below ⟨hg.os.trans h0.os, hg.tape.trans h0.tape, hg.output.trans h0.output, hsz, fun b hb => ?_⟩
        exact (hgn.block b (Nat.lt_of_lt_of_le hb h0.size) (by simp)).trans (h0.block b hb)
  refine ⟨⟨hQ.own.keep (fun g hg' => blk g (hvl g hg') (fun e => hW.apart g hg' e)), hQ.len, fun j h1 h2 => hkeep _ _ (hQ.els j h1 h2)⟩, ⟨by rw [List.length_append, List.flatMap_append]; simpa using hown, by rw [List.map_append, List.map_append, hW.eqs]; simp [ht], fun s hs => ?_, fun b e e' => ?_⟩, ?_⟩
  · rcases List.mem_append.1 hs with hs | hs
    · exact ⟨(hW.els s hs).1, Pls.lies.keepZ hsz hst _ _ (Pl.nz_list (hW.nz s hs)) (hW.els s hs).2⟩
    · rw [List.mem_singleton] at hs
      subst hs
      exact ⟨hts, Pls.lies.keepZ hsz hst _ _ (Pl.nz_list (by rw [ht]; exact Vl.toPl_nz x)) htl⟩
  · rcases hat with h | ⟨h, hgn⟩
    · exact hW.apart b e (h ▸ e')
    · rw [h] at e'; injection e' with e'; have := hvl b e; have := h0.size; omega
  · exact ⟨hg.os.trans h0.os, hg.tape.trans h0.tape, hg.output.trans h0.output, hsz, fun b hb => blk b (by omega) (fun e => by have := (hW.own.lt b e).1; omega)⟩
theorem WantI.slice {B : Nat} {w : World} {v : Value} {A : Option Addr} {c n : Nat} {xs : List Vl} {ts : List PlAt} (h : WantI B w v (.slice A n c) xs ts) (hl : 0 < ts.length) : ∃ g, A = some ⟨g, 0, none⟩ ∧ ∀ k (hk : k < ts.length) j x, ts[k].cells[j]? = some x → w.cell? ⟨g, k * 4 + j, none⟩ = some x := by
  have ho := h.own.own
  rcases ho.2 with ⟨e, h2⟩ | ⟨g, cap, cur, e, _⟩
  · omega
  · injection e with e1 e2 e3
    subst e1 e3
    refine ⟨g, rfl, fun k hk j x hj => ?_⟩
    have hj4 : j < 4 := by
      rcases Nat.lt_or_ge j 4 with h | h
      · exact h
      · rw [List.getElem?_eq_none (by exact h)] at hj; cases hj
    rw [e2] at ho
    have hc := ho.cellAt (k * 4 + j) (by show k * 4 + j < ts.length * 4; omega)
    rw [hc, plat_flat ts k hk j hj4]
    exact hj
theorem WantI.len {B : Nat} {w : World} {v u : Value} {xs : List Vl} {ts : List PlAt} (h : WantI B w v u xs ts) : ts.length = xs.length := by
  have := congrArg List.length h.eqs; rwa [List.length_map, List.length_map] at this
theorem WantI.eq {B : Nat} {w : World} {v u : Value} {xs : List Vl} {ts : List PlAt} (h : WantI B w v u xs ts) (j : Nat) (hj : j < xs.length) (hj' : j < ts.length) : ts[j].p = xs[j].toPl := by
  have e := h.eqs
  have h1 : (ts.map PlAt.p)[j]? = (xs.map Vl.toPl)[j]? := by rw [e]
  rw [List.getElem?_map, List.getElem?_map, List.getElem?_eq_getElem hj, List.getElem?_eq_getElem hj'] at h1
  exact Option.some.inj h1
end Go.Proofs.YtcldbjgikkfnbaaGreatDoor
