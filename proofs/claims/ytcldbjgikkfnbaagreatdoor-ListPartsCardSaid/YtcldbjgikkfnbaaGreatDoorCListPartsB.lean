/-
  What the walk of ListParts carries from world to world. Conditions: none.
-/
import Derived.Test.YtcldbjgikkfnbaaGreatDoorCListPartsP
import Derived.Test.YtcldbjgikkfnbaaGreatDoorCPlainL
import Derived.Test.YtcldbjgikkfnbaaGreatDoorCLaw11Begun
namespace Go.Proofs.YtcldbjgikkfnbaaGreatDoor
open Go.RowKit
set_option linter.unusedVariables false

/-- A value, in whatever block that is there. -/
def VAt (w : World) (x : Vl) (v : Value) : Prop := x.is w (fun b => b < w.heap.size) v
theorem VAt.next {w w' : World} {x : Vl} {v : Value} (h : VAt w x v) (hb : Below w.heap.size w w') : VAt w' x v :=
  Vl.is.keep (fun b o hs => hb.cell (p := ⟨b, o, none⟩) hs) (fun b hs => Nat.lt_of_lt_of_le hs hb.size) _ _ h
/-- A plain list in a block of its own. -/
structure PAt (w : World) (P : Nat) (l : List Pl) (A : Option Addr) (c : Nat) : Prop where
  blk : w.heap[P]? = some (.cells #[.int .i64 5, .int .i64 0, .string ⟨#[]⟩, .slice A l.length c] 31 (0, 0))
  lies : Pls.lies w w.heap.size l A
  len : l.length * 56 ≤ 140737488351232
theorem PAt.next {w w' : World} {P c : Nat} {l : List Pl} {A : Option Addr} (h : PAt w P l A c) (hb : Below w.heap.size w w') : PAt w' P l A c :=
  ⟨(hb.block P (lt_of_block h.blk)).trans h.blk, h.lies.below hb hb.size, h.len⟩
theorem PAt.cells {w : World} {P c : Nat} {l : List Pl} {A : Option Addr} (h : PAt w P l A c) :
    w.cell? ⟨P, 0, none⟩ = some (.int .i64 5) ∧ w.cell? ⟨P, 1, none⟩ = some (.int .i64 0) ∧ w.cell? ⟨P, 2, none⟩ = some (.string ⟨#[]⟩) ∧ w.cell? ⟨P, 3, none⟩ = some (.slice A l.length c) := by
  refine ⟨?_, ?_, ?_, ?_⟩ <;> simp [World.cell?, h.blk]
theorem PAt.new {w : World} {c : Nat} {l : List Pl} {A : Option Addr} (hl : Pls.lies w w.heap.size l A) (hlen : l.length * 56 ≤ 140737488351232) : PAt (w.alloc (.cells #[.int .i64 5, .int .i64 0, .string ⟨#[]⟩, .slice A l.length c] 31)) w.heap.size l A c :=
  ⟨heap_alloc_new w _, hl.below ((Below.refl w.heap.size w).alloc (Nat.le_refl _) _) ((Below.refl w.heap.size w).alloc (Nat.le_refl _) _).size, hlen⟩
theorem PAt.at_ {w : World} {P c : Nat} {l : List Pl} {A : Option Addr} (h : PAt w P l A c) : (pL l).sane ∧ Pls.lies w w.heap.size (pL l).list A := ⟨⟨by rfl, by rfl, by show (0 : Nat) ≤ _; omega, h.len⟩, h.lies⟩
theorem nAt_ (w : World) {n : Int} (h : rng n = true) : (nAt n).p.sane ∧ Pls.lies w w.heap.size (nAt n).p.list (nAt n).A := ⟨nPl_sane h, by unfold nAt nPl Pl.list Pls.lies; trivial⟩
/-- Work on values that are laid now. -/
def WGood (x : Vl) (w : World) (e : Ending) (w' : World) : Prop := ∃ v, e = .returned (.tuple #[v, .int .i64 0, .string ⟨#[]⟩]) ∧ VAt w' x v ∧ Below w.heap.size w w'
theorem work_lits {op : ByteArray} {us : List PlAt} {x : Vl} (w : World) (hr : lWork op (us.map PlAt.p) = (0, x)) (hlen : us.length * 56 ≤ 140737488351232) (h : ∀ u ∈ us, u.p.sane ∧ Pls.lies w w.heap.size u.p.list u.A) :
    Calls Tryz.prog 12 #[.string op, .slice (some ⟨w.heap.size, 0, none⟩) (us.map PlAt.p).length us.length] (w.alloc (.cells (us.flatMap PlAt.cells).toArray 31)) (WGood x w) := by
  refine (list_Work op (us.map PlAt.p) (some ⟨w.heap.size, 0, none⟩) us.length _ (by rw [List.length_map]; exact hlen) (by rw [size_alloc]; exact plits us h)).mono ?_
  rw [hr]
  rintro e w' ⟨v, rfl, hv, _, hb⟩
  have h1 := ((Below.refl w.heap.size w).alloc (Nat.le_refl _) (.cells (us.flatMap PlAt.cells).toArray 31))
  exact ⟨v, rfl, Vl.is.keep (fun b o hs => rfl) (fun b hs => hs.2) _ _ ((hv rfl).is), h1.trans (hb.mono h1.size)⟩
theorem work_1 (op : ByteArray) (u : PlAt) (x : Vl) (w : World) (hr : lWork op [u.p] = (0, x)) (h : u.p.sane ∧ Pls.lies w w.heap.size u.p.list u.A) :
    Calls Tryz.prog 12 #[.string op, .slice (some ⟨w.heap.size, 0, none⟩) 1 1] (w.alloc (.cells #[.int .i64 u.p.kind, .int .i64 u.p.num, .string u.p.text, .slice u.A u.p.list.length u.c] 31)) (WGood x w) :=
  work_lits (us := [u]) w hr (by show 1 * 56 ≤ _; decide) (fun y hy => by rw [List.mem_singleton.1 hy]; exact h)
theorem work_2 (op : ByteArray) (u v : PlAt) (x : Vl) (w : World) (hr : lWork op [u.p, v.p] = (0, x)) (h : u.p.sane ∧ Pls.lies w w.heap.size u.p.list u.A) (h' : v.p.sane ∧ Pls.lies w w.heap.size v.p.list v.A) :
    Calls Tryz.prog 12 #[.string op, .slice (some ⟨w.heap.size, 0, none⟩) 2 2] (w.alloc (.cells #[.int .i64 u.p.kind, .int .i64 u.p.num, .string u.p.text, .slice u.A u.p.list.length u.c, .int .i64 v.p.kind, .int .i64 v.p.num, .string v.p.text, .slice v.A v.p.list.length v.c] 31)) (WGood x w) :=
  work_lits (us := [u, v]) w hr (by show 2 * 56 ≤ _; decide) (fun y hy => by simp at hy; rcases hy with rfl | rfl <;> assumption)
theorem work_3 (op : ByteArray) (u v z : PlAt) (x : Vl) (w : World) (hr : lWork op [u.p, v.p, z.p] = (0, x)) (h : u.p.sane ∧ Pls.lies w w.heap.size u.p.list u.A) (h' : v.p.sane ∧ Pls.lies w w.heap.size v.p.list v.A) (h'' : z.p.sane ∧ Pls.lies w w.heap.size z.p.list z.A) :
    Calls Tryz.prog 12 #[.string op, .slice (some ⟨w.heap.size, 0, none⟩) 3 3] (w.alloc (.cells #[.int .i64 u.p.kind, .int .i64 u.p.num, .string u.p.text, .slice u.A u.p.list.length u.c, .int .i64 v.p.kind, .int .i64 v.p.num, .string v.p.text, .slice v.A v.p.list.length v.c, .int .i64 z.p.kind, .int .i64 z.p.num, .string z.p.text, .slice z.A z.p.list.length z.c] 31)) (WGood x w) :=
  work_lits (us := [u, v, z]) w hr (by show 3 * 56 ≤ _; decide) (fun y hy => by simp at hy; rcases hy with rfl | rfl | rfl <;> assumption)
/-- Plain on a list that may be. -/
def PGood (l : List Pl) (w : World) (e : Ending) (w' : World) : Prop := ∃ A c, e = .returned (.tuple #[.agg #[.int .i64 5, .int .i64 0, .string ⟨#[]⟩, .slice A l.length c], .bool true]) ∧ Pls.lies w' w'.heap.size l A ∧ Below w.heap.size w w'
theorem plain_good {l : List Pl} (h : PP l) (hf : (Vl.list (Pls.toVl l)).fine) {v : Value} (w : World) (hv : VAt w (.list (Pls.toVl l)) v) : Calls Tryz.prog 14 #[v] w (PGood l w) := by
  have hb := h.bounds
  refine (law2_Plain (.list (Pls.toVl l)) v _ w hv (fun b hs => hs) hf (by omega) (by omega)).mono ?_
  rintro e w' ⟨A, c, rfl, hbel, hs⟩
  rw [h.back] at hs ⊢
  refine ⟨A, c, rfl, ?_, hbel⟩
  exact Pls.sits.lies (fun b hs => hs.2) _ _ hs
theorem is_good {l : List Pl} (h : PP l) (hf : (Vl.list (Pls.toVl l)).fine) {v : Value} (w : World) (hv : VAt w (.list (Pls.toVl l)) v) (A : Option Addr) (c : Nat) (hl : Pls.lies w w.heap.size l A) : Calls Tryz.prog 15 #[v, .agg #[.int .i64 5, .int .i64 0, .string ⟨#[]⟩, .slice A l.length c]] w (Bel (.bool true) w) := by
  have hb := h.bounds
  have := law2_Is (.list (Pls.toVl l)) v _ w hv (fun b hs => hs) hf (by omega) (by omega) A c (by rw [h.back]; exact hl)
  rw [h.back] at this
  exact this
theorem PP.fine {l : List Pl} (h : PP l) (hf : Vls.fine (Pls.toVl l)) : (Vl.list (Pls.toVl l)).fine := by
  unfold Vl.fine
  refine ⟨?_, hf⟩
  have := h.len
  rw [Pls.toVl_length]
  omega
theorem fines_sub {l m : List Pl} (h : Vls.fine (Pls.toVl l)) (hs : ∀ p ∈ m, p ∈ l) : Vls.fine (Pls.toVl m) := by
  have h1 : ∀ p ∈ l, p.toVl.fine := fun p hp => by
    obtain ⟨k, hk, rfl⟩ := List.getElem_of_mem hp
    have := h.at_ k (by rw [Pls.toVl_length]; exact hk)
    simpa [pp_map] using this
  have h2 : ∀ (m : List Pl), (∀ p ∈ m, p.toVl.fine) → Vls.fine (Pls.toVl m) := by
    intro m
    induction m with
    | nil => intro _; unfold Pls.toVl Vls.fine; trivial
    | cons p ps ih => intro h; unfold Pls.toVl Vls.fine; exact ⟨h p (by simp), ih (fun q hq => h q (by simp [hq]))⟩
  exact h2 m (fun p hp => h1 p (hs p hp))
theorem PP.size {l : List Pl} (h : PP l) : l.length * 56 ≤ 140737488351232 := by have := h.len; omega
/-- All that the law asks of the operations. -/
structure Parts (ps : List Pl) (kk : Nat) (l1 l2 l3 : List Pl) : Prop where
  p : PP ps
  p1 : PP l1
  p2 : PP l2
  p3 : PP l3
  f : (Vl.list (Pls.toVl ps)).fine
  f1 : (Vl.list (Pls.toVl l1)).fine
  f2 : (Vl.list (Pls.toVl l2)).fine
  f3 : (Vl.list (Pls.toVl l3)).fine
  n1 : l1.length = kk
  cut1 : lWork ln_cut [pL ps, nPl 0, nPl (kk : Int)] = (0, .list (Pls.toVl l1))
  cut2 : lWork ln_cut [pL ps, nPl (kk : Int), nPl (ps.length : Int)] = (0, .list (Pls.toVl l2))
  join : lWork ln_join [pL l1, pL l2] = (0, .list (Pls.toVl ps))
  size : lWork ln_size [pL ps] = (0, .int (ps.length : Int))
  turn : lWork ln_turn [pL ps] = (0, .list (Pls.toVl l3))
  back : lWork ln_turn [pL l3] = (0, .list (Pls.toVl ps))
  atr : ∀ (i : Nat) (hi : i < ps.length), lWork ln_at [pL l3, nPl ((ps.length : Int) - 1 - i)] = (0, ps[i].toVl)
theorem parts_of {ps : List Pl} {kk : Nat} (h : PP ps) (hf : Vls.fine (Pls.toVl ps)) (hk : kk ≤ ps.length) : ∃ l1 l2 l3, Parts ps kk l1 l2 l3 :=
  ⟨ps.take kk, ps.drop kk, ps.reverse, {
    p := h
    p1 := h.take kk
    p2 := h.drop kk
    p3 := h.reverse
    f := h.fine hf
    f1 := (h.take kk).fine (fines_sub hf (fun p hp => List.mem_of_mem_take hp))
    f2 := (h.drop kk).fine (fines_sub hf (fun p hp => List.mem_of_mem_drop hp))
    f3 := h.reverse.fine (fines_sub hf (fun p hp => List.mem_reverse.1 hp))
    n1 := by rw [List.length_take]; omega
    cut1 := by have h1 := pp_cut h 0 kk (by omega) hk; rw [List.drop_zero] at h1; exact h1
    cut2 := by have h1 := pp_cut h kk ps.length hk (Nat.le_refl _); rw [List.take_length] at h1; exact h1
    join := by have h1 := pp_join (l := ps.take kk) (m := ps.drop kk) (by rw [List.take_append_drop]; exact h) (h.take kk) (h.drop kk); rw [List.take_append_drop] at h1; exact h1
    size := pp_size h
    turn := pp_turn h
    back := by have h1 := pp_turn h.reverse; rw [List.reverse_reverse] at h1; exact h1
    atr := fun i hi => pp_at_rev h i hi }⟩
/-- The list that is being made, in block Q. -/
structure AllAt (w : World) (Q : Nat) (l : List Pl) (A : Option Addr) (c : Nat) : Prop where
  blk : w.heap[Q]? = some (.cells #[.int .i64 5, .int .i64 0, .string ⟨#[]⟩, .slice A l.length c] 31 (0, 0))
  sits : Pls.sits w (fun b => b ≠ Q ∧ b < w.heap.size) l A
theorem AllAt.next {w w' : World} {Q c : Nat} {l : List Pl} {A : Option Addr} (h : AllAt w Q l A c) (hb : Below w.heap.size w w') : AllAt w' Q l A c :=
  ⟨(hb.block Q (lt_of_block h.blk)).trans h.blk, h.sits.keep (fun b o hs => hb.cell (p := ⟨b, o, none⟩) hs.2) (fun b hs => ⟨hs.1, Nat.lt_of_lt_of_le hs.2 hb.size⟩)⟩
theorem AllAt.pat {w : World} {Q c : Nat} {l : List Pl} {A : Option Addr} (h : AllAt w Q l A c) (hlen : l.length * 56 ≤ 140737488351232) : PAt w Q l A c :=
  ⟨h.blk, Pls.sits.lies (fun b hs => hs.2) _ _ h.sits, hlen⟩
theorem AllAt.new (w : World) : AllAt (w.alloc (.cells #[.int .i64 5, .int .i64 0, .string ⟨#[]⟩, .slice none 0 0] 31)) w.heap.size [] none 0 :=
  ⟨heap_alloc_new w _, by unfold Pls.sits; trivial⟩
theorem is_elem {x : Pl} (hback : x.toVl.toPl = x) (hf : x.toVl.fine) (hb : x.toVl.count ≤ 65536 ∧ x.toVl.dep ≤ 65) {v : Value} (w : World) (hv : VAt w x.toVl v) (A : Option Addr) (c : Nat) (hl : Pls.lies w w.heap.size x.list A) :
    Calls Tryz.prog 15 #[v, .agg #[.int .i64 x.kind, .int .i64 x.num, .string x.text, .slice A x.list.length c]] w (Bel (.bool true) w) := by
  have := law2_Is x.toVl v _ w hv (fun b hs => hs) hf (by omega) (by omega) A c (by rw [hback]; exact hl)
  rw [hback] at this
  exact this
def PGoodS (l : List Pl) (w : World) (e : Ending) (w' : World) : Prop := ∃ A c, e = .returned (.tuple #[.agg #[.int .i64 5, .int .i64 0, .string ⟨#[]⟩, .slice A l.length c], .bool true]) ∧ Pls.sits w' (fresh w w') l A ∧ Below w.heap.size w w'
theorem plain_goodS {l : List Pl} (h : PP l) (hf : (Vl.list (Pls.toVl l)).fine) {v : Value} (w : World) (hv : VAt w (.list (Pls.toVl l)) v) : Calls Tryz.prog 14 #[v] w (PGoodS l w) := by
  have hb := h.bounds
  refine (law2_Plain (.list (Pls.toVl l)) v _ w hv (fun b hs => hs) hf (by omega) (by omega)).mono ?_
  rintro e w' ⟨A, c, rfl, hbel, hs⟩
  rw [h.back] at hs ⊢
  exact ⟨A, c, rfl, hs, hbel⟩
def set4 (w : World) (Q : Nat) (x0 x1 x2 x3 : Value) : World := (((w.setCell ⟨Q, 0, none⟩ x0).setCell ⟨Q, 1, none⟩ x1).setCell ⟨Q, 2, none⟩ x2).setCell ⟨Q, 3, none⟩ x3
theorem all_set {w : World} {Q c c' : Nat} {l l' : List Pl} {A A' : Option Addr} (h : AllAt w Q l A c) (hs : Pls.sits w (fun b => b ≠ Q ∧ b < w.heap.size) l' A') : AllAt (set4 w Q (.int .i64 5) (.int .i64 0) (.string ⟨#[]⟩) (.slice A' l'.length c')) Q l' A' c' where
  blk := blk_set (blk_set (blk_set (blk_set h.blk 0 _) 1 _) 2 _) 3 _
  sits := hs.keep (fun b o hb => by
    unfold set4
    rw [cell_far _ _ (p := ⟨Q, 3, none⟩) hb.1, cell_far _ _ (p := ⟨Q, 2, none⟩) hb.1, cell_far _ _ (p := ⟨Q, 1, none⟩) hb.1, cell_far _ _ (p := ⟨Q, 0, none⟩) hb.1]) (fun b hb => ⟨hb.1, by unfold set4; rw [size_set, size_set, size_set, size_set]; exact hb.2⟩)
theorem below_set4Q {Q : Nat} {w w' : World} (h : Below Q w w') (x0 x1 x2 x3 : Value) : Below Q w (set4 w' Q x0 x1 x2 x3) :=
  (((h.setCell (p := ⟨Q, 0, none⟩) (Nat.le_refl _) _).setCell (p := ⟨Q, 1, none⟩) (Nat.le_refl _) _).setCell (p := ⟨Q, 2, none⟩) (Nat.le_refl _) _).setCell (p := ⟨Q, 3, none⟩) (Nat.le_refl _) _
theorem AllAt.free {w : World} {Q c : Nat} {l : List Pl} {A : Option Addr} (h : AllAt w Q l A c) : w.frozen? ⟨Q, 0, none⟩ = false ∧ w.frozen? ⟨Q, 1, none⟩ = false ∧ w.frozen? ⟨Q, 2, none⟩ = false ∧ w.frozen? ⟨Q, 3, none⟩ = false := by
  refine ⟨?_, ?_, ?_, ?_⟩ <;> simp [World.frozen?, h.blk]
/-- One value of the list. -/
structure Elem (ps l3 lk lk1 : List Pl) (k : Nat) (x : Pl) : Prop where
  at1 : lWork ln_at [pL ps, nPl (k : Int)] = (0, x.toVl)
  at2 : lWork ln_at [pL l3, nPl ((ps.length : Int) - 1 - k)] = (0, x.toVl)
  add : lWork ln_add [pL lk, x] = (0, .list (Pls.toVl lk1))
  fine : x.toVl.fine
  bounds : x.toVl.count ≤ 65536 ∧ x.toVl.dep ≤ 65
  back : x.toVl.toPl = x
  pk : PP lk
  pk1 : PP lk1
  fk1 : (Vl.list (Pls.toVl lk1)).fine
  eq1 : lk1 = ps.take (k + 1)
theorem elem_of {ps l1 l2 l3 lk : List Pl} {kk k : Nat} (g : Parts ps kk l1 l2 l3) (hf : Vls.fine (Pls.toVl ps)) (hk : k < ps.length) (hlk : lk = ps.take k) : ∃ lk1, Elem ps l3 lk lk1 k ps[k] :=
  ⟨ps.take (k + 1), {
    at1 := pp_at g.p k hk
    at2 := g.atr k hk
    add := by rw [hlk]; exact pp_add g.p k hk
    fine := by have := hf.at_ k (by rw [Pls.toVl_length]; exact hk); simpa [pp_map] using this
    bounds := g.p.at_bounds k hk
    back := g.p.at_back k hk
    pk := by rw [hlk]; exact g.p.take k
    pk1 := g.p.take (k + 1)
    fk1 := (g.p.take (k + 1)).fine (fines_sub hf (fun p hp => List.mem_of_mem_take hp))
    eq1 := rfl }⟩
theorem held8 {w w' : World} {Q c c2 b o : Nat} {l : List Pl} {A A2 : Option Addr} {x : Pl} (h : AllAt w Q l A c) (e0 : w.cell? ⟨b, o, none⟩ = some (.int .i64 x.kind)) (e1 : w.cell? ⟨b, o + 1, none⟩ = some (.int .i64 x.num)) (e2 : w.cell? ⟨b, o + 2, none⟩ = some (.string x.text)) (e3 : w.cell? ⟨b, o + 3, none⟩ = some (.slice A2 x.list.length c2)) (hb : Below w.heap.size w w') :
    w'.cell? ⟨Q, 0, none⟩ = some (.int .i64 5) ∧ w'.cell? ⟨Q, 1, none⟩ = some (.int .i64 0) ∧ w'.cell? ⟨Q, 2, none⟩ = some (.string ⟨#[]⟩) ∧ w'.cell? ⟨Q, 3, none⟩ = some (.slice A l.length c) ∧
    w'.cell? ⟨b, o, none⟩ = some (.int .i64 x.kind) ∧ w'.cell? ⟨b, o + 1, none⟩ = some (.int .i64 x.num) ∧ w'.cell? ⟨b, o + 2, none⟩ = some (.string x.text) ∧ w'.cell? ⟨b, o + 3, none⟩ = some (.slice A2 x.list.length c2) ∧ Below w.heap.size w w' := by
  have h' := (h.next hb).blk
  have hl : b < w.heap.size := World.block_lt_of_cell? _ _ e0
  refine ⟨?_, ?_, ?_, ?_, (hb.cell (p := ⟨b, o, none⟩) hl).trans e0, (hb.cell (p := ⟨b, o + 1, none⟩) hl).trans e1, (hb.cell (p := ⟨b, o + 2, none⟩) hl).trans e2, (hb.cell (p := ⟨b, o + 3, none⟩) hl).trans e3, hb⟩ <;> simp [World.cell?, h']
end Go.Proofs.YtcldbjgikkfnbaaGreatDoor
