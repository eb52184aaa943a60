/-
  Texts of a proof in one: PlMarks, PlTwin, PlOpen, PlKept, PlLight. Conditions: each names its own.
-/
import Derived.Test.YthjpphojddbbmaaGreatDoorCBase
import Derived.Test.YthjpphojddbbmaaGreatDoorProg
import Derived.Deep.AppendLies
import Derived.OwnWalk
import Derived.Lib.Strings
import Derived.Deep.Slices
import Derived.ChangeSame
/-
  Plain values with a mark behind each of their lists, in memory: no program. Conditions: none.
-/
namespace Go.Proofs.YthjpphojddbbmaaGreatDoor
open Go.RowKit
set_option linter.unusedVariables false

/-- The value of a plain one, its list at an address. -/
def Pl.cells4 (p : Pl) (A : Option Addr) (c : Nat) : List Value := [.int .i64 p.kind, .int .i64 p.num, .string p.text, .slice A p.list.length c]
def Pl.arg (p : Pl) (A : Option Addr) (c : Nat) : Value := .agg #[.int .i64 p.kind, .int .i64 p.num, .string p.text, .slice A p.list.length c]
/-- Its own numbers, text and list are within a row's reach. -/
def Pl.sane (p : Pl) : Prop := rng p.kind = true ∧ rng p.num = true ∧ p.text.size ≤ 140737488351232 ∧ p.list.length * 56 ≤ 140737488351232
theorem Pl.lies.sane {w : World} {B : Nat} {p : Pl} {b o : Nat} (h : p.lies w B b o) : p.sane := ⟨h.nums.1, h.nums.2, h.text, h.parts.2.2.2.2.1⟩
mutual
/-- It lies at a place, a mark behind its list and so on down. -/
def Pl.mlies (w : World) (S : Nat → Prop) : Pl → Nat → Nat → Prop
  | .mk k n t l, b, o => S b ∧ (Pl.mk k n t l).sane ∧ ∃ A c, (∀ j u, ((Pl.mk k n t l).cells4 A c)[j]? = some u → w.cell? ⟨b, o + j, none⟩ = some u) ∧ ((A = none ∧ l = []) ∨ ∃ b' o', A = some ⟨b', o', none⟩ ∧ l.length < c ∧ Pls.mtail w S l b' o')
/-- A row of them, and a mark. -/
def Pls.mtail (w : World) (S : Nat → Prop) : List Pl → Nat → Nat → Prop
  | [], b, o => S b ∧ w.cell? ⟨b, o, none⟩ = some (.int .i64 (-7))
  | p :: ps, b, o => Pl.mlies w S p b o ∧ Pls.mtail w S ps b (o + 4)
end
/-- A list is none, or a mark lies behind it. -/
def Marked (w : World) (S : Nat → Prop) (l : List Pl) (A : Option Addr) (c : Nat) : Prop := (A = none ∧ l = []) ∨ ∃ b' o', A = some ⟨b', o', none⟩ ∧ l.length < c ∧ Pls.mtail w S l b' o'
theorem Pl.mlies_iff {w : World} {S : Nat → Prop} {p : Pl} {b o : Nat} : p.mlies w S b o ↔ S b ∧ p.sane ∧ ∃ A c, (∀ j u, (p.cells4 A c)[j]? = some u → w.cell? ⟨b, o + j, none⟩ = some u) ∧ Marked w S p.list A c := by
  obtain ⟨k, n, t, l⟩ := p
  unfold Pl.mlies Marked
  exact Iff.rfl
section
variable {w w' : World} {S S' : Nat → Prop}
mutual
theorem Pl.mlies.keep (hk : ∀ b o, S b → w'.cell? ⟨b, o, none⟩ = w.cell? ⟨b, o, none⟩) (hS : ∀ b, S b → S' b) : ∀ (p : Pl) (b o : Nat), p.mlies w S b o → p.mlies w' S' b o
  | .mk k n t l, b, o, h => by
    unfold Pl.mlies at h ⊢
    obtain ⟨h0, h1, A, c, h2, h3⟩ := h
    refine ⟨hS _ h0, h1, A, c, fun j u hj => (hk _ _ h0).trans (h2 j u hj), ?_⟩
    rcases h3 with h3 | ⟨b', o', h3, h4, h5⟩
    · exact .inl h3
    · exact .inr ⟨b', o', h3, h4, Pls.mtail.keep hk hS l b' o' h5⟩
theorem Pls.mtail.keep (hk : ∀ b o, S b → w'.cell? ⟨b, o, none⟩ = w.cell? ⟨b, o, none⟩) (hS : ∀ b, S b → S' b) : ∀ (l : List Pl) (b o : Nat), Pls.mtail w S l b o → Pls.mtail w' S' l b o
  | [], b, o, h => by
    unfold Pls.mtail at h ⊢
    exact ⟨hS _ h.1, (hk _ _ h.1).trans h.2⟩
  | p :: ps, b, o, h => by
    unfold Pls.mtail at h ⊢
    exact ⟨Pl.mlies.keep hk hS p b o h.1, Pls.mtail.keep hk hS ps b (o + 4) h.2⟩
end
mutual
theorem Pl.mlies.lies {B : Nat} (hS : ∀ b, S b → b < B) : ∀ (p : Pl) (b o : Nat), p.mlies w S b o → p.lies w B b o
  | .mk k n t l, b, o, h => by
    unfold Pl.mlies at h
    unfold Pl.lies
    obtain ⟨h0, h1, A, c, h2, h3⟩ := h
    refine ⟨hS _ h0, h2 0 _ rfl, h2 1 _ rfl, h2 2 _ rfl, h1.1, h1.2.1, h1.2.2.1, h1.2.2.2, A, c, h2 3 _ rfl, ?_⟩
    rcases h3 with ⟨rfl, rfl⟩ | ⟨b', o', rfl, h4, h5⟩
    · unfold Pls.lies; trivial
    · exact Pls.mtail.lies hS l b' o' h5
theorem Pls.mtail.lies {B : Nat} (hS : ∀ b, S b → b < B) : ∀ (l : List Pl) (b o : Nat), Pls.mtail w S l b o → Pls.lies w B l (some ⟨b, o, none⟩)
  | [], b, o, h => by unfold Pls.lies; trivial
  | p :: ps, b, o, h => by
    unfold Pls.mtail at h
    unfold Pls.lies
    exact ⟨b, o, rfl, Pl.mlies.lies hS p b o h.1, Pls.mtail.lies hS ps b (o + 4) h.2⟩
end
theorem Marked.keep {l : List Pl} {A : Option Addr} {c : Nat} (h : Marked w S l A c) (hk : ∀ b o, S b → w'.cell? ⟨b, o, none⟩ = w.cell? ⟨b, o, none⟩) (hS : ∀ b, S b → S' b) : Marked w' S' l A c := by
  rcases h with h | ⟨b', o', h3, h4, h5⟩
  · exact .inl h
  · exact .inr ⟨b', o', h3, h4, Pls.mtail.keep hk hS l b' o' h5⟩
theorem Marked.lies {B : Nat} {l : List Pl} {A : Option Addr} {c : Nat} (h : Marked w S l A c) (hS : ∀ b, S b → b < B) : Pls.lies w B l A := by
  rcases h with ⟨rfl, rfl⟩ | ⟨b', o', rfl, h4, h5⟩
  · unfold Pls.lies; trivial
  · exact Pls.mtail.lies hS l b' o' h5
theorem Pls.mtail.at_ : ∀ {l : List Pl} {b o : Nat}, Pls.mtail w S l b o → ∀ (k : Nat) (h : k < l.length), l[k].mlies w S b (o + k * 4)
  | p :: ps, b, o, hl, 0, h => by
    unfold Pls.mtail at hl
    simpa using hl.1
  | p :: ps, b, o, hl, k + 1, h => by
    unfold Pls.mtail at hl
    have := Pls.mtail.at_ hl.2 k (by simpa using h)
    rw [show o + (k + 1) * 4 = o + 4 + k * 4 by omega]
    simpa using this
theorem Pls.mtail.mark : ∀ {l : List Pl} {b o : Nat}, Pls.mtail w S l b o → S b ∧ w.cell? ⟨b, o + l.length * 4, none⟩ = some (.int .i64 (-7))
  | [], b, o, h => by
    unfold Pls.mtail at h
    simpa using h
  | p :: ps, b, o, h => by
    unfold Pls.mtail at h
    have := Pls.mtail.mark h.2
    refine ⟨this.1, ?_⟩
    rw [show o + (p :: ps).length * 4 = o + 4 + ps.length * 4 by simp; omega]
    exact this.2
end
/-- A plain value and where its list lies. -/
structure PlAt where
  p : Pl
  A : Option Addr
  c : Nat
def PlAt.cells (x : PlAt) : List Value := x.p.cells4 x.A x.c
theorem plat_flat : ∀ (us : List PlAt) (k : Nat) (h : k < us.length) (j : Nat), j < 4 → (us.flatMap PlAt.cells)[k * 4 + j]? = us[k].cells[j]?
  | x :: us, 0, _, j, hj => by
    rw [List.flatMap_cons, List.getElem?_append_left (by show _ < 4; omega)]; simp
  | x :: us, k + 1, h, j, hj => by
    have hl : x.cells.length = 4 := rfl
    rw [List.flatMap_cons, List.getElem?_append_right (by omega), hl, show (k + 1) * 4 + j - 4 = k * 4 + j by omega]
    simpa using plat_flat us k (by simpa using h) j hj
theorem plat_len : ∀ (us : List PlAt), (us.flatMap PlAt.cells).length = us.length * 4
  | [] => rfl
  | x :: us => by
    have hl : x.cells.length = 4 := rfl
    rw [List.flatMap_cons, List.length_append, plat_len us, hl, List.length_cons]; omega
/-- Together out of their cells. -/
theorem mtail_of {w : World} {S : Nat → Prop} {b : Nat} (hb : S b) : ∀ (us : List PlAt) (o : Nat), (∀ j u, (us.flatMap PlAt.cells)[j]? = some u → w.cell? ⟨b, o + j, none⟩ = some u) → (∀ x ∈ us, x.p.sane ∧ Marked w S x.p.list x.A x.c) →
    w.cell? ⟨b, o + us.length * 4, none⟩ = some (.int .i64 (-7)) → Pls.mtail w S (us.map PlAt.p) b o
  | [], o, _, _, hm => by unfold Pls.mtail List.map; exact ⟨hb, by simpa using hm⟩
  | x :: us, o, hc, hx, hm => by
    unfold List.map Pls.mtail
    obtain ⟨h1, h2⟩ := hx x (by simp)
    refine ⟨Pl.mlies_iff.2 ⟨hb, h1, x.A, x.c, fun j u hj => hc j u ?_, h2⟩, mtail_of hb us (o + 4) (fun j u hj => ?_) (fun y hy => hx y (by simp [hy])) ?_⟩
    · have hlt : j < 4 := by
        rcases Nat.lt_or_ge j 4 with h | h
        · exact h
        · rw [List.getElem?_eq_none (by exact h)] at hj; cases hj
      rw [List.flatMap_cons, List.getElem?_append_left (by exact hlt)]; exact hj
    · rw [show o + 4 + j = o + (j + 4) by omega]
      refine hc (j + 4) u ?_
      have hl : x.cells.length = 4 := rfl
      rw [List.flatMap_cons, List.getElem?_append_right (by omega), hl, Nat.add_sub_cancel]; exact hj
    · rw [show o + 4 + us.length * 4 = o + (x :: us).length * 4 by simp; omega]; exact hm
end Go.Proofs.YthjpphojddbbmaaGreatDoor

/-
  espalierlaw2.Twin: a walk, for every plain value. Conditions: it lies in memory.
-/
namespace Go.Proofs.YthjpphojddbbmaaGreatDoor
open Go.RowKit
set_option linter.unusedVariables false

theorem info_plainT : (Tryz.prog.info? 34).map (fun i => (i.zero, i.size, i.bytes)) = some (some (.agg #[.int .i64 0, .int .i64 0, .string ByteArray.empty, .slice none 0 0]), 4, 56) := by kernel_rfl
theorem info_plain_parts : ∃ i, Tryz.prog.info? 34 = some i ∧ i.zero = some (.agg #[.int .i64 0, .int .i64 0, .string ByteArray.empty, .slice none 0 0]) ∧ i.size = 4 ∧ i.bytes = 56 := by
  have h := info_plainT
  cases hh : Tryz.prog.info? 34 with
  | none => rw [hh] at h; cases h
  | some i =>
    rw [hh] at h
    simp only [Option.map_some, Option.some.injEq, Prod.mk.injEq] at h
    exact ⟨i, rfl, h.1, h.2.1, h.2.2⟩
/-- A plain value in new memory, marks behind its lists. -/
def TwinPost (p : Pl) (w : World) (e : Ending) (w' : World) : Prop := ∃ A c, e = .returned (p.arg A c) ∧ Marked w' (fresh w w') p.list A c ∧ Below w.heap.size w w'
theorem plat_step {wr w2 w3 : World} {G : Nat} {us : List PlAt} {x : PlAt} {X Y : Obj} (hG : G < wr.heap.size) (hel : ∀ y ∈ us, y.p.sane ∧ Marked wr (fun b => G < b ∧ b < wr.heap.size) y.p.list y.A y.c)
    (hb2 : Below wr.heap.size wr w2) (hx : x.p.sane) (hm : Marked w2 (fresh wr w2) x.p.list x.A x.c) (hgr : ((w2.alloc X).alloc Y).grownBy w3 (some G)) :
    ∀ y ∈ us ++ [x], y.p.sane ∧ Marked w3 (fun b => G < b ∧ b < w3.heap.size) y.p.list y.A y.c := by
  have hs2 := hb2.size
  have hs3 := hgr.size
  simp only [size_alloc] at hs3
  have hlate : ∀ b o, b < w2.heap.size → G ≠ b → w3.cell? ⟨b, o, none⟩ = w2.cell? ⟨b, o, none⟩ := fun b o h2 h3 => World.cell?_of_block (a := ⟨b, o, none⟩) (by
    show w3.heap[b]? = w2.heap[b]?
    rw [hgr.block b (by simp; omega) (fun e => h3 (by injection e with e; omega)), Below.heap_alloc _ _ _ (by simp; omega), Below.heap_alloc _ _ _ h2])
  intro y hy
  rcases List.mem_append.1 hy with hy | hy
  · obtain ⟨h1, h2⟩ := hel y hy
    refine ⟨h1, h2.keep (fun b o hs => ?_) (fun b hs => ⟨hs.1, by have := hs.2; omega⟩)⟩
    rw [hlate b o (by have := hs.2; omega) (by have := hs.1; omega)]
    exact hb2.cell (p := ⟨b, o, none⟩) hs.2
  · rw [List.mem_singleton] at hy
    subst hy
    refine ⟨hx, hm.keep (fun b o hs => hlate b o hs.2 (by have := hs.1; omega)) (fun b hs => ⟨by have := hs.1; omega, by have := hs.2; omega⟩)⟩
theorem plat_block {wr w2 w3 : World} {G b : Nat} {X Y o : Obj} (hb2 : Below wr.heap.size wr w2) (hgr : ((w2.alloc X).alloc Y).grownBy w3 (some G)) (h : wr.heap[b]? = some o) (hb : G ≠ b) : w3.heap[b]? = some o := by
  have hlt : b < wr.heap.size := by
    rcases Nat.lt_or_ge b wr.heap.size with h' | h'
    · exact h'
    · rw [Array.getElem?_eq_none h'] at h; cases h
  have hs2 := hb2.size
  rw [hgr.block b (by simp; omega) (fun e => hb (by injection e with e; omega)), Below.heap_alloc _ _ _ (by simp; omega), Below.heap_alloc _ _ _ (by omega), hb2.block b hlt, h]
theorem plat_below {w wr w2 w3 : World} {G : Nat} {X Y : Obj} (h : Below w.heap.size w wr) (hG : w.heap.size ≤ G) (hb2 : Below wr.heap.size wr w2) (hgr : ((w2.alloc X).alloc Y).grownBy w3 (some G)) : Below w.heap.size w w3 := by
  have h2 := h.trans (hb2.mono h.size)
  have hs := h2.size
  exact ((h2.alloc hs X).alloc (by simp; omega) Y).grown hgr (by simp; omega) (by intro k hk; injection hk with hk; omega)
theorem mtail_eq {w : World} {S : Nat → Prop} {l l' : List Pl} {b o : Nat} (h : l = l') (hm : Pls.mtail w S l b o) : Pls.mtail w S l' b o := h ▸ hm
set_option maxRecDepth 100000 in
set_option maxHeartbeats 4000000 in
theorem twin_step (k n : Int) (t : ByteArray) (l : List Pl)
    (ih : ∀ (j : Nat) (h : j < l.length) (A : Option Addr) (c : Nat) (w : World), l[j].sane → Pls.lies w w.heap.size l[j].list A → Calls Tryz.prog 23 #[l[j].arg A c] w (TwinPost l[j] w))
    (A : Option Addr) (c : Nat) (w : World) (hs : (Pl.mk k n t l).sane) (hl : Pls.lies w w.heap.size l A) :
    Calls Tryz.prog 23 #[.agg #[.int .i64 k, .int .i64 n, .string t, .slice A l.length c]] w (TwinPost (.mk k n t l) w) := by
  have IH := Lib.hid ih
  have HL := Lib.hid hl
  have HS := Lib.hid hs
  clear ih
  cases A with
  | none =>
    have hl0 : Hid (l = []) := Lib.hid (by
      cases l with
      | nil => rfl
      | cons p ps => unfold Pls.lies at hl; obtain ⟨b, o, e, _⟩ := hl; cases e)
    clear hl hs
    have he : ∀ w : World, (binOp .eql 24 (.slice none l.length c) (.slice none 0 0)).run Tryz.prog w = .ok (.bool true) w := fun _ => rfl
    go_enter Tryz.func23, Tryz.ntmps23
    go_wp2
    refine bodyPost_ret (fn := Tryz.f23) (v := (Pl.mk k n t l).arg none c) ?_ rfl ⟨none, c, rfl, .inl ⟨rfl, hl0.out⟩, ((Below.refl _ _).alloc (Nat.le_refl _) _).alloc (by simp) _⟩
    refine results_cell (p := 2) (ty := 34) (a := ⟨w.heap.size + 1, 0, none⟩) Tryz.results23 rfl ?_
    exact run_loadVar_row (P := Tryz.prog) _ _ _ 34 _ _ _ (heap_alloc2 w _ _).2 Tryz.underlying34 rfl (by kernel_rfl)
  | some ad =>
    obtain ⟨i0, hi, hz0, hz1, hz2⟩ := info_plain_parts
    have hlen : l.length * 56 ≤ 140737488351232 := hs.2.2.2
    clear hl hs
    have he : ∀ w : World, (binOp .eql 24 (.slice (some ad) l.length c) (.slice none 0 0)).run Tryz.prog w = .ok (.bool false) w := fun _ => rfl
    go_enter Tryz.func23, Tryz.ntmps23
    go_wp2_with (refine wpList_make_own _ rfl _ _ 24 rfl (w.heap.size + 2) 34 i0 (.agg #[.int .i64 0, .int .i64 0, .string ByteArray.empty, .slice none 0 0]) 4 Tryz.underlying24 hi hz0 hz1 _ _ _ (l.length + 1) rfl rfl (by omega) (by rw [hz2]; omega) (by unfold maxLen; omega) (by simp) ?_; intro w1 hown hgr)
    generalize hX1 : Obj.cells #[.int .i64 k, .int .i64 n, .string t, .slice (some ad) l.length c] 34 = X1 at *
    generalize hX2 : Obj.cells #[.int .i64 0, .int .i64 0, .string ⟨#[]⟩, .slice none 0 0] 34 = X2 at *
    have HX1 := Lib.hid hX1
    have HX2 := Lib.hid hX2
    have hsz : w.heap.size + 2 < w1.heap.size := by
      have := own_lt hown
      simp only [size_alloc] at this
      omega
    have B1 := Lib.hid ((hgr.block w.heap.size (by simp; omega) (by simp)).trans (heap_alloc2 w X1 X2).1)
    have B2 := Lib.hid ((hgr.block (w.heap.size + 1) (by simp) (by simp)).trans (heap_alloc2 w X1 X2).2)
    have HB1 := Lib.hid ((((Below.refl w.heap.size w).alloc (Nat.le_refl _) X1).alloc (by simp) X2).grown hgr (by simp; omega) (by simp))
    have HO := Lib.hid (show w1.ownsRow (w.heap.size + 2) 34 4 (.slice (some ⟨w.heap.size + 2, 0, none⟩) 0 (l.length + 1)) 0 [] by simpa using hown)
    clear hown hgr hX1 hX2
    go_loopw [3, 4] (fun s3 s4 wr => ∃ (j : Nat) (us : List PlAt), j ≤ l.length ∧ s4 = .int .i64 (j : Int) ∧ s3 = .slice (some ⟨w.heap.size + 2, 0, none⟩) j (l.length + 1) ∧ us.map PlAt.p = l.take j ∧
      wr.ownsRow (w.heap.size + 2) 34 4 (.slice (some ⟨w.heap.size + 2, 0, none⟩) j (l.length + 1)) j (us.flatMap PlAt.cells) ∧
      (∀ x ∈ us, x.p.sane ∧ Marked wr (fun b => w.heap.size + 2 < b ∧ b < wr.heap.size) x.p.list x.A x.c) ∧ wr.heap[w.heap.size]? = some X1 ∧ wr.heap[w.heap.size + 1]? = some X2 ∧ Below w.heap.size w wr) (fun _ s4 _ => l.length - (intOf s4).toNat)
    case atStart => exact ⟨0, [], Nat.zero_le _, rfl, rfl, by simp, HO.out, (fun x hx => absurd hx (List.not_mem_nil)), B1.out, B2.out, HB1.out⟩
    case round =>
      clear hsz HO HB1 B1 B2
      obtain ⟨j, us, hj, rfl, rfl, hus, hown, hel, hb1, hb2, hbel⟩ := hrel
      have hsz : w.heap.size + 2 < wr.heap.size := own_lt hown
      have HU := Lib.hid hus
      have HO := Lib.hid hown
      have HE := Lib.hid hel
      have HB := Lib.hid hbel
      have B1 := Lib.hid hb1
      have B2 := Lib.hid hb2
      clear hus hown hel hbel hb1 hb2
      have c3 : wr.cell? ⟨w.heap.size, 3, none⟩ = some (.slice (some ad) l.length c) := cell_of_row _ _ 3 _ _ _ (by rw [B1.out, ← HX1.out])
      by_cases hlt : j < l.length
      · obtain ⟨b', o', had⟩ := HL.out.head (by omega)
        injection had with had
        subst had
        have hlies := (HL.out.below HB.out (Nat.le_of_lt (by omega : w.heap.size < wr.heap.size))).at_ j hlt
        have hsn := Lib.hid hlies.sane
        obtain ⟨hbb, e0, e1, e2, hlen2, A', c', e3, hll⟩ := hlies.parts
        have HLL := Lib.hid (IH.out j hlt A' c' wr hsn.out hll)
        unfold Pl.arg at HLL
        clear hll hlies
        go_wp2_with fail
        refine HLL.out.mono ?_
        rintro e w2 ⟨A1, c1, rfl, hm, hb2⟩
        have HM := Lib.hid hm
        have HB2 := Lib.hid hb2
        have hs2 := hb2.size
        have hown2 := Lib.hid ((own_below HO.out hb2).alloc (.cells (l[j].cells4 A1 c1).toArray 34) |>.alloc (.cells (l[j].cells4 A1 c1).toArray 34))
        clear hm hb2 e0 e1 e2 e3 c3 HLL
        unfold Pl.arg
        unfold Pl.cells4 at hown2
        go_wp2_with (at_builtin; refine wpList_append_fits _ rfl _ _ 24 rfl (w.heap.size + 2) 34 i0 4 Tryz.underlying24 hi hz1 (w.heap.size + 2) j (l.length + 1) (us.flatMap PlAt.cells) rfl hown2.out ⟨w2.heap.size + 1, 0, none⟩ 1 1 (l[j].cells4 A1 c1) rfl rfl (World.news_of_block (by exact (heap_alloc2 w2 _ _).2)) (by intro u hu; unfold Pl.cells4 at hu; simp at hu; rcases hu with rfl | rfl | rfl | rfl <;> rfl) (by omega) ?_)
        intro w3 hown3 hgr3
        have HE3 := Lib.hid (plat_step (x := ⟨l[j], A1, c1⟩) hsz HE.out HB2.out hsn.out HM.out hgr3)
        have B13 := Lib.hid (plat_block HB2.out hgr3 B1.out (by omega))
        have B23 := Lib.hid (plat_block HB2.out hgr3 B2.out (by omega))
        have HB3 := Lib.hid (plat_below HB.out (by omega) HB2.out hgr3)
        have HU3 := Lib.hid (show (us ++ [(⟨l[j], A1, c1⟩ : PlAt)]).map PlAt.p = l.take (j + 1) by rw [List.map_append, HU.out, List.take_succ_eq_append_getElem hlt]; rfl)
        have HO3 := Lib.hid (show w3.ownsRow (w.heap.size + 2) 34 4 (.slice (some ⟨w.heap.size + 2, 0, none⟩) (j + 1) (l.length + 1)) (j + 1) ((us ++ [(⟨l[j], A1, c1⟩ : PlAt)]).flatMap PlAt.cells) by
          rw [List.flatMap_append, List.flatMap_singleton]; exact hown3)
        clear hown3 hgr3 hown2
        go_wp2
        go_roundw
        case rel => exact ⟨j + 1, us ++ [(⟨l[j], A1, c1⟩ : PlAt)], by omega, by go_num, rfl, HU3.out, HO3.out, HE3.out, B13.out, B23.out, HB3.out⟩
        case measure => simp [intOf]; omega
      · obtain rfl : j = l.length := by omega
        have hown2 := Lib.hid (HO.out.alloc (.cells #[.int .i64 (-7), .int .i64 0, .string ⟨#[]⟩, .slice none 0 0] 34))
        go_wp2_with (at_builtin; refine wpList_append_fits _ rfl _ _ 24 rfl (w.heap.size + 2) 34 i0 4 Tryz.underlying24 hi hz1 (w.heap.size + 2) l.length (l.length + 1) (us.flatMap PlAt.cells) rfl hown2.out ⟨wr.heap.size, 0, none⟩ 1 1 [.int .i64 (-7), .int .i64 0, .string ⟨#[]⟩, .slice none 0 0] rfl rfl (World.news_of_block (by exact heap_alloc_new wr _)) (by intro u hu; simp at hu; rcases hu with rfl | rfl | rfl | rfl <;> rfl) (by omega) ?_)
        intro w3 hown3 hgr3
        have D1 := Lib.hid (show w3.heap[w.heap.size]? = some X1 by rw [hgr3.block _ (by simp; omega) (fun e => by injection e; omega), Below.heap_alloc _ _ _ (by omega), B1.out])
        have D2 := Lib.hid (show w3.heap[w.heap.size + 1]? = some X2 by rw [hgr3.block _ (by simp; omega) (fun e => by injection e; omega), Below.heap_alloc _ _ _ (by omega), B2.out])
        have f1 : ∀ j, w3.cell? ⟨w.heap.size, j, none⟩ = (#[.int .i64 k, .int .i64 n, .string t, .slice (some ad) l.length c] : Array Value)[j]? := fun j => by simp [World.cell?, D1.out, ← HX1.out]
        have g1 : ∀ j, w3.frozen? ⟨w.heap.size, j, none⟩ = false := fun j => by simp [World.frozen?, D1.out, ← HX1.out]
        have f2 : ∀ j, w3.cell? ⟨w.heap.size + 1, j, none⟩ = (#[.int .i64 0, .int .i64 0, .string ⟨#[]⟩, .slice none 0 0] : Array Value)[j]? := fun j => by simp [World.cell?, D2.out, ← HX2.out]
        have g2 : ∀ j, w3.frozen? ⟨w.heap.size + 1, j, none⟩ = false := fun j => by simp [World.frozen?, D2.out, ← HX2.out]
        have HO3 := Lib.hid hown3
        have HG3 := Lib.hid hgr3
        have hs3 := hgr3.size
        rw [size_alloc] at hs3
        clear c3 hown3 hgr3
        go_wp2
        clear f1 g1 f2 g2
        have hres := run_loadVar_row (P := Tryz.prog) _ _ _ 34 _ _ _ (blk_set (blk_set (blk_set (blk_set (blk_far (D2.out.trans (by rw [← HX2.out])) (p := ⟨w.heap.size, 3, none⟩) (by simp) (.slice (some ⟨w.heap.size + 2, 0, none⟩) l.length (l.length + 1))) 0 (.int .i64 k)) 1 (.int .i64 n)) 2 (.string t)) 3 (.slice (some ⟨w.heap.size + 2, 0, none⟩) l.length (l.length + 1))) Tryz.underlying34 rfl (by kernel_rfl)
        refine bodyPost_ret (fn := Tryz.f23) (v := (Pl.mk k n t l).arg (some ⟨w.heap.size + 2, 0, none⟩) (l.length + 1)) ?_ rfl ⟨some ⟨w.heap.size + 2, 0, none⟩, l.length + 1, rfl, ?_, ?_⟩
        · exact results_cell (p := 2) (ty := 34) (a := ⟨w.heap.size + 1, 0, none⟩) Tryz.results23 rfl hres
        · clear hres
          have hfin : ∀ b o, b ≠ w.heap.size → b ≠ w.heap.size + 1 → (((((w3.setCell ⟨w.heap.size, 3, none⟩ (.slice (some ⟨w.heap.size + 2, 0, none⟩) l.length (l.length + 1))).setCell ⟨w.heap.size + 1, 0, none⟩ (.int .i64 k)).setCell ⟨w.heap.size + 1, 1, none⟩ (.int .i64 n)).setCell ⟨w.heap.size + 1, 2, none⟩ (.string t)).setCell ⟨w.heap.size + 1, 3, none⟩ (.slice (some ⟨w.heap.size + 2, 0, none⟩) l.length (l.length + 1))).cell? ⟨b, o, none⟩ = w3.cell? ⟨b, o, none⟩ := fun b o h1 h2 => by
            rw [cell_far _ _ (p := ⟨w.heap.size + 1, 3, none⟩) h2, cell_far _ _ (p := ⟨w.heap.size + 1, 2, none⟩) h2, cell_far _ _ (p := ⟨w.heap.size + 1, 1, none⟩) h2, cell_far _ _ (p := ⟨w.heap.size + 1, 0, none⟩) h2, cell_far _ _ (p := ⟨w.heap.size, 3, none⟩) h1]
          have hfs : (((((w3.setCell ⟨w.heap.size, 3, none⟩ (.slice (some ⟨w.heap.size + 2, 0, none⟩) l.length (l.length + 1))).setCell ⟨w.heap.size + 1, 0, none⟩ (.int .i64 k)).setCell ⟨w.heap.size + 1, 1, none⟩ (.int .i64 n)).setCell ⟨w.heap.size + 1, 2, none⟩ (.string t)).setCell ⟨w.heap.size + 1, 3, none⟩ (.slice (some ⟨w.heap.size + 2, 0, none⟩) l.length (l.length + 1))).heap.size = w3.heap.size := by
            rw [size_set, size_set, size_set, size_set, size_set]
          refine .inr ⟨w.heap.size + 2, 0, rfl, Nat.lt_succ_self _, ?_⟩
          have hup : us.map PlAt.p = l := by rw [HU.out, List.take_length]
          have hul : us.length = l.length := by rw [← hup, List.length_map]
          refine mtail_eq hup ?_
          refine mtail_of ⟨by omega, by rw [hfs]; omega⟩ us 0 (fun j u hj => ?_) (fun y hy => ?_) ?_
          · have hjl : j < us.length * 4 := by
              rcases Nat.lt_or_ge j (us.flatMap PlAt.cells).length with h | h
              · rwa [plat_len] at h
              · rw [List.getElem?_eq_none h] at hj; cases hj
            rw [hfin _ _ (by omega) (by omega), Nat.zero_add, HO3.out.cellAt j (by omega), List.getElem?_append_left (by rw [plat_len]; exact hjl)]
            exact hj
          · obtain ⟨h1, h2⟩ := HE.out y hy
            refine ⟨h1, h2.keep (fun b o hs => ?_) (fun b hs => ⟨by have := hs.1; omega, by rw [hfs]; have := hs.2; omega⟩)⟩
            have hb1 := hs.1
            have hb2 := hs.2
            rw [hfin _ _ (by omega) (by omega)]
            refine World.cell?_of_block (a := ⟨b, o, none⟩) ?_
            show w3.heap[b]? = wr.heap[b]?
            rw [HG3.out.block b (by simp; omega) (fun e => by injection e; omega), Below.heap_alloc _ _ _ hb2]
          · rw [hfin _ _ (by omega) (by omega), Nat.zero_add, HO3.out.cellAt _ (by omega), List.getElem?_append_right (by rw [plat_len]; exact Nat.le_refl _), plat_len, Nat.sub_self]; rfl
        · exact ((((((HB.out.alloc HB.out.size _).grown HG3.out (by have := HB.out.size; simp; omega) (by intro k hk; injection hk with hk; omega)).setCell (p := ⟨w.heap.size, 3, none⟩) (Nat.le_refl _) _).setCell (p := ⟨w.heap.size + 1, 0, none⟩) (Nat.le_succ _) _).setCell (p := ⟨w.heap.size + 1, 1, none⟩) (Nat.le_succ _) _).setCell (p := ⟨w.heap.size + 1, 2, none⟩) (Nat.le_succ _) _).setCell (p := ⟨w.heap.size + 1, 3, none⟩) (Nat.le_succ _) _
theorem twin_all : ∀ (z : Nat) (p : Pl), SizeOf.sizeOf p ≤ z → ∀ (A : Option Addr) (c : Nat) (w : World), p.sane → Pls.lies w w.heap.size p.list A → Calls Tryz.prog 23 #[p.arg A c] w (TwinPost p w) := by
  intro z
  induction z with
  | zero => intro p h; cases p; simp at h
  | succ z ih =>
    intro p hp A c w h0 h1
    obtain ⟨k, n, t, l⟩ := p
    exact twin_step k n t l (fun j hj => ih l[j] (by have := Pl.size_lt (k := k) (n := n) (t := t) hj; omega)) A c w h0 h1
/-- espalierlaw2.Twin. -/
theorem law2_Twin (p : Pl) (A : Option Addr) (c : Nat) (w : World) (h0 : p.sane) (h1 : Pls.lies w w.heap.size p.list A) : Calls Tryz.prog 23 #[p.arg A c] w (TwinPost p w) := twin_all _ p (Nat.le_refl _) A c w h0 h1
end Go.Proofs.YthjpphojddbbmaaGreatDoor

/-
  Plain values, and rows of them, opened out of a row's datum: how they lie in memory. Conditions: none.
-/
namespace Go.Proofs.YthjpphojddbbmaaGreatDoor
open Go.RowKit Go.WideShapes Go.ChangeShapes Go.ChangeAt
set_option linter.unusedVariables false

theorem size_data (s : ByteArray) : s.data.toList.length = s.size := by
  exact s.data.length_toList
theorem spot_none {w : World} {b o : Nat} {sp : Option Nat} {v : Value} (h : w.cell? ⟨b, o, sp⟩ = some v) : sp = none := by
  cases sp with
  | none => rfl
  | some x =>
    unfold World.cell? at h
    split at h <;> simp at h
theorem weightsAll_mem {H : Type} {P : Program} {e : TypeId} : ∀ {l : List (DataW H)} {d : DataW H}, d ∈ l → ∀ n ∈ d.weights P e, n ∈ DataW.weightsAll P e l
  | x :: l, d, h, n, hn => by
    simp only [DataW.weightsAll, List.mem_append]
    rcases List.mem_cons.1 h with rfl | h
    · exact Or.inl hn
    · exact Or.inr (weightsAll_mem h n hn)
/-- All that a datum weighs is within reach. -/
def Fit {H : Type} (t : TypeId) (d : DataW H) : Prop := ∀ n ∈ d.weights Tryz.prog t, n ≤ 140737488351232
theorem lies_build {w : World} {B b : Nat} : ∀ (n o : Nat), (∀ i, i < n → ∃ p : Pl, p.lies w B b (o + i * 4)) → ∃ l : List Pl, l.length = n ∧ Pls.lies w B l (some ⟨b, o, none⟩)
  | 0, o, h => ⟨[], rfl, by unfold Pls.lies; trivial⟩
  | n + 1, o, h => by
    obtain ⟨p, hp⟩ := h 0 (by omega)
    obtain ⟨l, hl, hs⟩ := lies_build n (o + 4) (fun i hi => by
      obtain ⟨q, hq⟩ := h (i + 1) (by omega)
      exact ⟨q, by rw [show o + 4 + i * 4 = o + (i + 1) * 4 by omega]; exact hq⟩)
    refine ⟨p :: l, by simp [hl], ?_⟩
    unfold Pls.lies
    exact ⟨b, o, rfl, by simpa using hp, hs⟩
theorem add_add_none (b o i j : Nat) : ((⟨b, o, none⟩ : Addr).add i).add j = ⟨b, o + i + j, none⟩ := by
  rw [Deep.add_add]
  unfold Addr.add
  split
  · simp_all
  · simp [Nat.add_assoc]
theorem op_c4 : Tryz.prog.cellsOf 34 = 4 := by kernel_rfl
theorem op_b4 : Tryz.prog.bytesOf 34 = 56 := by kernel_rfl
theorem op_c1 : Tryz.prog.cellsOf 3 = 1 := by kernel_rfl
theorem op_c1' : Tryz.prog.cellsOf 2 = 1 := by kernel_rfl
theorem op_c1s : Tryz.prog.cellsOf 9 = 1 := by kernel_rfl
theorem op_c1l : Tryz.prog.cellsOf 24 = 1 := by kernel_rfl
theorem len4 {α : Type} {l : List α} (h : l.length = 4) : ∃ a b c d, l = [a, b, c, d] := by
  match l, h with
  | [a, b, c, d], _ => exact ⟨a, b, c, d, rfl⟩
theorem rng_of_wf {n : Int} (h : (Lit.int .i64 n).wf = true) : rng n = true := by
  have h' : IntKind.i64.min ≤ n ∧ n ≤ 9223372036854775807 := by simpa [Lit.wf] using h
  exact rng_iff.mpr ⟨h'.1, h'.2⟩

theorem open_plain {H : Type} {enc : TypeId × Value → H} {w : World} {spare : Nat → Bool} {held : Bool} : ∀ (z fuel : Nat) (cs : List Value) (x : DataW H × List MemPlace), fuel ≤ z →
    DataW.trod enc Tryz.prog w 0 spare held fuel 34 cs = some x → (∀ p ∈ x.2, p.block < w.heap.size) → Fit 34 x.1 →
    ∃ (p : Pl) (A : Option Addr) (c : Nat), cs = [.int .i64 p.kind, .int .i64 p.num, .string p.text, .slice A p.list.length c] ∧ p.sane ∧ Pls.lies w w.heap.size p.list A := by
  intro z
  induction z with
  | zero =>
    intro fuel cs x hz h _ _
    obtain rfl : fuel = 0 := by omega
    simp [DataW.trod] at h
  | succ z ih =>
    intro fuel cs x hz h hlt hfit
    obtain ⟨xs, n, hfu, rfl, hl, hlen, hf⟩ := DataW.trod_struct Tryz.underlying34 h
    rw [op_c4] at hl
    obtain ⟨v0, v1, v2, v3, rfl⟩ := len4 hl
    obtain ⟨x0, x1, x2, x3, rfl⟩ := len4 hlen
    have h0 : DataW.trod enc Tryz.prog w 0 spare held n 3 [v0] = some x0 := by
      have := hf 0 _ rfl
      simpa [op_c1] using this
    have h1 : DataW.trod enc Tryz.prog w 0 spare held n 2 [v1] = some x1 := by
      have := hf 1 _ rfl
      simpa [op_c1'] using this
    have h2 : DataW.trod enc Tryz.prog w 0 spare held n 9 [v2] = some x2 := by
      have := hf 2 _ rfl
      simpa [op_c1s] using this
    have h3 : DataW.trod enc Tryz.prog w 0 spare held n 24 [v3] = some x3 := by
      have := hf 3 _ rfl
      simpa [op_c1l] using this
    obtain ⟨k, e0, rfl, g0⟩ := DataW.trod_int Tryz.underlying3 h0
    obtain ⟨m, e1, rfl, g1⟩ := DataW.trod_int Tryz.underlying2 h1
    obtain ⟨s, e2, rfl, _⟩ := DataW.trod_string Tryz.underlying9 h2
    simp only [List.cons.injEq, and_true] at e0 e1 e2
    subst e0 e1 e2
    have m3 : ∀ p ∈ x3.2, p.block < w.heap.size := fun p hp => hlt p (List.mem_flatMap.2 ⟨x3, by simp, hp⟩)
    have hw : ∀ q ∈ s.data.toList.length :: x3.1.weights Tryz.prog 24, q ≤ 140737488351232 := fun q hq => hfit q (by
      simp only [List.map_cons, List.map_nil, DataW.weights, Tryz.underlying34, DataW.weightsEach, List.nil_append, List.append_nil, List.cons_append]
      exact hq)
    have hs : s.size ≤ 140737488351232 := by
      have := hw _ (List.mem_cons_self ..)
      exact (size_data s) ▸ this
    rcases DataW.trod_slice Tryz.underlying24 h3 with ⟨hcs, rfl⟩ | ⟨a, len, cap, elems, rest, n2, hn2, hcs, rfl, _, hle, hmx, hel, hx, _, _⟩
    · simp only [List.cons.injEq, and_true] at hcs
      subst hcs
      exact ⟨.mk k m s [], none, 0, rfl, ⟨rng_of_wf g0, rng_of_wf g1, hs, by simp [Pl.list]⟩, by unfold Pl.list Pls.lies; trivial⟩
    · simp only [List.cons.injEq, and_true] at hcs
      subst hcs
      have hsl : elems.length * 56 ≤ 140737488351232 := by
        have := hw ((elems.length + rest.length) * 56) (List.mem_cons_of_mem _ (by simp [DataW.weights, Tryz.underlying24, op_b4]))
        omega
      rcases Nat.eq_zero_or_pos len with hz0 | hpos
      · subst hz0
        exact ⟨.mk k m s [], some a, cap, rfl, ⟨rng_of_wf g0, rng_of_wf g1, hs, by simp [Pl.list]⟩, by unfold Pl.list Pls.lies; trivial⟩
      · have hone : ∀ i, i < len → ∃ p : Pl, ∃ A c, p.sane ∧ Pls.lies w w.heap.size p.list A ∧ ∀ j, j < 4 → w.cell? ((a.add (i * 4)).add j) = [Value.int .i64 p.kind, .int .i64 p.num, .string p.text, .slice A p.list.length c][j]? := by
          intro i hi
          have key := hx i hi
          rw [List.getElem?_eq_getElem (by omega), op_c4] at key
          obtain ⟨cs', c1, c2⟩ := Option.bind_eq_some_iff.1 key
          obtain ⟨_, hcl, hcc⟩ := World.cells?_some c1
          have hmem : elems[i]'(by omega) ∈ elems := List.getElem_mem _
          obtain ⟨p, A, c, rfl, hps, hpl⟩ := ih n2 cs' _ (by omega) c2 (fun q hq => m3 q (List.mem_append_right _ (List.mem_flatMap.2 ⟨_, List.mem_append_left _ hmem, hq⟩)))
            (fun q hq => hw q (List.mem_cons_of_mem _ (by
              simp only [DataW.weights, Tryz.underlying24]
              exact List.mem_cons_of_mem _ (List.mem_append_left _ (weightsAll_mem (List.mem_map.2 ⟨_, hmem, rfl⟩) q hq)))))
          exact ⟨p, A, c, hps, hpl, fun j hj => by rw [hcc j hj]⟩
        obtain ⟨p0, A0, c0, _, _, hy0⟩ := hone 0 hpos
        have h00 := hy0 0 (by omega)
        rw [show (a.add (0 * 4)).add 0 = a by simp [Addr.add]] at h00
        obtain ⟨b, o, sp⟩ := a
        have hsp := spot_none (h00.trans (show _ = some (.int .i64 p0.kind) from rfl))
        subst hsp
        have hbl : b < w.heap.size := World.block_lt_of_cell? _ _ (h00.trans (show _ = some (.int .i64 p0.kind) from rfl))
        obtain ⟨l, hll, hlies⟩ := lies_build (w := w) (B := w.heap.size) (b := b) len o (fun i hi => by
          obtain ⟨p, A, c, hps, hpl, hc⟩ := hone i hi
          simp only [add_add_none] at hc
          refine ⟨p, ?_⟩
          obtain ⟨pk, pn, pt, pl⟩ := p
          unfold Pl.lies
          exact ⟨hbl, hc 0 (by omega), hc 1 (by omega), hc 2 (by omega), hps.1, hps.2.1, hps.2.2.1, hps.2.2.2, A, c, hc 3 (by omega), hpl⟩)
        refine ⟨.mk k m s l, some ⟨b, o, none⟩, cap, ?_, ⟨rng_of_wf g0, rng_of_wf g1, hs, ?_⟩, hlies⟩
        · simp [Pl.kind, Pl.num, Pl.text, Pl.list, hll]
        · simp only [Pl.list, hll]
          omega
/-- A slice of plain values, opened. -/
theorem open_plains {H : Type} {enc : TypeId × Value → H} {w : World} {spare : Nat → Bool} {held : Bool} {fuel : Nat} {v : Value} {x : DataW H × List MemPlace}
    (h : DataW.trod enc Tryz.prog w 0 spare held fuel 24 [v] = some x) (hlt : ∀ p ∈ x.2, p.block < w.heap.size) (hfit : Fit 24 x.1) :
    ∃ (l : List Pl) (A : Option Addr) (c : Nat), v = .slice A l.length c ∧ l.length * 56 ≤ 140737488351232 ∧ Pls.lies w w.heap.size l A := by
  rcases DataW.trod_slice Tryz.underlying24 h with ⟨hcs, rfl⟩ | ⟨a, len, cap, elems, rest, n2, hn2, hcs, rfl, _, hle, hmx, hel, hx, _, _⟩
  · simp only [List.cons.injEq, and_true] at hcs
    subst hcs
    exact ⟨[], none, 0, rfl, by simp, by unfold Pls.lies; trivial⟩
  · simp only [List.cons.injEq, and_true] at hcs
    subst hcs
    have hsl : elems.length * 56 ≤ 140737488351232 := by
      have := hfit ((elems.length + rest.length) * 56) (by simp [DataW.weights, Tryz.underlying24, op_b4])
      omega
    rcases Nat.eq_zero_or_pos len with hz0 | hpos
    · subst hz0
      exact ⟨[], some a, cap, rfl, by simp, by unfold Pls.lies; trivial⟩
    · have hone : ∀ i, i < len → ∃ p : Pl, ∃ A c, p.sane ∧ Pls.lies w w.heap.size p.list A ∧ ∀ j, j < 4 → w.cell? ((a.add (i * 4)).add j) = [Value.int .i64 p.kind, .int .i64 p.num, .string p.text, .slice A p.list.length c][j]? := by
        intro i hi
        have key := hx i hi
        rw [List.getElem?_eq_getElem (by omega), op_c4] at key
        obtain ⟨cs', c1, c2⟩ := Option.bind_eq_some_iff.1 key
        obtain ⟨_, hcl, hcc⟩ := World.cells?_some c1
        have hmem : elems[i]'(by omega) ∈ elems := List.getElem_mem _
        obtain ⟨p, A, c, rfl, hps, hpl⟩ := open_plain _ n2 cs' _ (Nat.le_refl _) c2 (fun q hq => hlt q (List.mem_append_right _ (List.mem_flatMap.2 ⟨_, List.mem_append_left _ hmem, hq⟩)))
          (fun q hq => hfit q (by
            simp only [DataW.weights, Tryz.underlying24]
            exact List.mem_cons_of_mem _ (List.mem_append_left _ (weightsAll_mem (List.mem_map.2 ⟨_, hmem, rfl⟩) q hq))))
        exact ⟨p, A, c, hps, hpl, fun j hj => by rw [hcc j hj]⟩
      obtain ⟨p0, A0, c0, _, _, hy0⟩ := hone 0 hpos
      have h00 := hy0 0 (by omega)
      rw [show (a.add (0 * 4)).add 0 = a by simp [Addr.add]] at h00
      obtain ⟨b, o, sp⟩ := a
      have hsp := spot_none (h00.trans (show _ = some (.int .i64 p0.kind) from rfl))
      subst hsp
      have hbl : b < w.heap.size := World.block_lt_of_cell? _ _ (h00.trans (show _ = some (.int .i64 p0.kind) from rfl))
      obtain ⟨l, hll, hlies⟩ := lies_build (w := w) (B := w.heap.size) (b := b) len o (fun i hi => by
        obtain ⟨p, A, c, hps, hpl, hc⟩ := hone i hi
        simp only [add_add_none] at hc
        refine ⟨p, ?_⟩
        obtain ⟨pk, pn, pt, pl⟩ := p
        unfold Pl.lies
        exact ⟨hbl, hc 0 (by omega), hc 1 (by omega), hc 2 (by omega), hps.1, hps.2.1, hps.2.2.1, hps.2.2.2, A, c, hc 3 (by omega), hpl⟩)
      exact ⟨l, some ⟨b, o, none⟩, cap, by rw [hll], by omega, hlies⟩
end Go.Proofs.YthjpphojddbbmaaGreatDoor

/-
  espalierlaw2.Eq of a plain value with itself, marks, Kept: walks. Conditions: both lie in memory.
-/
namespace Go.Proofs.YthjpphojddbbmaaGreatDoor
open Go.RowKit
set_option linter.unusedVariables false

set_option maxRecDepth 100000 in
set_option maxHeartbeats 4000000 in
theorem eq_step (k n : Int) (t : ByteArray) (l : List Pl)
    (ih : ∀ (j : Nat) (h : j < l.length) (A A' : Option Addr) (c c' : Nat) (w : World), l[j].sane → Pls.lies w w.heap.size l[j].list A → Pls.lies w w.heap.size l[j].list A' → Calls Tryz.prog 66 #[l[j].arg A c, l[j].arg A' c'] w (Bel (.bool true) w))
    (A A' : Option Addr) (c c' : Nat) (w : World) (hs : (Pl.mk k n t l).sane) (hl : Pls.lies w w.heap.size l A) (hl' : Pls.lies w w.heap.size l A') :
    Calls Tryz.prog 66 #[.agg #[.int .i64 k, .int .i64 n, .string t, .slice A l.length c], .agg #[.int .i64 k, .int .i64 n, .string t, .slice A' l.length c']] w (Bel (.bool true) w) := by
  have IH := Lib.hid ih
  have HL := Lib.hid hl
  have HL' := Lib.hid hl'
  have hlen : l.length * 56 ≤ 140737488351232 := hs.2.2.2
  clear ih hl hl' hs
  go_enter Tryz.func66, Tryz.ntmps66
  go_wp2
  generalize hX : Obj.cells #[.int .i64 k, .int .i64 n, .string t, .slice A l.length c] 34 = X at *
  generalize hX' : Obj.cells #[.int .i64 k, .int .i64 n, .string t, .slice A' l.length c'] 34 = X' at *
  have HX := Lib.hid hX
  have HX' := Lib.hid hX'
  have HB0 := Lib.hid (((Below.refl w.heap.size w).alloc (Nat.le_refl _) X).alloc (by simp) X')
  have D1 := Lib.hid (heap_alloc2 w X X').1
  have D2 := Lib.hid (heap_alloc2 w X X').2
  clear hX hX'
  go_loopw [5] (fun s5 wr => ∃ (j : Nat), j ≤ l.length ∧ s5 = .int .i64 (j : Int) ∧ wr.heap[w.heap.size]? = some X ∧ wr.heap[w.heap.size + 1]? = some X' ∧ Below w.heap.size w wr) (fun s5 _ => l.length - (intOf s5).toNat)
  case atStart => exact ⟨0, Nat.zero_le _, rfl, D1.out, D2.out, HB0.out⟩
  case round =>
    obtain ⟨j, hj, rfl, hb1, hb2, hbel⟩ := hrel
    have B1 := Lib.hid hb1
    have B2 := Lib.hid hb2
    have HB := Lib.hid hbel
    have hsz : w.heap.size + 1 < wr.heap.size := lt_of_block hb2
    clear hb1 hb2 hbel
    have c3 : wr.cell? ⟨w.heap.size, 3, none⟩ = some (.slice A l.length c) := cell_of_row _ _ 3 _ _ _ (by rw [B1.out, ← HX.out])
    by_cases hlt : j < l.length
    · obtain ⟨b1, o1, rfl⟩ := HL.out.head (by omega)
      obtain ⟨b2, o2, rfl⟩ := HL'.out.head (by omega)
      have hl1 := (HL.out.below HB.out (by omega : w.heap.size ≤ wr.heap.size)).at_ j hlt
      have hl2 := (HL'.out.below HB.out (by omega : w.heap.size ≤ wr.heap.size)).at_ j hlt
      have hsn := Lib.hid hl1.sane
      obtain ⟨_, d0, d1, d2, _, A1, c1, d3, hll1⟩ := hl1.parts
      obtain ⟨_, e0, e1, e2, _, A2, c2, e3, hll2⟩ := hl2.parts
      have KE := Lib.hid (fun x : Ext wr => IH.out j hlt A1 A2 c1 c2 x.now hsn.out (hll1.below x.ok x.ok.size) (hll2.below x.ok x.ok.size))
      unfold Pl.arg at KE
      have D0 := Ext.cell (w := wr) d0
      have D1 := Ext.cell (w := wr) d1
      have D2 := Ext.cell (w := wr) d2
      have D3 := Ext.cell (w := wr) d3
      have E0 := Ext.cell (w := wr) e0
      have E1 := Ext.cell (w := wr) e1
      have E2 := Ext.cell (w := wr) e2
      have E3 := Ext.cell (w := wr) e3
      have F1 := Ext.cell (w := wr) (p := ⟨w.heap.size, 3, none⟩) c3
      have F2 := Ext.cell (w := wr) (p := ⟨w.heap.size + 1, 3, none⟩) (v := .slice (some ⟨b2, o2, none⟩) l.length c') (cell_of_row _ _ 3 _ _ _ (by show wr.heap[w.heap.size + 1]? = _; rw [B2.out, ← HX'.out]))
      clear d0 d1 d2 d3 e0 e1 e2 e3 hl1 hl2 hll1 hll2
      go_wp2
      refine wp_region_ext (by kernel_rfl) (by kernel_rfl) ?_
      go_big_quiet_step (fail)
      go_big_quiet_step (fail)
      go_big_quiet_step (fail)
      go_big_quiet_step (fail)
      go_big_quiet_step (fail)
      go_big_quiet_step (fail)
      go_big_quiet_step (fail)
      go_big_quiet_step (fail)
      go_big_quiet_step (fail)
      go_big_quiet_step (fail)
      go_big_quiet_step ((go_at_call 66; exact Calls.ext_of (KE.out _)))
      go_big_quiet_step (fail)
      refine wpQuiet_nil ?_
      rintro _ ⟨z, rfl⟩
      have hz := z.ok
      have hb1 := Lib.hid ((hz.block w.heap.size (by omega)).trans B1.out)
      have hb2 := Lib.hid ((hz.block (w.heap.size + 1) (by omega)).trans B2.out)
      have HB2 := Lib.hid (HB.out.trans (hz.mono HB.out.size))
      clear hz D0 D1 D2 D3 E0 E1 E2 E3 F1 F2 KE c3
      generalize z.now = w2 at *
      go_wp2
      go_roundw
      case rel => exact ⟨j + 1, by omega, by go_num, hb1.out, hb2.out, HB2.out⟩
      case measure => simp [intOf]; omega
    · go_wp2
      go_ret
      exact ⟨rfl, HB.out⟩
theorem eq_all : ∀ (z : Nat) (p : Pl), SizeOf.sizeOf p ≤ z → ∀ (A A' : Option Addr) (c c' : Nat) (w : World), p.sane → Pls.lies w w.heap.size p.list A → Pls.lies w w.heap.size p.list A' → Calls Tryz.prog 66 #[p.arg A c, p.arg A' c'] w (Bel (.bool true) w) := by
  intro z
  induction z with
  | zero => intro p h; cases p; simp at h
  | succ z ih =>
    intro p hp A A' c c' w h0 h1 h2
    obtain ⟨k, n, t, l⟩ := p
    exact eq_step k n t l (fun j hj => ih l[j] (by have := Pl.size_lt (k := k) (n := n) (t := t) hj; omega)) A A' c c' w h0 h1 h2
/-- espalierlaw2.Eq of the same. -/
theorem law2_Eq (p : Pl) (A A' : Option Addr) (c c' : Nat) (w : World) (h0 : p.sane) (h1 : Pls.lies w w.heap.size p.list A) (h2 : Pls.lies w w.heap.size p.list A') : Calls Tryz.prog 66 #[p.arg A c, p.arg A' c'] w (Bel (.bool true) w) :=
  eq_all _ p (Nat.le_refl _) A A' c c' w h0 h1 h2
theorem Marked.next {w w' : World} {l : List Pl} {A : Option Addr} {c : Nat} (h : Marked w (· < w.heap.size) l A c) (hb : Below w.heap.size w w') : Marked w' (· < w'.heap.size) l A c :=
  h.keep (fun b o hs => hb.cell (p := ⟨b, o, none⟩) hs) (fun b hs => Nat.lt_of_lt_of_le hs hb.size)
set_option maxRecDepth 100000 in
set_option maxHeartbeats 4000000 in
theorem marks_step (k n : Int) (t : ByteArray) (l : List Pl)
    (ih : ∀ (j : Nat) (h : j < l.length) (A : Option Addr) (c : Nat) (w : World), l[j].sane → Marked w (· < w.heap.size) l[j].list A c → Calls Tryz.prog 67 #[l[j].arg A c] w (Bel (.bool true) w))
    (A : Option Addr) (c : Nat) (w : World) (hs : (Pl.mk k n t l).sane) (hl : Marked w (· < w.heap.size) l A c) :
    Calls Tryz.prog 67 #[.agg #[.int .i64 k, .int .i64 n, .string t, .slice A l.length c]] w (Bel (.bool true) w) := by
  have IH := Lib.hid ih
  have HL := Lib.hid hl
  have hlen : l.length * 56 ≤ 140737488351232 := hs.2.2.2
  generalize hX : Obj.cells #[.int .i64 k, .int .i64 n, .string t, .slice A l.length c] 34 = X
  have HX := Lib.hid hX
  have HB0 := Lib.hid ((Below.refl w.heap.size w).alloc (Nat.le_refl _) X)
  have D1 := Lib.hid (heap_alloc_new w X)
  clear ih hs
  rcases hl with ⟨rfl, rfl⟩ | ⟨b, o, rfl, hc, hm⟩
  · go_enter Tryz.func67, Tryz.ntmps67
    go_wp2
    go_loopw [4] (fun s4 wr => s4 = .int .i64 0 ∧ Below w.heap.size w wr) (fun s4 _ => 0)
    case atStart => exact ⟨rfl, by have h := HB0.out; rw [← HX.out] at h; exact h⟩
    case round =>
      obtain ⟨rfl, hbel⟩ := hrel
      have HB := Lib.hid hbel
      clear hbel
      go_wp2
      go_ret
      exact ⟨rfl, HB.out⟩
  · have HM := Lib.hid (Pls.mtail.keep (S' := (· < (w.alloc X).heap.size)) (fun b o hs => HB0.out.cell (p := ⟨b, o, none⟩) hs) (fun b hs => Nat.lt_of_lt_of_le hs HB0.out.size) l b o hm)
    have hmk := (Pls.mtail.mark HM.out).2
    rw [← hX] at hmk
    have hcI : (l.length : Int) + 1 ≤ (c : Int) := by omega
    have hcb : decide (c ≤ l.length) = false := by simp; omega
    clear hm hX
    go_enter Tryz.func67, Tryz.ntmps67
    go_wp2
    clear hmk hcI hcb
    rw [HX.out]
    go_loopw [4] (fun s4 wr => ∃ (j : Nat), j ≤ l.length ∧ s4 = .int .i64 (j : Int) ∧ wr.heap[w.heap.size]? = some X ∧ Below w.heap.size w wr) (fun s4 _ => l.length - (intOf s4).toNat)
    case atStart => exact ⟨0, Nat.zero_le _, rfl, D1.out, HB0.out⟩
    case round =>
      obtain ⟨j, hj, rfl, hb1, hbel⟩ := hrel
      have B1 := Lib.hid hb1
      have HB := Lib.hid hbel
      have hsz : w.heap.size < wr.heap.size := lt_of_block hb1
      clear hb1 hbel
      have c3 : wr.cell? ⟨w.heap.size, 3, none⟩ = some (.slice (some ⟨b, o, none⟩) l.length c) := cell_of_row _ _ 3 _ _ _ (by rw [B1.out, ← HX.out])
      by_cases hlt : j < l.length
      · have hm2 : Marked wr (· < wr.heap.size) l (some ⟨b, o, none⟩) c := Marked.next HL.out HB.out
        have hm3 : Pls.mtail wr (· < wr.heap.size) l b o := by
          rcases hm2 with ⟨h, _⟩ | ⟨b', o', h, _, h'⟩
          · cases h
          · injection h with h
            injection h with h1 h2 _
            subst h1 h2
            exact h'
        obtain ⟨_, hsn, A1, c1, hcs, hm4⟩ := Pl.mlies_iff.1 (hm3.at_ j hlt)
        have e0 : wr.cell? ⟨b, o + j * 4, none⟩ = some (.int .i64 l[j].kind) := hcs 0 _ rfl
        have e1 : wr.cell? ⟨b, o + j * 4 + 1, none⟩ = some (.int .i64 l[j].num) := hcs 1 _ rfl
        have e2 : wr.cell? ⟨b, o + j * 4 + 2, none⟩ = some (.string l[j].text) := hcs 2 _ rfl
        have e3 : wr.cell? ⟨b, o + j * 4 + 3, none⟩ = some (.slice A1 l[j].list.length c1) := hcs 3 _ rfl
        have KM := Lib.hid (IH.out j hlt A1 c1 wr hsn hm4)
        unfold Pl.arg at KM
        clear hm2 hm3 hcs hm4 hsn
        go_wp2_with fail
        refine KM.out.mono ?_
        rintro e w2 ⟨rfl, hb2⟩
        have B2 := Lib.hid ((hb2.block w.heap.size hsz).trans B1.out)
        have HB2 := Lib.hid (HB.out.trans (hb2.mono HB.out.size))
        clear hb2 e0 e1 e2 e3 c3 KM
        go_wp2
        go_roundw
        case rel => exact ⟨j + 1, by omega, by go_num, B2.out, HB2.out⟩
        case measure => simp [intOf]; omega
      · go_wp2
        go_ret
        exact ⟨rfl, HB.out⟩
theorem marks_all : ∀ (z : Nat) (p : Pl), SizeOf.sizeOf p ≤ z → ∀ (A : Option Addr) (c : Nat) (w : World), p.sane → Marked w (· < w.heap.size) p.list A c → Calls Tryz.prog 67 #[p.arg A c] w (Bel (.bool true) w) := by
  intro z
  induction z with
  | zero => intro p h; cases p; simp at h
  | succ z ih =>
    intro p hp A c w h0 h1
    obtain ⟨k, n, t, l⟩ := p
    exact marks_step k n t l (fun j hj => ih l[j] (by have := Pl.size_lt (k := k) (n := n) (t := t) hj; omega)) A c w h0 h1
set_option maxRecDepth 100000 in
set_option maxHeartbeats 4000000 in
/-- espalierlaw2.Kept: of a twin. -/
theorem law2_Kept (p : Pl) (A A' : Option Addr) (c c' : Nat) (w : World) (h0 : p.sane) (h1 : Marked w (· < w.heap.size) p.list A c) (h2 : Pls.lies w w.heap.size p.list A') : Calls Tryz.prog 32 #[p.arg A c, p.arg A' c'] w (Bel (.bool true) w) := by
  generalize hX : Obj.cells #[.int .i64 p.kind, .int .i64 p.num, .string p.text, .slice A p.list.length c] 34 = X
  generalize hX' : Obj.cells #[.int .i64 p.kind, .int .i64 p.num, .string p.text, .slice A' p.list.length c'] 34 = X'
  have HX := Lib.hid hX
  have HX' := Lib.hid hX'
  have HB0 := Lib.hid (((Below.refl w.heap.size w).alloc (Nat.le_refl _) X).alloc (by simp) X')
  have D1 := Lib.hid (heap_alloc2 w X X').1
  have D2 := Lib.hid (heap_alloc2 w X X').2
  have KE := Lib.hid (law2_Eq p A A' c c' ((w.alloc X).alloc X') h0 ((h1.lies (fun b h => h)).below HB0.out HB0.out.size) (h2.below HB0.out HB0.out.size))
  have KM := Lib.hid (fun w9 (hb : Below w.heap.size w w9) => marks_all _ p (Nat.le_refl _) A c w9 h0 (h1.next hb))
  unfold Pl.arg at KE KM ⊢
  clear hX hX' h1 h2
  go_enter Tryz.func32, Tryz.ntmps32
  go_wp2_with fail
  rw [HX.out, HX'.out]
  refine KE.out.mono ?_
  rintro e w1 ⟨rfl, hb⟩
  have HB1 := Lib.hid (HB0.out.trans (hb.mono HB0.out.size))
  have E1 := (hb.block w.heap.size (by simp; omega)).trans D1.out
  have KM1 := Lib.hid (KM.out w1 HB1.out)
  rw [← HX.out] at E1
  have f1 : ∀ j, w1.cell? ⟨w.heap.size, j, none⟩ = (#[.int .i64 p.kind, .int .i64 p.num, .string p.text, .slice A p.list.length c] : Array Value)[j]? := fun j => by simp [World.cell?, E1]
  clear hb E1 KE KM
  go_wp2_with fail
  refine KM1.out.mono ?_
  rintro e w2 ⟨rfl, hb⟩
  have HB2 := Lib.hid (HB1.out.trans (hb.mono HB1.out.size))
  clear hb
  go_wp2
  go_ret
  exact ⟨rfl, HB2.out⟩
end Go.Proofs.YthjpphojddbbmaaGreatDoor

/-
  espalierlaw2.Light: what it counts: a walk, for every plain value. Conditions: it lies in memory.
-/
namespace Go.Proofs.YthjpphojddbbmaaGreatDoor
open Go.RowKit
set_option linter.unusedVariables false

mutual
/-- What is left of a count. -/
def Pl.light : Pl → Int → Int → Int
  | .mk _ _ t l, m, deep => if 70 < deep then -1 else Pls.light l (m - 1 - (t.size : Int) / 4) (deep + 1)
def Pls.light : List Pl → Int → Int → Int
  | [], m, _ => m
  | p :: ps, m, deep => if 0 ≤ m then Pls.light ps (p.light m deep) deep else m
end
mutual
theorem Pl.light_le {w : World} {B : Nat} : ∀ (p : Pl) (b o : Nat) (m deep : Int), p.lies w B b o → 0 ≤ m → p.light m deep ≤ m ∧ -140737488355328 ≤ p.light m deep
  | .mk k n t l, b, o, m, deep, h, hm => by
    unfold Pl.lies at h
    obtain ⟨h0, h1, h2, h3, h4, h5, h6, h7, A, c, h8, h9⟩ := h
    have ih := Pls.light_le l A (m - 1 - (t.size : Int) / 4) (deep + 1) h9 (by omega)
    unfold Pl.light
    split <;> omega
theorem Pls.light_le {w : World} {B : Nat} : ∀ (l : List Pl) (A : Option Addr) (m deep : Int), Pls.lies w B l A → -140737488355328 ≤ m → Pls.light l m deep ≤ m ∧ -140737488355328 ≤ Pls.light l m deep
  | [], A, m, deep, h, hm => by unfold Pls.light; omega
  | p :: ps, A, m, deep, h, hm => by
    unfold Pls.lies at h
    obtain ⟨b, o, e, h1, h2⟩ := h
    unfold Pls.light
    by_cases h0 : 0 ≤ m
    · rw [if_pos h0]
      have i1 := Pl.light_le p b o m deep h1 h0
      have i2 := Pls.light_le ps _ (p.light m deep) deep h2 i1.2
      omega
    · rw [if_neg h0]; omega
end
theorem Pls.light_step {l : List Pl} {k : Nat} (h : k < l.length) (m deep : Int) (hm : 0 ≤ m) : Pls.light (l.drop k) m deep = Pls.light (l.drop (k + 1)) (l[k].light m deep) deep := by
  rw [List.drop_eq_getElem_cons h, Pls.light, if_pos hm]
theorem Pls.light_neg (l : List Pl) (m deep : Int) (hm : ¬ 0 ≤ m) : Pls.light l m deep = m := by
  cases l with
  | nil => unfold Pls.light; rfl
  | cons p ps => unfold Pls.light; rw [if_neg hm]
set_option maxRecDepth 100000 in
set_option maxHeartbeats 4000000 in
theorem light_step (k n : Int) (t : ByteArray) (l : List Pl)
    (ih : ∀ (j : Nat) (h : j < l.length) (A : Option Addr) (c : Nat) (m deep : Int) (w : World), l[j].text.size ≤ 140737488351232 → l[j].list.length * 56 ≤ 140737488351232 → Pls.lies w w.heap.size l[j].list A → 0 ≤ m → m ≤ 70000 → 0 ≤ deep → deep ≤ 71 →
      Calls Tryz.prog 39 #[l[j].arg A c, .int .i64 m, .int .i64 deep] w (Bel (.int .i64 (l[j].light m deep)) w))
    (A : Option Addr) (c : Nat) (m deep : Int) (w : World) (ht : t.size ≤ 140737488351232) (hlen : l.length * 56 ≤ 140737488351232) (hl : Pls.lies w w.heap.size l A) (hm0 : 0 ≤ m) (hm1 : m ≤ 70000) (hd0 : 0 ≤ deep) (hd1 : deep ≤ 71) :
    Calls Tryz.prog 39 #[.agg #[.int .i64 k, .int .i64 n, .string t, .slice A l.length c], .int .i64 m, .int .i64 deep] w (Bel (.int .i64 ((Pl.mk k n t l).light m deep)) w) := by
  have IH := Lib.hid ih
  have HL := Lib.hid hl
  have HB : Hid (Below w.heap.size w (w.alloc (.cells #[.int .i64 k, .int .i64 n, .string t, .slice A l.length c] 34))) := (Below.refl _ _).alloc (Nat.le_refl _) _
  have hll := Lib.hid (Pls.light_le l A (m - 1 - (t.size : Int) / 4) (deep + 1) hl (by omega))
  clear ih hl
  by_cases hd : 70 < deep
  · have hx := Lib.hid (show (Pl.mk k n t l).light m deep = -1 by unfold Pl.light; rw [if_pos hd])
    go_enter Tryz.func39, Tryz.ntmps39
    go_wp2
    go_ret
    exact ⟨by rw [hx.out]; rfl, HB.out⟩
  · have hx := Lib.hid (show (Pl.mk k n t l).light m deep = Pls.light l (m - 1 - (t.size : Int) / 4) (deep + 1) by unfold Pl.light; rw [if_neg hd])
    have hd2 : decide (70 < deep) = false := by simp; omega
    go_enter Tryz.func39, Tryz.ntmps39
    go_wp2
    go_loopw [1, 7] (fun s1 i wr => ∃ (j : Nat) (m' : Int), j ≤ l.length ∧ i = .int .i64 j ∧ s1 = .int .i64 m' ∧ m' ≤ 70000 ∧ -140737488355328 ≤ m' ∧ Pls.light (l.drop j) m' (deep + 1) = Pls.light l (m - 1 - (t.size : Int) / 4) (deep + 1) ∧ Below (w.heap.size + 1) (w.alloc (.cells #[.int .i64 k, .int .i64 n, .string t, .slice A l.length c] 34)) wr) (fun s1 i wr => l.length - (intOf i).toNat)
    case atStart => exact ⟨0, _, Nat.zero_le _, rfl, rfl, by omega, by omega, rfl, Below.refl _ _⟩
    case round =>
      obtain ⟨j, m', hj, rfl, rfl, hm2, hm3, heq, hbel⟩ := hrel
      have HE := Lib.hid heq
      have HBL := Lib.hid hbel
      have hx0 := Lib.hid ((hbel.block w.heap.size (by omega)).trans (heap_alloc_new w _))
      have HS : w.heap.size + 1 ≤ wr.heap.size := by have := hbel.size; simpa using this
      clear heq hbel
      have c3 : wr.cell? ⟨w.heap.size, 3, none⟩ = some (.slice A l.length c) := cell_of_row _ _ 3 _ _ _ hx0.out
      by_cases hlt : j < l.length
      · by_cases hm4 : 0 ≤ m'
        · obtain ⟨b', o', rfl⟩ := HL.out.head (by omega)
          have hlies := (HL.out.below (B' := wr.heap.size) (HB.out.trans (HBL.out.mono (by omega))) (by omega)).at_ j hlt
          obtain ⟨hbb, e0, e1, e2, hlen2, A', c', e3, hll⟩ := hlies.parts
          have htx := Lib.hid hlies.text
          have hle := Lib.hid (Pl.light_le _ _ _ m' (deep + 1) hlies hm4)
          have HLL := Lib.hid (IH.out j hlt A' c' m' (deep + 1) wr htx.out hlen2 hll hm4 hm2 (by omega) (by omega))
          have HST := Lib.hid (Pls.light_step hlt m' (deep + 1) hm4)
          clear hll hlies
          unfold Pl.arg at HLL
          go_wp2_with fail
          refine HLL.out.mono ?_
          rintro e w2 ⟨rfl, hb⟩
          have HB2 := Lib.hid (HBL.out.trans (hb.mono HS))
          have hle2 := hle.out
          clear hb
          go_wp2
          go_roundw
          case rel => exact ⟨j + 1, _, by omega, by go_num, rfl, by omega, by omega, by rw [← HE.out, HST.out], HB2.out⟩
          case measure => simp [intOf]; omega
        · have hd4 : decide (0 ≤ m') = false := by simp; omega
          have hfin := Lib.hid (show Pls.light l (m - 1 - (t.size : Int) / 4) (deep + 1) = m' by rw [← HE.out]; exact Pls.light_neg _ _ _ hm4)
          go_wp2
          go_ret
          exact ⟨by rw [hx.out, hfin.out]; rfl, HB.out.trans (HBL.out.mono (by omega))⟩
      · have hfin := Lib.hid (show Pls.light l (m - 1 - (t.size : Int) / 4) (deep + 1) = m' by
          rw [← HE.out, List.drop_eq_nil_of_le (by omega)]; unfold Pls.light; rfl)
        go_wp2
        go_ret
        exact ⟨by rw [hx.out, hfin.out]; rfl, HB.out.trans (HBL.out.mono (by omega))⟩
theorem light_all : ∀ (z : Nat) (p : Pl), SizeOf.sizeOf p ≤ z → ∀ (A : Option Addr) (c : Nat) (m deep : Int) (w : World), p.text.size ≤ 140737488351232 → p.list.length * 56 ≤ 140737488351232 → Pls.lies w w.heap.size p.list A → 0 ≤ m → m ≤ 70000 → 0 ≤ deep → deep ≤ 71 →
      Calls Tryz.prog 39 #[p.arg A c, .int .i64 m, .int .i64 deep] w (Bel (.int .i64 (p.light m deep)) w) := by
  intro z
  induction z with
  | zero => intro p h; cases p; simp at h
  | succ z ih =>
    intro p hp A c m deep w h0 h1 h2 h3 h4 h5 h6
    obtain ⟨k, n, t, l⟩ := p
    exact light_step k n t l (fun j hj => ih l[j] (by have := Pl.size_lt (k := k) (n := n) (t := t) hj; omega)) A c m deep w h0 h1 h2 h3 h4 h5 h6
def Pl.isLight (p : Pl) : Bool := decide (0 ≤ p.light 70000 0)
set_option maxRecDepth 100000 in
/-- espalierlaw2.Light. -/
theorem law2_Light (p : Pl) (A : Option Addr) (c : Nat) (w : World) (h0 : p.text.size ≤ 140737488351232) (h1 : p.list.length * 56 ≤ 140737488351232) (h2 : Pls.lies w w.heap.size p.list A) :
    Calls Tryz.prog 22 #[p.arg A c] w (Bel (.bool p.isLight) w) := by
  have HB : Hid (Below w.heap.size w (w.alloc (.cells #[.int .i64 p.kind, .int .i64 p.num, .string p.text, .slice A p.list.length c] 34))) := (Below.refl _ _).alloc (Nat.le_refl _) _
  have KL := Lib.hid (light_all _ p (Nat.le_refl _) A c 70000 0 (w.alloc (.cells #[.int .i64 p.kind, .int .i64 p.num, .string p.text, .slice A p.list.length c] 34)) h0 h1 (h2.below HB.out (by simp)) (by omega) (by omega) (by omega) (by omega))
  unfold Pl.arg at KL ⊢
  clear h2
  go_enter Tryz.func22, Tryz.ntmps22
  go_wp2_with fail
  refine KL.out.mono ?_
  rintro e w2 ⟨rfl, hb⟩
  have HB2 := Lib.hid (HB.out.trans (hb.mono (by simp)))
  clear hb
  go_wp2
  go_ret
  exact ⟨rfl, HB2.out⟩
end Go.Proofs.YthjpphojddbbmaaGreatDoor
