/-
  Texts of a proof in one: RefOps11, RefKinds11, RefCount11. Conditions: each names its own.
-/
import Derived.Test.YtcldbjgikkfnbaaGreatDoorCRefMay11
import Derived.Test.YtcldbjgikkfnbaaGreatDoorCPlSameL
import Derived.Deep.AppendLies
/-
  espalierref11.whole, count, kinds: walks. Conditions: the plain values lie in memory.
-/
namespace Go.Proofs.YtcldbjgikkfnbaaGreatDoor
open Go.RowKit
set_option linter.unusedVariables false

theorem pls_ats {w : World} {B : Nat} : ∀ {l : List Pl} {A : Option Addr}, Pls.lies w B l A → ∃ us : List PlAt, us.map PlAt.p = l ∧ (∀ x ∈ us, x.p.sane ∧ Pls.lies w B x.p.list x.A) ∧ (l ≠ [] → ∃ b o, A = some ⟨b, o, none⟩ ∧ b < B ∧ ∀ j u, (us.flatMap PlAt.cells)[j]? = some u → w.cell? ⟨b, o + j, none⟩ = some u)
  | [], A, _ => ⟨[], rfl, fun x h => absurd h List.not_mem_nil, fun h => absurd rfl h⟩
  | p :: ps, A, h => by
    unfold Pls.lies at h
    obtain ⟨b, o, rfl, h1, h2⟩ := h
    obtain ⟨us, e1, e2, e3⟩ := pls_ats h2
    have hs := h1.sane
    obtain ⟨hb, c0, c1, c2, _, A', c', c3, hll⟩ := h1.parts
    refine ⟨⟨p, A', c'⟩ :: us, by simp [e1], fun x hx => ?_, fun _ => ⟨b, o, rfl, hb, fun j u hj => ?_⟩⟩
    · rcases List.mem_cons.1 hx with rfl | hx
      · exact ⟨hs, hll⟩
      · exact e2 x hx
    · rw [List.flatMap_cons] at hj
      by_cases hj4 : j < 4
      · rw [List.getElem?_append_left (by exact hj4)] at hj
        match j, hj4, hj with
        | 0, _, hj => injection hj with hj; subst hj; exact c0
        | 1, _, hj => injection hj with hj; subst hj; exact c1
        | 2, _, hj => injection hj with hj; subst hj; exact c2
        | 3, _, hj => injection hj with hj; subst hj; exact c3
      · have hl4 : (PlAt.cells ⟨p, A', c'⟩).length = 4 := rfl
        rw [List.getElem?_append_right (by omega), hl4] at hj
        have hne : ps ≠ [] := by
          rintro rfl
          have : us = [] := by simpa using e1
          subst this
          simp at hj
        obtain ⟨b2, o2, e4, _, e5⟩ := e3 hne
        injection e4 with e4
        injection e4 with e4 e6
        subst e4 e6
        have := e5 (j - 4) u hj
        rw [show o + j = o + 4 + (j - 4) by omega]
        exact this
theorem plat_one (us : List PlAt) : ∀ u ∈ us.flatMap PlAt.cells, u.oneCell' = true := by
  intro u hu
  obtain ⟨x, _, hx⟩ := List.mem_flatMap.1 hu
  obtain ⟨⟨k, n, t, l⟩, A, c⟩ := x
  unfold PlAt.cells at hx
  simp [Pl.cells4] at hx
  rcases hx with rfl | rfl | rfl | rfl <;> rfl
mutual
theorem Pl.lies.sits_ {w : World} {B : Nat} : ∀ (p : Pl) (b o : Nat), p.lies w B b o → p.sits w (fun b => b < B) b o
  | .mk k n t l, b, o, h => by
    unfold Pl.lies at h
    unfold Pl.sits
    obtain ⟨h0, h1, h2, h3, h4, h5, h6, h7, A, c, h8, h9⟩ := h
    exact ⟨h0, h1, h2, h3, h4, h5, h6, h7, A, c, h8, Pls.lies.sits_ l A h9⟩
theorem Pls.lies.sits_ {w : World} {B : Nat} : ∀ (l : List Pl) (A : Option Addr), Pls.lies w B l A → Pls.sits w (fun b => b < B) l A
  | [], A, h => by unfold Pls.sits; trivial
  | p :: ps, A, h => by
    unfold Pls.lies at h
    unfold Pls.sits
    obtain ⟨b, o, e, h1, h2⟩ := h
    exact ⟨b, o, e, Pl.lies.sits_ p b o h1, Pls.lies.sits_ ps _ h2⟩
end
/-- A row of one's own, of plain values: it lies. -/
theorem sits_own {w : World} {base n c B : Nat} {A : Option Addr} {us : List PlAt} (h : w.ownsRow base 31 4 (.slice A n c) n (us.flatMap PlAt.cells)) (hs : ∀ x ∈ us, x.p.sane ∧ Pls.lies w B x.p.list x.A) : Pls.sits w (fun b => b < B ∨ (Value.slice A n c).ownBlock = some b) (us.map PlAt.p) A := by
  have hl := h.1
  rw [plat_len] at hl
  rcases h.2 with ⟨e1, h0⟩ | ⟨g, cap, cur, e1, _⟩
  · have : us = [] := List.eq_nil_of_length_eq_zero (by omega)
    subst this
    unfold List.map Pls.sits; trivial
  · injection e1 with e2 e3 e4
    subst e2 e4
    refine psits_of (.inr rfl) us 0 (fun k hk j u hj => ?_) (fun x hx => ⟨(hs x hx).1, (Pls.lies.sits_ _ _ (hs x hx).2).keep (fun _ _ _ => rfl) (fun b hb => .inl hb)⟩)
    have hj4 : j < 4 := by
      rcases Nat.lt_or_ge j 4 with h | h
      · exact h
      · rw [List.getElem?_eq_none (by exact h)] at hj; cases hj
    rw [Nat.zero_add, h.cellAt (k * 4 + j) (by omega), plat_flat us k hk j hj4]
    exact hj
def zPl : Pl := .mk 0 0 ⟨#[]⟩ []
def lPl (l : List Pl) : Pl := .mk 5 0 ⟨#[]⟩ l
/-- What the reference gives: a code, a plain value. -/
def ROut (r : Int × Pl) (w : World) (e : Ending) (w' : World) : Prop := ∃ A c, e = .returned (.tuple #[r.2.arg A c, .int .i64 r.1, .string ⟨#[]⟩]) ∧ Pls.lies w' w'.heap.size r.2.list A ∧ Below w.heap.size w w'
def rBad (n : Int) : Int × Pl := (n, zPl)
def rWhole (l : List Pl) : Int × Pl := if (lPl l).mayB = true then (0, lPl l) else rBad 2
theorem res3 {P : Program} {fn : Func} {p q r : Tmp} {ty : TypeId} (h : fn.results = #[.cell p ty, .tmp q, .tmp r]) {tmps : Array Value} {a : Addr} (ht : tmps.getD p undef = .pointer (some a)) {w : World} {v u x : Value} (hl : (loadVar ty a).run P w = .ok v w) (hu : tmps.getD q undef = u) (hx : tmps.getD r undef = x) :
    (results fn tmps).run P w = .ok (.tuple #[v, u, x]) w := by
  unfold results
  simp only [h]
  have ht' : tmps[p]?.getD undef = .pointer (some a) := by simpa using ht
  have hu' : tmps[q]?.getD undef = u := by simpa using hu
  have hx' : tmps[r]?.getD undef = x := by simpa using hx
  simp [ht', hu', hx', asAddr, hl]
theorem below_set4 {w w' : World} (h : Below w.heap.size w w') (x0 x1 x2 x3 : Value) : Below w.heap.size w ((((w'.setCell ⟨w.heap.size, 0, none⟩ x0).setCell ⟨w.heap.size, 1, none⟩ x1).setCell ⟨w.heap.size, 2, none⟩ x2).setCell ⟨w.heap.size, 3, none⟩ x3) :=
  (((h.setCell (p := ⟨w.heap.size, 0, none⟩) (Nat.le_refl _) _).setCell (p := ⟨w.heap.size, 1, none⟩) (Nat.le_refl _) _).setCell (p := ⟨w.heap.size, 2, none⟩) (Nat.le_refl _) _).setCell (p := ⟨w.heap.size, 3, none⟩) (Nat.le_refl _) _
def pl4 (w w' : World) (x0 x1 x2 x3 : Value) : World := (((w'.setCell ⟨w.heap.size, 0, none⟩ x0).setCell ⟨w.heap.size, 1, none⟩ x1).setCell ⟨w.heap.size, 2, none⟩ x2).setCell ⟨w.heap.size, 3, none⟩ x3
theorem lies_pl4 {w w' : World} {l : List Pl} {A : Option Addr} {S : Nat → Prop} (h : Pls.sits w' S l A) (hS : ∀ b, S b → b < w'.heap.size ∧ b ≠ w.heap.size) (x0 x1 x2 x3 : Value) : Pls.lies (pl4 w w' x0 x1 x2 x3) (pl4 w w' x0 x1 x2 x3).heap.size l A := by
  refine Pls.sits.lies (S := S) (fun b hb => ?_) l A (h.keep (fun b o hb => ?_) (fun _ h => h))
  · unfold pl4; rw [size_set, size_set, size_set, size_set]; exact (hS b hb).1
  · have hne := (hS b hb).2
    unfold pl4
    rw [cell_far _ _ (p := ⟨w.heap.size, 3, none⟩) hne, cell_far _ _ (p := ⟨w.heap.size, 2, none⟩) hne, cell_far _ _ (p := ⟨w.heap.size, 1, none⟩) hne, cell_far _ _ (p := ⟨w.heap.size, 0, none⟩) hne]
theorem lPl_sane {l : List Pl} (h : l.length * 56 ≤ 140737488351232) : (lPl l).sane := ⟨by rfl, by rfl, by show (0 : Nat) ≤ _; omega, h⟩
theorem plist_row (w : World) (A : Option Addr) (n c : Nat) : Below w.heap.size w ((w.alloc (.cells #[.int .i64 0, .int .i64 0, .string ⟨#[]⟩, .slice none 0 0] 31)).alloc (.cells #[.int .i64 5, .int .i64 0, .string ⟨#[]⟩, .slice A n c] 31)) := ((Below.refl w.heap.size w).alloc (Nat.le_refl _) _).alloc (by simp) _
set_option maxRecDepth 100000 in
theorem ref11_whole (l : List Pl) (A : Option Addr) (n c : Nat) (w : World) (hn : n = l.length) (hlies : Pls.lies w w.heap.size l A) (hlen : l.length * 56 ≤ 140737488351232) :
    Calls Tryz.prog 33 #[.slice A n c] w fun e w' => (((lPl l).mayB = true ∧ e = .returned (.tuple #[.agg #[.int .i64 5, .int .i64 0, .string ⟨#[]⟩, .slice A n c], .int .i64 0, .string ⟨#[]⟩])) ∨ ((lPl l).mayB = false ∧ e = .returned (.tuple #[.agg #[.int .i64 0, .int .i64 0, .string ⟨#[]⟩, .slice none 0 0], .int .i64 2, .string ⟨#[]⟩]))) ∧ Below w.heap.size w w' := by
  have HB := Lib.hid (plist_row w A n c)
  have KM := Lib.hid (ref2_May (lPl l) A c ((w.alloc (.cells #[.int .i64 0, .int .i64 0, .string ⟨#[]⟩, .slice none 0 0] 31)).alloc (.cells #[.int .i64 5, .int .i64 0, .string ⟨#[]⟩, .slice A n c] 31)) (lPl_sane hlen) (by exact hlies.below HB.out HB.out.size))
  have hm : (lPl l).mayB = decide (0 ≤ (lPl l).left 65536 0) := rfl
  rw [← hm] at KM
  have harg : (lPl l).arg A c = .agg #[.int .i64 5, .int .i64 0, .string ⟨#[]⟩, .slice A n c] := by rw [hn]; rfl
  rw [harg] at KM
  clear harg hm hlies hn
  generalize (lPl l).mayB = q at *
  go_enter Tryz.func33, Tryz.ntmps33
  go_wp2_with fail
  refine KM.out.mono ?_
  rintro e w1 ⟨rfl, hb⟩
  have hx0 := (hb.block w.heap.size (by simp; omega)).trans (heap_alloc2 w _ _).1
  have hx1 := (hb.block (w.heap.size + 1) (by simp)).trans (heap_alloc2 w _ _).2
  have HX0 := Lib.hid hx0
  have f0 : ∀ j, w1.cell? ⟨w.heap.size, j, none⟩ = (#[.int .i64 0, .int .i64 0, .string ⟨#[]⟩, .slice none 0 0] : Array Value)[j]? := fun j => by simp [World.cell?, hx0]
  have g0 : ∀ j, w1.frozen? ⟨w.heap.size, j, none⟩ = false := fun j => by simp [World.frozen?, hx0]
  have f1 : ∀ j, w1.cell? ⟨w.heap.size + 1, j, none⟩ = (#[.int .i64 5, .int .i64 0, .string ⟨#[]⟩, .slice A n c] : Array Value)[j]? := fun j => by simp [World.cell?, hx1]
  have HB1 := Lib.hid (HB.out.trans (hb.mono HB.out.size))
  clear hb hx0 hx1 KM
  cases q
  · go_wp2
    exact bodyPost_ret (fn := Tryz.f33) (v := .tuple #[.agg #[.int .i64 0, .int .i64 0, .string ⟨#[]⟩, .slice none 0 0], .int .i64 2, .string ⟨#[]⟩]) (res3 (p := 2) (q := 3) (r := 4) (ty := 31) (a := ⟨w.heap.size, 0, none⟩) Tryz.results33 rfl (run_loadVar_row (P := Tryz.prog) _ _ _ 31 _ _ _ (blk_set (blk_set (blk_set (blk_set HX0.out 0 (.int .i64 0)) 1 (.int .i64 0)) 2 (.string ⟨#[]⟩)) 3 (.slice none 0 0)) Tryz.underlying31 rfl (by kernel_rfl)) rfl rfl) rfl ⟨by first | rfl | exact .inr ⟨rfl, rfl⟩ | simp, below_set4 HB1.out _ _ _ _⟩
  · go_wp2
    exact bodyPost_ret (fn := Tryz.f33) (v := .tuple #[.agg #[.int .i64 5, .int .i64 0, .string ⟨#[]⟩, .slice A n c], .int .i64 0, .string ⟨#[]⟩]) (res3 (p := 2) (q := 3) (r := 4) (ty := 31) (a := ⟨w.heap.size, 0, none⟩) Tryz.results33 rfl (run_loadVar_row (P := Tryz.prog) _ _ _ 31 _ _ _ (blk_set (blk_set (blk_set (blk_set HX0.out 0 (.int .i64 5)) 1 (.int .i64 0)) 2 (.string ⟨#[]⟩)) 3 (.slice A n c)) Tryz.underlying31 rfl (by kernel_rfl)) rfl rfl) rfl ⟨by first | rfl | exact .inl ⟨rfl, rfl⟩ | simp, below_set4 HB1.out _ _ _ _⟩
end Go.Proofs.YtcldbjgikkfnbaaGreatDoor

/-
  espalierref11.kinds at each operation: walks. Written by a program of mine (gen_kinds11.py). Conditions: the plain values lie in memory.
-/
namespace Go.Proofs.YtcldbjgikkfnbaaGreatDoor
open Go.RowKit
set_option linter.unusedVariables false

theorem kinds_of (v : Value) (w : World) : Calls Tryz.prog 32 #[.string ⟨#[108, 105, 115, 116, 46, 111, 102]⟩, v] w (Bel (.bool true) w) := by
  go_enter Tryz.func32, Tryz.ntmps32
  go_wp2
  go_ret
  exact ⟨rfl, Below.refl _ _⟩
set_option maxRecDepth 100000 in
theorem kinds_size (b o c : Nat) (k0 : Int) (w : World) (e0 : w.cell? ⟨b, o, none⟩ = some (.int .i64 k0)) (q : Bool) (hq : (decide (k0 = 5)) = q) : Calls Tryz.prog 32 #[.string ⟨#[108, 105, 115, 116, 46, 115, 105, 122, 101]⟩, .slice (some ⟨b, o, none⟩) 1 c] w (Bel (.bool q) w) := by
  by_cases h0 : ¬ k0 = 5
  · have hr : q = false := by rw [← hq]; simp [h0]
    subst hr
    clear hq
    have b0 : (k0 == 5) = false := by simpa using h0
    clear h0
    go_enter Tryz.func32, Tryz.ntmps32
    go_wp2
    go_ret
    exact ⟨rfl, Below.refl _ _⟩
  rw [Classical.not_not] at h0
  subst h0
  have hr : q = true := by rw [← hq]; rfl
  subst hr
  clear hq
  go_enter Tryz.func32, Tryz.ntmps32
  go_wp2_with fail
  refine wp_loop_rounds 1 ?_
  rw [rounds_succ]
  go_wp2
  go_ret
  exact ⟨rfl, Below.refl _ _⟩
set_option maxRecDepth 100000 in
theorem kinds_turn (b o c : Nat) (k0 : Int) (w : World) (e0 : w.cell? ⟨b, o, none⟩ = some (.int .i64 k0)) (q : Bool) (hq : (decide (k0 = 5)) = q) : Calls Tryz.prog 32 #[.string ⟨#[108, 105, 115, 116, 46, 116, 117, 114, 110]⟩, .slice (some ⟨b, o, none⟩) 1 c] w (Bel (.bool q) w) := by
  by_cases h0 : ¬ k0 = 5
  · have hr : q = false := by rw [← hq]; simp [h0]
    subst hr
    clear hq
    have b0 : (k0 == 5) = false := by simpa using h0
    clear h0
    go_enter Tryz.func32, Tryz.ntmps32
    go_wp2
    go_ret
    exact ⟨rfl, Below.refl _ _⟩
  rw [Classical.not_not] at h0
  subst h0
  have hr : q = true := by rw [← hq]; rfl
  subst hr
  clear hq
  go_enter Tryz.func32, Tryz.ntmps32
  go_wp2_with fail
  refine wp_loop_rounds 1 ?_
  rw [rounds_succ]
  go_wp2
  go_ret
  exact ⟨rfl, Below.refl _ _⟩
set_option maxRecDepth 100000 in
theorem kinds_count (b o c : Nat) (k0 : Int) (w : World) (e0 : w.cell? ⟨b, o, none⟩ = some (.int .i64 k0)) (q : Bool) (hq : (decide (k0 = 3)) = q) : Calls Tryz.prog 32 #[.string ⟨#[108, 105, 115, 116, 46, 99, 111, 117, 110, 116]⟩, .slice (some ⟨b, o, none⟩) 1 c] w (Bel (.bool q) w) := by
  by_cases h0 : ¬ k0 = 3
  · have hr : q = false := by rw [← hq]; simp [h0]
    subst hr
    clear hq
    have b0 : (k0 == 3) = false := by simpa using h0
    clear h0
    go_enter Tryz.func32, Tryz.ntmps32
    go_wp2
    go_ret
    exact ⟨rfl, Below.refl _ _⟩
  rw [Classical.not_not] at h0
  subst h0
  have hr : q = true := by rw [← hq]; rfl
  subst hr
  clear hq
  go_enter Tryz.func32, Tryz.ntmps32
  go_wp2_with fail
  refine wp_loop_rounds 1 ?_
  rw [rounds_succ]
  go_wp2
  go_ret
  exact ⟨rfl, Below.refl _ _⟩
set_option maxRecDepth 100000 in
theorem kinds_at (b o c : Nat) (k0 k1 : Int) (w : World) (e0 : w.cell? ⟨b, o, none⟩ = some (.int .i64 k0)) (e1 : w.cell? ⟨b, o + 4, none⟩ = some (.int .i64 k1)) (q : Bool) (hq : (decide (k0 = 5) && decide (k1 = 3)) = q) : Calls Tryz.prog 32 #[.string ⟨#[108, 105, 115, 116, 46, 97, 116]⟩, .slice (some ⟨b, o, none⟩) 2 c] w (Bel (.bool q) w) := by
  by_cases h0 : ¬ k0 = 5
  · have hr : q = false := by rw [← hq]; simp [h0]
    subst hr
    clear hq
    have b0 : (k0 == 5) = false := by simpa using h0
    clear h0
    go_enter Tryz.func32, Tryz.ntmps32
    go_wp2
    go_ret
    exact ⟨rfl, Below.refl _ _⟩
  rw [Classical.not_not] at h0
  subst h0
  by_cases h1 : ¬ k1 = 3
  · have hr : q = false := by rw [← hq]; simp [h1]
    subst hr
    clear hq
    have b1 : (k1 == 3) = false := by simpa using h1
    clear h1
    go_enter Tryz.func32, Tryz.ntmps32
    go_wp2_with fail
    refine wp_loop_rounds 1 ?_
    rw [rounds_succ]
    go_wp2
    go_ret
    exact ⟨rfl, Below.refl _ _⟩
  rw [Classical.not_not] at h1
  subst h1
  have hr : q = true := by rw [← hq]; rfl
  subst hr
  clear hq
  go_enter Tryz.func32, Tryz.ntmps32
  go_wp2_with fail
  refine wp_loop_rounds 2 ?_
  rw [rounds_succ]
  go_wp2
  rw [rounds_succ]
  go_wp2
  go_ret
  exact ⟨rfl, Below.refl _ _⟩
set_option maxRecDepth 100000 in
theorem kinds_join (b o c : Nat) (k0 k1 : Int) (w : World) (e0 : w.cell? ⟨b, o, none⟩ = some (.int .i64 k0)) (e1 : w.cell? ⟨b, o + 4, none⟩ = some (.int .i64 k1)) (q : Bool) (hq : (decide (k0 = 5) && decide (k1 = 5)) = q) : Calls Tryz.prog 32 #[.string ⟨#[108, 105, 115, 116, 46, 106, 111, 105, 110]⟩, .slice (some ⟨b, o, none⟩) 2 c] w (Bel (.bool q) w) := by
  by_cases h0 : ¬ k0 = 5
  · have hr : q = false := by rw [← hq]; simp [h0]
    subst hr
    clear hq
    have b0 : (k0 == 5) = false := by simpa using h0
    clear h0
    go_enter Tryz.func32, Tryz.ntmps32
    go_wp2
    go_ret
    exact ⟨rfl, Below.refl _ _⟩
  rw [Classical.not_not] at h0
  subst h0
  by_cases h1 : ¬ k1 = 5
  · have hr : q = false := by rw [← hq]; simp [h1]
    subst hr
    clear hq
    have b1 : (k1 == 5) = false := by simpa using h1
    clear h1
    go_enter Tryz.func32, Tryz.ntmps32
    go_wp2
    go_ret
    exact ⟨rfl, Below.refl _ _⟩
  rw [Classical.not_not] at h1
  subst h1
  have hr : q = true := by rw [← hq]; rfl
  subst hr
  clear hq
  go_enter Tryz.func32, Tryz.ntmps32
  go_wp2
  go_ret
  exact ⟨rfl, Below.refl _ _⟩
set_option maxRecDepth 100000 in
theorem kinds_add (b o c : Nat) (k0 k1 : Int) (w : World) (e0 : w.cell? ⟨b, o, none⟩ = some (.int .i64 k0)) (e1 : w.cell? ⟨b, o + 4, none⟩ = some (.int .i64 k1)) (q : Bool) (hq : (decide (k0 = 5)) = q) : Calls Tryz.prog 32 #[.string ⟨#[108, 105, 115, 116, 46, 97, 100, 100]⟩, .slice (some ⟨b, o, none⟩) 2 c] w (Bel (.bool q) w) := by
  by_cases h0 : ¬ k0 = 5
  · have hr : q = false := by rw [← hq]; simp [h0]
    subst hr
    clear hq
    have b0 : (k0 == 5) = false := by simpa using h0
    clear h0
    go_enter Tryz.func32, Tryz.ntmps32
    go_wp2
    go_ret
    exact ⟨rfl, Below.refl _ _⟩
  rw [Classical.not_not] at h0
  subst h0
  have hr : q = true := by rw [← hq]; rfl
  subst hr
  clear hq
  go_enter Tryz.func32, Tryz.ntmps32
  go_wp2_with fail
  refine wp_loop_rounds 1 ?_
  rw [rounds_succ]
  go_wp2
  go_ret
  exact ⟨rfl, Below.refl _ _⟩
set_option maxRecDepth 100000 in
theorem kinds_cut (b o c : Nat) (k0 k1 k2 : Int) (w : World) (e0 : w.cell? ⟨b, o, none⟩ = some (.int .i64 k0)) (e1 : w.cell? ⟨b, o + 4, none⟩ = some (.int .i64 k1)) (e2 : w.cell? ⟨b, o + 8, none⟩ = some (.int .i64 k2)) (q : Bool) (hq : (decide (k0 = 5) && decide (k1 = 3) && decide (k2 = 3)) = q) : Calls Tryz.prog 32 #[.string ⟨#[108, 105, 115, 116, 46, 99, 117, 116]⟩, .slice (some ⟨b, o, none⟩) 3 c] w (Bel (.bool q) w) := by
  by_cases h0 : ¬ k0 = 5
  · have hr : q = false := by rw [← hq]; simp [h0]
    subst hr
    clear hq
    have b0 : (k0 == 5) = false := by simpa using h0
    clear h0
    go_enter Tryz.func32, Tryz.ntmps32
    go_wp2
    go_ret
    exact ⟨rfl, Below.refl _ _⟩
  rw [Classical.not_not] at h0
  subst h0
  by_cases h1 : ¬ k1 = 3
  · have hr : q = false := by rw [← hq]; simp [h1]
    subst hr
    clear hq
    have b1 : (k1 == 3) = false := by simpa using h1
    clear h1
    go_enter Tryz.func32, Tryz.ntmps32
    go_wp2_with fail
    refine wp_loop_rounds 1 ?_
    rw [rounds_succ]
    go_wp2
    go_ret
    exact ⟨rfl, Below.refl _ _⟩
  rw [Classical.not_not] at h1
  subst h1
  by_cases h2 : ¬ k2 = 3
  · have hr : q = false := by rw [← hq]; simp [h2]
    subst hr
    clear hq
    have b2 : (k2 == 3) = false := by simpa using h2
    clear h2
    go_enter Tryz.func32, Tryz.ntmps32
    go_wp2_with fail
    refine wp_loop_rounds 2 ?_
    rw [rounds_succ]
    go_wp2
    rw [rounds_succ]
    go_wp2
    go_ret
    exact ⟨rfl, Below.refl _ _⟩
  rw [Classical.not_not] at h2
  subst h2
  have hr : q = true := by rw [← hq]; rfl
  subst hr
  clear hq
  go_enter Tryz.func32, Tryz.ntmps32
  go_wp2_with fail
  refine wp_loop_rounds 3 ?_
  rw [rounds_succ]
  go_wp2
  rw [rounds_succ]
  go_wp2
  rw [rounds_succ]
  go_wp2
  go_ret
  exact ⟨rfl, Below.refl _ _⟩
end Go.Proofs.YtcldbjgikkfnbaaGreatDoor

/-
  espalierref11.count: a walk. Written by a program of mine (gen_refwork11.py). Conditions: none.
-/
namespace Go.Proofs.YtcldbjgikkfnbaaGreatDoor
open Go.RowKit
set_option linter.unusedVariables false

def nAtR (n : Nat) : PlAt := ⟨nPl (n : Int), none, 0⟩
def numsR (n : Nat) : List PlAt := (List.range n).map nAtR
theorem numsR_succ (n : Nat) : numsR (n + 1) = numsR n ++ [nAtR n] := by unfold numsR; rw [List.range_succ, List.map_append]; rfl
theorem numsR_p (n : Nat) : (numsR n).map PlAt.p = (List.range n).map (fun (k : Nat) => nPl (k : Int)) := by unfold numsR; rw [List.map_map]; rfl
theorem numsR_len (n : Nat) : (numsR n).length = n := by simp [numsR]
theorem numsR_ok {w : World} {B : Nat} {n : Nat} (h : n ≤ 65536) : ∀ x ∈ numsR n, x.p.sane ∧ Pls.lies w B x.p.list x.A := by
  intro x hx
  obtain ⟨k, hk, rfl⟩ := List.mem_map.1 hx
  have := List.mem_range.1 hk
  exact ⟨nPl_sane (rng_iff.2 (by omega)), by unfold nAtR nPl Pl.list Pls.lies; trivial⟩
def numsP (n : Nat) : List Pl := (List.range n).map (fun (k : Nat) => nPl (k : Int))
def rCountN (n : Int) : Int × Pl := if n < 0 then rBad 23 else if 65536 ≤ n then rBad 2 else rWhole (numsP n.toNat)
/-- What the reference gives, its list in blocks that are new. -/
def RNew (r : Int × Pl) (w : World) (e : Ending) (w' : World) : Prop := ∃ A c, e = .returned (.tuple #[r.2.arg A c, .int .i64 r.1, .string ⟨#[]⟩]) ∧ Pls.sits w' (fresh w w') r.2.list A ∧ Below w.heap.size w w'
theorem rnew_bad {n : Int} (w w' : World) (hb : Below w.heap.size w w') : RNew (rBad n) w (.returned (.tuple #[.agg #[.int .i64 0, .int .i64 0, .string ⟨#[]⟩, .slice none 0 0], .int .i64 n, .string ⟨#[]⟩])) w' := ⟨none, 0, rfl, by unfold rBad zPl Pl.list Pls.sits; trivial, hb⟩
set_option maxRecDepth 100000 in
set_option maxHeartbeats 4000000 in
theorem ref11_count (n : Int) (w : World) : Calls Tryz.prog 34 #[.int .i64 n] w (RNew (rCountN n) w) := by
  obtain ⟨i0, hi, hz0, hz1, hz2⟩ := info_plain_parts
  have HB0 := Lib.hid ((Below.refl w.heap.size w).alloc (Nat.le_refl _) (.cells #[.int .i64 0, .int .i64 0, .string ⟨#[]⟩, .slice none 0 0] 31))
  by_cases h0 : n < 0
  · rw [show rCountN n = rBad 23 by unfold rCountN; rw [if_pos h0]]
    have d0 : decide (n < 0) = true := by simpa using h0
    have HX := Lib.hid (heap_alloc_new w (.cells #[.int .i64 0, .int .i64 0, .string ⟨#[]⟩, .slice none 0 0] 31))
    clear h0
    go_enter Tryz.func34, Tryz.ntmps34
    go_wp2
    exact bodyPost_ret (fn := Tryz.f34) (v := .tuple #[.agg #[.int .i64 0, .int .i64 0, .string ⟨#[]⟩, .slice none 0 0], .int .i64 23, .string ⟨#[]⟩]) (res3 (p := 2) (q := 3) (r := 4) (ty := 31) (a := ⟨w.heap.size, 0, none⟩) Tryz.results34 rfl (run_loadVar_row (P := Tryz.prog) _ _ _ 31 _ _ _ HX.out Tryz.underlying31 rfl (by kernel_rfl)) rfl rfl) rfl (rnew_bad w _ HB0.out)
  · by_cases h6 : 65536 ≤ n
    · rw [show rCountN n = rBad 2 by unfold rCountN; rw [if_neg h0, if_pos h6]]
      have d0 : decide (n < 0) = false := by simpa using h0
      have d6 : decide (65536 ≤ n) = true := by simpa using h6
      have HX := Lib.hid (heap_alloc_new w (.cells #[.int .i64 0, .int .i64 0, .string ⟨#[]⟩, .slice none 0 0] 31))
      clear h0 h6
      go_enter Tryz.func34, Tryz.ntmps34
      go_wp2
      exact bodyPost_ret (fn := Tryz.f34) (v := .tuple #[.agg #[.int .i64 0, .int .i64 0, .string ⟨#[]⟩, .slice none 0 0], .int .i64 2, .string ⟨#[]⟩]) (res3 (p := 2) (q := 3) (r := 4) (ty := 31) (a := ⟨w.heap.size, 0, none⟩) Tryz.results34 rfl (run_loadVar_row (P := Tryz.prog) _ _ _ 31 _ _ _ HX.out Tryz.underlying31 rfl (by kernel_rfl)) rfl rfl) rfl (rnew_bad w _ HB0.out)
    · obtain ⟨z, hz⟩ := Int.eq_ofNat_of_zero_le (show 0 ≤ n by omega)
      have HZ := Lib.hid hz
      have hr := Lib.hid (show rCountN n = rWhole (numsP z) by unfold rCountN; rw [if_neg h0, if_neg h6, hz, Int.toNat_natCast])
      have d0 : decide (n < 0) = false := by simpa using h0
      have d6 : decide (65536 ≤ n) = false := by simpa using h6
      have HNL := Lib.hid (show z < 65536 by omega)
      have hzb : z ≤ 140737488351232 := by omega
      have HX0 := Lib.hid (heap_alloc_new w (.cells #[.int .i64 0, .int .i64 0, .string ⟨#[]⟩, .slice none 0 0] 31))
      clear h0 h6 hz
      go_enter Tryz.func34, Tryz.ntmps34
      go_wp2
      go_loopw [6, 5] (fun s6 s5 wr => ∃ (k : Nat), k ≤ z ∧ s6 = .int .i64 (k : Int) ∧ (∃ A c, s5 = .slice A k c) ∧ wr.ownsRow (w.heap.size + 1) 31 4 s5 k ((numsR k).flatMap PlAt.cells) ∧ wr.heap[w.heap.size]? = some (.cells #[.int .i64 0, .int .i64 0, .string ⟨#[]⟩, .slice none 0 0] 31) ∧ Below w.heap.size w wr) (fun s6 _ _ => z - (intOf s6).toNat)
      case atStart => exact ⟨0, Nat.zero_le _, rfl, ⟨none, 0, rfl⟩, World.ownsRow_nil _ _ _ _, HX0.out, HB0.out⟩
      case round =>
        obtain ⟨k, hk, rfl, ⟨A, c, rfl⟩, hown, hx, hbel⟩ := hrel
        have HO := Lib.hid hown
        have HXR := Lib.hid hx
        have HBL := Lib.hid hbel
        have hsz := hbel.size
        have hxl := lt_of_block hx
        clear hown hx hbel
        by_cases hlt : k < z
        · have hkn : decide ((k : Int) < n) = true := by rw [HZ.out]; simp; omega
          go_wp2_with (at_builtin; refine wpList_append_lies _ rfl _ _ 25 rfl (w.heap.size + 1) 31 i0 _ 4 56 Tryz.underlying25 hi hz0 hz1 hz2 rfl (by decide) _ k ((numsR k).flatMap PlAt.cells) rfl (HO.out.alloc _) ⟨wr.heap.size, 0, none⟩ 1 1 ((nPl (k : Int)).cells4 none 0) rfl rfl (World.news_of_block (heap_alloc_new wr _)) (by intro u hu; unfold Pl.cells4 at hu; simp at hu; rcases hu with rfl | rfl | rfl | rfl <;> rfl) (by decide) (by unfold maxLen; omega) (by have := HNL.out; omega) (by simp; omega) _ rfl ?_)
          intro g cap w3 hown3 hgr3 hat hlt3
          have HO3 : Hid (w3.ownsRow (w.heap.size + 1) 31 4 (.slice (some ⟨g, 0, none⟩) (k + 1) cap) (k + 1) ((numsR (k + 1)).flatMap PlAt.cells)) := Lib.hid (by rw [numsR_succ, List.flatMap_append]; exact hown3)
          have HX3 : Hid (w3.heap[w.heap.size]? = some (.cells #[.int .i64 0, .int .i64 0, .string ⟨#[]⟩, .slice none 0 0] 31)) := Lib.hid ((hgr3.block _ (by rw [size_alloc]; omega) (fun e => by have := (HO.out.lt _ e.symm).1; omega)).trans ((Below.heap_alloc _ _ _ hxl).trans HXR.out))
          have HB3 := Lib.hid ((HBL.out.alloc hsz _).grown hgr3 (by rw [size_alloc]; omega) (fun q e => by have := (HO.out.lt q e).1; omega))
          clear hown3 hgr3 hat hkn
          go_wp2
          go_roundw
          case rel => exact ⟨k + 1, by omega, by go_num, ⟨_, _, rfl⟩, HO3.out, HX3.out, HB3.out⟩
          case measure => simp [intOf]; omega
        · obtain rfl : k = z := by omega
          have hkn : decide ((k : Int) < n) = false := by rw [HZ.out]; simp
          have HSI := Lib.hid (sits_own (B := 0) HO.out (numsR_ok (by have := HNL.out; omega)))
          have hpl : (numsR k).map PlAt.p = numsP k := numsR_p k
          rw [hpl] at HSI
          have KW := Lib.hid (ref11_whole (numsP k) A k c wr (by simp [numsP]) (HSI.out.lies (fun b hb => by rcases hb with hb | hb; exact absurd hb (Nat.not_lt_zero _); exact (HO.out.lt b hb).2)) (by have := HNL.out; simp [numsP]; omega))
          clear hpl
          go_wp2_with fail
          refine KW.out.mono ?_
          rintro e w2 ⟨hor, hb2⟩
          have HB2 := Lib.hid (HBL.out.trans (hb2.mono hsz))
          have hs2 := hb2.size
          have hx2 := (hb2.block _ hxl).trans HXR.out
          have HX := Lib.hid hx2
          have f0 : ∀ j, w2.cell? ⟨w.heap.size, j, none⟩ = (#[.int .i64 0, .int .i64 0, .string ⟨#[]⟩, .slice none 0 0] : Array Value)[j]? := fun j => by simp [World.cell?, hx2]
          have g0 : ∀ j, w2.frozen? ⟨w.heap.size, j, none⟩ = false := fun j => by simp [World.frozen?, hx2]
          have HS2 := Lib.hid (HSI.out.keep (w' := w2) (fun b o hb => hb2.cell (p := ⟨b, o, none⟩) (by rcases hb with hb | hb; exact absurd hb (Nat.not_lt_zero _); exact (HO.out.lt b hb).2)) (fun _ h => h))
          clear hb2 hx2 KW
          rcases hor with ⟨hm, rfl⟩ | ⟨hm, rfl⟩
          · have hr2 := Lib.hid (show rWhole (numsP k) = (0, lPl (numsP k)) by unfold rWhole; rw [if_pos hm])
            clear hm
            go_wp2
            refine bodyPost_ret (fn := Tryz.f34) (v := .tuple #[.agg #[.int .i64 5, .int .i64 0, .string ⟨#[]⟩, .slice A k c], .int .i64 0, .string ⟨#[]⟩]) (res3 (p := 2) (q := 3) (r := 4) (ty := 31) (a := ⟨w.heap.size, 0, none⟩) Tryz.results34 rfl (run_loadVar_row (P := Tryz.prog) _ _ _ 31 _ _ _ (blk_set (blk_set (blk_set (blk_set HX.out 0 (.int .i64 5)) 1 (.int .i64 0)) 2 (.string ⟨#[]⟩)) 3 (.slice A k c)) Tryz.underlying31 rfl (by kernel_rfl)) rfl rfl) rfl ?_
            rw [hr.out, hr2.out]
            refine ⟨A, c, by unfold lPl Pl.arg Pl.kind Pl.num Pl.text Pl.list; simp [numsP], ?_, below_set4 HB2.out _ _ _ _⟩
            refine Pls.sits.keep (w := w2) (S := fun b => b < 0 ∨ (Value.slice A k c).ownBlock = some b) ?_ ?_ _ _ ?_
            · intro b o hb
              have hne : b ≠ w.heap.size := by
                rcases hb with hb | hb
                · exact absurd hb (Nat.not_lt_zero _)
                · have := (HO.out.lt b hb).1; omega
              rw [cell_far _ _ (p := ⟨w.heap.size, 3, none⟩) hne, cell_far _ _ (p := ⟨w.heap.size, 2, none⟩) hne, cell_far _ _ (p := ⟨w.heap.size, 1, none⟩) hne, cell_far _ _ (p := ⟨w.heap.size, 0, none⟩) hne]
            · intro b hb
              rcases hb with hb | hb
              · exact absurd hb (Nat.not_lt_zero _)
              · have := HO.out.lt b hb
                exact ⟨by omega, by rw [size_set, size_set, size_set, size_set]; omega⟩
            · exact HS2.out
          · have hr2 := Lib.hid (show rWhole (numsP k) = rBad 2 by unfold rWhole; rw [hm]; rfl)
            clear hm
            go_wp2
            refine bodyPost_ret (fn := Tryz.f34) (v := .tuple #[.agg #[.int .i64 0, .int .i64 0, .string ⟨#[]⟩, .slice none 0 0], .int .i64 2, .string ⟨#[]⟩]) (res3 (p := 2) (q := 3) (r := 4) (ty := 31) (a := ⟨w.heap.size, 0, none⟩) Tryz.results34 rfl (run_loadVar_row (P := Tryz.prog) _ _ _ 31 _ _ _ (blk_set (blk_set (blk_set (blk_set HX.out 0 (.int .i64 0)) 1 (.int .i64 0)) 2 (.string ⟨#[]⟩)) 3 (.slice none 0 0)) Tryz.underlying31 rfl (by kernel_rfl)) rfl rfl) rfl ?_
            rw [hr.out, hr2.out]
            exact rnew_bad w _ (below_set4 HB2.out _ _ _ _)
end Go.Proofs.YtcldbjgikkfnbaaGreatDoor
