/-
  Texts of a proof in one: ListSigns, RegMk3, MkListMap. Conditions: each names its own.
-/
import Derived.Test.YtcldbjgikkfnbaaGreatDoorCRegMk
/-
  list.sortOf, a, listOf, signs; list.signature at 'list.map': walks. Conditions: none.
-/
namespace Go.Proofs.YtcldbjgikkfnbaaGreatDoor
open Go.RowKit
set_option linter.unusedVariables false

theorem list_sortOf (s : ByteArray) (w : World) : Calls Tryz.prog 92 #[.string s] w (Bel (.agg #[.string s, .slice none 0 0]) w) := by
  have H0 := Lib.hid ((Below.refl w.heap.size w).alloc (Nat.le_refl _) (.cells #[.string s, .slice none 0 0] 142))
  go_enter Tryz.func92, Tryz.ntmps92
  go_wp2
  refine bodyPost_ret (fn := Tryz.f92) (v := .agg #[.string s, .slice none 0 0]) (results_cell (p := 2) (ty := 142) (a := ⟨w.heap.size, 0, none⟩) Tryz.results92 rfl (run_loadVar_row (P := Tryz.prog) _ _ _ 142 _ _ _ (heap_alloc_new w _) Tryz.underlying142 rfl (by kernel_rfl))) rfl ⟨rfl, H0.out⟩
theorem list_a (w : World) : Calls Tryz.prog 95 #[] w (Bel (.agg #[.string ⟨#[97]⟩, .slice none 0 0]) w) := by
  have H0 := Lib.hid ((Below.refl w.heap.size w).alloc (Nat.le_refl _) (.cells #[.string ⟨#[]⟩, .slice none 0 0] 142))
  go_enter Tryz.func95, Tryz.ntmps95
  go_wp2_with fail
  refine (list_sortOf _ _).mono ?_
  rintro e w1 ⟨rfl, hb⟩
  have hx := (hb.block w.heap.size (by simp)).trans (heap_alloc_new w _)
  have HX := Lib.hid hx
  have f2 : ∀ j, w1.cell? ⟨w.heap.size, j, none⟩ = (#[.string ⟨#[]⟩, .slice none 0 0] : Array Value)[j]? := fun j => by simp [World.cell?, hx]
  have g2 : ∀ j, w1.frozen? ⟨w.heap.size, j, none⟩ = false := fun j => by simp [World.frozen?, hx]
  have H1 := Lib.hid (H0.out.trans (hb.mono H0.out.size))
  clear hb hx
  go_wp2
  refine bodyPost_ret (fn := Tryz.f95) (v := .agg #[.string ⟨#[97]⟩, .slice none 0 0]) (results_cell (p := 0) (ty := 142) (a := ⟨w.heap.size, 0, none⟩) Tryz.results95 rfl (run_loadVar_row (P := Tryz.prog) _ _ _ 142 _ _ _ (blk_set (blk_set HX.out 0 _) 1 _) Tryz.underlying142 rfl (by kernel_rfl))) rfl ⟨rfl, ?_⟩
  exact (H1.out.setCell (p := ⟨w.heap.size, 0, none⟩) (Nat.le_refl _) _).setCell (p := ⟨w.heap.size, 1, none⟩) (Nat.le_refl _) _
def SortNew (w : World) (e : Ending) (w' : World) : Prop := ∃ (s : ByteArray) (A : Option Addr) (n c : Nat), e = .returned (.agg #[.string s, .slice A n c]) ∧ Below w.heap.size w w'
theorem list_listOf (s : ByteArray) (A : Option Addr) (n c : Nat) (w : World) : Calls Tryz.prog 94 #[.agg #[.string s, .slice A n c]] w (SortNew w) := by
  have H0 := Lib.hid ((((Below.refl w.heap.size w).alloc (Nat.le_refl _) (.cells #[.string s, .slice A n c] 142)).alloc (by simp) (.cells #[.string ⟨#[108, 105, 115, 116]⟩, .slice (some ⟨w.heap.size + 1 + 1, 0, none⟩) 1 1] 142)).alloc (by simp; omega) (.cells #[.string s, .slice A n c] 142))
  have hx : (((w.alloc (.cells #[.string s, .slice A n c] 142)).alloc (.cells #[.string ⟨#[108, 105, 115, 116]⟩, .slice (some ⟨w.heap.size + 1 + 1, 0, none⟩) 1 1] 142)).alloc (.cells #[.string s, .slice A n c] 142)).heap[w.heap.size + 1]? = some (.cells #[.string ⟨#[108, 105, 115, 116]⟩, .slice (some ⟨w.heap.size + 1 + 1, 0, none⟩) 1 1] 142) := by
    rw [Below.heap_alloc _ _ _ (by simp)]
    exact heap_at' (size_alloc _ _)
  go_enter Tryz.func94, Tryz.ntmps94
  go_wp2
  exact bodyPost_ret (fn := Tryz.f94) (v := .agg #[.string ⟨#[108, 105, 115, 116]⟩, .slice (some ⟨w.heap.size + 1 + 1, 0, none⟩) 1 1]) (results_cell (p := 2) (ty := 142) (a := ⟨w.heap.size + 1, 0, none⟩) Tryz.results94 rfl (run_loadVar_row (P := Tryz.prog) _ _ _ 142 _ _ _ hx Tryz.underlying142 rfl (by kernel_rfl))) rfl ⟨_, _, _, _, rfl, H0.out⟩
theorem list_signs (s : ByteArray) (A A1 : Option Addr) (n c n1 c1 : Nat) (w : World) : Calls Tryz.prog 93 #[.agg #[.string s, .slice A n c], .slice A1 n1 c1] w (SigPost w) := by
  have H0 := Lib.hid (((Below.refl w.heap.size w).alloc (Nat.le_refl _) (.cells #[.string s, .slice A n c] 142)).alloc (by simp) (.cells #[.slice A1 n1 c1, .bool false, .string s, .slice A n c, .string ⟨#[]⟩, .slice none 0 0] 146))
  have hx := (heap_alloc2 w (.cells #[.string s, .slice A n c] 142) (.cells #[.slice A1 n1 c1, .bool false, .string s, .slice A n c, .string ⟨#[]⟩, .slice none 0 0] 146)).2
  go_enter Tryz.func93, Tryz.ntmps93
  go_wp2
  exact bodyPost_ret (fn := Tryz.f93) (v := .agg #[.slice A1 n1 c1, .bool false, .string s, .slice A n c, .string ⟨#[]⟩, .slice none 0 0]) (results_cell (p := 4) (ty := 146) (a := ⟨w.heap.size + 1, 0, none⟩) Tryz.results93 rfl (run_loadVar_row (P := Tryz.prog) _ _ _ 146 _ _ _ hx Tryz.underlying146 rfl (by kernel_rfl))) rfl ⟨_, rfl, ⟨_, _, _, _, _, _, _, _, _, _, _, _, rfl⟩, H0.out⟩
def zSig : Array Value := #[.slice none 0 0, .bool false, .string ⟨#[]⟩, .slice none 0 0, .string ⟨#[]⟩, .slice none 0 0]
set_option maxRecDepth 100000 in
set_option maxHeartbeats 4000000 in
theorem list_sign_map (w : World) : Calls Tryz.prog 68 #[.string ⟨#[108, 105, 115, 116, 46, 109, 97, 112]⟩] w (SigPost w) := by
  have H0 := Lib.hid ((Below.refl w.heap.size w).alloc (Nat.le_refl _) (.cells #[.slice none 0 0, .bool false, .string ⟨#[]⟩, .slice none 0 0, .string ⟨#[]⟩, .slice none 0 0] 146))
  go_enter Tryz.func68, Tryz.ntmps68
  go_wp2_with fail
  refine (list_sortOf _ _).mono ?_
  rintro e w1 ⟨rfl, hb1⟩
  have H1 := Lib.hid (H0.out.trans (hb1.mono H0.out.size))
  have HX1 := Lib.hid ((hb1.block w.heap.size (by simp)).trans (heap_alloc_new w _))
  clear hb1
  go_wp2_with fail
  refine (list_sortOf _ _).mono ?_
  rintro e w2 ⟨rfl, hb2⟩
  have H2 := Lib.hid ((H1.out.alloc H1.out.size (.cells #[.string ⟨#[105, 110, 116]⟩, .slice none 0 0] 142)).trans (hb2.mono (by rw [size_alloc]; have := H1.out.size; omega)))
  have HX2 := Lib.hid ((hb2.block w.heap.size (by rw [size_alloc]; have := lt_of_block HX1.out; omega)).trans ((Below.heap_alloc _ _ _ (lt_of_block HX1.out)).trans HX1.out))
  clear hb2
  go_wp2_with fail
  refine (list_listOf _ _ _ _ _).mono ?_
  rintro e w3 ⟨s3, A3, n3, c3, rfl, hb3⟩
  have H3 := Lib.hid (H2.out.trans (hb3.mono H2.out.size))
  have HX3 := Lib.hid ((hb3.block w.heap.size (lt_of_block HX2.out)).trans HX2.out)
  clear hb3
  go_wp2_with fail
  refine (list_a _).mono ?_
  rintro e w4 ⟨rfl, hb4⟩
  have H4 := Lib.hid (H3.out.trans (hb4.mono H3.out.size))
  have HX4 := Lib.hid ((hb4.block w.heap.size (lt_of_block HX3.out)).trans HX3.out)
  clear hb4
  go_wp2_with fail
  refine (list_listOf _ _ _ _ _).mono ?_
  rintro e w5 ⟨s5, A5, n5, c5, rfl, hb5⟩
  have H5 := Lib.hid (H4.out.trans (hb5.mono H4.out.size))
  have HX5 := Lib.hid ((hb5.block w.heap.size (lt_of_block HX4.out)).trans HX4.out)
  clear hb5
  go_wp2_with fail
  refine (list_sortOf _ _).mono ?_
  rintro e w6 ⟨rfl, hb6⟩
  have H6 := Lib.hid (H5.out.trans (hb6.mono H5.out.size))
  have HX6 := Lib.hid ((hb6.block w.heap.size (lt_of_block HX5.out)).trans HX5.out)
  clear hb6
  go_wp2_with fail
  refine (list_signs _ _ _ _ _ _ _ _).mono ?_
  rintro e w7 ⟨cs, rfl, hok, hb7⟩
  have hs6 := H6.out.size
  have hl6 := lt_of_block HX6.out
  have hs7 := hb7.size
  rw [size_alloc] at hs7
  have H7 := Lib.hid ((H6.out.alloc H6.out.size _).trans (hb7.mono (by rw [size_alloc]; omega)))
  have HX7 := Lib.hid ((hb7.block w.heap.size (by rw [size_alloc]; omega)).trans ((Below.heap_alloc _ _ _ hl6).trans HX6.out))
  obtain ⟨A1, m1, k1, b1, x1, A2, m2, k2, y1, A9, m9, k9, rfl⟩ := hok
  clear hb7
  go_wp2_with fail
  refine (list_a _).mono ?_
  rintro e w8 ⟨rfl, hb8⟩
  have hl7 := lt_of_block HX7.out
  have hz : w7.heap.size < (w7.alloc (.cells #[.slice A1 m1 k1, .bool b1, .string x1, .slice A2 m2 k2, .string y1, .slice A9 m9 k9] 146)).heap.size := by simp
  have H8 := Lib.hid ((H7.out.alloc H7.out.size (.cells #[.slice A1 m1 k1, .bool b1, .string x1, .slice A2 m2 k2, .string y1, .slice A9 m9 k9] 146)).trans (hb8.mono (by rw [size_alloc]; have := H7.out.size; omega)))
  have hx8 := (hb8.block w.heap.size (by rw [size_alloc]; omega)).trans ((Below.heap_alloc _ _ _ hl7).trans HX7.out)
  have hy8 := (hb8.block w7.heap.size hz).trans (heap_alloc_new w7 _)
  have HX8 := Lib.hid hx8
  have HY8 := Lib.hid hy8
  have f0 : ∀ j, w8.cell? ⟨w.heap.size, j, none⟩ = (#[.slice none 0 0, .bool false, .string ⟨#[]⟩, .slice none 0 0, .string ⟨#[]⟩, .slice none 0 0] : Array Value)[j]? := fun j => by simp [World.cell?, hx8]
  have g0 : ∀ j, w8.frozen? ⟨w.heap.size, j, none⟩ = false := fun j => by simp [World.frozen?, hx8]
  have f1 : ∀ j, w8.cell? ⟨w7.heap.size, j, none⟩ = (#[.slice A1 m1 k1, .bool b1, .string x1, .slice A2 m2 k2, .string y1, .slice A9 m9 k9] : Array Value)[j]? := fun j => by simp [World.cell?, hy8]
  have g1 : ∀ j, w8.frozen? ⟨w7.heap.size, j, none⟩ = false := fun j => by simp [World.frozen?, hy8]
  have hne : w.heap.size ≠ w7.heap.size := by omega
  clear hb8 hx8 hy8 hz
  go_wp2
  refine bodyPost_ret (fn := Tryz.f68) (v := .agg #[_, _, _, _, _, _]) (results_cell (p := 2) (ty := 146) (a := ⟨w.heap.size, 0, none⟩) Tryz.results68 rfl (run_loadVar_row (P := Tryz.prog) _ _ _ 146 _ _ _ (blk_set (blk_set (blk_set (blk_set (blk_set (blk_set (blk_far (blk_far HX8.out (p := ⟨w7.heap.size, 4, none⟩) hne _) (p := ⟨w7.heap.size, 5, none⟩) hne _) 0 _) 1 _) 2 _) 3 _) 4 _) 5 _) Tryz.underlying146 rfl (by kernel_rfl))) rfl ⟨_, rfl, ⟨_, _, _, _, _, _, _, _, _, _, _, _, rfl⟩, ?_⟩
  have hs7' : w.heap.size ≤ w7.heap.size := H7.out.size
  exact (((((((H8.out.setCell (p := ⟨w7.heap.size, 4, none⟩) hs7' _).setCell (p := ⟨w7.heap.size, 5, none⟩) hs7' _).setCell (p := ⟨w.heap.size, 0, none⟩) (Nat.le_refl _) _).setCell (p := ⟨w.heap.size, 1, none⟩) (Nat.le_refl _) _).setCell (p := ⟨w.heap.size, 2, none⟩) (Nat.le_refl _) _).setCell (p := ⟨w.heap.size, 3, none⟩) (Nat.le_refl _) _).setCell (p := ⟨w.heap.size, 4, none⟩) (Nat.le_refl _) _).setCell (p := ⟨w.heap.size, 5, none⟩) (Nat.le_refl _) _
end Go.Proofs.YtcldbjgikkfnbaaGreatDoor

/-
  The invariant of a region that draws its order (a maker of nodes: a base and a second part that a call gives) and its steps. Written by a program of mine (gen_mk3.py). Conditions: none.
-/
namespace Go.Proofs.YtcldbjgikkfnbaaGreatDoor
open Go.RowKit
set_option linter.unusedVariables false

structure MkM (c : MkC) (X Y : Nat) (A : Option Addr) (k : Nat) (cs : Array Value) (p : Nat → Prop) (a : Act) (w : World) : Prop where
  agree : Agree c.D c.a0 a
  bel : Below c.B0 c.W0 w
  f0 : p 0 → a.tmps.getD c.d0 undef = c.v0
  f1 : p 1 → a.tmps.getD c.d1 undef = c.v1
  f2 : p 2 → a.tmps.getD c.d2 undef = .agg (c.lay A k)
  g2 : p 2 → ValsIn w (fun b => c.B0 ≤ b ∧ b < w.heap.size ∧ (p 6 → b ≠ X) ∧ (p 7 → b ≠ Y)) c.vs A
  f3 : p 3 → a.tmps.getD c.d3 undef = c.v3
  f4 : p 4 → a.tmps.getD c.d4 undef = c.v4
  f5 : p 5 → a.tmps.getD c.d5 undef = .agg cs
  g5 : p 5 → c.ok cs
  f7 : p 6 → a.tmps.getD c.sX undef = .pointer (some ⟨X, 0, none⟩)
  g7 : p 6 → c.B0 ≤ X ∧ X < w.heap.size
  z7 : p 6 → ¬ p 8 → w.heap[X]? = some (.cells zBase 138)
  x7 : p 8 → w.heap[X]? = some (.cells (c.lay A k) 138)
  f8 : p 7 → a.tmps.getD c.sY undef = .pointer (some ⟨Y, 0, none⟩)
  g8 : p 7 → c.B0 ≤ Y ∧ Y < w.heap.size
  z8 : p 7 → ¬ p 9 → w.heap[Y]? = some (.cells c.zY c.TY)
  x8 : p 9 → w.heap[Y]? = some (.cells cs c.TY)
  xy : p 6 → p 7 → X ≠ Y
  d9 : p 8 → p 2 ∧ p 6
  d10 : p 9 → p 5 ∧ p 7
theorem MkM.s0 {c : MkC} {X Y : Nat} {A : Option Addr} {k : Nat} {cs : Array Value} {p : Nat → Prop} {a : Act} {w : World} (hS : MkS c) (h : MkM c X Y A k cs p a w) (hp : ¬ p 0)  {w' : World} {v : Value} (hg : w.grownBy w' none) (hb : Below c.B0 c.W0 w') (hB : c.B0 ≤ w.heap.size) (hn : v = c.v0) :
    MkM c (X) (Y) A k cs (fun j => j = 0 ∨ p j) (a.put (some c.d0) v) w' := by
  have sz := h.agree.size
  have ps : (a.put (some c.d0) v).tmps.getD c.d0 undef = v := getD_put_same (by rw [sz]; exact (hS.mem _ (by simp)).2) v
  have hsz := hg.size
  have blk : ∀ b, b < w.heap.size → some b ≠ none → w'.heap[b]? = w.heap[b]? := fun b hb hne => hg.block b hb hne
  exact {
    agree := h.agree.put (hS.mem _ (by simp)).1 v
    bel := hb
    f0 := fun _ => by rw [ps]; exact hn
    f1 := fun hj => (getD_put_ne (hS.ne_d0_d1) v).trans (h.f1 (hj.resolve_left (by decide)))
    f2 := fun hj => (getD_put_ne (hS.ne_d0_d2) v).trans (h.f2 (hj.resolve_left (by decide)))
    f3 := fun hj => (getD_put_ne (hS.ne_d0_d3) v).trans (h.f3 (hj.resolve_left (by decide)))
    f4 := fun hj => (getD_put_ne (hS.ne_d0_d4) v).trans (h.f4 (hj.resolve_left (by decide)))
    f5 := fun hj => (getD_put_ne (hS.ne_d0_d5) v).trans (h.f5 (hj.resolve_left (by decide)))
    f7 := fun hj => (getD_put_ne (hS.ne_d0_sX) v).trans (h.f7 (hj.resolve_left (by decide)))
    f8 := fun hj => (getD_put_ne (hS.ne_d0_sY) v).trans (h.f8 (hj.resolve_left (by decide)))
    g2 := fun hj => (h.g2 (hj.resolve_left (by decide))).keep (fun b o hs => World.cell?_of_block (a := ⟨b, o, none⟩) (blk b hs.2.1 (by simp))) (fun b hs => ⟨hs.1, Nat.lt_of_lt_of_le hs.2.1 hsz, fun h7 => hs.2.2.1 (h7.resolve_left (by decide)), fun h8 => hs.2.2.2 (h8.resolve_left (by decide))⟩)
    g5 := fun hj => h.g5 (hj.resolve_left (by decide))
    g7 := fun hj => ⟨(h.g7 (hj.resolve_left (by decide))).1, Nat.lt_of_lt_of_le (h.g7 (hj.resolve_left (by decide))).2 hsz⟩
    g8 := fun hj => ⟨(h.g8 (hj.resolve_left (by decide))).1, Nat.lt_of_lt_of_le (h.g8 (hj.resolve_left (by decide))).2 hsz⟩
    z7 := fun hj hk => (blk X (h.g7 (hj.resolve_left (by decide))).2 (by simp)).trans (h.z7 (hj.resolve_left (by decide)) (fun h9 => hk (Or.inr h9)))
    x7 := fun hj => (blk X (h.g7 (h.d9 (hj.resolve_left (by decide))).2).2 (by simp)).trans (h.x7 (hj.resolve_left (by decide)))
    z8 := fun hj hk => (blk Y (h.g8 (hj.resolve_left (by decide))).2 (by simp)).trans (h.z8 (hj.resolve_left (by decide)) (fun h9 => hk (Or.inr h9)))
    x8 := fun hj => (blk Y (h.g8 (h.d10 (hj.resolve_left (by decide))).2).2 (by simp)).trans (h.x8 (hj.resolve_left (by decide)))
    xy := fun h7 h8 => h.xy (h7.resolve_left (by decide)) (h8.resolve_left (by decide))
    d9 := fun hj => ⟨Or.inr (h.d9 (hj.resolve_left (by decide))).1, Or.inr (h.d9 (hj.resolve_left (by decide))).2⟩
    d10 := fun hj => ⟨Or.inr (h.d10 (hj.resolve_left (by decide))).1, Or.inr (h.d10 (hj.resolve_left (by decide))).2⟩ }
theorem MkM.s1 {c : MkC} {X Y : Nat} {A : Option Addr} {k : Nat} {cs : Array Value} {p : Nat → Prop} {a : Act} {w : World} (hS : MkS c) (h : MkM c X Y A k cs p a w) (hp : ¬ p 1)  {w' : World} {v : Value} (hg : w.grownBy w' none) (hb : Below c.B0 c.W0 w') (hB : c.B0 ≤ w.heap.size) (hn : v = c.v1) :
    MkM c (X) (Y) A k cs (fun j => j = 1 ∨ p j) (a.put (some c.d1) v) w' := by
  have sz := h.agree.size
  have ps : (a.put (some c.d1) v).tmps.getD c.d1 undef = v := getD_put_same (by rw [sz]; exact (hS.mem _ (by simp)).2) v
  have hsz := hg.size
  have blk : ∀ b, b < w.heap.size → some b ≠ none → w'.heap[b]? = w.heap[b]? := fun b hb hne => hg.block b hb hne
  exact {
    agree := h.agree.put (hS.mem _ (by simp)).1 v
    bel := hb
    f0 := fun hj => (getD_put_ne (Ne.symm hS.ne_d0_d1) v).trans (h.f0 (hj.resolve_left (by decide)))
    f1 := fun _ => by rw [ps]; exact hn
    f2 := fun hj => (getD_put_ne (hS.ne_d1_d2) v).trans (h.f2 (hj.resolve_left (by decide)))
    f3 := fun hj => (getD_put_ne (hS.ne_d1_d3) v).trans (h.f3 (hj.resolve_left (by decide)))
    f4 := fun hj => (getD_put_ne (hS.ne_d1_d4) v).trans (h.f4 (hj.resolve_left (by decide)))
    f5 := fun hj => (getD_put_ne (hS.ne_d1_d5) v).trans (h.f5 (hj.resolve_left (by decide)))
    f7 := fun hj => (getD_put_ne (hS.ne_d1_sX) v).trans (h.f7 (hj.resolve_left (by decide)))
    f8 := fun hj => (getD_put_ne (hS.ne_d1_sY) v).trans (h.f8 (hj.resolve_left (by decide)))
    g2 := fun hj => (h.g2 (hj.resolve_left (by decide))).keep (fun b o hs => World.cell?_of_block (a := ⟨b, o, none⟩) (blk b hs.2.1 (by simp))) (fun b hs => ⟨hs.1, Nat.lt_of_lt_of_le hs.2.1 hsz, fun h7 => hs.2.2.1 (h7.resolve_left (by decide)), fun h8 => hs.2.2.2 (h8.resolve_left (by decide))⟩)
    g5 := fun hj => h.g5 (hj.resolve_left (by decide))
    g7 := fun hj => ⟨(h.g7 (hj.resolve_left (by decide))).1, Nat.lt_of_lt_of_le (h.g7 (hj.resolve_left (by decide))).2 hsz⟩
    g8 := fun hj => ⟨(h.g8 (hj.resolve_left (by decide))).1, Nat.lt_of_lt_of_le (h.g8 (hj.resolve_left (by decide))).2 hsz⟩
    z7 := fun hj hk => (blk X (h.g7 (hj.resolve_left (by decide))).2 (by simp)).trans (h.z7 (hj.resolve_left (by decide)) (fun h9 => hk (Or.inr h9)))
    x7 := fun hj => (blk X (h.g7 (h.d9 (hj.resolve_left (by decide))).2).2 (by simp)).trans (h.x7 (hj.resolve_left (by decide)))
    z8 := fun hj hk => (blk Y (h.g8 (hj.resolve_left (by decide))).2 (by simp)).trans (h.z8 (hj.resolve_left (by decide)) (fun h9 => hk (Or.inr h9)))
    x8 := fun hj => (blk Y (h.g8 (h.d10 (hj.resolve_left (by decide))).2).2 (by simp)).trans (h.x8 (hj.resolve_left (by decide)))
    xy := fun h7 h8 => h.xy (h7.resolve_left (by decide)) (h8.resolve_left (by decide))
    d9 := fun hj => ⟨Or.inr (h.d9 (hj.resolve_left (by decide))).1, Or.inr (h.d9 (hj.resolve_left (by decide))).2⟩
    d10 := fun hj => ⟨Or.inr (h.d10 (hj.resolve_left (by decide))).1, Or.inr (h.d10 (hj.resolve_left (by decide))).2⟩ }
theorem MkM.s2 {c : MkC} {X Y : Nat} {A : Option Addr} {k : Nat} {cs : Array Value} {p : Nat → Prop} {a : Act} {w : World} (hS : MkS c) (h : MkM c X Y A k cs p a w) (hp : ¬ p 2) {A' : Option Addr} {k' : Nat} {w' : World} {v : Value} (hg : w.grownBy w' none) (hb : Below c.B0 c.W0 w') (hB : c.B0 ≤ w.heap.size) (hn : v = .agg (c.lay A' k')) (hv : ValsIn w' (fresh w w') c.vs A') :
    MkM c (X) (Y) A' k' cs (fun j => j = 2 ∨ p j) (a.put (some c.d2) v) w' := by
  have sz := h.agree.size
  have ps : (a.put (some c.d2) v).tmps.getD c.d2 undef = v := getD_put_same (by rw [sz]; exact (hS.mem _ (by simp)).2) v
  have hsz := hg.size
  have blk : ∀ b, b < w.heap.size → some b ≠ none → w'.heap[b]? = w.heap[b]? := fun b hb hne => hg.block b hb hne
  exact {
    agree := h.agree.put (hS.mem _ (by simp)).1 v
    bel := hb
    f0 := fun hj => (getD_put_ne (Ne.symm hS.ne_d0_d2) v).trans (h.f0 (hj.resolve_left (by decide)))
    f1 := fun hj => (getD_put_ne (Ne.symm hS.ne_d1_d2) v).trans (h.f1 (hj.resolve_left (by decide)))
    f2 := fun _ => by rw [ps]; exact hn
    f3 := fun hj => (getD_put_ne (hS.ne_d2_d3) v).trans (h.f3 (hj.resolve_left (by decide)))
    f4 := fun hj => (getD_put_ne (hS.ne_d2_d4) v).trans (h.f4 (hj.resolve_left (by decide)))
    f5 := fun hj => (getD_put_ne (hS.ne_d2_d5) v).trans (h.f5 (hj.resolve_left (by decide)))
    f7 := fun hj => (getD_put_ne (hS.ne_d2_sX) v).trans (h.f7 (hj.resolve_left (by decide)))
    f8 := fun hj => (getD_put_ne (hS.ne_d2_sY) v).trans (h.f8 (hj.resolve_left (by decide)))
    g2 := fun _ => hv.keep (fun _ _ _ => rfl) (fun b hs => ⟨Nat.le_trans hB hs.1, hs.2, fun h7 e => by have := (h.g7 (h7.resolve_left (by decide))).2; have := hs.1; omega, fun h8 e => by have := (h.g8 (h8.resolve_left (by decide))).2; have := hs.1; omega⟩)
    g5 := fun hj => h.g5 (hj.resolve_left (by decide))
    g7 := fun hj => ⟨(h.g7 (hj.resolve_left (by decide))).1, Nat.lt_of_lt_of_le (h.g7 (hj.resolve_left (by decide))).2 hsz⟩
    g8 := fun hj => ⟨(h.g8 (hj.resolve_left (by decide))).1, Nat.lt_of_lt_of_le (h.g8 (hj.resolve_left (by decide))).2 hsz⟩
    z7 := fun hj hk => (blk X (h.g7 (hj.resolve_left (by decide))).2 (by simp)).trans (h.z7 (hj.resolve_left (by decide)) (fun h9 => hk (Or.inr h9)))
    x7 := fun hj => absurd (h.d9 (hj.resolve_left (by decide))).1 hp
    z8 := fun hj hk => (blk Y (h.g8 (hj.resolve_left (by decide))).2 (by simp)).trans (h.z8 (hj.resolve_left (by decide)) (fun h9 => hk (Or.inr h9)))
    x8 := fun hj => (blk Y (h.g8 (h.d10 (hj.resolve_left (by decide))).2).2 (by simp)).trans (h.x8 (hj.resolve_left (by decide)))
    xy := fun h7 h8 => h.xy (h7.resolve_left (by decide)) (h8.resolve_left (by decide))
    d9 := fun hj => ⟨Or.inr (h.d9 (hj.resolve_left (by decide))).1, Or.inr (h.d9 (hj.resolve_left (by decide))).2⟩
    d10 := fun hj => ⟨Or.inr (h.d10 (hj.resolve_left (by decide))).1, Or.inr (h.d10 (hj.resolve_left (by decide))).2⟩ }
theorem MkM.s3 {c : MkC} {X Y : Nat} {A : Option Addr} {k : Nat} {cs : Array Value} {p : Nat → Prop} {a : Act} {w : World} (hS : MkS c) (h : MkM c X Y A k cs p a w) (hp : ¬ p 3)  {w' : World} {v : Value} (hg : w.grownBy w' none) (hb : Below c.B0 c.W0 w') (hB : c.B0 ≤ w.heap.size) (hn : v = c.v3) :
    MkM c (X) (Y) A k cs (fun j => j = 3 ∨ p j) (a.put (some c.d3) v) w' := by
  have sz := h.agree.size
  have ps : (a.put (some c.d3) v).tmps.getD c.d3 undef = v := getD_put_same (by rw [sz]; exact (hS.mem _ (by simp)).2) v
  have hsz := hg.size
  have blk : ∀ b, b < w.heap.size → some b ≠ none → w'.heap[b]? = w.heap[b]? := fun b hb hne => hg.block b hb hne
  exact {
    agree := h.agree.put (hS.mem _ (by simp)).1 v
    bel := hb
    f0 := fun hj => (getD_put_ne (Ne.symm hS.ne_d0_d3) v).trans (h.f0 (hj.resolve_left (by decide)))
    f1 := fun hj => (getD_put_ne (Ne.symm hS.ne_d1_d3) v).trans (h.f1 (hj.resolve_left (by decide)))
    f2 := fun hj => (getD_put_ne (Ne.symm hS.ne_d2_d3) v).trans (h.f2 (hj.resolve_left (by decide)))
    f3 := fun _ => by rw [ps]; exact hn
    f4 := fun hj => (getD_put_ne (hS.ne_d3_d4) v).trans (h.f4 (hj.resolve_left (by decide)))
    f5 := fun hj => (getD_put_ne (hS.ne_d3_d5) v).trans (h.f5 (hj.resolve_left (by decide)))
    f7 := fun hj => (getD_put_ne (hS.ne_d3_sX) v).trans (h.f7 (hj.resolve_left (by decide)))
    f8 := fun hj => (getD_put_ne (hS.ne_d3_sY) v).trans (h.f8 (hj.resolve_left (by decide)))
    g2 := fun hj => (h.g2 (hj.resolve_left (by decide))).keep (fun b o hs => World.cell?_of_block (a := ⟨b, o, none⟩) (blk b hs.2.1 (by simp))) (fun b hs => ⟨hs.1, Nat.lt_of_lt_of_le hs.2.1 hsz, fun h7 => hs.2.2.1 (h7.resolve_left (by decide)), fun h8 => hs.2.2.2 (h8.resolve_left (by decide))⟩)
    g5 := fun hj => h.g5 (hj.resolve_left (by decide))
    g7 := fun hj => ⟨(h.g7 (hj.resolve_left (by decide))).1, Nat.lt_of_lt_of_le (h.g7 (hj.resolve_left (by decide))).2 hsz⟩
    g8 := fun hj => ⟨(h.g8 (hj.resolve_left (by decide))).1, Nat.lt_of_lt_of_le (h.g8 (hj.resolve_left (by decide))).2 hsz⟩
    z7 := fun hj hk => (blk X (h.g7 (hj.resolve_left (by decide))).2 (by simp)).trans (h.z7 (hj.resolve_left (by decide)) (fun h9 => hk (Or.inr h9)))
    x7 := fun hj => (blk X (h.g7 (h.d9 (hj.resolve_left (by decide))).2).2 (by simp)).trans (h.x7 (hj.resolve_left (by decide)))
    z8 := fun hj hk => (blk Y (h.g8 (hj.resolve_left (by decide))).2 (by simp)).trans (h.z8 (hj.resolve_left (by decide)) (fun h9 => hk (Or.inr h9)))
    x8 := fun hj => (blk Y (h.g8 (h.d10 (hj.resolve_left (by decide))).2).2 (by simp)).trans (h.x8 (hj.resolve_left (by decide)))
    xy := fun h7 h8 => h.xy (h7.resolve_left (by decide)) (h8.resolve_left (by decide))
    d9 := fun hj => ⟨Or.inr (h.d9 (hj.resolve_left (by decide))).1, Or.inr (h.d9 (hj.resolve_left (by decide))).2⟩
    d10 := fun hj => ⟨Or.inr (h.d10 (hj.resolve_left (by decide))).1, Or.inr (h.d10 (hj.resolve_left (by decide))).2⟩ }
theorem MkM.s4 {c : MkC} {X Y : Nat} {A : Option Addr} {k : Nat} {cs : Array Value} {p : Nat → Prop} {a : Act} {w : World} (hS : MkS c) (h : MkM c X Y A k cs p a w) (hp : ¬ p 4)  {w' : World} {v : Value} (hg : w.grownBy w' none) (hb : Below c.B0 c.W0 w') (hB : c.B0 ≤ w.heap.size) (hn : v = c.v4) :
    MkM c (X) (Y) A k cs (fun j => j = 4 ∨ p j) (a.put (some c.d4) v) w' := by
  have sz := h.agree.size
  have ps : (a.put (some c.d4) v).tmps.getD c.d4 undef = v := getD_put_same (by rw [sz]; exact (hS.mem _ (by simp)).2) v
  have hsz := hg.size
  have blk : ∀ b, b < w.heap.size → some b ≠ none → w'.heap[b]? = w.heap[b]? := fun b hb hne => hg.block b hb hne
  exact {
    agree := h.agree.put (hS.mem _ (by simp)).1 v
    bel := hb
    f0 := fun hj => (getD_put_ne (Ne.symm hS.ne_d0_d4) v).trans (h.f0 (hj.resolve_left (by decide)))
    f1 := fun hj => (getD_put_ne (Ne.symm hS.ne_d1_d4) v).trans (h.f1 (hj.resolve_left (by decide)))
    f2 := fun hj => (getD_put_ne (Ne.symm hS.ne_d2_d4) v).trans (h.f2 (hj.resolve_left (by decide)))
    f3 := fun hj => (getD_put_ne (Ne.symm hS.ne_d3_d4) v).trans (h.f3 (hj.resolve_left (by decide)))
    f4 := fun _ => by rw [ps]; exact hn
    f5 := fun hj => (getD_put_ne (hS.ne_d4_d5) v).trans (h.f5 (hj.resolve_left (by decide)))
    f7 := fun hj => (getD_put_ne (hS.ne_d4_sX) v).trans (h.f7 (hj.resolve_left (by decide)))
    f8 := fun hj => (getD_put_ne (hS.ne_d4_sY) v).trans (h.f8 (hj.resolve_left (by decide)))
    g2 := fun hj => (h.g2 (hj.resolve_left (by decide))).keep (fun b o hs => World.cell?_of_block (a := ⟨b, o, none⟩) (blk b hs.2.1 (by simp))) (fun b hs => ⟨hs.1, Nat.lt_of_lt_of_le hs.2.1 hsz, fun h7 => hs.2.2.1 (h7.resolve_left (by decide)), fun h8 => hs.2.2.2 (h8.resolve_left (by decide))⟩)
    g5 := fun hj => h.g5 (hj.resolve_left (by decide))
    g7 := fun hj => ⟨(h.g7 (hj.resolve_left (by decide))).1, Nat.lt_of_lt_of_le (h.g7 (hj.resolve_left (by decide))).2 hsz⟩
    g8 := fun hj => ⟨(h.g8 (hj.resolve_left (by decide))).1, Nat.lt_of_lt_of_le (h.g8 (hj.resolve_left (by decide))).2 hsz⟩
    z7 := fun hj hk => (blk X (h.g7 (hj.resolve_left (by decide))).2 (by simp)).trans (h.z7 (hj.resolve_left (by decide)) (fun h9 => hk (Or.inr h9)))
    x7 := fun hj => (blk X (h.g7 (h.d9 (hj.resolve_left (by decide))).2).2 (by simp)).trans (h.x7 (hj.resolve_left (by decide)))
    z8 := fun hj hk => (blk Y (h.g8 (hj.resolve_left (by decide))).2 (by simp)).trans (h.z8 (hj.resolve_left (by decide)) (fun h9 => hk (Or.inr h9)))
    x8 := fun hj => (blk Y (h.g8 (h.d10 (hj.resolve_left (by decide))).2).2 (by simp)).trans (h.x8 (hj.resolve_left (by decide)))
    xy := fun h7 h8 => h.xy (h7.resolve_left (by decide)) (h8.resolve_left (by decide))
    d9 := fun hj => ⟨Or.inr (h.d9 (hj.resolve_left (by decide))).1, Or.inr (h.d9 (hj.resolve_left (by decide))).2⟩
    d10 := fun hj => ⟨Or.inr (h.d10 (hj.resolve_left (by decide))).1, Or.inr (h.d10 (hj.resolve_left (by decide))).2⟩ }
theorem MkM.s5 {c : MkC} {X Y : Nat} {A : Option Addr} {k : Nat} {cs : Array Value} {p : Nat → Prop} {a : Act} {w : World} (hS : MkS c) (h : MkM c X Y A k cs p a w) (hp : ¬ p 5) {cs' : Array Value} {w' : World} {v : Value} (hg : w.grownBy w' none) (hb : Below c.B0 c.W0 w') (hB : c.B0 ≤ w.heap.size) (hn : v = .agg cs') (ho : c.ok cs') :
    MkM c (X) (Y) A k cs' (fun j => j = 5 ∨ p j) (a.put (some c.d5) v) w' := by
  have sz := h.agree.size
  have ps : (a.put (some c.d5) v).tmps.getD c.d5 undef = v := getD_put_same (by rw [sz]; exact (hS.mem _ (by simp)).2) v
  have hsz := hg.size
  have blk : ∀ b, b < w.heap.size → some b ≠ none → w'.heap[b]? = w.heap[b]? := fun b hb hne => hg.block b hb hne
  exact {
    agree := h.agree.put (hS.mem _ (by simp)).1 v
    bel := hb
    f0 := fun hj => (getD_put_ne (Ne.symm hS.ne_d0_d5) v).trans (h.f0 (hj.resolve_left (by decide)))
    f1 := fun hj => (getD_put_ne (Ne.symm hS.ne_d1_d5) v).trans (h.f1 (hj.resolve_left (by decide)))
    f2 := fun hj => (getD_put_ne (Ne.symm hS.ne_d2_d5) v).trans (h.f2 (hj.resolve_left (by decide)))
    f3 := fun hj => (getD_put_ne (Ne.symm hS.ne_d3_d5) v).trans (h.f3 (hj.resolve_left (by decide)))
    f4 := fun hj => (getD_put_ne (Ne.symm hS.ne_d4_d5) v).trans (h.f4 (hj.resolve_left (by decide)))
    f5 := fun _ => by rw [ps]; exact hn
    f7 := fun hj => (getD_put_ne (hS.ne_d5_sX) v).trans (h.f7 (hj.resolve_left (by decide)))
    f8 := fun hj => (getD_put_ne (hS.ne_d5_sY) v).trans (h.f8 (hj.resolve_left (by decide)))
    g2 := fun hj => (h.g2 (hj.resolve_left (by decide))).keep (fun b o hs => World.cell?_of_block (a := ⟨b, o, none⟩) (blk b hs.2.1 (by simp))) (fun b hs => ⟨hs.1, Nat.lt_of_lt_of_le hs.2.1 hsz, fun h7 => hs.2.2.1 (h7.resolve_left (by decide)), fun h8 => hs.2.2.2 (h8.resolve_left (by decide))⟩)
    g5 := fun _ => ho
    g7 := fun hj => ⟨(h.g7 (hj.resolve_left (by decide))).1, Nat.lt_of_lt_of_le (h.g7 (hj.resolve_left (by decide))).2 hsz⟩
    g8 := fun hj => ⟨(h.g8 (hj.resolve_left (by decide))).1, Nat.lt_of_lt_of_le (h.g8 (hj.resolve_left (by decide))).2 hsz⟩
    z7 := fun hj hk => (blk X (h.g7 (hj.resolve_left (by decide))).2 (by simp)).trans (h.z7 (hj.resolve_left (by decide)) (fun h9 => hk (Or.inr h9)))
    x7 := fun hj => (blk X (h.g7 (h.d9 (hj.resolve_left (by decide))).2).2 (by simp)).trans (h.x7 (hj.resolve_left (by decide)))
    z8 := fun hj hk => (blk Y (h.g8 (hj.resolve_left (by decide))).2 (by simp)).trans (h.z8 (hj.resolve_left (by decide)) (fun h9 => hk (Or.inr h9)))
    x8 := fun hj => absurd ((h.d10 (hj.resolve_left (by decide))).1) hp
    xy := fun h7 h8 => h.xy (h7.resolve_left (by decide)) (h8.resolve_left (by decide))
    d9 := fun hj => ⟨Or.inr (h.d9 (hj.resolve_left (by decide))).1, Or.inr (h.d9 (hj.resolve_left (by decide))).2⟩
    d10 := fun hj => ⟨Or.inr (h.d10 (hj.resolve_left (by decide))).1, Or.inr (h.d10 (hj.resolve_left (by decide))).2⟩ }
theorem MkM.s6 {c : MkC} {X Y : Nat} {A : Option Addr} {k : Nat} {cs : Array Value} {p : Nat → Prop} {a : Act} {w : World} (hS : MkS c) (h : MkM c X Y A k cs p a w) (hp : ¬ p 6)  {w' : World} {v : Value} (hg : w.grownBy w' none) (hb : Below c.B0 c.W0 w') (hB : c.B0 ≤ w.heap.size) (hn : v = .pointer (some ⟨w.heap.size, 0, none⟩)) (hx : w'.heap[w.heap.size]? = some (.cells zBase 138)) :
    MkM c (w.heap.size) (Y) A k cs (fun j => j = 6 ∨ p j) (a.put (some c.sX) v) w' := by
  have sz := h.agree.size
  have ps : (a.put (some c.sX) v).tmps.getD c.sX undef = v := getD_put_same (by rw [sz]; exact (hS.mem _ (by simp)).2) v
  have hsz := hg.size
  have blk : ∀ b, b < w.heap.size → some b ≠ none → w'.heap[b]? = w.heap[b]? := fun b hb hne => hg.block b hb hne
  exact {
    agree := h.agree.put (hS.mem _ (by simp)).1 v
    bel := hb
    f0 := fun hj => (getD_put_ne (Ne.symm hS.ne_d0_sX) v).trans (h.f0 (hj.resolve_left (by decide)))
    f1 := fun hj => (getD_put_ne (Ne.symm hS.ne_d1_sX) v).trans (h.f1 (hj.resolve_left (by decide)))
    f2 := fun hj => (getD_put_ne (Ne.symm hS.ne_d2_sX) v).trans (h.f2 (hj.resolve_left (by decide)))
    f3 := fun hj => (getD_put_ne (Ne.symm hS.ne_d3_sX) v).trans (h.f3 (hj.resolve_left (by decide)))
    f4 := fun hj => (getD_put_ne (Ne.symm hS.ne_d4_sX) v).trans (h.f4 (hj.resolve_left (by decide)))
    f5 := fun hj => (getD_put_ne (Ne.symm hS.ne_d5_sX) v).trans (h.f5 (hj.resolve_left (by decide)))
    f7 := fun _ => by rw [ps]; exact hn
    f8 := fun hj => (getD_put_ne (hS.ne_sX_sY) v).trans (h.f8 (hj.resolve_left (by decide)))
    g2 := fun hj => (h.g2 (hj.resolve_left (by decide))).keep (fun b o hs => World.cell?_of_block (a := ⟨b, o, none⟩) (blk b hs.2.1 (by simp))) (fun b hs => ⟨hs.1, Nat.lt_of_lt_of_le hs.2.1 hsz, fun h7 => (by have := hs.2.1; intro e; omega), fun h8 => hs.2.2.2 (h8.resolve_left (by decide))⟩)
    g5 := fun hj => h.g5 (hj.resolve_left (by decide))
    g7 := fun _ => ⟨hB, by have := lt_of_block hx; exact this⟩
    g8 := fun hj => ⟨(h.g8 (hj.resolve_left (by decide))).1, Nat.lt_of_lt_of_le (h.g8 (hj.resolve_left (by decide))).2 hsz⟩
    z7 := fun _ _ => hx
    x7 := fun hj => absurd (h.d9 (hj.resolve_left (by decide))).2 hp
    z8 := fun hj hk => (blk Y (h.g8 (hj.resolve_left (by decide))).2 (by simp)).trans (h.z8 (hj.resolve_left (by decide)) (fun h9 => hk (Or.inr h9)))
    x8 := fun hj => (blk Y (h.g8 (h.d10 (hj.resolve_left (by decide))).2).2 (by simp)).trans (h.x8 (hj.resolve_left (by decide)))
    xy := fun _ h8 e => by have := (h.g8 (h8.resolve_left (by decide))).2; omega
    d9 := fun hj => ⟨Or.inr (h.d9 (hj.resolve_left (by decide))).1, Or.inr (h.d9 (hj.resolve_left (by decide))).2⟩
    d10 := fun hj => ⟨Or.inr (h.d10 (hj.resolve_left (by decide))).1, Or.inr (h.d10 (hj.resolve_left (by decide))).2⟩ }
theorem MkM.s7 {c : MkC} {X Y : Nat} {A : Option Addr} {k : Nat} {cs : Array Value} {p : Nat → Prop} {a : Act} {w : World} (hS : MkS c) (h : MkM c X Y A k cs p a w) (hp : ¬ p 7)  {w' : World} {v : Value} (hg : w.grownBy w' none) (hb : Below c.B0 c.W0 w') (hB : c.B0 ≤ w.heap.size) (hn : v = .pointer (some ⟨w.heap.size, 0, none⟩)) (hx : w'.heap[w.heap.size]? = some (.cells c.zY c.TY)) :
    MkM c (X) (w.heap.size) A k cs (fun j => j = 7 ∨ p j) (a.put (some c.sY) v) w' := by
  have sz := h.agree.size
  have ps : (a.put (some c.sY) v).tmps.getD c.sY undef = v := getD_put_same (by rw [sz]; exact (hS.mem _ (by simp)).2) v
  have hsz := hg.size
  have blk : ∀ b, b < w.heap.size → some b ≠ none → w'.heap[b]? = w.heap[b]? := fun b hb hne => hg.block b hb hne
  exact {
    agree := h.agree.put (hS.mem _ (by simp)).1 v
    bel := hb
    f0 := fun hj => (getD_put_ne (Ne.symm hS.ne_d0_sY) v).trans (h.f0 (hj.resolve_left (by decide)))
    f1 := fun hj => (getD_put_ne (Ne.symm hS.ne_d1_sY) v).trans (h.f1 (hj.resolve_left (by decide)))
    f2 := fun hj => (getD_put_ne (Ne.symm hS.ne_d2_sY) v).trans (h.f2 (hj.resolve_left (by decide)))
    f3 := fun hj => (getD_put_ne (Ne.symm hS.ne_d3_sY) v).trans (h.f3 (hj.resolve_left (by decide)))
    f4 := fun hj => (getD_put_ne (Ne.symm hS.ne_d4_sY) v).trans (h.f4 (hj.resolve_left (by decide)))
    f5 := fun hj => (getD_put_ne (Ne.symm hS.ne_d5_sY) v).trans (h.f5 (hj.resolve_left (by decide)))
    f7 := fun hj => (getD_put_ne (Ne.symm hS.ne_sX_sY) v).trans (h.f7 (hj.resolve_left (by decide)))
    f8 := fun _ => by rw [ps]; exact hn
    g2 := fun hj => (h.g2 (hj.resolve_left (by decide))).keep (fun b o hs => World.cell?_of_block (a := ⟨b, o, none⟩) (blk b hs.2.1 (by simp))) (fun b hs => ⟨hs.1, Nat.lt_of_lt_of_le hs.2.1 hsz, fun h7 => hs.2.2.1 (h7.resolve_left (by decide)), fun h8 => (by have := hs.2.1; intro e; omega)⟩)
    g5 := fun hj => h.g5 (hj.resolve_left (by decide))
    g7 := fun hj => ⟨(h.g7 (hj.resolve_left (by decide))).1, Nat.lt_of_lt_of_le (h.g7 (hj.resolve_left (by decide))).2 hsz⟩
    g8 := fun _ => ⟨hB, by have := lt_of_block hx; exact this⟩
    z7 := fun hj hk => (blk X (h.g7 (hj.resolve_left (by decide))).2 (by simp)).trans (h.z7 (hj.resolve_left (by decide)) (fun h9 => hk (Or.inr h9)))
    x7 := fun hj => (blk X (h.g7 (h.d9 (hj.resolve_left (by decide))).2).2 (by simp)).trans (h.x7 (hj.resolve_left (by decide)))
    z8 := fun _ _ => hx
    x8 := fun hj => absurd (h.d10 (hj.resolve_left (by decide))).2 hp
    xy := fun h7 _ e => by have := (h.g7 (h7.resolve_left (by decide))).2; omega
    d9 := fun hj => ⟨Or.inr (h.d9 (hj.resolve_left (by decide))).1, Or.inr (h.d9 (hj.resolve_left (by decide))).2⟩
    d10 := fun hj => ⟨Or.inr (h.d10 (hj.resolve_left (by decide))).1, Or.inr (h.d10 (hj.resolve_left (by decide))).2⟩ }
theorem MkM.s8 {c : MkC} {X Y : Nat} {A : Option Addr} {k : Nat} {cs : Array Value} {p : Nat → Prop} {a : Act} {w : World} (hS : MkS c) (h : MkM c X Y A k cs p a w) (hp : ¬ p 8)  {w' : World} (hg : w.grownBy w' (some X)) (hb : Below c.B0 c.W0 w') (hB : c.B0 ≤ w.heap.size) (h2 : p 2) (h7 : p 6) (hx : w'.heap[X]? = some (.cells (c.lay A k) 138)) :
    MkM c (X) (Y) A k cs (fun j => j = 8 ∨ p j) (a) w' := by
  have hsz := hg.size
  have blk : ∀ b, b < w.heap.size → some b ≠ (some X) → w'.heap[b]? = w.heap[b]? := fun b hb hne => hg.block b hb hne
  exact {
    agree := h.agree
    bel := hb
    f0 := fun hj => h.f0 (hj.resolve_left (by decide))
    f1 := fun hj => h.f1 (hj.resolve_left (by decide))
    f2 := fun hj => h.f2 (hj.resolve_left (by decide))
    f3 := fun hj => h.f3 (hj.resolve_left (by decide))
    f4 := fun hj => h.f4 (hj.resolve_left (by decide))
    f5 := fun hj => h.f5 (hj.resolve_left (by decide))
    f7 := fun hj => h.f7 (hj.resolve_left (by decide))
    f8 := fun hj => h.f8 (hj.resolve_left (by decide))
    g2 := fun hj => (h.g2 (hj.resolve_left (by decide))).keep (fun b o hs => World.cell?_of_block (a := ⟨b, o, none⟩) (blk b hs.2.1 (fun e => hs.2.2.1 h7 (by injection e)))) (fun b hs => ⟨hs.1, Nat.lt_of_lt_of_le hs.2.1 hsz, fun h7 => hs.2.2.1 (h7.resolve_left (by decide)), fun h8 => hs.2.2.2 (h8.resolve_left (by decide))⟩)
    g5 := fun hj => h.g5 (hj.resolve_left (by decide))
    g7 := fun hj => ⟨(h.g7 (hj.resolve_left (by decide))).1, Nat.lt_of_lt_of_le (h.g7 (hj.resolve_left (by decide))).2 hsz⟩
    g8 := fun hj => ⟨(h.g8 (hj.resolve_left (by decide))).1, Nat.lt_of_lt_of_le (h.g8 (hj.resolve_left (by decide))).2 hsz⟩
    z7 := fun _ hj => absurd (Or.inl rfl) hj
    x7 := fun _ => hx
    z8 := fun hj hk => (blk Y (h.g8 (hj.resolve_left (by decide))).2 (fun e => h.xy h7 (hj.resolve_left (by decide)) (by injection e with e; exact e.symm))).trans (h.z8 (hj.resolve_left (by decide)) (fun h9 => hk (Or.inr h9)))
    x8 := fun hj => (blk Y (h.g8 (h.d10 (hj.resolve_left (by decide))).2).2 (fun e => h.xy h7 (h.d10 (hj.resolve_left (by decide))).2 (by injection e with e; exact e.symm))).trans (h.x8 (hj.resolve_left (by decide)))
    xy := fun h7 h8 => h.xy (h7.resolve_left (by decide)) (h8.resolve_left (by decide))
    d9 := fun _ => ⟨Or.inr h2, Or.inr h7⟩
    d10 := fun hj => ⟨Or.inr (h.d10 (hj.resolve_left (by decide))).1, Or.inr (h.d10 (hj.resolve_left (by decide))).2⟩ }
theorem MkM.s9 {c : MkC} {X Y : Nat} {A : Option Addr} {k : Nat} {cs : Array Value} {p : Nat → Prop} {a : Act} {w : World} (hS : MkS c) (h : MkM c X Y A k cs p a w) (hp : ¬ p 9)  {w' : World} (hg : w.grownBy w' (some Y)) (hb : Below c.B0 c.W0 w') (hB : c.B0 ≤ w.heap.size) (h6 : p 5) (h8 : p 7) (hx : w'.heap[Y]? = some (.cells cs c.TY)) :
    MkM c (X) (Y) A k cs (fun j => j = 9 ∨ p j) (a) w' := by
  have hsz := hg.size
  have blk : ∀ b, b < w.heap.size → some b ≠ (some Y) → w'.heap[b]? = w.heap[b]? := fun b hb hne => hg.block b hb hne
  exact {
    agree := h.agree
    bel := hb
    f0 := fun hj => h.f0 (hj.resolve_left (by decide))
    f1 := fun hj => h.f1 (hj.resolve_left (by decide))
    f2 := fun hj => h.f2 (hj.resolve_left (by decide))
    f3 := fun hj => h.f3 (hj.resolve_left (by decide))
    f4 := fun hj => h.f4 (hj.resolve_left (by decide))
    f5 := fun hj => h.f5 (hj.resolve_left (by decide))
    f7 := fun hj => h.f7 (hj.resolve_left (by decide))
    f8 := fun hj => h.f8 (hj.resolve_left (by decide))
    g2 := fun hj => (h.g2 (hj.resolve_left (by decide))).keep (fun b o hs => World.cell?_of_block (a := ⟨b, o, none⟩) (blk b hs.2.1 (fun e => hs.2.2.2 h8 (by injection e)))) (fun b hs => ⟨hs.1, Nat.lt_of_lt_of_le hs.2.1 hsz, fun h7 => hs.2.2.1 (h7.resolve_left (by decide)), fun h8 => hs.2.2.2 (h8.resolve_left (by decide))⟩)
    g5 := fun hj => h.g5 (hj.resolve_left (by decide))
    g7 := fun hj => ⟨(h.g7 (hj.resolve_left (by decide))).1, Nat.lt_of_lt_of_le (h.g7 (hj.resolve_left (by decide))).2 hsz⟩
    g8 := fun hj => ⟨(h.g8 (hj.resolve_left (by decide))).1, Nat.lt_of_lt_of_le (h.g8 (hj.resolve_left (by decide))).2 hsz⟩
    z7 := fun hj hk => (blk X (h.g7 (hj.resolve_left (by decide))).2 (fun e => h.xy (hj.resolve_left (by decide)) h8 (by injection e))).trans (h.z7 (hj.resolve_left (by decide)) (fun h9 => hk (Or.inr h9)))
    x7 := fun hj => (blk X (h.g7 (h.d9 (hj.resolve_left (by decide))).2).2 (fun e => h.xy (h.d9 (hj.resolve_left (by decide))).2 h8 (by injection e))).trans (h.x7 (hj.resolve_left (by decide)))
    z8 := fun _ hj => absurd (Or.inl rfl) hj
    x8 := fun _ => hx
    xy := fun h7 h8 => h.xy (h7.resolve_left (by decide)) (h8.resolve_left (by decide))
    d9 := fun hj => ⟨Or.inr (h.d9 (hj.resolve_left (by decide))).1, Or.inr (h.d9 (hj.resolve_left (by decide))).2⟩
    d10 := fun _ => ⟨Or.inr h6, Or.inr h8⟩ }
end Go.Proofs.YtcldbjgikkfnbaaGreatDoor

/-
  list.maker at 'list.map': a walk. Written by a program of mine (gen_maker.py). Conditions: the kids lie in memory.
-/
namespace Go.Proofs.YtcldbjgikkfnbaaGreatDoor
open Go.RowKit
set_option linter.unusedVariables false

set_option maxRecDepth 100000 in
set_option maxHeartbeats 8000000 in
theorem mk_list_map (s : ByteArray) (ks : List Kd) (hks : ks.length ≤ 1000) : Makes 37 ⟨#[108, 105, 115, 116, 46, 109, 97, 112]⟩ s ks 159 := by
  intro A c w hk
  have HK := Lib.hid hk
  clear hk
  go_enter Tryz.func37, Tryz.ntmps37
  go_wp2
  have HX0 := Lib.hid (heap_alloc_new w (.cells #[.string ⟨#[108, 105, 115, 116, 46, 109, 97, 112]⟩, .int .i64 0, .string s, .slice none 0 0] 65))
  have HB0 := Lib.hid ((Below.refl w.heap.size w).alloc (Nat.le_refl _) (.cells #[.string ⟨#[108, 105, 115, 116, 46, 109, 97, 112]⟩, .int .i64 0, .string s, .slice none 0 0] 65))
  have hz0 : w.heap.size < (w.alloc (.cells #[.string ⟨#[108, 105, 115, 116, 46, 109, 97, 112]⟩, .int .i64 0, .string s, .slice none 0 0] 65)).heap.size := by simp
  generalize w.alloc (.cells #[.string ⟨#[108, 105, 115, 116, 46, 109, 97, 112]⟩, .int .i64 0, .string s, .slice none 0 0] 65) = w1 at *
  have KL : ∀ wr, Below w1.drew.heap.size w1.drew wr → Calls Tryz.prog 67 #[.agg #[.string ⟨#[108, 105, 115, 116, 46, 109, 97, 112]⟩, .int .i64 0, .string s, .slice none 0 0], .slice A ks.length c] wr (LayPost ⟨#[108, 105, 115, 116, 46, 109, 97, 112]⟩ 0 s (ks.map Kd.n) wr) := fun wr hb => node_Lay _ 0 s _ ks A c wr ⟨_, _, _, rfl⟩ (by omega) ((HK.out.below HB0.out).below ((Below.refl w1.heap.size w1).drew.trans hb))
  refine wp_region_inva (fun a0 L a wr => ∃ X Y Ay k cs, MkM { B0 := w1.drew.heap.size, W0 := w1.drew, a0 := a0, D := [9, 10, 11, 12, 13, 14, 15, 5, 6], d0 := 9, d1 := 10, d2 := 11, d3 := 12, d4 := 13, d5 := 14, d6 := 15, sX := 5, sY := 6, v0 := .agg #[.string ⟨#[108, 105, 115, 116, 46, 109, 97, 112]⟩, .int .i64 0, .string s, .slice none 0 0], v1 := .slice A ks.length c, v3 := .pointer (some ⟨w.heap.size, 0, none⟩), v4 := .string ⟨#[108, 105, 115, 116, 46, 109, 97, 112]⟩, kind := ⟨#[108, 105, 115, 116, 46, 109, 97, 112]⟩, text := s, vs := ks.map Kd.n, TY := 146, zY := #[.slice none 0 0, .bool false, .string ⟨#[]⟩, .slice none 0 0, .string ⟨#[]⟩, .slice none 0 0], ok := SigOk } X Y Ay k cs (fun i => L.getD i false = true) a wr) (by kernel_rfl) ?_ ?_ ?_
  · refine ⟨0, 0, none, 0, #[], { agree := Agree.refl _ _, bel := Below.refl _ _, f0 := fun h => (start_no h).elim, f1 := fun h => (start_no h).elim, f2 := fun h => (start_no h).elim, g2 := fun h => (start_no h).elim, f3 := fun h => (start_no h).elim, f4 := fun h => (start_no h).elim, f5 := fun h => (start_no h).elim, g5 := fun h => (start_no h).elim, f7 := fun h => (start_no h).elim, g7 := fun h => (start_no h).elim, z7 := fun h => (start_no h).elim, x7 := fun h => (start_no h).elim, f8 := fun h => (start_no h).elim, g8 := fun h => (start_no h).elim, z8 := fun h => (start_no h).elim, x8 := fun h => (start_no h).elim, xy := fun h => (start_no h).elim, d9 := fun h => (start_no h).elim, d10 := fun h => (start_no h).elim }⟩
  · rintro L a wr i o hs ⟨X, Y, Ay, k, cs, h⟩ ho hl hd
    have hi : i < 10 := (Array.getElem?_eq_some_iff.1 ho).1
    have hs' : i < L.size := by rw [hs]; exact hi
    have hp := not_yet hs' hl
    have hB := h.bel.size
    have hxz : wr.heap[w.heap.size]? = _ := (h.bel.block w.heap.size hz0).trans HX0.out
    rw [set_fun hs']
    have hcases : i = 0 ∨ i = 1 ∨ i = 2 ∨ i = 3 ∨ i = 4 ∨ i = 5 ∨ i = 6 ∨ i = 7 ∨ i = 8 ∨ i = 9 := by omega
    refine ⟨?_, ?_⟩
    · rcases hcases with rfl | rfl | rfl | rfl | rfl | rfl | rfl | rfl | rfl | rfl <;> (cases ho; rfl)
    have hS : ∀ a0 : Act, a0.tmps.size = 63 → MkS { B0 := w1.drew.heap.size, W0 := w1.drew, a0 := a0, D := [9, 10, 11, 12, 13, 14, 15, 5, 6], d0 := 9, d1 := 10, d2 := 11, d3 := 12, d4 := 13, d5 := 14, d6 := 15, sX := 5, sY := 6, v0 := .agg #[.string ⟨#[108, 105, 115, 116, 46, 109, 97, 112]⟩, .int .i64 0, .string s, .slice none 0 0], v1 := .slice A ks.length c, v3 := .pointer (some ⟨w.heap.size, 0, none⟩), v4 := .string ⟨#[108, 105, 115, 116, 46, 109, 97, 112]⟩, kind := ⟨#[108, 105, 115, 116, 46, 109, 97, 112]⟩, text := s, vs := ks.map Kd.n, TY := 146, zY := #[.slice none 0 0, .bool false, .string ⟨#[]⟩, .slice none 0 0, .string ⟨#[]⟩, .slice none 0 0], ok := SigOk } := fun a0 h0 => ⟨fun i hi => by
      simp only [List.mem_cons, List.not_mem_nil, or_false] at hi
      rcases hi with rfl | rfl | rfl | rfl | rfl | rfl | rfl | rfl | rfl <;> exact ⟨by simp, by rw [h0]; decide⟩, by show List.Nodup [9, 10, 11, 12, 13, 14, 15, 5, 6]; decide⟩
    rcases hcases with rfl | rfl | rfl | rfl | rfl | rfl | rfl | rfl | rfl | rfl
    · cases ho
      exact wp_load1 rfl ((h.agree.same 2 (by simp)).trans rfl) (run_loadVar_row (P := Tryz.prog) _ _ _ 65 _ _ _ hxz Tryz.underlying65 rfl (by kernel_rfl)) ⟨X, Y, Ay, k, cs, h.s0 (hS _ (by rfl)) hp (grown_refl wr) h.bel hB rfl⟩
    · cases ho
      exact wp_move1 rfl ((h.agree.same 1 (by simp)).trans rfl) ⟨X, Y, Ay, k, cs, h.s1 (hS _ (by rfl)) hp (grown_refl wr) h.bel hB rfl⟩
    · cases ho
      have e0 := h.f0 (hd { on := 0, ground := .data } (by simp) (by rfl))
      have e1 := h.f1 (hd { on := 1, ground := .data } (by simp) (by rfl))
      refine wp_call1 (vs := #[.agg #[.string ⟨#[108, 105, 115, 116, 46, 109, 97, 112]⟩, .int .i64 0, .string s, .slice none 0 0], .slice A ks.length c]) rfl ?_ (by kernel_rfl) ((KL wr h.bel).mono ?_)
      · simp only [List.map_toArray, List.map_cons, List.map_nil, Act.eval]
        rw [e0, e1]
      · rintro e w' ⟨A', k', rfl, hv, hb⟩
        exact ⟨_, rfl, X, Y, A', k', cs, h.s2 (hS _ (by rfl)) hp (grown_below hb) (h.bel.trans (hb.mono hB)) hB (by simp [MkC.lay]) hv⟩
    · cases ho
      exact wp_field rfl ((h.agree.same 2 (by simp)).trans rfl) (by go_simp) ⟨X, Y, Ay, k, cs, h.s3 (hS _ (by rfl)) hp (grown_refl wr) h.bel hB rfl⟩
    · cases ho
      have e3 := h.f3 (hd { on := 3, ground := .data } (by simp) (by rfl))
      have hc : wr.cell? ⟨w.heap.size, 0, none⟩ = some (.string ⟨#[108, 105, 115, 116, 46, 109, 97, 112]⟩) := by simp [World.cell?, hxz]
      exact wp_load1 rfl e3 (by go_simp) ⟨X, Y, Ay, k, cs, h.s4 (hS _ (by rfl)) hp (grown_refl wr) h.bel hB rfl⟩
    · cases ho
      have e4 := h.f4 (hd { on := 4, ground := .data } (by simp) (by rfl))
      refine wp_call1 (vs := #[.string ⟨#[108, 105, 115, 116, 46, 109, 97, 112]⟩]) rfl ?_ (by kernel_rfl) ((list_sign_map wr).mono ?_)
      · simp only [List.map_toArray, List.map_cons, List.map_nil, Act.eval]
        rw [e4]
      · rintro e w' ⟨cs', rfl, hok, hb⟩
        exact ⟨_, rfl, X, Y, Ay, k, cs', h.s5 (hS _ (by rfl)) hp (grown_below hb) (h.bel.trans (hb.mono hB)) hB rfl hok⟩
    · cases ho
      exact wp_alloc_run rfl (by kernel_rfl) ⟨wr.heap.size, Y, Ay, k, cs, h.s6 (hS _ (by rfl)) hp (grown_below ((Below.refl wr.heap.size wr).alloc (Nat.le_refl _) _)) (h.bel.alloc hB _) hB rfl (heap_alloc_new wr (.cells zBase 138))⟩
    · cases ho
      exact wp_alloc_run rfl (by kernel_rfl) ⟨X, wr.heap.size, Ay, k, cs, h.s7 (hS _ (by rfl)) hp (grown_below ((Below.refl wr.heap.size wr).alloc (Nat.le_refl _) _)) (h.bel.alloc hB _) hB rfl (heap_alloc_new wr (.cells #[.slice none 0 0, .bool false, .string ⟨#[]⟩, .slice none 0 0, .string ⟨#[]⟩, .slice none 0 0] 146))⟩
    · cases ho
      have d7 := hd { on := 6, ground := .data } (by simp) (by rfl)
      have d2 := hd { on := 2, ground := .data } (by simp) (by rfl)
      have hz := h.z7 d7 hp
      exact wp_store_row 138 (.tmp 5) (.tmp 11) rfl X _ (h.f7 d7) (h.f2 d2) 138 _ hz (by kernel_rfl) rfl (by simp [MkC.lay, Value.oneCell']) ⟨X, Y, Ay, k, cs, h.s8 (hS _ (by rfl)) hp (grown_row wr X _) (h.bel.grown (grown_row wr X _) hB (fun q e => by injection e with e; subst e; exact (h.g7 d7).1)) hB d2 d7 (setRow_heap _ _ _ _ _ _ hz)⟩
    · cases ho
      have d8 := hd { on := 7, ground := .data } (by simp) (by rfl)
      have d6 := hd { on := 5, ground := .data } (by simp) (by rfl)
      have hz := h.z8 d8 hp
      obtain ⟨A1, n1, c1, b1, x1, A2, n2, c2, y1, A3, n3, c3, rfl⟩ := h.g5 d6
      exact wp_store_row 146 (.tmp 6) (.tmp 14) rfl Y _ (h.f8 d8) (h.f5 d6) 146 _ hz (by kernel_rfl) rfl (by simp [Value.oneCell']) ⟨X, Y, Ay, k, _, h.s9 (hS _ (by rfl)) hp (grown_row wr Y _) (h.bel.grown (grown_row wr Y _) hB (fun q e => by injection e with e; subst e; exact (h.g8 d8).1)) hB d6 d8 (setRow_heap _ _ _ _ _ _ hz)⟩
  · rintro L a w2 hs ⟨X, Y, Ay, k, cs, h⟩ hr
    have hall := ready_all (by kernel_rfl) hs hr
    have hx := h.x7 (hall 8 (by decide))
    have hy := h.x8 (hall 9 (by decide))
    have h5 := h.f7 (hall 6 (by decide))
    have h6 := h.f8 (hall 7 (by decide))
    obtain ⟨A1, n1, c1, b1, x1, A2, n2, c2, y1, A3, n3, c3, rfl⟩ := h.g5 (hall 5 (by decide))
    have hv := h.g2 (hall 2 (by decide))
    have hwz : w2.heap[w.heap.size]? = _ := (h.bel.block w.heap.size hz0).trans HX0.out
    have HB2 := Lib.hid (HB0.out.trans (((Below.refl w1.heap.size w1).drew.trans h.bel).mono HB0.out.size))
    have HV : Hid (ValsIn w2 (fresh w w2) (ks.map Kd.n) Ay) := Lib.hid (hv.keep (fun _ _ _ => rfl) (fun b hb => ⟨by have h1 : w1.heap.size ≤ b := hb.1; have := HB0.out.size; omega, hb.2.1⟩))
    have e := h.agree.eq
    rw [e]
    simp only [List.foldr_cons, List.foldr_nil, h5, h6]
    generalize a.tmps.getD 9 undef = q9
    generalize a.tmps.getD 10 undef = q10
    generalize a.tmps.getD 11 undef = q11
    generalize a.tmps.getD 12 undef = q12
    generalize a.tmps.getD 13 undef = q13
    generalize a.tmps.getD 14 undef = q14
    generalize a.tmps.getD 15 undef = q15
    have hxl := lt_of_block hx
    have hyl := lt_of_block hy
    have hzl := lt_of_block hwz
    have xc := fun j => show w2.cell? ⟨X, j, none⟩ = (#[.string ⟨#[108, 105, 115, 116, 46, 109, 97, 112]⟩, .int .i64 0, .string s, .slice Ay (ks.map Kd.n).length k] : Array Value)[j]? by simp [World.cell?, hx, MkC.lay]
    have yc := fun j => show w2.cell? ⟨Y, j, none⟩ = (#[.slice A1 n1 c1, .bool b1, .string x1, .slice A2 n2 c2, .string y1, .slice A3 n3 c3] : Array Value)[j]? by simp [World.cell?, hy]
    have zc := fun j => show w2.cell? ⟨w.heap.size, j, none⟩ = (#[.string ⟨#[108, 105, 115, 116, 46, 109, 97, 112]⟩, .int .i64 0, .string s, .slice none 0 0] : Array Value)[j]? by simp [World.cell?, hwz]
    have hmf : ∀ (fn : Fn) (first cap : Array Value) (w : World), (Instr.makeFunc fn first cap).run Tryz.prog w = .ok (.func fn first cap) w := fun _ _ _ _ => rfl
    have hstf : ∀ (a : Addr) (F : FuncId) (cap : Array Value) (w : World), (store a (.func (.func F) #[] cap)).run Tryz.prog w = stored Tryz.prog w a (.func (.func F) #[] cap) .plain := fun a F cap w => run_store Tryz.prog w a _ .plain rfl
    clear hx hy hv hwz e h hall h5 h6 hr hs KL
    have HE := Lib.hid (fun (w3 : World) (nb : Nat) (X : Obj) (T : TypeId) (h23 : Below w2.heap.size w2 w3) (hn : w2.heap.size ≤ nb) (n : Nat) => mk_end (X := X) (n := n) (kind := ⟨#[108, 105, 115, 116, 46, 109, 97, 112]⟩) (s := s) (k := k) (T := T) (nb := nb) (w3 := w3) HB2.out h23 HV.out hn)
    rw [List.length_map] at xc HE
    go_wp2_with fail
    refine (node_Of _ _ _).mono ?_
    rintro e w3 ⟨rfl, rfl⟩
    go_wp2
    go_ret
    exact HE.out _ _ _ _ (Below.alloc (Below.alloc (Below.alloc (Below.refl _ _) (Nat.le_refl _) _) (by rw [size_alloc]; omega) _) (by rw [size_alloc, size_alloc]; omega) _) (Nat.le_add_right _ 2) _ (by rw [size_alloc, size_alloc, size_alloc]) (heap_at' (by rw [size_alloc, size_alloc])) ⟨_, _, rfl⟩
end Go.Proofs.YtcldbjgikkfnbaaGreatDoor
