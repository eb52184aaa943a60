/-
  Texts of a proof in one: PlFits, TwOwn, PlSits. Conditions: each names its own.
-/
import Derived.Test.YthjpphojddbbmaaGreatDoorCPlMarks
import Derived.Test.YthjpphojddbbmaaGreatDoorCBase
/-
  espalierlaw2.Fits: of a fault, of a value without lists: walks. Conditions: none.
-/
namespace Go.Proofs.YthjpphojddbbmaaGreatDoor
open Go.RowKit
set_option linter.unusedVariables false

mutual
/-- The plain form of a value. -/
def Vl.toPl : Vl → Pl
  | .unit => .mk 1 0 ⟨#[]⟩ []
  | .truth b => .mk 2 (if b then 1 else 0) ⟨#[]⟩ []
  | .int n => .mk 3 n ⟨#[]⟩ []
  | .text s => .mk 4 0 s []
  | .list l => .mk 5 0 ⟨#[]⟩ (Vls.toPl l)
def Vls.toPl : List Vl → List Pl
  | [] => []
  | x :: xs => x.toPl :: Vls.toPl xs
end
def Vl.isList : Vl → Bool
  | .list _ => true
  | _ => false
theorem res_cell_tmp {P : Program} {fn : Func} {p q : Tmp} {ty : TypeId} (h : fn.results = #[.cell p ty, .tmp q]) {tmps : Array Value} {a : Addr} (ht : tmps.getD p undef = .pointer (some a)) {w : World} {v u : Value} (hl : (loadVar ty a).run P w = .ok v w) (hu : tmps.getD q undef = u) :
    (results fn tmps).run P w = .ok (.tuple #[v, u]) w := by
  unfold results
  simp only [h]
  have ht' : tmps[p]?.getD undef = .pointer (some a) := by simpa using ht
  have hu' : tmps[q]?.getD undef = u := by simpa using hu
  simp [ht', hu', asAddr, hl]
theorem pf_as_Unit (s : Value) (w : World) : (Instr.typeAssert (.iface 157 s) 29 157 true).run Tryz.prog w = .ok (.tuple #[s, .bool true]) w := run_assert_hit Tryz.underlying157 rfl _ w
theorem pf_no_Unit (t : TypeId) (v : Value) (h : t ≠ 157) (w : World) : (Instr.typeAssert (.iface t v) 29 157 true).run Tryz.prog w = .ok (.tuple #[.agg #[], .bool false]) w :=
  run_assert_miss Tryz.underlying157 rfl (fun w => by kernel_rfl) h _ w
theorem pf_as_Truth (s : Value) (w : World) : (Instr.typeAssert (.iface 47 s) 29 47 true).run Tryz.prog w = .ok (.tuple #[s, .bool true]) w := run_assert_hit Tryz.underlying47 rfl _ w
theorem pf_no_Truth (t : TypeId) (v : Value) (h : t ≠ 47) (w : World) : (Instr.typeAssert (.iface t v) 29 47 true).run Tryz.prog w = .ok (.tuple #[.bool false, .bool false]) w :=
  run_assert_miss Tryz.underlying47 rfl (fun w => by kernel_rfl) h _ w
theorem pf_as_Int (s : Value) (w : World) : (Instr.typeAssert (.iface 75 s) 29 75 true).run Tryz.prog w = .ok (.tuple #[s, .bool true]) w := run_assert_hit Tryz.underlying75 rfl _ w
theorem pf_no_Int (t : TypeId) (v : Value) (h : t ≠ 75) (w : World) : (Instr.typeAssert (.iface t v) 29 75 true).run Tryz.prog w = .ok (.tuple #[.int .i64 0, .bool false]) w :=
  run_assert_miss Tryz.underlying75 rfl (fun w => by kernel_rfl) h _ w
theorem pf_as_Text (s : Value) (w : World) : (Instr.typeAssert (.iface 77 s) 29 77 true).run Tryz.prog w = .ok (.tuple #[s, .bool true]) w := run_assert_hit Tryz.underlying77 rfl _ w
theorem pf_no_Text (t : TypeId) (v : Value) (h : t ≠ 77) (w : World) : (Instr.typeAssert (.iface t v) 29 77 true).run Tryz.prog w = .ok (.tuple #[.string ⟨#[]⟩, .bool false]) w :=
  run_assert_miss Tryz.underlying77 rfl (fun w => by kernel_rfl) h _ w
theorem pf_as_List (s : Value) (w : World) : (Instr.typeAssert (.iface 158 s) 29 158 true).run Tryz.prog w = .ok (.tuple #[s, .bool true]) w := run_assert_hit Tryz.underlying158 rfl _ w
theorem pf_no_List (t : TypeId) (v : Value) (h : t ≠ 158) (w : World) : (Instr.typeAssert (.iface t v) 29 158 true).run Tryz.prog w = .ok (.tuple #[.slice none 0 0, .bool false]) w :=
  run_assert_miss Tryz.underlying158 rfl (fun w => by kernel_rfl) h _ w
/-- What 'plain' leaves, of a value without lists. -/
def PlainOne (x : Vl) (b : Nat) (m : Int) (w : World) (e : Ending) (w' : World) : Prop :=
  e = .returned (.tuple #[x.toPl.arg none 0, .bool true]) ∧ w'.heap[b]? = some (.cells #[.int .i64 (m + 1)] 3 (0, 0)) ∧ w.grownBy w' (some b)
theorem made_at (w : World) (p : Addr) (v : Value) (X : Obj) : ((w.setCell p v).alloc X).heap[w.heap.size]? = some X := by
  have := heap_alloc_new (w.setCell p v) X
  rwa [size_set] at this
theorem made_at2 (w : World) (p : Addr) (v : Value) (X Y : Obj) : (((w.setCell p v).alloc X).alloc Y).heap[w.heap.size]? = some X := by
  rw [Below.heap_alloc _ _ _ (by rw [size_alloc, size_set]; omega)]; exact made_at w p v X
theorem plain_end {w : World} {b : Nat} {m : Int} (h : w.heap[b]? = some (.cells #[.int .i64 m] 3 (0, 0))) (X : Obj) :
    ((w.setCell ⟨b, 0, none⟩ (.int .i64 (m + 1))).alloc X).heap[b]? = some (.cells #[.int .i64 (m + 1)] 3 (0, 0)) ∧ w.grownBy ((w.setCell ⟨b, 0, none⟩ (.int .i64 (m + 1))).alloc X) (some b) := by
  have hlt := lt_of_block h
  refine ⟨?_, rfl, rfl, rfl, by rw [size_alloc, size_set]; omega, fun k hk hne => ?_⟩
  · rw [Below.heap_alloc _ _ _ (by rw [size_set]; exact hlt)]; exact one_setCell h
  · rw [Below.heap_alloc _ _ _ (by rw [size_set]; exact hk), Below.heap_setCell _ _ _ _ (fun e => hne (by rw [e]))]
theorem plain_end2 {w : World} {b : Nat} {m : Int} (h : w.heap[b]? = some (.cells #[.int .i64 m] 3 (0, 0))) (X Y : Obj) :
    (((w.setCell ⟨b, 0, none⟩ (.int .i64 (m + 1))).alloc X).alloc Y).heap[b]? = some (.cells #[.int .i64 (m + 1)] 3 (0, 0)) ∧ w.grownBy (((w.setCell ⟨b, 0, none⟩ (.int .i64 (m + 1))).alloc X).alloc Y) (some b) := by
  have hlt := lt_of_block h
  obtain ⟨h1, h2⟩ := plain_end h X
  refine ⟨?_, rfl, rfl, rfl, by rw [size_alloc, size_alloc, size_set]; omega, fun k hk hne => ?_⟩
  · rw [Below.heap_alloc _ _ _ (by rw [size_alloc, size_set]; omega)]; exact h1
  · rw [Below.heap_alloc _ _ _ (by rw [size_alloc, size_set]; omega)]; exact h2.block k hk hne
set_option maxRecDepth 100000 in
set_option maxHeartbeats 4000000 in
theorem plain_one (x : Vl) (hx : x.isList = false) (v : Value) (S : Nat → Prop) (b : Nat) (m deep : Int) (w : World) (hv : x.is w S v) (hb : w.heap[b]? = some (.cells #[.int .i64 m] 3 (0, 0))) (hm0 : 0 ≤ m) (hm1 : m < 70000) (hd0 : 0 ≤ deep) (hd1 : deep ≤ 70) :
    Calls Tryz.prog 115 #[v, .pointer (some ⟨b, 0, none⟩), .int .i64 deep] w (PlainOne x b m w) := by
  have hc := cell_of_one hb
  have hf := free_of_one hb
  have hbl := lt_of_block hb
  cases x with
  | list l => cases hx
  | unit =>
    unfold Vl.is at hv
    subst hv
    have ha := pf_as_Unit (.agg #[])
    go_enter Tryz.func115, Tryz.ntmps115
    go_wp2
    exact bodyPost_ret (fn := Tryz.f115) (v := .tuple #[_, .bool true]) (res_cell_tmp (p := 6) (q := 7) (ty := 34) (a := ⟨w.heap.size, 0, none⟩) Tryz.results115 rfl (run_loadVar_row (P := Tryz.prog) _ _ _ 34 _ _ _ (made_at2 _ _ _ _ _) Tryz.underlying34 rfl (by kernel_rfl)) rfl) rfl ⟨rfl, plain_end2 hb _ _⟩
  | truth q =>
    unfold Vl.is at hv
    subst hv
    have hnUnit := pf_no_Unit 47 (.bool q) (by decide)
    have ha := pf_as_Truth (.bool q)
    cases q
    all_goals
      go_enter Tryz.func115, Tryz.ntmps115
      go_wp2
      exact bodyPost_ret (fn := Tryz.f115) (v := .tuple #[_, .bool true]) (res_cell_tmp (p := 6) (q := 7) (ty := 34) (a := ⟨w.heap.size, 0, none⟩) Tryz.results115 rfl (run_loadVar_row (P := Tryz.prog) _ _ _ 34 _ _ _ (made_at2 _ _ _ _ _) Tryz.underlying34 rfl (by kernel_rfl)) rfl) rfl ⟨rfl, plain_end2 hb _ _⟩
  | int n =>
    unfold Vl.is at hv
    subst hv
    have hnUnit := pf_no_Unit 75 (.int .i64 n) (by decide)
    have hnTruth := pf_no_Truth 75 (.int .i64 n) (by decide)
    have ha := pf_as_Int (.int .i64 n)
    go_enter Tryz.func115, Tryz.ntmps115
    go_wp2
    exact bodyPost_ret (fn := Tryz.f115) (v := .tuple #[_, .bool true]) (res_cell_tmp (p := 6) (q := 7) (ty := 34) (a := ⟨w.heap.size, 0, none⟩) Tryz.results115 rfl (run_loadVar_row (P := Tryz.prog) _ _ _ 34 _ _ _ (made_at _ _ _ _) Tryz.underlying34 rfl (by kernel_rfl)) rfl) rfl ⟨rfl, plain_end hb _⟩
  | text s =>
    unfold Vl.is at hv
    subst hv
    have hnUnit := pf_no_Unit 77 (.string s) (by decide)
    have hnTruth := pf_no_Truth 77 (.string s) (by decide)
    have hnInt := pf_no_Int 77 (.string s) (by decide)
    have ha := pf_as_Text (.string s)
    go_enter Tryz.func115, Tryz.ntmps115
    go_wp2
    exact bodyPost_ret (fn := Tryz.f115) (v := .tuple #[_, .bool true]) (res_cell_tmp (p := 6) (q := 7) (ty := 34) (a := ⟨w.heap.size, 0, none⟩) Tryz.results115 rfl (run_loadVar_row (P := Tryz.prog) _ _ _ 34 _ _ _ (made_at _ _ _ _) Tryz.underlying34 rfl (by kernel_rfl)) rfl) rfl ⟨rfl, plain_end hb _⟩
set_option maxRecDepth 100000 in
set_option maxHeartbeats 4000000 in
theorem law2_Plain_one (x : Vl) (hx : x.isList = false) (v : Value) (S : Nat → Prop) (w : World) (hv : x.is w S v) :
    Calls Tryz.prog 86 #[v] w (Bel (.tuple #[x.toPl.arg none 0, .bool true]) w) := by
  have K := fun w1 (h : w1.heap[w.heap.size + 1]? = some (.cells #[.int .i64 0] 3 (0, 0))) => plain_one x hx v (fun _ => True) (w.heap.size + 1) 0 0 w1 (by cases x <;> simp_all [Vl.is, Vl.isList]) h (by omega) (by omega) (by omega) (by omega)
  have HK := Lib.hid K
  clear K hv
  obtain ⟨k, n, t, l, hp⟩ : ∃ k n t l, x.toPl.arg none 0 = .agg #[.int .i64 k, .int .i64 n, .string t, .slice none l 0] := ⟨_, _, _, _, rfl⟩
  have HP := Lib.hid hp
  rw [hp]
  clear hp
  go_enter Tryz.func86, Tryz.ntmps86
  go_wp2_with fail
  refine (HK.out _ (heap_alloc2 w _ _).2).mono ?_
  rintro e w2 ⟨he, hb2, hg⟩
  rw [HP.out] at he
  subst he
  have hx0 : w2.heap[w.heap.size]? = _ := (hg.block w.heap.size (by simp; omega) (fun e => by injection e with e; omega)).trans (heap_alloc2 w _ _).1
  have HX0 := Lib.hid hx0
  have f0 : ∀ j, w2.cell? ⟨w.heap.size, j, none⟩ = (#[.int .i64 0, .int .i64 0, .string ⟨#[]⟩, .slice none 0 0] : Array Value)[j]? := fun j => by simp [World.cell?, hx0]
  have g0 : ∀ j, w2.frozen? ⟨w.heap.size, j, none⟩ = false := fun j => by simp [World.frozen?, hx0]
  have HB2 := Lib.hid ((((Below.refl w.heap.size w).alloc (Nat.le_refl _) (.cells #[.int .i64 0, .int .i64 0, .string ⟨#[]⟩, .slice none 0 0] 34)).alloc (by simp) (.cells #[.int .i64 0] 3)).grown hg (by simp; omega) (by intro k hk; injection hk with hk; omega))
  clear hx0 hb2 hg HK
  go_wp2
  refine bodyPost_ret (fn := Tryz.f86) (v := .tuple #[.agg #[.int .i64 k, .int .i64 n, .string t, .slice none l 0], .bool true]) (res_cell_tmp (p := 2) (q := 3) (ty := 34) (a := ⟨w.heap.size, 0, none⟩) Tryz.results86 rfl (run_loadVar_row (P := Tryz.prog) _ _ _ 34 _ _ _ (blk_set (blk_set (blk_set (blk_set HX0.out 0 (.int .i64 k)) 1 (.int .i64 n)) 2 (.string t)) 3 (.slice none l 0)) Tryz.underlying34 rfl (by kernel_rfl)) rfl) rfl ⟨rfl, ?_⟩
  exact (((HB2.out.setCell (p := ⟨w.heap.size, 0, none⟩) (Nat.le_refl _) _).setCell (p := ⟨w.heap.size, 1, none⟩) (Nat.le_refl _) _).setCell (p := ⟨w.heap.size, 2, none⟩) (Nat.le_refl _) _).setCell (p := ⟨w.heap.size, 3, none⟩) (Nat.le_refl _) _
theorem toPl_list {x : Vl} (hx : x.isList = false) : x.toPl.list = [] := by cases x <;> simp_all [Vl.isList, Vl.toPl, Pl.list]
theorem toPl_sane {x : Vl} (hx : x.isList = false) (hf : x.fine) : x.toPl.sane := by
  refine ⟨?_, ?_, ?_, by rw [toPl_list hx]; simp⟩
  · cases x <;> simp_all [Vl.isList, Vl.toPl, Pl.kind] <;> decide
  · cases x with
    | truth b => cases b <;> decide
    | int n => exact hf
    | list l => cases hx
    | _ => exact (by decide : rng 0 = true)
  · cases x with
    | text s => exact hf
    | list l => cases hx
    | _ => show (0 : Nat) ≤ _; omega
set_option maxRecDepth 100000 in
set_option maxHeartbeats 4000000 in
theorem law2_Is_one (x : Vl) (hx : x.isList = false) (hf : x.fine) (v : Value) (S : Nat → Prop) (w : World) (hv : x.is w S v) (A : Option Addr) (c : Nat) :
    Calls Tryz.prog 65 #[v, x.toPl.arg A c] w (Bel (.bool true) w) := by
  have KP := Lib.hid (fun w1 => law2_Plain_one x hx v (fun _ => True) w1 (by cases x <;> simp_all [Vl.is, Vl.isList]))
  have hl0 : ∀ w1 B A1, Pls.lies w1 B x.toPl.list A1 := fun w1 B A1 => by rw [toPl_list hx]; unfold Pls.lies; trivial
  have KE := Lib.hid (fun w1 => law2_Eq x.toPl none A 0 c w1 (toPl_sane hx hf) (hl0 _ _ _) (hl0 _ _ _))
  clear hv hl0
  obtain ⟨k, n, t, l, hp⟩ : ∃ k n t l, ∀ A c, x.toPl.arg A c = .agg #[.int .i64 k, .int .i64 n, .string t, .slice A l c] := ⟨_, _, _, _, fun _ _ => rfl⟩
  simp only [hp] at KP KE ⊢
  clear hp
  go_enter Tryz.func65, Tryz.ntmps65
  go_wp2_with fail
  refine (KP.out _).mono ?_
  rintro e w1 ⟨rfl, hb⟩
  have HB1 := Lib.hid (((Below.refl w.heap.size w).alloc (Nat.le_refl _) (.cells #[.int .i64 k, .int .i64 n, .string t, .slice A l c] 34)).trans (hb.mono (by simp)))
  have hx0 : w1.heap[w.heap.size]? = _ := (hb.block w.heap.size (by simp)).trans (heap_alloc_new w (.cells #[.int .i64 k, .int .i64 n, .string t, .slice A l c] 34))
  have hxl := lt_of_block hx0
  have f0 : ∀ j, w1.cell? ⟨w.heap.size, j, none⟩ = (#[.int .i64 k, .int .i64 n, .string t, .slice A l c] : Array Value)[j]? := fun j => by simp [World.cell?, hx0]
  clear hb hx0
  go_wp2_with fail
  refine (KE.out _).mono ?_
  rintro e w2 ⟨rfl, hb⟩
  have HB2 := Lib.hid ((HB1.out.alloc HB1.out.size (.cells #[.int .i64 k, .int .i64 n, .string t, .slice none l 0] 34)).trans (hb.mono (by have := HB1.out.size; simp; omega)))
  clear hb
  go_wp2
  go_ret
  exact ⟨rfl, HB2.out⟩
set_option maxRecDepth 100000 in
theorem law2_Fits_one (x : Vl) (hx : x.isList = false) (hf : x.fine) (v : Value) (S : Nat → Prop) (w : World) (hv : x.is w S v) (A : Option Addr) (c : Nat) :
    Calls Tryz.prog 31 #[v, .int .i64 0, x.toPl.arg A c, .int .i64 0] w (Bel (.bool true) w) := by
  have KI := Lib.hid (fun w1 => law2_Is_one x hx hf v (fun _ => True) w1 (by cases x <;> simp_all [Vl.is, Vl.isList]) A c)
  clear hv
  obtain ⟨k, n, t, l, hp⟩ : ∃ k n t l, ∀ A c, x.toPl.arg A c = .agg #[.int .i64 k, .int .i64 n, .string t, .slice A l c] := ⟨_, _, _, _, fun _ _ => rfl⟩
  simp only [hp] at KI ⊢
  clear hp
  go_enter Tryz.func31, Tryz.ntmps31
  go_wp2_with fail
  refine (KI.out _).mono ?_
  rintro e w1 ⟨rfl, hb⟩
  have HB1 := Lib.hid (((Below.refl w.heap.size w).alloc (Nat.le_refl _) (.cells #[.int .i64 k, .int .i64 n, .string t, .slice A l c] 34)).trans (hb.mono (by simp)))
  clear hb
  go_wp2
  go_ret
  exact ⟨rfl, HB1.out⟩
set_option maxRecDepth 100000 in
theorem law2_Fits_fault (e : Int) (he : e ≠ 0) (p : Pl) (w : World) (A : Option Addr) (c : Nat) :
    Calls Tryz.prog 31 #[.nilIface, .int .i64 e, p.arg A c, .int .i64 e] w (Bel (.bool true) w) := by
  have HB0 := Lib.hid ((Below.refl w.heap.size w).alloc (Nat.le_refl _) (.cells #[.int .i64 p.kind, .int .i64 p.num, .string p.text, .slice A p.list.length c] 34))
  have hb : (e != 0) = true := by simpa using he
  have hnil : ∀ w, (binOp .eql 29 .nilIface .nilIface).run Tryz.prog w = .ok (.bool true) w := fun _ => rfl
  unfold Pl.arg
  clear he
  go_enter Tryz.func31, Tryz.ntmps31
  go_wp2
  go_ret
  exact ⟨rfl, HB0.out⟩
end Go.Proofs.YthjpphojddbbmaaGreatDoor

/-
  Twins that a call owns, in a row of its own. Conditions: none.
-/
namespace Go.Proofs.YthjpphojddbbmaaGreatDoor
open Go.RowKit
set_option linter.unusedVariables false

/-- A light one: in memory of its own, with marks; a heavy one: where it was. -/
def TwEl (w0 : Nat) (w : World) (S : Nat → Prop) (x : PlAt) : Prop := x.p.sane ∧ (x.p.isLight = true → Marked w S x.p.list x.A x.c) ∧ (x.p.isLight = false → Pls.lies w w0 x.p.list x.A)
theorem TwEl.keep {w0 : Nat} {w w' : World} {S S' : Nat → Prop} {x : PlAt} (h : TwEl w0 w S x) (h0 : ∀ b o, b < w0 → w'.cell? ⟨b, o, none⟩ = w.cell? ⟨b, o, none⟩) (hk : ∀ b o, S b → w'.cell? ⟨b, o, none⟩ = w.cell? ⟨b, o, none⟩) (hS : ∀ b, S b → S' b) : TwEl w0 w' S' x :=
  ⟨h.1, fun hl => (h.2.1 hl).keep hk hS, fun hl => (h.2.2 hl).keep h0 (Nat.le_refl _)⟩
theorem TwEl.lies {w0 : Nat} {w : World} {S : Nat → Prop} {x : PlAt} {B : Nat} (h : TwEl w0 w S x) (hB : w0 ≤ B) (hS : ∀ b, S b → b < B) : Pls.lies w B x.p.list x.A := by
  cases hl : x.p.isLight
  · exact (h.2.2 hl).keep (fun _ _ _ => rfl) hB
  · exact (h.2.1 hl).lies hS
structure TwOwn (w0 : Nat) (w : World) (v : Value) (us : List PlAt) : Prop where
  own : w.ownsRow w0 34 4 v us.length (us.flatMap PlAt.cells)
  els : ∀ x ∈ us, TwEl w0 w (fun b => w0 ≤ b ∧ b < w.heap.size ∧ v.ownBlock ≠ some b) x
theorem TwOwn.nil (w0 : Nat) (w : World) : TwOwn w0 w (.slice none 0 0) [] := ⟨World.ownsRow_nil _ _ _ _, fun x h => absurd h (List.not_mem_nil)⟩
theorem TwOwn.step {w0 : Nat} {w5 w6 w7 : World} {v : Value} {us : List PlAt} (h : TwOwn w0 w5 v us) (x : PlAt) (hB : w0 ≤ w5.heap.size) {g cap : Nat} {Y : Obj}
    (hb6 : Below w5.heap.size w5 w6) (hx : TwEl w0 w6 (fresh w5 w6) x) (hgrow : (w6.alloc Y).grownBy w7 v.ownBlock) (hat : v.ownBlock = some g ∨ g = w6.heap.size + 1)
    (hown : w7.ownsRow w0 34 4 (.slice (some ⟨g, 0, none⟩) (us.length + 1) cap) (us.length + 1) (us.flatMap PlAt.cells ++ x.cells)) :
    TwOwn w0 w7 (.slice (some ⟨g, 0, none⟩) (us.length + 1) cap) (us ++ [x]) := by
  have hs6 := hb6.size
  have hs7 := hgrow.size
  rw [size_alloc] at hs7
  have blk6 : ∀ b, b < w6.heap.size → v.ownBlock ≠ some b → w7.heap[b]? = w6.heap[b]? := fun b hb hne => by
    rw [hgrow.block b (by rw [size_alloc]; omega) (Ne.symm hne), Below.heap_alloc _ _ _ (by omega)]
  have hvlt : ∀ b, v.ownBlock = some b → w0 ≤ b ∧ b < w5.heap.size := fun b e => h.own.lt b e
  have hlate : ∀ b, b < w6.heap.size → v.ownBlock ≠ some b → ∀ o, w7.cell? ⟨b, o, none⟩ = w6.cell? ⟨b, o, none⟩ := fun b h2 h3 o => World.cell?_of_block (a := ⟨b, o, none⟩) (blk6 b h2 h3)
  have hold : ∀ b o, b < w0 → w7.cell? ⟨b, o, none⟩ = w6.cell? ⟨b, o, none⟩ := fun b o hb => hlate b (by omega) (fun e => by have := (hvlt b e).1; omega) o
  refine ⟨?_, fun y hy => ?_⟩
  · have : (us ++ [x]).flatMap PlAt.cells = us.flatMap PlAt.cells ++ x.cells := by simp
    rw [this, List.length_append]
    exact hown
  · rcases List.mem_append.1 hy with hy | hy
    · refine (h.els y hy).keep (fun b o hb => by rw [hold b o hb]; exact hb6.cell (p := ⟨b, o, none⟩) (by show b < _; omega)) (fun b o hs => ?_) (fun b hs => ⟨hs.1, by have := hs.2.1; omega, ?_⟩)
      · rw [hlate b (by have := hs.2.1; omega) hs.2.2]
        exact hb6.cell (p := ⟨b, o, none⟩) hs.2.1
      · rcases hat with e | e
        · have := hs.2.2; rw [e] at this; exact this
        · intro e'; injection e' with e'; have := hs.2.1; have e'' : g = b := e'; omega
    · rw [List.mem_singleton] at hy
      subst hy
      refine hx.keep hold (fun b o hs => hlate b hs.2 (fun e => by have := (hvlt b e).2; have := hs.1; omega) o) (fun b hs => ⟨by have := hs.1; omega, by have := hs.2; omega, ?_⟩)
      intro e'; injection e' with e'
      have e'' : g = b := e'
      have := hs.1; have := hs.2
      rcases hat with e | e
      · have := (hvlt g e).2; omega
      · omega
theorem TwOwn.below {w0 : Nat} {w w' : World} {v : Value} {us : List PlAt} (h : TwOwn w0 w v us) (hb : Below w.heap.size w w') (h0 : w0 ≤ w.heap.size) : TwOwn w0 w' v us :=
  ⟨own_below h.own hb, fun x hx => (h.els x hx).keep (fun b o hb' => hb.cell (p := ⟨b, o, none⟩) (by show b < _; omega)) (fun b o hs => hb.cell (p := ⟨b, o, none⟩) hs.2.1) (fun b hs => ⟨hs.1, Nat.lt_of_lt_of_le hs.2.1 hb.size, hs.2.2⟩)⟩
/-- Its slice, and what lies there. -/
theorem TwOwn.slice {w0 : Nat} {w : World} {v : Value} {us : List PlAt} (h : TwOwn w0 w v us) : ∃ A c, v = .slice A us.length c ∧ (0 < us.length → ∃ g, A = some ⟨g, 0, none⟩ ∧ g < w.heap.size ∧ ∀ k (hk : k < us.length) j u, us[k].cells[j]? = some u → w.cell? ⟨g, k * 4 + j, none⟩ = some u) := by
  rcases h.own.2 with ⟨e, h2⟩ | ⟨g, cap, cur, e, _⟩
  · exact ⟨none, 0, by rw [e, h2], fun h => by omega⟩
  · subst e
    have hlt := h.own.lt g rfl
    refine ⟨_, _, rfl, fun hl => ⟨g, rfl, hlt.2, fun k hk j u hj => ?_⟩⟩
    have hj4 : j < 4 := by
      rcases Nat.lt_or_ge j 4 with h | h
      · exact h
      · rw [List.getElem?_eq_none (by exact h)] at hj; cases hj
    rw [h.own.cellAt (k * 4 + j) (by omega), plat_flat us k hk j hj4]
    exact hj
theorem plies_of {w : World} {B b : Nat} (hb : b < B) : ∀ (us : List PlAt) (o : Nat), (∀ k (hk : k < us.length) j u, us[k].cells[j]? = some u → w.cell? ⟨b, o + (k * 4 + j), none⟩ = some u) → (∀ x ∈ us, x.p.sane ∧ Pls.lies w B x.p.list x.A) → Pls.lies w B (us.map PlAt.p) (some ⟨b, o, none⟩)
  | [], _, _, _ => by unfold List.map Pls.lies; trivial
  | x :: us, o, hc, hx => by
    unfold List.map Pls.lies
    obtain ⟨hs, hl⟩ := hx x (by simp)
    refine ⟨b, o, rfl, ?_, plies_of hb us (o + 4) (fun k hk j u hj => ?_) (fun y hy => hx y (by simp [hy]))⟩
    · have h0 : ∀ j u, x.cells[j]? = some u → w.cell? ⟨b, o + j, none⟩ = some u := fun j u hj => by
        have := hc 0 (by simp) j u (by simpa using hj)
        rwa [Nat.zero_mul, Nat.zero_add] at this
      obtain ⟨⟨k, n, t, l⟩, A, c⟩ := x
      unfold Pl.lies
      exact ⟨hb, h0 0 _ rfl, h0 1 _ rfl, h0 2 _ rfl, hs.1, hs.2.1, hs.2.2.1, hs.2.2.2, A, c, h0 3 _ rfl, hl⟩
    · rw [show o + 4 + (k * 4 + j) = o + ((k + 1) * 4 + j) by omega]
      exact hc (k + 1) (by simpa using hk) j u (by simpa using hj)
/-- All of them lie there as plain values. -/
theorem TwOwn.lies {w0 : Nat} {w : World} {v : Value} {us : List PlAt} {A : Option Addr} {c : Nat} (h : TwOwn w0 w v us) (h0 : w0 ≤ w.heap.size) (e : v = .slice A us.length c) : Pls.lies w w.heap.size (us.map PlAt.p) A := by
  obtain ⟨A', c', e', hx⟩ := h.slice
  rw [e] at e'
  injection e' with e1 _ e2
  subst e1
  by_cases hn : 0 < us.length
  · obtain ⟨g, rfl, hg, hc⟩ := hx hn
    exact plies_of hg us 0 (fun k hk j u hj => by rw [Nat.zero_add]; exact hc k hk j u hj) (fun x hx => ⟨(h.els x hx).1, (h.els x hx).lies h0 (fun b hs => hs.2.1)⟩)
  · have : us = [] := List.eq_nil_of_length_eq_zero (by omega)
    subst this
    unfold List.map Pls.lies; trivial
end Go.Proofs.YthjpphojddbbmaaGreatDoor

/-
  Plain values in blocks of a set; a row of them of one's own; counts and depths of values. Plain. Conditions: none.
-/
namespace Go.Proofs.YthjpphojddbbmaaGreatDoor
open Go.RowKit
set_option linter.unusedVariables false

mutual
/-- Its four cells lie at a place of a block of S, and so on down. -/
def Pl.sits (w : World) (S : Nat → Prop) : Pl → Nat → Nat → Prop
  | .mk k n t l, b, o => S b ∧ w.cell? ⟨b, o, none⟩ = some (.int .i64 k) ∧ w.cell? ⟨b, o + 1, none⟩ = some (.int .i64 n) ∧ w.cell? ⟨b, o + 2, none⟩ = some (.string t) ∧
      rng k = true ∧ rng n = true ∧ t.size ≤ 140737488351232 ∧ l.length * 56 ≤ 140737488351232 ∧ ∃ A c, w.cell? ⟨b, o + 3, none⟩ = some (.slice A l.length c) ∧ Pls.sits w S l A
def Pls.sits (w : World) (S : Nat → Prop) : List Pl → Option Addr → Prop
  | [], _ => True
  | p :: ps, A => ∃ b o, A = some ⟨b, o, none⟩ ∧ Pl.sits w S p b o ∧ Pls.sits w S ps (some ⟨b, o + 4, none⟩)
end
mutual
theorem Pl.sits.keep {w w' : World} {S S' : Nat → Prop} (hk : ∀ b o, S b → w'.cell? ⟨b, o, none⟩ = w.cell? ⟨b, o, none⟩) (hS : ∀ b, S b → S' b) : ∀ (p : Pl) (b o : Nat), p.sits w S b o → p.sits w' S' b o
  | .mk k n t l, b, o, h => by
    unfold Pl.sits at h ⊢
    obtain ⟨h0, h1, h2, h3, h4, h5, h6, h7, A, c, h8, h9⟩ := h
    exact ⟨hS _ h0, (hk _ _ h0).trans h1, (hk _ _ h0).trans h2, (hk _ _ h0).trans h3, h4, h5, h6, h7, A, c, (hk _ _ h0).trans h8, Pls.sits.keep hk hS l A h9⟩
theorem Pls.sits.keep {w w' : World} {S S' : Nat → Prop} (hk : ∀ b o, S b → w'.cell? ⟨b, o, none⟩ = w.cell? ⟨b, o, none⟩) (hS : ∀ b, S b → S' b) : ∀ (l : List Pl) (A : Option Addr), Pls.sits w S l A → Pls.sits w' S' l A
  | [], _, _ => by unfold Pls.sits; trivial
  | p :: ps, A, h => by
    unfold Pls.sits at h ⊢
    obtain ⟨b, o, e, h1, h2⟩ := h
    exact ⟨b, o, e, Pl.sits.keep hk hS p b o h1, Pls.sits.keep hk hS ps _ h2⟩
end
mutual
theorem Pl.sits.lies {w : World} {S : Nat → Prop} {B : Nat} (hS : ∀ b, S b → b < B) : ∀ (p : Pl) (b o : Nat), p.sits w S b o → p.lies w B b o
  | .mk k n t l, b, o, h => by
    unfold Pl.sits at h
    unfold Pl.lies
    obtain ⟨h0, h1, h2, h3, h4, h5, h6, h7, A, c, h8, h9⟩ := h
    exact ⟨hS _ h0, h1, h2, h3, h4, h5, h6, h7, A, c, h8, Pls.sits.lies hS l A h9⟩
theorem Pls.sits.lies {w : World} {S : Nat → Prop} {B : Nat} (hS : ∀ b, S b → b < B) : ∀ (l : List Pl) (A : Option Addr), Pls.sits w S l A → Pls.lies w B l A
  | [], _, _ => by unfold Pls.lies; trivial
  | p :: ps, A, h => by
    unfold Pls.sits at h
    unfold Pls.lies
    obtain ⟨b, o, e, h1, h2⟩ := h
    exact ⟨b, o, e, Pl.sits.lies hS p b o h1, Pls.sits.lies hS ps _ h2⟩
end
/-- A row of plain values of one's own. -/
structure PlOwn (w0 : Nat) (w : World) (v : Value) (us : List PlAt) : Prop where
  own : w.ownsRow w0 34 4 v us.length (us.flatMap PlAt.cells)
  els : ∀ x ∈ us, x.p.sane ∧ Pls.sits w (fun b => w0 ≤ b ∧ b < w.heap.size ∧ v.ownBlock ≠ some b) x.p.list x.A
theorem PlOwn.nil (w0 : Nat) (w : World) : PlOwn w0 w (.slice none 0 0) [] := ⟨World.ownsRow_nil _ _ _ _, fun x h => absurd h (List.not_mem_nil)⟩
/-- What lies from w0 on stays, block by block. -/
theorem PlOwn.keep {w0 : Nat} {w w' : World} {v : Value} {us : List PlAt} (h : PlOwn w0 w v us) (hs : w.heap.size ≤ w'.heap.size) (hb : ∀ b, w0 ≤ b → b < w.heap.size → w'.heap[b]? = w.heap[b]?) : PlOwn w0 w' v us := by
  refine ⟨?_, fun x hx => ⟨(h.els x hx).1, (h.els x hx).2.keep (fun b o hs' => World.cell?_of_block (a := ⟨b, o, none⟩) (hb b hs'.1 hs'.2.1)) (fun b hs' => ⟨hs'.1, by have := hs'.2.1; omega, hs'.2.2⟩)⟩⟩
  refine ⟨h.own.1, ?_⟩
  rcases h.own.2 with h2 | ⟨g, cap, cur, e, h3, h4, h5⟩
  · exact .inl h2
  · have hl := h.own.lt g (by rw [e]; rfl)
    exact .inr ⟨g, cap, cur, e, h3, (hb g hl.1 hl.2).trans h4, h5⟩
theorem PlOwn.step {w0 : Nat} {w5 w6 w7 : World} {v : Value} {us : List PlAt} (h : PlOwn w0 w5 v us) (x : PlAt) (hB : w0 ≤ w5.heap.size) {g cap : Nat} {Y : Obj}
    (hs6 : w5.heap.size ≤ w6.heap.size) (hb6 : ∀ b, w0 ≤ b → b < w5.heap.size → w6.heap[b]? = w5.heap[b]?) (hx : x.p.sane ∧ Pls.sits w6 (fresh w5 w6) x.p.list x.A) (hgrow : (w6.alloc Y).grownBy w7 v.ownBlock) (hat : v.ownBlock = some g ∨ g = w6.heap.size + 1)
    (hown : w7.ownsRow w0 34 4 (.slice (some ⟨g, 0, none⟩) (us.length + 1) cap) (us.length + 1) (us.flatMap PlAt.cells ++ x.cells)) :
    PlOwn w0 w7 (.slice (some ⟨g, 0, none⟩) (us.length + 1) cap) (us ++ [x]) := by
  have hs7 := hgrow.size
  rw [size_alloc] at hs7
  have blk6 : ∀ b, b < w6.heap.size → v.ownBlock ≠ some b → w7.heap[b]? = w6.heap[b]? := fun b hb hne => by
    rw [hgrow.block b (by rw [size_alloc]; omega) (Ne.symm hne), Below.heap_alloc _ _ _ (by omega)]
  have hvlt : ∀ b, v.ownBlock = some b → w0 ≤ b ∧ b < w5.heap.size := fun b e => h.own.lt b e
  have hlate : ∀ b, b < w6.heap.size → v.ownBlock ≠ some b → ∀ o, w7.cell? ⟨b, o, none⟩ = w6.cell? ⟨b, o, none⟩ := fun b h2 h3 o => World.cell?_of_block (a := ⟨b, o, none⟩) (blk6 b h2 h3)
  refine ⟨?_, fun y hy => ?_⟩
  · have : (us ++ [x]).flatMap PlAt.cells = us.flatMap PlAt.cells ++ x.cells := by simp
    rw [this, List.length_append]
    exact hown
  · rcases List.mem_append.1 hy with hy | hy
    · refine ⟨(h.els y hy).1, (h.els y hy).2.keep (fun b o hs => ?_) (fun b hs => ⟨hs.1, by have := hs.2.1; omega, ?_⟩)⟩
      · rw [hlate b (by have := hs.2.1; omega) hs.2.2]
        exact World.cell?_of_block (a := ⟨b, o, none⟩) (hb6 b hs.1 hs.2.1)
      · rcases hat with e | e
        · have := hs.2.2; rw [e] at this; exact this
        · intro e'; injection e' with e'; have := hs.2.1; have e'' : g = b := e'; omega
    · rw [List.mem_singleton] at hy
      subst hy
      refine ⟨hx.1, hx.2.keep (fun b o hs => hlate b hs.2 (fun e => by have := (hvlt b e).2; have := hs.1; omega) o) (fun b hs => ⟨by have := hs.1; omega, by have := hs.2; omega, ?_⟩)⟩
      intro e'; injection e' with e'
      have e'' : g = b := e'
      have := hs.1; have := hs.2
      rcases hat with e | e
      · have := (hvlt g e).2; omega
      · omega
theorem psits_of {w : World} {S : Nat → Prop} {b : Nat} (hb : S b) : ∀ (us : List PlAt) (o : Nat), (∀ k (hk : k < us.length) j u, us[k].cells[j]? = some u → w.cell? ⟨b, o + (k * 4 + j), none⟩ = some u) → (∀ x ∈ us, x.p.sane ∧ Pls.sits w S x.p.list x.A) → Pls.sits w S (us.map PlAt.p) (some ⟨b, o, none⟩)
  | [], _, _, _ => by unfold List.map Pls.sits; trivial
  | x :: us, o, hc, hx => by
    unfold List.map Pls.sits
    obtain ⟨hs, hl⟩ := hx x (by simp)
    refine ⟨b, o, rfl, ?_, psits_of hb us (o + 4) (fun k hk j u hj => ?_) (fun y hy => hx y (by simp [hy]))⟩
    · have h0 : ∀ j u, x.cells[j]? = some u → w.cell? ⟨b, o + j, none⟩ = some u := fun j u hj => by
        have := hc 0 (by simp) j u (by simpa using hj)
        rwa [Nat.zero_mul, Nat.zero_add] at this
      obtain ⟨⟨k, n, t, l⟩, A, c⟩ := x
      unfold Pl.sits
      exact ⟨hb, h0 0 _ rfl, h0 1 _ rfl, h0 2 _ rfl, hs.1, hs.2.1, hs.2.2.1, hs.2.2.2, A, c, h0 3 _ rfl, hl⟩
    · rw [show o + 4 + (k * 4 + j) = o + ((k + 1) * 4 + j) by omega]
      exact hc (k + 1) (by simpa using hk) j u (by simpa using hj)
theorem PlOwn.slice {w0 : Nat} {w : World} {v : Value} {us : List PlAt} (h : PlOwn w0 w v us) : ∃ A c, v = .slice A us.length c ∧ Pls.sits w (fun b => w0 ≤ b ∧ b < w.heap.size) (us.map PlAt.p) A := by
  rcases h.own.2 with ⟨e, h2⟩ | ⟨g, cap, cur, e, _⟩
  · have : us = [] := List.eq_nil_of_length_eq_zero h2
    subst this
    exact ⟨none, 0, by rw [e]; rfl, by unfold List.map Pls.sits; trivial⟩
  · subst e
    have hlt := h.own.lt g rfl
    refine ⟨_, _, rfl, psits_of ⟨hlt.1, hlt.2⟩ us 0 (fun k hk j u hj => ?_) (fun x hx => ⟨(h.els x hx).1, (h.els x hx).2.keep (fun _ _ _ => rfl) (fun b hs => ⟨hs.1, hs.2.1⟩)⟩)⟩
    have hj4 : j < 4 := by
      rcases Nat.lt_or_ge j 4 with h | h
      · exact h
      · rw [List.getElem?_eq_none (by exact h)] at hj; cases hj
    rw [Nat.zero_add, h.own.cellAt (k * 4 + j) (by omega), plat_flat us k hk j hj4]
    exact hj
mutual
/-- How many values it has, itself with them; how deep they are. -/
def Vl.count : Vl → Nat
  | .list l => 1 + Vls.count l
  | _ => 1
def Vls.count : List Vl → Nat
  | [] => 0
  | x :: xs => x.count + Vls.count xs
end
mutual
def Vl.dep : Vl → Nat
  | .list l => 1 + Vls.dep l
  | _ => 1
def Vls.dep : List Vl → Nat
  | [] => 0
  | x :: xs => max x.dep (Vls.dep xs)
end
theorem Vls.count_take : ∀ (l : List Vl) (k : Nat) (h : k < l.length), Vls.count (l.take (k + 1)) = Vls.count (l.take k) + l[k].count
  | x :: xs, 0, _ => by simp [Vls.count]
  | x :: xs, k + 1, h => by
    simp only [List.take_succ_cons, Vls.count, List.getElem_cons_succ]
    rw [Vls.count_take xs k (by simpa using h)]; omega
theorem Vls.count_le : ∀ (l : List Vl) (k : Nat), Vls.count (l.take k) ≤ Vls.count l
  | [], k => by simp [Vls.count]
  | x :: xs, 0 => by simp [Vls.count]
  | x :: xs, k + 1 => by
    simp only [List.take_succ_cons, Vls.count]
    have := Vls.count_le xs k
    omega
theorem Vls.dep_at : ∀ {l : List Vl} (k : Nat) (h : k < l.length), l[k].dep ≤ Vls.dep l
  | x :: xs, 0, _ => by simp only [Vls.dep, List.getElem_cons_zero]; omega
  | x :: xs, k + 1, h => by
    simp only [Vls.dep, List.getElem_cons_succ]
    have := Vls.dep_at (l := xs) k (by simpa using h)
    omega
theorem Vl.count_pos (x : Vl) : 1 ≤ x.count := by cases x <;> unfold Vl.count <;> omega
theorem Vl.dep_pos (x : Vl) : 1 ≤ x.dep := by cases x <;> unfold Vl.dep <;> omega
theorem Vls.len_count : ∀ l : List Vl, l.length ≤ Vls.count l
  | [] => by simp
  | x :: xs => by
    have := Vls.len_count xs
    have := x.count_pos
    simp only [List.length_cons, Vls.count]; omega
theorem Vls.toPl_length : ∀ l : List Vl, (Vls.toPl l).length = l.length
  | [] => by simp [Vls.toPl]
  | x :: xs => by simp [Vls.toPl, Vls.toPl_length xs]
theorem Vls.toPl_get : ∀ (l : List Vl) (j : Nat) (h : j < l.length) (h' : j < (Vls.toPl l).length), (Vls.toPl l)[j] = l[j].toPl
  | x :: xs, 0, _, _ => by simp [Vls.toPl]
  | x :: xs, j + 1, h, h' => by simp [Vls.toPl]; exact Vls.toPl_get xs j (by simpa using h) _
theorem toPl_saneL {x : Vl} (hf : x.fine) (hc : x.count ≤ 70000) : x.toPl.sane := by
  cases x with
  | list l =>
    have h1 := Vls.len_count l
    unfold Vl.count at hc
    unfold Vl.toPl
    exact ⟨by rfl, by rfl, by show (0 : Nat) ≤ _; omega, by show (Vls.toPl l).length * 56 ≤ _; rw [Vls.toPl_length]; omega⟩
  | _ => exact toPl_sane (by rfl) hf
end Go.Proofs.YthjpphojddbbmaaGreatDoor
