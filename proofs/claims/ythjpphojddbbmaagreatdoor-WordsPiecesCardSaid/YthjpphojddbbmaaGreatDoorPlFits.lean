/-
  espalierlaw2.Fits: of a fault, of a value without lists: walks. Conditions: none.
-/
import Derived.Test.YthjpphojddbbmaaGreatDoorPlKept
import Derived.Test.YthjpphojddbbmaaGreatDoorValues
namespace Go.Proofs.YthjpphojddbbmaaGreatDoor
open Go.RowKit
set_option linter.unusedVariables false

mutual
/-- The plain form of a value. -/
def Vl.toPl : Vl → Pl
  | .unit => .mk 1 0 ⟨#[]⟩ []
  | .truth b => .mk 2 (if b then 1 else 0) ⟨#[]⟩ []
  | .int n => .mk 3 n ⟨#[]⟩ []
  | .text s => .mk 4 0 s []
  | .list l => .mk 5 0 ⟨#[]⟩ (Vls.toPl l)
def Vls.toPl : List Vl → List Pl
  | [] => []
  | x :: xs => x.toPl :: Vls.toPl xs
end
def Vl.isList : Vl → Bool
  | .list _ => true
  | _ => false
theorem res_cell_tmp {P : Program} {fn : Func} {p q : Tmp} {ty : TypeId} (h : fn.results = #[.cell p ty, .tmp q]) {tmps : Array Value} {a : Addr} (ht : tmps.getD p undef = .pointer (some a)) {w : World} {v u : Value} (hl : (loadVar ty a).run P w = .ok v w) (hu : tmps.getD q undef = u) :
    (results fn tmps).run P w = .ok (.tuple #[v, u]) w := by
  unfold results
  simp only [h]
  have ht' : tmps[p]?.getD undef = .pointer (some a) := by simpa using ht
  have hu' : tmps[q]?.getD undef = u := by simpa using hu
  simp [ht', hu', asAddr, hl]
theorem pf_as_Unit (s : Value) (w : World) : (Instr.typeAssert (.iface 157 s) 29 157 true).run Tryz.prog w = .ok (.tuple #[s, .bool true]) w := run_assert_hit Tryz.underlying157 rfl _ w
theorem pf_no_Unit (t : TypeId) (v : Value) (h : t ≠ 157) (w : World) : (Instr.typeAssert (.iface t v) 29 157 true).run Tryz.prog w = .ok (.tuple #[.agg #[], .bool false]) w :=
  run_assert_miss Tryz.underlying157 rfl (fun w => by kernel_rfl) h _ w
theorem pf_as_Truth (s : Value) (w : World) : (Instr.typeAssert (.iface 47 s) 29 47 true).run Tryz.prog w = .ok (.tuple #[s, .bool true]) w := run_assert_hit Tryz.underlying47 rfl _ w
theorem pf_no_Truth (t : TypeId) (v : Value) (h : t ≠ 47) (w : World) : (Instr.typeAssert (.iface t v) 29 47 true).run Tryz.prog w = .ok (.tuple #[.bool false, .bool false]) w :=
  run_assert_miss Tryz.underlying47 rfl (fun w => by kernel_rfl) h _ w
theorem pf_as_Int (s : Value) (w : World) : (Instr.typeAssert (.iface 75 s) 29 75 true).run Tryz.prog w = .ok (.tuple #[s, .bool true]) w := run_assert_hit Tryz.underlying75 rfl _ w
theorem pf_no_Int (t : TypeId) (v : Value) (h : t ≠ 75) (w : World) : (Instr.typeAssert (.iface t v) 29 75 true).run Tryz.prog w = .ok (.tuple #[.int .i64 0, .bool false]) w :=
  run_assert_miss Tryz.underlying75 rfl (fun w => by kernel_rfl) h _ w
theorem pf_as_Text (s : Value) (w : World) : (Instr.typeAssert (.iface 77 s) 29 77 true).run Tryz.prog w = .ok (.tuple #[s, .bool true]) w := run_assert_hit Tryz.underlying77 rfl _ w
theorem pf_no_Text (t : TypeId) (v : Value) (h : t ≠ 77) (w : World) : (Instr.typeAssert (.iface t v) 29 77 true).run Tryz.prog w = .ok (.tuple #[.string ⟨#[]⟩, .bool false]) w :=
  run_assert_miss Tryz.underlying77 rfl (fun w => by kernel_rfl) h _ w
theorem pf_as_List (s : Value) (w : World) : (Instr.typeAssert (.iface 158 s) 29 158 true).run Tryz.prog w = .ok (.tuple #[s, .bool true]) w := run_assert_hit Tryz.underlying158 rfl _ w
theorem pf_no_List (t : TypeId) (v : Value) (h : t ≠ 158) (w : World) : (Instr.typeAssert (.iface t v) 29 158 true).run Tryz.prog w = .ok (.tuple #[.slice none 0 0, .bool false]) w :=
  run_assert_miss Tryz.underlying158 rfl (fun w => by kernel_rfl) h _ w
/-- What 'plain' leaves, of a value without lists. -/
def PlainOne (x : Vl) (b : Nat) (m : Int) (w : World) (e : Ending) (w' : World) : Prop :=
  e = .returned (.tuple #[x.toPl.arg none 0, .bool true]) ∧ w'.heap[b]? = some (.cells #[.int .i64 (m + 1)] 3 (0, 0)) ∧ w.grownBy w' (some b)
theorem made_at (w : World) (p : Addr) (v : Value) (X : Obj) : ((w.setCell p v).alloc X).heap[w.heap.size]? = some X := by
  have := heap_alloc_new (w.setCell p v) X
  rwa [size_set] at this
theorem made_at2 (w : World) (p : Addr) (v : Value) (X Y : Obj) : (((w.setCell p v).alloc X).alloc Y).heap[w.heap.size]? = some X := by
  rw [Below.heap_alloc _ _ _ (by rw [size_alloc, size_set]; omega)]; exact made_at w p v X
theorem plain_end {w : World} {b : Nat} {m : Int} (h : w.heap[b]? = some (.cells #[.int .i64 m] 3 (0, 0))) (X : Obj) :
    ((w.setCell ⟨b, 0, none⟩ (.int .i64 (m + 1))).alloc X).heap[b]? = some (.cells #[.int .i64 (m + 1)] 3 (0, 0)) ∧ w.grownBy ((w.setCell ⟨b, 0, none⟩ (.int .i64 (m + 1))).alloc X) (some b) := by
  have hlt := lt_of_block h
  refine ⟨?_, rfl, rfl, rfl, by rw [size_alloc, size_set]; omega, fun k hk hne => ?_⟩
  · rw [Below.heap_alloc _ _ _ (by rw [size_set]; exact hlt)]; exact one_setCell h
  · rw [Below.heap_alloc _ _ _ (by rw [size_set]; exact hk), Below.heap_setCell _ _ _ _ (fun e => hne (by rw [e]))]
theorem plain_end2 {w : World} {b : Nat} {m : Int} (h : w.heap[b]? = some (.cells #[.int .i64 m] 3 (0, 0))) (X Y : Obj) :
    (((w.setCell ⟨b, 0, none⟩ (.int .i64 (m + 1))).alloc X).alloc Y).heap[b]? = some (.cells #[.int .i64 (m + 1)] 3 (0, 0)) ∧ w.grownBy (((w.setCell ⟨b, 0, none⟩ (.int .i64 (m + 1))).alloc X).alloc Y) (some b) := by
  have hlt := lt_of_block h
  obtain ⟨h1, h2⟩ := plain_end h X
  refine ⟨?_, rfl, rfl, rfl, by rw [size_alloc, size_alloc, size_set]; omega, fun k hk hne => ?_⟩
  · rw [Below.heap_alloc _ _ _ (by rw [size_alloc, size_set]; omega)]; exact h1
  · rw [Below.heap_alloc _ _ _ (by rw [size_alloc, size_set]; omega)]; exact h2.block k hk hne
set_option maxRecDepth 100000 in
set_option maxHeartbeats 4000000 in
theorem plain_one (x : Vl) (hx : x.isList = false) (v : Value) (S : Nat → Prop) (b : Nat) (m deep : Int) (w : World) (hv : x.is w S v) (hb : w.heap[b]? = some (.cells #[.int .i64 m] 3 (0, 0))) (hm0 : 0 ≤ m) (hm1 : m < 70000) (hd0 : 0 ≤ deep) (hd1 : deep ≤ 70) :
    Calls Tryz.prog 115 #[v, .pointer (some ⟨b, 0, none⟩), .int .i64 deep] w (PlainOne x b m w) := by
  have hc := cell_of_one hb
  have hf := free_of_one hb
  have hbl := lt_of_block hb
  cases x with
  | list l => cases hx
  | unit =>
    unfold Vl.is at hv
    subst hv
    have ha := pf_as_Unit (.agg #[])
    go_enter Tryz.func115, Tryz.ntmps115
    go_wp2
    exact bodyPost_ret (fn := Tryz.f115) (v := .tuple #[_, .bool true]) (res_cell_tmp (p := 6) (q := 7) (ty := 34) (a := ⟨w.heap.size, 0, none⟩) Tryz.results115 rfl (run_loadVar_row (P := Tryz.prog) _ _ _ 34 _ _ _ (made_at2 _ _ _ _ _) Tryz.underlying34 rfl (by kernel_rfl)) rfl) rfl ⟨rfl, plain_end2 hb _ _⟩
  | truth q =>
    unfold Vl.is at hv
    subst hv
    have hnUnit := pf_no_Unit 47 (.bool q) (by decide)
    have ha := pf_as_Truth (.bool q)
    cases q
    all_goals
      go_enter Tryz.func115, Tryz.ntmps115
      go_wp2
      exact bodyPost_ret (fn := Tryz.f115) (v := .tuple #[_, .bool true]) (res_cell_tmp (p := 6) (q := 7) (ty := 34) (a := ⟨w.heap.size, 0, none⟩) Tryz.results115 rfl (run_loadVar_row (P := Tryz.prog) _ _ _ 34 _ _ _ (made_at2 _ _ _ _ _) Tryz.underlying34 rfl (by kernel_rfl)) rfl) rfl ⟨rfl, plain_end2 hb _ _⟩
  | int n =>
    unfold Vl.is at hv
    subst hv
    have hnUnit := pf_no_Unit 75 (.int .i64 n) (by decide)
    have hnTruth := pf_no_Truth 75 (.int .i64 n) (by decide)
    have ha := pf_as_Int (.int .i64 n)
    go_enter Tryz.func115, Tryz.ntmps115
    go_wp2
    exact bodyPost_ret (fn := Tryz.f115) (v := .tuple #[_, .bool true]) (res_cell_tmp (p := 6) (q := 7) (ty := 34) (a := ⟨w.heap.size, 0, none⟩) Tryz.results115 rfl (run_loadVar_row (P := Tryz.prog) _ _ _ 34 _ _ _ (made_at _ _ _ _) Tryz.underlying34 rfl (by kernel_rfl)) rfl) rfl ⟨rfl, plain_end hb _⟩
  | text s =>
    unfold Vl.is at hv
    subst hv
    have hnUnit := pf_no_Unit 77 (.string s) (by decide)
    have hnTruth := pf_no_Truth 77 (.string s) (by decide)
    have hnInt := pf_no_Int 77 (.string s) (by decide)
    have ha := pf_as_Text (.string s)
    go_enter Tryz.func115, Tryz.ntmps115
    go_wp2
    exact bodyPost_ret (fn := Tryz.f115) (v := .tuple #[_, .bool true]) (res_cell_tmp (p := 6) (q := 7) (ty := 34) (a := ⟨w.heap.size, 0, none⟩) Tryz.results115 rfl (run_loadVar_row (P := Tryz.prog) _ _ _ 34 _ _ _ (made_at _ _ _ _) Tryz.underlying34 rfl (by kernel_rfl)) rfl) rfl ⟨rfl, plain_end hb _⟩
set_option maxRecDepth 100000 in
set_option maxHeartbeats 4000000 in
theorem law2_Plain_one (x : Vl) (hx : x.isList = false) (v : Value) (S : Nat → Prop) (w : World) (hv : x.is w S v) :
    Calls Tryz.prog 86 #[v] w (Bel (.tuple #[x.toPl.arg none 0, .bool true]) w) := by
  have K := fun w1 (h : w1.heap[w.heap.size + 1]? = some (.cells #[.int .i64 0] 3 (0, 0))) => plain_one x hx v (fun _ => True) (w.heap.size + 1) 0 0 w1 (by cases x <;> simp_all [Vl.is, Vl.isList]) h (by omega) (by omega) (by omega) (by omega)
  have HK := Lib.hid K
  clear K hv
  obtain ⟨k, n, t, l, hp⟩ : ∃ k n t l, x.toPl.arg none 0 = .agg #[.int .i64 k, .int .i64 n, .string t, .slice none l 0] := ⟨_, _, _, _, rfl⟩
  have HP := Lib.hid hp
  rw [hp]
  clear hp
  go_enter Tryz.func86, Tryz.ntmps86
  go_wp2_with fail
  refine (HK.out _ (heap_alloc2 w _ _).2).mono ?_
  rintro e w2 ⟨he, hb2, hg⟩
  rw [HP.out] at he
  subst he
  have hx0 : w2.heap[w.heap.size]? = _ := (hg.block w.heap.size (by simp; omega) (fun e => by injection e with e; omega)).trans (heap_alloc2 w _ _).1
  have HX0 := Lib.hid hx0
  have f0 : ∀ j, w2.cell? ⟨w.heap.size, j, none⟩ = (#[.int .i64 0, .int .i64 0, .string ⟨#[]⟩, .slice none 0 0] : Array Value)[j]? := fun j => by simp [World.cell?, hx0]
  have g0 : ∀ j, w2.frozen? ⟨w.heap.size, j, none⟩ = false := fun j => by simp [World.frozen?, hx0]
  have HB2 := Lib.hid ((((Below.refl w.heap.size w).alloc (Nat.le_refl _) (.cells #[.int .i64 0, .int .i64 0, .string ⟨#[]⟩, .slice none 0 0] 34)).alloc (by simp) (.cells #[.int .i64 0] 3)).grown hg (by simp; omega) (by intro k hk; injection hk with hk; omega))
  clear hx0 hb2 hg HK
  go_wp2
  refine bodyPost_ret (fn := Tryz.f86) (v := .tuple #[.agg #[.int .i64 k, .int .i64 n, .string t, .slice none l 0], .bool true]) (res_cell_tmp (p := 2) (q := 3) (ty := 34) (a := ⟨w.heap.size, 0, none⟩) Tryz.results86 rfl (run_loadVar_row (P := Tryz.prog) _ _ _ 34 _ _ _ (blk_set (blk_set (blk_set (blk_set HX0.out 0 (.int .i64 k)) 1 (.int .i64 n)) 2 (.string t)) 3 (.slice none l 0)) Tryz.underlying34 rfl (by kernel_rfl)) rfl) rfl ⟨rfl, ?_⟩
  exact (((HB2.out.setCell (p := ⟨w.heap.size, 0, none⟩) (Nat.le_refl _) _).setCell (p := ⟨w.heap.size, 1, none⟩) (Nat.le_refl _) _).setCell (p := ⟨w.heap.size, 2, none⟩) (Nat.le_refl _) _).setCell (p := ⟨w.heap.size, 3, none⟩) (Nat.le_refl _) _
theorem toPl_list {x : Vl} (hx : x.isList = false) : x.toPl.list = [] := by cases x <;> simp_all [Vl.isList, Vl.toPl, Pl.list]
theorem toPl_sane {x : Vl} (hx : x.isList = false) (hf : x.fine) : x.toPl.sane := by
  refine ⟨?_, ?_, ?_, by rw [toPl_list hx]; simp⟩
  · cases x <;> simp_all [Vl.isList, Vl.toPl, Pl.kind] <;> decide
  · cases x with
    | truth b => cases b <;> decide
    | int n => exact hf
    | list l => cases hx
    | _ => exact (by decide : rng 0 = true)
  · cases x with
    | text s => exact hf
    | list l => cases hx
    | _ => show (0 : Nat) ≤ _; omega
set_option maxRecDepth 100000 in
set_option maxHeartbeats 4000000 in
theorem law2_Is_one (x : Vl) (hx : x.isList = false) (hf : x.fine) (v : Value) (S : Nat → Prop) (w : World) (hv : x.is w S v) (A : Option Addr) (c : Nat) :
    Calls Tryz.prog 65 #[v, x.toPl.arg A c] w (Bel (.bool true) w) := by
  have KP := Lib.hid (fun w1 => law2_Plain_one x hx v (fun _ => True) w1 (by cases x <;> simp_all [Vl.is, Vl.isList]))
  have hl0 : ∀ w1 B A1, Pls.lies w1 B x.toPl.list A1 := fun w1 B A1 => by rw [toPl_list hx]; unfold Pls.lies; trivial
  have KE := Lib.hid (fun w1 => law2_Eq x.toPl none A 0 c w1 (toPl_sane hx hf) (hl0 _ _ _) (hl0 _ _ _))
  clear hv hl0
  obtain ⟨k, n, t, l, hp⟩ : ∃ k n t l, ∀ A c, x.toPl.arg A c = .agg #[.int .i64 k, .int .i64 n, .string t, .slice A l c] := ⟨_, _, _, _, fun _ _ => rfl⟩
  simp only [hp] at KP KE ⊢
  clear hp
  go_enter Tryz.func65, Tryz.ntmps65
  go_wp2_with fail
  refine (KP.out _).mono ?_
  rintro e w1 ⟨rfl, hb⟩
  have HB1 := Lib.hid (((Below.refl w.heap.size w).alloc (Nat.le_refl _) (.cells #[.int .i64 k, .int .i64 n, .string t, .slice A l c] 34)).trans (hb.mono (by simp)))
  have hx0 : w1.heap[w.heap.size]? = _ := (hb.block w.heap.size (by simp)).trans (heap_alloc_new w (.cells #[.int .i64 k, .int .i64 n, .string t, .slice A l c] 34))
  have hxl := lt_of_block hx0
  have f0 : ∀ j, w1.cell? ⟨w.heap.size, j, none⟩ = (#[.int .i64 k, .int .i64 n, .string t, .slice A l c] : Array Value)[j]? := fun j => by simp [World.cell?, hx0]
  clear hb hx0
  go_wp2_with fail
  refine (KE.out _).mono ?_
  rintro e w2 ⟨rfl, hb⟩
  have HB2 := Lib.hid ((HB1.out.alloc HB1.out.size (.cells #[.int .i64 k, .int .i64 n, .string t, .slice none l 0] 34)).trans (hb.mono (by have := HB1.out.size; simp; omega)))
  clear hb
  go_wp2
  go_ret
  exact ⟨rfl, HB2.out⟩
set_option maxRecDepth 100000 in
theorem law2_Fits_one (x : Vl) (hx : x.isList = false) (hf : x.fine) (v : Value) (S : Nat → Prop) (w : World) (hv : x.is w S v) (A : Option Addr) (c : Nat) :
    Calls Tryz.prog 31 #[v, .int .i64 0, x.toPl.arg A c, .int .i64 0] w (Bel (.bool true) w) := by
  have KI := Lib.hid (fun w1 => law2_Is_one x hx hf v (fun _ => True) w1 (by cases x <;> simp_all [Vl.is, Vl.isList]) A c)
  clear hv
  obtain ⟨k, n, t, l, hp⟩ : ∃ k n t l, ∀ A c, x.toPl.arg A c = .agg #[.int .i64 k, .int .i64 n, .string t, .slice A l c] := ⟨_, _, _, _, fun _ _ => rfl⟩
  simp only [hp] at KI ⊢
  clear hp
  go_enter Tryz.func31, Tryz.ntmps31
  go_wp2_with fail
  refine (KI.out _).mono ?_
  rintro e w1 ⟨rfl, hb⟩
  have HB1 := Lib.hid (((Below.refl w.heap.size w).alloc (Nat.le_refl _) (.cells #[.int .i64 k, .int .i64 n, .string t, .slice A l c] 34)).trans (hb.mono (by simp)))
  clear hb
  go_wp2
  go_ret
  exact ⟨rfl, HB1.out⟩
set_option maxRecDepth 100000 in
theorem law2_Fits_fault (e : Int) (he : e ≠ 0) (p : Pl) (w : World) (A : Option Addr) (c : Nat) :
    Calls Tryz.prog 31 #[.nilIface, .int .i64 e, p.arg A c, .int .i64 e] w (Bel (.bool true) w) := by
  have HB0 := Lib.hid ((Below.refl w.heap.size w).alloc (Nat.le_refl _) (.cells #[.int .i64 p.kind, .int .i64 p.num, .string p.text, .slice A p.list.length c] 34))
  have hb : (e != 0) = true := by simpa using he
  have hnil : ∀ w, (binOp .eql 29 .nilIface .nilIface).run Tryz.prog w = .ok (.bool true) w := fun _ => rfl
  unfold Pl.arg
  clear he
  go_enter Tryz.func31, Tryz.ntmps31
  go_wp2
  go_ret
  exact ⟨rfl, HB0.out⟩
end Go.Proofs.YthjpphojddbbmaaGreatDoor
