/-
  Part 5 of 8 of a proof, several texts in a row: PlFits, RefVal, RefWork, NumOps, NumPow, NumTwo. Conditions: each text names its own.
-/
import Derived.Test.YtcdjnkeomaidaaaGreatM04
import Derived.Test.YtcdjnkeomaidaaaGreatM03
import Derived.Test.YtcdjnkeomaidaaaGreatM01
import Derived.Test.YtcdjnkeomaidaaaGreatShelf
import Derived.Laws.BitsAllLaws
import Derived.Laws.BitsLemmas
/-
  espalierlaw2.Fits: of a fault, of a value without lists: walks. Conditions: none.
-/
namespace Go.Proofs.YtcdjnkeomaidaaaGreat
open Go.RowKit
set_option linter.unusedVariables false

mutual
/-- The plain form of a value. -/
def Vl.toPl : Vl → Pl
  | .unit => .mk 1 0 ⟨#[]⟩ []
  | .truth b => .mk 2 (if b then 1 else 0) ⟨#[]⟩ []
  | .int n => .mk 3 n ⟨#[]⟩ []
  | .text s => .mk 4 0 s []
  | .list l => .mk 5 0 ⟨#[]⟩ (Vls.toPl l)
def Vls.toPl : List Vl → List Pl
  | [] => []
  | x :: xs => x.toPl :: Vls.toPl xs
end
def Vl.isList : Vl → Bool
  | .list _ => true
  | _ => false
theorem res_cell_tmp {P : Program} {fn : Func} {p q : Tmp} {ty : TypeId} (h : fn.results = #[.cell p ty, .tmp q]) {tmps : Array Value} {a : Addr} (ht : tmps.getD p undef = .pointer (some a)) {w : World} {v u : Value} (hl : (loadVar ty a).run P w = .ok v w) (hu : tmps.getD q undef = u) :
    (results fn tmps).run P w = .ok (.tuple #[v, u]) w := by
  unfold results
  simp only [h]
  have ht' : tmps[p]?.getD undef = .pointer (some a) := by simpa using ht
  have hu' : tmps[q]?.getD undef = u := by simpa using hu
  simp [ht', hu', asAddr, hl]
theorem pf_as_Unit (s : Value) (w : World) : (Instr.typeAssert (.iface 148 s) 29 148 true).run Tryz.prog w = .ok (.tuple #[s, .bool true]) w := run_assert_hit Tryz.underlying148 rfl _ w
theorem pf_no_Unit (t : TypeId) (v : Value) (h : t ≠ 148) (w : World) : (Instr.typeAssert (.iface t v) 29 148 true).run Tryz.prog w = .ok (.tuple #[.agg #[], .bool false]) w :=
  run_assert_miss Tryz.underlying148 rfl (fun w => by kernel_rfl) h _ w
theorem pf_as_Truth (s : Value) (w : World) : (Instr.typeAssert (.iface 45 s) 29 45 true).run Tryz.prog w = .ok (.tuple #[s, .bool true]) w := run_assert_hit Tryz.underlying45 rfl _ w
theorem pf_no_Truth (t : TypeId) (v : Value) (h : t ≠ 45) (w : World) : (Instr.typeAssert (.iface t v) 29 45 true).run Tryz.prog w = .ok (.tuple #[.bool false, .bool false]) w :=
  run_assert_miss Tryz.underlying45 rfl (fun w => by kernel_rfl) h _ w
theorem pf_as_Int (s : Value) (w : World) : (Instr.typeAssert (.iface 65 s) 29 65 true).run Tryz.prog w = .ok (.tuple #[s, .bool true]) w := run_assert_hit Tryz.underlying65 rfl _ w
theorem pf_no_Int (t : TypeId) (v : Value) (h : t ≠ 65) (w : World) : (Instr.typeAssert (.iface t v) 29 65 true).run Tryz.prog w = .ok (.tuple #[.int .i64 0, .bool false]) w :=
  run_assert_miss Tryz.underlying65 rfl (fun w => by kernel_rfl) h _ w
theorem pf_as_Text (s : Value) (w : World) : (Instr.typeAssert (.iface 146 s) 29 146 true).run Tryz.prog w = .ok (.tuple #[s, .bool true]) w := run_assert_hit Tryz.underlying146 rfl _ w
theorem pf_no_Text (t : TypeId) (v : Value) (h : t ≠ 146) (w : World) : (Instr.typeAssert (.iface t v) 29 146 true).run Tryz.prog w = .ok (.tuple #[.string ⟨#[]⟩, .bool false]) w :=
  run_assert_miss Tryz.underlying146 rfl (fun w => by kernel_rfl) h _ w
theorem pf_as_List (s : Value) (w : World) : (Instr.typeAssert (.iface 147 s) 29 147 true).run Tryz.prog w = .ok (.tuple #[s, .bool true]) w := run_assert_hit Tryz.underlying147 rfl _ w
theorem pf_no_List (t : TypeId) (v : Value) (h : t ≠ 147) (w : World) : (Instr.typeAssert (.iface t v) 29 147 true).run Tryz.prog w = .ok (.tuple #[.slice none 0 0, .bool false]) w :=
  run_assert_miss Tryz.underlying147 rfl (fun w => by kernel_rfl) h _ w
/-- What 'plain' leaves, of a value without lists. -/
def PlainOne (x : Vl) (b : Nat) (m : Int) (w : World) (e : Ending) (w' : World) : Prop :=
  e = .returned (.tuple #[x.toPl.arg none 0, .bool true]) ∧ w'.heap[b]? = some (.cells #[.int .i64 (m + 1)] 3 (0, 0)) ∧ w.grownBy w' (some b)
theorem made_at (w : World) (p : Addr) (v : Value) (X : Obj) : ((w.setCell p v).alloc X).heap[w.heap.size]? = some X := by
  have := heap_alloc_new (w.setCell p v) X
  rwa [size_set] at this
theorem made_at2 (w : World) (p : Addr) (v : Value) (X Y : Obj) : (((w.setCell p v).alloc X).alloc Y).heap[w.heap.size]? = some X := by
  rw [Below.heap_alloc _ _ _ (by rw [size_alloc, size_set]; omega)]; exact made_at w p v X
theorem plain_end {w : World} {b : Nat} {m : Int} (h : w.heap[b]? = some (.cells #[.int .i64 m] 3 (0, 0))) (X : Obj) :
    ((w.setCell ⟨b, 0, none⟩ (.int .i64 (m + 1))).alloc X).heap[b]? = some (.cells #[.int .i64 (m + 1)] 3 (0, 0)) ∧ w.grownBy ((w.setCell ⟨b, 0, none⟩ (.int .i64 (m + 1))).alloc X) (some b) := by
  have hlt := lt_of_block h
  refine ⟨?_, rfl, rfl, rfl, by rw [size_alloc, size_set]; omega, fun k hk hne => ?_⟩
  · rw [Below.heap_alloc _ _ _ (by rw [size_set]; exact hlt)]; exact one_setCell h
  · rw [Below.heap_alloc _ _ _ (by rw [size_set]; exact hk), Below.heap_setCell _ _ _ _ (fun e => hne (by rw [e]))]
theorem plain_end2 {w : World} {b : Nat} {m : Int} (h : w.heap[b]? = some (.cells #[.int .i64 m] 3 (0, 0))) (X Y : Obj) :
    (((w.setCell ⟨b, 0, none⟩ (.int .i64 (m + 1))).alloc X).alloc Y).heap[b]? = some (.cells #[.int .i64 (m + 1)] 3 (0, 0)) ∧ w.grownBy (((w.setCell ⟨b, 0, none⟩ (.int .i64 (m + 1))).alloc X).alloc Y) (some b) := by
  have hlt := lt_of_block h
  obtain ⟨h1, h2⟩ := plain_end h X
  refine ⟨?_, rfl, rfl, rfl, by rw [size_alloc, size_alloc, size_set]; omega, fun k hk hne => ?_⟩
  · rw [Below.heap_alloc _ _ _ (by rw [size_alloc, size_set]; omega)]; exact h1
  · rw [Below.heap_alloc _ _ _ (by rw [size_alloc, size_set]; omega)]; exact h2.block k hk hne
set_option maxRecDepth 100000 in
set_option maxHeartbeats 4000000 in
theorem plain_one (x : Vl) (hx : x.isList = false) (v : Value) (S : Nat → Prop) (b : Nat) (m deep : Int) (w : World) (hv : x.is w S v) (hb : w.heap[b]? = some (.cells #[.int .i64 m] 3 (0, 0))) (hm0 : 0 ≤ m) (hm1 : m < 70000) (hd0 : 0 ≤ deep) (hd1 : deep ≤ 70) :
    Calls Tryz.prog 86 #[v, .pointer (some ⟨b, 0, none⟩), .int .i64 deep] w (PlainOne x b m w) := by
  have hc := cell_of_one hb
  have hf := free_of_one hb
  have hbl := lt_of_block hb
  cases x with
  | list l => cases hx
  | unit =>
    unfold Vl.is at hv
    subst hv
    have ha := pf_as_Unit (.agg #[])
    go_enter Tryz.func86, Tryz.ntmps86
    go_wp2
    exact bodyPost_ret (fn := Tryz.f86) (v := .tuple #[_, .bool true]) (res_cell_tmp (p := 6) (q := 7) (ty := 34) (a := ⟨w.heap.size, 0, none⟩) Tryz.results86 rfl (run_loadVar_row (P := Tryz.prog) _ _ _ 34 _ _ _ (made_at2 _ _ _ _ _) Tryz.underlying34 rfl (by kernel_rfl)) rfl) rfl ⟨rfl, plain_end2 hb _ _⟩
  | truth q =>
    unfold Vl.is at hv
    subst hv
    have hnUnit := pf_no_Unit 45 (.bool q) (by decide)
    have ha := pf_as_Truth (.bool q)
    cases q
    all_goals
      go_enter Tryz.func86, Tryz.ntmps86
      go_wp2
      exact bodyPost_ret (fn := Tryz.f86) (v := .tuple #[_, .bool true]) (res_cell_tmp (p := 6) (q := 7) (ty := 34) (a := ⟨w.heap.size, 0, none⟩) Tryz.results86 rfl (run_loadVar_row (P := Tryz.prog) _ _ _ 34 _ _ _ (made_at2 _ _ _ _ _) Tryz.underlying34 rfl (by kernel_rfl)) rfl) rfl ⟨rfl, plain_end2 hb _ _⟩
  | int n =>
    unfold Vl.is at hv
    subst hv
    have hnUnit := pf_no_Unit 65 (.int .i64 n) (by decide)
    have hnTruth := pf_no_Truth 65 (.int .i64 n) (by decide)
    have ha := pf_as_Int (.int .i64 n)
    go_enter Tryz.func86, Tryz.ntmps86
    go_wp2
    exact bodyPost_ret (fn := Tryz.f86) (v := .tuple #[_, .bool true]) (res_cell_tmp (p := 6) (q := 7) (ty := 34) (a := ⟨w.heap.size, 0, none⟩) Tryz.results86 rfl (run_loadVar_row (P := Tryz.prog) _ _ _ 34 _ _ _ (made_at _ _ _ _) Tryz.underlying34 rfl (by kernel_rfl)) rfl) rfl ⟨rfl, plain_end hb _⟩
  | text s =>
    unfold Vl.is at hv
    subst hv
    have hnUnit := pf_no_Unit 146 (.string s) (by decide)
    have hnTruth := pf_no_Truth 146 (.string s) (by decide)
    have hnInt := pf_no_Int 146 (.string s) (by decide)
    have ha := pf_as_Text (.string s)
    go_enter Tryz.func86, Tryz.ntmps86
    go_wp2
    exact bodyPost_ret (fn := Tryz.f86) (v := .tuple #[_, .bool true]) (res_cell_tmp (p := 6) (q := 7) (ty := 34) (a := ⟨w.heap.size, 0, none⟩) Tryz.results86 rfl (run_loadVar_row (P := Tryz.prog) _ _ _ 34 _ _ _ (made_at _ _ _ _) Tryz.underlying34 rfl (by kernel_rfl)) rfl) rfl ⟨rfl, plain_end hb _⟩
set_option maxRecDepth 100000 in
set_option maxHeartbeats 4000000 in
theorem law2_Plain_one (x : Vl) (hx : x.isList = false) (v : Value) (S : Nat → Prop) (w : World) (hv : x.is w S v) :
    Calls Tryz.prog 76 #[v] w (Bel (.tuple #[x.toPl.arg none 0, .bool true]) w) := by
  have K := fun w1 (h : w1.heap[w.heap.size + 1]? = some (.cells #[.int .i64 0] 3 (0, 0))) => plain_one x hx v (fun _ => True) (w.heap.size + 1) 0 0 w1 (by cases x <;> simp_all [Vl.is, Vl.isList]) h (by omega) (by omega) (by omega) (by omega)
  have HK := Lib.hid K
  clear K hv
  obtain ⟨k, n, t, l, hp⟩ : ∃ k n t l, x.toPl.arg none 0 = .agg #[.int .i64 k, .int .i64 n, .string t, .slice none l 0] := ⟨_, _, _, _, rfl⟩
  have HP := Lib.hid hp
  rw [hp]
  clear hp
  go_enter Tryz.func76, Tryz.ntmps76
  go_wp2_with fail
  refine (HK.out _ (heap_alloc2 w _ _).2).mono ?_
  rintro e w2 ⟨he, hb2, hg⟩
  rw [HP.out] at he
  subst he
  have hx0 : w2.heap[w.heap.size]? = _ := (hg.block w.heap.size (by simp; omega) (fun e => by injection e with e; omega)).trans (heap_alloc2 w _ _).1
  have HX0 := Lib.hid hx0
  have f0 : ∀ j, w2.cell? ⟨w.heap.size, j, none⟩ = (#[.int .i64 0, .int .i64 0, .string ⟨#[]⟩, .slice none 0 0] : Array Value)[j]? := fun j => by simp [World.cell?, hx0]
  have g0 : ∀ j, w2.frozen? ⟨w.heap.size, j, none⟩ = false := fun j => by simp [World.frozen?, hx0]
  have HB2 := Lib.hid ((((Below.refl w.heap.size w).alloc (Nat.le_refl _) (.cells #[.int .i64 0, .int .i64 0, .string ⟨#[]⟩, .slice none 0 0] 34)).alloc (by simp) (.cells #[.int .i64 0] 3)).grown hg (by simp; omega) (by intro k hk; injection hk with hk; omega))
  clear hx0 hb2 hg HK
  go_wp2
  refine bodyPost_ret (fn := Tryz.f76) (v := .tuple #[.agg #[.int .i64 k, .int .i64 n, .string t, .slice none l 0], .bool true]) (res_cell_tmp (p := 2) (q := 3) (ty := 34) (a := ⟨w.heap.size, 0, none⟩) Tryz.results76 rfl (run_loadVar_row (P := Tryz.prog) _ _ _ 34 _ _ _ (blk_set (blk_set (blk_set (blk_set HX0.out 0 (.int .i64 k)) 1 (.int .i64 n)) 2 (.string t)) 3 (.slice none l 0)) Tryz.underlying34 rfl (by kernel_rfl)) rfl) rfl ⟨rfl, ?_⟩
  exact (((HB2.out.setCell (p := ⟨w.heap.size, 0, none⟩) (Nat.le_refl _) _).setCell (p := ⟨w.heap.size, 1, none⟩) (Nat.le_refl _) _).setCell (p := ⟨w.heap.size, 2, none⟩) (Nat.le_refl _) _).setCell (p := ⟨w.heap.size, 3, none⟩) (Nat.le_refl _) _
theorem toPl_list {x : Vl} (hx : x.isList = false) : x.toPl.list = [] := by cases x <;> simp_all [Vl.isList, Vl.toPl, Pl.list]
theorem toPl_sane {x : Vl} (hx : x.isList = false) (hf : x.fine) : x.toPl.sane := by
  refine ⟨?_, ?_, ?_, by rw [toPl_list hx]; simp⟩
  · cases x <;> simp_all [Vl.isList, Vl.toPl, Pl.kind] <;> decide
  · cases x with
    | truth b => cases b <;> decide
    | int n => exact hf
    | list l => cases hx
    | _ => exact (by decide : rng 0 = true)
  · cases x with
    | text s => exact hf
    | list l => cases hx
    | _ => show (0 : Nat) ≤ _; omega
set_option maxRecDepth 100000 in
set_option maxHeartbeats 4000000 in
theorem law2_Is_one (x : Vl) (hx : x.isList = false) (hf : x.fine) (v : Value) (S : Nat → Prop) (w : World) (hv : x.is w S v) (A : Option Addr) (c : Nat) :
    Calls Tryz.prog 58 #[v, x.toPl.arg A c] w (Bel (.bool true) w) := by
  have KP := Lib.hid (fun w1 => law2_Plain_one x hx v (fun _ => True) w1 (by cases x <;> simp_all [Vl.is, Vl.isList]))
  have hl0 : ∀ w1 B A1, Pls.lies w1 B x.toPl.list A1 := fun w1 B A1 => by rw [toPl_list hx]; unfold Pls.lies; trivial
  have KE := Lib.hid (fun w1 => law2_Eq x.toPl none A 0 c w1 (toPl_sane hx hf) (hl0 _ _ _) (hl0 _ _ _))
  clear hv hl0
  obtain ⟨k, n, t, l, hp⟩ : ∃ k n t l, ∀ A c, x.toPl.arg A c = .agg #[.int .i64 k, .int .i64 n, .string t, .slice A l c] := ⟨_, _, _, _, fun _ _ => rfl⟩
  simp only [hp] at KP KE ⊢
  clear hp
  go_enter Tryz.func58, Tryz.ntmps58
  go_wp2_with fail
  refine (KP.out _).mono ?_
  rintro e w1 ⟨rfl, hb⟩
  have HB1 := Lib.hid (((Below.refl w.heap.size w).alloc (Nat.le_refl _) (.cells #[.int .i64 k, .int .i64 n, .string t, .slice A l c] 34)).trans (hb.mono (by simp)))
  have hx0 : w1.heap[w.heap.size]? = _ := (hb.block w.heap.size (by simp)).trans (heap_alloc_new w (.cells #[.int .i64 k, .int .i64 n, .string t, .slice A l c] 34))
  have hxl := lt_of_block hx0
  have f0 : ∀ j, w1.cell? ⟨w.heap.size, j, none⟩ = (#[.int .i64 k, .int .i64 n, .string t, .slice A l c] : Array Value)[j]? := fun j => by simp [World.cell?, hx0]
  clear hb hx0
  go_wp2_with fail
  refine (KE.out _).mono ?_
  rintro e w2 ⟨rfl, hb⟩
  have HB2 := Lib.hid ((HB1.out.alloc HB1.out.size (.cells #[.int .i64 k, .int .i64 n, .string t, .slice none l 0] 34)).trans (hb.mono (by have := HB1.out.size; simp; omega)))
  clear hb
  go_wp2
  go_ret
  exact ⟨rfl, HB2.out⟩
set_option maxRecDepth 100000 in
theorem law2_Fits_one (x : Vl) (hx : x.isList = false) (hf : x.fine) (v : Value) (S : Nat → Prop) (w : World) (hv : x.is w S v) (A : Option Addr) (c : Nat) :
    Calls Tryz.prog 24 #[v, .int .i64 0, x.toPl.arg A c, .int .i64 0] w (Bel (.bool true) w) := by
  have KI := Lib.hid (fun w1 => law2_Is_one x hx hf v (fun _ => True) w1 (by cases x <;> simp_all [Vl.is, Vl.isList]) A c)
  clear hv
  obtain ⟨k, n, t, l, hp⟩ : ∃ k n t l, ∀ A c, x.toPl.arg A c = .agg #[.int .i64 k, .int .i64 n, .string t, .slice A l c] := ⟨_, _, _, _, fun _ _ => rfl⟩
  simp only [hp] at KI ⊢
  clear hp
  go_enter Tryz.func24, Tryz.ntmps24
  go_wp2_with fail
  refine (KI.out _).mono ?_
  rintro e w1 ⟨rfl, hb⟩
  have HB1 := Lib.hid (((Below.refl w.heap.size w).alloc (Nat.le_refl _) (.cells #[.int .i64 k, .int .i64 n, .string t, .slice A l c] 34)).trans (hb.mono (by simp)))
  clear hb
  go_wp2
  go_ret
  exact ⟨rfl, HB1.out⟩
set_option maxRecDepth 100000 in
theorem law2_Fits_fault (e : Int) (he : e ≠ 0) (p : Pl) (w : World) (A : Option Addr) (c : Nat) :
    Calls Tryz.prog 24 #[.nilIface, .int .i64 e, p.arg A c, .int .i64 e] w (Bel (.bool true) w) := by
  have HB0 := Lib.hid ((Below.refl w.heap.size w).alloc (Nat.le_refl _) (.cells #[.int .i64 p.kind, .int .i64 p.num, .string p.text, .slice A p.list.length c] 34))
  have hb : (e != 0) = true := by simpa using he
  have hnil : ∀ w, (binOp .eql 29 .nilIface .nilIface).run Tryz.prog w = .ok (.bool true) w := fun _ => rfl
  unfold Pl.arg
  clear he
  go_enter Tryz.func24, Tryz.ntmps24
  go_wp2
  go_ret
  exact ⟨rfl, HB0.out⟩
end Go.Proofs.YtcdjnkeomaidaaaGreat

/-
  espalierref8.num, truth: walks. Conditions: none.
-/
namespace Go.Proofs.YtcdjnkeomaidaaaGreat
open Go.RowKit
set_option linter.unusedVariables false

theorem ref_num (n : Int) (w : World) : Calls Tryz.prog 23 #[.int .i64 n] w (Bel ((Vl.int n).toPl.arg none 0) w) := by
  have HB := Lib.hid ((Below.refl w.heap.size w).alloc (Nat.le_refl _) (.cells #[.int .i64 3, .int .i64 n, .string ⟨#[]⟩, .slice none 0 0] 34))
  go_enter Tryz.func23, Tryz.ntmps23
  go_wp2
  exact bodyPost_ret (fn := Tryz.f23) (v := (Vl.int n).toPl.arg none 0) (results_cell (p := 2) (ty := 34) (a := ⟨w.heap.size, 0, none⟩) Tryz.results23 rfl (run_loadVar_row (P := Tryz.prog) _ _ _ 34 _ _ _ (heap_alloc_new w _) Tryz.underlying34 rfl (by kernel_rfl))) rfl ⟨rfl, HB.out⟩
theorem ref_truth (b : Bool) (w : World) : Calls Tryz.prog 21 #[.bool b] w (Bel ((Vl.truth b).toPl.arg none 0) w) := by
  have HB := Lib.hid (((Below.refl w.heap.size w).alloc (Nat.le_refl _) (.cells #[.int .i64 2, .int .i64 (if b then 1 else 0), .string ⟨#[]⟩, .slice none 0 0] 34)).alloc (by simp) (.cells #[.int .i64 2, .int .i64 (if b then 1 else 0), .string ⟨#[]⟩, .slice none 0 0] 34))
  cases b
  all_goals
    go_enter Tryz.func21, Tryz.ntmps21
    go_wp2
    exact bodyPost_ret (fn := Tryz.f21) (v := _) (results_cell (p := 2) (ty := 34) (a := ⟨w.heap.size, 0, none⟩) Tryz.results21 rfl (run_loadVar_row (P := Tryz.prog) _ _ _ 34 _ _ _ (heap_alloc2 w _ _).1 Tryz.underlying34 rfl (by kernel_rfl))) rfl ⟨rfl, HB.out⟩
end Go.Proofs.YtcdjnkeomaidaaaGreat

/-
  espalierref8.Work: walks, for any operation and any plain values. Conditions: they lie in memory.
-/
namespace Go.Proofs.YtcdjnkeomaidaaaGreat
open Go.RowKit
set_option linter.unusedVariables false

theorem res_cell_tmp2 {P : Program} {fn : Func} {p q r : Tmp} {ty : TypeId} (h : fn.results = #[.cell p ty, .tmp q, .tmp r]) {tmps : Array Value} {a : Addr} (ht : tmps.getD p undef = .pointer (some a)) {w : World} {v u x : Value} (hl : (loadVar ty a).run P w = .ok v w) (hu : tmps.getD q undef = u) (hx : tmps.getD r undef = x) :
    (results fn tmps).run P w = .ok (.tuple #[v, u, x]) w := by
  unfold results
  simp only [h]
  have ht' : tmps[p]?.getD undef = .pointer (some a) := by simpa using ht
  have hu' : tmps[q]?.getD undef = u := by simpa using hu
  have hx' : tmps[r]?.getD undef = x := by simpa using hx
  simp [ht', hu', hx', asAddr, hl]
/-- Nothing beside a fault. -/
def badP (e : Int) : Value := .tuple #[(Pl.mk 0 0 ⟨#[]⟩ []).arg none 0, .int .i64 e, .string ⟨#[]⟩]
def okP (x : Vl) : Value := .tuple #[x.toPl.arg none 0, .int .i64 0, .string ⟨#[]⟩]
def zeroX : Obj := .cells #[.int .i64 0, .int .i64 0, .string ⟨#[]⟩, .slice none 0 0] 34
theorem below_set4 {w w1 : World} (h : Below w.heap.size w w1) {b : Nat} (hb : w.heap.size ≤ b) (x0 x1 x2 x3 : Value) :
    Below w.heap.size w ((((w1.setCell ⟨b, 0, none⟩ x0).setCell ⟨b, 1, none⟩ x1).setCell ⟨b, 2, none⟩ x2).setCell ⟨b, 3, none⟩ x3) :=
  (((h.setCell (p := ⟨b, 0, none⟩) hb _).setCell (p := ⟨b, 1, none⟩) hb _).setCell (p := ⟨b, 2, none⟩) hb _).setCell (p := ⟨b, 3, none⟩) hb _
theorem zero_box (w : World) : Below w.heap.size w (w.alloc zeroX) := (Below.refl w.heap.size w).alloc (Nat.le_refl _) _

set_option maxRecDepth 100000 in
set_option maxHeartbeats 4000000 in
theorem ref8_fault (op : ByteArray) (ps : List Pl) (A : Option Addr) (c : Nat) (w : World) (hlen : ps.length * 56 ≤ 140737488351232) (hl : Pls.lies w w.heap.size ps A) (E : Int) (hE : askedR op ps numRows = E) (he : E ≠ 0) :
    Calls Tryz.prog 7 #[.string op, .slice A ps.length c] w (Bel (badP E) w) := by
  have HB := Lib.hid (zero_box w)
  have KA := Lib.hid (ref_asked op ps A c _ hlen (hl.below HB.out HB.out.size))
  rw [hE] at KA
  have hne : (E != 0) = true := by simpa using he
  unfold zeroX at HB KA
  clear hl hE he
  go_enter Tryz.func7, Tryz.ntmps7
  go_wp2_with fail
  refine KA.out.mono ?_
  rintro e w1 ⟨rfl, hb1⟩
  have hx1 := (hb1.block w.heap.size (by simp)).trans (heap_alloc_new w _)
  have HX1 := Lib.hid hx1
  have f0 : ∀ j, w1.cell? ⟨w.heap.size, j, none⟩ = (#[.int .i64 0, .int .i64 0, .string ⟨#[]⟩, .slice none 0 0] : Array Value)[j]? := fun j => by simp [World.cell?, hx1]
  have g0 : ∀ j, w1.frozen? ⟨w.heap.size, j, none⟩ = false := fun j => by simp [World.frozen?, hx1]
  have HB1 := Lib.hid (HB.out.trans (hb1.mono HB.out.size))
  clear hb1 hx1 KA
  go_wp2
  refine bodyPost_ret (fn := Tryz.f7) (v := badP E) (res_cell_tmp2 (p := 4) (q := 5) (r := 6) (ty := 34) (a := ⟨w.heap.size, 0, none⟩) Tryz.results7 rfl (run_loadVar_row (P := Tryz.prog) _ _ _ 34 _ _ _ (blk_set (blk_set (blk_set (blk_set HX1.out 0 (.int .i64 0)) 1 (.int .i64 0)) 2 (.string ⟨#[]⟩)) 3 (.slice none 0 0)) Tryz.underlying34 rfl (by kernel_rfl)) rfl rfl) rfl ⟨rfl, below_set4 HB1.out (Nat.le_refl _) _ _ _ _⟩

set_option maxRecDepth 100000 in
set_option maxHeartbeats 4000000 in
theorem ref8_kind1 (op : ByteArray) (p : Pl) (ps : List Pl) (A : Option Addr) (c : Nat) (w : World) (hlen : (p :: ps).length * 56 ≤ 140737488351232) (hl : Pls.lies w w.heap.size (p :: ps) A) (hE : askedR op (p :: ps) numRows = 0) (hp : p.kind ≠ 3) :
    Calls Tryz.prog 7 #[.string op, .slice A (p :: ps).length c] w (Bel (badP 20) w) := by
  have HB := Lib.hid (zero_box w)
  have KA := Lib.hid (ref_asked op (p :: ps) A c _ hlen (hl.below HB.out HB.out.size))
  rw [hE] at KA
  have HL := Lib.hid hl
  have hk : (p.kind != 3) = true := by simpa using hp
  clear hp
  unfold zeroX at HB KA
  clear hl hE
  go_enter Tryz.func7, Tryz.ntmps7
  go_wp2_with fail
  refine KA.out.mono ?_
  rintro e w1 ⟨rfl, hb1⟩
  have hx1 := (hb1.block w.heap.size (by simp)).trans (heap_alloc_new w _)
  have HX1 := Lib.hid hx1
  have f0 : ∀ j, w1.cell? ⟨w.heap.size, j, none⟩ = (#[.int .i64 0, .int .i64 0, .string ⟨#[]⟩, .slice none 0 0] : Array Value)[j]? := fun j => by simp [World.cell?, hx1]
  have g0 : ∀ j, w1.frozen? ⟨w.heap.size, j, none⟩ = false := fun j => by simp [World.frozen?, hx1]
  have HB1 := Lib.hid (HB.out.trans (hb1.mono HB.out.size))
  clear hb1 hx1 KA
  obtain ⟨b, o, rfl⟩ := HL.out.head (by simp)
  have e0 : w1.cell? ⟨b, o, none⟩ = some (.int .i64 p.kind) := by have := (HL.out.at_ 0 (by simp)).parts; simpa using (HB1.out.cell (p := ⟨b, _, none⟩) this.1).trans this.2.1
  clear HL
  go_wp2_with fail
  refine wp_loop_rounds 1 ?_
  rw [rounds_succ]
  go_wp2
  refine bodyPost_ret (fn := Tryz.f7) (v := badP 20) (res_cell_tmp2 (p := 4) (q := 5) (r := 6) (ty := 34) (a := ⟨w.heap.size, 0, none⟩) Tryz.results7 rfl (run_loadVar_row (P := Tryz.prog) _ _ _ 34 _ _ _ (blk_set (blk_set (blk_set (blk_set HX1.out 0 (.int .i64 0)) 1 (.int .i64 0)) 2 (.string ⟨#[]⟩)) 3 (.slice none 0 0)) Tryz.underlying34 rfl (by kernel_rfl)) rfl rfl) rfl ⟨rfl, below_set4 HB1.out (Nat.le_refl _) _ _ _ _⟩

set_option maxRecDepth 100000 in
set_option maxHeartbeats 4000000 in
theorem ref8_kind2 (op : ByteArray) (p q : Pl) (A : Option Addr) (c : Nat) (w : World) (hlen : [p, q].length * 56 ≤ 140737488351232) (hl : Pls.lies w w.heap.size [p, q] A) (hE : askedR op [p, q] numRows = 0) (hp : p.kind = 3) (hq : q.kind ≠ 3) :
    Calls Tryz.prog 7 #[.string op, .slice A [p, q].length c] w (Bel (badP 20) w) := by
  have HB := Lib.hid (zero_box w)
  have KA := Lib.hid (ref_asked op [p, q] A c _ hlen (hl.below HB.out HB.out.size))
  rw [hE] at KA
  have HL := Lib.hid hl
  have hk : (p.kind != 3) = false := by simpa using hp
  clear hp
  have hk2 : (q.kind != 3) = true := by simpa using hq
  clear hq
  unfold zeroX at HB KA
  clear hl hE
  go_enter Tryz.func7, Tryz.ntmps7
  go_wp2_with fail
  refine KA.out.mono ?_
  rintro e w1 ⟨rfl, hb1⟩
  have hx1 := (hb1.block w.heap.size (by simp)).trans (heap_alloc_new w _)
  have HX1 := Lib.hid hx1
  have f0 : ∀ j, w1.cell? ⟨w.heap.size, j, none⟩ = (#[.int .i64 0, .int .i64 0, .string ⟨#[]⟩, .slice none 0 0] : Array Value)[j]? := fun j => by simp [World.cell?, hx1]
  have g0 : ∀ j, w1.frozen? ⟨w.heap.size, j, none⟩ = false := fun j => by simp [World.frozen?, hx1]
  have HB1 := Lib.hid (HB.out.trans (hb1.mono HB.out.size))
  clear hb1 hx1 KA
  obtain ⟨b, o, rfl⟩ := HL.out.head (by simp)
  have e0 : w1.cell? ⟨b, o, none⟩ = some (.int .i64 p.kind) := by have := (HL.out.at_ 0 (by simp)).parts; simpa using (HB1.out.cell (p := ⟨b, _, none⟩) this.1).trans this.2.1
  have e4 : w1.cell? ⟨b, o + 4, none⟩ = some (.int .i64 q.kind) := by have := (HL.out.at_ 1 (by simp)).parts; simpa using (HB1.out.cell (p := ⟨b, _, none⟩) this.1).trans this.2.1
  clear HL
  go_wp2_with fail
  refine wp_loop_rounds 2 ?_
  rw [rounds_succ]
  go_wp2
  rw [rounds_succ]
  go_wp2
  refine bodyPost_ret (fn := Tryz.f7) (v := badP 20) (res_cell_tmp2 (p := 4) (q := 5) (r := 6) (ty := 34) (a := ⟨w.heap.size, 0, none⟩) Tryz.results7 rfl (run_loadVar_row (P := Tryz.prog) _ _ _ 34 _ _ _ (blk_set (blk_set (blk_set (blk_set HX1.out 0 (.int .i64 0)) 1 (.int .i64 0)) 2 (.string ⟨#[]⟩)) 3 (.slice none 0 0)) Tryz.underlying34 rfl (by kernel_rfl)) rfl rfl) rfl ⟨rfl, below_set4 HB1.out (Nat.le_refl _) _ _ _ _⟩

set_option maxRecDepth 100000 in
set_option maxHeartbeats 4000000 in
theorem ref8_num1 (op : ByteArray) (p : Pl) (A : Option Addr) (c : Nat) (w : World) (hlen : [p].length * 56 ≤ 140737488351232) (hl : Pls.lies w w.heap.size [p] A) (hE : askedR op [p] numRows = 0) (hp : p.kind = 3) (hno : (op.toList == ([110, 117, 109, 46, 108, 101, 115, 115] : List UInt8)) = false ∧ (op.toList == ([110, 117, 109, 46, 109, 111, 115, 116] : List UInt8)) = false) (n k : Int) (R : Value) (hR : R = if k = 0 then okP (.int n) else badP k) (hW : ∀ w, Calls Tryz.prog 22 #[.string op, .int .i64 p.num, .int .i64 0] w fun e w' => e = .returned (.tuple #[.int .i64 n, .int .i64 k]) ∧ w = w') :
    Calls Tryz.prog 7 #[.string op, .slice A [p].length c] w (Bel R w) := by
  have HW := Lib.hid hW
  have HR := Lib.hid hR
  clear hW hR
  have HB := Lib.hid (zero_box w)
  have KA := Lib.hid (ref_asked op [p] A c _ hlen (hl.below HB.out HB.out.size))
  rw [hE] at KA
  have HL := Lib.hid hl
  have hless : (op.toList == ([110, 117, 109, 46, 108, 101, 115, 115] : List UInt8)) = false := hno.1
  have hmost : (op.toList == ([110, 117, 109, 46, 109, 111, 115, 116] : List UInt8)) = false := hno.2
  clear hno
  have hk : (p.kind != 3) = false := by simpa using hp
  clear hp
  unfold zeroX at HB KA
  clear hl hE
  go_enter Tryz.func7, Tryz.ntmps7
  go_wp2_with fail
  refine KA.out.mono ?_
  rintro e w1 ⟨rfl, hb1⟩
  have hx1 := (hb1.block w.heap.size (by simp)).trans (heap_alloc_new w _)
  have HX1 := Lib.hid hx1
  have f0 : ∀ j, w1.cell? ⟨w.heap.size, j, none⟩ = (#[.int .i64 0, .int .i64 0, .string ⟨#[]⟩, .slice none 0 0] : Array Value)[j]? := fun j => by simp [World.cell?, hx1]
  have g0 : ∀ j, w1.frozen? ⟨w.heap.size, j, none⟩ = false := fun j => by simp [World.frozen?, hx1]
  have HB1 := Lib.hid (HB.out.trans (hb1.mono HB.out.size))
  clear hb1 hx1 KA
  obtain ⟨b, o, rfl⟩ := HL.out.head (by simp)
  have e0 : w1.cell? ⟨b, o, none⟩ = some (.int .i64 p.kind) := by have := (HL.out.at_ 0 (by simp)).parts; simpa using (HB1.out.cell (p := ⟨b, _, none⟩) this.1).trans this.2.1
  have e1 : w1.cell? ⟨b, o + 1, none⟩ = some (.int .i64 p.num) := by have := (HL.out.at_ 0 (by simp)).parts; simpa using (HB1.out.cell (p := ⟨b, _, none⟩) this.1).trans this.2.2.1
  clear HL
  go_wp2_with fail
  refine wp_loop_rounds 2 ?_
  rw [rounds_succ]
  go_wp2
  rw [rounds_succ]
  go_wp2_with fail
  refine (HW.out _).mono ?_
  rintro e w2 ⟨rfl, rfl⟩
  by_cases hk0 : k = 0
  · subst hk0
    have HR2 := Lib.hid (HR.out.trans (if_pos rfl))
    go_wp2_with fail
    refine (ref_num n _).mono ?_
    rintro e w2 ⟨rfl, hb2⟩
    have hx2 := (hb2.block w.heap.size (by have := HB1.out.size; have := lt_of_block HX1.out; omega)).trans HX1.out
    have HX2 := Lib.hid hx2
    have f2 : ∀ j, w2.cell? ⟨w.heap.size, j, none⟩ = (#[.int .i64 0, .int .i64 0, .string ⟨#[]⟩, .slice none 0 0] : Array Value)[j]? := fun j => by simp [World.cell?, hx2]
    have g2 : ∀ j, w2.frozen? ⟨w.heap.size, j, none⟩ = false := fun j => by simp [World.frozen?, hx2]
    have HB2 := Lib.hid (HB1.out.trans (hb2.mono HB1.out.size))
    clear hb2 hx2 f0 g0 e0 e1
    unfold Pl.arg
    go_wp2
    rw [HR2.out]
    refine bodyPost_ret (fn := Tryz.f7) (v := okP (.int n)) (res_cell_tmp2 (p := 4) (q := 5) (r := 6) (ty := 34) (a := ⟨w.heap.size, 0, none⟩) Tryz.results7 rfl (run_loadVar_row (P := Tryz.prog) _ _ _ 34 _ _ _ (blk_set (blk_set (blk_set (blk_set HX2.out 0 (.int .i64 3)) 1 (.int .i64 n)) 2 (.string ⟨#[]⟩)) 3 (.slice none 0 0)) Tryz.underlying34 rfl (by kernel_rfl)) rfl rfl) rfl ⟨rfl, below_set4 HB2.out (Nat.le_refl _) _ _ _ _⟩
  · have HR2 := Lib.hid (HR.out.trans (if_neg hk0))
    have hkb : (k != 0) = true := by simpa using hk0
    clear hk0
    go_wp2
    rw [HR2.out]
    refine bodyPost_ret (fn := Tryz.f7) (v := badP k) (res_cell_tmp2 (p := 4) (q := 5) (r := 6) (ty := 34) (a := ⟨w.heap.size, 0, none⟩) Tryz.results7 rfl (run_loadVar_row (P := Tryz.prog) _ _ _ 34 _ _ _ (blk_set (blk_set (blk_set (blk_set HX1.out 0 (.int .i64 0)) 1 (.int .i64 0)) 2 (.string ⟨#[]⟩)) 3 (.slice none 0 0)) Tryz.underlying34 rfl (by kernel_rfl)) rfl rfl) rfl ⟨rfl, below_set4 HB1.out (Nat.le_refl _) _ _ _ _⟩

set_option maxRecDepth 100000 in
set_option maxHeartbeats 4000000 in
theorem ref8_num2 (op : ByteArray) (p q : Pl) (A : Option Addr) (c : Nat) (w : World) (hlen : [p, q].length * 56 ≤ 140737488351232) (hl : Pls.lies w w.heap.size [p, q] A) (hE : askedR op [p, q] numRows = 0) (hp : p.kind = 3) (hq : q.kind = 3) (hno : (op.toList == ([110, 117, 109, 46, 108, 101, 115, 115] : List UInt8)) = false ∧ (op.toList == ([110, 117, 109, 46, 109, 111, 115, 116] : List UInt8)) = false) (n k : Int) (R : Value) (hR : R = if k = 0 then okP (.int n) else badP k) (hW : ∀ w, Calls Tryz.prog 22 #[.string op, .int .i64 p.num, .int .i64 q.num] w fun e w' => e = .returned (.tuple #[.int .i64 n, .int .i64 k]) ∧ w = w') :
    Calls Tryz.prog 7 #[.string op, .slice A [p, q].length c] w (Bel R w) := by
  have HW := Lib.hid hW
  have HR := Lib.hid hR
  clear hW hR
  have HB := Lib.hid (zero_box w)
  have KA := Lib.hid (ref_asked op [p, q] A c _ hlen (hl.below HB.out HB.out.size))
  rw [hE] at KA
  have HL := Lib.hid hl
  have hless : (op.toList == ([110, 117, 109, 46, 108, 101, 115, 115] : List UInt8)) = false := hno.1
  have hmost : (op.toList == ([110, 117, 109, 46, 109, 111, 115, 116] : List UInt8)) = false := hno.2
  clear hno
  have hk : (p.kind != 3) = false := by simpa using hp
  clear hp
  have hk2 : (q.kind != 3) = false := by simpa using hq
  clear hq
  unfold zeroX at HB KA
  clear hl hE
  go_enter Tryz.func7, Tryz.ntmps7
  go_wp2_with fail
  refine KA.out.mono ?_
  rintro e w1 ⟨rfl, hb1⟩
  have hx1 := (hb1.block w.heap.size (by simp)).trans (heap_alloc_new w _)
  have HX1 := Lib.hid hx1
  have f0 : ∀ j, w1.cell? ⟨w.heap.size, j, none⟩ = (#[.int .i64 0, .int .i64 0, .string ⟨#[]⟩, .slice none 0 0] : Array Value)[j]? := fun j => by simp [World.cell?, hx1]
  have g0 : ∀ j, w1.frozen? ⟨w.heap.size, j, none⟩ = false := fun j => by simp [World.frozen?, hx1]
  have HB1 := Lib.hid (HB.out.trans (hb1.mono HB.out.size))
  clear hb1 hx1 KA
  obtain ⟨b, o, rfl⟩ := HL.out.head (by simp)
  have e0 : w1.cell? ⟨b, o, none⟩ = some (.int .i64 p.kind) := by have := (HL.out.at_ 0 (by simp)).parts; simpa using (HB1.out.cell (p := ⟨b, _, none⟩) this.1).trans this.2.1
  have e1 : w1.cell? ⟨b, o + 1, none⟩ = some (.int .i64 p.num) := by have := (HL.out.at_ 0 (by simp)).parts; simpa using (HB1.out.cell (p := ⟨b, _, none⟩) this.1).trans this.2.2.1
  have e4 : w1.cell? ⟨b, o + 4, none⟩ = some (.int .i64 q.kind) := by have := (HL.out.at_ 1 (by simp)).parts; simpa using (HB1.out.cell (p := ⟨b, _, none⟩) this.1).trans this.2.1
  have e5 : w1.cell? ⟨b, o + 5, none⟩ = some (.int .i64 q.num) := by have := (HL.out.at_ 1 (by simp)).parts; simpa using (HB1.out.cell (p := ⟨b, _, none⟩) this.1).trans this.2.2.1
  clear HL
  have hlt2 : decide ((2 : Int) < 2) = false := rfl
  go_wp2_with fail
  refine wp_loop_rounds 3 ?_
  rw [rounds_succ]
  go_wp2
  rw [rounds_succ]
  go_wp2
  rw [rounds_succ]
  go_wp2_with fail
  refine (HW.out _).mono ?_
  rintro e w2 ⟨rfl, rfl⟩
  by_cases hk0 : k = 0
  · subst hk0
    have HR2 := Lib.hid (HR.out.trans (if_pos rfl))
    go_wp2_with fail
    refine (ref_num n _).mono ?_
    rintro e w2 ⟨rfl, hb2⟩
    have hx2 := (hb2.block w.heap.size (by have := HB1.out.size; have := lt_of_block HX1.out; omega)).trans HX1.out
    have HX2 := Lib.hid hx2
    have f2 : ∀ j, w2.cell? ⟨w.heap.size, j, none⟩ = (#[.int .i64 0, .int .i64 0, .string ⟨#[]⟩, .slice none 0 0] : Array Value)[j]? := fun j => by simp [World.cell?, hx2]
    have g2 : ∀ j, w2.frozen? ⟨w.heap.size, j, none⟩ = false := fun j => by simp [World.frozen?, hx2]
    have HB2 := Lib.hid (HB1.out.trans (hb2.mono HB1.out.size))
    clear hb2 hx2 f0 g0 e0 e1
    unfold Pl.arg
    go_wp2
    rw [HR2.out]
    refine bodyPost_ret (fn := Tryz.f7) (v := okP (.int n)) (res_cell_tmp2 (p := 4) (q := 5) (r := 6) (ty := 34) (a := ⟨w.heap.size, 0, none⟩) Tryz.results7 rfl (run_loadVar_row (P := Tryz.prog) _ _ _ 34 _ _ _ (blk_set (blk_set (blk_set (blk_set HX2.out 0 (.int .i64 3)) 1 (.int .i64 n)) 2 (.string ⟨#[]⟩)) 3 (.slice none 0 0)) Tryz.underlying34 rfl (by kernel_rfl)) rfl rfl) rfl ⟨rfl, below_set4 HB2.out (Nat.le_refl _) _ _ _ _⟩
  · have HR2 := Lib.hid (HR.out.trans (if_neg hk0))
    have hkb : (k != 0) = true := by simpa using hk0
    clear hk0
    go_wp2
    rw [HR2.out]
    refine bodyPost_ret (fn := Tryz.f7) (v := badP k) (res_cell_tmp2 (p := 4) (q := 5) (r := 6) (ty := 34) (a := ⟨w.heap.size, 0, none⟩) Tryz.results7 rfl (run_loadVar_row (P := Tryz.prog) _ _ _ 34 _ _ _ (blk_set (blk_set (blk_set (blk_set HX1.out 0 (.int .i64 0)) 1 (.int .i64 0)) 2 (.string ⟨#[]⟩)) 3 (.slice none 0 0)) Tryz.underlying34 rfl (by kernel_rfl)) rfl rfl) rfl ⟨rfl, below_set4 HB1.out (Nat.le_refl _) _ _ _ _⟩

set_option maxRecDepth 100000 in
set_option maxHeartbeats 4000000 in
theorem ref8_less (op : ByteArray) (p q : Pl) (A : Option Addr) (c : Nat) (w : World) (hlen : [p, q].length * 56 ≤ 140737488351232) (hl : Pls.lies w w.heap.size [p, q] A) (hE : askedR op [p, q] numRows = 0) (hp : p.kind = 3) (hq : q.kind = 3) (hop : op = ⟨#[110, 117, 109, 46, 108, 101, 115, 115]⟩) :
    Calls Tryz.prog 7 #[.string op, .slice A [p, q].length c] w (Bel (okP (.truth (decide (p.num < q.num)))) w) := by
  have HB := Lib.hid (zero_box w)
  have KA := Lib.hid (ref_asked op [p, q] A c _ hlen (hl.below HB.out HB.out.size))
  rw [hE] at KA
  have HL := Lib.hid hl
  have hk : (p.kind != 3) = false := by simpa using hp
  clear hp
  have hk2 : (q.kind != 3) = false := by simpa using hq
  clear hq
  unfold zeroX at HB KA
  clear hl hE
  subst hop
  go_enter Tryz.func7, Tryz.ntmps7
  go_wp2_with fail
  refine KA.out.mono ?_
  rintro e w1 ⟨rfl, hb1⟩
  have hx1 := (hb1.block w.heap.size (by simp)).trans (heap_alloc_new w _)
  have HX1 := Lib.hid hx1
  have f0 : ∀ j, w1.cell? ⟨w.heap.size, j, none⟩ = (#[.int .i64 0, .int .i64 0, .string ⟨#[]⟩, .slice none 0 0] : Array Value)[j]? := fun j => by simp [World.cell?, hx1]
  have g0 : ∀ j, w1.frozen? ⟨w.heap.size, j, none⟩ = false := fun j => by simp [World.frozen?, hx1]
  have HB1 := Lib.hid (HB.out.trans (hb1.mono HB.out.size))
  clear hb1 hx1 KA
  obtain ⟨b, o, rfl⟩ := HL.out.head (by simp)
  have e0 : w1.cell? ⟨b, o, none⟩ = some (.int .i64 p.kind) := by have := (HL.out.at_ 0 (by simp)).parts; simpa using (HB1.out.cell (p := ⟨b, _, none⟩) this.1).trans this.2.1
  have e1 : w1.cell? ⟨b, o + 1, none⟩ = some (.int .i64 p.num) := by have := (HL.out.at_ 0 (by simp)).parts; simpa using (HB1.out.cell (p := ⟨b, _, none⟩) this.1).trans this.2.2.1
  have e4 : w1.cell? ⟨b, o + 4, none⟩ = some (.int .i64 q.kind) := by have := (HL.out.at_ 1 (by simp)).parts; simpa using (HB1.out.cell (p := ⟨b, _, none⟩) this.1).trans this.2.1
  have e5 : w1.cell? ⟨b, o + 5, none⟩ = some (.int .i64 q.num) := by have := (HL.out.at_ 1 (by simp)).parts; simpa using (HB1.out.cell (p := ⟨b, _, none⟩) this.1).trans this.2.2.1
  clear HL
  go_wp2_with fail
  refine wp_loop_rounds 3 ?_
  rw [rounds_succ]
  go_wp2
  rw [rounds_succ]
  go_wp2
  rw [rounds_succ]
  go_wp2_with fail
  refine (ref_truth _ _).mono ?_
  rintro e w2 ⟨rfl, hb2⟩
  have hx2 := (hb2.block w.heap.size (by have := HB1.out.size; have := lt_of_block HX1.out; omega)).trans HX1.out
  have HX2 := Lib.hid hx2
  have f2 : ∀ j, w2.cell? ⟨w.heap.size, j, none⟩ = (#[.int .i64 0, .int .i64 0, .string ⟨#[]⟩, .slice none 0 0] : Array Value)[j]? := fun j => by simp [World.cell?, hx2]
  have g2 : ∀ j, w2.frozen? ⟨w.heap.size, j, none⟩ = false := fun j => by simp [World.frozen?, hx2]
  have HB2 := Lib.hid (HB1.out.trans (hb2.mono HB1.out.size))
  clear hb2 hx2 f0 g0 e0 e1 e4 e5
  unfold Pl.arg
  go_wp2
  refine bodyPost_ret (fn := Tryz.f7) (v := okP (.truth (decide (p.num < q.num)))) (res_cell_tmp2 (p := 4) (q := 5) (r := 6) (ty := 34) (a := ⟨w.heap.size, 0, none⟩) Tryz.results7 rfl (run_loadVar_row (P := Tryz.prog) _ _ _ 34 _ _ _ (blk_set (blk_set (blk_set (blk_set HX2.out 0 (.int .i64 _)) 1 (.int .i64 _)) 2 (.string ⟨#[]⟩)) 3 (.slice none 0 0)) Tryz.underlying34 rfl (by kernel_rfl)) rfl rfl) rfl ⟨rfl, below_set4 HB2.out (Nat.le_refl _) _ _ _ _⟩

set_option maxRecDepth 100000 in
set_option maxHeartbeats 4000000 in
theorem ref8_most (op : ByteArray) (p q : Pl) (A : Option Addr) (c : Nat) (w : World) (hlen : [p, q].length * 56 ≤ 140737488351232) (hl : Pls.lies w w.heap.size [p, q] A) (hE : askedR op [p, q] numRows = 0) (hp : p.kind = 3) (hq : q.kind = 3) (hop : op = ⟨#[110, 117, 109, 46, 109, 111, 115, 116]⟩) :
    Calls Tryz.prog 7 #[.string op, .slice A [p, q].length c] w (Bel (okP (.truth (decide (p.num ≤ q.num)))) w) := by
  have HB := Lib.hid (zero_box w)
  have KA := Lib.hid (ref_asked op [p, q] A c _ hlen (hl.below HB.out HB.out.size))
  rw [hE] at KA
  have HL := Lib.hid hl
  have hk : (p.kind != 3) = false := by simpa using hp
  clear hp
  have hk2 : (q.kind != 3) = false := by simpa using hq
  clear hq
  unfold zeroX at HB KA
  clear hl hE
  subst hop
  go_enter Tryz.func7, Tryz.ntmps7
  go_wp2_with fail
  refine KA.out.mono ?_
  rintro e w1 ⟨rfl, hb1⟩
  have hx1 := (hb1.block w.heap.size (by simp)).trans (heap_alloc_new w _)
  have HX1 := Lib.hid hx1
  have f0 : ∀ j, w1.cell? ⟨w.heap.size, j, none⟩ = (#[.int .i64 0, .int .i64 0, .string ⟨#[]⟩, .slice none 0 0] : Array Value)[j]? := fun j => by simp [World.cell?, hx1]
  have g0 : ∀ j, w1.frozen? ⟨w.heap.size, j, none⟩ = false := fun j => by simp [World.frozen?, hx1]
  have HB1 := Lib.hid (HB.out.trans (hb1.mono HB.out.size))
  clear hb1 hx1 KA
  obtain ⟨b, o, rfl⟩ := HL.out.head (by simp)
  have e0 : w1.cell? ⟨b, o, none⟩ = some (.int .i64 p.kind) := by have := (HL.out.at_ 0 (by simp)).parts; simpa using (HB1.out.cell (p := ⟨b, _, none⟩) this.1).trans this.2.1
  have e1 : w1.cell? ⟨b, o + 1, none⟩ = some (.int .i64 p.num) := by have := (HL.out.at_ 0 (by simp)).parts; simpa using (HB1.out.cell (p := ⟨b, _, none⟩) this.1).trans this.2.2.1
  have e4 : w1.cell? ⟨b, o + 4, none⟩ = some (.int .i64 q.kind) := by have := (HL.out.at_ 1 (by simp)).parts; simpa using (HB1.out.cell (p := ⟨b, _, none⟩) this.1).trans this.2.1
  have e5 : w1.cell? ⟨b, o + 5, none⟩ = some (.int .i64 q.num) := by have := (HL.out.at_ 1 (by simp)).parts; simpa using (HB1.out.cell (p := ⟨b, _, none⟩) this.1).trans this.2.2.1
  clear HL
  go_wp2_with fail
  refine wp_loop_rounds 3 ?_
  rw [rounds_succ]
  go_wp2
  rw [rounds_succ]
  go_wp2
  rw [rounds_succ]
  go_wp2_with fail
  refine (ref_truth _ _).mono ?_
  rintro e w2 ⟨rfl, hb2⟩
  have hx2 := (hb2.block w.heap.size (by have := HB1.out.size; have := lt_of_block HX1.out; omega)).trans HX1.out
  have HX2 := Lib.hid hx2
  have f2 : ∀ j, w2.cell? ⟨w.heap.size, j, none⟩ = (#[.int .i64 0, .int .i64 0, .string ⟨#[]⟩, .slice none 0 0] : Array Value)[j]? := fun j => by simp [World.cell?, hx2]
  have g2 : ∀ j, w2.frozen? ⟨w.heap.size, j, none⟩ = false := fun j => by simp [World.frozen?, hx2]
  have HB2 := Lib.hid (HB1.out.trans (hb2.mono HB1.out.size))
  clear hb2 hx2 f0 g0 e0 e1 e4 e5
  unfold Pl.arg
  go_wp2
  refine bodyPost_ret (fn := Tryz.f7) (v := okP (.truth (decide (p.num ≤ q.num)))) (res_cell_tmp2 (p := 4) (q := 5) (r := 6) (ty := 34) (a := ⟨w.heap.size, 0, none⟩) Tryz.results7 rfl (run_loadVar_row (P := Tryz.prog) _ _ _ 34 _ _ _ (blk_set (blk_set (blk_set (blk_set HX2.out 0 (.int .i64 _)) 1 (.int .i64 _)) 2 (.string ⟨#[]⟩)) 3 (.slice none 0 0)) Tryz.underlying34 rfl (by kernel_rfl)) rfl rfl) rfl ⟨rfl, below_set4 HB2.out (Nat.le_refl _) _ _ _ _⟩
end Go.Proofs.YtcdjnkeomaidaaaGreat

/-
  What the operations of package num (the closures of the table) come to, called by themselves: walks. Conditions: both numbers are of 64 bits.
-/
namespace Go.Proofs.YtcdjnkeomaidaaaGreat
open Go.RowKit

theorem num_whole_yes (n : Int) (w : World) : Calls Tryz.prog 31 #[.int .i64 n, .bool true] w fun e w' => e = .returned (.tuple #[.iface 65 (.int .i64 n), .int .i64 0]) ∧ w = w' := by
  go_enter Tryz.func31, Tryz.ntmps31
  go_wp2
  go_ret2
  exact ⟨rfl, rfl⟩
theorem num_whole_no (n : Int) (w : World) : Calls Tryz.prog 31 #[.int .i64 n, .bool false] w fun e w' => e = .returned (.tuple #[.nilIface, .int .i64 21]) ∧ w = w' := by
  go_enter Tryz.func31, Tryz.ntmps31
  go_wp2
  go_ret2
  exact ⟨rfl, rfl⟩
/-- What 'whole' answers: a number, or that it is too great. -/
def wholeV (n : Int) (ok : Bool) : Value := if ok then .tuple #[.iface 65 (.int .i64 n), .int .i64 0] else .tuple #[.nilIface, .int .i64 21]
theorem num_whole (n : Int) (ok : Bool) (w : World) : Calls Tryz.prog 31 #[.int .i64 n, .bool ok] w fun e w' => e = .returned (wholeV n ok) ∧ w = w' := by
  cases ok
  · exact num_whole_no n w
  · exact num_whole_yes n w
theorem num_add (a b : Int) (ha : rng a = true) (hb : rng b = true) (w : World) : Calls Tryz.prog 32 #[.int .i64 a, .int .i64 b] w fun e w' => e = .returned (.tuple #[.int .i64 (wrap64 (a + b)), .bool (rng (a + b))]) ∧ w = w' := by
  have ht := Lib.hid (add_test ha hb)
  clear ha hb
  go_enter Tryz.func32, Tryz.ntmps32
  go_wp2
  go_ret2
  exact ⟨by rw [ht.out]; rfl, rfl⟩
theorem num_sub (a b : Int) (ha : rng a = true) (hb : rng b = true) (w : World) : Calls Tryz.prog 34 #[.int .i64 a, .int .i64 b] w fun e w' => e = .returned (.tuple #[.int .i64 (wrap64 (a - b)), .bool (rng (a - b))]) ∧ w = w' := by
  have ht := Lib.hid (sub_test ha hb)
  clear ha hb
  go_enter Tryz.func34, Tryz.ntmps34
  go_wp2
  go_ret2
  exact ⟨by rw [ht.out]; rfl, rfl⟩
theorem u64_neg {a : Int} (h1 : -9223372036854775808 ≤ a) (h : a < 0) : IntKind.u64.wrap (-IntKind.u64.wrap a) = (a.natAbs : Int) := by
  rw [IntKind.wrap_u64, IntKind.wrap_u64]; omega
theorem num_size (a : Int) (ha : rng a = true) (w : World) : Calls Tryz.prog 71 #[.int .i64 a] w fun e w' => e = .returned (.int .u64 (a.natAbs : Int)) ∧ w = w' := by
  rw [rng_iff] at ha
  obtain ⟨h1, h2⟩ := ha
  by_cases h : a < 0
  · go_enter Tryz.func71, Tryz.ntmps71
    go_wp2
    go_ret
    exact ⟨ret_int (u64_neg h1 h), rfl⟩
  · go_enter Tryz.func71, Tryz.ntmps71
    go_wp2
    go_ret
    exact ⟨ret_int (by omega), rfl⟩
theorem num_mul64 (x y : Nat) (hx : x < 18446744073709551616) (hy : y < 18446744073709551616) (w : World) : Calls Tryz.prog 70 #[.int .u64 x, .int .u64 y] w fun e w' =>
    ∃ hi lo : Nat, e = .returned (.tuple #[.int .u64 hi, .int .u64 lo]) ∧ lo < 18446744073709551616 ∧ Hid (hi * 18446744073709551616 + lo = x * y) ∧ w = w' :=
  (Tryz.bits_Mul64 x y hx hy w).mono fun _ _ ⟨he, hw⟩ => ⟨_, _, he, Nat.mod_lt _ (by omega), by unfold Hid; omega, hw.symm⟩
theorem ret_mul {n p : Int} {t q : Bool} (h1 : n = p) (h2 : t = q) : Ending.returned (.tuple #[.int .i64 n, .bool t]) = .returned (.tuple #[.int .i64 p, .bool q]) := by rw [h1, h2]
set_option maxHeartbeats 1000000 in
theorem num_mul (a b : Int) (ha : rng a = true) (hb : rng b = true) (w : World) : Calls Tryz.prog 36 #[.int .i64 a, .int .i64 b] w fun e w' => e = .returned (.tuple #[.int .i64 (wrap64 (a * b)), .bool (rng (a * b))]) ∧ w = w' := by
  by_cases h1 : a < 0 <;> by_cases h2 : b < 0
  · have d1 : decide (a < 0) = true := by simpa using h1
    have d2 : decide (b < 0) = true := by simpa using h2
    go_enter Tryz.func36, Tryz.ntmps36
    go_wp2_with (first | (go_at_call 71; refine (num_size _ (by assumption) _).mono ?_; rintro e w' ⟨rfl, rfl⟩) | (go_at_call 70; refine (num_mul64 _ _ (natAbs_lt ‹_›) (natAbs_lt ‹_›) _).mono ?_; rintro e w' ⟨hi, lo, rfl, hlo, hp, rfl⟩))
    all_goals
      go_ret2
      have hm := mul_pos hlo (mul_same hp.out (by omega))
      refine ⟨ret_mul hm.1 (Eq.trans ?_ hm.2), rfl⟩
      first | (rw [decide_eq_decide]; omega) | exact (decide_eq_false (by omega)).symm
  · have d1 : decide (a < 0) = true := by simpa using h1
    have d2 : decide (b < 0) = false := by simpa using h2
    go_enter Tryz.func36, Tryz.ntmps36
    go_wp2_with (first | (go_at_call 71; refine (num_size _ (by assumption) _).mono ?_; rintro e w' ⟨rfl, rfl⟩) | (go_at_call 70; refine (num_mul64 _ _ (natAbs_lt ‹_›) (natAbs_lt ‹_›) _).mono ?_; rintro e w' ⟨hi, lo, rfl, hlo, hp, rfl⟩))
    all_goals
      go_ret2
      have hm := mul_neg hlo (mul_diff hp.out (by omega))
      refine ⟨ret_mul hm.1 (Eq.trans ?_ hm.2), rfl⟩
      first | (rw [decide_eq_decide]; omega) | exact (decide_eq_false (by omega)).symm
  · have d1 : decide (a < 0) = false := by simpa using h1
    have d2 : decide (b < 0) = true := by simpa using h2
    go_enter Tryz.func36, Tryz.ntmps36
    go_wp2_with (first | (go_at_call 71; refine (num_size _ (by assumption) _).mono ?_; rintro e w' ⟨rfl, rfl⟩) | (go_at_call 70; refine (num_mul64 _ _ (natAbs_lt ‹_›) (natAbs_lt ‹_›) _).mono ?_; rintro e w' ⟨hi, lo, rfl, hlo, hp, rfl⟩))
    all_goals
      go_ret2
      have hm := mul_neg hlo (mul_diff hp.out (by omega))
      refine ⟨ret_mul hm.1 (Eq.trans ?_ hm.2), rfl⟩
      first | (rw [decide_eq_decide]; omega) | exact (decide_eq_false (by omega)).symm
  · have d1 : decide (a < 0) = false := by simpa using h1
    have d2 : decide (b < 0) = false := by simpa using h2
    go_enter Tryz.func36, Tryz.ntmps36
    go_wp2_with (first | (go_at_call 71; refine (num_size _ (by assumption) _).mono ?_; rintro e w' ⟨rfl, rfl⟩) | (go_at_call 70; refine (num_mul64 _ _ (natAbs_lt ‹_›) (natAbs_lt ‹_›) _).mono ?_; rintro e w' ⟨hi, lo, rfl, hlo, hp, rfl⟩))
    all_goals
      go_ret2
      have hm := mul_pos hlo (mul_same hp.out (by omega))
      refine ⟨ret_mul hm.1 (Eq.trans ?_ hm.2), rfl⟩
      first | (rw [decide_eq_decide]; omega) | exact (decide_eq_false (by omega)).symm
end Go.Proofs.YtcdjnkeomaidaaaGreat

/-
  What 'num.pow' comes to: the power, or that it is over: a walk. Conditions: both numbers are of 64 bits, the second not below 0.
-/
namespace Go.Proofs.YtcdjnkeomaidaaaGreat
open Go.RowKit

/-- What is known of the loop's numbers. -/
structure PowInv (a0 : Int) (n0 : Nat) (a : Int) (n : Nat) (r : Int) : Prop where
  eq : r * a ^ n = a0 ^ n0
  ra : rng a = true
  rr : rng r = true
  nz : a = 0 ∨ r ≠ 0
  le : n ≤ n0
theorem PowInv.odd {a0 a r : Int} {n0 n : Nat} (h : PowInv a0 n0 a n r) (ho : n % 2 = 1) : r * a * (a * a) ^ (n / 2) = a0 ^ n0 := by
  rw [← h.eq, pow_odd (A := a) (n := n) (k := n / 2) (by omega), Int.mul_assoc]
theorem PowInv.even {a0 a r : Int} {n0 n : Nat} (h : PowInv a0 n0 a n r) (ho : n % 2 = 0) : r * (a * a) ^ (n / 2) = a0 ^ n0 := by
  rw [← h.eq, pow_even (A := a) (n := n) (k := n / 2) (by omega)]
theorem PowInv.nz2 {a0 a r : Int} {n0 n : Nat} (h : PowInv a0 n0 a n r) : a = 0 ∨ r * a ≠ 0 := by
  rcases h.nz with h | h
  · exact .inl h
  · by_cases ha : a = 0
    · exact .inl ha
    · exact .inr (Int.mul_ne_zero h ha)
theorem PowInv.odd_over {a0 a r : Int} {n0 n : Nat} (h : PowInv a0 n0 a n r) (ho : n % 2 = 1) (hr : rng (r * a) = false) : rng (a0 ^ n0) = false :=
  pow_over_mul (h.odd ho).symm hr
theorem PowInv.odd_sq_over {a0 a r : Int} {n0 n : Nat} (h : PowInv a0 n0 a n r) (ho : n % 2 = 1) (hn : 0 < n / 2) (hr : rng (a * a) = false) : rng (a0 ^ n0) = false := by
  refine pow_over_sq hn (h.odd ho).symm ?_ hr
  rcases h.nz2 with rfl | h
  · simp [rng] at hr
  · exact h
theorem PowInv.even_sq_over {a0 a r : Int} {n0 n : Nat} (h : PowInv a0 n0 a n r) (ho : n % 2 = 0) (hn : 0 < n / 2) (hr : rng (a * a) = false) : rng (a0 ^ n0) = false := by
  refine pow_over_sq hn (h.even ho).symm ?_ hr
  rcases h.nz with rfl | h
  · simp [rng] at hr
  · exact h
theorem PowInv.odd_sq {a0 a r : Int} {n0 n : Nat} (h : PowInv a0 n0 a n r) (ho : n % 2 = 1) (hr : rng (r * a) = true) (hs : rng (a * a) = true) : PowInv a0 n0 (a * a) (n / 2) (r * a) :=
  ⟨h.odd ho, hs, hr, by rcases h.nz2 with rfl | h; exact .inl rfl; exact .inr h, by have := h.le; omega⟩
theorem PowInv.odd_last {a0 a r : Int} {n0 n : Nat} (h : PowInv a0 n0 a n r) (ho : n % 2 = 1) (hl : n / 2 = 0) (hr : rng (r * a) = true) : PowInv a0 n0 a (n / 2) (r * a) :=
  ⟨by have := h.odd ho; rw [hl] at this ⊢; simpa using this, h.ra, hr, h.nz2, by have := h.le; omega⟩
theorem PowInv.even_sq {a0 a r : Int} {n0 n : Nat} (h : PowInv a0 n0 a n r) (ho : n % 2 = 0) (hs : rng (a * a) = true) : PowInv a0 n0 (a * a) (n / 2) r :=
  ⟨h.even ho, hs, h.rr, by rcases h.nz with rfl | h; exact .inl rfl; exact .inr h, by have := h.le; omega⟩
theorem PowInv.done {a0 a r : Int} {n0 : Nat} (h : PowInv a0 n0 a 0 r) : r = a0 ^ n0 := by have := h.eq; simpa using this
def powV (p : Int) : Value := .tuple #[.int .i64 (if rng p then p else 0), .bool (rng p)]
theorem powV_no {p : Int} (h : rng p = false) : powV p = .tuple #[.int .i64 0, .bool false] := by simp [powV, h]
theorem powV_yes {p r : Int} (h : rng r = true) (e : r = p) : powV p = .tuple #[.int .i64 r, .bool true] := by subst e; simp [powV, h]
theorem ret_v {a b : Value} (h : b = a) : Ending.returned a = .returned b := by rw [h]

theorem and_one {n : Int} (h : 0 ≤ n) (h1 : n ≤ 9223372036854775807) : bits .and .i64 n 1 = n % 2 := by
  obtain ⟨k, rfl⟩ := Int.eq_ofNat_of_zero_le h
  show IntKind.i64.wrap ((BitVec.ofInt 64 (k : Int) &&& BitVec.ofInt 64 (1 : Int)).toNat : Int) = _
  have e : ∀ a : Nat, a < 9223372036854775808 → (BitVec.ofInt 64 (a : Int)).toNat = a := fun a ha => by
    rw [BitVec.ofInt_natCast, BitVec.toNat_ofNat]; exact Nat.mod_eq_of_lt (by omega)
  rw [BitVec.toNat_and, e k (by omega), show (1 : Int) = ((1 : Nat) : Int) from rfl, e 1 (by omega), Nat.and_one_is_mod, IntKind.wrap_i64]
  omega

set_option maxHeartbeats 1000000 in
theorem num_pow (a n : Int) (ha : rng a = true) (hn : 0 ≤ n) (hn1 : n ≤ 9223372036854775807) (w : World) : Calls Tryz.prog 40 #[.int .i64 a, .int .i64 n] w fun e w' => e = .returned (powV (a ^ n.toNat)) ∧ w = w' := by
  go_enter Tryz.func40, Tryz.ntmps40
  go_wp2
  go_loop [0, 1, 6, 7] (fun s0 s1 s6 s7 => ∃ (x : Int) (m : Nat) (r : Int), s0 = .int .i64 x ∧ s1 = .int .i64 (m : Int) ∧ s6 = .int .i64 r ∧ s7 = .bool true ∧ PowInv a n.toNat x m r) (fun _ s1 _ _ => (intOf s1).toNat)
  case atStart => exact ⟨a, n.toNat, 1, rfl, by rw [Int.toNat_of_nonneg hn], rfl, rfl, by simp, ha, rfl, .inr (by decide), Nat.le_refl _⟩
  case round =>
    obtain ⟨x, m, r, rfl, rfl, rfl, rfl, inv⟩ := hrel
    have hm : m ≤ 9223372036854775807 := by have := inv.le; omega
    by_cases h0 : m = 0
    · subst h0
      have hr := inv.rr
      have hd := Lib.hid (powV_yes inv.rr inv.done)
      go_wp2
      go_ret2
      exact ⟨ret_v hd.out, rfl⟩
    · have hpos : (0 : Int) < (m : Int) := by omega
      have hra := inv.ra
      have hrr := inv.rr
      have hand := and_one (show 0 ≤ (m : Int) by omega) (by omega)
      by_cases ho : m % 2 = 1
      · have hob : ((m : Int) % 2 == 1) = true := beq_iff_eq.2 (by omega)
        cases hm1 : rng (r * x) with
        | false =>
          have hd := Lib.hid (powV_no (inv.odd_over ho hm1))
          go_wp2_with (first | (go_at_call 36; refine (num_mul _ _ (by assumption) (by assumption) _).mono ?_; rintro e w' ⟨rfl, rfl⟩))
          go_ret2
          exact ⟨ret_v hd.out, rfl⟩
        | true =>
          have e1 := wrap_rng hm1
          by_cases hl : 0 < m / 2
          · have hl' : (0 : Int) < (m : Int) / 2 := by omega
            cases hs : rng (x * x) with
            | false =>
              have hd := Lib.hid (powV_no (inv.odd_sq_over ho hl hs))
              go_wp2_with (first | (go_at_call 36; refine (num_mul _ _ (by assumption) (by assumption) _).mono ?_; rintro e w' ⟨rfl, rfl⟩))
              go_ret2
              exact ⟨ret_v hd.out, rfl⟩
            | true =>
              have e2 := wrap_rng hs
              go_wp2_with (first | (go_at_call 36; refine (num_mul _ _ (by assumption) (by assumption) _).mono ?_; rintro e w' ⟨rfl, rfl⟩))
              go_round
              case rel => exact ⟨_, m / 2, _, rfl, by simp, rfl, rfl, inv.odd_sq ho hm1 hs⟩
              case measure => simp [intOf]; omega
          · have hl' : ¬ (0 : Int) < (m : Int) / 2 := by omega
            go_wp2_with (first | (go_at_call 36; refine (num_mul _ _ (by assumption) (by assumption) _).mono ?_; rintro e w' ⟨rfl, rfl⟩))
            go_round
            case rel => exact ⟨_, m / 2, _, rfl, by simp, rfl, rfl, inv.odd_last ho (by omega) hm1⟩
            case measure => simp [intOf]; omega
      · have hob : ((m : Int) % 2 == 1) = false := beq_eq_false_iff_ne.2 (by omega)
        have hl : 0 < m / 2 := by omega
        have hl' : (0 : Int) < (m : Int) / 2 := by omega
        cases hs : rng (x * x) with
        | false =>
          have hd := Lib.hid (powV_no (inv.even_sq_over (by omega) hl hs))
          go_wp2_with (first | (go_at_call 36; refine (num_mul _ _ (by assumption) (by assumption) _).mono ?_; rintro e w' ⟨rfl, rfl⟩))
          go_ret2
          exact ⟨ret_v hd.out, rfl⟩
        | true =>
          have e2 := wrap_rng hs
          go_wp2_with (first | (go_at_call 36; refine (num_mul _ _ (by assumption) (by assumption) _).mono ?_; rintro e w' ⟨rfl, rfl⟩))
          go_round
          case rel => exact ⟨_, m / 2, _, rfl, by simp, rfl, rfl, inv.even_sq (by omega) hs⟩
          case measure => simp [intOf]; omega
end Go.Proofs.YtcdjnkeomaidaaaGreat

/-
  What the twelve functions of the table of package num come to: walks. Conditions: both numbers are of 64 bits.
-/
namespace Go.Proofs.YtcdjnkeomaidaaaGreat
open Go.RowKit
set_option linter.unusedVariables false

def faultV (e : Int) : Value := .tuple #[.nilIface, .int .i64 e]
def numV (n : Int) : Value := .tuple #[.iface 65 (.int .i64 n), .int .i64 0]
def truthV (b : Bool) : Value := .tuple #[.iface 45 (.bool b), .int .i64 0]
/-- A number, or that it is over. -/
def exactV (n : Int) : Value := if rng n then numV n else faultV 21
theorem whole_exact (n : Int) : wholeV (wrap64 n) (rng n) = exactV n := by
  unfold wholeV exactV
  cases h : rng n
  · rfl
  · rw [wrap_rng h]; rfl
theorem whole_pow (p : Int) : wholeV (if rng p then p else 0) (rng p) = exactV p := by
  unfold wholeV exactV
  cases h : rng p <;> rfl
theorem whole_of {n p : Int} {ok : Bool} (h1 : ok = rng p) (h2 : rng p = true → n = p) : wholeV n ok = exactV p := by
  subst h1
  unfold wholeV exactV
  cases h : rng p
  · rfl
  · rw [h2 h]; rfl
/-- A result of two parts, by its name. -/
theorem two_parts {P : Program} {f : FuncId} {args : Array Value} {w : World} {v : Value} (h : Calls P f args w fun e w' => e = .returned v ∧ w = w') (hv : ∃ x y, v = .tuple #[x, y]) :
    Calls P f args w fun e w' => ∃ x y, e = .returned (.tuple #[x, y]) ∧ Hid (.tuple #[x, y] = v) ∧ w = w' := by
  obtain ⟨x, y, rfl⟩ := hv
  exact h.mono fun _ _ ⟨he, hw⟩ => ⟨x, y, he, rfl, hw⟩
theorem wholeV_two (n : Int) (ok : Bool) : ∃ x y, wholeV n ok = .tuple #[x, y] := by unfold wholeV; cases ok <;> exact ⟨_, _, rfl⟩

theorem two_add (a b : Int) (ha : rng a = true) (hb : rng b = true) (w : World) : Calls Tryz.prog 30 #[.int .i64 a, .int .i64 b] w fun e w' => e = .returned (exactV (a + b)) ∧ w = w' := by
  have hx := Lib.hid (whole_exact (a + b))
  go_enter Tryz.func30, Tryz.ntmps30
  go_wp2_with (first | (go_at_call 32; refine (num_add _ _ (by assumption) (by assumption) _).mono ?_; rintro e w' ⟨rfl, rfl⟩) | (go_at_call 31; refine (two_parts (num_whole _ _ _) (wholeV_two _ _)).mono ?_; rintro e w' ⟨x, y, rfl, hv, rfl⟩))
  go_ret2
  exact ⟨ret_v (hx.out ▸ hv.out.symm), rfl⟩
theorem two_sub (a b : Int) (ha : rng a = true) (hb : rng b = true) (w : World) : Calls Tryz.prog 33 #[.int .i64 a, .int .i64 b] w fun e w' => e = .returned (exactV (a - b)) ∧ w = w' := by
  have hx := Lib.hid (whole_exact (a - b))
  go_enter Tryz.func33, Tryz.ntmps33
  go_wp2_with (first | (go_at_call 34; refine (num_sub _ _ (by assumption) (by assumption) _).mono ?_; rintro e w' ⟨rfl, rfl⟩) | (go_at_call 31; refine (two_parts (num_whole _ _ _) (wholeV_two _ _)).mono ?_; rintro e w' ⟨x, y, rfl, hv, rfl⟩))
  go_ret2
  exact ⟨ret_v (hx.out ▸ hv.out.symm), rfl⟩
theorem two_mul (a b : Int) (ha : rng a = true) (hb : rng b = true) (w : World) : Calls Tryz.prog 35 #[.int .i64 a, .int .i64 b] w fun e w' => e = .returned (exactV (a * b)) ∧ w = w' := by
  have hx := Lib.hid (whole_exact (a * b))
  go_enter Tryz.func35, Tryz.ntmps35
  go_wp2_with (first | (go_at_call 36; refine (num_mul _ _ (by assumption) (by assumption) _).mono ?_; rintro e w' ⟨rfl, rfl⟩) | (go_at_call 31; refine (two_parts (num_whole _ _ _) (wholeV_two _ _)).mono ?_; rintro e w' ⟨x, y, rfl, hv, rfl⟩))
  go_ret2
  exact ⟨ret_v (hx.out ▸ hv.out.symm), rfl⟩

def quoV (a b : Int) : Value := if b = 0 then faultV 22 else exactV (a.tdiv b)
theorem two_quo (a b : Int) (ha : rng a = true) (hb : rng b = true) (w : World) : Calls Tryz.prog 37 #[.int .i64 a, .int .i64 b] w fun e w' => e = .returned (quoV a b) ∧ w = w' := by
  by_cases h0 : b = 0
  · subst h0
    go_enter Tryz.func37, Tryz.ntmps37
    go_wp2
    go_ret2
    exact ⟨rfl, rfl⟩
  · have h0b : (b == 0) = false := by simpa using h0
    have hq : quoV a b = exactV (a.tdiv b) := if_neg h0
    by_cases h1 : a = -9223372036854775808
    · have h1b : (a != -9223372036854775808) = false := by simpa using h1
      by_cases h2 : b = -1
      · subst h1 h2
        go_enter Tryz.func37, Tryz.ntmps37
        go_wp2_with (first | (go_at_call 31; refine (two_parts (num_whole _ _ _) (wholeV_two _ _)).mono ?_; rintro e w' ⟨x, y, rfl, hv, rfl⟩))
        go_ret2
        exact ⟨ret_v (hv.out.symm), rfl⟩
      · have h2b : (b != -1) = true := by simpa using h2
        have hr := tdiv_rng ha h0 (by omega)
        have hx := Lib.hid (hq.trans (whole_of (n := wrap64 (a.tdiv b)) (ok := true) hr.symm (fun h => wrap_rng h)).symm)
        clear hq h1
        go_enter Tryz.func37, Tryz.ntmps37
        go_wp2_with (first | (go_at_call 31; refine (two_parts (num_whole _ _ _) (wholeV_two _ _)).mono ?_; rintro e w' ⟨x, y, rfl, hv, rfl⟩))
        go_ret2
        exact ⟨ret_v (hx.out.trans hv.out.symm), rfl⟩
    · have h1b : (a != -9223372036854775808) = true := by simpa using h1
      have hr := tdiv_rng ha h0 (by omega)
      have hx := Lib.hid (hq.trans (whole_of (n := wrap64 (a.tdiv b)) (ok := true) hr.symm (fun h => wrap_rng h)).symm)
      clear hq hr
      go_enter Tryz.func37, Tryz.ntmps37
      go_wp2_with (first | (go_at_call 31; refine (two_parts (num_whole _ _ _) (wholeV_two _ _)).mono ?_; rintro e w' ⟨x, y, rfl, hv, rfl⟩))
      go_ret2
      exact ⟨ret_v (hx.out.trans hv.out.symm), rfl⟩

def modV (a b : Int) : Value := if b = 0 then faultV 22 else numV (modR a b)
theorem two_mod (a b : Int) (ha : rng a = true) (hb : rng b = true) (w : World) : Calls Tryz.prog 38 #[.int .i64 a, .int .i64 b] w fun e w' => e = .returned (modV a b) ∧ w = w' := by
  by_cases h0 : b = 0
  · subst h0
    go_enter Tryz.func38, Tryz.ntmps38
    go_wp2
    go_ret2
    exact ⟨rfl, rfl⟩
  · by_cases h1 : b = -1
    · subst h1
      have hx := Lib.hid (show modV a (-1) = numV 0 by unfold modV modR; rw [tmod_m1]; rfl)
      go_enter Tryz.func38, Tryz.ntmps38
      go_wp2
      go_ret2
      exact ⟨ret_v hx.out, rfl⟩
    · have h0b : (b == 0) = false := by simpa using h0
      have h1b : (b == -1) = false := by simpa using h1
      have hv : modV a b = numV (modR a b) := if_neg h0
      rw [rng_iff] at hb
      obtain ⟨hb1, hb2⟩ := hb
      have hf2 := (tmod_facts (a := a) h0).2.1
      by_cases hz : a.tmod b = 0
      · have hzb : (a.tmod b != 0) = false := by simpa using hz
        have hx := Lib.hid (hv.trans (show numV (modR a b) = numV (a.tmod b) by unfold modR; rw [if_neg (by simp [hz])]))
        clear hv hf2
        clear hz
        go_enter Tryz.func38, Tryz.ntmps38
        go_wp2
        go_ret2
        exact ⟨ret_v hx.out, rfl⟩
      · have hzb : (a.tmod b != 0) = true := by simpa using hz
        by_cases h2 : a.tmod b < 0 <;> by_cases h3 : b < 0
        · have hx := Lib.hid (hv.trans (show numV (modR a b) = numV (a.tmod b) by unfold modR; rw [if_neg (by simp [h2, h3])]))
          have d2 : decide (a.tmod b < 0) = true := by simpa using h2
          have d3 : decide (b < 0) = true := by simpa using h3
          clear hv hf2 hz
          go_enter Tryz.func38, Tryz.ntmps38
          go_wp2
          go_ret2
          exact ⟨ret_v hx.out, rfl⟩
        · have hx := Lib.hid (hv.trans (show numV (modR a b) = numV (a.tmod b + b) by unfold modR; rw [if_pos ⟨hz, by simp [h2, h3]⟩]))
          have d2 : decide (a.tmod b < 0) = true := by simpa using h2
          have d3 : decide (b < 0) = false := by simpa using h3
          have e1 : wrap64 (a.tmod b + b) = a.tmod b + b := by unfold wrap64; omega
          clear hv hf2 hz
          go_enter Tryz.func38, Tryz.ntmps38
          go_wp2
          go_ret2
          exact ⟨ret_v hx.out, rfl⟩
        · have hx := Lib.hid (hv.trans (show numV (modR a b) = numV (a.tmod b + b) by unfold modR; rw [if_pos ⟨hz, by simp [h2, h3]⟩]))
          have d2 : decide (a.tmod b < 0) = false := by simpa using h2
          have d3 : decide (b < 0) = true := by simpa using h3
          have e1 : wrap64 (a.tmod b + b) = a.tmod b + b := by unfold wrap64; omega
          clear hv hf2 hz
          go_enter Tryz.func38, Tryz.ntmps38
          go_wp2
          go_ret2
          exact ⟨ret_v hx.out, rfl⟩
        · have hx := Lib.hid (hv.trans (show numV (modR a b) = numV (a.tmod b) by unfold modR; rw [if_neg (by simp [h2, h3])]))
          have d2 : decide (a.tmod b < 0) = false := by simpa using h2
          have d3 : decide (b < 0) = false := by simpa using h3
          clear hv hf2 hz
          go_enter Tryz.func38, Tryz.ntmps38
          go_wp2
          go_ret2
          exact ⟨ret_v hx.out, rfl⟩

def powVV (a b : Int) : Value := if b < 0 then faultV 23 else exactV (a ^ b.toNat)
theorem powV_two (p : Int) : ∃ n ok, powV p = .tuple #[.int .i64 n, .bool ok] ∧ n = (if rng p then p else 0) ∧ ok = rng p := ⟨_, _, rfl, rfl, rfl⟩
theorem num_pow2 (a n : Int) (ha : rng a = true) (hn : 0 ≤ n) (hn1 : n ≤ 9223372036854775807) (w : World) : Calls Tryz.prog 40 #[.int .i64 a, .int .i64 n] w fun e w' =>
    ∃ (p : Int) (ok : Bool), e = .returned (.tuple #[.int .i64 p, .bool ok]) ∧ Hid (p = (if rng (a ^ n.toNat) then a ^ n.toNat else 0)) ∧ Hid (ok = rng (a ^ n.toNat)) ∧ w = w' :=
  (num_pow a n ha hn hn1 w).mono fun _ _ ⟨he, hw⟩ => ⟨_, _, he, rfl, rfl, hw⟩
theorem two_pow (a b : Int) (ha : rng a = true) (hb : rng b = true) (w : World) : Calls Tryz.prog 39 #[.int .i64 a, .int .i64 b] w fun e w' => e = .returned (powVV a b) ∧ w = w' := by
  by_cases h0 : b < 0
  · have hx := Lib.hid (show powVV a b = faultV 23 from if_pos h0)
    go_enter Tryz.func39, Tryz.ntmps39
    go_wp2
    go_ret2
    exact ⟨ret_v hx.out, rfl⟩
  · have hx := Lib.hid (show powVV a b = exactV (a ^ b.toNat) from if_neg h0)
    rw [rng_iff] at hb
    obtain ⟨_, hb2⟩ := hb
    go_enter Tryz.func39, Tryz.ntmps39
    go_wp2_with (first | (go_at_call 40; refine (num_pow2 _ _ ha (by omega) (by omega) _).mono ?_; rintro e w' ⟨p, ok, rfl, hp, hok, rfl⟩) | (go_at_call 31; refine (two_parts (num_whole _ _ _) (wholeV_two _ _)).mono ?_; rintro e w' ⟨x, y, rfl, hv, rfl⟩))
    go_ret2
    exact ⟨ret_v (hx.out.trans ((whole_of hok.out (fun h => by rw [hp.out, if_pos h])).symm.trans hv.out.symm)), rfl⟩

theorem two_neg (a b : Int) (ha : rng a = true) (w : World) : Calls Tryz.prog 41 #[.int .i64 a, .int .i64 b] w fun e w' => e = .returned (exactV (-a)) ∧ w = w' := by
  by_cases h : a = -9223372036854775808
  · subst h
    go_enter Tryz.func41, Tryz.ntmps41
    go_wp2_with (first | (go_at_call 31; refine (two_parts (num_whole _ _ _) (wholeV_two _ _)).mono ?_; rintro e w' ⟨x, y, rfl, hv, rfl⟩))
    go_ret2
    exact ⟨ret_v (hv.out.symm), rfl⟩
  · have hb : (a != -9223372036854775808) = true := by simpa using h
    have hr : rng (-a) = true := by rw [rng_iff] at ha ⊢; omega
    have hx := Lib.hid (whole_of (n := wrap64 (-a)) (ok := true) hr.symm (fun h => wrap_rng h))
    clear hr ha h
    go_enter Tryz.func41, Tryz.ntmps41
    go_wp2_with (first | (go_at_call 31; refine (two_parts (num_whole _ _ _) (wholeV_two _ _)).mono ?_; rintro e w' ⟨x, y, rfl, hv, rfl⟩))
    go_ret2
    exact ⟨ret_v (hx.out.symm.trans hv.out.symm), rfl⟩
theorem two_abs (a b : Int) (ha : rng a = true) (w : World) : Calls Tryz.prog 42 #[.int .i64 a, .int .i64 b] w fun e w' => e = .returned (exactV (a.natAbs : Int)) ∧ w = w' := by
  by_cases h0 : a < 0
  · by_cases h : a = -9223372036854775808
    · subst h
      go_enter Tryz.func42, Tryz.ntmps42
      go_wp2_with (first | (go_at_call 31; refine (two_parts (num_whole _ _ _) (wholeV_two _ _)).mono ?_; rintro e w' ⟨x, y, rfl, hv, rfl⟩))
      go_ret2
      exact ⟨ret_v (hv.out.symm), rfl⟩
    · have hb : (a != -9223372036854775808) = true := by simpa using h
      have hr : rng (a.natAbs : Int) = true := by rw [rng_iff] at ha ⊢; omega
      have hx := Lib.hid (whole_of (n := wrap64 (-a)) (ok := true) hr.symm (fun h => by rw [rng_iff] at h; unfold wrap64; omega))
      clear hr ha h
      go_enter Tryz.func42, Tryz.ntmps42
      go_wp2_with (first | (go_at_call 31; refine (two_parts (num_whole _ _ _) (wholeV_two _ _)).mono ?_; rintro e w' ⟨x, y, rfl, hv, rfl⟩))
      go_ret2
      exact ⟨ret_v (hx.out.symm.trans hv.out.symm), rfl⟩
  · have hr : rng (a.natAbs : Int) = true := by rw [rng_iff] at ha ⊢; omega
    have hx := Lib.hid (show exactV (a.natAbs : Int) = numV a by unfold exactV; rw [if_pos hr, show ((a.natAbs : Nat) : Int) = a by omega])
    clear hr ha
    go_enter Tryz.func42, Tryz.ntmps42
    go_wp2
    go_ret2
    exact ⟨ret_v hx.out, rfl⟩
theorem two_min (a b : Int) (w : World) : Calls Tryz.prog 43 #[.int .i64 a, .int .i64 b] w fun e w' => e = .returned (numV (min a b)) ∧ w = w' := by
  go_enter Tryz.func43, Tryz.ntmps43
  go_wp2
  go_ret2
  exact ⟨rfl, rfl⟩
theorem two_max (a b : Int) (w : World) : Calls Tryz.prog 44 #[.int .i64 a, .int .i64 b] w fun e w' => e = .returned (numV (max a b)) ∧ w = w' := by
  go_enter Tryz.func44, Tryz.ntmps44
  go_wp2
  go_ret2
  exact ⟨rfl, rfl⟩
theorem two_less (a b : Int) (w : World) : Calls Tryz.prog 45 #[.int .i64 a, .int .i64 b] w fun e w' => e = .returned (truthV (decide (a < b))) ∧ w = w' := by
  go_enter Tryz.func45, Tryz.ntmps45
  go_wp2
  go_ret2
  exact ⟨rfl, rfl⟩
theorem two_most (a b : Int) (w : World) : Calls Tryz.prog 46 #[.int .i64 a, .int .i64 b] w fun e w' => e = .returned (truthV (decide (a ≤ b))) ∧ w = w' := by
  go_enter Tryz.func46, Tryz.ntmps46
  go_wp2
  go_ret2
  exact ⟨rfl, rfl⟩
end Go.Proofs.YtcdjnkeomaidaaaGreat
