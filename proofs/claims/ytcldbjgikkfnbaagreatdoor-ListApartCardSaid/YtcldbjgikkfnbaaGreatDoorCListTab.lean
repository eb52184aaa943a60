/-
  Texts of a proof in one: ListTab, ListWorkC. Conditions: each names its own.
-/
import Derived.Test.YtcldbjgikkfnbaaGreatDoorCListOps4
import Derived.Test.YtcldbjgikkfnbaaGreatDoorCZvalRight3
import Derived.Test.YtcldbjgikkfnbaaGreatDoorCMapLaws
import Derived.Laws.EntriesVeiled
/-
  The table of package list: the map that 'list.ops' makes, what is found in it; list.Do, list.Work: walks. Written by a program of mine (gen_listtab.py). Conditions: the values lie in memory.
-/
namespace Go.Proofs.YtcldbjgikkfnbaaGreatDoor
open Go.RowKit
set_option linter.unusedVariables false

def lOp (many : Int) (f : FuncId) : Value := .agg #[.int .i64 many, .func (.func f) #[] #[]]
def lTab : Array MapEntry := #[⟨.string ⟨#[108, 105, 115, 116, 46, 111, 102]⟩, .agg #[.int .i64 (-1), .func (.func 43) #[] #[]], 0⟩, ⟨.string ⟨#[108, 105, 115, 116, 46, 115, 105, 122, 101]⟩, .agg #[.int .i64 1, .func (.func 45) #[] #[]], 1⟩, ⟨.string ⟨#[108, 105, 115, 116, 46, 97, 116]⟩, .agg #[.int .i64 2, .func (.func 47) #[] #[]], 2⟩, ⟨.string ⟨#[108, 105, 115, 116, 46, 106, 111, 105, 110]⟩, .agg #[.int .i64 2, .func (.func 48) #[] #[]], 3⟩, ⟨.string ⟨#[108, 105, 115, 116, 46, 97, 100, 100]⟩, .agg #[.int .i64 2, .func (.func 49) #[] #[]], 4⟩, ⟨.string ⟨#[108, 105, 115, 116, 46, 99, 117, 116]⟩, .agg #[.int .i64 3, .func (.func 51) #[] #[]], 5⟩, ⟨.string ⟨#[108, 105, 115, 116, 46, 116, 117, 114, 110]⟩, .agg #[.int .i64 1, .func (.func 52) #[] #[]], 6⟩, ⟨.string ⟨#[108, 105, 115, 116, 46, 99, 111, 117, 110, 116]⟩, .agg #[.int .i64 1, .func (.func 54) #[] #[]], 7⟩]
set_option maxRecDepth 100000 in
theorem list_ops (w : World) : Calls Tryz.prog 27 #[] w fun e w' => e = .returned (.map (some w.heap.size)) ∧ w.alloc (.map lTab 8) = w' := by
  have hmm := @run_makeMap Tryz.prog
  go_enter Tryz.func27, Tryz.ntmps27
  go_wp2_with (refine wpList_insert_new _ rfl 82 9 80 _ _ _ rfl Tryz.underlying82 Tryz.underlying9 _ _ _ rfl rfl (by kernel_rfl) ?_)
  go_ret
  exact ⟨rfl, rfl⟩
theorem lf_of : Instr.findNow .string (.string ln_of) lTab.toList 0 = some (some (0, lOp (-1) 43)) := by kernel_rfl
theorem lc_of : ∀ (args : Array Value) (w : World), (callFunc 43 args).run Tryz.prog w = .ok (.enter 43 args) w := fun args w => by kernel_rfl
theorem lf_size : Instr.findNow .string (.string ln_size) lTab.toList 0 = some (some (1, lOp 1 45)) := by kernel_rfl
theorem lc_size : ∀ (args : Array Value) (w : World), (callFunc 45 args).run Tryz.prog w = .ok (.enter 45 args) w := fun args w => by kernel_rfl
theorem lf_at : Instr.findNow .string (.string ln_at) lTab.toList 0 = some (some (2, lOp 2 47)) := by kernel_rfl
theorem lc_at : ∀ (args : Array Value) (w : World), (callFunc 47 args).run Tryz.prog w = .ok (.enter 47 args) w := fun args w => by kernel_rfl
theorem lf_join : Instr.findNow .string (.string ln_join) lTab.toList 0 = some (some (3, lOp 2 48)) := by kernel_rfl
theorem lc_join : ∀ (args : Array Value) (w : World), (callFunc 48 args).run Tryz.prog w = .ok (.enter 48 args) w := fun args w => by kernel_rfl
theorem lf_add : Instr.findNow .string (.string ln_add) lTab.toList 0 = some (some (4, lOp 2 49)) := by kernel_rfl
theorem lc_add : ∀ (args : Array Value) (w : World), (callFunc 49 args).run Tryz.prog w = .ok (.enter 49 args) w := fun args w => by kernel_rfl
theorem lf_cut : Instr.findNow .string (.string ln_cut) lTab.toList 0 = some (some (5, lOp 3 51)) := by kernel_rfl
theorem lc_cut : ∀ (args : Array Value) (w : World), (callFunc 51 args).run Tryz.prog w = .ok (.enter 51 args) w := fun args w => by kernel_rfl
theorem lf_turn : Instr.findNow .string (.string ln_turn) lTab.toList 0 = some (some (6, lOp 1 52)) := by kernel_rfl
theorem lc_turn : ∀ (args : Array Value) (w : World), (callFunc 52 args).run Tryz.prog w = .ok (.enter 52 args) w := fun args w => by kernel_rfl
theorem lf_count : Instr.findNow .string (.string ln_count) lTab.toList 0 = some (some (7, lOp 1 54)) := by kernel_rfl
theorem lc_count : ∀ (args : Array Value) (w : World), (callFunc 54 args).run Tryz.prog w = .ok (.enter 54 args) w := fun args w => by kernel_rfl
/-- What Do gives, what Work gives. -/
def LDo (r : Int × Vl) (S : Nat → Prop) (w : World) (e : Ending) (w' : World) : Prop :=
  ∃ v, e = .returned (.tuple #[v, .int .i64 r.1, .string ⟨#[]⟩]) ∧ (r.1 = 0 → r.2.sep w' (fun b => S b ∨ fresh w w' b) v) ∧ (r.1 ≠ 0 → v = .nilIface) ∧ Below w.heap.size w w'
def LWork (r : Int × Vl) (w : World) (e : Ending) (w' : World) : Prop :=
  ∃ v, e = .returned (.tuple #[v, .int .i64 r.1, .string ⟨#[]⟩]) ∧ (r.1 = 0 → r.2.sep w' (fresh w w') v) ∧ (r.1 ≠ 0 → v = .nilIface) ∧ Below w.heap.size w w'
theorem lwork_bad {n : Int} (hn : n ≠ 0) (w w' : World) (hb : Below w.heap.size w w') : LWork (lBad n) w (.returned (.tuple #[.nilIface, .int .i64 n, .string ⟨#[]⟩])) w' := ⟨_, rfl, fun h => absurd h hn, fun _ => rfl, hb⟩
set_option maxRecDepth 100000 in
theorem list_Do_op {op : ByteArray} {i : Nat} {many : Int} {f : FuncId} (hf : Instr.findNow .string (.string op) lTab.toList 0 = some (some (i, lOp many f))) (hcall : ∀ (args : Array Value) (w : World), (callFunc f args).run Tryz.prog w = .ok (.enter f args) w)
    (r : Int × Vl) (S : Nat → Prop) (v : Value) (w : World) (hR : ∀ w', Below w.heap.size w w' → Calls Tryz.prog f #[v] w' (LOut r (fun b => S b ∨ fresh w w' b) w')) : Calls Tryz.prog 29 #[.string op, v] w (LDo r S w) := by
  have hlk := run_lookup_hit (P := Tryz.prog) (T := 82) (K := 9) (E := 80) (r := w.heap.size) (es := lTab) (c := 8) (s := op) (w := w.alloc (.map lTab 8)) Tryz.underlying82 Tryz.underlying9 (heap_alloc_new w _) hf
  unfold lOp at hlk
  have HB0 := Lib.hid (((Below.refl w.heap.size w).alloc (Nat.le_refl _) (.map lTab 8)).alloc (by simp) (.cells #[.int .i64 many, .func (.func f) #[] #[]] 80))
  have KR := Lib.hid (hR _ HB0.out)
  have hstf : ∀ (a : Addr) (F : FuncId) (cap : Array Value) (w : World), (store a (.func (.func F) #[] cap)).run Tryz.prog w = stored Tryz.prog w a (.func (.func F) #[] cap) .plain := fun a F cap w => run_store Tryz.prog w a _ .plain rfl
  clear hf hR
  go_enter Tryz.func29, Tryz.ntmps29
  go_wp2_with fail
  refine (list_ops w).mono ?_
  rintro e w' ⟨rfl, rfl⟩
  go_wp2_with fail
  refine KR.out.mono ?_
  rintro e w2 ⟨z, rfl, h1, h2, hb⟩
  have H1 := Lib.hid h1
  have H2 := Lib.hid h2
  have HB2 := Lib.hid hb
  clear h1 h2 hb KR
  go_wp2
  go_ret3
  refine ⟨_, rfl, fun h => (H1.out h).mono (fun b hb => ?_), H2.out, HB0.out.trans (HB2.out.mono HB0.out.size)⟩
  have hs := HB2.out.size
  have hs0 := HB0.out.size
  rcases hb with (hb | hb) | hb
  · exact .inl hb
  · exact .inr ⟨hb.1, by have := hb.2; omega⟩
  · exact .inr ⟨by have := hb.1; omega, hb.2⟩
theorem list_Work_none (op : ByteArray) (hf : Instr.findNow .string (.string op) lTab.toList 0 = some none) (v : Value) (w : World) : Calls Tryz.prog 12 #[.string op, v] w (LWork (lBad 1) w) := by
  have hl := run_lookup_miss (P := Tryz.prog) (T := 82) (K := 9) (E := 80) (r := w.heap.size) (es := lTab) (c := 8) (s := op) (w := w.alloc (.map lTab 8)) (z := .agg #[.int .i64 0, .nilFunc]) Tryz.underlying82 Tryz.underlying9 (by kernel_rfl) (heap_alloc_new w _) hf
  have HB := Lib.hid ((Below.refl w.heap.size w).alloc (Nat.le_refl _) (.map lTab 8))
  clear hf
  go_enter Tryz.func12, Tryz.ntmps12
  go_wp2_with fail
  refine (list_ops w).mono ?_
  rintro e w' ⟨rfl, rfl⟩
  go_wp2
  go_ret3
  exact lwork_bad (by decide) _ _ (HB.out.alloc (by simp) _)
set_option maxRecDepth 100000 in
set_option maxHeartbeats 4000000 in
theorem list_Work_op {op : ByteArray} {i : Nat} {many : Int} {f : FuncId} (hf : Instr.findNow .string (.string op) lTab.toList 0 = some (some (i, lOp many f))) (hcall : ∀ (args : Array Value) (w : World), (callFunc f args).run Tryz.prog w = .ok (.enter f args) w)
    (g : List Vl → Int × Vl) (cnt : Option Nat) (hcnt : (cnt = none ∧ many = -1) ∨ ∃ k : Nat, cnt = some k ∧ many = k ∧ k ≤ 3) (ps : List Pl) (A : Option Addr) (c : Nat) (w : World) (hlen : ps.length * 56 ≤ 140737488351232) (hl : Pls.lies w w.heap.size ps A)
    (hR : (cnt = none ∨ cnt = some ps.length) → ps.all Pl.ok = true → ∀ (A : Option Addr) (c : Nat) (us : List Value) (w0 w' : World), w.heap.size ≤ w0.heap.size → w0.heap.size ≤ w'.heap.size → w'.ownsRow w0.heap.size 35 1 (.slice A ps.length c) ps.length us → Vls.sep w' (Pls.toVl ps) (fun b => (w0.heap.size ≤ b ∧ b < w'.heap.size) ∧ (Value.slice A ps.length c).ownBlock ≠ some b) us → Calls Tryz.prog f #[.slice A ps.length c] w' (LOut (g (Pls.toVl ps)) (fun b => w0.heap.size ≤ b ∧ b < w'.heap.size) w')) :
    Calls Tryz.prog 12 #[.string op, .slice A ps.length c] w (LWork (lRes cnt g ps) w) := by
  have hlk := run_lookup_hit (P := Tryz.prog) (T := 82) (K := 9) (E := 80) (r := w.heap.size) (es := lTab) (c := 8) (s := op) (w := w.alloc (.map lTab 8)) Tryz.underlying82 Tryz.underlying9 (heap_alloc_new w _) hf
  unfold lOp at hlk
  have hstf : ∀ (a : Addr) (F : FuncId) (cap : Array Value) (w : World), (store a (.func (.func F) #[] cap)).run Tryz.prog w = stored Tryz.prog w a (.func (.func F) #[] cap) .plain := fun a F cap w => run_store Tryz.prog w a _ .plain rfl
  have HB0 := Lib.hid (((Below.refl w.heap.size w).alloc (Nat.le_refl _) (.map lTab 8)).alloc (by simp) (.cells #[.int .i64 many, .func (.func f) #[] #[]] 80))
  have KA := Lib.hid (zval_allS ps A c _ hlen (hl.below HB0.out HB0.out.size))
  have HF := Lib.hid hf
  have HR := Lib.hid hR
  clear hl hf hR
  have HDO := Lib.hid (fun (r : Int × Vl) (S : Nat → Prop) (v : Value) (w : World) => list_Do_op HF.out hcall r S v w)
  by_cases hc : cnt = none ∨ cnt = some ps.length
  · have htest : Hid ((many = -1 ∧ decide (0 ≤ many) = false) ∨ (many = (ps.length : Int) ∧ decide (0 ≤ many) = true)) := Lib.hid (by
      rcases hcnt with ⟨h1, h2⟩ | ⟨k, h1, h2, h3⟩
      · exact .inl ⟨h2, by rw [h2]; rfl⟩
      · rcases hc with h | h
        · rw [h1] at h; cases h
        · rw [h1] at h
          injection h with h
          subst h
          exact .inr ⟨h2, by rw [h2]; simp⟩)
    cases hall : ps.all Pl.ok
    · have hr := Lib.hid (show lRes cnt g ps = lBad 1 by unfold lRes; rw [if_pos hc, hall]; rfl)
      have KA2 : Hid (Calls Tryz.prog 28 #[.slice A ps.length c] ((w.alloc (.map lTab 8)).alloc (.cells #[.int .i64 many, .func (.func f) #[] #[]] 80)) (fun e w' => e = .returned (.tuple #[.slice none 0 0, .bool false]) ∧ Below ((w.alloc (.map lTab 8)).alloc (.cells #[.int .i64 many, .func (.func f) #[] #[]] 80)).heap.size ((w.alloc (.map lTab 8)).alloc (.cells #[.int .i64 many, .func (.func f) #[] #[]] 80)) w')) := Lib.hid (KA.out.mono (fun e w' h => by
        rcases h with ⟨h, _⟩ | ⟨_, h⟩
        · rw [hall] at h; cases h
        · exact h))
      clear KA hc hcnt hall HDO
      rcases htest.out with ⟨ht1, ht2⟩ | ⟨ht1, ht2⟩
      all_goals
        have HT := Lib.hid ht1
        first | (have hlx : ((ps.length : Int) != many) = false := by rw [ht1]; simp) | skip
        clear ht1
        go_enter Tryz.func12, Tryz.ntmps12
        go_wp2_with fail
        refine (list_ops w).mono ?_
        rintro e w' ⟨rfl, rfl⟩
        go_wp2_with fail
        refine KA2.out.mono ?_
        rintro e w1 ⟨rfl, hb⟩
        have HB1 := Lib.hid (HB0.out.trans (hb.mono HB0.out.size))
        clear hb
        go_wp2
        go_ret3
        rw [hr.out]
        exact lwork_bad (by decide) _ _ HB1.out
    · have hr := Lib.hid (show lRes cnt g ps = g (Pls.toVl ps) by unfold lRes; rw [if_pos hc, if_pos hall])
      have KF := Lib.hid (HR.out hc hall)
      have KA2 : Hid (Calls Tryz.prog 28 #[.slice A ps.length c] ((w.alloc (.map lTab 8)).alloc (.cells #[.int .i64 many, .func (.func f) #[] #[]] 80)) (fun e w' => ∃ A' c' us, e = .returned (.tuple #[.slice A' ps.length c', .bool true]) ∧ w'.ownsRow ((w.alloc (.map lTab 8)).alloc (.cells #[.int .i64 many, .func (.func f) #[] #[]] 80)).heap.size 35 1 (.slice A' ps.length c') ps.length us ∧ Vls.sep w' (Pls.toVl ps) (fun b => fresh ((w.alloc (.map lTab 8)).alloc (.cells #[.int .i64 many, .func (.func f) #[] #[]] 80)) w' b ∧ (Value.slice A' ps.length c').ownBlock ≠ some b) us ∧ Below ((w.alloc (.map lTab 8)).alloc (.cells #[.int .i64 many, .func (.func f) #[] #[]] 80)).heap.size ((w.alloc (.map lTab 8)).alloc (.cells #[.int .i64 many, .func (.func f) #[] #[]] 80)) w')) := Lib.hid (KA.out.mono (fun e w' h => by
        rcases h with ⟨_, h⟩ | ⟨h, _⟩
        · exact h
        · rw [hall] at h; cases h))
      clear KA hc hcnt hall HR
      generalize g (Pls.toVl ps) = r at *
      rcases htest.out with ⟨ht1, ht2⟩ | ⟨ht1, ht2⟩
      all_goals
        have HT := Lib.hid ht1
        first | (have hlx : ((ps.length : Int) != many) = false := by rw [ht1]; simp) | skip
        clear ht1
        go_enter Tryz.func12, Tryz.ntmps12
        go_wp2_with fail
        refine (list_ops w).mono ?_
        rintro e w' ⟨rfl, rfl⟩
        go_wp2_with fail
        refine KA2.out.mono ?_
        rintro e w1 ⟨A', c', us, rfl, hown, hsep, hb⟩
        have HB1 := Lib.hid hb
        have hs1 := HB1.out.size
        have hs0 := HB0.out.size
        have HO := Lib.hid hown
        have HS := Lib.hid hsep
        have KD := Lib.hid (HDO.out r (fun b => ((w.alloc (.map lTab 8)).alloc (.cells #[.int .i64 many, .func (.func f) #[] #[]] 80)).heap.size ≤ b ∧ b < w1.heap.size) (.slice A' ps.length c') w1 (fun w2 hb2 => by
          have hs2 := hb2.size
          refine (KF.out A' c' us ((w.alloc (.map lTab 8)).alloc (.cells #[.int .i64 many, .func (.func f) #[] #[]] 80)) w2 hs0 (by omega) (own_block HO.out (fun g hg => hb2.block g (HO.out.lt g hg).2)) (Vls.sep.keep _ _ _ _ (fun b hb' => hb2.block b hb'.1.2) (fun b hb' => ⟨⟨hb'.1.1, by have := hb'.1.2; omega⟩, hb'.2⟩) HS.out)).mono ?_
          rintro e w3 ⟨v, h1, h2, h3, h4⟩
          refine ⟨v, h1, fun h => (h2 h).mono (fun b hb' => ?_), h3, h4⟩
          rcases hb' with h5 | h5
          · rcases Nat.lt_or_ge b w1.heap.size with h6 | h6
            · exact .inl (.inl ⟨h5.1, h6⟩)
            · exact .inl (.inr ⟨h6, h5.2⟩)
          · exact .inr h5))
        clear hown hsep hb
        go_wp2_with fail
        refine KD.out.mono ?_
        rintro e w2 ⟨z, rfl, h1, h2, hb⟩
        have H1 := Lib.hid h1
        have H2 := Lib.hid h2
        have HB2 := Lib.hid (HB0.out.trans ((HB1.out.trans (hb.mono hs1)).mono hs0))
        have hs2 := hb.size
        clear h1 h2 hb KD
        go_wp2
        go_ret3
        rw [hr.out]
        refine ⟨_, rfl, fun h => (H1.out h).mono (fun b hb => ?_), H2.out, HB2.out⟩
        rcases hb with hb | hb
        · exact ⟨by have := hb.1; omega, by have := hb.2; omega⟩
        · exact ⟨by have := hb.1; omega, hb.2⟩
  · have hr := Lib.hid (show lRes cnt g ps = lBad 11 by unfold lRes; rw [if_neg hc])
    have htest : decide (0 ≤ many) = true ∧ ((ps.length : Int) != many) = true := by
      rcases hcnt with ⟨h1, h2⟩ | ⟨k, h1, h2, h3⟩
      · exact absurd (.inl h1) hc
      · refine ⟨by rw [h2]; simp, ?_⟩
        have hk : ps.length ≠ k := fun e => hc (.inr (by rw [h1, e]))
        rw [h2]
        simp
        omega
    obtain ⟨ht1, ht2⟩ := htest
    clear KA hc hcnt HDO HR
    go_enter Tryz.func12, Tryz.ntmps12
    go_wp2_with fail
    refine (list_ops w).mono ?_
    rintro e w' ⟨rfl, rfl⟩
    go_wp2
    go_ret3
    rw [hr.out]
    exact lwork_bad (by decide) _ _ HB0.out
end Go.Proofs.YtcldbjgikkfnbaaGreatDoor

/-
  list.Work: whatever operation, whatever plain values. Written by a program of mine (gen_listwork.py). Conditions: the values lie in memory.
-/
namespace Go.Proofs.YtcldbjgikkfnbaaGreatDoor
open Go.RowKit
set_option linter.unusedVariables false

theorem LOut.mono {r : Int × Vl} {S S' : Nat → Prop} {w w' : World} {e : Ending} (h : LOut r S w e w') (hS : ∀ b, S b → S' b) : LOut r S' w e w' := by
  obtain ⟨v, h1, h2, h3, h4⟩ := h
  exact ⟨v, h1, fun h0 => (h2 h0).mono (fun b hb => hb.imp (hS b) id), h3, h4⟩
theorem own_at {w : World} {base n c : Nat} {e : TypeId} {A : Option Addr} {us : List Value} (h : w.ownsRow base e 1 (.slice A n c) n us) (hn : 0 < n) : ∃ g, A = some ⟨g, 0, none⟩ ∧ ∀ j (hj : j < us.length), w.cell? ⟨g, j, none⟩ = some us[j] := by
  rcases h.2 with ⟨_, h0⟩ | ⟨g, cap, cur, e1, _⟩
  · omega
  · injection e1 with e2 e3 e4
    subst e2 e4
    have hl := h.1
    exact ⟨g, rfl, fun j hj => by rw [h.cellAt j (by omega), List.getElem?_eq_getElem]⟩
theorem ok_len {p : Pl} (h : p.ok = true) {l : List Vl} (hl : p.toVl.asList = some l) : l.length ≤ 65536 := by
  have h1 := (mayB_mayV (by rw [mayB_ok]; exact h) : p.toVl.mayV = true)
  have h2 := (Vl.mayV_bounds h1).1
  generalize p.toVl = x at *
  cases x <;> simp [Vl.asList] at hl
  subst hl
  rename_i l
  have := Vls.len_count l
  unfold Vl.count at h2
  omega
theorem fine_int {x : Vl} (h : x.fine) {n : Int} (hn : x.asInt = some n) : rng n = true := by
  cases x <;> simp [Vl.asInt] at hn
  subst hn
  unfold Vl.fine at h
  exact h
theorem lenL1 {l : List Pl} (h : some 1 = (none : Option Nat) ∨ some 1 = some l.length) : ∃ p, l = [p] := by
  rcases h with h | h
  · cases h
  · injection h with h; exact List.length_eq_one_iff.1 h.symm
theorem lenL2 {l : List Pl} (h : some 2 = (none : Option Nat) ∨ some 2 = some l.length) : ∃ p q, l = [p, q] := by
  rcases h with h | h
  · cases h
  · injection h with h
    match l, h with
    | [p, q], _ => exact ⟨p, q, rfl⟩
theorem lenL3 {l : List Pl} (h : some 3 = (none : Option Nat) ∨ some 3 = some l.length) : ∃ p q r, l = [p, q, r] := by
  rcases h with h | h
  · cases h
  · injection h with h
    match l, h with
    | [p, q, r], _ => exact ⟨p, q, r, rfl⟩
theorem plies_fine {w : World} {B : Nat} {l : List Pl} {A : Option Addr} (h : Pls.lies w B l A) : ∀ p ∈ l, p.toVl.fine := by
  intro p hp
  obtain ⟨j, hj, rfl⟩ := List.getElem_of_mem hp
  obtain ⟨b, o, e⟩ := h.head (by omega)
  subst e
  exact (h.at_ j hj).fine
theorem list_Work_of (ps : List Pl) (A : Option Addr) (c : Nat) (w : World) (hlen : ps.length * 56 ≤ 140737488351232) (hl : Pls.lies w w.heap.size ps A) : Calls Tryz.prog 12 #[.string ln_of, .slice A ps.length c] w (LWork (lRes none lMade ps) w) := by
  have hf := hl.fine
  refine list_Work_op lf_of lc_of lMade none (.inl ⟨rfl, rfl⟩) ps A c w hlen hl (fun _ hok A c us w0 w' h0 h1 hown hsep => ?_)
  exact (list_of (Pls.toVl ps) A ps.length c _ us _ w' (Pls.toVl_length ps).symm hown hsep (fun b hb => hb.1.2) hf (by omega)).mono (fun e w'' h => h.mono (fun b hb => hb.1))
theorem list_Work_size (ps : List Pl) (A : Option Addr) (c : Nat) (w : World) (hlen : ps.length * 56 ≤ 140737488351232) (hl : Pls.lies w w.heap.size ps A) : Calls Tryz.prog 12 #[.string ln_size, .slice A ps.length c] w (LWork (lRes (some 1) (lArgs1 lSize) ps) w) := by
  refine list_Work_op lf_size lc_size (lArgs1 lSize) (some 1) (.inr ⟨1, rfl, rfl, by omega⟩) ps A c w hlen hl (fun hc hok A c us w0 w' h0 h1 hown hsep => ?_)
  obtain ⟨p, rfl⟩ := lenL1 hc
  have hul : us.length = 1 := by have := hsep.length; rw [Pls.toVl_length] at this; exact this
  obtain ⟨g, rfl, hcs⟩ := own_at hown (by simp)
  have hx := hsep.at_ 0 (by rw [Pls.toVl_length]; simp) (by omega)
  have hc := hcs 0 (by omega)
  rw [Pls.toVl_get [p] 0 (by simp)] at hx
  simp only [List.all_cons, List.all_nil, Bool.and_true] at hok
  simp only [List.getElem_cons_zero] at hx
  refine (list_size p.toVl us[0] g 0 c _ w' hx hc).mono (fun e w'' h => ?_)
  have e1 : lArgs1 lSize (Pls.toVl [p]) = lSize p.toVl := by simp [Pls.toVl, lArgs1]
  rw [e1]
  exact h.mono (fun b hb => hb.1)
theorem list_Work_turn (ps : List Pl) (A : Option Addr) (c : Nat) (w : World) (hlen : ps.length * 56 ≤ 140737488351232) (hl : Pls.lies w w.heap.size ps A) : Calls Tryz.prog 12 #[.string ln_turn, .slice A ps.length c] w (LWork (lRes (some 1) (lArgs1 lTurn) ps) w) := by
  refine list_Work_op lf_turn lc_turn (lArgs1 lTurn) (some 1) (.inr ⟨1, rfl, rfl, by omega⟩) ps A c w hlen hl (fun hc hok A c us w0 w' h0 h1 hown hsep => ?_)
  obtain ⟨p, rfl⟩ := lenL1 hc
  have hul : us.length = 1 := by have := hsep.length; rw [Pls.toVl_length] at this; exact this
  obtain ⟨g, rfl, hcs⟩ := own_at hown (by simp)
  have hx := hsep.at_ 0 (by rw [Pls.toVl_length]; simp) (by omega)
  have hc := hcs 0 (by omega)
  rw [Pls.toVl_get [p] 0 (by simp)] at hx
  simp only [List.all_cons, List.all_nil, Bool.and_true] at hok
  simp only [List.getElem_cons_zero] at hx
  refine (list_turn p.toVl us[0] g 0 c _ w' hx (fun b hb => hb.1.2) hc (fun l hl => ok_len hok hl)).mono (fun e w'' h => ?_)
  have e1 : lArgs1 lTurn (Pls.toVl [p]) = lTurn p.toVl := by simp [Pls.toVl, lArgs1]
  rw [e1]
  exact h.mono (fun b hb => hb.1)
theorem list_Work_count (ps : List Pl) (A : Option Addr) (c : Nat) (w : World) (hlen : ps.length * 56 ≤ 140737488351232) (hl : Pls.lies w w.heap.size ps A) : Calls Tryz.prog 12 #[.string ln_count, .slice A ps.length c] w (LWork (lRes (some 1) (lArgs1 lCount) ps) w) := by
  refine list_Work_op lf_count lc_count (lArgs1 lCount) (some 1) (.inr ⟨1, rfl, rfl, by omega⟩) ps A c w hlen hl (fun hc hok A c us w0 w' h0 h1 hown hsep => ?_)
  obtain ⟨p, rfl⟩ := lenL1 hc
  have hul : us.length = 1 := by have := hsep.length; rw [Pls.toVl_length] at this; exact this
  obtain ⟨g, rfl, hcs⟩ := own_at hown (by simp)
  have hx := hsep.at_ 0 (by rw [Pls.toVl_length]; simp) (by omega)
  have hc := hcs 0 (by omega)
  rw [Pls.toVl_get [p] 0 (by simp)] at hx
  simp only [List.all_cons, List.all_nil, Bool.and_true] at hok
  simp only [List.getElem_cons_zero] at hx
  refine (list_ops5 p.toVl us[0] g 0 c _ w' hx hc).mono (fun e w'' h => ?_)
  have e1 : lArgs1 lCount (Pls.toVl [p]) = lCount p.toVl := by simp [Pls.toVl, lArgs1]
  rw [e1]
  exact h.mono (fun b hb => hb.1)
theorem list_Work_at (ps : List Pl) (A : Option Addr) (c : Nat) (w : World) (hlen : ps.length * 56 ≤ 140737488351232) (hl : Pls.lies w w.heap.size ps A) : Calls Tryz.prog 12 #[.string ln_at, .slice A ps.length c] w (LWork (lRes (some 2) (lArgs2 lAt) ps) w) := by
  have hfin := plies_fine hl
  refine list_Work_op lf_at lc_at (lArgs2 lAt) (some 2) (.inr ⟨2, rfl, rfl, by omega⟩) ps A c w hlen hl (fun hc hok A c us w0 w' h0 h1 hown hsep => ?_)
  obtain ⟨p, q, rfl⟩ := lenL2 hc
  obtain ⟨g, rfl, hcs⟩ := own_at hown (by simp)
  have e2 : Pls.toVl [p, q] = [p.toVl, q.toVl] := by simp [Pls.toVl]
  rw [e2] at hsep
  obtain ⟨u, v, S1, S2, rfl, hx, hy, h1s, h2s, h12⟩ := hsep.two
  have hc0 := hcs 0 (by simp)
  have hc1 := hcs 1 (by simp)
  simp only [List.all_cons, List.all_nil, Bool.and_true, Bool.and_eq_true] at hok
  simp only [List.getElem_cons_zero, List.getElem_cons_succ] at hc0 hc1
  refine (list_at p.toVl q.toVl u v g 0 c (fun b => (w0.heap.size ≤ b ∧ b < w'.heap.size) ∧ (Value.slice (some ⟨g, 0, none⟩) 2 c).ownBlock ≠ some b) _ w' (hx.mono h1s) hy hc0 hc1 (fun l hl => Nat.le_trans (ok_len hok.1 hl) (by omega))).mono (fun e w'' h => ?_)
  have e1 : lArgs2 lAt (Pls.toVl [p, q]) = lAt p.toVl q.toVl := by rw [e2]; rfl
  rw [e1]
  exact h.mono (fun b hb => hb.1)
theorem list_Work_join (ps : List Pl) (A : Option Addr) (c : Nat) (w : World) (hlen : ps.length * 56 ≤ 140737488351232) (hl : Pls.lies w w.heap.size ps A) : Calls Tryz.prog 12 #[.string ln_join, .slice A ps.length c] w (LWork (lRes (some 2) (lArgs2 lJoin) ps) w) := by
  have hfin := plies_fine hl
  refine list_Work_op lf_join lc_join (lArgs2 lJoin) (some 2) (.inr ⟨2, rfl, rfl, by omega⟩) ps A c w hlen hl (fun hc hok A c us w0 w' h0 h1 hown hsep => ?_)
  obtain ⟨p, q, rfl⟩ := lenL2 hc
  obtain ⟨g, rfl, hcs⟩ := own_at hown (by simp)
  have e2 : Pls.toVl [p, q] = [p.toVl, q.toVl] := by simp [Pls.toVl]
  rw [e2] at hsep
  obtain ⟨u, v, S1, S2, rfl, hx, hy, h1s, h2s, h12⟩ := hsep.two
  have hc0 := hcs 0 (by simp)
  have hc1 := hcs 1 (by simp)
  simp only [List.all_cons, List.all_nil, Bool.and_true, Bool.and_eq_true] at hok
  simp only [List.getElem_cons_zero, List.getElem_cons_succ] at hc0 hc1
  refine (list_join p.toVl q.toVl u v g 0 c _ _ _ w' hx hy h1s h2s h12 (fun b hb => hb.1.2) hc0 hc1 (fun l hl => ok_len hok.1 hl) (fun l hl => ok_len hok.2 hl) (hfin p (by simp)) (hfin q (by simp))).mono (fun e w'' h => ?_)
  have e1 : lArgs2 lJoin (Pls.toVl [p, q]) = lJoin p.toVl q.toVl := by rw [e2]; rfl
  rw [e1]
  exact h.mono (fun b hb => hb.1)
theorem list_Work_add (ps : List Pl) (A : Option Addr) (c : Nat) (w : World) (hlen : ps.length * 56 ≤ 140737488351232) (hl : Pls.lies w w.heap.size ps A) : Calls Tryz.prog 12 #[.string ln_add, .slice A ps.length c] w (LWork (lRes (some 2) (lArgs2 lAdd) ps) w) := by
  have hfin := plies_fine hl
  refine list_Work_op lf_add lc_add (lArgs2 lAdd) (some 2) (.inr ⟨2, rfl, rfl, by omega⟩) ps A c w hlen hl (fun hc hok A c us w0 w' h0 h1 hown hsep => ?_)
  obtain ⟨p, q, rfl⟩ := lenL2 hc
  obtain ⟨g, rfl, hcs⟩ := own_at hown (by simp)
  have e2 : Pls.toVl [p, q] = [p.toVl, q.toVl] := by simp [Pls.toVl]
  rw [e2] at hsep
  obtain ⟨u, v, S1, S2, rfl, hx, hy, h1s, h2s, h12⟩ := hsep.two
  have hc0 := hcs 0 (by simp)
  have hc1 := hcs 1 (by simp)
  simp only [List.all_cons, List.all_nil, Bool.and_true, Bool.and_eq_true] at hok
  simp only [List.getElem_cons_zero, List.getElem_cons_succ] at hc0 hc1
  refine (list_add p.toVl q.toVl u v g 0 c _ _ _ w' hx hy h1s h2s h12 (fun b hb => hb.1.2) hc0 hc1 (fun l hl => ok_len hok.1 hl) (hfin p (by simp)) (hfin q (by simp))).mono (fun e w'' h => ?_)
  have e1 : lArgs2 lAdd (Pls.toVl [p, q]) = lAdd p.toVl q.toVl := by rw [e2]; rfl
  rw [e1]
  exact h.mono (fun b hb => hb.1)
theorem list_Work_cut (ps : List Pl) (A : Option Addr) (c : Nat) (w : World) (hlen : ps.length * 56 ≤ 140737488351232) (hl : Pls.lies w w.heap.size ps A) : Calls Tryz.prog 12 #[.string ln_cut, .slice A ps.length c] w (LWork (lRes (some 3) (lArgs3 lCut) ps) w) := by
  have hfin := plies_fine hl
  refine list_Work_op lf_cut lc_cut (lArgs3 lCut) (some 3) (.inr ⟨3, rfl, rfl, by omega⟩) ps A c w hlen hl (fun hc hok A c us w0 w' h0 h1 hown hsep => ?_)
  obtain ⟨p, q, r, rfl⟩ := lenL3 hc
  obtain ⟨g, rfl, hcs⟩ := own_at hown (by simp)
  have e2 : Pls.toVl [p, q, r] = [p.toVl, q.toVl, r.toVl] := by simp [Pls.toVl]
  rw [e2] at hsep
  have hul := hsep.length
  obtain ⟨u, v, t, rfl⟩ : ∃ u v t, us = [u, v, t] := by
    match us, hul with
    | [u, v, t], _ => exact ⟨u, v, t, rfl⟩
  have hx := hsep.at_ 0 (by simp) (by simp)
  have hy := hsep.at_ 1 (by simp) (by simp)
  have hz := hsep.at_ 2 (by simp) (by simp)
  have hc0 := hcs 0 (by simp)
  have hc1 := hcs 1 (by simp)
  have hc2 := hcs 2 (by simp)
  simp only [List.all_cons, List.all_nil, Bool.and_true, Bool.and_eq_true] at hok
  simp only [List.getElem_cons_zero, List.getElem_cons_succ] at hc0 hc1 hc2 hx hy hz
  refine (list_cut p.toVl q.toVl r.toVl u v t g 0 c _ _ _ w' hx hy hz (fun b hb => hb.1.2) hc0 hc1 hc2 (fun l hl => ok_len hok.1 hl) (fun n hn => fine_int (hfin q (by simp)) hn) (fun n hn => fine_int (hfin r (by simp)) hn)).mono (fun e w'' h => ?_)
  have e1 : lArgs3 lCut (Pls.toVl [p, q, r]) = lCut p.toVl q.toVl r.toVl := by rw [e2]; rfl
  rw [e1]
  exact h.mono (fun b hb => hb.1)
/-- What Work gives, whatever is asked. -/
def lWork (op : ByteArray) (ps : List Pl) : Int × Vl := if op = ln_of then lRes none lMade ps else if op = ln_size then lRes (some 1) (lArgs1 lSize) ps else if op = ln_at then lRes (some 2) (lArgs2 lAt) ps else if op = ln_join then lRes (some 2) (lArgs2 lJoin) ps else if op = ln_add then lRes (some 2) (lArgs2 lAdd) ps else if op = ln_cut then lRes (some 3) (lArgs3 lCut) ps else if op = ln_turn then lRes (some 1) (lArgs1 lTurn) ps else if op = ln_count then lRes (some 1) (lArgs1 lCount) ps else lBad 1
theorem bytes_neL {a b : ByteArray} (h : a ≠ b) : (a == b) = false := by
  cases hq : a == b
  · rfl
  · exact absurd ((MapKept.bytes_beq _ _).mp hq) h
theorem l_other {op : ByteArray} (h0 : op ≠ ln_of) (h1 : op ≠ ln_size) (h2 : op ≠ ln_at) (h3 : op ≠ ln_join) (h4 : op ≠ ln_add) (h5 : op ≠ ln_cut) (h6 : op ≠ ln_turn) (h7 : op ≠ ln_count) : Instr.findNow .string (.string op) lTab.toList 0 = some none := by
  have e0 := bytes_neL h0
  have e1 := bytes_neL h1
  have e2 := bytes_neL h2
  have e3 := bytes_neL h3
  have e4 := bytes_neL h4
  have e5 := bytes_neL h5
  have e6 := bytes_neL h6
  have e7 := bytes_neL h7
  simp only [ln_of, ln_size, ln_at, ln_join, ln_add, ln_cut, ln_turn, ln_count] at e0 e1 e2 e3 e4 e5 e6 e7
  simp [lTab, Instr.findNow, Instr.sameNow, e0, e1, e2, e3, e4, e5, e6, e7]
theorem list_Work (op : ByteArray) (ps : List Pl) (A : Option Addr) (c : Nat) (w : World) (hlen : ps.length * 56 ≤ 140737488351232) (hl : Pls.lies w w.heap.size ps A) : Calls Tryz.prog 12 #[.string op, .slice A ps.length c] w (LWork (lWork op ps) w) := by
  unfold lWork
  by_cases h0 : op = ln_of
  · subst h0; rw [if_pos rfl]; exact list_Work_of ps A c w hlen hl
  by_cases h1 : op = ln_size
  · subst h1; rw [if_neg (by decide), if_pos rfl]; exact list_Work_size ps A c w hlen hl
  by_cases h2 : op = ln_at
  · subst h2; rw [if_neg (by decide), if_neg (by decide), if_pos rfl]; exact list_Work_at ps A c w hlen hl
  by_cases h3 : op = ln_join
  · subst h3; rw [if_neg (by decide), if_neg (by decide), if_neg (by decide), if_pos rfl]; exact list_Work_join ps A c w hlen hl
  by_cases h4 : op = ln_add
  · subst h4; rw [if_neg (by decide), if_neg (by decide), if_neg (by decide), if_neg (by decide), if_pos rfl]; exact list_Work_add ps A c w hlen hl
  by_cases h5 : op = ln_cut
  · subst h5; rw [if_neg (by decide), if_neg (by decide), if_neg (by decide), if_neg (by decide), if_neg (by decide), if_pos rfl]; exact list_Work_cut ps A c w hlen hl
  by_cases h6 : op = ln_turn
  · subst h6; rw [if_neg (by decide), if_neg (by decide), if_neg (by decide), if_neg (by decide), if_neg (by decide), if_neg (by decide), if_pos rfl]; exact list_Work_turn ps A c w hlen hl
  by_cases h7 : op = ln_count
  · subst h7; rw [if_neg (by decide), if_neg (by decide), if_neg (by decide), if_neg (by decide), if_neg (by decide), if_neg (by decide), if_neg (by decide), if_pos rfl]; exact list_Work_count ps A c w hlen hl
  rw [if_neg h0, if_neg h1, if_neg h2, if_neg h3, if_neg h4, if_neg h5, if_neg h6, if_neg h7]
  exact list_Work_none op (l_other h0 h1 h2 h3 h4 h5 h6 h7) _ w
end Go.Proofs.YtcldbjgikkfnbaaGreatDoor
