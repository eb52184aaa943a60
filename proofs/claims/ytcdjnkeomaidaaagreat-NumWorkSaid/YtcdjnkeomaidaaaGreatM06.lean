/-
  Part 6 of 8 of a proof, several texts in a row: NumTab, NumDo, ZvalRight, ZvalRight2, ZvalRight3, ZvalOf, ZvalMay, ZvalAll, NumOpsAll, NumWorkC. Conditions: each text names its own.
-/
import Derived.Test.YtcdjnkeomaidaaaGreatM05
import Derived.Test.YtcdjnkeomaidaaaGreatM02
import Derived.Test.YtcdjnkeomaidaaaGreatM01
import Derived.Test.YtcdjnkeomaidaaaGreatProg
import Derived.StillTailTactics
import Derived.Lib.Strings
import Derived.Laws.EntriesVeiled
import Derived.Test.YtcdjnkeomaidaaaGreatM03
/-
  The table of package num: the map that 'num.two' makes, and what is found in it: walks. Conditions: none.
-/
namespace Go.Proofs.YtcdjnkeomaidaaaGreat
open Go.RowKit

/-- The table's entries. -/
def numTab : Array MapEntry := #[⟨.string ⟨#[110, 117, 109, 46, 97, 100, 100]⟩, .func (.func 30) #[] #[], 0⟩, ⟨.string ⟨#[110, 117, 109, 46, 115, 117, 98]⟩, .func (.func 33) #[] #[], 1⟩, ⟨.string ⟨#[110, 117, 109, 46, 109, 117, 108]⟩, .func (.func 35) #[] #[], 2⟩, ⟨.string ⟨#[110, 117, 109, 46, 113, 117, 111]⟩, .func (.func 37) #[] #[], 3⟩, ⟨.string ⟨#[110, 117, 109, 46, 109, 111, 100]⟩, .func (.func 38) #[] #[], 4⟩, ⟨.string ⟨#[110, 117, 109, 46, 112, 111, 119]⟩, .func (.func 39) #[] #[], 5⟩, ⟨.string ⟨#[110, 117, 109, 46, 110, 101, 103]⟩, .func (.func 41) #[] #[], 6⟩, ⟨.string ⟨#[110, 117, 109, 46, 97, 98, 115]⟩, .func (.func 42) #[] #[], 7⟩, ⟨.string ⟨#[110, 117, 109, 46, 109, 105, 110]⟩, .func (.func 43) #[] #[], 8⟩, ⟨.string ⟨#[110, 117, 109, 46, 109, 97, 120]⟩, .func (.func 44) #[] #[], 9⟩, ⟨.string ⟨#[110, 117, 109, 46, 108, 101, 115, 115]⟩, .func (.func 45) #[] #[], 10⟩, ⟨.string ⟨#[110, 117, 109, 46, 109, 111, 115, 116]⟩, .func (.func 46) #[] #[], 11⟩]
set_option maxRecDepth 100000 in
theorem num_two (w : World) : Calls Tryz.prog 16 #[] w fun e w' => e = .returned (.map (some w.heap.size)) ∧ w.alloc (.map numTab 12) = w' := by
  have hmm := @run_makeMap Tryz.prog
  go_enter Tryz.func16, Tryz.ntmps16
  go_wp2_with (refine wpList_insert_new _ rfl 52 9 50 _ _ _ rfl Tryz.underlying52 Tryz.underlying9 _ _ _ rfl rfl (by kernel_rfl) ?_)
  go_ret
  exact ⟨rfl, rfl⟩
end Go.Proofs.YtcdjnkeomaidaaaGreat

/-
  What 'num.Do' comes to on one or two values: walks. Conditions: numbers of 64 bits.
-/
namespace Go.Proofs.YtcdjnkeomaidaaaGreat
open Go.RowKit

theorem assert_int (n : Int) (w : World) : (Instr.typeAssert (.iface 65 (.int .i64 n)) 29 65 true).run Tryz.prog w = .ok (.tuple #[.int .i64 n, .bool true]) w :=
  run_assert_hit Tryz.underlying65 rfl _ w
theorem assert_noint (t : TypeId) (v : Value) (h : t ≠ 65) (w : World) : (Instr.typeAssert (.iface t v) 29 65 true).run Tryz.prog w = .ok (.tuple #[.int .i64 0, .bool false]) w :=
  run_assert_miss Tryz.underlying65 rfl (fun w => by kernel_rfl) h _ w

/-- A function of the table. -/
def IsOp (f : FuncId) (V : Int → Int → Value) : Prop := ∀ (a b : Int) (w : World), rng a = true → rng b = true → Calls Tryz.prog f #[.int .i64 a, .int .i64 b] w fun e w' => e = .returned (V a b) ∧ w = w'
def withText (v : Value) : Value := match v with
  | .tuple #[x, y] => .tuple #[x, y, .string ⟨#[]⟩]
  | v => v

set_option maxRecDepth 100000 in
set_option maxHeartbeats 1000000 in
theorem do_two {op : ByteArray} {i : Nat} {f : FuncId} (hf : Instr.findNow .string (.string op) numTab.toList 0 = some (some (i, .func (.func f) #[] #[])))
    {V : Int → Int → Value} (hV : IsOp f V) (h2 : ∀ a b, ∃ x y, V a b = .tuple #[x, y]) (hcall : ∀ (args : Array Value) (w : World), (callFunc f args).run Tryz.prog w = .ok (.enter f args) w)
    (a b : Int) (ha : rng a = true) (hb : rng b = true)
    (B o c : Nat) (w : World) (c0 : w.cell? ⟨B, o, none⟩ = some (.iface 65 (.int .i64 a))) (c1 : w.cell? ⟨B, o + 1, none⟩ = some (.iface 65 (.int .i64 b))) :
    Calls Tryz.prog 19 #[.string op, .slice (some ⟨B, o, none⟩) 2 c] w fun e w' => e = .returned (withText (V a b)) ∧ Below w.heap.size w w' := by
  have hB := World.block_lt_of_cell? _ _ c0
  dsimp only at hB
  have hl := run_lookup_hit (P := Tryz.prog) (T := 52) (K := 9) (E := 50) (r := w.heap.size) (es := numTab) (c := 12) (s := op) (w := w.alloc (.map numTab 12)) Tryz.underlying52 Tryz.underlying9 (heap_alloc_new w _) hf
  have hi := assert_int
  have hni := assert_noint
  have hm0 : min (0 : Int) 1 = 0 := rfl
  have hm1 : min (1 : Int) 1 = 1 := rfl
  clear hf
  have HV := Lib.hid hV
  have H2 := Lib.hid h2
  clear hV h2
  go_enter Tryz.func19, Tryz.ntmps19
  go_wp2_with (first | (go_at_call 16; refine (num_two _).mono ?_; rintro e w' ⟨rfl, rfl⟩))
  refine wp_loop_rounds 3 ?_
  rw [rounds_succ]
  go_wp2
  rw [rounds_succ]
  go_wp2
  rw [rounds_succ]
  go_wp2_with fail
  refine (two_parts (HV.out _ _ _ ha hb) (H2.out _ _)).mono ?_
  rintro e w' ⟨x, y, rfl, hv, rfl⟩
  go_wp2
  go_ret3
  exact ⟨by rw [← hv.out]; rfl, (by repeat (first | exact Below.refl _ _ | (refine Below.alloc ?_ (by simp; try omega) _) | (refine Below.setCell ?_ (by simp; try omega) _) | refine Below.drew ?_))⟩
set_option maxRecDepth 100000 in
set_option maxHeartbeats 1000000 in
theorem do_one {op : ByteArray} {i : Nat} {f : FuncId} (hf : Instr.findNow .string (.string op) numTab.toList 0 = some (some (i, .func (.func f) #[] #[])))
    {V : Int → Int → Value} (hV : IsOp f V) (h2 : ∀ a b, ∃ x y, V a b = .tuple #[x, y]) (hcall : ∀ (args : Array Value) (w : World), (callFunc f args).run Tryz.prog w = .ok (.enter f args) w)
    (a : Int) (ha : rng a = true)
    (B o c : Nat) (w : World) (c0 : w.cell? ⟨B, o, none⟩ = some (.iface 65 (.int .i64 a))) :
    Calls Tryz.prog 19 #[.string op, .slice (some ⟨B, o, none⟩) 1 c] w fun e w' => e = .returned (withText (V a 0)) ∧ Below w.heap.size w w' := by
  have hB := World.block_lt_of_cell? _ _ c0
  dsimp only at hB
  have hl := run_lookup_hit (P := Tryz.prog) (T := 52) (K := 9) (E := 50) (r := w.heap.size) (es := numTab) (c := 12) (s := op) (w := w.alloc (.map numTab 12)) Tryz.underlying52 Tryz.underlying9 (heap_alloc_new w _) hf
  have hi := assert_int
  have hni := assert_noint
  have hm0 : min (0 : Int) 1 = 0 := rfl
  have hm1 : min (1 : Int) 1 = 1 := rfl
  clear hf
  have hb : rng 0 = true := rfl
  have HV := Lib.hid hV
  have H2 := Lib.hid h2
  clear hV h2
  go_enter Tryz.func19, Tryz.ntmps19
  go_wp2_with (first | (go_at_call 16; refine (num_two _).mono ?_; rintro e w' ⟨rfl, rfl⟩))
  refine wp_loop_rounds 2 ?_
  rw [rounds_succ]
  go_wp2
  rw [rounds_succ]
  go_wp2_with fail
  refine (two_parts (HV.out _ _ _ ha hb) (H2.out _ _)).mono ?_
  rintro e w' ⟨x, y, rfl, hv, rfl⟩
  go_wp2
  go_ret3
  exact ⟨by rw [← hv.out]; rfl, (by repeat (first | exact Below.refl _ _ | (refine Below.alloc ?_ (by simp; try omega) _) | (refine Below.setCell ?_ (by simp; try omega) _) | refine Below.drew ?_))⟩
set_option maxRecDepth 100000 in
set_option maxHeartbeats 1000000 in
theorem do_bad {op : ByteArray} {i : Nat} {f : FuncId} (hf : Instr.findNow .string (.string op) numTab.toList 0 = some (some (i, .func (.func f) #[] #[])))
    (n : Nat) (t : TypeId) (v : Value) (ht : t ≠ 65)
    (B o c : Nat) (w : World) (c0 : w.cell? ⟨B, o, none⟩ = some (.iface t v)) :
    Calls Tryz.prog 19 #[.string op, .slice (some ⟨B, o, none⟩) (n + 1) c] w fun e w' => e = .returned (.tuple #[.nilIface, .int .i64 20, .string ⟨#[]⟩]) ∧ Below w.heap.size w w' := by
  have hB := World.block_lt_of_cell? _ _ c0
  dsimp only at hB
  have hl := run_lookup_hit (P := Tryz.prog) (T := 52) (K := 9) (E := 50) (r := w.heap.size) (es := numTab) (c := 12) (s := op) (w := w.alloc (.map numTab 12)) Tryz.underlying52 Tryz.underlying9 (heap_alloc_new w _) hf
  have hi := assert_int
  have hni := assert_noint
  have hm0 : min (0 : Int) 1 = 0 := rfl
  have hm1 : min (1 : Int) 1 = 1 := rfl
  clear hf
  go_enter Tryz.func19, Tryz.ntmps19
  go_wp2_with (first | (go_at_call 16; refine (num_two _).mono ?_; rintro e w' ⟨rfl, rfl⟩))
  refine wp_loop_rounds 1 ?_
  rw [rounds_succ]
  go_wp2
  go_ret3
  exact ⟨rfl, (by repeat (first | exact Below.refl _ _ | (refine Below.alloc ?_ (by simp; try omega) _) | (refine Below.setCell ?_ (by simp; try omega) _) | refine Below.drew ?_))⟩
set_option maxRecDepth 100000 in
set_option maxHeartbeats 1000000 in
theorem do_bad2 {op : ByteArray} {i : Nat} {f : FuncId} (hf : Instr.findNow .string (.string op) numTab.toList 0 = some (some (i, .func (.func f) #[] #[])))
    (n : Nat) (a : Int) (t : TypeId) (v : Value) (ht : t ≠ 65)
    (B o c : Nat) (w : World) (c0 : w.cell? ⟨B, o, none⟩ = some (.iface 65 (.int .i64 a))) (c1 : w.cell? ⟨B, o + 1, none⟩ = some (.iface t v)) :
    Calls Tryz.prog 19 #[.string op, .slice (some ⟨B, o, none⟩) (n + 2) c] w fun e w' => e = .returned (.tuple #[.nilIface, .int .i64 20, .string ⟨#[]⟩]) ∧ Below w.heap.size w w' := by
  have hB := World.block_lt_of_cell? _ _ c0
  dsimp only at hB
  have hl := run_lookup_hit (P := Tryz.prog) (T := 52) (K := 9) (E := 50) (r := w.heap.size) (es := numTab) (c := 12) (s := op) (w := w.alloc (.map numTab 12)) Tryz.underlying52 Tryz.underlying9 (heap_alloc_new w _) hf
  have hi := assert_int
  have hni := assert_noint
  have hm0 : min (0 : Int) 1 = 0 := rfl
  have hm1 : min (1 : Int) 1 = 1 := rfl
  clear hf
  go_enter Tryz.func19, Tryz.ntmps19
  go_wp2_with (first | (go_at_call 16; refine (num_two _).mono ?_; rintro e w' ⟨rfl, rfl⟩))
  refine wp_loop_rounds 2 ?_
  rw [rounds_succ]
  go_wp2
  rw [rounds_succ]
  go_wp2
  go_ret3
  exact ⟨rfl, (by repeat (first | exact Below.refl _ _ | (refine Below.alloc ?_ (by simp; try omega) _) | (refine Below.setCell ?_ (by simp; try omega) _) | refine Below.drew ?_))⟩
end Go.Proofs.YtcdjnkeomaidaaaGreat

/-
  What zval's look at a plain value comes to: a walk, for every plain value. Conditions: it lies in memory.
-/
namespace Go.Proofs.YtcdjnkeomaidaaaGreat
open Go.RowKit
set_option linter.unusedVariables false

/-- What the closure finds in what it captured: what is left; itself. -/
structure Looks (w : World) (l q : Nat) (left : Int) : Prop where
  left : w.heap[l]? = some (.cells #[.int .i64 left] 3 (0, 0))
  self : w.heap[q]? = some (.cells #[.func (.func 72) #[] #[.pointer (some ⟨l, 0, none⟩), .pointer (some ⟨q, 0, none⟩)]] 145 (0, 0))
def RightPost (w : World) (l q : Nat) (r : Bool × Int) (e : Ending) (w' : World) : Prop := e = .returned (.bool r.1) ∧ Looks w' l q r.2 ∧ w.grownBy w' (some l)

/-- Of a plain value that is refused at once. -/
def Pl.bad : Pl → Int → Int → Prop
  | .mk k _ t l, left, deep => left - 1 < 0 ∨ 64 < deep ∨ (k ≠ 4 ∧ t.size ≠ 0) ∨ (k ≠ 5 ∧ 0 < l.length)

theorem Looks.set {w : World} {l q : Nat} {a : Int} (h : Looks w l q a) (hne : l ≠ q) (b : Int) : Looks (w.setCell ⟨l, 0, none⟩ (.int .i64 b)) l q b :=
  ⟨one_setCell h.left, by rw [Below.heap_setCell _ _ _ _ (Ne.symm hne)]; exact h.self⟩
theorem grown_set (w : World) (l : Nat) (v : Value) : w.grownBy (w.setCell ⟨l, 0, none⟩ v) (some l) :=
  ⟨rfl, rfl, rfl, by simp [World.setCell], fun k _ hne => Below.heap_setCell _ _ _ _ (fun e => hne (by rw [e]))⟩

theorem Looks.drew {w : World} {l q : Nat} {a : Int} (h : Looks w l q a) : Looks w.drew l q a := ⟨h.left, h.self⟩
set_option maxRecDepth 100000 in
set_option maxHeartbeats 4000000 in
theorem right1_scalar (k n : Int) (t : ByteArray) (ls : List Pl) (hk5 : k ≠ 5) (b o l q : Nat) (left deep : Int) (w : World) (B : Nat) (hBl : B ≤ l) (hBq : B ≤ q) (hne : l ≠ q)
    (h0 : 0 ≤ left) (h1 : left ≤ 65536) (hd0 : 0 ≤ deep) (hd1 : deep ≤ 65) (hl : (Pl.mk k n t ls).lies w B b o) (hL : Looks w l q left) :
    Calls Tryz.prog 72 #[.pointer (some ⟨b, o, none⟩), .int .i64 deep, .pointer (some ⟨l, 0, none⟩), .pointer (some ⟨q, 0, none⟩)] w (RightPost w l q ((Pl.mk k n t ls).right left deep)) := by
  unfold Pl.lies at hl
  obtain ⟨hb, c0, c1, c2, rk, rn, ht, hlen, A, c, c3, hrest⟩ := hl
  have hcl := cell_of_one hL.left
  have hcf := free_of_one hL.left
  have hs := Lib.hid (hL.set hne)
  have hbl : b < l := by omega
  have hne' : ¬ b = l := by omega
  have HL := Lib.hid hL
  clear hL hrest
  rw [rng_iff] at rk rn
  obtain ⟨k1, k2⟩ := rk
  obtain ⟨n1, n2⟩ := rn
  have hbad : (left - 1 < 0 ∨ 64 < deep ∨ (k ≠ 4 ∧ t.size ≠ 0) ∨ (k ≠ 5 ∧ 0 < ls.length)) → Hid ((Pl.mk k n t ls).right left deep = (false, left - 1)) := fun h => by unfold Hid Pl.right; rw [if_pos h]
  have hgood : ¬ (left - 1 < 0 ∨ 64 < deep ∨ (k ≠ 4 ∧ t.size ≠ 0) ∨ (k ≠ 5 ∧ 0 < ls.length)) → Hid ((Pl.mk k n t ls).right left deep = (if k = 2 then (decide (n = 0 ∨ n = 1), left - 1) else if k = 3 then (true, left - 1) else if k = 1 ∨ k = 4 then (decide (n = 0 ∧ 0 ≤ left - 1 - t.size), left - 1 - t.size) else if k = 5 then (((Pls.right ls (left - 1) (deep + 1)).1 && decide (n = 0)), (Pls.right ls (left - 1) (deep + 1)).2) else (false, left - 1))) := fun h => by unfold Hid; rw [Pl.right, if_neg h]
  have HB := Lib.hid hbad
  have HG := Lib.hid hgood
  clear hbad hgood
  have hsz : t.toList = [] ↔ t.size = 0 := by
    rw [Lib.toList_data, ← List.length_eq_zero_iff]; simp
  have HS := Lib.hid hsz
  clear hsz
  by_cases ha : left - 1 < 0
  · have hx := HB.out (.inl ha)
    go_enter Tryz.func72, Tryz.ntmps72
    go_wp2
    go_ret
    exact ⟨by rw [hx.out]; rfl, by rw [hx.out]; exact hs.out _, grown_set _ _ _⟩
  by_cases hb1 : 64 < deep
  · have hx := HB.out (.inr (.inl hb1))
    go_enter Tryz.func72, Tryz.ntmps72
    go_wp2
    go_ret
    exact ⟨by rw [hx.out]; rfl, by rw [hx.out]; exact hs.out _, grown_set _ _ _⟩
  by_cases h4 : k = 4
  · subst h4
    by_cases h5 : 0 < ls.length
    · have hx := HB.out (.inr (.inr (.inr ⟨by decide, h5⟩)))
      go_enter Tryz.func72, Tryz.ntmps72
      go_wp2
      go_ret
      exact ⟨by rw [hx.out]; rfl, by rw [hx.out]; exact hs.out _, grown_set _ _ _⟩
    · have hg := HG.out (by rintro (h | h | ⟨h, _⟩ | ⟨_, h⟩); exact ha h; exact hb1 h; exact h rfl; exact h5 h)
      have hx := Lib.hid (hg.out.trans ((if_neg (by decide)).trans ((if_neg (by decide)).trans (if_pos (.inr rfl)))))
      clear hg
      go_enter Tryz.func72, Tryz.ntmps72
      go_wp2
      refine gen (fun v => Looks v l q (left - 1) ∧ (∀ a : Addr, a.block ≠ l → v.cell? a = w.cell? a) ∧ w.grownBy v (some l)) ?_ ?_
      · exact ⟨hs.out _, fun a ha => World.cell?_setCell_other _ _ _ _ (fun e => ha (by rw [← e])), grown_set _ _ _⟩
      intro v ⟨hLv, hcv, hgv⟩
      have d1 := (hcv ⟨b, o + 1, none⟩ (by simpa using hne')).trans c1
      have d2 := (hcv ⟨b, o + 2, none⟩ (by simpa using hne')).trans c2
      have dl := cell_of_one hLv.left
      have dlf := free_of_one hLv.left
      have hs := Lib.hid (hLv.set hne)
      have HL2 := Lib.hid hLv
      clear hLv hcv c0 c1 c2 c3 hcl hcf HL
      go_still_tail 7, (by kernel_rfl)
      go_wp2
      all_goals go_ret
      · exact ⟨by rw [hx.out]; exact ret_bool (by simp [*]; try omega), by rw [hx.out]; exact (hs.out _).drew, grown_drew (grown_on hgv (grown_set _ _ _))⟩
      · exact ⟨by rw [hx.out]; exact ret_bool (by simp [*]; try omega), by rw [hx.out]; exact (hs.out _).drew, grown_drew (grown_on hgv (grown_set _ _ _))⟩
  have hk4 : (k != 4) = true := by simpa using h4
  have hk5b : (k != 5) = true := by simpa using hk5
  by_cases ht0 : t.toList = []
  · by_cases h5 : 0 < ls.length
    · have hx := HB.out (.inr (.inr (.inr ⟨hk5, h5⟩)))
      go_enter Tryz.func72, Tryz.ntmps72
      go_wp2
      go_ret
      exact ⟨by rw [hx.out]; rfl, by rw [hx.out]; exact hs.out _, grown_set _ _ _⟩
    · have hg := HG.out (by rintro (h | h | ⟨_, h⟩ | ⟨_, h⟩); exact ha h; exact hb1 h; exact h (HS.out.1 ht0); exact h5 h)
      by_cases k2' : k = 2
      · have hx := Lib.hid (hg.out.trans (if_pos k2'))
        subst k2'
        clear hg
        by_cases hn : n = 0
        · subst hn
          go_enter Tryz.func72, Tryz.ntmps72
          go_wp2
          go_ret
          exact ⟨by rw [hx.out]; rfl, by rw [hx.out]; exact hs.out _, grown_set _ _ _⟩
        · have hnb : (n == 0) = false := by simpa using hn
          go_enter Tryz.func72, Tryz.ntmps72
          go_wp2
          go_ret
          exact ⟨by rw [hx.out]; exact ret_bool (by rw [Bool.eq_iff_iff]; simp [hn]), by rw [hx.out]; exact hs.out _, grown_set _ _ _⟩
      · have k2b : (k == 2) = false := by simpa using k2'
        by_cases k3 : k = 3
        · have hx := Lib.hid (hg.out.trans ((if_neg k2').trans (if_pos k3)))
          subst k3
          clear hg
          go_enter Tryz.func72, Tryz.ntmps72
          go_wp2
          go_ret
          exact ⟨by rw [hx.out]; rfl, by rw [hx.out]; exact hs.out _, grown_set _ _ _⟩
        · have k3b : (k == 3) = false := by simpa using k3
          by_cases k1' : k = 1
          · have hx := Lib.hid (hg.out.trans ((if_neg k2').trans ((if_neg k3).trans (if_pos (.inl k1')))))
            subst k1'
            clear hg
            go_enter Tryz.func72, Tryz.ntmps72
            go_wp2
            refine gen (fun v => Looks v l q (left - 1) ∧ (∀ a : Addr, a.block ≠ l → v.cell? a = w.cell? a) ∧ w.grownBy v (some l)) ?_ ?_
            · exact ⟨hs.out _, fun a ha => World.cell?_setCell_other _ _ _ _ (fun e => ha (by rw [← e])), grown_set _ _ _⟩
            intro v ⟨hLv, hcv, hgv⟩
            have d1 := (hcv ⟨b, o + 1, none⟩ (by simpa using hne')).trans c1
            have d2 := (hcv ⟨b, o + 2, none⟩ (by simpa using hne')).trans c2
            have dl := cell_of_one hLv.left
            have dlf := free_of_one hLv.left
            have hs := Lib.hid (hLv.set hne)
            have HL2 := Lib.hid hLv
            clear hLv hcv c0 c1 c2 c3 hcl hcf HL
            go_still_tail 7, (by kernel_rfl)
            go_wp2
            all_goals go_ret
            · exact ⟨by rw [hx.out]; exact ret_bool (by simp [*]; try omega), by rw [hx.out]; exact (hs.out _).drew, grown_drew (grown_on hgv (grown_set _ _ _))⟩
            · exact ⟨by rw [hx.out]; exact ret_bool (by simp [*]; try omega), by rw [hx.out]; exact (hs.out _).drew, grown_drew (grown_on hgv (grown_set _ _ _))⟩
          · have k1b : (k == 1) = false := by simpa using k1'
            have k4b : (k == 4) = false := by simpa using h4
            have k5b : (k == 5) = false := by simpa using hk5
            have hx := Lib.hid (hg.out.trans ((if_neg k2').trans ((if_neg k3).trans ((if_neg (by omega)).trans (if_neg hk5)))))
            clear hg
            go_enter Tryz.func72, Tryz.ntmps72
            go_wp2
            go_ret
            exact ⟨by rw [hx.out]; rfl, by rw [hx.out]; exact hs.out _, grown_set _ _ _⟩
  · have hx := HB.out (.inr (.inr (.inl ⟨h4, fun h => ht0 (HS.out.2 h)⟩)))
    go_enter Tryz.func72, Tryz.ntmps72
    go_wp2
    go_ret
    exact ⟨by rw [hx.out]; rfl, by rw [hx.out]; exact hs.out _, grown_set _ _ _⟩

end Go.Proofs.YtcdjnkeomaidaaaGreat

/-
  zval's look at a list of plain values, and at any plain value: walks. Conditions: it lies in memory.
-/
namespace Go.Proofs.YtcdjnkeomaidaaaGreat
open Go.RowKit
set_option linter.unusedVariables false

set_option maxRecDepth 100000 in
set_option maxHeartbeats 4000000 in
theorem right1_list (n : Int) (t : ByteArray) (ls : List Pl)
    (ih : ∀ (j : Nat) (h : j < ls.length) (b o l q : Nat) (left deep : Int) (w : World) (B : Nat), B ≤ l → B ≤ q → l ≠ q → B ≤ w.heap.size → 0 ≤ left → left ≤ 65536 → 0 ≤ deep → deep ≤ 65 → ls[j].lies w B b o → Looks w l q left →
      Calls Tryz.prog 72 #[.pointer (some ⟨b, o, none⟩), .int .i64 deep, .pointer (some ⟨l, 0, none⟩), .pointer (some ⟨q, 0, none⟩)] w (RightPost w l q (ls[j].right left deep)))
    (b o l q : Nat) (left deep : Int) (w : World) (B : Nat) (hBl : B ≤ l) (hBq : B ≤ q) (hne : l ≠ q) (hBw : B ≤ w.heap.size)
    (h0 : 0 ≤ left) (h1 : left ≤ 65536) (hd0 : 0 ≤ deep) (hd1 : deep ≤ 65) (hl : (Pl.mk 5 n t ls).lies w B b o) (hL : Looks w l q left) :
    Calls Tryz.prog 72 #[.pointer (some ⟨b, o, none⟩), .int .i64 deep, .pointer (some ⟨l, 0, none⟩), .pointer (some ⟨q, 0, none⟩)] w (RightPost w l q ((Pl.mk 5 n t ls).right left deep)) := by
  have hlies := Lib.hid hl
  have IH := Lib.hid ih
  clear ih
  unfold Pl.lies at hl
  obtain ⟨hb, c0, c1, c2, rk, rn, ht, hlen, A, c, c3, hrest⟩ := hl
  have hcl := cell_of_one hL.left
  have hcf := free_of_one hL.left
  have hs := Lib.hid (hL.set hne)
  have hbl : b < l := by omega
  have hne' : ¬ b = l := by omega
  have HL := Lib.hid hL
  have HR := Lib.hid hrest
  clear hL hrest rk
  rw [rng_iff] at rn
  obtain ⟨n1, n2⟩ := rn
  have hbad : (left - 1 < 0 ∨ 64 < deep ∨ ((5 : Int) ≠ 4 ∧ t.size ≠ 0) ∨ ((5 : Int) ≠ 5 ∧ 0 < ls.length)) → Hid ((Pl.mk 5 n t ls).right left deep = (false, left - 1)) := fun h => by unfold Hid Pl.right; rw [if_pos h]
  have HB := Lib.hid hbad
  clear hbad
  have hsz : t.toList = [] ↔ t.size = 0 := by
    rw [Lib.toList_data, ← List.length_eq_zero_iff]; simp
  have HS := Lib.hid hsz
  clear hsz
  by_cases ha : left - 1 < 0
  · have hx := HB.out (.inl ha)
    go_enter Tryz.func72, Tryz.ntmps72
    go_wp2
    go_ret
    exact ⟨by rw [hx.out]; rfl, by rw [hx.out]; exact hs.out _, grown_set _ _ _⟩
  by_cases hb1 : 64 < deep
  · have hx := HB.out (.inr (.inl hb1))
    go_enter Tryz.func72, Tryz.ntmps72
    go_wp2
    go_ret
    exact ⟨by rw [hx.out]; rfl, by rw [hx.out]; exact hs.out _, grown_set _ _ _⟩
  by_cases ht0 : t.toList = []
  · have hx := Lib.hid (show (Pl.mk 5 n t ls).right left deep = (((Pls.right ls (left - 1) (deep + 1)).1 && decide (n = 0)), (Pls.right ls (left - 1) (deep + 1)).2) by
      rw [Pl.right, if_neg (by rintro (h | h | ⟨_, h⟩ | ⟨h, _⟩); exact ha h; exact hb1 h; exact h (HS.out.1 ht0); exact h rfl)]; rfl)
    go_enter Tryz.func72, Tryz.ntmps72
    go_wp2
    generalize hW1 : w.setCell ⟨l, 0, none⟩ (.int .i64 (left - 1)) = w1
    have hL1 : Looks w1 l q (left - 1) := by rw [← hW1]; exact hs.out _
    have hg1 : w.grownBy w1 (some l) := by rw [← hW1]; exact grown_set _ _ _
    clear hW1 hs hcl hcf c0 c1 c2 c3 HL
    have HL1 := Lib.hid hL1
    clear hL1
    go_loopw [91] (fun s91 wr => ∃ (k : Nat) (L : Int), k ≤ ls.length ∧ s91 = .int .i64 (k : Int) ∧ Looks wr l q L ∧ w.grownBy wr (some l) ∧ 0 ≤ L ∧ L ≤ 65536 ∧ Pls.right (ls.drop k) L (deep + 1) = Pls.right ls (left - 1) (deep + 1)) (fun s91 _ => ls.length - (intOf s91).toNat)
    case atStart => exact ⟨0, left - 1, Nat.zero_le _, rfl, HL1.out, hg1, by omega, by omega, by simp⟩
    case round =>
      obtain ⟨k, L, hk, rfl, hLr, hgr, hL0, hL1, heq⟩ := hrel
      have HE := Lib.hid heq
      have hlr := (hlies.out).grown hgr hBl hBw
      unfold Pl.lies at hlr
      obtain ⟨_, e0, e1, e2, _, _, _, _, A', c', e3, hrr⟩ := hlr
      have f0 := cell_of_one hLr.left
      have f1 := cell_of_one hLr.self
      by_cases hlt : k < ls.length
      · obtain ⟨b', o', rfl⟩ := hrr.head (by omega)
        have hel := Lib.hid (hrr.at_ k hlt)
        have hst := Lib.hid (Pls.right_step hlt L (deep + 1))
        have HLr := Lib.hid hLr
        have HGr := Lib.hid hgr
        have hBr : B ≤ wr.heap.size := Nat.le_trans hBw hgr.size
        clear hrr hLr hgr heq
        go_wp2
        go_still_tail 9, (by kernel_rfl)
        go_wp2_with fail
        refine (IH.out k hlt _ _ _ _ L _ wr.drew B hBl hBq hne hBr hL0 hL1 (by omega) (by omega) hel.out.drew HLr.out.drew).mono ?_
        rintro e w' ⟨rfl, hL', hg'⟩
        have hle := Pl.right_le ls[k] L (deep + 1)
        have hg2 := Lib.hid (grown_on (grown_drew HGr.out) hg')
        have HL' := Lib.hid hL'
        clear hL' hg' HLr HGr hel
        cases hr : (ls[k].right L (deep + 1)).1
        · have hfin : Pls.right ls (left - 1) (deep + 1) = (false, (ls[k].right L (deep + 1)).2) := by
            rw [← HE.out, hst.out, hr]; rfl
          have HF := Lib.hid hfin
          clear hfin hle HE hst
          go_wp2
          go_ret
          exact ⟨by rw [hx.out, HF.out]; rfl, by rw [hx.out, HF.out]; exact HL'.out, hg2.out⟩
        · have hnext : Pls.right (ls.drop (k + 1)) (ls[k].right L (deep + 1)).2 (deep + 1) = Pls.right ls (left - 1) (deep + 1) := by
            rw [← HE.out, hst.out, hr]; rfl
          have HN := Lib.hid hnext
          obtain ⟨hle1, hle2⟩ := hle
          have hle3 := hle2 hr
          clear hnext HE hst hle2
          go_wp2
          go_roundw
          case rel => exact ⟨k + 1, _, by omega, by go_num, HL'.out, hg2.out, hle3, by omega, HN.out⟩
          case measure => simp [intOf]; omega
      · obtain rfl : k = ls.length := by omega
        have hfin : Pls.right ls (left - 1) (deep + 1) = (true, L) := by
          rw [← heq, List.drop_length]; unfold Pls.right; rfl
        have HF := Lib.hid (hx.out.trans (by rw [hfin]))
        have HLr := Lib.hid hLr
        have HGr := Lib.hid hgr
        clear hfin heq hrr hLr hgr HE
        by_cases hn : n = 0
        · subst hn
          go_wp2
          go_ret
          exact ⟨by rw [HF.out]; rfl, by rw [HF.out]; exact HLr.out, HGr.out⟩
        · have hnb : (n == 0) = false := by simpa using hn
          go_wp2
          go_ret
          exact ⟨by rw [HF.out]; exact ret_bool (by simp [hn]), by rw [HF.out]; exact HLr.out, HGr.out⟩
  · have hx := HB.out (.inr (.inr (.inl ⟨by decide, fun h => ht0 (HS.out.2 h)⟩)))
    go_enter Tryz.func72, Tryz.ntmps72
    go_wp2
    go_ret
    exact ⟨by rw [hx.out]; rfl, by rw [hx.out]; exact hs.out _, grown_set _ _ _⟩

theorem right1_all : ∀ (m : Nat) (p : Pl), SizeOf.sizeOf p ≤ m → ∀ (b o l q : Nat) (left deep : Int) (w : World) (B : Nat), B ≤ l → B ≤ q → l ≠ q → B ≤ w.heap.size → 0 ≤ left → left ≤ 65536 → 0 ≤ deep → deep ≤ 65 → p.lies w B b o → Looks w l q left →
      Calls Tryz.prog 72 #[.pointer (some ⟨b, o, none⟩), .int .i64 deep, .pointer (some ⟨l, 0, none⟩), .pointer (some ⟨q, 0, none⟩)] w (RightPost w l q (p.right left deep)) := by
  intro m
  induction m with
  | zero => intro p h; cases p; simp at h
  | succ m ih =>
    intro p hp b o l q left deep w B h1 h2 h3 h4 h5 h6 h7 h8 h9 h10
    obtain ⟨k, n, t, ls⟩ := p
    by_cases hk : k = 5
    · subst hk
      exact right1_list n t ls (fun j hj => ih ls[j] (by have := Pl.size_lt (k := 5) (n := n) (t := t) hj; omega)) b o l q left deep w B h1 h2 h3 h4 h5 h6 h7 h8 h9 h10
    · exact right1_scalar k n t ls hk b o l q left deep w B h1 h2 h3 h5 h6 h7 h8 h9 h10
end Go.Proofs.YtcdjnkeomaidaaaGreat

/-
  zval.right: a walk, for every plain value. Conditions: it lies in memory.
-/
namespace Go.Proofs.YtcdjnkeomaidaaaGreat
open Go.RowKit
set_option linter.unusedVariables false

set_option maxHeartbeats 1000000 in
theorem zval_right (p : Pl) (b o : Nat) (w : World) (hp : p.lies w w.heap.size b o) :
    Calls Tryz.prog 47 #[.pointer (some ⟨b, o, none⟩)] w fun e w' => e = .returned (.bool (p.right 65536 0).1) ∧ Below w.heap.size w w' := by
  have hlies : Hid (∀ v : World, Below w.heap.size w v → p.lies v w.heap.size b o) := fun v hv => hp.below hv (Nat.le_refl _)
  clear hp
  go_enter Tryz.func47, Tryz.ntmps47
  go_wp2_with fail
  have hs : w.heap.size ≠ w.heap.size + 1 := by omega
  refine (right1_all (SizeOf.sizeOf p) p (Nat.le_refl _) _ _ _ _ 65536 0 _ w.heap.size (Nat.le_refl _) (Nat.le_succ _) (by omega) (by simp; omega) (by decide) (by decide) (by decide) (by decide) (hlies.out _ ?_) ?_).mono ?_
  · exact ((Below.refl _ _).alloc (Nat.le_refl _) _).alloc (by simp) _
  · exact ⟨(heap_alloc2 _ _ _).1, (heap_alloc2 _ _ _).2⟩
  rintro e w' ⟨rfl, hL, hg⟩
  go_wp2
  go_ret
  exact ⟨rfl, (((Below.refl _ _).alloc (Nat.le_refl _) _).alloc (by simp) _).grown hg (by simp; omega) (fun k hk => by injection hk with hk; omega)⟩
end Go.Proofs.YtcdjnkeomaidaaaGreat

/-
  zval.Of: the value of a plain one, in memory of its own: a walk, for every plain value. Conditions: it lies in memory.
-/
namespace Go.Proofs.YtcdjnkeomaidaaaGreat
open Go.RowKit
set_option linter.unusedVariables false

theorem info_value : (Tryz.prog.info? 29).map (fun i => (i.zero, i.size, i.bytes)) = some (some .nilIface, 1, 16) := by kernel_rfl
def OfPost (p : Pl) (w : World) (e : Ending) (w' : World) : Prop := ∃ v, e = .returned v ∧ p.toVl.is w' (fresh w w') v ∧ Below w.heap.size w w'

theorem of_scalar (k n : Int) (t : ByteArray) (l : List Pl) (hk : k ≠ 5) (A : Option Addr) (len c : Nat) (w : World) :
    Calls Tryz.prog 48 #[.agg #[.int .i64 k, .int .i64 n, .string t, .slice A len c]] w (OfPost (.mk k n t l) w) := by
  by_cases h2 : k = 2
  · have hx := Lib.hid (show (Pl.mk k n t l).toVl = .truth (decide (n = 1)) by rw [Pl.toVl, if_pos h2])
    subst h2
    go_enter Tryz.func48, Tryz.ntmps48
    go_wp2
    all_goals go_ret
    exact ⟨_, rfl, by rw [hx.out]; unfold Vl.is; congr 2, (Below.refl _ _).alloc (Nat.le_refl _) _⟩
  have h2b : (k == 2) = false := by simpa using h2
  by_cases h3 : k = 3
  · have hx := Lib.hid (show (Pl.mk k n t l).toVl = .int n by rw [Pl.toVl, if_neg h2, if_pos h3])
    subst h3
    go_enter Tryz.func48, Tryz.ntmps48
    go_wp2
    go_ret
    exact ⟨_, rfl, by rw [hx.out]; unfold Vl.is; rfl, (Below.refl _ _).alloc (Nat.le_refl _) _⟩
  have h3b : (k == 3) = false := by simpa using h3
  by_cases h4 : k = 4
  · have hx := Lib.hid (show (Pl.mk k n t l).toVl = .text t by rw [Pl.toVl, if_neg h2, if_neg h3, if_pos h4])
    subst h4
    go_enter Tryz.func48, Tryz.ntmps48
    go_wp2
    go_ret
    exact ⟨_, rfl, by rw [hx.out]; unfold Vl.is; rfl, (Below.refl _ _).alloc (Nat.le_refl _) _⟩
  have h4b : (k == 4) = false := by simpa using h4
  have hkb : (k == 5) = false := by simpa using hk
  have hx := Lib.hid (show (Pl.mk k n t l).toVl = .unit by rw [Pl.toVl, if_neg h2, if_neg h3, if_neg h4, if_neg hk])
  go_enter Tryz.func48, Tryz.ntmps48
  go_wp2
  go_ret
  exact ⟨_, rfl, by rw [hx.out]; unfold Vl.is; rfl, (Below.refl _ _).alloc (Nat.le_refl _) _⟩

theorem fresh_grow {w w' w'' : World} (h : w'.heap.size ≤ w''.heap.size) (b : Nat) (hb : fresh w w' b) : fresh w w'' b := ⟨hb.1, Nat.lt_of_lt_of_le hb.2 h⟩

set_option maxRecDepth 100000 in
set_option maxHeartbeats 2000000 in
theorem of_list (n : Int) (t : ByteArray) (l : List Pl)
    (ih : ∀ (j : Nat) (h : j < l.length) (A : Option Addr) (c : Nat) (w : World), l[j].list.length * 56 ≤ 140737488351232 → Pls.lies w w.heap.size l[j].list A →
      Calls Tryz.prog 48 #[.agg #[.int .i64 l[j].kind, .int .i64 l[j].num, .string l[j].text, .slice A l[j].list.length c]] w (OfPost l[j] w))
    (A : Option Addr) (c : Nat) (w : World) (hlen : l.length * 56 ≤ 140737488351232) (hl : Pls.lies w w.heap.size l A) :
    Calls Tryz.prog 48 #[.agg #[.int .i64 5, .int .i64 n, .string t, .slice A l.length c]] w (OfPost (.mk 5 n t l) w) := by
  have hx := Lib.hid (show (Pl.mk 5 n t l).toVl = .list (Pls.toVl l) by rw [Pl.toVl]; rfl)
  obtain ⟨i0, hi, hz0, hz1, hz2⟩ := info_parts info_value
  have IH := Lib.hid ih
  have HL := Lib.hid hl
  have HB : Hid (Below w.heap.size w (w.alloc (.cells #[.int .i64 5, .int .i64 n, .string t, .slice A l.length c] 34))) := (Below.refl _ _).alloc (Nat.le_refl _) _
  clear ih hl
  go_enter Tryz.func48, Tryz.ntmps48
  go_wp2_with (refine wpList_make_own _ rfl _ _ 147 rfl (w.heap.size + 1) 29 i0 .nilIface 1 Tryz.underlying147 hi hz0 hz1 _ _ _ l.length rfl rfl rfl (by rw [hz2]; omega) (by unfold maxLen; omega) (by simp) ?_; intro w1 hown hgr; have hc3 : w1.cell? ⟨w.heap.size, 3, none⟩ = some (.slice A l.length c) := (World.cell?_of_block (hgr.block _ (by simp) (by simp))).trans (by rw [World.cell?_alloc_new]; rfl))
  have hb1 := HB.out.grown hgr (by simp) (by simp)
  have hsz : w.heap.size + 1 < w1.heap.size := by
    rcases hown.2 with ⟨h, _⟩ | ⟨g, cap, cur, h, _, hh, _⟩
    · cases h
    · have := lt_of_block hh
      injection h with h _ _
      injection h with h
      injection h with h
      omega
  have HB1 := Lib.hid hb1
  have hown' : w1.ownsRow (w.heap.size + 1) 29 1 (.slice (some ⟨w.heap.size + 1, 0, none⟩) 0 l.length) 0 [] := by simpa using hown
  have HO := Lib.hid hown'
  clear hown'
  clear hgr hown hb1
  go_loopw [3, 33] (fun s3 s33 wr => ∃ (k : Nat) (us : List Value), k ≤ l.length ∧ s33 = .int .i64 (k : Int) ∧ s3 = .slice (some ⟨w.heap.size + 1, 0, none⟩) k l.length ∧ us.length = k ∧ wr.ownsRow (w.heap.size + 1) 29 1 (.slice (some ⟨w.heap.size + 1, 0, none⟩) k l.length) k us ∧
      (∀ j (h : j < l.length) (h' : j < us.length), l[j].toVl.is wr (fun b => w.heap.size + 1 < b ∧ b < wr.heap.size) us[j]) ∧ Below w.heap.size w wr ∧ w.heap.size + 1 < wr.heap.size) (fun _ s33 _ => l.length - (intOf s33).toNat)
  case atStart => exact ⟨0, [], Nat.zero_le _, rfl, rfl, rfl, HO.out, fun j h h' => absurd h' (by simp), HB1.out, hsz⟩
  case round =>
    clear hc3 hsz HO HB1 HB
    obtain ⟨k, us, hk, rfl, rfl, hus, hown, hel, hbel, hsz⟩ := hrel
    have HE := Lib.hid hel
    have HU := Lib.hid hus
    have HBL := Lib.hid hbel
    clear hel hus hbel
    by_cases hlt : k < l.length
    · obtain ⟨b', o', rfl⟩ := HL.out.head (by omega)
      have hlies := ((HL.out.below HBL.out (Nat.le_refl _)).at_ k hlt)
      obtain ⟨hbb, e0, e1, e2, hlen2, A', c', e3, hll⟩ := hlies.parts
      have HLL := Lib.hid hll
      clear hll hlies
      go_wp2_with fail
      refine (IH.out k hlt A' c' _ hlen2 (HLL.out.below ((Below.refl _ _).alloc (by omega) _) (by simp; omega))).mono ?_
      rintro e w2 ⟨v, rfl, hv, hb2⟩
      obtain ⟨vt, vx, rfl⟩ := hv.iface
      have HV := Lib.hid hv
      have hV := Lib.hid hv
      have HB2 := Lib.hid hb2
      have hown2 := own_below (hown.alloc _) hb2
      have hs2 := hb2.size
      rw [size_alloc] at hs2
      have hone := one_new w2 (.iface vt vx) 29
      clear hv hb2 hown e0 e1 e2 e3 HLL
      go_wp2_with (at_builtin; refine wpList_append_fits _ rfl _ _ 147 rfl (w.heap.size + 1) 29 i0 1 Tryz.underlying147 hi hz1 (w.heap.size + 1) k l.length us rfl (hown2.alloc _) ⟨w2.heap.size, 0, none⟩ 1 1 [.iface vt vx] rfl rfl hone (by intro u hu; simp at hu; subst hu; rfl) (by omega) ?_)
      intro w3 hown3 hgr3
      obtain ⟨hc1, hc2, hs1, hs3⟩ := step_cells HB2.out hgr3
      have hel3 : ∀ j (h : j < l.length) (h' : j < (us ++ [Value.iface vt vx]).length), l[j].toVl.is w3 (fun b => w.heap.size + 1 < b ∧ b < w3.heap.size) (us ++ [Value.iface vt vx])[j] := by
        intro j h h'
        have hus := HU.out
        by_cases hj : j < k
        · rw [List.getElem_append_left (by omega)]
          exact (HE.out j h (by omega)).keep (fun b o hb => hc1 b o (by omega) hb.2) (fun b hb => ⟨hb.1, by omega⟩)
        · have hjk : j = k := by simp at h'; omega
          rw [List.getElem_append_right (by omega)]
          simp only [hjk, hus, Nat.sub_self, List.getElem_cons_zero]
          exact (HV.out).keep (fun b o hb => hc2 b o (by have := hb.1; rw [size_alloc] at this; omega) hb.2) (fun b hb => ⟨by have := hb.1; rw [size_alloc] at this; omega, by have := hb.2; omega⟩)
      have hb3 : Below w.heap.size w w3 := (((HBL.out.alloc (by omega) _).trans (HB2.out.mono (by rw [size_alloc]; omega))).alloc (by omega) _).grown hgr3 (by rw [size_alloc]; omega) (by intro k hk; injection hk with hk; omega)
      have HE3 := Lib.hid hel3
      have HB3 := Lib.hid hb3
      have HO3 := Lib.hid hown3
      have hlen3 : (us ++ [Value.iface vt vx]).length = k + 1 := by simp [HU.out]
      have HL3 := Lib.hid hlen3
      clear hel3 hb3 hown3 hgr3 hc1 hc2 hown2 hone hlen3
      go_wp2
      go_roundw
      case rel => exact ⟨k + 1, us ++ [.iface vt vx], by omega, by go_num, rfl, HL3.out, HO3.out, HE3.out, HB3.out, by omega⟩
      case measure => simp [intOf]; omega
    · obtain rfl : k = l.length := by omega
      have HO := Lib.hid hown
      clear hown
      go_wp2
      go_ret
      refine ⟨_, rfl, ?_, HBL.out⟩
      rw [hx.out]
      unfold Vl.is
      refine ⟨some ⟨w.heap.size + 1, 0, none⟩, l.length, by rw [Pls.toVl_length]; rfl, Vls.lies.of (us := us) (by rw [Pls.toVl_length]; exact HU.out) (fun _ => ⟨by omega, hsz⟩) (fun j u hj => ?_) (fun j h h' => ?_)⟩
      · have hlt : j < us.length := by
          rcases Nat.lt_or_ge j us.length with h | h
          · exact h
          · rw [List.getElem?_eq_none h] at hj; cases hj
        rw [Nat.zero_add, HO.out.cellAt j (by rw [Nat.mul_one]; have := HU.out; omega)]
        exact hj
      · have hj : j < l.length := by rw [Pls.toVl_length] at h; exact h
        rw [Pls.toVl_get l j hj h]
        exact (HE.out j hj h').keep (fun _ _ _ => rfl) (fun b hb => ⟨by omega, hb.2⟩)

theorem of_all : ∀ (m : Nat) (p : Pl), SizeOf.sizeOf p ≤ m → ∀ (A : Option Addr) (c : Nat) (w : World), p.list.length * 56 ≤ 140737488351232 → Pls.lies w w.heap.size p.list A →
      Calls Tryz.prog 48 #[.agg #[.int .i64 p.kind, .int .i64 p.num, .string p.text, .slice A p.list.length c]] w (OfPost p w) := by
  intro m
  induction m with
  | zero => intro p h; cases p; simp at h
  | succ m ih =>
    intro p hp A c w h1 h2
    obtain ⟨k, n, t, l⟩ := p
    by_cases hk : k = 5
    · subst hk
      exact of_list n t l (fun j hj => ih l[j] (by have := Pl.size_lt (k := 5) (n := n) (t := t) hj; omega)) A c w h1 h2
    · exact of_scalar k n t l hk A _ c w
/-- zval.Of. -/
theorem zval_of (p : Pl) (A : Option Addr) (c : Nat) (w : World) (h1 : p.list.length * 56 ≤ 140737488351232) (h2 : Pls.lies w w.heap.size p.list A) :
    Calls Tryz.prog 48 #[.agg #[.int .i64 p.kind, .int .i64 p.num, .string p.text, .slice A p.list.length c]] w (OfPost p w) := of_all _ p (Nat.le_refl _) A c w h1 h2
end Go.Proofs.YtcdjnkeomaidaaaGreat

/-
  zval.measure, zval.May: walks, for every value. Conditions: it lies in memory.
-/
namespace Go.Proofs.YtcdjnkeomaidaaaGreat
open Go.RowKit
set_option linter.unusedVariables false

theorem as_text (s : Value) (w : World) : (Instr.typeAssert (.iface 146 s) 29 146 true).run Tryz.prog w = .ok (.tuple #[s, .bool true]) w := run_assert_hit Tryz.underlying146 rfl _ w
theorem as_list (s : Value) (w : World) : (Instr.typeAssert (.iface 147 s) 29 147 true).run Tryz.prog w = .ok (.tuple #[s, .bool true]) w := run_assert_hit Tryz.underlying147 rfl _ w
theorem no_text (t : TypeId) (v : Value) (h : t ≠ 146) (w : World) : (Instr.typeAssert (.iface t v) 29 146 true).run Tryz.prog w = .ok (.tuple #[.string ⟨#[]⟩, .bool false]) w :=
  run_assert_miss Tryz.underlying146 rfl (fun w => by kernel_rfl) h _ w
theorem no_list (t : TypeId) (v : Value) (h : t ≠ 147) (w : World) : (Instr.typeAssert (.iface t v) 29 147 true).run Tryz.prog w = .ok (.tuple #[.slice none 0 0, .bool false]) w :=
  run_assert_miss Tryz.underlying147 rfl (fun w => by kernel_rfl) h _ w

def MeasurePost (r : Int) (w : World) (e : Ending) (w' : World) : Prop := e = .returned (.int .i64 r) ∧ w = w'

theorem measure_other (t : TypeId) (v : Value) (h1 : t ≠ 146) (h2 : t ≠ 147) (left deep : Int) (w : World) (hl : -200 ≤ left) (hu : left ≤ 65536) :
    Calls Tryz.prog 73 #[.iface t v, .int .i64 left, .int .i64 deep] w (MeasurePost (left - 1) w) := by
  have a1 := no_text t v h1
  have a2 := no_list t v h2
  go_enter Tryz.func73, Tryz.ntmps73
  go_wp2
  go_ret
  exact ⟨rfl, rfl⟩
theorem measure_text (s : ByteArray) (hs : s.size ≤ 140737488351232) (left deep : Int) (w : World) (hl : -200 ≤ left) (hu : left ≤ 65536) :
    Calls Tryz.prog 73 #[.iface 146 (.string s), .int .i64 left, .int .i64 deep] w (MeasurePost (left - 1 - s.size) w) := by
  have a1 := as_text
  go_enter Tryz.func73, Tryz.ntmps73
  go_wp2
  go_ret
  exact ⟨rfl, rfl⟩

set_option maxHeartbeats 1000000 in
theorem measure_list (l : List Vl) (hlen : l.length ≤ 140737488351232) (w : World) (S : Nat → Prop)
    (ih : ∀ (j : Nat) (h : j < l.length) (left deep : Int) (v : Value), -100 ≤ left + deep → left ≤ 65536 → 0 ≤ deep → deep ≤ 65 → l[j].is w S v → Calls Tryz.prog 73 #[v, .int .i64 left, .int .i64 deep] w (MeasurePost (l[j].measure left deep) w))
    (A : Option Addr) (c : Nat) (left deep : Int) (hl : -100 ≤ left + deep) (hu : left ≤ 65536) (hd0 : 0 ≤ deep) (hd1 : deep ≤ 65) (hA : Vls.lies w S l A) :
    Calls Tryz.prog 73 #[.iface 147 (.slice A l.length c), .int .i64 left, .int .i64 deep] w (MeasurePost ((Vl.list l).measure left deep) w) := by
  have a1 := no_text 147 (.slice A l.length c) (by decide)
  have a2 := as_list
  have HA := Lib.hid hA
  have IH := Lib.hid ih
  clear hA ih
  by_cases hd : 64 ≤ deep
  · have hx := Lib.hid (show (Vl.list l).measure left deep = -1 by unfold Vl.measure; rw [if_pos hd])
    go_enter Tryz.func73, Tryz.ntmps73
    go_wp2
    go_ret
    exact ⟨by rw [hx.out]; rfl, rfl⟩
  · have hx := Lib.hid (show (Vl.list l).measure left deep = Vls.measure l (left - 1) (deep + 1) by rw [Vl.measure, if_neg hd])
    go_enter Tryz.func73, Tryz.ntmps73
    go_wp2
    clear a1 a2
    go_loop [1, 28] (fun s1 s28 => ∃ (k : Nat) (L : Int), k ≤ l.length ∧ s28 = .int .i64 (k : Int) ∧ s1 = .int .i64 L ∧ (k = l.length → 0 < k → 0 ≤ L) ∧ -100 ≤ L + (deep + 1) ∧ (0 < k → 0 ≤ L) ∧ L ≤ 65536 ∧ Vls.measure (l.drop k) L (deep + 1) = Vls.measure l (left - 1) (deep + 1)) (fun _ s28 => l.length - (intOf s28).toNat)
    case atStart => exact ⟨0, left - 1, Nat.zero_le _, rfl, rfl, by omega, by omega, by omega, by omega, by simp⟩
    case round =>
      obtain ⟨k, L, hk, rfl, rfl, _, hL0, hL1, hL2, heq⟩ := hrel
      have HE := Lib.hid heq
      clear heq
      by_cases hlt : k < l.length
      · obtain ⟨b, o, rfl⟩ := HA.out.head (by omega)
        obtain ⟨_, u, hu, hiu⟩ := HA.out.at_ k hlt
        have HU := Lib.hid hiu
        have hst := Lib.hid (Vls.measure_step hlt L (deep + 1))
        have hle := Vl.measure_le l[k] L (deep + 1)
        clear hiu
        go_wp2_with (go_at_call 73; refine (IH.out k hlt L (deep + 1) u (by omega) (by omega) (by omega) (by omega) HU.out).mono ?_; rintro e w' ⟨rfl, rfl⟩)
        · have hneg : l[k].measure L (deep + 1) < 0 := by assumption
          go_ret
          exact ⟨by rw [hx.out, ← HE.out, hst.out, if_pos hneg]; rfl, rfl⟩
        · have hneg : ¬ l[k].measure L (deep + 1) < 0 := by first | assumption | omega
          have hnext := HE.out.symm.trans (hst.out.trans (if_neg hneg))
          go_round
          case rel => exact ⟨k + 1, _, by omega, by go_num, rfl, by omega, by omega, by omega, by omega, hnext.symm⟩
          case measure => simp [intOf]; omega
      · obtain rfl : k = l.length := by omega
        have hfin := Lib.hid (hx.out.trans (show _ = L by rw [← HE.out, List.drop_length]; unfold Vls.measure; rfl))
        go_wp2
        go_ret
        exact ⟨by rw [hfin.out]; rfl, rfl⟩

theorem measure_all : ∀ (m : Nat) (x : Vl), SizeOf.sizeOf x ≤ m → ∀ (left deep : Int) (w : World) (S : Nat → Prop) (v : Value), -100 ≤ left + deep → left ≤ 65536 → 0 ≤ deep → deep ≤ 65 → x.fine → x.is w S v →
    Calls Tryz.prog 73 #[v, .int .i64 left, .int .i64 deep] w (MeasurePost (x.measure left deep) w) := by
  intro m
  induction m with
  | zero => intro x h; cases x <;> simp at h
  | succ m ih =>
    intro x hx left deep w S v h1 h2 h3 h4 hf hi
    cases x with
    | unit => unfold Vl.is at hi; subst hi; unfold Vl.measure; exact measure_other _ _ (by decide) (by decide) left deep w (by omega) h2
    | truth b => unfold Vl.is at hi; subst hi; unfold Vl.measure; exact measure_other _ _ (by decide) (by decide) left deep w (by omega) h2
    | int n => unfold Vl.is at hi; subst hi; unfold Vl.measure; exact measure_other _ _ (by decide) (by decide) left deep w (by omega) h2
    | text s => unfold Vl.is at hi; unfold Vl.fine at hf; subst hi; unfold Vl.measure; exact measure_text s hf left deep w (by omega) h2
    | list l =>
      unfold Vl.is at hi; unfold Vl.fine at hf
      obtain ⟨A, c, rfl, hA⟩ := hi
      exact measure_list l hf.1 w S (fun j hj left deep v g1 g2 g3 g4 g5 => ih l[j] (by have := Vl.size_lt hj; omega) left deep w S v g1 g2 g3 g4 (hf.2.at_ j hj) g5) A c left deep h1 h2 h3 h4 hA
/-- zval.May. -/
theorem zval_may (x : Vl) (w : World) (S : Nat → Prop) (v : Value) (hf : x.fine) (hi : x.is w S v) :
    Calls Tryz.prog 49 #[v] w fun e w' => e = .returned (.bool (decide (0 ≤ x.measure 65536 0))) ∧ w = w' := by
  have H := Lib.hid (measure_all _ x (Nat.le_refl _) 65536 0 w S v (by decide) (by decide) (by decide) (by decide) hf hi)
  clear hf hi
  go_enter Tryz.func49, Tryz.ntmps49
  go_wp2_with (go_at_call 73; refine (H.out).mono ?_; rintro e w' ⟨rfl, rfl⟩)
  go_ret
  exact ⟨rfl, rfl⟩
end Go.Proofs.YtcdjnkeomaidaaaGreat

/-
  zval.All: the values of plain ones: a walk, for every list of plain values. Conditions: it lies in memory.
-/
namespace Go.Proofs.YtcdjnkeomaidaaaGreat
open Go.RowKit
set_option linter.unusedVariables false

def AllPost (ps : List Pl) (w : World) (e : Ending) (w' : World) : Prop :=
  (ps.all Pl.ok = true ∧ ∃ A c, e = .returned (.tuple #[.slice A ps.length c, .bool true]) ∧ Vls.lies w' (fresh w w') (Pls.toVl ps) A ∧ Below w.heap.size w w') ∨
  (ps.all Pl.ok = false ∧ e = .returned (.tuple #[.slice none 0 0, .bool false]) ∧ Below w.heap.size w w')

theorem all_false {ps : List Pl} {k : Nat} (h : k < ps.length) (hk : ps[k].ok = false) : ps.all Pl.ok = false := by
  rw [List.all_eq_false]; exact ⟨ps[k], List.getElem_mem h, by simp [hk]⟩
theorem all_true {ps : List Pl} (h : ∀ j (hj : j < ps.length), ps[j].ok = true) : ps.all Pl.ok = true := by
  rw [List.all_eq_true]
  intro p hp
  obtain ⟨j, hj, rfl⟩ := List.mem_iff_getElem.1 hp
  exact h j hj

/-- What one round does to the values that have been gathered. -/
theorem all_step {ps : List Pl} {k base : Nat} {us : List Value} {wr w2 w3 w4 : World} {s4 v' v : Value} {X Y : Obj} (hlt : k < ps.length) (hus : us.length = k) {e : TypeId}
    (hown : wr.ownsRow base e 1 s4 k us) (hb2 : Below (wr.alloc X).heap.size (wr.alloc X) w2) (hb3 : Below w2.heap.size w2 w3) (hgr : (w3.alloc Y).grownBy w4 s4.ownBlock) (hblk : v'.ownBlock = s4.ownBlock ∨ v'.ownBlock = some (w3.alloc Y).heap.size)
    (hel : ∀ j (h : j < ps.length) (h' : j < us.length), ps[j].toVl.is wr (fun b => (base ≤ b ∧ b < wr.heap.size) ∧ s4.ownBlock ≠ some b) us[j]) (hv : ps[k].toVl.is w3 (fresh w2 w3) v) (hbase : base ≤ wr.heap.size) :
    ∀ j (h : j < ps.length) (h' : j < (us ++ [v]).length), ps[j].toVl.is w4 (fun b => (base ≤ b ∧ b < w4.heap.size) ∧ v'.ownBlock ≠ some b) (us ++ [v])[j] := by
  intro j h h'
  have hs2 := hb2.size
  have hs3 := hb3.size
  have hs4 := hgr.size
  rw [size_alloc] at hs2 hs4 hblk
  have hol : ∀ g, s4.ownBlock = some g → g < wr.heap.size := fun g hg => (hown.lt g hg).2
  have hc3 : ∀ b o, b < w3.heap.size → s4.ownBlock ≠ some b → w4.cell? ⟨b, o, none⟩ = w3.cell? ⟨b, o, none⟩ := fun b o hb hne => by
    rw [World.cell?_of_block (a := ⟨b, o, none⟩) (hgr.block b (by rw [size_alloc]; omega) (Ne.symm hne)), World.cell?_alloc_lt _ _ _ hb]
  by_cases hj : j < k
  · rw [List.getElem_append_left (by omega)]
    refine (hel j h (by omega)).keep (fun b o hb => ?_) (fun b hb => ⟨⟨hb.1.1, by have := hb.1.2; omega⟩, ?_⟩)
    · rw [hc3 b o (by have := hb.1.2; omega) hb.2, hb3.cell (p := ⟨b, o, none⟩) (by have := hb.1.2; simp; omega), hb2.cell (p := ⟨b, o, none⟩) (by have := hb.1.2; simp; omega), World.cell?_alloc_lt _ _ _ hb.1.2]
    · rcases hblk with e | e <;> rw [e]
      · exact hb.2
      · intro e; injection e with e; have := hb.1.2; omega
  · have hjk : j = k := by simp at h'; omega
    rw [List.getElem_append_right (by omega)]
    simp only [hjk, hus, Nat.sub_self, List.getElem_cons_zero]
    have hne : ∀ b, fresh w2 w3 b → s4.ownBlock ≠ some b := fun b hb e => by have := hol b e; have := hb.1; omega
    refine hv.keep (fun b o hb => hc3 b o hb.2 (hne b hb)) (fun b hb => ⟨⟨by have := hb.1; omega, by have := hb.2; omega⟩, ?_⟩)
    rcases hblk with e | e <;> rw [e]
    · exact hne b hb
    · intro e; injection e with e; have := hb.2; omega

set_option maxRecDepth 100000 in
set_option maxHeartbeats 2000000 in
theorem zval_all (ps : List Pl) (A : Option Addr) (c : Nat) (w : World) (hlen : ps.length * 56 ≤ 140737488351232) (hl : Pls.lies w w.heap.size ps A) :
    Calls Tryz.prog 18 #[.slice A ps.length c] w (AllPost ps w) := by
  obtain ⟨i0, hi, hz0, hz1, hz2⟩ := info_parts info_value
  have HL := Lib.hid hl
  clear hl
  go_enter Tryz.func18, Tryz.ntmps18
  go_wp2
  go_loopw [4, 10] (fun s4 s10 wr => ∃ (k : Nat) (us : List Value), k ≤ ps.length ∧ s10 = .int .i64 (k : Int) ∧ us.length = k ∧ wr.ownsRow w.heap.size 29 1 s4 k us ∧
      (∀ j (h : j < ps.length) (h' : j < us.length), ps[j].toVl.is wr (fun b => (w.heap.size ≤ b ∧ b < wr.heap.size) ∧ s4.ownBlock ≠ some b) us[j]) ∧ (∀ j (h : j < ps.length), j < k → ps[j].ok = true) ∧ Below w.heap.size w wr) (fun _ s10 _ => ps.length - (intOf s10).toNat)
  case atStart => exact ⟨0, [], Nat.zero_le _, rfl, rfl, World.ownsRow_nil _ _ _ _, fun j h h' => absurd h' (by simp), fun j h h' => absurd h' (by omega), Below.refl _ _⟩
  case round =>
    obtain ⟨k, us, hk, rfl, hus, hown, hel, hok, hbel⟩ := hrel
    have HE := Lib.hid hel
    have HU := Lib.hid hus
    have HK := Lib.hid hok
    have HBL := Lib.hid hbel
    have HO := Lib.hid hown
    have hsz := hbel.size
    clear hel hus hbel hok hown
    by_cases hlt : k < ps.length
    · obtain ⟨b', o', rfl⟩ := HL.out.head (by omega)
      have hlies := ((HL.out.below HBL.out (Nat.le_refl _)).at_ k hlt)
      obtain ⟨hbb, e0, e1, e2, hlen2, A', c', e3, hll⟩ := hlies.parts
      obtain ⟨hcopy, hlist⟩ := hlies.copy hsz e3 34
      have hfine := Lib.hid hlies.fine
      have HC := Lib.hid hcopy
      have HLI := Lib.hid hlist
      clear hll hlies hcopy hlist
      go_wp2_with fail
      refine (zval_right ps[k] wr.heap.size 0 _ (by rw [size_alloc]; exact HC.out)).mono ?_
      rintro e w2 ⟨rfl, hb2⟩
      have hs2 := hb2.size
      rw [size_alloc] at hs2
      have hB2 := Lib.hid hb2
      have d0 : w2.cell? ⟨wr.heap.size, 0, none⟩ = some (.int .i64 ps[k].kind) := (hb2.cell (p := ⟨wr.heap.size, 0, none⟩) (by simp)).trans (by rw [World.cell?_alloc_new]; rfl)
      have d1 : w2.cell? ⟨wr.heap.size, 1, none⟩ = some (.int .i64 ps[k].num) := (hb2.cell (p := ⟨wr.heap.size, 1, none⟩) (by simp)).trans (by rw [World.cell?_alloc_new]; rfl)
      have d2 : w2.cell? ⟨wr.heap.size, 2, none⟩ = some (.string ps[k].text) := (hb2.cell (p := ⟨wr.heap.size, 2, none⟩) (by simp)).trans (by rw [World.cell?_alloc_new]; rfl)
      have d3 : w2.cell? ⟨wr.heap.size, 3, none⟩ = some (.slice A' ps[k].list.length c') := (hb2.cell (p := ⟨wr.heap.size, 3, none⟩) (by simp)).trans (by rw [World.cell?_alloc_new]; rfl)
      have hbw2 : Below w.heap.size w w2 := (HBL.out.alloc hsz _).trans (hb2.mono (by rw [size_alloc]; omega))
      have HBW2 := Lib.hid hbw2
      clear hb2 hbw2 e0 e1 e2 e3
      cases hr : (ps[k].right 65536 0).1
      · have hf := Lib.hid (all_false hlt (show ps[k].ok = false by unfold Pl.ok; rw [hr]; rfl))
        clear d0 d1 d2 d3
        go_wp2
        go_ret2
        exact .inr ⟨hf.out, rfl, HBW2.out⟩
      · go_wp2_with fail
        refine (zval_of ps[k] A' c' w2 hlen2 (HLI.out.below ((Below.refl w.heap.size wr |>.alloc hsz _).trans (hB2.out.mono (by rw [size_alloc]; omega))) (by omega))).mono ?_
        rintro e w3 ⟨v, rfl, hv, hb3⟩
        obtain ⟨vt, vx, rfl⟩ := hv.iface
        have HV := Lib.hid hv
        have HB3 := Lib.hid hb3
        have hs3 := hb3.size
        clear hv hb3 d0 d1 d2 d3
        go_wp2_with fail
        refine (zval_may ps[k].toVl w3 _ _ hfine.out HV.out).mono ?_
        rintro e w' ⟨rfl, rfl⟩
        by_cases hm : 0 ≤ ps[k].toVl.measure 65536 0
        · have hmb : decide (0 ≤ ps[k].toVl.measure 65536 0) = true := by simpa using hm
          have hpk : Hid (ps[k].ok = true) := by unfold Hid Pl.ok; rw [hr, hmb]; rfl
          have hone := one_new w3 (.iface vt vx) 29
          have hown3 := own_below (own_below (HO.out.alloc (.cells #[.int .i64 ps[k].kind, .int .i64 ps[k].num, .string ps[k].text, .slice A' ps[k].list.length c'] 34)) hB2.out) HB3.out
          clear hm
          go_wp2_with (at_builtin; refine wpList_append_own_at _ rfl _ _ 55 rfl w.heap.size 29 i0 .nilIface 1 16 Tryz.underlying55 hi hz0 hz1 hz2 rfl (by decide) _ _ _ rfl (hown3.alloc _) ⟨w3.heap.size, 0, none⟩ 1 1 [.iface vt vx] rfl rfl hone (by intro u hu; simp at hu; subst hu; rfl) (by unfold maxLen; omega) (by omega) (by simp; omega) ?_)
          intro v' w4 hown4 hgr4 _ hblk
          have hel4 := all_step hlt HU.out HO.out hB2.out HB3.out hgr4 (by rw [size_alloc]; exact hblk) HE.out HV.out hsz
          have hs4 := hgr4.size
          rw [size_alloc] at hs4
          have hb4 : Below w.heap.size w w4 := ((HBW2.out.trans (HB3.out.mono (by omega))).alloc (by omega) _).grown hgr4 (by rw [size_alloc]; omega) (fun g hg => (HO.out.lt g hg).1)
          have hok4 : ∀ j (h : j < ps.length), j < k + 1 → ps[j].ok = true := fun j h hj => by
            by_cases e : j = k
            · subst e; exact hpk.out
            · exact HK.out j h (by omega)
          have hlen4 : (us ++ [Value.iface vt vx]).length = k + 1 := by simp [HU.out]
          have H1 := Lib.hid hel4
          have H2 := Lib.hid hb4
          have H3 := Lib.hid hok4
          have H4 := Lib.hid hlen4
          have H5 := Lib.hid hown4
          clear hel4 hb4 hok4 hlen4 hown4 hgr4 hblk hown3 hone
          go_wp2
          go_roundw
          case rel => exact ⟨k + 1, us ++ [.iface vt vx], by omega, by go_num, H4.out, H5.out, H1.out, H3.out, H2.out⟩
          case measure => simp [intOf]; omega
        · have hmb : decide (0 ≤ ps[k].toVl.measure 65536 0) = false := by simpa using hm
          have hf := Lib.hid (all_false hlt (show ps[k].ok = false by unfold Pl.ok; rw [hr, hmb]; rfl))
          clear hm
          go_wp2
          go_ret2
          exact .inr ⟨hf.out, rfl, HBW2.out.trans (HB3.out.mono (by omega))⟩
    · obtain rfl : k = ps.length := by omega
      have hv : ∃ A c, u4 = .slice A ps.length c ∧ Vls.lies wr (fresh w wr) (Pls.toVl ps) A := by
        refine Vls.lies.of_own HU.out (by rw [Pls.toVl_length]; exact HU.out) HO.out (fun g hg _ => HO.out.lt g hg) (fun j h h' => ?_)
        have hj : j < ps.length := by rw [Pls.toVl_length] at h; exact h
        rw [Pls.toVl_get ps j hj h]
        exact (HE.out j hj h').keep (fun _ _ _ => rfl) (fun b hb => hb.1)
      obtain ⟨A', c', rfl, hA'⟩ := hv
      have H1 := Lib.hid hA'
      clear hA'
      go_wp2
      go_ret2
      exact .inl ⟨all_true fun j hj => HK.out j hj hj, A', c', rfl, H1.out, HBL.out⟩
end Go.Proofs.YtcdjnkeomaidaaaGreat

/-
  num.Work: what it comes to, for every operation and every list of plain values: walks. Conditions: the values lie in memory.
-/
namespace Go.Proofs.YtcdjnkeomaidaaaGreat
open Go.RowKit
set_option linter.unusedVariables false

theorem exactV_two (n : Int) : ∃ x y, exactV n = .tuple #[x, y] := by unfold exactV; split <;> exact ⟨_, _, rfl⟩

/-- An operation of the table: what it comes to, of how many. -/
structure NumOp (op : ByteArray) (cnt : Nat) (V : Int → Int → Value) : Prop where
  found : ∃ i f, Instr.findNow .string (.string op) numTab.toList 0 = some (some (i, .func (.func f) #[] #[])) ∧ IsOp f V ∧ ∀ (args : Array Value) (w : World), (callFunc f args).run Tryz.prog w = .ok (.enter f args) w
  two : ∀ a b, ∃ x y, V a b = .tuple #[x, y]
  counts : ∀ w : World, Calls Tryz.prog 17 #[.string op] w fun e w' => e = .returned (.int .i64 cnt) ∧ w = w'
theorem op_add : NumOp ⟨#[110, 117, 109, 46, 97, 100, 100]⟩ 2 (fun a b => exactV (a + b)) where
  found := ⟨0, 30, by kernel_rfl, fun a b w ha hb => two_add a b ha hb w, fun args w => by kernel_rfl⟩
  two := fun a b => exactV_two _
  counts := fun w => by
    go_enter Tryz.func17, Tryz.ntmps17
    go_wp2
    go_ret
    exact ⟨rfl, rfl⟩
theorem op_sub : NumOp ⟨#[110, 117, 109, 46, 115, 117, 98]⟩ 2 (fun a b => exactV (a - b)) where
  found := ⟨1, 33, by kernel_rfl, fun a b w ha hb => two_sub a b ha hb w, fun args w => by kernel_rfl⟩
  two := fun a b => exactV_two _
  counts := fun w => by
    go_enter Tryz.func17, Tryz.ntmps17
    go_wp2
    go_ret
    exact ⟨rfl, rfl⟩
theorem op_mul : NumOp ⟨#[110, 117, 109, 46, 109, 117, 108]⟩ 2 (fun a b => exactV (a * b)) where
  found := ⟨2, 35, by kernel_rfl, fun a b w ha hb => two_mul a b ha hb w, fun args w => by kernel_rfl⟩
  two := fun a b => exactV_two _
  counts := fun w => by
    go_enter Tryz.func17, Tryz.ntmps17
    go_wp2
    go_ret
    exact ⟨rfl, rfl⟩
theorem op_quo : NumOp ⟨#[110, 117, 109, 46, 113, 117, 111]⟩ 2 (quoV) where
  found := ⟨3, 37, by kernel_rfl, fun a b w ha hb => two_quo a b ha hb w, fun args w => by kernel_rfl⟩
  two := fun a b => by unfold quoV; split; exact ⟨_, _, rfl⟩; exact exactV_two _
  counts := fun w => by
    go_enter Tryz.func17, Tryz.ntmps17
    go_wp2
    go_ret
    exact ⟨rfl, rfl⟩
theorem op_mod : NumOp ⟨#[110, 117, 109, 46, 109, 111, 100]⟩ 2 (modV) where
  found := ⟨4, 38, by kernel_rfl, fun a b w ha hb => two_mod a b ha hb w, fun args w => by kernel_rfl⟩
  two := fun a b => by unfold modV; split <;> exact ⟨_, _, rfl⟩
  counts := fun w => by
    go_enter Tryz.func17, Tryz.ntmps17
    go_wp2
    go_ret
    exact ⟨rfl, rfl⟩
theorem op_pow : NumOp ⟨#[110, 117, 109, 46, 112, 111, 119]⟩ 2 (powVV) where
  found := ⟨5, 39, by kernel_rfl, fun a b w ha hb => two_pow a b ha hb w, fun args w => by kernel_rfl⟩
  two := fun a b => by unfold powVV; split; exact ⟨_, _, rfl⟩; exact exactV_two _
  counts := fun w => by
    go_enter Tryz.func17, Tryz.ntmps17
    go_wp2
    go_ret
    exact ⟨rfl, rfl⟩
theorem op_neg : NumOp ⟨#[110, 117, 109, 46, 110, 101, 103]⟩ 1 (fun a _ => exactV (-a)) where
  found := ⟨6, 41, by kernel_rfl, fun a b w ha _ => two_neg a b ha w, fun args w => by kernel_rfl⟩
  two := fun a b => exactV_two _
  counts := fun w => by
    go_enter Tryz.func17, Tryz.ntmps17
    go_wp2
    go_ret
    exact ⟨rfl, rfl⟩
theorem op_abs : NumOp ⟨#[110, 117, 109, 46, 97, 98, 115]⟩ 1 (fun a _ => exactV (a.natAbs : Int)) where
  found := ⟨7, 42, by kernel_rfl, fun a b w ha _ => two_abs a b ha w, fun args w => by kernel_rfl⟩
  two := fun a b => exactV_two _
  counts := fun w => by
    go_enter Tryz.func17, Tryz.ntmps17
    go_wp2
    go_ret
    exact ⟨rfl, rfl⟩
theorem op_min : NumOp ⟨#[110, 117, 109, 46, 109, 105, 110]⟩ 2 (fun a b => numV (min a b)) where
  found := ⟨8, 43, by kernel_rfl, fun a b w _ _ => two_min a b w, fun args w => by kernel_rfl⟩
  two := fun a b => ⟨_, _, rfl⟩
  counts := fun w => by
    go_enter Tryz.func17, Tryz.ntmps17
    go_wp2
    go_ret
    exact ⟨rfl, rfl⟩
theorem op_max : NumOp ⟨#[110, 117, 109, 46, 109, 97, 120]⟩ 2 (fun a b => numV (max a b)) where
  found := ⟨9, 44, by kernel_rfl, fun a b w _ _ => two_max a b w, fun args w => by kernel_rfl⟩
  two := fun a b => ⟨_, _, rfl⟩
  counts := fun w => by
    go_enter Tryz.func17, Tryz.ntmps17
    go_wp2
    go_ret
    exact ⟨rfl, rfl⟩
theorem op_less : NumOp ⟨#[110, 117, 109, 46, 108, 101, 115, 115]⟩ 2 (fun a b => truthV (decide (a < b))) where
  found := ⟨10, 45, by kernel_rfl, fun a b w _ _ => two_less a b w, fun args w => by kernel_rfl⟩
  two := fun a b => ⟨_, _, rfl⟩
  counts := fun w => by
    go_enter Tryz.func17, Tryz.ntmps17
    go_wp2
    go_ret
    exact ⟨rfl, rfl⟩
theorem op_most : NumOp ⟨#[110, 117, 109, 46, 109, 111, 115, 116]⟩ 2 (fun a b => truthV (decide (a ≤ b))) where
  found := ⟨11, 46, by kernel_rfl, fun a b w _ _ => two_most a b w, fun args w => by kernel_rfl⟩
  two := fun a b => ⟨_, _, rfl⟩
  counts := fun w => by
    go_enter Tryz.func17, Tryz.ntmps17
    go_wp2
    go_ret
    exact ⟨rfl, rfl⟩
end Go.Proofs.YtcdjnkeomaidaaaGreat

/-
  num.Work: what it comes to, for every operation and every list of plain values: a walk. Conditions: the values lie in memory.
-/
namespace Go.Proofs.YtcdjnkeomaidaaaGreat
open Go.RowKit
set_option linter.unusedVariables false

def bad3 (e : Int) : Value := .tuple #[.nilIface, .int .i64 e, .string ⟨#[]⟩]
def doV (V : Int → Int → Value) : List Vl → Value
  | [.int a] => withText (V a 0)
  | [.int a, .int b] => withText (V a b)
  | _ => bad3 20
def workV (cnt : Nat) (V : Int → Int → Value) (ps : List Pl) : Value :=
  if ps.length ≠ cnt then bad3 11 else if ps.all Pl.ok = false then bad3 1 else doV V (Pls.toVl ps)
def Gives (v : Value) (w : World) (e : Ending) (w' : World) : Prop := e = .returned v ∧ Below w.heap.size w w'

theorem Vl.is.other {w : World} {S : Nat → Prop} {x : Vl} {v : Value} (h : x.is w S v) (hx : ∀ n, x ≠ .int n) : ∃ t y, v = .iface t y ∧ t ≠ 65 := by
  cases x <;> unfold Vl.is at h
  case int n => exact absurd rfl (hx n)
  case list l => obtain ⟨A, c, h, _⟩ := h; exact ⟨_, _, h, by decide⟩
  all_goals exact ⟨_, _, h, by decide⟩

theorem withText_three {V : Int → Int → Value} (h : ∀ a b, ∃ x y, V a b = .tuple #[x, y]) (a b : Int) : ∃ x y z, withText (V a b) = .tuple #[x, y, z] := by
  obtain ⟨x, y, e⟩ := h a b
  exact ⟨x, y, _, by rw [e]; rfl⟩
theorem doV_three {V : Int → Int → Value} (h : ∀ a b, ∃ x y, V a b = .tuple #[x, y]) (l : List Vl) : ∃ x y z, doV V l = .tuple #[x, y, z] := by
  unfold doV
  split
  · exact withText_three h _ _
  · exact withText_three h _ _
  · exact ⟨_, _, _, rfl⟩

/-- num.Do on one or two values that lie in memory. -/
theorem num_do {op : ByteArray} {cnt : Nat} {V : Int → Int → Value} (h : NumOp op cnt V) (hc : cnt = 1 ∨ cnt = 2) (l : List Vl) (hl : l.length = cnt) (hf : Vls.fine l) (A : Option Addr) (c : Nat) (w : World) (S : Nat → Prop) (hA : Vls.lies w S l A) :
    Calls Tryz.prog 19 #[.string op, .slice A l.length c] w (Gives (doV V l) w) := by
  obtain ⟨i, f, hfind, hV, hcall⟩ := h.found
  match l, hl, hf, hA with
  | [], hl, _, _ => simp at hl; omega
  | [x], hl, hf, hA =>
    obtain ⟨b, o, rfl⟩ := hA.head (by simp)
    obtain ⟨_, u, hu, hi⟩ := hA.at_ 0 (by simp)
    simp only [List.getElem_cons_zero] at hi
    by_cases hx : ∃ n, x = .int n
    · obtain ⟨n, rfl⟩ := hx
      unfold Vl.is at hi
      subst hi
      unfold Vls.fine Vl.fine at hf
      exact do_one hfind hV h.two hcall n hf.1 b o c w (by simpa using hu)
    · obtain ⟨t, y, rfl, ht⟩ := hi.other (fun n e => hx ⟨n, e⟩)
      have : doV V [x] = bad3 20 := by unfold doV; cases x <;> first | rfl | exact absurd ⟨_, rfl⟩ hx
      rw [this]
      exact do_bad hfind 0 t y ht b o c w (by simpa using hu)
  | [x, z], hl, hf, hA =>
    obtain ⟨b, o, rfl⟩ := hA.head (by simp)
    obtain ⟨_, u, hu, hi⟩ := hA.at_ 0 (by simp)
    obtain ⟨_, u1, hu1, hi1⟩ := hA.at_ 1 (by simp)
    simp only [List.getElem_cons_zero, List.getElem_cons_succ] at hi hi1
    by_cases hx : ∃ n, x = .int n
    · obtain ⟨n, rfl⟩ := hx
      unfold Vl.is at hi
      subst hi
      by_cases hz : ∃ m, z = .int m
      · obtain ⟨m, rfl⟩ := hz
        unfold Vl.is at hi1
        subst hi1
        unfold Vls.fine Vl.fine Vls.fine Vl.fine at hf
        exact do_two hfind hV h.two hcall n m hf.1 hf.2.1 b o c w (by simpa using hu) hu1
      · obtain ⟨t, y, rfl, ht⟩ := hi1.other (fun n e => hz ⟨n, e⟩)
        have : doV V [.int n, z] = bad3 20 := by unfold doV; cases z <;> first | rfl | exact absurd ⟨_, rfl⟩ hz
        rw [this]
        exact do_bad2 hfind 0 n t y ht b o c w (by simpa using hu) hu1
    · obtain ⟨t, y, rfl, ht⟩ := hi.other (fun n e => hx ⟨n, e⟩)
      have : doV V [x, z] = bad3 20 := by unfold doV; cases x <;> first | rfl | exact absurd ⟨_, rfl⟩ hx
      rw [this]
      exact do_bad hfind 1 t y ht b o c w (by simpa using hu)
  | x :: y :: z :: r, hl, _, _ => simp at hl; omega

theorem three_parts {P : Program} {f : FuncId} {args : Array Value} {w : World} {v : Value} (h : Calls P f args w (Gives v w)) (hv : ∃ x y z, v = .tuple #[x, y, z]) :
    Calls P f args w fun e w' => ∃ x y z, e = .returned (.tuple #[x, y, z]) ∧ Hid (.tuple #[x, y, z] = v) ∧ Hid (Below w.heap.size w w') := by
  obtain ⟨x, y, z, rfl⟩ := hv
  exact h.mono fun _ _ ⟨he, hw⟩ => ⟨x, y, z, he, rfl, hw⟩

set_option maxRecDepth 100000 in
set_option maxHeartbeats 1000000 in
theorem num_work {op : ByteArray} {cnt : Nat} {V : Int → Int → Value} (h : NumOp op cnt V) (hc : cnt = 1 ∨ cnt = 2) (ps : List Pl) (A : Option Addr) (c : Nat) (w : World) (hlen : ps.length * 56 ≤ 140737488351232) (hl : Pls.lies w w.heap.size ps A) :
    Calls Tryz.prog 6 #[.string op, .slice A ps.length c] w (Gives (workV cnt V ps) w) := by
  obtain ⟨i, f, hfind, _, _⟩ := h.found
  have hlook := run_lookup_hit (P := Tryz.prog) (T := 52) (K := 9) (E := 50) (r := w.heap.size) (es := numTab) (c := 12) (s := op) (w := w.alloc (.map numTab 12)) Tryz.underlying52 Tryz.underlying9 (heap_alloc_new w _) hfind
  have HC := Lib.hid h.counts
  have H := Lib.hid h
  have HL := Lib.hid hl
  clear h hfind hl
  have hbt : Hid (Below w.heap.size w (w.alloc (.map numTab 12))) := (Below.refl _ _).alloc (Nat.le_refl _) _
  by_cases hn : ps.length = cnt
  · have hnb : ((ps.length : Int) != (cnt : Int)) = false := by simp [hn]
    have HN := Lib.hid hn
    clear hn
    have hall := zval_all ps A c (w.alloc (.map numTab 12)) hlen (HL.out.below hbt.out (by simp))
    have HA := Lib.hid hall
    clear hall
    go_enter Tryz.func6, Tryz.ntmps6
    go_wp2_with (first | (go_at_call 16; refine (num_two _).mono ?_; rintro e w' ⟨rfl, rfl⟩) | (go_at_call 17; refine (HC.out _).mono ?_; rintro e w' ⟨rfl, rfl⟩))
    refine HA.out.mono ?_
    rintro e w1 (⟨hok, A1, c1, rfl, hvl, hb1⟩ | ⟨hok, rfl, hb1⟩)
    · have hx := Lib.hid (show workV cnt V ps = doV V (Pls.toVl ps) by unfold workV; rw [if_neg (by simpa using HN.out), if_neg (by simp [hok])])
      have hb := Lib.hid (hbt.out.trans (hb1.mono (by simp)))
      have hd := num_do H.out hc (Pls.toVl ps) (by rw [Pls.toVl_length]; exact HN.out) (Pls.lies.fine ps A HL.out) A1 c1 w1 _ hvl
      rw [Pls.toVl_length] at hd
      have HD := Lib.hid (three_parts hd (doV_three H.out.two _))
      have hsz := hb1.size
      clear hd hvl hb1 hok
      go_wp2_with fail
      refine HD.out.mono ?_
      rintro e w2 ⟨x, y, z, rfl, hv, hb2⟩
      go_wp2
      go_ret3
      exact ⟨by rw [hx.out, ← hv.out]; rfl, hb.out.trans (hb2.out.mono (by simp at hsz; omega))⟩
    · have hx := Lib.hid (show workV cnt V ps = bad3 1 by unfold workV; rw [if_neg (by simpa using HN.out), if_pos hok])
      have hb := Lib.hid (hbt.out.trans (hb1.mono (by simp)))
      clear hb1 hok
      go_wp2
      go_ret3
      exact ⟨by rw [hx.out]; rfl, hb.out⟩
  · have hnb : ((ps.length : Int) != (cnt : Int)) = true := by simp; omega
    have hx := Lib.hid (show workV cnt V ps = bad3 11 from if_pos hn)
    clear hn
    go_enter Tryz.func6, Tryz.ntmps6
    go_wp2_with (first | (go_at_call 16; refine (num_two _).mono ?_; rintro e w' ⟨rfl, rfl⟩) | (go_at_call 17; refine (HC.out _).mono ?_; rintro e w' ⟨rfl, rfl⟩))
    go_ret3
    exact ⟨by rw [hx.out]; rfl, hbt.out⟩

set_option maxRecDepth 100000 in
theorem num_work_none {op : ByteArray} (h : Instr.findNow .string (.string op) numTab.toList 0 = some none) (v : Value) (w : World) :
    Calls Tryz.prog 6 #[.string op, v] w (Gives (bad3 1) w) := by
  have hlook := run_lookup_miss (P := Tryz.prog) (T := 52) (K := 9) (E := 50) (r := w.heap.size) (es := numTab) (c := 12) (s := op) (w := w.alloc (.map numTab 12)) Tryz.underlying52 Tryz.underlying9 (z := .nilFunc) (by kernel_rfl) (heap_alloc_new w _) h
  have hbt : Hid (Below w.heap.size w (w.alloc (.map numTab 12))) := (Below.refl _ _).alloc (Nat.le_refl _) _
  clear h
  go_enter Tryz.func6, Tryz.ntmps6
  go_wp2_with (first | (go_at_call 16; refine (num_two _).mono ?_; rintro e w' ⟨rfl, rfl⟩))
  go_ret3
  exact ⟨rfl, hbt.out⟩
end Go.Proofs.YtcdjnkeomaidaaaGreat
