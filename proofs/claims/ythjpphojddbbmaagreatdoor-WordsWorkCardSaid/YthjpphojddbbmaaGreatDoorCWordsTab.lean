/-
  The table of package words: the map that 'words.operations' makes, what is found in it; words.of, do: walks. Printed by a program of mine (gen_wtab.py). Conditions: the values lie in memory.
-/
import Derived.Test.YthjpphojddbbmaaGreatDoorCWordsOps
import Derived.Test.YthjpphojddbbmaaGreatDoorCMapLaws
namespace Go.Proofs.YthjpphojddbbmaaGreatDoor
open Go.RowKit
set_option linter.unusedVariables false

def opVal (ins : ByteArray) (out : Int) (sure : Bool) (f : FuncId) : Value := .agg #[.string ins, .int .u8 out, .bool sure, .func (.func f) #[] #[]]
def wn_join : ByteArray := ⟨#[119, 111, 114, 100, 115, 46, 106, 111, 105, 110]⟩
def wi_join : ByteArray := ⟨#[116, 116]⟩
def wn_size : ByteArray := ⟨#[119, 111, 114, 100, 115, 46, 115, 105, 122, 101]⟩
def wi_size : ByteArray := ⟨#[116]⟩
def wn_cut : ByteArray := ⟨#[119, 111, 114, 100, 115, 46, 99, 117, 116]⟩
def wi_cut : ByteArray := ⟨#[116, 105, 105]⟩
def wn_find : ByteArray := ⟨#[119, 111, 114, 100, 115, 46, 102, 105, 110, 100]⟩
def wi_find : ByteArray := ⟨#[116, 116]⟩
def wn_rep : ByteArray := ⟨#[119, 111, 114, 100, 115, 46, 114, 101, 112]⟩
def wi_rep : ByteArray := ⟨#[116, 105]⟩
def wn_less : ByteArray := ⟨#[119, 111, 114, 100, 115, 46, 108, 101, 115, 115]⟩
def wi_less : ByteArray := ⟨#[116, 116]⟩
def wn_of : ByteArray := ⟨#[119, 111, 114, 100, 115, 46, 111, 102]⟩
def wi_of : ByteArray := ⟨#[105]⟩
def wn_num : ByteArray := ⟨#[119, 111, 114, 100, 115, 46, 110, 117, 109]⟩
def wi_num : ByteArray := ⟨#[116]⟩
def wTab : Array MapEntry := #[⟨.string ⟨#[119, 111, 114, 100, 115, 46, 106, 111, 105, 110]⟩, .agg #[.string ⟨#[116, 116]⟩, .int .u8 116, .bool false, .func (.func 40) #[] #[]], 0⟩, ⟨.string ⟨#[119, 111, 114, 100, 115, 46, 115, 105, 122, 101]⟩, .agg #[.string ⟨#[116]⟩, .int .u8 105, .bool true, .func (.func 41) #[] #[]], 1⟩, ⟨.string ⟨#[119, 111, 114, 100, 115, 46, 99, 117, 116]⟩, .agg #[.string ⟨#[116, 105, 105]⟩, .int .u8 116, .bool false, .func (.func 43) #[] #[]], 2⟩, ⟨.string ⟨#[119, 111, 114, 100, 115, 46, 102, 105, 110, 100]⟩, .agg #[.string ⟨#[116, 116]⟩, .int .u8 105, .bool true, .func (.func 44) #[] #[]], 3⟩, ⟨.string ⟨#[119, 111, 114, 100, 115, 46, 114, 101, 112]⟩, .agg #[.string ⟨#[116, 105]⟩, .int .u8 116, .bool false, .func (.func 46) #[] #[]], 4⟩, ⟨.string ⟨#[119, 111, 114, 100, 115, 46, 108, 101, 115, 115]⟩, .agg #[.string ⟨#[116, 116]⟩, .int .u8 98, .bool true, .func (.func 47) #[] #[]], 5⟩, ⟨.string ⟨#[119, 111, 114, 100, 115, 46, 111, 102]⟩, .agg #[.string ⟨#[105]⟩, .int .u8 116, .bool true, .func (.func 48) #[] #[]], 6⟩, ⟨.string ⟨#[119, 111, 114, 100, 115, 46, 110, 117, 109]⟩, .agg #[.string ⟨#[116]⟩, .int .u8 105, .bool false, .func (.func 51) #[] #[]], 7⟩]
set_option maxRecDepth 100000 in
theorem w_operations (w : World) : Calls Tryz.prog 24 #[] w fun e w' => e = .returned (.map (some w.heap.size)) ∧ w.alloc (.map wTab 8) = w' := by
  have hmm := @run_makeMap Tryz.prog
  go_enter Tryz.func24, Tryz.ntmps24
  go_wp2_with (refine wpList_insert_new _ rfl 63 9 61 _ _ _ rfl Tryz.underlying63 Tryz.underlying9 _ _ _ rfl rfl (by kernel_rfl) ?_)
  go_ret
  exact ⟨rfl, rfl⟩
theorem wf_join : Instr.findNow .string (.string wn_join) wTab.toList 0 = some (some (0, opVal wi_join 116 false 40)) := by kernel_rfl
theorem wc_join : ∀ (args : Array Value) (w : World), (callFunc 40 args).run Tryz.prog w = .ok (.enter 40 args) w := fun args w => by kernel_rfl
theorem wf_size : Instr.findNow .string (.string wn_size) wTab.toList 0 = some (some (1, opVal wi_size 105 true 41)) := by kernel_rfl
theorem wc_size : ∀ (args : Array Value) (w : World), (callFunc 41 args).run Tryz.prog w = .ok (.enter 41 args) w := fun args w => by kernel_rfl
theorem wf_cut : Instr.findNow .string (.string wn_cut) wTab.toList 0 = some (some (2, opVal wi_cut 116 false 43)) := by kernel_rfl
theorem wc_cut : ∀ (args : Array Value) (w : World), (callFunc 43 args).run Tryz.prog w = .ok (.enter 43 args) w := fun args w => by kernel_rfl
theorem wf_find : Instr.findNow .string (.string wn_find) wTab.toList 0 = some (some (3, opVal wi_find 105 true 44)) := by kernel_rfl
theorem wc_find : ∀ (args : Array Value) (w : World), (callFunc 44 args).run Tryz.prog w = .ok (.enter 44 args) w := fun args w => by kernel_rfl
theorem wf_rep : Instr.findNow .string (.string wn_rep) wTab.toList 0 = some (some (4, opVal wi_rep 116 false 46)) := by kernel_rfl
theorem wc_rep : ∀ (args : Array Value) (w : World), (callFunc 46 args).run Tryz.prog w = .ok (.enter 46 args) w := fun args w => by kernel_rfl
theorem wf_less : Instr.findNow .string (.string wn_less) wTab.toList 0 = some (some (5, opVal wi_less 98 true 47)) := by kernel_rfl
theorem wc_less : ∀ (args : Array Value) (w : World), (callFunc 47 args).run Tryz.prog w = .ok (.enter 47 args) w := fun args w => by kernel_rfl
theorem wf_of : Instr.findNow .string (.string wn_of) wTab.toList 0 = some (some (6, opVal wi_of 116 true 48)) := by kernel_rfl
theorem wc_of : ∀ (args : Array Value) (w : World), (callFunc 48 args).run Tryz.prog w = .ok (.enter 48 args) w := fun args w => by kernel_rfl
theorem wf_num : Instr.findNow .string (.string wn_num) wTab.toList 0 = some (some (7, opVal wi_num 105 false 51)) := by kernel_rfl
theorem wc_num : ∀ (args : Array Value) (w : World), (callFunc 51 args).run Tryz.prog w = .ok (.enter 51 args) w := fun args w => by kernel_rfl
/-- Is a value of the sort that a letter names? -/
def letterB (x : Vl) (n : Int) : Bool := match x with
  | .text _ => decide (n = 116)
  | .int _ => decide (n = 105)
  | _ => false
theorem letter_text {x : Vl} (h : letterB x 116 = true) : ∃ s, x = .text s := by
  cases x <;> simp [letterB] at h
  exact ⟨_, rfl⟩
theorem letter_int {x : Vl} (h : letterB x 105 = true) : ∃ n, x = .int n := by
  cases x <;> simp [letterB] at h
  exact ⟨_, rfl⟩
theorem is_other {x : Vl} {w : World} {S : Nat → Prop} {u : Value} (h : x.is w S u) (h1 : ∀ s, x ≠ .text s) (h2 : ∀ n, x ≠ .int n) : ∃ T z, u = .iface T z ∧ T ≠ 77 ∧ T ≠ 75 := by
  cases x <;> unfold Vl.is at h
  · exact ⟨_, _, h, by decide, by decide⟩
  · exact ⟨_, _, h, by decide, by decide⟩
  · exact absurd rfl (h2 _)
  · exact absurd rfl (h1 _)
  · obtain ⟨A, c, h, _⟩ := h; exact ⟨_, _, h, by decide, by decide⟩
theorem w_isof (x : Vl) (u : Value) (S : Nat → Prop) (w : World) (hx : x.is w S u) (n : Int) : Calls Tryz.prog 54 #[u, .int .u8 n] w fun e w' => e = .returned (.bool (letterB x n)) ∧ w = w' := by
  by_cases hn : n = 116
  · subst hn
    by_cases ht : ∃ s, x = .text s
    · obtain ⟨s, rfl⟩ := ht
      unfold Vl.is at hx
      subst hx
      have a1 := pf_as_Text (.string s)
      go_enter Tryz.func54, Tryz.ntmps54
      go_wp2
      go_ret
      exact ⟨rfl, rfl⟩
    · have hr := Lib.hid (show letterB x 116 = false by cases x <;> first | rfl | exact absurd ⟨_, rfl⟩ ht)
      by_cases hi : ∃ m, x = .int m
      · obtain ⟨m, rfl⟩ := hi
        unfold Vl.is at hx
        subst hx
        have a1 := pf_no_Text 75 (.int .i64 m) (by decide)
        go_enter Tryz.func54, Tryz.ntmps54
        go_wp2
        go_ret
        exact ⟨by rw [hr.out]; rfl, rfl⟩
      · obtain ⟨T, z, rfl, hT, hT'⟩ := is_other hx (fun s e => ht ⟨s, e⟩) (fun s e => hi ⟨s, e⟩)
        have a1 := pf_no_Text T z hT
        clear hx ht hi
        go_enter Tryz.func54, Tryz.ntmps54
        go_wp2
        go_ret
        exact ⟨by rw [hr.out]; rfl, rfl⟩
  · have n1 : (n == 116) = false := by simpa using hn
    by_cases hm : n = 105
    · subst hm
      clear n1 hn
      by_cases ht : ∃ s, x = .int s
      · obtain ⟨s, rfl⟩ := ht
        unfold Vl.is at hx
        subst hx
        have a1 := pf_as_Int (.int .i64 s)
        go_enter Tryz.func54, Tryz.ntmps54
        go_wp2
        go_ret
        exact ⟨rfl, rfl⟩
      · have hr := Lib.hid (show letterB x 105 = false by cases x <;> first | rfl | exact absurd ⟨_, rfl⟩ ht)
        by_cases hi : ∃ m, x = .text m
        · obtain ⟨m, rfl⟩ := hi
          unfold Vl.is at hx
          subst hx
          have a1 := pf_no_Int 77 (.string m) (by decide)
          go_enter Tryz.func54, Tryz.ntmps54
          go_wp2
          go_ret
          exact ⟨by rw [hr.out]; rfl, rfl⟩
        · obtain ⟨T, z, rfl, hT, hT'⟩ := is_other hx (fun s e => hi ⟨s, e⟩) (fun s e => ht ⟨s, e⟩)
          have a1 := pf_no_Int T z hT'
          clear hx ht hi
          go_enter Tryz.func54, Tryz.ntmps54
          go_wp2
          go_ret
          exact ⟨by rw [hr.out]; rfl, rfl⟩
    · have n2 : (n == 105) = false := by simpa using hm
      have hr := Lib.hid (show letterB x n = false by cases x <;> simp [letterB, hn, hm])
      clear hn hm
      go_enter Tryz.func54, Tryz.ntmps54
      go_wp2
      go_ret
      exact ⟨by rw [hr.out]; rfl, rfl⟩
def wIf (q : Bool) (r : Value) : Value := if q = true then r else wFault 20
set_option maxRecDepth 100000 in
set_option maxHeartbeats 4000000 in
/-- do: of values of the sorts that are asked: what the operation gives; else a fault. -/
theorem w_do (ins : ByteArray) (out : Int) (sure : Bool) (f : FuncId) (xs : List Vl) (us : List Value) (b o c : Nat) (S : Nat → Prop) (w : World) (hlen : us.length = xs.length) (hins : ins.size = xs.length) (hsm : xs.length ≤ 1000)
    (hc : ∀ j (h : j < us.length), w.cell? ⟨b, o + j, none⟩ = some us[j]) (hx : ∀ j (h : j < xs.length) (h' : j < us.length), xs[j].is w S us[j]) (hS : ∀ b, S b → b < w.heap.size)
    (hcall : ∀ (args : Array Value) (w : World), (callFunc f args).run Tryz.prog w = .ok (.enter f args) w)
    (q : Bool) (hq1 : q = true → ∀ j (h : j < xs.length) (h' : j < ins.size), letterB xs[j] (ins[j].toNat : Int) = true) (hq0 : q = false → ∃ j, ∃ (h : j < xs.length) (h' : j < ins.size), letterB xs[j] (ins[j].toNat : Int) = false)
    (r : Value) (hr : ∃ a k s, r = .tuple #[a, .int .i64 k, .string s])
    (hR : q = true → ∀ w', Below w.heap.size w w' → Calls Tryz.prog f #[.slice (some ⟨b, o, none⟩) us.length c] w' (Bel r w')) :
    Calls Tryz.prog 27 #[.agg #[.string ins, .int .u8 out, .bool sure, .func (.func f) #[] #[]], .slice (some ⟨b, o, none⟩) us.length c] w (Bel (wIf q r) w) := by
  have HB0 := Lib.hid ((Below.refl w.heap.size w).alloc (Nat.le_refl _) (.cells #[.string ins, .int .u8 out, .bool sure, .func (.func f) #[] #[]] 61))
  have HC := Lib.hid (fun j (h : j < us.length) => alloc_cell (.cells #[.string ins, .int .u8 out, .bool sure, .func (.func f) #[] #[]] 61) (hc j h))
  have HX := Lib.hid (fun j (h : j < xs.length) (h' : j < us.length) => (hx j h h').keep (S' := S) (fun b o hs => HB0.out.cell (p := ⟨b, o, none⟩) (hS b hs)) (fun b h => h))
  have t0 := fun j => show (w.alloc (.cells #[.string ins, .int .u8 out, .bool sure, .func (.func f) #[] #[]] 61)).cell? ⟨w.heap.size, j, none⟩ = (#[.string ins, .int .u8 out, .bool sure, .func (.func f) #[] #[]] : Array Value)[j]? by exact World.cell?_alloc_new _ _ _ _
  have T0 := Lib.hid t0
  have HQ1 := Lib.hid hq1
  have HQ0 := Lib.hid hq0
  have HR := Lib.hid hR
  have HL := Lib.hid hlen
  have HI := Lib.hid hins
  obtain ⟨a, k, s, rfl⟩ := hr
  clear hc hx hq1 hq0 hR hins t0 hlen hS
  go_enter Tryz.func27, Tryz.ntmps27
  go_wp2
  generalize hW : w.alloc (.cells #[.string ins, .int .u8 out, .bool sure, .func (.func f) #[] #[]] 61) = W at *
  go_loopw [11] (fun s11 wx => ∃ (j : Nat), j ≤ us.length ∧ s11 = .int .i64 (j : Int) ∧ (∀ i (h : i < xs.length) (h' : i < ins.size), i < j → letterB xs[i] (ins[i].toNat : Int) = true) ∧ wx = W) (fun s11 _ => us.length - (intOf s11).toNat)
  case atStart => exact ⟨0, Nat.zero_le _, rfl, fun i _ _ h => absurd h (by omega), rfl⟩
  case round =>
    obtain ⟨j, hj, rfl, hall, rfl⟩ := hrel
    have HA := Lib.hid hall
    clear hall
    by_cases hlt : j < us.length
    · have hl1 := HL.out
      have hi1 := HI.out
      have hjx : j < xs.length := by omega
      have hji : j < ins.size := by omega
      have hsz : us.length ≤ 1000 := by omega
      have e0 := HC.out j hlt
      have f0 := T0.out 0
      have KI := Lib.hid (w_isof xs[j] us[j] S wr (HX.out j hjx hlt) (ins[j].toNat : Int))
      obtain ⟨t1, z1, hz⟩ := (HX.out j hjx hlt).iface
      rw [hz] at e0 KI
      clear hl1 hi1 hz
      generalize hqq : letterB xs[j] (ins[j].toNat : Int) = qq at *
      go_wp2_with fail
      refine KI.out.mono ?_
      rintro e w' ⟨rfl, rfl⟩
      cases qq
      · have hqf : q = false := by
          cases hqc : q
          · rfl
          · have := HQ1.out hqc j hjx hji; rw [hqq] at this; cases this
        have HF := Lib.hid (show wIf q (.tuple #[a, .int .i64 k, .string s]) = wFault 20 by rw [hqf]; rfl)
        clear hqf hqq
        go_wp2_with fail
        refine (w_fault 20 _).mono ?_
        rintro e w' ⟨rfl, rfl⟩
        go_wp2
        go_ret3
        exact ⟨by rw [HF.out]; rfl, HB0.out⟩
      · have HA2 := Lib.hid (show ∀ i (h : i < xs.length) (h' : i < ins.size), i < j + 1 → letterB xs[i] (ins[i].toNat : Int) = true from fun i h h' hi => by
          by_cases e : i = j
          · subst e; exact hqq
          · exact HA.out i h h' (by omega))
        clear hqq
        go_wp2
        go_roundw
        case rel => exact ⟨j + 1, by omega, by go_num, HA2.out, trivial⟩
        case measure => simp [intOf]; omega
    · have hqt : q = true := by
        cases hqc : q
        · obtain ⟨i, h, h', hf⟩ := HQ0.out hqc
          have := HL.out
          rw [HA.out i h h' (by omega)] at hf
          cases hf
        · rfl
      have HF := Lib.hid (show wIf q (.tuple #[a, .int .i64 k, .string s]) = .tuple #[a, .int .i64 k, .string s] by rw [hqt]; rfl)
      have KR := Lib.hid (HR.out hqt wr HB0.out)
      have f3 := T0.out 3
      clear hqt
      go_wp2_with fail
      refine KR.out.mono ?_
      rintro e w2 ⟨rfl, hb⟩
      have HB2 := Lib.hid (HB0.out.trans (hb.mono HB0.out.size))
      clear hb
      go_wp2
      go_ret3
      exact ⟨by rw [HF.out]; rfl, HB2.out⟩
end Go.Proofs.YthjpphojddbbmaaGreatDoor
