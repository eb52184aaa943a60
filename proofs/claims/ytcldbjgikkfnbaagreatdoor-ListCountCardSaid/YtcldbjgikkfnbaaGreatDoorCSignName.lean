/-
  sign.Name, sign.number, sign.Use: which texts are names, numbers, uses: walks, for every text. Conditions: a text within a row's reach.
-/
import Derived.Test.YtcldbjgikkfnbaaGreatDoorCSignWord
import Derived.Test.YtcldbjgikkfnbaaGreatDoorCSgNum
import Derived.Laws.EntriesVeiled
namespace Go.Proofs.YtcldbjgikkfnbaaGreatDoor
open Go.RowKit
set_option linter.unusedVariables false

def letterR (r : Int) : Bool := smallR r || (decide (65 ≤ r) && decide (r ≤ 90)) || (r == 95)
theorem letter_high (r : Int) (h : 128 ≤ r) : letterR r = false := by
  have h1 : ¬ r ≤ 122 := by omega
  have h2 : ¬ r ≤ 90 := by omega
  have h3 : (r == 95) = false := by simp; omega
  simp [letterR, smallR, h1, h2, h3]
theorem sign_name1 (r : Int) (w : World) : Calls Tryz.prog 141 #[.int .i32 r] w fun e w' => e = .returned (.bool (letterR r)) ∧ w = w' := by
  cases h : smallR r
  · by_cases h1 : 65 ≤ r
    · have h1d : decide (65 ≤ r) = true := by simpa using h1
      by_cases h2 : r ≤ 90
      · have h2d : decide (r ≤ 90) = true := by simpa using h2
        have hx := Lib.hid (show letterR r = true by simp [letterR, h1, h2])
        go_enter Tryz.func141, Tryz.ntmps141
        go_wp2_with fail
        refine (sign_small _ _).mono ?_
        rintro e w' ⟨rfl, rfl⟩
        rw [h]
        go_wp2
        go_ret
        exact ⟨by rw [hx.out]; rfl, rfl⟩
      · have h2d : decide (r ≤ 90) = false := by simpa using h2
        have hx := Lib.hid (show letterR r = (r == 95) by simp [letterR, h, h2])
        go_enter Tryz.func141, Tryz.ntmps141
        go_wp2_with fail
        refine (sign_small _ _).mono ?_
        rintro e w' ⟨rfl, rfl⟩
        rw [h]
        go_wp2
        go_ret
        exact ⟨by rw [hx.out]; rfl, rfl⟩
    · have h1d : decide (65 ≤ r) = false := by simpa using h1
      have hx := Lib.hid (show letterR r = (r == 95) by simp [letterR, h, h1])
      go_enter Tryz.func141, Tryz.ntmps141
      go_wp2_with fail
      refine (sign_small _ _).mono ?_
      rintro e w' ⟨rfl, rfl⟩
      rw [h]
      go_wp2
      go_ret
      exact ⟨by rw [hx.out]; rfl, rfl⟩
  · have hx := Lib.hid (show letterR r = true by simp [letterR, h])
    go_enter Tryz.func141, Tryz.ntmps141
    go_wp2_with fail
    refine (sign_small _ _).mono ?_
    rintro e w' ⟨rfl, rfl⟩
    rw [h]
    go_wp2
    go_ret
    exact ⟨by rw [hx.out]; rfl, rfl⟩
theorem sign_name2 (r : Int) (a : Addr) (w : World) (hc : w.cell? a = some (.func (.func 141) #[] #[])) :
    Calls Tryz.prog 142 #[.int .i32 r, .pointer (some a)] w fun e w' => e = .returned (.bool (letterR r || digitR r)) ∧ w = w' := by
  have hent : ∀ (args : Array Value) (w1 : World), (callFunc 141 args).run Tryz.prog w1 = .ok (.enter 141 args) w1 := fun args w1 => by kernel_rfl
  cases h : letterR r
  · go_enter Tryz.func142, Tryz.ntmps142
    go_wp2_with fail
    refine (sign_name1 _ _).mono ?_
    rintro e w' ⟨rfl, rfl⟩
    rw [h]
    go_wp2_with fail
    refine (sign_digit _ _).mono ?_
    rintro e w' ⟨rfl, rfl⟩
    go_wp2
    go_ret
    exact ⟨rfl, rfl⟩
  · go_enter Tryz.func142, Tryz.ntmps142
    go_wp2_with fail
    refine (sign_name1 _ _).mono ?_
    rintro e w' ⟨rfl, rfl⟩
    rw [h]
    go_wp2
    go_ret
    exact ⟨rfl, rfl⟩

/-- A variable's, or a function's, name. -/
def nameB (s : ByteArray) : Bool := madeB s 32 letterR (fun r => letterR r || digitR r)
theorem sign_Name (s : ByteArray) (w : World) (hs : s.size ≤ 140737488351232) : Calls Tryz.prog 108 #[.string s] w (Bel (.bool (nameB s)) w) := by
  have H : ∀ w1, w1 = w.alloc (.cells #[.func (.func 141) #[] #[]] 211) → Calls Tryz.prog 85 #[.string s, .int .i64 32, .func (.func 141) #[] #[], .func (.func 142) #[] #[.pointer (some ⟨w.heap.size, 0, none⟩)]] w1 fun e w' => e = .returned (.bool (nameB s)) ∧ Below w.heap.size w w' := by
    rintro w1 rfl
    have hF : IsPred (w.alloc (.cells #[.func (.func 141) #[] #[]] 211)) 141 #[] letterR := ⟨fun r w1 _ => sign_name1 r w1, fun args w1 => by kernel_rfl, letter_high⟩
    have hG : IsPred (w.alloc (.cells #[.func (.func 141) #[] #[]] 211)) 142 #[.pointer (some ⟨w.heap.size, 0, none⟩)] (fun r => letterR r || digitR r) :=
      ⟨fun r w1 hb => sign_name2 r _ w1 ((hb.cell (p := ⟨w.heap.size, 0, none⟩) (by simp)).trans (by simp)), fun args w1 => by kernel_rfl, fun r h => by rw [letter_high r h]; simp [digitR]; omega⟩
    exact (sign_made s 32 _ _ _ _ _ _ _ hs hF hG).mono fun e w' ⟨he, hb⟩ => ⟨he, ((Below.refl _ _).alloc (Nat.le_refl _) _).trans (hb.mono (by simp))⟩
  have HH := Lib.hid H
  clear H
  go_enter Tryz.func108, Tryz.ntmps108
  go_wp2_with fail
  refine (HH.out _ rfl).mono ?_
  rintro e w' ⟨rfl, hb⟩
  have HB := Lib.hid hb
  clear hb
  go_wp2
  go_ret
  exact ⟨rfl, HB.out⟩
end Go.Proofs.YtcldbjgikkfnbaaGreatDoor
