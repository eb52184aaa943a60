/-
  sign.made, sign.Word: which texts may be names: walks, for every text. Conditions: none.
-/
import Derived.Test.YthjpphojddbbmaaGreatDoorCBase
import Derived.Test.YthjpphojddbbmaaGreatDoorProg
import Derived.Lib.Strings
namespace Go.Proofs.YthjpphojddbbmaaGreatDoor
open Go.RowKit
set_option linter.unusedVariables false

def smallR (r : Int) : Bool := decide (97 ≤ r) && decide (r ≤ 122)
def digitR (r : Int) : Bool := decide (48 ≤ r) && decide (r ≤ 57)
theorem sign_small (r : Int) (w : World) : Calls Tryz.prog 89 #[.int .i32 r] w fun e w' => e = .returned (.bool (smallR r)) ∧ w = w' := by
  by_cases h : 97 ≤ r
  · have hx := Lib.hid (show smallR r = decide (r ≤ 122) by simp [smallR, h])
    go_enter Tryz.func89, Tryz.ntmps89
    go_wp2
    go_ret
    exact ⟨by rw [hx.out]; rfl, rfl⟩
  · have hx := Lib.hid (show smallR r = false by simp [smallR, h])
    have hd : decide (97 ≤ r) = false := by simpa using h
    go_enter Tryz.func89, Tryz.ntmps89
    go_wp2
    go_ret
    exact ⟨by rw [hx.out]; rfl, rfl⟩
theorem sign_digit (r : Int) (w : World) : Calls Tryz.prog 91 #[.int .i32 r] w fun e w' => e = .returned (.bool (digitR r)) ∧ w = w' := by
  by_cases h : 48 ≤ r
  · have hx := Lib.hid (show digitR r = decide (r ≤ 57) by simp [digitR, h])
    go_enter Tryz.func91, Tryz.ntmps91
    go_wp2
    go_ret
    exact ⟨by rw [hx.out]; rfl, rfl⟩
  · have hx := Lib.hid (show digitR r = false by simp [digitR, h])
    have hd : decide (48 ≤ r) = false := by simpa using h
    go_enter Tryz.func91, Tryz.ntmps91
    go_wp2
    go_ret
    exact ⟨by rw [hx.out]; rfl, rfl⟩
theorem sign_word1 (r : Int) (w : World) : Calls Tryz.prog 90 #[.int .i32 r] w fun e w' => e = .returned (.bool (smallR r || digitR r)) ∧ w = w' := by
  cases h : smallR r
  · go_enter Tryz.func90, Tryz.ntmps90
    go_wp2_with (first | (go_at_call 89; refine (sign_small _ _).mono ?_; rintro e w' ⟨rfl, rfl⟩) | (go_at_call 91; refine (sign_digit _ _).mono ?_; rintro e w' ⟨rfl, rfl⟩))
    go_ret
    exact ⟨rfl, rfl⟩
  · go_enter Tryz.func90, Tryz.ntmps90
    go_wp2_with (first | (go_at_call 89; refine (sign_small _ _).mono ?_; rintro e w' ⟨rfl, rfl⟩) | (go_at_call 91; refine (sign_digit _ _).mono ?_; rintro e w' ⟨rfl, rfl⟩))
    go_ret
    exact ⟨rfl, rfl⟩

/-- A function value that tells a rune by a Boolean. -/
structure IsPred (w : World) (F : FuncId) (caps : Array Value) (p : Int → Bool) : Prop where
  call : ∀ (r : Int) (w1 : World), Below w.heap.size w w1 → Calls Tryz.prog F (#[.int .i32 r] ++ caps) w1 fun e w' => e = .returned (.bool (p r)) ∧ w1 = w'
  enter : ∀ (args : Array Value) (w1 : World), (callFunc F args).run Tryz.prog w1 = .ok (.enter F args) w1
  high : ∀ r : Int, 128 ≤ r → p r = false
/-- What 'made' tells, byte by byte. -/
def madeB (s : ByteArray) (most : Int) (p q : Int → Bool) : Bool :=
  decide (s.size ≠ 0 ∧ (s.size : Int) ≤ most) && (p (s.data.toList.headD 0).toNat) && s.data.toList.all (fun c => q c.toNat)

theorem madeB_q {s : ByteArray} {most : Int} {p q : Int → Bool} {pos : Nat} (h : pos < s.size) (hq : q (s[pos]'h).toNat = false) : madeB s most p q = false := by
  have hm : s[pos]'h ∈ s.data.toList := List.getElem_mem (l := s.data.toList) (by simpa using h)
  have : s.data.toList.all (fun c => q c.toNat) = false := by rw [List.all_eq_false]; exact ⟨_, hm, by simp [hq]⟩
  simp only [madeB, this, Bool.and_false]
theorem head_at {s : ByteArray} (h : 0 < s.size) : s.data.toList.headD 0 = s[0]'h := by
  rw [List.headD_eq_head?_getD, List.head?_eq_getElem?, List.getElem?_eq_getElem (by simpa using h)]; rfl
theorem madeB_p {s : ByteArray} {most : Int} {p q : Int → Bool} (h : 0 < s.size) (hp : p (s[0]'h).toNat = false) : madeB s most p q = false := by
  simp only [madeB, head_at h, hp, Bool.and_false, Bool.false_and]
theorem madeB_true {s : ByteArray} {most : Int} {p q : Int → Bool} (h : 0 < s.size) (hm : (s.size : Int) ≤ most) (hp : p (s.data.toList.headD 0).toNat = true) (hq : ∀ c ∈ s.data.toList, q c.toNat = true) : madeB s most p q = true := by
  have h2 : s.data.toList.all (fun c => q c.toNat) = true := by rw [List.all_eq_true]; exact hq
  have h3 : s.size ≠ 0 := by omega
  simp only [madeB, hp, h2, Bool.and_true]
  simp [h3, hm]
theorem take_next {s : ByteArray} {pos : Nat} (h : pos < s.size) {q : Int → Bool} (hq : ∀ c ∈ s.data.toList.take pos, q c.toNat = true) (hc : q (s[pos]'h).toNat = true) : ∀ c ∈ s.data.toList.take (pos + 1), q c.toNat = true := by
  intro c hm
  rw [List.take_succ_eq_append_getElem (by simpa using h), List.mem_append] at hm
  rcases hm with hm | hm
  · exact hq c hm
  · simp at hm; subst hm; exact hc

set_option maxHeartbeats 2000000 in
theorem sign_made (s : ByteArray) (most : Int) (F G : FuncId) (cf cg : Array Value) (p q : Int → Bool) (w : World) (hs : s.size ≤ 140737488351232) (hF : IsPred w F cf p) (hG : IsPred w G cg q) :
    Calls Tryz.prog 88 #[.string s, .int .i64 most, .func (.func F) #[] cf, .func (.func G) #[] cg] w fun e w' => e = .returned (.bool (madeB s most p q)) ∧ Below w.heap.size w w' := by
  have HF := Lib.hid hF
  have HG := Lib.hid hG
  clear hF hG
  by_cases h0 : s.toList = []
  · have hx := Lib.hid (show madeB s most p q = false by
      have : s.size = 0 := by rw [Lib.toList_data, ← List.length_eq_zero_iff] at h0; simpa using h0
      simp [madeB, this])
    go_enter Tryz.func88, Tryz.ntmps88
    go_wp2
    go_ret
    exact ⟨by rw [hx.out]; rfl, Below.refl _ _⟩
  by_cases h1 : most < (s.size : Int)
  · have hx := Lib.hid (show madeB s most p q = false by
      have : ¬ ((s.size : Int) ≤ most) := by omega
      simp [madeB, this])
    have h1d : decide (most < (s.size : Int)) = true := by simpa using h1
    go_enter Tryz.func88, Tryz.ntmps88
    go_wp2
    go_ret
    exact ⟨by rw [hx.out]; rfl, Below.refl _ _⟩
  have h1d : decide (most < (s.size : Int)) = false := by simpa using h1
  have h0b : s.toList.isEmpty = false := by simpa using h0
  have hsz : 0 < s.size := by
    rcases Nat.eq_zero_or_pos s.size with h | h
    · exact absurd (by rw [Lib.toList_data, ← List.length_eq_zero_iff]; simpa using h) h0
    · exact h
  go_enter Tryz.func88, Tryz.ntmps88
  go_wp2
  clear h1d
  go_loopw [9] (fun _ wr => ∃ pos : Nat, pos ≤ s.size ∧ wr = w.iter s pos ∧ (0 < pos → p (s.data.toList.headD 0).toNat = true) ∧ (∀ c ∈ s.data.toList.take pos, q c.toNat = true)) (fun _ wr => s.size - wr.iterPos w.heap.size)
  case atStart => exact ⟨0, Nat.zero_le _, rfl, fun h => by omega, fun c hc => by simp at hc⟩
  case round =>
    obtain ⟨pos, hp, rfl, hp0, hq⟩ := hrel
    have H0 := Lib.hid hp0
    have HQ := Lib.hid hq
    clear hp0 hq
    by_cases hlt : pos < s.size
    · have hnext := run_next_any (P := Tryz.prog) w s pos 0 hlt
      have hFe := HF.out.enter
      have hGe := HG.out.enter
      have hbel : Hid (∀ n, Below w.heap.size w (w.iter s n)) := fun n => (Below.refl _ _).alloc (Nat.le_refl _) _
      by_cases hasc : (s[pos]'hlt).toNat < 128
      · rw [decode_ascii s pos hlt hasc] at hnext
        by_cases hpos : pos = 0
        · subst hpos
          cases hp : p (s[0]'hlt).toNat
          · have hx := Lib.hid (madeB_p (most := most) (q := q) hlt hp)
            go_wp2_with fail
            refine (HF.out.call _ _ (hbel.out _)).mono ?_
            rintro e w' ⟨rfl, rfl⟩
            go_wp2
            go_ret
            exact ⟨by rw [hx.out]; rfl, hbel.out _⟩
          · have HP := Lib.hid hp
            go_wp2_with fail
            refine (HF.out.call _ _ (hbel.out _)).mono ?_
            rintro e w' ⟨rfl, rfl⟩
            go_wp2_with fail
            refine (HG.out.call _ _ (hbel.out _)).mono ?_
            rintro e w' ⟨rfl, rfl⟩
            cases hq : q (s[0]'hlt).toNat
            · have hx := Lib.hid (madeB_q (most := most) (p := p) hlt hq)
              go_wp2
              go_ret
              exact ⟨by rw [hx.out]; rfl, hbel.out _⟩
            · have HQ1 := Lib.hid (take_next hlt HQ.out hq)
              go_wp2
              go_roundw
              case rel => exact ⟨0 + 1, by omega, rfl, fun _ => by rw [head_at hlt]; exact HP.out, HQ1.out⟩
              case measure => simp; omega
        · have hpb : ((pos : Int) == 0) = false := by simpa using hpos
          go_wp2_with fail
          refine (HG.out.call _ _ (hbel.out _)).mono ?_
          rintro e w' ⟨rfl, rfl⟩
          cases hq : q (s[pos]'hlt).toNat
          · have hx := Lib.hid (madeB_q (most := most) (p := p) hlt hq)
            go_wp2
            go_ret
            exact ⟨by rw [hx.out]; rfl, hbel.out _⟩
          · have HQ1 := Lib.hid (take_next hlt HQ.out hq)
            go_wp2
            go_roundw
            case rel => exact ⟨pos + 1, by omega, rfl, fun _ => H0.out (by omega), HQ1.out⟩
            case measure => simp; omega
      · have hhi := decode_high s pos hlt (by omega)
        have hx := Lib.hid (madeB_q (most := most) (p := p) hlt (HG.out.high _ (by omega)))
        have hqr : q ((Utf8.decode s pos).1 : Int) = false := HG.out.high _ (by omega)
        by_cases hpos : pos = 0
        · subst hpos
          cases hp : p ((Utf8.decode s 0).1 : Int)
          · go_wp2_with fail
            refine (HF.out.call _ _ (hbel.out _)).mono ?_
            rintro e w' ⟨rfl, rfl⟩
            go_wp2
            go_ret
            exact ⟨by rw [hx.out]; rfl, hbel.out _⟩
          · go_wp2_with fail
            refine (HF.out.call _ _ (hbel.out _)).mono ?_
            rintro e w' ⟨rfl, rfl⟩
            go_wp2_with fail
            refine (HG.out.call _ _ (hbel.out _)).mono ?_
            rintro e w' ⟨rfl, rfl⟩
            go_wp2
            go_ret
            exact ⟨by rw [hx.out]; rfl, hbel.out _⟩
        · have hpb : ((pos : Int) == 0) = false := by simpa using hpos
          go_wp2_with fail
          refine (HG.out.call _ _ (hbel.out _)).mono ?_
          rintro e w' ⟨rfl, rfl⟩
          go_wp2
          go_ret
          exact ⟨by rw [hx.out]; rfl, hbel.out _⟩
    · obtain rfl : pos = s.size := by omega
      have hnext := run_next_end (P := Tryz.prog) w s s.size 0 hlt
      have hx := Lib.hid (madeB_true (most := most) hsz (by omega) (H0.out hsz) (fun c hc => HQ.out c (by rw [List.take_of_length_le (by simp)]; exact hc)))
      go_wp2
      go_ret
      exact ⟨by rw [hx.out]; rfl, (Below.refl _ _).alloc (Nat.le_refl _) _⟩
end Go.Proofs.YthjpphojddbbmaaGreatDoor
