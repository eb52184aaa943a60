/-
  Texts of a proof in one: SignWord, SgNum, SignName. Conditions: each names its own.
-/
import Derived.Test.YtcldbjgikkfnbaaGreatDoorCBase
import Derived.Test.YtcldbjgikkfnbaaGreatDoorProg
import Derived.Lib.Strings
import Derived.Lib.ItoaNum
import Derived.Lib.Join
import Derived.Laws.EntriesVeiled
/-
  sign.made, sign.Word: which texts may be names: walks, for every text. Conditions: none.
-/
namespace Go.Proofs.YtcldbjgikkfnbaaGreatDoor
open Go.RowKit
set_option linter.unusedVariables false

def smallR (r : Int) : Bool := decide (97 ≤ r) && decide (r ≤ 122)
def digitR (r : Int) : Bool := decide (48 ≤ r) && decide (r ≤ 57)
theorem sign_small (r : Int) (w : World) : Calls Tryz.prog 86 #[.int .i32 r] w fun e w' => e = .returned (.bool (smallR r)) ∧ w = w' := by
  by_cases h : 97 ≤ r
  · have hx := Lib.hid (show smallR r = decide (r ≤ 122) by simp [smallR, h])
    go_enter Tryz.func86, Tryz.ntmps86
    go_wp2
    go_ret
    exact ⟨by rw [hx.out]; rfl, rfl⟩
  · have hx := Lib.hid (show smallR r = false by simp [smallR, h])
    have hd : decide (97 ≤ r) = false := by simpa using h
    go_enter Tryz.func86, Tryz.ntmps86
    go_wp2
    go_ret
    exact ⟨by rw [hx.out]; rfl, rfl⟩
theorem sign_digit (r : Int) (w : World) : Calls Tryz.prog 88 #[.int .i32 r] w fun e w' => e = .returned (.bool (digitR r)) ∧ w = w' := by
  by_cases h : 48 ≤ r
  · have hx := Lib.hid (show digitR r = decide (r ≤ 57) by simp [digitR, h])
    go_enter Tryz.func88, Tryz.ntmps88
    go_wp2
    go_ret
    exact ⟨by rw [hx.out]; rfl, rfl⟩
  · have hx := Lib.hid (show digitR r = false by simp [digitR, h])
    have hd : decide (48 ≤ r) = false := by simpa using h
    go_enter Tryz.func88, Tryz.ntmps88
    go_wp2
    go_ret
    exact ⟨by rw [hx.out]; rfl, rfl⟩
theorem sign_word1 (r : Int) (w : World) : Calls Tryz.prog 87 #[.int .i32 r] w fun e w' => e = .returned (.bool (smallR r || digitR r)) ∧ w = w' := by
  cases h : smallR r
  · go_enter Tryz.func87, Tryz.ntmps87
    go_wp2_with (first | (go_at_call 86; refine (sign_small _ _).mono ?_; rintro e w' ⟨rfl, rfl⟩) | (go_at_call 88; refine (sign_digit _ _).mono ?_; rintro e w' ⟨rfl, rfl⟩))
    go_ret
    exact ⟨rfl, rfl⟩
  · go_enter Tryz.func87, Tryz.ntmps87
    go_wp2_with (first | (go_at_call 86; refine (sign_small _ _).mono ?_; rintro e w' ⟨rfl, rfl⟩) | (go_at_call 88; refine (sign_digit _ _).mono ?_; rintro e w' ⟨rfl, rfl⟩))
    go_ret
    exact ⟨rfl, rfl⟩

/-- A function value that tells a rune by a Boolean. -/
structure IsPred (w : World) (F : FuncId) (caps : Array Value) (p : Int → Bool) : Prop where
  call : ∀ (r : Int) (w1 : World), Below w.heap.size w w1 → Calls Tryz.prog F (#[.int .i32 r] ++ caps) w1 fun e w' => e = .returned (.bool (p r)) ∧ w1 = w'
  enter : ∀ (args : Array Value) (w1 : World), (callFunc F args).run Tryz.prog w1 = .ok (.enter F args) w1
  high : ∀ r : Int, 128 ≤ r → p r = false
/-- What 'made' tells, byte by byte. -/
def madeB (s : ByteArray) (most : Int) (p q : Int → Bool) : Bool :=
  decide (s.size ≠ 0 ∧ (s.size : Int) ≤ most) && (p (s.data.toList.headD 0).toNat) && s.data.toList.all (fun c => q c.toNat)

theorem madeB_q {s : ByteArray} {most : Int} {p q : Int → Bool} {pos : Nat} (h : pos < s.size) (hq : q (s[pos]'h).toNat = false) : madeB s most p q = false := by
  have hm : s[pos]'h ∈ s.data.toList := List.getElem_mem (l := s.data.toList) (by simpa using h)
  have : s.data.toList.all (fun c => q c.toNat) = false := by rw [List.all_eq_false]; exact ⟨_, hm, by simp [hq]⟩
  simp only [madeB, this, Bool.and_false]
theorem head_at {s : ByteArray} (h : 0 < s.size) : s.data.toList.headD 0 = s[0]'h := by
  rw [List.headD_eq_head?_getD, List.head?_eq_getElem?, List.getElem?_eq_getElem (by simpa using h)]; rfl
theorem madeB_p {s : ByteArray} {most : Int} {p q : Int → Bool} (h : 0 < s.size) (hp : p (s[0]'h).toNat = false) : madeB s most p q = false := by
  simp only [madeB, head_at h, hp, Bool.and_false, Bool.false_and]
theorem madeB_true {s : ByteArray} {most : Int} {p q : Int → Bool} (h : 0 < s.size) (hm : (s.size : Int) ≤ most) (hp : p (s.data.toList.headD 0).toNat = true) (hq : ∀ c ∈ s.data.toList, q c.toNat = true) : madeB s most p q = true := by
  have h2 : s.data.toList.all (fun c => q c.toNat) = true := by rw [List.all_eq_true]; exact hq
  have h3 : s.size ≠ 0 := by omega
  simp only [madeB, hp, h2, Bool.and_true]
  simp [h3, hm]
theorem take_next {s : ByteArray} {pos : Nat} (h : pos < s.size) {q : Int → Bool} (hq : ∀ c ∈ s.data.toList.take pos, q c.toNat = true) (hc : q (s[pos]'h).toNat = true) : ∀ c ∈ s.data.toList.take (pos + 1), q c.toNat = true := by
  intro c hm
  rw [List.take_succ_eq_append_getElem (by simpa using h), List.mem_append] at hm
  rcases hm with hm | hm
  · exact hq c hm
  · simp at hm; subst hm; exact hc

set_option maxHeartbeats 2000000 in
theorem sign_made (s : ByteArray) (most : Int) (F G : FuncId) (cf cg : Array Value) (p q : Int → Bool) (w : World) (hs : s.size ≤ 140737488351232) (hF : IsPred w F cf p) (hG : IsPred w G cg q) :
    Calls Tryz.prog 85 #[.string s, .int .i64 most, .func (.func F) #[] cf, .func (.func G) #[] cg] w fun e w' => e = .returned (.bool (madeB s most p q)) ∧ Below w.heap.size w w' := by
  have HF := Lib.hid hF
  have HG := Lib.hid hG
  clear hF hG
  by_cases h0 : s.toList = []
  · have hx := Lib.hid (show madeB s most p q = false by
      have : s.size = 0 := by rw [Lib.toList_data, ← List.length_eq_zero_iff] at h0; simpa using h0
      simp [madeB, this])
    go_enter Tryz.func85, Tryz.ntmps85
    go_wp2
    go_ret
    exact ⟨by rw [hx.out]; rfl, Below.refl _ _⟩
  by_cases h1 : most < (s.size : Int)
  · have hx := Lib.hid (show madeB s most p q = false by
      have : ¬ ((s.size : Int) ≤ most) := by omega
      simp [madeB, this])
    have h1d : decide (most < (s.size : Int)) = true := by simpa using h1
    go_enter Tryz.func85, Tryz.ntmps85
    go_wp2
    go_ret
    exact ⟨by rw [hx.out]; rfl, Below.refl _ _⟩
  have h1d : decide (most < (s.size : Int)) = false := by simpa using h1
  have h0b : s.toList.isEmpty = false := by simpa using h0
  have hsz : 0 < s.size := by
    rcases Nat.eq_zero_or_pos s.size with h | h
    · exact absurd (by rw [Lib.toList_data, ← List.length_eq_zero_iff]; simpa using h) h0
    · exact h
  go_enter Tryz.func85, Tryz.ntmps85
  go_wp2
  clear h1d
  go_loopw [9] (fun _ wr => ∃ pos : Nat, pos ≤ s.size ∧ wr = w.iter s pos ∧ (0 < pos → p (s.data.toList.headD 0).toNat = true) ∧ (∀ c ∈ s.data.toList.take pos, q c.toNat = true)) (fun _ wr => s.size - wr.iterPos w.heap.size)
  case atStart => exact ⟨0, Nat.zero_le _, rfl, fun h => by omega, fun c hc => by simp at hc⟩
  case round =>
    obtain ⟨pos, hp, rfl, hp0, hq⟩ := hrel
    have H0 := Lib.hid hp0
    have HQ := Lib.hid hq
    clear hp0 hq
    by_cases hlt : pos < s.size
    · have hnext := run_next_any (P := Tryz.prog) w s pos 0 hlt
      have hFe := HF.out.enter
      have hGe := HG.out.enter
      have hbel : Hid (∀ n, Below w.heap.size w (w.iter s n)) := fun n => (Below.refl _ _).alloc (Nat.le_refl _) _
      by_cases hasc : (s[pos]'hlt).toNat < 128
      · rw [decode_ascii s pos hlt hasc] at hnext
        by_cases hpos : pos = 0
        · subst hpos
          cases hp : p (s[0]'hlt).toNat
          · have hx := Lib.hid (madeB_p (most := most) (q := q) hlt hp)
            go_wp2_with fail
            refine (HF.out.call _ _ (hbel.out _)).mono ?_
            rintro e w' ⟨rfl, rfl⟩
            go_wp2
            go_ret
            exact ⟨by rw [hx.out]; rfl, hbel.out _⟩
          · have HP := Lib.hid hp
            go_wp2_with fail
            refine (HF.out.call _ _ (hbel.out _)).mono ?_
            rintro e w' ⟨rfl, rfl⟩
            go_wp2_with fail
            refine (HG.out.call _ _ (hbel.out _)).mono ?_
            rintro e w' ⟨rfl, rfl⟩
            cases hq : q (s[0]'hlt).toNat
            · have hx := Lib.hid (madeB_q (most := most) (p := p) hlt hq)
              go_wp2
              go_ret
              exact ⟨by rw [hx.out]; rfl, hbel.out _⟩
            · have HQ1 := Lib.hid (take_next hlt HQ.out hq)
              go_wp2
              go_roundw
              case rel => exact ⟨0 + 1, by omega, rfl, fun _ => by rw [head_at hlt]; exact HP.out, HQ1.out⟩
              case measure => simp; omega
        · have hpb : ((pos : Int) == 0) = false := by simpa using hpos
          go_wp2_with fail
          refine (HG.out.call _ _ (hbel.out _)).mono ?_
          rintro e w' ⟨rfl, rfl⟩
          cases hq : q (s[pos]'hlt).toNat
          · have hx := Lib.hid (madeB_q (most := most) (p := p) hlt hq)
            go_wp2
            go_ret
            exact ⟨by rw [hx.out]; rfl, hbel.out _⟩
          · have HQ1 := Lib.hid (take_next hlt HQ.out hq)
            go_wp2
            go_roundw
            case rel => exact ⟨pos + 1, by omega, rfl, fun _ => H0.out (by omega), HQ1.out⟩
            case measure => simp; omega
      · have hhi := decode_high s pos hlt (by omega)
        have hx := Lib.hid (madeB_q (most := most) (p := p) hlt (HG.out.high _ (by omega)))
        have hqr : q ((Utf8.decode s pos).1 : Int) = false := HG.out.high _ (by omega)
        by_cases hpos : pos = 0
        · subst hpos
          cases hp : p ((Utf8.decode s 0).1 : Int)
          · go_wp2_with fail
            refine (HF.out.call _ _ (hbel.out _)).mono ?_
            rintro e w' ⟨rfl, rfl⟩
            go_wp2
            go_ret
            exact ⟨by rw [hx.out]; rfl, hbel.out _⟩
          · go_wp2_with fail
            refine (HF.out.call _ _ (hbel.out _)).mono ?_
            rintro e w' ⟨rfl, rfl⟩
            go_wp2_with fail
            refine (HG.out.call _ _ (hbel.out _)).mono ?_
            rintro e w' ⟨rfl, rfl⟩
            go_wp2
            go_ret
            exact ⟨by rw [hx.out]; rfl, hbel.out _⟩
        · have hpb : ((pos : Int) == 0) = false := by simpa using hpos
          go_wp2_with fail
          refine (HG.out.call _ _ (hbel.out _)).mono ?_
          rintro e w' ⟨rfl, rfl⟩
          go_wp2
          go_ret
          exact ⟨by rw [hx.out]; rfl, hbel.out _⟩
    · obtain rfl : pos = s.size := by omega
      have hnext := run_next_end (P := Tryz.prog) w s s.size 0 hlt
      have hx := Lib.hid (madeB_true (most := most) hsz (by omega) (H0.out hsz) (fun c hc => HQ.out c (by rw [List.take_of_length_le (by simp)]; exact hc)))
      go_wp2
      go_ret
      exact ⟨by rw [hx.out]; rfl, (Below.refl _ _).alloc (Nat.le_refl _) _⟩
end Go.Proofs.YtcldbjgikkfnbaaGreatDoor

/-
  Numbers in their one form, pieces of a text cut at a byte, texts of paths and places: plain laws. Conditions: none.
-/
namespace Go.Proofs.YtcldbjgikkfnbaaGreatDoor
open Go

def digB (c : UInt8) : Bool := decide (48 ≤ c.toNat) && decide (c.toNat ≤ 57)
/-- A digit's number behind a number. -/
def addDig (n : Nat) (c : UInt8) : Nat := 10 * n + (c.toNat - 48)
def digVal (l : List UInt8) : Nat := l.foldl addDig 0
/-- A number in its one form. -/
def numL (l : List UInt8) : Option Nat :=
  if l = [] ∨ 4 < l.length ∨ (l.head? = some 48 ∧ l ≠ [48]) then none else if l.all digB then some (digVal l) else none

theorem digVal_snoc (l : List UInt8) (c : UInt8) : digVal (l ++ [c]) = 10 * digVal l + (c.toNat - 48) := by simp [digVal, addDig]
theorem dec_ofNat {d : Nat} (h : d < 10) : digB (UInt8.ofNat (48 + d)) = true ∧ (UInt8.ofNat (48 + d)).toNat - 48 = d := by
  have : (UInt8.ofNat (48 + d)).toNat = 48 + d := by simp; omega
  unfold digB
  rw [this]
  simp; omega
theorem dec_ne {n : Nat} : Lib.decDigits n ≠ [] := by
  intro h
  have := Lib.decDigits_length n
  rw [h] at this
  have := Lib.nDigits_pos n
  simp at *; omega
theorem dec_all : ∀ n : Nat, (Lib.decDigits n).all digB = true ∧ digVal (Lib.decDigits n) = n := by
  intro n
  induction n using Nat.strongRecOn with
  | _ n ih =>
    by_cases h : n < 10
    · have e : Lib.decDigits n = [UInt8.ofNat (48 + n)] := Lib.decDigits_one h
      obtain ⟨h1, h2⟩ := dec_ofNat h
      rw [e]
      refine ⟨?_, ?_⟩
      · rw [List.all_cons, h1]; rfl
      · show 10 * 0 + ((UInt8.ofNat (48 + n)).toNat - 48) = n
        rw [h2]; omega
    · have e : Lib.decDigits n = Lib.decDigits (n / 10) ++ [UInt8.ofNat (48 + n % 10)] := by rw [Lib.decDigits, dif_neg h]
      obtain ⟨h1, h2⟩ := dec_ofNat (Nat.mod_lt n (by decide : 0 < 10))
      obtain ⟨h3, h4⟩ := ih (n / 10) (by omega)
      rw [e, digVal_snoc, h2, h4]
      refine ⟨?_, by omega⟩
      rw [List.all_append, h3, List.all_cons, h1]; rfl
theorem dec_head : ∀ n : Nat, 0 < n → (Lib.decDigits n).head? ≠ some 48 := by
  intro n
  induction n using Nat.strongRecOn with
  | _ n ih =>
    intro hn
    by_cases h : n < 10
    · have e : Lib.decDigits n = [UInt8.ofNat (48 + n)] := Lib.decDigits_one h
      rw [e]
      simp only [List.head?_cons, Option.some.injEq, ne_eq]
      intro hc
      have := congrArg UInt8.toNat hc
      simp at this; omega
    · have e : Lib.decDigits n = Lib.decDigits (n / 10) ++ [UInt8.ofNat (48 + n % 10)] := by rw [Lib.decDigits, dif_neg h]
      have := ih (n / 10) (by omega) (by omega)
      rw [e, List.head?_append]
      cases hh : (Lib.decDigits (n / 10)).head? with
      | none => rw [List.head?_eq_none_iff] at hh; exact absurd hh dec_ne
      | some x => rw [hh] at this; simpa using this
theorem dec_len {n : Nat} (h : n < 10000) : (Lib.decDigits n).length ≤ 4 := by
  rw [Lib.decDigits_length]
  by_cases h1 : n < 10
  · rw [Lib.nDigits_small h1]; omega
  rw [Lib.nDigits_big h1]
  by_cases h2 : n / 10 < 10
  · rw [Lib.nDigits_small h2]; omega
  rw [Lib.nDigits_big h2]
  by_cases h3 : n / 10 / 10 < 10
  · rw [Lib.nDigits_small h3]; omega
  rw [Lib.nDigits_big h3, Lib.nDigits_small (by omega)]; omega
theorem num_dec {n : Nat} (h : n < 10000) : numL (Lib.decDigits n) = some n := by
  obtain ⟨h1, h2⟩ := dec_all n
  have h3 := dec_len h
  unfold numL
  rw [if_neg, if_pos h1, h2]
  rintro (e | e | ⟨e1, e2⟩)
  · exact dec_ne e
  · omega
  · rcases Nat.eq_zero_or_pos n with rfl | hn
    · exact e2 (Lib.decDigits_one (by decide))
    · exact dec_head n hn e1
/-- Digits without noughts ahead are a number's. -/
theorem dec_val : ∀ (k : Nat) (l : List UInt8), l.length = k → l ≠ [] → l.all digB = true → (l.head? = some 48 → l = [48]) → Lib.decDigits (digVal l) = l
  | 0, l, hk, hn, _, _ => absurd (List.length_eq_zero_iff.1 hk) hn
  | k + 1, l, hk, hn, ha, hh => by
    obtain ⟨r, c, rfl⟩ : ∃ r c, l = r ++ [c] := ⟨l.dropLast, l.getLast hn, (List.dropLast_concat_getLast hn).symm⟩
    simp only [List.all_append, List.all_cons, List.all_nil, Bool.and_true, Bool.and_eq_true] at ha
    obtain ⟨har, hc⟩ := ha
    have hcd : 48 ≤ c.toNat ∧ c.toNat ≤ 57 := by simpa [digB] using hc
    have hofc : UInt8.ofNat (48 + (c.toNat - 48)) = c := by
      rw [show 48 + (c.toNat - 48) = c.toNat by omega]; simp
    rw [digVal_snoc]
    by_cases hr : r = []
    · subst hr
      have e0 : digVal [] = 0 := rfl
      rw [e0, show 10 * 0 + (c.toNat - 48) = c.toNat - 48 by omega, Lib.decDigits_one (by omega), hofc]; rfl
    · have hrh : r.head? ≠ some 48 := by
        intro he
        have := hh (by rw [List.head?_append, he]; rfl)
        cases r with
        | nil => exact hr rfl
        | cons a t => simp at this
      have ih := dec_val k r (by simp at hk; omega) hr har (fun he => absurd he hrh)
      have hpos : 0 < digVal r := by
        rcases Nat.eq_zero_or_pos (digVal r) with h0 | h0
        · rw [h0, Lib.decDigits_one (by decide)] at ih
          exact absurd (by rw [← ih]; rfl) hrh
        · exact h0
      rw [Lib.decDigits, dif_neg (by omega)]
      rw [show (10 * digVal r + (c.toNat - 48)) / 10 = digVal r by omega, show (10 * digVal r + (c.toNat - 48)) % 10 = c.toNat - 48 by omega, ih, hofc]
theorem digVal_lt : ∀ (k : Nat) (l : List UInt8), l.length = k → l.all digB = true → digVal l < 10 ^ k
  | 0, l, hk, _ => by rw [List.length_eq_zero_iff.1 hk]; simp [digVal]
  | k + 1, l, hk, ha => by
    have hn : l ≠ [] := by rintro rfl; simp at hk
    obtain ⟨r, c, rfl⟩ : ∃ r c, l = r ++ [c] := ⟨l.dropLast, l.getLast hn, (List.dropLast_concat_getLast hn).symm⟩
    simp only [List.all_append, List.all_cons, List.all_nil, Bool.and_true, Bool.and_eq_true] at ha
    have hcd : 48 ≤ c.toNat ∧ c.toNat ≤ 57 := by simpa [digB] using ha.2
    have ih := digVal_lt k r (by simp at hk; omega) ha.1
    rw [digVal_snoc, Nat.pow_succ]; omega
theorem num_some {l : List UInt8} {n : Nat} (h : numL l = some n) : Lib.decDigits n = l ∧ n < 10000 ∧ l ≠ [] ∧ l.length ≤ 4 ∧ l.all digB = true := by
  unfold numL at h
  split at h
  · cases h
  rename_i hc
  split at h
  · rename_i ha
    cases h
    simp only [not_or, not_and, Classical.not_not, Nat.not_lt] at hc
    obtain ⟨h1, h2, h3⟩ := hc
    refine ⟨dec_val _ l rfl h1 ha h3, ?_, h1, h2, ha⟩
    have h4 := digVal_lt _ l rfl ha
    have h5 : 10 ^ l.length ≤ 10 ^ 4 := Nat.pow_le_pow_right (by decide) h2
    omega
  · cases h

/-- A text cut at a byte, all the way. -/
def pieces (c : UInt8) : List UInt8 → List (List UInt8)
  | [] => [[]]
  | b :: l => if b = c then [] :: pieces c l else match pieces c l with
    | [] => [[b]]
    | p :: r => (b :: p) :: r
theorem pieces_ne (c : UInt8) : ∀ l, pieces c l ≠ []
  | [] => by simp [pieces]
  | b :: l => by
    unfold pieces
    split
    · simp
    · split <;> simp
theorem pieces_none {c : UInt8} : ∀ {l : List UInt8}, c ∉ l → pieces c l = [l]
  | [], _ => rfl
  | b :: l, h => by
    simp only [List.mem_cons, not_or] at h
    unfold pieces
    rw [if_neg (fun e => h.1 e.symm), pieces_none h.2]
theorem pieces_cut {c : UInt8} : ∀ {a b : List UInt8}, c ∉ a → pieces c (a ++ c :: b) = a :: pieces c b
  | [], b, _ => by simp [pieces]
  | x :: a, b, h => by
    simp only [List.mem_cons, not_or] at h
    rw [List.cons_append, pieces, if_neg (fun e => h.1 e.symm), pieces_cut h.2]
theorem pieces_join {c : UInt8} : ∀ (x : List UInt8) (r : List (List UInt8)), c ∉ x → (∀ y ∈ r, c ∉ y) → pieces c (Lib.join (x :: r) [c]) = x :: r
  | x, [], hx, _ => by rw [Lib.join_one, pieces_none hx]
  | x, y :: r, hx, hr => by
    have e : Lib.join (x :: y :: r) [c] = x ++ c :: Lib.join (y :: r) [c] := by
      rw [Lib.join_cons, Lib.join_cons]; simp [Lib.joinTail]
    rw [e, pieces_cut hx, pieces_join y r (hr y (by simp)) (fun z hz => hr z (by simp [hz]))]
theorem join_pieces (c : UInt8) : ∀ l : List UInt8, Lib.join (pieces c l) [c] = l
  | [] => by simp [pieces, Lib.join_one]
  | b :: l => by
    have ih := join_pieces c l
    unfold pieces
    have hn := pieces_ne c l
    cases hp : pieces c l with
    | nil => exact absurd hp hn
    | cons p r =>
      rw [hp] at ih
      split
      · rename_i e
        rw [Lib.join_cons]
        rw [Lib.join_cons] at ih
        subst e
        simp only [Lib.joinTail, List.map_cons, List.flatten_cons, List.nil_append] at ih ⊢
        rw [← ih]; simp
      · rw [Lib.join_cons]
        rw [Lib.join_cons] at ih
        rw [← ih]; simp
theorem pieces_mem {c : UInt8} : ∀ {l : List UInt8} {p : List UInt8}, p ∈ pieces c l → c ∉ p
  | [], p, h => by simp [pieces] at h; subst h; simp
  | b :: l, p, h => by
    unfold pieces at h
    split at h
    · rcases List.mem_cons.1 h with rfl | h
      · simp
      · exact pieces_mem h
    · rename_i hb
      have hn := pieces_ne c l
      cases hp : pieces c l with
      | nil => exact absurd hp hn
      | cons q r =>
        have hq : c ∉ q := pieces_mem (l := l) (by rw [hp]; simp)
        rw [hp] at h
        rcases List.mem_cons.1 h with rfl | h
        · simp only [List.mem_cons, not_or]; exact ⟨fun e => hb e.symm, hq⟩
        · exact pieces_mem (l := l) (by rw [hp]; simp [h])
end Go.Proofs.YtcldbjgikkfnbaaGreatDoor

/-
  sign.Name, sign.number, sign.Use: which texts are names, numbers, uses: walks, for every text. Conditions: a text within a row's reach.
-/
namespace Go.Proofs.YtcldbjgikkfnbaaGreatDoor
open Go.RowKit
set_option linter.unusedVariables false

def letterR (r : Int) : Bool := smallR r || (decide (65 ≤ r) && decide (r ≤ 90)) || (r == 95)
theorem letter_high (r : Int) (h : 128 ≤ r) : letterR r = false := by
  have h1 : ¬ r ≤ 122 := by omega
  have h2 : ¬ r ≤ 90 := by omega
  have h3 : (r == 95) = false := by simp; omega
  simp [letterR, smallR, h1, h2, h3]
theorem sign_name1 (r : Int) (w : World) : Calls Tryz.prog 141 #[.int .i32 r] w fun e w' => e = .returned (.bool (letterR r)) ∧ w = w' := by
  cases h : smallR r
  · by_cases h1 : 65 ≤ r
    · have h1d : decide (65 ≤ r) = true := by simpa using h1
      by_cases h2 : r ≤ 90
      · have h2d : decide (r ≤ 90) = true := by simpa using h2
        have hx := Lib.hid (show letterR r = true by simp [letterR, h1, h2])
        go_enter Tryz.func141, Tryz.ntmps141
        go_wp2_with fail
        refine (sign_small _ _).mono ?_
        rintro e w' ⟨rfl, rfl⟩
        rw [h]
        go_wp2
        go_ret
        exact ⟨by rw [hx.out]; rfl, rfl⟩
      · have h2d : decide (r ≤ 90) = false := by simpa using h2
        have hx := Lib.hid (show letterR r = (r == 95) by simp [letterR, h, h2])
        go_enter Tryz.func141, Tryz.ntmps141
        go_wp2_with fail
        refine (sign_small _ _).mono ?_
        rintro e w' ⟨rfl, rfl⟩
        rw [h]
        go_wp2
        go_ret
        exact ⟨by rw [hx.out]; rfl, rfl⟩
    · have h1d : decide (65 ≤ r) = false := by simpa using h1
      have hx := Lib.hid (show letterR r = (r == 95) by simp [letterR, h, h1])
      go_enter Tryz.func141, Tryz.ntmps141
      go_wp2_with fail
      refine (sign_small _ _).mono ?_
      rintro e w' ⟨rfl, rfl⟩
      rw [h]
      go_wp2
      go_ret
      exact ⟨by rw [hx.out]; rfl, rfl⟩
  · have hx := Lib.hid (show letterR r = true by simp [letterR, h])
    go_enter Tryz.func141, Tryz.ntmps141
    go_wp2_with fail
    refine (sign_small _ _).mono ?_
    rintro e w' ⟨rfl, rfl⟩
    rw [h]
    go_wp2
    go_ret
    exact ⟨by rw [hx.out]; rfl, rfl⟩
theorem sign_name2 (r : Int) (a : Addr) (w : World) (hc : w.cell? a = some (.func (.func 141) #[] #[])) :
    Calls Tryz.prog 142 #[.int .i32 r, .pointer (some a)] w fun e w' => e = .returned (.bool (letterR r || digitR r)) ∧ w = w' := by
  have hent : ∀ (args : Array Value) (w1 : World), (callFunc 141 args).run Tryz.prog w1 = .ok (.enter 141 args) w1 := fun args w1 => by kernel_rfl
  cases h : letterR r
  · go_enter Tryz.func142, Tryz.ntmps142
    go_wp2_with fail
    refine (sign_name1 _ _).mono ?_
    rintro e w' ⟨rfl, rfl⟩
    rw [h]
    go_wp2_with fail
    refine (sign_digit _ _).mono ?_
    rintro e w' ⟨rfl, rfl⟩
    go_wp2
    go_ret
    exact ⟨rfl, rfl⟩
  · go_enter Tryz.func142, Tryz.ntmps142
    go_wp2_with fail
    refine (sign_name1 _ _).mono ?_
    rintro e w' ⟨rfl, rfl⟩
    rw [h]
    go_wp2
    go_ret
    exact ⟨rfl, rfl⟩

/-- A variable's, or a function's, name. -/
def nameB (s : ByteArray) : Bool := madeB s 32 letterR (fun r => letterR r || digitR r)
theorem sign_Name (s : ByteArray) (w : World) (hs : s.size ≤ 140737488351232) : Calls Tryz.prog 108 #[.string s] w (Bel (.bool (nameB s)) w) := by
  have H : ∀ w1, w1 = w.alloc (.cells #[.func (.func 141) #[] #[]] 211) → Calls Tryz.prog 85 #[.string s, .int .i64 32, .func (.func 141) #[] #[], .func (.func 142) #[] #[.pointer (some ⟨w.heap.size, 0, none⟩)]] w1 fun e w' => e = .returned (.bool (nameB s)) ∧ Below w.heap.size w w' := by
    rintro w1 rfl
    have hF : IsPred (w.alloc (.cells #[.func (.func 141) #[] #[]] 211)) 141 #[] letterR := ⟨fun r w1 _ => sign_name1 r w1, fun args w1 => by kernel_rfl, letter_high⟩
    have hG : IsPred (w.alloc (.cells #[.func (.func 141) #[] #[]] 211)) 142 #[.pointer (some ⟨w.heap.size, 0, none⟩)] (fun r => letterR r || digitR r) :=
      ⟨fun r w1 hb => sign_name2 r _ w1 ((hb.cell (p := ⟨w.heap.size, 0, none⟩) (by simp)).trans (by simp)), fun args w1 => by kernel_rfl, fun r h => by rw [letter_high r h]; simp [digitR]; omega⟩
    exact (sign_made s 32 _ _ _ _ _ _ _ hs hF hG).mono fun e w' ⟨he, hb⟩ => ⟨he, ((Below.refl _ _).alloc (Nat.le_refl _) _).trans (hb.mono (by simp))⟩
  have HH := Lib.hid H
  clear H
  go_enter Tryz.func108, Tryz.ntmps108
  go_wp2_with fail
  refine (HH.out _ rfl).mono ?_
  rintro e w' ⟨rfl, hb⟩
  have HB := Lib.hid hb
  clear hb
  go_wp2
  go_ret
  exact ⟨rfl, HB.out⟩
end Go.Proofs.YtcldbjgikkfnbaaGreatDoor
