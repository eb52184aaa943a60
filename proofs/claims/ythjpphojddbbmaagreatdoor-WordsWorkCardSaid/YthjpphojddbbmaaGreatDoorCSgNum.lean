/-
  Texts of a proof in one: SgNum, RdNum. Conditions: each names its own.
-/
import Derived.Lib.ItoaNum
import Derived.Lib.Join
/-
  Numbers in their one form, pieces of a text cut at a byte, texts of paths and places: plain laws. Conditions: none.
-/
namespace Go.Proofs.YthjpphojddbbmaaGreatDoor
open Go

def digB (c : UInt8) : Bool := decide (48 ≤ c.toNat) && decide (c.toNat ≤ 57)
/-- A digit's number behind a number. -/
def addDig (n : Nat) (c : UInt8) : Nat := 10 * n + (c.toNat - 48)
def digVal (l : List UInt8) : Nat := l.foldl addDig 0
/-- A number in its one form. -/
def numL (l : List UInt8) : Option Nat :=
  if l = [] ∨ 4 < l.length ∨ (l.head? = some 48 ∧ l ≠ [48]) then none else if l.all digB then some (digVal l) else none

theorem digVal_snoc (l : List UInt8) (c : UInt8) : digVal (l ++ [c]) = 10 * digVal l + (c.toNat - 48) := by simp [digVal, addDig]
theorem dec_ofNat {d : Nat} (h : d < 10) : digB (UInt8.ofNat (48 + d)) = true ∧ (UInt8.ofNat (48 + d)).toNat - 48 = d := by
  have : (UInt8.ofNat (48 + d)).toNat = 48 + d := by simp; omega
  unfold digB
  rw [this]
  simp; omega
theorem dec_ne {n : Nat} : Lib.decDigits n ≠ [] := by
  intro h
  have := Lib.decDigits_length n
  rw [h] at this
  have := Lib.nDigits_pos n
  simp at *; omega
theorem dec_all : ∀ n : Nat, (Lib.decDigits n).all digB = true ∧ digVal (Lib.decDigits n) = n := by
  intro n
  induction n using Nat.strongRecOn with
  | _ n ih =>
    by_cases h : n < 10
    · have e : Lib.decDigits n = [UInt8.ofNat (48 + n)] := Lib.decDigits_one h
      obtain ⟨h1, h2⟩ := dec_ofNat h
      rw [e]
      refine ⟨?_, ?_⟩
      · rw [List.all_cons, h1]; rfl
      · show 10 * 0 + ((UInt8.ofNat (48 + n)).toNat - 48) = n
        rw [h2]; omega
    · have e : Lib.decDigits n = Lib.decDigits (n / 10) ++ [UInt8.ofNat (48 + n % 10)] := by rw [Lib.decDigits, dif_neg h]
      obtain ⟨h1, h2⟩ := dec_ofNat (Nat.mod_lt n (by decide : 0 < 10))
      obtain ⟨h3, h4⟩ := ih (n / 10) (by omega)
      rw [e, digVal_snoc, h2, h4]
      refine ⟨?_, by omega⟩
      rw [List.all_append, h3, List.all_cons, h1]; rfl
theorem dec_head : ∀ n : Nat, 0 < n → (Lib.decDigits n).head? ≠ some 48 := by
  intro n
  induction n using Nat.strongRecOn with
  | _ n ih =>
    intro hn
    by_cases h : n < 10
    · have e : Lib.decDigits n = [UInt8.ofNat (48 + n)] := Lib.decDigits_one h
      rw [e]
      simp only [List.head?_cons, Option.some.injEq, ne_eq]
      intro hc
      have := congrArg UInt8.toNat hc
      simp at this; omega
    · have e : Lib.decDigits n = Lib.decDigits (n / 10) ++ [UInt8.ofNat (48 + n % 10)] := by rw [Lib.decDigits, dif_neg h]
      have := ih (n / 10) (by omega) (by omega)
      rw [e, List.head?_append]
      cases hh : (Lib.decDigits (n / 10)).head? with
      | none => rw [List.head?_eq_none_iff] at hh; exact absurd hh dec_ne
      | some x => rw [hh] at this; simpa using this
theorem dec_len {n : Nat} (h : n < 10000) : (Lib.decDigits n).length ≤ 4 := by
  rw [Lib.decDigits_length]
  by_cases h1 : n < 10
  · rw [Lib.nDigits_small h1]; omega
  rw [Lib.nDigits_big h1]
  by_cases h2 : n / 10 < 10
  · rw [Lib.nDigits_small h2]; omega
  rw [Lib.nDigits_big h2]
  by_cases h3 : n / 10 / 10 < 10
  · rw [Lib.nDigits_small h3]; omega
  rw [Lib.nDigits_big h3, Lib.nDigits_small (by omega)]; omega
theorem num_dec {n : Nat} (h : n < 10000) : numL (Lib.decDigits n) = some n := by
  obtain ⟨h1, h2⟩ := dec_all n
  have h3 := dec_len h
  unfold numL
  rw [if_neg, if_pos h1, h2]
  rintro (e | e | ⟨e1, e2⟩)
  · exact dec_ne e
  · omega
  · rcases Nat.eq_zero_or_pos n with rfl | hn
    · exact e2 (Lib.decDigits_one (by decide))
    · exact dec_head n hn e1
/-- Digits without noughts ahead are a number's. -/
theorem dec_val : ∀ (k : Nat) (l : List UInt8), l.length = k → l ≠ [] → l.all digB = true → (l.head? = some 48 → l = [48]) → Lib.decDigits (digVal l) = l
  | 0, l, hk, hn, _, _ => absurd (List.length_eq_zero_iff.1 hk) hn
  | k + 1, l, hk, hn, ha, hh => by
    obtain ⟨r, c, rfl⟩ : ∃ r c, l = r ++ [c] := ⟨l.dropLast, l.getLast hn, (List.dropLast_concat_getLast hn).symm⟩
    simp only [List.all_append, List.all_cons, List.all_nil, Bool.and_true, Bool.and_eq_true] at ha
    obtain ⟨har, hc⟩ := ha
    have hcd : 48 ≤ c.toNat ∧ c.toNat ≤ 57 := by simpa [digB] using hc
    have hofc : UInt8.ofNat (48 + (c.toNat - 48)) = c := by
      rw [show 48 + (c.toNat - 48) = c.toNat by omega]; simp
    rw [digVal_snoc]
    by_cases hr : r = []
    · subst hr
      have e0 : digVal [] = 0 := rfl
      rw [e0, show 10 * 0 + (c.toNat - 48) = c.toNat - 48 by omega, Lib.decDigits_one (by omega), hofc]; rfl
    · have hrh : r.head? ≠ some 48 := by
        intro he
        have := hh (by rw [List.head?_append, he]; rfl)
        cases r with
        | nil => exact hr rfl
        | cons a t => simp at this
      have ih := dec_val k r (by simp at hk; omega) hr har (fun he => absurd he hrh)
      have hpos : 0 < digVal r := by
        rcases Nat.eq_zero_or_pos (digVal r) with h0 | h0
        · rw [h0, Lib.decDigits_one (by decide)] at ih
          exact absurd (by rw [← ih]; rfl) hrh
        · exact h0
      rw [Lib.decDigits, dif_neg (by omega)]
      rw [show (10 * digVal r + (c.toNat - 48)) / 10 = digVal r by omega, show (10 * digVal r + (c.toNat - 48)) % 10 = c.toNat - 48 by omega, ih, hofc]
theorem digVal_lt : ∀ (k : Nat) (l : List UInt8), l.length = k → l.all digB = true → digVal l < 10 ^ k
  | 0, l, hk, _ => by rw [List.length_eq_zero_iff.1 hk]; simp [digVal]
  | k + 1, l, hk, ha => by
    have hn : l ≠ [] := by rintro rfl; simp at hk
    obtain ⟨r, c, rfl⟩ : ∃ r c, l = r ++ [c] := ⟨l.dropLast, l.getLast hn, (List.dropLast_concat_getLast hn).symm⟩
    simp only [List.all_append, List.all_cons, List.all_nil, Bool.and_true, Bool.and_eq_true] at ha
    have hcd : 48 ≤ c.toNat ∧ c.toNat ≤ 57 := by simpa [digB] using ha.2
    have ih := digVal_lt k r (by simp at hk; omega) ha.1
    rw [digVal_snoc, Nat.pow_succ]; omega
theorem num_some {l : List UInt8} {n : Nat} (h : numL l = some n) : Lib.decDigits n = l ∧ n < 10000 ∧ l ≠ [] ∧ l.length ≤ 4 ∧ l.all digB = true := by
  unfold numL at h
  split at h
  · cases h
  rename_i hc
  split at h
  · rename_i ha
    cases h
    simp only [not_or, not_and, Classical.not_not, Nat.not_lt] at hc
    obtain ⟨h1, h2, h3⟩ := hc
    refine ⟨dec_val _ l rfl h1 ha h3, ?_, h1, h2, ha⟩
    have h4 := digVal_lt _ l rfl ha
    have h5 : 10 ^ l.length ≤ 10 ^ 4 := Nat.pow_le_pow_right (by decide) h2
    omega
  · cases h

/-- A text cut at a byte, all the way. -/
def pieces (c : UInt8) : List UInt8 → List (List UInt8)
  | [] => [[]]
  | b :: l => if b = c then [] :: pieces c l else match pieces c l with
    | [] => [[b]]
    | p :: r => (b :: p) :: r
theorem pieces_ne (c : UInt8) : ∀ l, pieces c l ≠ []
  | [] => by simp [pieces]
  | b :: l => by
    unfold pieces
    split
    · simp
    · split <;> simp
theorem pieces_none {c : UInt8} : ∀ {l : List UInt8}, c ∉ l → pieces c l = [l]
  | [], _ => rfl
  | b :: l, h => by
    simp only [List.mem_cons, not_or] at h
    unfold pieces
    rw [if_neg (fun e => h.1 e.symm), pieces_none h.2]
theorem pieces_cut {c : UInt8} : ∀ {a b : List UInt8}, c ∉ a → pieces c (a ++ c :: b) = a :: pieces c b
  | [], b, _ => by simp [pieces]
  | x :: a, b, h => by
    simp only [List.mem_cons, not_or] at h
    rw [List.cons_append, pieces, if_neg (fun e => h.1 e.symm), pieces_cut h.2]
theorem pieces_join {c : UInt8} : ∀ (x : List UInt8) (r : List (List UInt8)), c ∉ x → (∀ y ∈ r, c ∉ y) → pieces c (Lib.join (x :: r) [c]) = x :: r
  | x, [], hx, _ => by rw [Lib.join_one, pieces_none hx]
  | x, y :: r, hx, hr => by
    have e : Lib.join (x :: y :: r) [c] = x ++ c :: Lib.join (y :: r) [c] := by
      rw [Lib.join_cons, Lib.join_cons]; simp [Lib.joinTail]
    rw [e, pieces_cut hx, pieces_join y r (hr y (by simp)) (fun z hz => hr z (by simp [hz]))]
theorem join_pieces (c : UInt8) : ∀ l : List UInt8, Lib.join (pieces c l) [c] = l
  | [] => by simp [pieces, Lib.join_one]
  | b :: l => by
    have ih := join_pieces c l
    unfold pieces
    have hn := pieces_ne c l
    cases hp : pieces c l with
    | nil => exact absurd hp hn
    | cons p r =>
      rw [hp] at ih
      split
      · rename_i e
        rw [Lib.join_cons]
        rw [Lib.join_cons] at ih
        subst e
        simp only [Lib.joinTail, List.map_cons, List.flatten_cons, List.nil_append] at ih ⊢
        rw [← ih]; simp
      · rw [Lib.join_cons]
        rw [Lib.join_cons] at ih
        rw [← ih]; simp
theorem pieces_mem {c : UInt8} : ∀ {l : List UInt8} {p : List UInt8}, p ∈ pieces c l → c ∉ p
  | [], p, h => by simp [pieces] at h; subst h; simp
  | b :: l, p, h => by
    unfold pieces at h
    split at h
    · rcases List.mem_cons.1 h with rfl | h
      · simp
      · exact pieces_mem h
    · rename_i hb
      have hn := pieces_ne c l
      cases hp : pieces c l with
      | nil => exact absurd hp hn
      | cons q r =>
        have hq : c ∉ q := pieces_mem (l := l) (by rw [hp]; simp)
        rw [hp] at h
        rcases List.mem_cons.1 h with rfl | h
        · simp only [List.mem_cons, not_or]; exact ⟨fun e => hb e.symm, hq⟩
        · exact pieces_mem (l := l) (by rw [hp]; simp [h])
end Go.Proofs.YthjpphojddbbmaaGreatDoor

/-
  A number ahead of a text, as the reader reads it; it is the whole of a text just if that is the number's one form: plain. Conditions: none.
-/
namespace Go.Proofs.YthjpphojddbbmaaGreatDoor
open Go

/-- A number ahead of a text: its value and how many bytes it takes. -/
def rdN (l : List UInt8) : Option (Int × Nat) :=
  let neg := decide (l.head? = some 45)
  let ds := (if neg then l.tail else l).takeWhile digB
  if ds = [] ∨ (ds.head? = some 48 ∧ (neg = true ∨ 1 < ds.length)) then none
  else if (if neg then 9223372036854775808 else 9223372036854775807) < digVal ds then none
  else some (if neg then -(digVal ds : Int) else (digVal ds : Int), (if neg then 1 else 0) + ds.length)
theorem digs_stop {l : List UInt8} {k : Nat} (h : (l.take k).all digB = true) (hs : ∀ c, l[k]? = some c → digB c = false) : l.takeWhile digB = l.take k := by
  induction l generalizing k with
  | nil => simp
  | cons x l ih =>
    cases k with
    | zero =>
      have := hs x rfl
      simp [List.takeWhile, this]
    | succ k =>
      simp only [List.take_succ_cons, List.all_cons, Bool.and_eq_true] at h
      simp only [List.takeWhile, h.1, List.take_succ_cons]
      rw [ih h.2 (fun c hc => hs c (by simpa using hc))]
theorem digs_all {l : List UInt8} (h : l.all digB = true) : l.takeWhile digB = l := by
  have := digs_stop (k := l.length) (l := l) (by rw [List.take_of_length_le (Nat.le_refl _)]; exact h) (fun c hc => by simp at hc)
  rwa [List.take_of_length_le (Nat.le_refl _)] at this
theorem dec_head0 {u : Nat} (h : (Lib.decDigits u).head? = some 48) : u = 0 := by
  rcases Nat.eq_zero_or_pos u with e | e
  · exact e
  · exact absurd h (dec_head u e)
theorem dec_0 : Lib.decDigits 0 = [48] := Lib.decDigits_one (by decide)
theorem dec_len1 {u : Nat} (h : (Lib.decDigits u).head? = some 48) : Lib.decDigits u = [48] := by rw [dec_head0 h]; exact dec_0
theorem dec_nil (u : Nat) : Lib.decDigits u ≠ [] := by
  rw [Lib.decDigits]
  split <;> simp
theorem dec_minus (u : Nat) : (Lib.decDigits u).head? ≠ some 45 := by
  intro e
  have h1 := (dec_all u).1
  cases hn : Lib.decDigits u with
  | nil => rw [hn] at e; simp at e
  | cons c r =>
    rw [hn] at e h1
    simp at e
    subst e
    simp [digB] at h1
theorem rdN_itoa {v : Int} (h1 : -9223372036854775808 ≤ v) (h2 : v ≤ 9223372036854775807) : rdN (Lib.itoa v) = some (v, (Lib.itoa v).length) := by
  unfold Lib.itoa
  by_cases hn : v < 0
  · rw [if_pos hn]
    have ha := dec_all v.natAbs
    unfold rdN
    simp only [List.head?_cons, decide_true, if_true, List.tail_cons, digs_all ha.1, ha.2]
    rw [if_neg, if_neg (by omega)]
    · simp only [List.length_cons, Option.some.injEq, Prod.mk.injEq]; omega
    · rintro (e | ⟨e, _⟩)
      · exact dec_nil _ e
      · have := dec_head0 e; omega
  · rw [if_neg hn]
    have ha := dec_all v.toNat
    have hm := dec_minus v.toNat
    unfold rdN
    simp only [hm, decide_false, Bool.false_eq_true, if_false, digs_all ha.1, ha.2, false_or]
    rw [if_neg, if_neg (by omega)]
    · simp only [Option.some.injEq, Prod.mk.injEq]; omega
    · rintro (e | ⟨e, e2⟩)
      · exact dec_nil _ e
      · rw [dec_len1 e] at e2; simp at e2
theorem takeWhile_len {l : List UInt8} (h : (l.takeWhile digB).length = l.length) : l.takeWhile digB = l := by
  have := List.takeWhile_prefix digB (l := l)
  exact this.eq_of_length h
theorem rdN_back {l : List UInt8} {v : Int} (h : rdN l = some (v, l.length)) : Lib.itoa v = l ∧ -9223372036854775808 ≤ v ∧ v ≤ 9223372036854775807 := by
  unfold rdN at h
  by_cases hn : l.head? = some 45
  · obtain ⟨r, rfl⟩ : ∃ r, l = 45 :: r := by
      cases l with
      | nil => simp at hn
      | cons c r => simp at hn; exact ⟨r, by rw [hn]⟩
    simp only [List.head?_cons, decide_true, if_true, List.tail_cons] at h
    split at h
    · cases h
    · rename_i h1
      split at h
      · cases h
      · rename_i h2
        simp only [Option.some.injEq, Prod.mk.injEq, List.length_cons] at h
        obtain ⟨rfl, hl⟩ := h
        have ht := takeWhile_len (l := r) (by omega)
        rw [ht] at h1 h2
        have ha : r.all digB = true := by rw [← ht]; simp [List.all_takeWhile]
        have hd := dec_val _ r rfl (fun e => h1 (.inl e)) ha (fun e => absurd (.inr ⟨e, by simp⟩) h1)
        have hpos : 0 < digVal r := by
          rcases Nat.eq_zero_or_pos (digVal r) with e | e
          · rw [e] at hd
            have : r = [48] := by rw [← hd]; exact dec_0
            exact absurd (.inr ⟨by rw [this]; rfl, by simp⟩) h1
          · exact e
        rw [ht]
        refine ⟨?_, by omega, by omega⟩
        unfold Lib.itoa
        rw [if_pos (by omega), show (-(digVal r : Int)).natAbs = digVal r by omega, hd]
  · simp only [hn, decide_false, Bool.false_eq_true, if_false, false_or] at h
    split at h
    · cases h
    · rename_i h1
      split at h
      · cases h
      · rename_i h2
        simp only [Option.some.injEq, Prod.mk.injEq] at h
        obtain ⟨rfl, hl⟩ := h
        have ht := takeWhile_len (l := l) (by omega)
        rw [ht] at h1 h2
        have ha : l.all digB = true := by rw [← ht]; simp [List.all_takeWhile]
        have hd := dec_val _ l rfl (fun e => h1 (.inl e)) ha (fun e => by
          have h3 : ¬ 1 < l.length := fun e2 => h1 (.inr ⟨e, e2⟩)
          cases l with
          | nil => simp at e
          | cons c r =>
            simp at e h3
            subst e
            rw [h3])
        rw [ht]
        refine ⟨?_, by omega, by omega⟩
        unfold Lib.itoa
        rw [if_neg (by omega), show ((digVal l : Int)).toNat = digVal l by omega, hd]
end Go.Proofs.YthjpphojddbbmaaGreatDoor
