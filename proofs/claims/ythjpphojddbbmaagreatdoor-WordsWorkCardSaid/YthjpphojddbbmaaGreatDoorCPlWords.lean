/-
  Numbers and their texts there and back; repeated, found, cut texts: plain laws. Conditions: none.
-/
import Derived.Lib.ItoaNum
import Derived.Lib.ParseIntBTie
import Derived.Lib.Repeat
import Derived.Lib.Index
import Derived.Lib.Strings
namespace Go.Proofs.YthjpphojddbbmaaGreatDoor
open Go

theorem puint_snoc : ∀ (l : List UInt8) (a : Nat) (c : UInt8), Lib.parseUint10 a (l ++ [c]) = match Lib.parseUint10 a l with
    | .ok u => Lib.parseUint10 u [c]
    | e => e
  | [], a, c => rfl
  | d :: l, a, c => by
    simp only [List.cons_append, Lib.parseUint10]
    by_cases h1 : 48 ≤ d.toNat ∧ d.toNat ≤ 57
    · rw [if_pos h1, if_pos h1]
      by_cases h2 : 1844674407370955162 ≤ a
      · rw [if_pos h2, if_pos h2]
      · rw [if_neg h2, if_neg h2]
        by_cases h3 : 18446744073709551616 ≤ a * 10 + (d.toNat - 48)
        · rw [if_pos h3, if_pos h3]
        · rw [if_neg h3, if_neg h3]
          exact puint_snoc l _ c
    · rw [if_neg h1, if_neg h1]
theorem dig_nat {d : Nat} (h : d < 10) : (UInt8.ofNat (48 + d)).toNat = 48 + d := by simp; omega
theorem puint_dec : ∀ (u : Nat), u < 18446744073709551616 → Lib.parseUint10 0 (Lib.decDigits u) = .ok u := by
  intro u
  induction u using Nat.strongRecOn with
  | _ u ih =>
    intro hu
    by_cases h : u < 10
    · rw [Lib.decDigits_one h]
      simp only [Lib.parseUint10, dig_nat h]
      rw [if_pos (by omega), if_neg (by omega), if_neg (by omega)]
      congr 1; omega
    · rw [Lib.decDigits, dif_neg h, puint_snoc, ih (u / 10) (by omega) (by omega)]
      have hd : u % 10 < 10 := Nat.mod_lt _ (by decide)
      simp only [Lib.parseUint10, dig_nat hd]
      rw [if_pos (by omega), if_neg (by omega), if_neg (by omega)]
      congr 1; omega
theorem dec_cons (u : Nat) : ∃ c r, Lib.decDigits u = c :: r ∧ 48 ≤ c.toNat ∧ c.toNat ≤ 57 := by
  induction u using Nat.strongRecOn with
  | _ u ih =>
    by_cases h : u < 10
    · exact ⟨_, [], Lib.decDigits_one h, by rw [dig_nat h]; omega, by rw [dig_nat h]; omega⟩
    · obtain ⟨c, r, e, h1, h2⟩ := ih (u / 10) (by omega)
      exact ⟨c, r ++ [UInt8.ofNat (48 + u % 10)], by rw [Lib.decDigits, dif_neg h, e]; rfl, h1, h2⟩
/-- A number's text is read back. -/
theorem parse_itoa {n : Int} (h1 : -9223372036854775808 ≤ n) (h2 : n ≤ 9223372036854775807) : Lib.parseIntB 64 (Lib.itoa n) = .ok n := by
  unfold Lib.itoa
  by_cases hn : n < 0
  · rw [if_pos hn, Lib.parseIntB_minus, Lib.parseUintB_64]
    obtain ⟨c, r, e, _, _⟩ := dec_cons n.natAbs
    unfold Lib.parseMag
    rw [if_neg (by rw [e]; exact List.cons_ne_nil _ _), puint_dec _ (by omega)]
    unfold Lib.signedC
    simp only
    rw [if_neg (by simp only [Nat.reducePow, Nat.reduceSub]; omega)]
    congr 1; omega
  · rw [if_neg hn]
    obtain ⟨c, r, e, h3, h4⟩ := dec_cons n.toNat
    rw [e, Lib.parseIntB_plain _ _ _ (by omega) (by omega), ← e, Lib.parseUintB_64]
    unfold Lib.parseMag
    rw [if_neg (by rw [e]; exact List.cons_ne_nil _ _), puint_dec _ (by omega)]
    unfold Lib.signlessC
    simp only
    rw [if_neg (by simp only [Nat.reducePow, Nat.reduceSub]; omega)]
    congr 1; omega
theorem nDig_le : ∀ (k u : Nat), u < 10 ^ (k + 1) → Lib.nDigits u ≤ k + 1
  | 0, u, h => by rw [Lib.nDigits_small (by simpa using h)]; omega
  | k + 1, u, h => by
    by_cases h1 : u < 10
    · rw [Lib.nDigits_small h1]; omega
    · rw [Lib.nDigits_big h1]
      have := nDig_le k (u / 10) (by rw [Nat.pow_succ] at h; omega)
      omega
theorem itoa_len {n : Int} (h1 : -9223372036854775808 ≤ n) (h2 : n ≤ 9223372036854775807) : (Lib.itoa n).length ≤ 21 := by
  unfold Lib.itoa
  by_cases hn : n < 0
  · rw [if_pos hn, List.length_cons, Lib.decDigits_length]
    have := nDig_le 19 n.natAbs (by simp only [Nat.reduceAdd, Nat.reducePow]; omega)
    omega
  · rw [if_neg hn, Lib.decDigits_length]
    have := nDig_le 19 n.toNat (by simp only [Nat.reduceAdd, Nat.reducePow]; omega)
    omega
theorem rep_get (l : List UInt8) (h0 : 0 < l.length) : ∀ (c k : Nat), k < c * l.length → (Lib.repeatL l c)[k]? = l[k % l.length]?
  | 0, k, h => by omega
  | c + 1, k, h => by
    show (l ++ Lib.repeatL l c)[k]? = _
    by_cases hk : k < l.length
    · rw [List.getElem?_append_left hk, Nat.mod_eq_of_lt hk]
    · rw [List.getElem?_append_right (by omega), rep_get l h0 c (k - l.length) (by rw [Nat.succ_mul] at h; omega)]
      congr 1
      rw [Nat.mod_eq_sub_mod (by omega : l.length ≤ k)]
theorem prefix_self : ∀ l m : List UInt8, l.isPrefixOf (l ++ m) = true
  | [], m => by simp
  | x :: l, m => by simp
theorem prefix_take {l m : List UInt8} (h : l.isPrefixOf m = true) : m.take l.length = l := by
  rw [List.isPrefixOf_iff_prefix] at h
  obtain ⟨t, rfl⟩ := h
  simp
theorem index_join : ∀ s u : List UInt8, ∃ i : Nat, Lib.index (s ++ u) u = i ∧ i ≤ s.length ∧ ((s ++ u).drop i).take u.length = u
  | [], u => by
    refine ⟨0, ?_, by simp, by simp⟩
    match u with
    | [] => rfl
    | b :: l =>
      have h := prefix_self (b :: l) []
      rw [List.append_nil] at h
      show Lib.index (b :: l) (b :: l) = 0
      unfold Lib.index
      rw [if_pos h]
  | b :: s, u => by
    obtain ⟨i, h1, h2, h3⟩ := index_join s u
    show ∃ i : Nat, Lib.index (b :: (s ++ u)) u = i ∧ i ≤ (b :: s).length ∧ ((b :: (s ++ u)).drop i).take u.length = u
    unfold Lib.index
    by_cases hp : u.isPrefixOf (b :: (s ++ u)) = true
    · rw [if_pos hp]
      exact ⟨0, rfl, by simp, prefix_take hp⟩
    · rw [if_neg hp, h1, if_neg (by simp)]
      exact ⟨i + 1, by simp, by simp; omega, by simpa using h3⟩
theorem index_long {s u : List UInt8} (h : s.length < u.length) : Lib.index s u = -1 := by
  refine Lib.index_none fun j _ => ?_
  unfold Lib.occAt
  cases hp : u.isPrefixOf (s.drop j)
  · rfl
  · rw [List.isPrefixOf_iff_prefix] at hp
    have := hp.length_le
    rw [List.length_drop] at this
    omega
theorem pl_bytes_ext {a b : ByteArray} (h : a.data.toList = b.data.toList) : a = b := by
  obtain ⟨⟨x⟩⟩ := a
  obtain ⟨⟨y⟩⟩ := b
  simp at h
  rw [h]
theorem app_data (a b : ByteArray) : (a ++ b).data.toList = a.data.toList ++ b.data.toList := by simp
theorem data_len (a : ByteArray) : a.data.toList.length = a.size := by exact a.data.length_toList
/-- Pieces make the text again. -/
theorem cut_two (s : ByteArray) (n : Nat) (h : n ≤ s.size) : s.extract 0 n ++ s.extract n s.size = s ∧ (s.extract 0 n).size = n := by
  refine ⟨pl_bytes_ext ?_, ?_⟩
  · rw [app_data, Lib.extract_data, Lib.extract_data]
    have hl := data_len s
    rw [Nat.sub_zero, List.drop_zero, List.take_of_length_le (l := s.data.toList.drop n) (by simp [hl])]
    exact List.take_append_drop n _
  · rw [← data_len, Lib.extract_data]
    have hl := data_len s
    simp [hl]; omega
/-- A joined text has its second part in itself. -/
theorem found (s u : ByteArray) : ∃ i : Nat, Lib.index (s ++ u).data.toList u.data.toList = i ∧ i ≤ s.size ∧ (s ++ u).extract i (i + u.size) = u := by
  obtain ⟨i, h1, h2, h3⟩ := index_join s.data.toList u.data.toList
  refine ⟨i, by rw [app_data]; exact h1, by rw [data_len] at h2; exact h2, pl_bytes_ext ?_⟩
  rw [Lib.extract_data, app_data, show i + u.size - i = u.size by omega]
  rw [data_len] at h3
  exact h3
end Go.Proofs.YthjpphojddbbmaaGreatDoor
