/-
  cmp.Or, slices.Compare, sign.Compare: walks, for every place. Conditions: a text within a row's reach.
-/
import Derived.Test.YthkofiakfmijiaaDoorSgOrd
import Derived.Test.YthkofiakfmijiaaDoorRds
import Derived.Test.YthkofiakfmijiaaDoorShelf
namespace Go.Proofs.YthkofiakfmijiaaDoor
open Go.RowKit
set_option linter.unusedVariables false

def orL : List Int → Int
  | [] => 0
  | x :: r => if x = 0 then orL r else x
theorem orL_hit : ∀ {l : List Int} {k : Nat} (hk : k < l.length), (∀ x ∈ l.take k, x = 0) → l[k]'hk ≠ 0 → orL l = l[k]'hk
  | x :: r, 0, _, _, h => by have h' : x ≠ 0 := h; simp only [orL]; rw [if_neg h']; rfl
  | x :: r, k + 1, hk, h0, h => by
    have : x = 0 := h0 x (by simp)
    simp only [orL]
    rw [if_pos this, orL_hit (l := r) (k := k) (by simpa using hk) (fun y hy => h0 y (by simp [hy])) h]
    rfl
theorem orL_none : ∀ {l : List Int}, (∀ x ∈ l, x = 0) → orL l = 0
  | [], _ => rfl
  | x :: r, h => by
    simp only [orL]
    rw [if_pos (h x (by simp)), orL_none (fun y hy => h y (by simp [hy]))]
theorem take_nextZ {l : List Int} {k : Nat} (hk : k < l.length) (h : ∀ x ∈ l.take k, x = 0) (hp : l[k]'hk = 0) : ∀ x ∈ l.take (k + 1), x = 0 := by
  intro x hx
  rw [List.take_succ_eq_append_getElem hk, List.mem_append] at hx
  rcases hx with hx | hx
  · exact h x hx
  · simp at hx; rw [hx]; exact hp
set_option maxHeartbeats 1000000 in
theorem cmp_or (A : Option Addr) (l : List Int) (c : Nat) (w : World) (B : Nat) (hl : l.length ≤ 140737488355328) (hR : RdI w B A l) :
    Calls Tryd.prog 32 #[.slice A l.length c] w fun e w' => e = .returned (.int .i64 (orL l)) ∧ w = w' := by
  have HR := Lib.hid hR
  clear hR
  go_enter Tryd.func32, Tryd.ntmps32
  go_wp2
  go_loop [8] (fun i => ∃ k : Nat, k ≤ l.length ∧ i = .int .i64 k ∧ ∀ x ∈ l.take k, x = 0) (fun i => l.length - (intOf i).toNat)
  case atStart => exact ⟨0, Nat.zero_le _, rfl, fun x hx => by simp at hx⟩
  case round =>
    obtain ⟨k, hk, rfl, hq⟩ := hrel
    have HQ := Lib.hid hq
    clear hq
    by_cases hlt : k < l.length
    · obtain ⟨ad, rfl, _, hc⟩ := HR.out.at_ hlt
      cases hp : ((l[k]'hlt) == 0)
      · have hx := Lib.hid (orL_hit hlt HQ.out (by simpa using hp))
        have hp2 : ((l[k]'hlt) != 0) = true := by simp [bne, hp]
        go_wp2
        go_ret
        exact ⟨by rw [hx.out]; rfl, rfl⟩
      · have HN := Lib.hid (take_nextZ hlt HQ.out (by simpa using hp))
        have hp2 : ((l[k]'hlt) != 0) = false := by simp [bne, hp]
        go_wp2
        go_round
        case rel => exact ⟨k + 1, by omega, by go_num, HN.out⟩
        case measure => simp [intOf]; omega
    · have hx := Lib.hid (orL_none (l := l) (fun x hx => HQ.out x (by rw [List.take_of_length_le (by omega)]; exact hx)))
      go_wp2
      go_ret
      exact ⟨by rw [hx.out]; rfl, rfl⟩

theorem intsC_at : ∀ {l m : List Int} {k : Nat}, l.take k = m.take k → k ≤ l.length → k ≤ m.length → intsC l m = intsC (l.drop k) (m.drop k)
  | _, _, 0, _, _, _ => rfl
  | a :: l, b :: m, k + 1, h, hl, hm => by
    simp only [List.take_succ_cons, List.cons.injEq] at h
    obtain ⟨rfl, h2⟩ := h
    have hz : intC a a = 0 := (intC_ord.zero a a).2 rfl
    show listC intC (a :: l) (a :: m) = _
    simp only [listC, hz, if_true, List.drop_succ_cons]
    exact intsC_at h2 (by simpa using hl) (by simpa using hm)
theorem intsC_more {l m : List Int} {k : Nat} (h : l.take k = m.take k) (hl : k < l.length) (hm : k = m.length) : intsC l m = 1 := by
  rw [intsC_at h (by omega) (by omega), show m.drop k = [] from List.drop_of_length_le (by omega), List.drop_eq_getElem_cons hl]; rfl
theorem intsC_less {l m : List Int} {k : Nat} (h : l.take k = m.take k) (hl : k = l.length) (hm : k < m.length) : intsC l m = -1 := by
  rw [intsC_at h (by omega) (by omega), show l.drop k = [] from List.drop_of_length_le (by omega), List.drop_eq_getElem_cons hm]; rfl
theorem intsC_same {l m : List Int} {k : Nat} (h : l.take k = m.take k) (hl : k = l.length) (hm : k = m.length) : intsC l m = 0 := by
  rw [intsC_at h (by omega) (by omega), show l.drop k = [] from List.drop_of_length_le (by omega), show m.drop k = [] from List.drop_of_length_le (by omega)]; rfl
theorem intsC_part {l m : List Int} {k : Nat} (h : l.take k = m.take k) (hl : k < l.length) (hm : k < m.length) (hne : intC (l[k]'hl) (m[k]'hm) ≠ 0) : intsC l m = intC (l[k]'hl) (m[k]'hm) := by
  rw [intsC_at h (by omega) (by omega), List.drop_eq_getElem_cons hl, List.drop_eq_getElem_cons hm]
  show listC intC _ _ = _
  simp only [listC]
  rw [if_neg hne]
theorem take_nextE {l m : List Int} {k : Nat} (h : l.take k = m.take k) (hl : k < l.length) (hm : k < m.length) (he : intC (l[k]'hl) (m[k]'hm) = 0) : l.take (k + 1) = m.take (k + 1) := by
  rw [List.take_succ_eq_append_getElem hl, List.take_succ_eq_append_getElem hm, h, (intC_ord.zero _ _).1 he]
theorem cmp_compare (a b : Int) (w : World) : Calls Tryd.prog 58 #[.int .i64 a, .int .i64 b] w fun e w' => e = .returned (.int .i64 (intC a b)) ∧ w = w' :=
  (Tryd.cmp_Compare_int a b w).mono fun e w' ⟨he, hw⟩ => ⟨he, hw.symm⟩
set_option maxHeartbeats 2000000 in
theorem slices_compare (A A2 : Option Addr) (l m : List Int) (c c2 : Nat) (w : World) (B B2 : Nat) (hl : l.length ≤ 140737488355328) (hm : m.length ≤ 140737488355328) (hR : RdI w B A l) (hR2 : RdI w B2 A2 m) :
    Calls Tryd.prog 34 #[.slice A l.length c, .slice A2 m.length c2] w fun e w' => e = .returned (.int .i64 (intsC l m)) ∧ w = w' := by
  have HR := Lib.hid hR
  have HR2 := Lib.hid hR2
  clear hR hR2
  go_enter Tryd.func34, Tryd.ntmps34
  go_wp2
  go_loop [11] (fun i => ∃ k : Nat, k ≤ l.length ∧ k ≤ m.length ∧ i = .int .i64 k ∧ l.take k = m.take k) (fun i => l.length - (intOf i).toNat)
  case atStart => exact ⟨0, Nat.zero_le _, Nat.zero_le _, rfl, rfl⟩
  case round =>
    obtain ⟨k, hk, hk2, rfl, hq⟩ := hrel
    have HQ := Lib.hid hq
    clear hq
    by_cases hlt : k < l.length
    · obtain ⟨ad, rfl, _, hc⟩ := HR.out.at_ hlt
      by_cases hlt2 : k < m.length
      · obtain ⟨ad2, rfl, _, hc2⟩ := HR2.out.at_ hlt2
        have hge : decide (m.length ≤ k) = false := by simp; omega
        cases hp : (intC (l[k]'hlt) (m[k]'hlt2) == 0)
        · have hx := Lib.hid (intsC_part HQ.out hlt hlt2 (by simpa using hp))
          have hp2 : (intC (l[k]'hlt) (m[k]'hlt2) != 0) = true := by simp [bne, hp]
          go_wp2_with fail
          refine (cmp_compare _ _ _).mono ?_
          rintro e w' ⟨rfl, rfl⟩
          go_wp2
          go_ret
          exact ⟨by rw [hx.out]; rfl, rfl⟩
        · have HN := Lib.hid (take_nextE HQ.out hlt hlt2 (by simpa using hp))
          have hp2 : (intC (l[k]'hlt) (m[k]'hlt2) != 0) = false := by simp [bne, hp]
          go_wp2_with fail
          refine (cmp_compare _ _ _).mono ?_
          rintro e w' ⟨rfl, rfl⟩
          go_wp2
          go_round
          case rel => exact ⟨k + 1, by omega, by omega, by go_num, HN.out⟩
          case measure => simp [intOf]; omega
      · have hge : decide (m.length ≤ k) = true := by simp; omega
        have hx := Lib.hid (intsC_more HQ.out hlt (by omega))
        go_wp2
        go_ret
        exact ⟨by rw [hx.out]; rfl, rfl⟩
    · by_cases hlt2 : k < m.length
      · have hx := Lib.hid (intsC_less HQ.out (by omega) hlt2)
        have hge : decide (l.length < m.length) = true := by simp; omega
        go_wp2
        go_ret
        exact ⟨by rw [hx.out]; rfl, rfl⟩
      · have hx := Lib.hid (intsC_same HQ.out (by omega) (by omega))
        have hge : decide (l.length < m.length) = false := by simp; omega
        go_wp2
        go_ret
        exact ⟨by rw [hx.out]; rfl, rfl⟩
end Go.Proofs.YthkofiakfmijiaaDoor
