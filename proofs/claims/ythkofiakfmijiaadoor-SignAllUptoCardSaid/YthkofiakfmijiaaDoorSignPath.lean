/-
  sign.path, sign.Place: walks, for every path and place. Conditions: a text within a row's reach.
-/
import Derived.Test.YthkofiakfmijiaaDoorSignName
import Derived.Test.YthkofiakfmijiaaDoorRds
import Derived.Test.YthkofiakfmijiaaDoorSgPath
namespace Go.Proofs.YthkofiakfmijiaaDoor
open Go.RowKit
set_option linter.unusedVariables false

def badI (n : Int) : Bool := decide (n < 0) || decide (1022 < n)
theorem sign_path1 (n : Int) (w : World) : Calls Tryd.prog 55 #[.int .i64 n] w fun e w' => e = .returned (.bool (badI n)) ∧ w = w' := by
  by_cases h : n < 0
  · have hx := Lib.hid (show badI n = true by simp [badI, h])
    go_enter Tryd.func55, Tryd.ntmps55
    go_wp2
    go_ret
    exact ⟨by rw [hx.out]; rfl, rfl⟩
  · have hd : decide (n < 0) = false := by simpa using h
    have hx := Lib.hid (show badI n = decide (1022 < n) by simp [badI, h])
    go_enter Tryd.func55, Tryd.ntmps55
    go_wp2
    go_ret
    exact ⟨by rw [hx.out]; rfl, rfl⟩

/-- Where the first such number stands. -/
def firstI (p : Int → Bool) (l : List Int) : Int := match l.findIdx? p with | some i => (i : Int) | none => -1
theorem firstI_hit {p : Int → Bool} {l : List Int} {k : Nat} (hk : k < l.length) (h : ∀ x ∈ l.take k, p x = false) (hp : p (l[k]'hk) = true) : firstI p l = k := by
  unfold firstI
  rw [List.findIdx?_eq_some_iff_getElem.2 ⟨hk, hp, fun j hj => by
    have := h (l[j]'(by omega)) (List.mem_take_iff_getElem.2 ⟨j, by omega, rfl⟩)
    rw [this]; simp⟩]
theorem firstI_none {p : Int → Bool} {l : List Int} (h : ∀ x ∈ l, p x = false) : firstI p l = -1 := by
  unfold firstI
  rw [List.findIdx?_eq_none_iff.2 h]
theorem take_nextI {l : List Int} {k : Nat} (hk : k < l.length) {p : Int → Bool} (h : ∀ x ∈ l.take k, p x = false) (hp : p (l[k]'hk) = false) : ∀ x ∈ l.take (k + 1), p x = false := by
  intro x hx
  rw [List.take_succ_eq_append_getElem hk, List.mem_append] at hx
  rcases hx with hx | hx
  · exact h x hx
  · simp at hx; rw [hx]; exact hp

set_option maxHeartbeats 1000000 in
theorem slices_indexFunc (A : Option Addr) (l : List Int) (c : Nat) (F : FuncId) (p : Int → Bool) (w : World) (B : Nat) (hl : l.length ≤ 140737488355328) (hR : RdI w B A l)
    (hF : ∀ (r : Int) (w1 : World), Calls Tryd.prog F #[.int .i64 r] w1 fun e w' => e = .returned (.bool (p r)) ∧ w1 = w') (hE : ∀ (args : Array Value) (w1 : World), (callFunc F args).run Tryd.prog w1 = .ok (.enter F args) w1) :
    Calls Tryd.prog 66 #[.slice A l.length c, .func (.func F) #[] #[]] w fun e w' => e = .returned (.int .i64 (firstI p l)) ∧ w = w' := by
  have HF := Lib.hid hF
  have HR := Lib.hid hR
  clear hF hR
  go_enter Tryd.func66, Tryd.ntmps66
  go_wp2
  go_loop [8] (fun i => ∃ k : Nat, k ≤ l.length ∧ i = .int .i64 k ∧ ∀ x ∈ l.take k, p x = false) (fun i => l.length - (intOf i).toNat)
  case atStart => exact ⟨0, Nat.zero_le _, rfl, fun x hx => by simp at hx⟩
  case round =>
    obtain ⟨k, hk, rfl, hq⟩ := hrel
    have HQ := Lib.hid hq
    clear hq
    by_cases hlt : k < l.length
    · obtain ⟨ad, rfl, _, hc⟩ := HR.out.at_ hlt
      cases hp : p (l[k]'hlt)
      · have HN := Lib.hid (take_nextI hlt HQ.out hp)
        go_wp2_with fail
        refine (HF.out _ _).mono ?_
        rintro e w' ⟨rfl, rfl⟩
        rw [hp]
        clear hp
        go_wp2
        go_round
        case rel => exact ⟨k + 1, by omega, by go_num, HN.out⟩
        case measure => simp [intOf]; omega
      · have hx := Lib.hid (firstI_hit hlt HQ.out hp)
        go_wp2_with fail
        refine (HF.out _ _).mono ?_
        rintro e w' ⟨rfl, rfl⟩
        rw [hp]
        clear hp
        go_wp2
        go_ret
        exact ⟨by rw [hx.out]; rfl, rfl⟩
    · have hx := Lib.hid (firstI_none (p := p) (l := l) (fun x hx => HQ.out x (by rw [List.take_of_length_le (by omega)]; exact hx)))
      go_wp2
      go_ret
      exact ⟨by rw [hx.out]; rfl, rfl⟩
theorem slices_containsFunc (A : Option Addr) (l : List Int) (c : Nat) (F : FuncId) (p : Int → Bool) (w : World) (B : Nat) (hl : l.length ≤ 140737488355328) (hR : RdI w B A l)
    (hF : ∀ (r : Int) (w1 : World), Calls Tryd.prog F #[.int .i64 r] w1 fun e w' => e = .returned (.bool (p r)) ∧ w1 = w') (hE : ∀ (args : Array Value) (w1 : World), (callFunc F args).run Tryd.prog w1 = .ok (.enter F args) w1) :
    Calls Tryd.prog 54 #[.slice A l.length c, .func (.func F) #[] #[]] w fun e w' => e = .returned (.bool (l.any p)) ∧ w = w' := by
  have H := Lib.hid (slices_indexFunc A l c F p w B hl hR hF hE)
  clear hF hE hR
  have hv : Hid (decide (0 ≤ firstI p l) = l.any p) := Lib.hid (by
    unfold firstI
    cases h : l.findIdx? p with
    | none =>
      rw [List.findIdx?_eq_none_iff] at h
      have : l.any p = false := by rw [List.any_eq_false]; intro x hx; rw [h x hx]; simp
      rw [this]; simp
    | some i =>
      rw [List.findIdx?_eq_some_iff_getElem] at h
      obtain ⟨hi, hp, _⟩ := h
      have : l.any p = true := List.any_eq_true.2 ⟨_, List.getElem_mem hi, hp⟩
      rw [this]; simp)
  go_enter Tryd.func54, Tryd.ntmps54
  go_wp2_with fail
  refine H.out.mono ?_
  rintro e w' ⟨rfl, rfl⟩
  go_wp2
  go_ret
  exact ⟨by rw [← hv.out]; rfl, rfl⟩

theorem pathL_any (l : List Int) : (!l.any badI) = l.all (fun n => decide (0 ≤ n) && decide (n ≤ 1022)) := by
  induction l with
  | nil => rfl
  | cons a l ih =>
    rw [List.any_cons, List.all_cons, Bool.not_or, ih]
    congr 1
    unfold badI
    rw [Bool.not_or, ← decide_not, ← decide_not]
    congr 1 <;> rw [decide_eq_decide] <;> omega
theorem sign_path (A : Option Addr) (l : List Int) (c : Nat) (w : World) (B : Nat) (hl : l.length ≤ 140737488355328) (hR : RdI w B A l) :
    Calls Tryd.prog 30 #[.slice A l.length c] w fun e w' => e = .returned (.bool (pathL l)) ∧ w = w' := by
  have H := Lib.hid (slices_containsFunc A l c 55 badI w B hl hR sign_path1 (fun args w1 => by kernel_rfl))
  clear hR
  by_cases h : l.length < 64
  · have hx := Lib.hid (show pathL l = !l.any badI by unfold pathL; rw [pathL_any]; simp [h])
    have hd : decide ((l.length : Int) < 64) = true := by simp; omega
    clear h
    go_enter Tryd.func30, Tryd.ntmps30
    go_wp2_with fail
    refine H.out.mono ?_
    rintro e w' ⟨rfl, rfl⟩
    go_wp2
    go_ret
    exact ⟨by rw [hx.out]; rfl, rfl⟩
  · have hx := Lib.hid (show pathL l = false by unfold pathL; simp [h])
    have hd : decide ((l.length : Int) < 64) = false := by simp; omega
    clear h
    go_enter Tryd.func30, Tryd.ntmps30
    go_wp2
    go_ret
    exact ⟨by rw [hx.out]; rfl, rfl⟩

/-- A place that may be. -/
def placeB (f : ByteArray) (l : List Int) : Bool := (decide (f = ⟨#[]⟩) || nameB f) && pathL l
end Go.Proofs.YthkofiakfmijiaaDoor
