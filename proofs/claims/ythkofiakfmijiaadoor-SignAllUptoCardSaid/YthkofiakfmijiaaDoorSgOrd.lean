/-
  Orders that answer -1, 0 or 1: lists by their elements, two orders in turn; texts and lists of numbers. Plain laws. Conditions: none.
-/
import Derived.Lib.Bytealg
namespace Go.Proofs.YthkofiakfmijiaaDoor
open Go

/-- A comparison that is an order. -/
structure IsOrd {α : Type} (c : α → α → Int) : Prop where
  anti : ∀ a b, c a b = -c b a
  zero : ∀ a b, c a b = 0 ↔ a = b
  rng : ∀ a b, c a b = -1 ∨ c a b = 0 ∨ c a b = 1
  trans : ∀ a b d, c a b ≤ 0 → c b d ≤ 0 → c a d ≤ 0

theorem IsOrd.strict {α : Type} {c : α → α → Int} (h : IsOrd c) {a b d : α} (h1 : c a b ≤ 0) (h2 : c b d ≤ 0) (h3 : c a d = 0) : c a b = 0 ∧ c b d = 0 := by
  have e := (h.zero a d).1 h3
  subst e
  have := h.anti a b
  omega

/-- Two orders in turn. -/
def pairC {α β : Type} (c : α → α → Int) (d : β → β → Int) (x y : α × β) : Int := if c x.1 y.1 = 0 then d x.2 y.2 else c x.1 y.1
theorem pairC_ord {α β : Type} {c : α → α → Int} {d : β → β → Int} (hc : IsOrd c) (hd : IsOrd d) : IsOrd (pairC c d) := by
  refine ⟨fun x y => ?_, fun x y => ?_, fun x y => ?_, fun x y z h1 h2 => ?_⟩
  · have h1 := hc.anti x.1 y.1
    have h2 := hd.anti x.2 y.2
    unfold pairC
    split <;> split <;> omega
  · obtain ⟨a, b⟩ := x
    obtain ⟨a', b'⟩ := y
    have h1 := hc.zero a a'
    have h2 := hd.zero b b'
    unfold pairC
    simp only [Prod.mk.injEq]
    split
    · rename_i h
      rw [h2]
      exact ⟨fun e => ⟨h1.1 h, e⟩, fun e => e.2⟩
    · rename_i h
      exact ⟨fun e => absurd e h, fun e => absurd (h1.2 e.1) h⟩
  · unfold pairC
    split
    · exact hd.rng _ _
    · exact hc.rng _ _
  · unfold pairC at *
    have t1 := hc.trans x.1 y.1 z.1
    have r1 := hc.rng x.1 y.1
    have r2 := hc.rng y.1 z.1
    have s1 := hc.strict (a := x.1) (b := y.1) (d := z.1)
    split at h1 <;> split at h2
    · rename_i a b
      have : c x.1 z.1 = 0 := by rw [(hc.zero _ _).1 a]; exact b
      rw [if_pos this]
      exact hd.trans _ _ _ h1 h2
    · rename_i a b
      rw [(hc.zero _ _).1 a, if_neg b]
      exact h2
    · rename_i a b
      rw [← (hc.zero _ _).1 b, if_neg a]
      exact h1
    · rename_i a b
      have := t1 h1 h2
      split
      · rename_i e
        have := s1 h1 h2 e
        omega
      · exact this

/-- Lists, element by element; what ends first is ahead. -/
def listC {α : Type} (c : α → α → Int) : List α → List α → Int
  | [], [] => 0
  | [], _ :: _ => -1
  | _ :: _, [] => 1
  | a :: as, b :: bs => if c a b = 0 then listC c as bs else c a b
theorem listC_ord {α : Type} {c : α → α → Int} (hc : IsOrd c) : IsOrd (listC c) := by
  refine ⟨fun x => ?_, fun x => ?_, fun x => ?_, fun x => ?_⟩
  · induction x with
    | nil => intro y; cases y <;> simp [listC]
    | cons a as ih =>
      intro y
      cases y with
      | nil => simp [listC]
      | cons b bs =>
        have h1 := hc.anti a b
        have h2 := ih bs
        simp only [listC]
        split <;> split <;> omega
  · induction x with
    | nil => intro y; cases y <;> simp [listC]
    | cons a as ih =>
      intro y
      cases y with
      | nil => simp [listC]
      | cons b bs =>
        have h1 := hc.zero a b
        have h2 := ih bs
        simp only [listC, List.cons.injEq]
        split
        · rename_i h
          rw [h2]
          exact ⟨fun e => ⟨h1.1 h, e⟩, fun e => e.2⟩
        · rename_i h
          exact ⟨fun e => absurd e h, fun e => absurd (h1.2 e.1) h⟩
  · induction x with
    | nil => intro y; cases y <;> simp [listC]
    | cons a as ih =>
      intro y
      cases y with
      | nil => simp [listC]
      | cons b bs =>
        simp only [listC]
        split
        · exact ih bs
        · exact hc.rng a b
  · induction x with
    | nil => intro y z _ _; cases z <;> simp [listC]
    | cons a as ih =>
      intro y z h1 h2
      cases y with
      | nil => simp [listC] at h1
      | cons b bs =>
        cases z with
        | nil => simp [listC] at h2
        | cons d ds =>
          simp only [listC] at *
          have t1 := hc.trans a b d
          have s1 := hc.strict (a := a) (b := b) (d := d)
          split at h1 <;> split at h2
          · rename_i p q
            have : c a d = 0 := by rw [(hc.zero _ _).1 p]; exact q
            rw [if_pos this]
            exact ih bs ds h1 h2
          · rename_i p q
            rw [(hc.zero _ _).1 p, if_neg q]
            exact h2
          · rename_i p q
            rw [← (hc.zero _ _).1 q, if_neg p]
            exact h1
          · rename_i p q
            have := t1 h1 h2
            split
            · rename_i e
              have := s1 h1 h2 e
              omega
            · exact this
theorem listC_snoc {α : Type} {c : α → α → Int} (hc : IsOrd c) (x : α) : ∀ l : List α, listC c l (l ++ [x]) = -1
  | [] => rfl
  | a :: l => by
    have : c a a = 0 := (hc.zero a a).2 rfl
    simp [listC, this, listC_snoc hc x l]

/-- Numbers. -/
def intC (a b : Int) : Int := if a < b then -1 else if b < a then 1 else 0
theorem intC_ord : IsOrd intC := by
  refine ⟨fun a b => ?_, fun a b => ?_, fun a b => ?_, fun a b d h1 h2 => ?_⟩ <;> unfold intC at * <;> repeat' split
  all_goals (try split at h1) <;> (try split at h1) <;> (try split at h2) <;> (try split at h2) <;> omega
def byteC (a b : UInt8) : Int := if a < b then -1 else if b < a then 1 else 0
theorem byteC_int (a b : UInt8) : byteC a b = intC a.toNat b.toNat := by
  unfold byteC intC
  simp only [UInt8.lt_iff_toNat_lt]
  repeat' split
  all_goals omega
theorem byteC_ord : IsOrd byteC := by
  refine ⟨fun a b => ?_, fun a b => ?_, fun a b => ?_, fun a b d h1 h2 => ?_⟩
  · rw [byteC_int, byteC_int]; exact intC_ord.anti _ _
  · rw [byteC_int, intC_ord.zero]
    exact ⟨fun h => UInt8.toNat_inj.1 (by omega), fun h => by rw [h]⟩
  · rw [byteC_int]; exact intC_ord.rng _ _
  · rw [byteC_int] at *; exact intC_ord.trans _ _ _ h1 h2
theorem compareBytes_eq : ∀ a b : List UInt8, Lib.compareBytes a b = listC byteC a b
  | [], [] => rfl
  | [], _ :: _ => rfl
  | _ :: _, [] => rfl
  | a :: as, b :: bs => by
    simp only [Lib.compareBytes, listC, byteC]
    rw [compareBytes_eq as bs]
    split
    · simp
    · split <;> simp
theorem bytes_ord : IsOrd Lib.compareBytes := by
  have : Lib.compareBytes = listC byteC := by funext a b; exact compareBytes_eq a b
  rw [this]
  exact listC_ord byteC_ord
def intsC : List Int → List Int → Int := listC intC
theorem ints_ord : IsOrd intsC := listC_ord intC_ord
/-- Places. -/
def placeC (x y : List UInt8 × List Int) : Int := pairC Lib.compareBytes intsC x y
theorem place_ord : IsOrd placeC := pairC_ord bytes_ord ints_ord
theorem placeC_in (f : List UInt8) (l : List Int) (k : Int) : placeC (f, l) (f, l ++ [k]) = -1 := by
  have h : Lib.compareBytes f f = 0 := (bytes_ord.zero f f).2 rfl
  unfold placeC pairC
  simp only [h, if_true]
  exact listC_snoc intC_ord k l
end Go.Proofs.YthkofiakfmijiaaDoor
