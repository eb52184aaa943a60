/-
  kit.may, kit.May, kit.copied on rows that may be: walks. Conditions: the row is one that may be.
-/
import Derived.Test.YthjpphojddbbmaaGreatDoorKitRows
import Derived.Test.YthjpphojddbbmaaGreatDoorFresh
import Derived.Laws.ResultCell
namespace Go.Proofs.YthjpphojddbbmaaGreatDoor
open Go.RowKit
set_option linter.unusedVariables false

def totalName : ByteArray := ⟨#[84, 111, 116, 97, 108]⟩
def pureName : ByteArray := ⟨#[80, 117, 114, 101]⟩
/-- A row that may be. -/
structure RowD.ok (r : RowD) : Prop where
  kind : (kindV r.kind).2.2 = true
  size : r.kind.size ≤ 140737488351232
  min0 : 0 ≤ r.min
  min1 : r.min ≤ 1023
  max : r.max = -1 ∨ (r.min ≤ r.max ∧ r.max ≤ 1023)
  text0 : 0 ≤ r.text
  text1 : r.text ≤ 4
  names : r.text = 3 → r.min ≠ 0
  len : 0 < r.abil.length ∧ r.abil.length ≤ 140737488351
  rising : risingF r.abil (-1) = true
  total : Lib.containsS r.abil totalName = true → Lib.containsS r.abil pureName = true
def RowD.val (r : RowD) (A : Option Addr) (c : Nat) : Value := .agg #[.string r.kind, .int .i64 r.min, .int .i64 r.max, .bool r.num, .int .i64 r.text, .slice A r.abil.length c]

theorem contains_of {w : World} {S : Nat → Prop} {l : List ByteArray} {A : Option Addr} (h : NamesIn w S l A) (h0 : 0 < l.length) (hlen : l.length ≤ 9223372036854775807) (c : Nat) (x : ByteArray) :
    Calls Tryz.prog 117 #[.slice A l.length c, .string x] w fun e w' => e = .returned (.bool (Lib.containsS l x)) ∧ w = w' := by
  obtain ⟨b, o, rfl, hb, hc⟩ := h h0
  refine (Tryz.slices_Contains_string b o l.length c l x w (Nat.le_refl _) hlen hc).mono ?_
  rintro e w' ⟨rfl, rfl⟩
  rw [List.take_length]
  exact ⟨rfl, rfl⟩

theorem triple_true (t : ByteArray × ByteArray × Bool) (h : t.2.2 = true) : ∃ a b, t = (a, b, true) := by obtain ⟨x, y, z⟩ := t; simp at h; subst h; exact ⟨x, y, rfl⟩

set_option maxRecDepth 100000 in
set_option maxHeartbeats 4000000 in
theorem kit_may (r : RowD) (hr : r.ok) (A : Option Addr) (c : Nat) (w : World) (hA : NamesIn w (· < w.heap.size) r.abil A) :
    Calls Tryz.prog 92 #[r.val A c] w (Bel (.int .i64 0) w) := by
  have HA := Lib.hid hA
  have hk := Lib.hid (sign_Kind r.kind (w.alloc (.cells #[.string r.kind, .int .i64 r.min, .int .i64 r.max, .bool r.num, .int .i64 r.text, .slice A r.abil.length c] 81)) hr.size)
  have hkk := Lib.hid hr.kind
  obtain ⟨k1, k2, hkv⟩ : ∃ a b, kindV r.kind = (a, b, true) := triple_true _ hr.kind
  have HKV := Lib.hid hkv
  have HR := Lib.hid hr.rising
  have HT := Lib.hid hr.total
  have hl1 := hr.len.1
  have hl2 := hr.len.2
  have g1 := hr.min0
  have g2 := hr.min1
  have g4 := hr.text0
  have g5 := hr.text1
  have hmx := Lib.hid hr.max
  have hnm := Lib.hid hr.names
  obtain ⟨kind, mn, mx, nm, tx, ab⟩ := r
  simp only at *
  clear hA hr hkv
  have d1 : decide (mn < 0) = false := by simpa using g1
  have d2 : decide (tx < 0) = false := by simpa using g4
  have d3 : decide (4 < tx) = false := by simpa using g5
  have hbx : Hid (Below w.heap.size w (w.alloc (.cells #[.string kind, .int .i64 mn, .int .i64 mx, .bool nm, .int .i64 tx, .slice A ab.length c] 81))) := (Below.refl _ _).alloc (Nat.le_refl _) _
  unfold RowD.val
  go_enter Tryz.func92, Tryz.ntmps92
  go_wp2_with fail
  refine hk.out.mono ?_
  rintro e w1 ⟨rfl, hb1⟩
  rw [HKV.out]
  unfold cutT
  have c1 := box_cell hb1 (by simp) 1
  have c2 := box_cell hb1 (by simp) 2
  have c4 := box_cell hb1 (by simp) 4
  have c5 := box_cell hb1 (by simp) 5
  simp at c1 c2 c4 c5
  have HB1 := Lib.hid hb1
  have hs1 := hb1.size
  rw [size_alloc] at hs1
  clear hb1
  have hmax : (mx != -1) = false ∨ ((mx != -1) = true ∧ decide (mx < mn) = false ∧ decide (1023 < mx) = false) := by
    by_cases h : mx = -1
    · exact .inl (by simpa using h)
    · rcases hmx.out with h' | h'
      · exact absurd h' h
      · exact .inr ⟨by simpa using h, by simp; omega, by simp; omega⟩
  have hname : (tx == 3) = false ∨ ((tx == 3) = true ∧ (mn == 0) = false) := by
    by_cases h : tx = 3
    · exact .inr ⟨by simpa using h, by simpa using hnm.out h⟩
    · exact .inl (by simpa using h)
  have hris := Lib.hid (kit_rising ab A c w1 (by omega) ((HA.out.below ((Below.refl _ _).alloc (Nat.le_refl _) _ |>.trans (HB1.out.mono (by simp)))).keep (fun _ _ _ => rfl) (fun b hb => by have : b < w.heap.size := hb; show b < w1.heap.size; omega)) HR.out)
  have hA1 := Lib.hid ((HA.out.below ((Below.refl _ _).alloc (Nat.le_refl _) _ |>.trans (HB1.out.mono (by simp)))))
  have fin : ∀ w2 w3 : World, Below w1.heap.size w1 w2 → Below w2.heap.size w2 w3 → Below w.heap.size w w3 := fun w2 w3 h2 h3 => (hbx.out.trans (HB1.out.mono (by simp))).trans ((h2.trans (h3.mono h2.size)).mono (by omega))
  have FIN := Lib.hid fin
  clear fin
  rcases hmax with m1 | ⟨m1, m2, m3⟩ <;> rcases hname with n1 | ⟨n1, n2⟩
  all_goals
    go_wp2_with fail
    refine hris.out.mono ?_
    rintro e w2 ⟨rfl, hb2⟩
    have cc5 := (hb2.cell (p := ⟨w.heap.size, 5, none⟩) (show w.heap.size < w1.heap.size by omega)).trans c5
    have hA2 := Lib.hid (hA1.out.below (hb2.mono (by omega)))
    have HB2 := Lib.hid hb2
    clear hb2
    go_wp2_with fail
    refine (contains_of hA2.out hl1 (by omega) c totalName).mono ?_
    rintro e w' ⟨rfl, rfl⟩
    cases ht : Lib.containsS ab totalName
    · go_wp2
      go_ret
      exact ⟨rfl, FIN.out _ _ HB2.out (Below.refl _ _)⟩
    · have hp := HT.out ht
      go_wp2_with fail
      refine (contains_of hA2.out hl1 (by omega) c pureName).mono ?_
      rintro e w' ⟨rfl, rfl⟩
      rw [hp]
      go_wp2
      go_ret
      exact ⟨rfl, FIN.out _ _ HB2.out (Below.refl _ _)⟩

theorem kit_May (r : RowD) (hr : r.ok) (A : Option Addr) (c : Nat) (w : World) (hA : NamesIn w (· < w.heap.size) r.abil A) :
    Calls Tryz.prog 72 #[r.val A c] w (Bel .nilIface w) := by
  have HA := Lib.hid hA
  have HR := Lib.hid hr
  have hbx : Hid (Below w.heap.size w (w.alloc (.cells #[.string r.kind, .int .i64 r.min, .int .i64 r.max, .bool r.num, .int .i64 r.text, .slice A r.abil.length c] 81))) := (Below.refl _ _).alloc (Nat.le_refl _) _
  have hm := Lib.hid (kit_may r hr A c (w.alloc (.cells #[.string r.kind, .int .i64 r.min, .int .i64 r.max, .bool r.num, .int .i64 r.text, .slice A r.abil.length c] 81)) ((HA.out.below hbx.out).keep (fun _ _ _ => rfl) (fun b hb => by have : b < w.heap.size := hb; simp; omega)))
  clear hA hr
  unfold RowD.val at *
  go_enter Tryz.func72, Tryz.ntmps72
  go_wp2_with fail
  refine hm.out.mono ?_
  rintro e w1 ⟨rfl, hb1⟩
  have HB := Lib.hid (hbx.out.trans (hb1.mono (by simp)))
  clear hb1
  go_wp2_with (go_at_call 70; refine (fault_none _).mono ?_; rintro e w' ⟨rfl, rfl⟩)
  go_ret
  exact ⟨rfl, HB.out⟩

end Go.Proofs.YthjpphojddbbmaaGreatDoor
