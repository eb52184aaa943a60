/-
  Texts of a proof in one: KitMay, KitCopied. Conditions: each names its own.
-/
import Derived.Test.YthjpphojddbbmaaGreatDoorCSignKind
import Derived.Test.YthjpphojddbbmaaGreatDoorCBase
import Derived.Laws.ResultCell
/-
  kit.may, kit.May, kit.copied on rows that may be: walks. Conditions: the row is one that may be.
-/
namespace Go.Proofs.YthjpphojddbbmaaGreatDoor
open Go.RowKit
set_option linter.unusedVariables false

def totalName : ByteArray := ⟨#[84, 111, 116, 97, 108]⟩
def pureName : ByteArray := ⟨#[80, 117, 114, 101]⟩
/-- A row that may be. -/
structure RowD.ok (r : RowD) : Prop where
  kind : (kindV r.kind).2.2 = true
  size : r.kind.size ≤ 140737488351232
  min0 : 0 ≤ r.min
  min1 : r.min ≤ 1023
  max : r.max = -1 ∨ (r.min ≤ r.max ∧ r.max ≤ 1023)
  text0 : 0 ≤ r.text
  text1 : r.text ≤ 4
  names : r.text = 3 → r.min ≠ 0
  len : 0 < r.abil.length ∧ r.abil.length ≤ 140737488351
  rising : risingF r.abil (-1) = true
  total : Lib.containsS r.abil totalName = true → Lib.containsS r.abil pureName = true
def RowD.val (r : RowD) (A : Option Addr) (c : Nat) : Value := .agg #[.string r.kind, .int .i64 r.min, .int .i64 r.max, .bool r.num, .int .i64 r.text, .slice A r.abil.length c]

theorem contains_of {w : World} {S : Nat → Prop} {l : List ByteArray} {A : Option Addr} (h : NamesIn w S l A) (h0 : 0 < l.length) (hlen : l.length ≤ 9223372036854775807) (c : Nat) (x : ByteArray) :
    Calls Tryz.prog 117 #[.slice A l.length c, .string x] w fun e w' => e = .returned (.bool (Lib.containsS l x)) ∧ w = w' := by
  obtain ⟨b, o, rfl, hb, hc⟩ := h h0
  refine (Tryz.slices_Contains_string b o l.length c l x w (Nat.le_refl _) hlen hc).mono ?_
  rintro e w' ⟨rfl, rfl⟩
  rw [List.take_length]
  exact ⟨rfl, rfl⟩

theorem triple_true (t : ByteArray × ByteArray × Bool) (h : t.2.2 = true) : ∃ a b, t = (a, b, true) := by obtain ⟨x, y, z⟩ := t; simp at h; subst h; exact ⟨x, y, rfl⟩

set_option maxRecDepth 100000 in
set_option maxHeartbeats 4000000 in
theorem kit_may (r : RowD) (hr : r.ok) (A : Option Addr) (c : Nat) (w : World) (hA : NamesIn w (· < w.heap.size) r.abil A) :
    Calls Tryz.prog 92 #[r.val A c] w (Bel (.int .i64 0) w) := by
  have HA := Lib.hid hA
  have hk := Lib.hid (sign_Kind r.kind (w.alloc (.cells #[.string r.kind, .int .i64 r.min, .int .i64 r.max, .bool r.num, .int .i64 r.text, .slice A r.abil.length c] 81)) hr.size)
  have hkk := Lib.hid hr.kind
  obtain ⟨k1, k2, hkv⟩ : ∃ a b, kindV r.kind = (a, b, true) := triple_true _ hr.kind
  have HKV := Lib.hid hkv
  have HR := Lib.hid hr.rising
  have HT := Lib.hid hr.total
  have hl1 := hr.len.1
  have hl2 := hr.len.2
  have g1 := hr.min0
  have g2 := hr.min1
  have g4 := hr.text0
  have g5 := hr.text1
  have hmx := Lib.hid hr.max
  have hnm := Lib.hid hr.names
  obtain ⟨kind, mn, mx, nm, tx, ab⟩ := r
  simp only at *
  clear hA hr hkv
  have d1 : decide (mn < 0) = false := by simpa using g1
  have d2 : decide (tx < 0) = false := by simpa using g4
  have d3 : decide (4 < tx) = false := by simpa using g5
  have hbx : Hid (Below w.heap.size w (w.alloc (.cells #[.string kind, .int .i64 mn, .int .i64 mx, .bool nm, .int .i64 tx, .slice A ab.length c] 81))) := (Below.refl _ _).alloc (Nat.le_refl _) _
  unfold RowD.val
  go_enter Tryz.func92, Tryz.ntmps92
  go_wp2_with fail
  refine hk.out.mono ?_
  rintro e w1 ⟨rfl, hb1⟩
  rw [HKV.out]
  unfold cutT
  have c1 := box_cell hb1 (by simp) 1
  have c2 := box_cell hb1 (by simp) 2
  have c4 := box_cell hb1 (by simp) 4
  have c5 := box_cell hb1 (by simp) 5
  simp at c1 c2 c4 c5
  have HB1 := Lib.hid hb1
  have hs1 := hb1.size
  rw [size_alloc] at hs1
  clear hb1
  have hmax : (mx != -1) = false ∨ ((mx != -1) = true ∧ decide (mx < mn) = false ∧ decide (1023 < mx) = false) := by
    by_cases h : mx = -1
    · exact .inl (by simpa using h)
    · rcases hmx.out with h' | h'
      · exact absurd h' h
      · exact .inr ⟨by simpa using h, by simp; omega, by simp; omega⟩
  have hname : (tx == 3) = false ∨ ((tx == 3) = true ∧ (mn == 0) = false) := by
    by_cases h : tx = 3
    · exact .inr ⟨by simpa using h, by simpa using hnm.out h⟩
    · exact .inl (by simpa using h)
  have hris := Lib.hid (kit_rising ab A c w1 (by omega) ((HA.out.below ((Below.refl _ _).alloc (Nat.le_refl _) _ |>.trans (HB1.out.mono (by simp)))).keep (fun _ _ _ => rfl) (fun b hb => by have : b < w.heap.size := hb; show b < w1.heap.size; omega)) HR.out)
  have hA1 := Lib.hid ((HA.out.below ((Below.refl _ _).alloc (Nat.le_refl _) _ |>.trans (HB1.out.mono (by simp)))))
  have fin : ∀ w2 w3 : World, Below w1.heap.size w1 w2 → Below w2.heap.size w2 w3 → Below w.heap.size w w3 := fun w2 w3 h2 h3 => (hbx.out.trans (HB1.out.mono (by simp))).trans ((h2.trans (h3.mono h2.size)).mono (by omega))
  have FIN := Lib.hid fin
  clear fin
  rcases hmax with m1 | ⟨m1, m2, m3⟩ <;> rcases hname with n1 | ⟨n1, n2⟩
  all_goals
    go_wp2_with fail
    refine hris.out.mono ?_
    rintro e w2 ⟨rfl, hb2⟩
    have cc5 := (hb2.cell (p := ⟨w.heap.size, 5, none⟩) (show w.heap.size < w1.heap.size by omega)).trans c5
    have hA2 := Lib.hid (hA1.out.below (hb2.mono (by omega)))
    have HB2 := Lib.hid hb2
    clear hb2
    go_wp2_with fail
    refine (contains_of hA2.out hl1 (by omega) c totalName).mono ?_
    rintro e w' ⟨rfl, rfl⟩
    cases ht : Lib.containsS ab totalName
    · go_wp2
      go_ret
      exact ⟨rfl, FIN.out _ _ HB2.out (Below.refl _ _)⟩
    · have hp := HT.out ht
      go_wp2_with fail
      refine (contains_of hA2.out hl1 (by omega) c pureName).mono ?_
      rintro e w' ⟨rfl, rfl⟩
      rw [hp]
      go_wp2
      go_ret
      exact ⟨rfl, FIN.out _ _ HB2.out (Below.refl _ _)⟩

theorem kit_May (r : RowD) (hr : r.ok) (A : Option Addr) (c : Nat) (w : World) (hA : NamesIn w (· < w.heap.size) r.abil A) :
    Calls Tryz.prog 72 #[r.val A c] w (Bel .nilIface w) := by
  have HA := Lib.hid hA
  have HR := Lib.hid hr
  have hbx : Hid (Below w.heap.size w (w.alloc (.cells #[.string r.kind, .int .i64 r.min, .int .i64 r.max, .bool r.num, .int .i64 r.text, .slice A r.abil.length c] 81))) := (Below.refl _ _).alloc (Nat.le_refl _) _
  have hm := Lib.hid (kit_may r hr A c (w.alloc (.cells #[.string r.kind, .int .i64 r.min, .int .i64 r.max, .bool r.num, .int .i64 r.text, .slice A r.abil.length c] 81)) ((HA.out.below hbx.out).keep (fun _ _ _ => rfl) (fun b hb => by have : b < w.heap.size := hb; simp; omega)))
  clear hA hr
  unfold RowD.val at *
  go_enter Tryz.func72, Tryz.ntmps72
  go_wp2_with fail
  refine hm.out.mono ?_
  rintro e w1 ⟨rfl, hb1⟩
  have HB := Lib.hid (hbx.out.trans (hb1.mono (by simp)))
  clear hb1
  go_wp2_with (go_at_call 70; refine (fault_none _).mono ?_; rintro e w' ⟨rfl, rfl⟩)
  go_ret
  exact ⟨rfl, HB.out⟩

end Go.Proofs.YthjpphojddbbmaaGreatDoor

/-
  kit.copied: a walk. Conditions: the row lies in memory.
-/
namespace Go.Proofs.YthjpphojddbbmaaGreatDoor
open Go.RowKit
set_option linter.unusedVariables false

/-- A row in memory of its own. -/
def CopiedPost (r : RowD) (w : World) (e : Ending) (w' : World) : Prop := ∃ A c, e = .returned (r.val A c) ∧ NamesIn w' (fresh w w') r.abil A ∧ Below w.heap.size w w'
theorem names_of_own {w : World} {base g0 g1 : Nat} {l : List ByteArray} {v : Value} (h : w.ownsRow base 9 1 v l.length (l.map Value.string)) (h0 : g0 ≤ base) (h1 : w.heap.size ≤ g1) :
    ∃ A c, v = .slice A l.length c ∧ NamesIn w (fun b => g0 ≤ b ∧ b < g1) l A := by
  rcases h.2 with ⟨rfl, h2⟩ | ⟨g, cap, cur, rfl, _⟩
  · exact ⟨none, 0, by rw [h2], fun h => by omega⟩
  · have hlt := h.lt g rfl
    exact ⟨_, _, rfl, fun _ => ⟨g, 0, rfl, ⟨by omega, by omega⟩, fun j hj => by
      rw [Nat.zero_add, h.cellAt j (by omega)]; simp [hj]⟩⟩

set_option maxHeartbeats 400000 in
theorem kit_copied (r : RowD) (h0 : 0 < r.abil.length) (h1 : r.abil.length ≤ 140737488351) (A : Option Addr) (c : Nat) (w : World) (hA : NamesIn w (· < w.heap.size) r.abil A) :
    Calls Tryz.prog 68 #[r.val A c] w (CopiedPost r w) := by
  have HA := Lib.hid hA
  have hbx : Hid (Below w.heap.size w ((w.alloc (.cells #[.string r.kind, .int .i64 r.min, .int .i64 r.max, .bool r.num, .int .i64 r.text, .slice A r.abil.length c] 81)).alloc (.cells #[.string ⟨#[]⟩, .int .i64 0, .int .i64 0, .bool false, .int .i64 0, .slice none 0 0] 81))) := ((Below.refl _ _).alloc (Nat.le_refl _) _).alloc (by simp) _
  obtain ⟨b, o, rfl, hb, hc⟩ := hA h0
  have hcl := Lib.hid (Tryz.slices_Clone_string b o r.abil.length c r.abil ((w.alloc (.cells #[.string r.kind, .int .i64 r.min, .int .i64 r.max, .bool r.num, .int .i64 r.text, .slice (some ⟨b, o, none⟩) r.abil.length c] 81)).alloc (.cells #[.string ⟨#[]⟩, .int .i64 0, .int .i64 0, .bool false, .int .i64 0, .slice none 0 0] 81)) (Nat.le_refl _) (by omega) (fun j hj => (hbx.out.cell (p := ⟨b, o + j, none⟩) hb).trans (hc j hj)))
  clear hA hc
  unfold RowD.val
  go_enter Tryz.func68, Tryz.ntmps68
  go_wp2_with fail
  refine hcl.out.mono ?_
  rintro e w1 ⟨v, rfl, hown, _, hb1⟩
  rw [List.take_length] at hown
  have hsz2 : w.heap.size + 2 ≤ ((w.alloc (.cells #[.string r.kind, .int .i64 r.min, .int .i64 r.max, .bool r.num, .int .i64 r.text, .slice (some ⟨b, o, none⟩) r.abil.length c] 81)).alloc (.cells #[.string ⟨#[]⟩, .int .i64 0, .int .i64 0, .bool false, .int .i64 0, .slice none 0 0] 81)).heap.size := by simp
  obtain ⟨A1, c1, rfl, hA1⟩ := names_of_own hown (g0 := w.heap.size + 2) (g1 := w1.heap.size) hsz2 (Nat.le_refl _)
  have hs1 := hb1.size
  have hg := heap_alloc2 w (.cells #[.string r.kind, .int .i64 r.min, .int .i64 r.max, .bool r.num, .int .i64 r.text, .slice (some ⟨b, o, none⟩) r.abil.length c] 81) (.cells #[.string ⟨#[]⟩, .int .i64 0, .int .i64 0, .bool false, .int .i64 0, .slice none 0 0] 81)
  have b0 := (hb1.block w.heap.size (by simp; omega)).trans hg.1
  have b1 := (hb1.block (w.heap.size + 1) (by simp)).trans hg.2
  have HB := Lib.hid (hbx.out.trans (hb1.mono (by simp; omega)))
  have HA1 := Lib.hid hA1
  have e0 : ∀ j, w1.cell? ⟨w.heap.size, j, none⟩ = (#[.string r.kind, .int .i64 r.min, .int .i64 r.max, .bool r.num, .int .i64 r.text, .slice (some ⟨b, o, none⟩) r.abil.length c] : Array Value)[j]? := fun j => by simp [World.cell?, b0]
  have f0 : ∀ j, w1.cell? ⟨w.heap.size + 1, j, none⟩ = (#[.string ⟨#[]⟩, .int .i64 0, .int .i64 0, .bool false, .int .i64 0, .slice none 0 0] : Array Value)[j]? := fun j => by simp [World.cell?, b1]
  have g0 : ∀ j, w1.frozen? ⟨w.heap.size, j, none⟩ = false := fun j => by simp [World.frozen?, b0]
  have g1 : ∀ j, w1.frozen? ⟨w.heap.size + 1, j, none⟩ = false := fun j => by simp [World.frozen?, b1]
  simp at hs1
  have B1 := Lib.hid b1
  clear hown hb1 hA1 hg b0 b1 hsz2
  go_wp2
  have hres := run_loadVar_row (P := Tryz.prog) _ _ _ 81 _ _ _ (blk_set (blk_set (blk_set (blk_set (blk_set (blk_set (blk_far B1.out (p := ⟨w.heap.size, 5, none⟩) (by simp) (.slice A1 r.abil.length c1)) 0 (.string r.kind)) 1 (.int .i64 r.min)) 2 (.int .i64 r.max)) 3 (.bool r.num)) 4 (.int .i64 r.text)) 5 (.slice A1 r.abil.length c1)) Tryz.underlying81 rfl (by kernel_rfl)
  refine bodyPost_ret (fn := Tryz.f68) (v := r.val A1 c1) ?_ ?_ ?_
  · skip
    refine results_cell (p := 2) (ty := 81) (a := ⟨w.heap.size + 1, 0, none⟩) Tryz.results68 ?_ ?_
    · skip
      rfl
    · skip
      exact hres
  · rfl
  have hsz : (((((((w1.setCell ⟨w.heap.size, 5, none⟩ (.slice A1 r.abil.length c1)).setCell ⟨w.heap.size + 1, 0, none⟩ (.string r.kind)).setCell ⟨w.heap.size + 1, 1, none⟩ (.int .i64 r.min)).setCell ⟨w.heap.size + 1, 2, none⟩ (.int .i64 r.max)).setCell ⟨w.heap.size + 1, 3, none⟩ (.bool r.num)).setCell ⟨w.heap.size + 1, 4, none⟩ (.int .i64 r.text)).setCell ⟨w.heap.size + 1, 5, none⟩ (.slice A1 r.abil.length c1)).heap.size = w1.heap.size := by
    rw [size_set, size_set, size_set, size_set, size_set, size_set, size_set]
  refine ⟨A1, c1, rfl, HA1.out.keep (fun b o hb => ?_) (fun b hb => ⟨by have := hb.1; omega, by rw [hsz]; exact hb.2⟩), ?_⟩
  · skip
    have h2 := hb.1
    have n0 : b ≠ w.heap.size := by omega
    have n1 : b ≠ w.heap.size + 1 := by omega
    rw [cell_far _ _ (p := ⟨w.heap.size + 1, 5, none⟩) n1, cell_far _ _ (p := ⟨w.heap.size + 1, 4, none⟩) n1, cell_far _ _ (p := ⟨w.heap.size + 1, 3, none⟩) n1, cell_far _ _ (p := ⟨w.heap.size + 1, 2, none⟩) n1, cell_far _ _ (p := ⟨w.heap.size + 1, 1, none⟩) n1, cell_far _ _ (p := ⟨w.heap.size + 1, 0, none⟩) n1, cell_far _ _ (p := ⟨w.heap.size, 5, none⟩) n0]
  · skip
    exact (((((((HB.out.setCell (p := ⟨w.heap.size, 5, none⟩) (Nat.le_refl _) _).setCell (p := ⟨w.heap.size + 1, 0, none⟩) (Nat.le_succ _) _).setCell (p := ⟨w.heap.size + 1, 1, none⟩) (Nat.le_succ _) _).setCell (p := ⟨w.heap.size + 1, 2, none⟩) (Nat.le_succ _) _).setCell (p := ⟨w.heap.size + 1, 3, none⟩) (Nat.le_succ _) _).setCell (p := ⟨w.heap.size + 1, 4, none⟩) (Nat.le_succ _) _).setCell (p := ⟨w.heap.size + 1, 5, none⟩) (Nat.le_succ _) _)
end Go.Proofs.YthjpphojddbbmaaGreatDoor
