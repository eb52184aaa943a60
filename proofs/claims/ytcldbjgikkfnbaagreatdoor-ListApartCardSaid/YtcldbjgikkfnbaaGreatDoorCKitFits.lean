/-
  kit.texts, kit.fits of a node that fits its row: walks. Conditions: the row may be; its text is as the row asks.
-/
import Derived.Test.YtcldbjgikkfnbaaGreatDoorCKitNewA
import Derived.Test.YtcldbjgikkfnbaaGreatDoorCKitMay
import Derived.Test.YtcldbjgikkfnbaaGreatDoorCSignWord
namespace Go.Proofs.YtcldbjgikkfnbaaGreatDoor
open Go.RowKit
set_option linter.unusedVariables false

/-- A text that a row without a text, or with a name, lets in. -/
def textB (r : RowD) (s : ByteArray) : Bool := (decide (r.text = 0) && decide (s = ⟨#[]⟩)) || (decide (r.text = 2) && nameB s)
theorem kit_texts (r : RowD) (s : ByteArray) (h : textB r s = true) (hs : s.size ≤ 140737488351232) (n : Int) (A : Option Addr) (c : Nat) (w : World) :
    Calls Tryz.prog 99 #[r.val A c, .string s, .int .i64 n] w (Bel (.bool true) w) := by
  have H0 := Lib.hid ((Below.refl w.heap.size w).alloc (Nat.le_refl _) (.cells #[.string r.kind, .int .i64 r.min, .int .i64 r.max, .bool r.num, .int .i64 r.text, .slice A r.abil.length c] 123))
  unfold RowD.val
  unfold textB at h
  rw [Bool.or_eq_true] at h
  rcases h with h | h
  · simp only [Bool.and_eq_true, decide_eq_true_eq] at h
    obtain ⟨ht, rfl⟩ := h
    have ht0 : (r.text == 0) = true := by simpa using ht
    clear ht
    generalize r.text = x at *
    go_enter Tryz.func99, Tryz.ntmps99
    go_wp2
    go_ret
    exact ⟨rfl, H0.out⟩
  · simp only [Bool.and_eq_true, decide_eq_true_eq] at h
    obtain ⟨ht, hn⟩ := h
    have KN := Lib.hid (sign_Name s (w.alloc (.cells #[.string r.kind, .int .i64 r.min, .int .i64 r.max, .bool r.num, .int .i64 r.text, .slice A r.abil.length c] 123)) hs)
    rw [hn] at KN
    have ht0 : (r.text == 0) = false := by simp [ht]
    have ht2 : (r.text == 2) = true := by simpa using ht
    clear ht hn
    generalize r.text = x at *
    go_enter Tryz.func99, Tryz.ntmps99
    go_wp2_with fail
    refine KN.out.mono ?_
    rintro e w1 ⟨rfl, hb⟩
    have H1 := Lib.hid (H0.out.trans (hb.mono H0.out.size))
    clear hb
    go_wp2
    go_ret
    exact ⟨rfl, H1.out⟩
set_option maxRecDepth 100000 in
set_option maxHeartbeats 4000000 in
theorem kit_fits (r : RowD) (hr : r.ok) (s : ByteArray) (h : textB r s = true) (hs : s.size ≤ 16384) (n : Nat) (hmin : r.min ≤ (n : Int)) (hmax : r.max = -1 ∨ (n : Int) ≤ r.max) (A : Option Addr) (c : Nat) (T : Value) (hT : ∃ A0 n0 c0, T = .slice A0 n0 c0) (w : World) (hA : NamesIn w (· < w.heap.size) r.abil A) :
    Calls Tryz.prog 74 #[r.val A c, .agg #[.string r.kind, .int .i64 0, .string s, T], .int .i64 (n : Int)] w (Bel (.int .i64 0) w) := by
  obtain ⟨A0, n0, c0, rfl⟩ := hT
  have H0 := Lib.hid (((Below.refl w.heap.size w).alloc (Nat.le_refl _) (.cells #[.string r.kind, .int .i64 r.min, .int .i64 r.max, .bool r.num, .int .i64 r.text, .slice A r.abil.length c] 123)).alloc (by simp) (.cells #[.string r.kind, .int .i64 0, .string s, .slice A0 n0 c0] 65))
  have KM := Lib.hid (kit_may r hr A c _ ((hA.below H0.out).keep (fun _ _ _ => rfl) (fun b hb => Nat.lt_of_lt_of_le hb H0.out.size)))
  have KT := Lib.hid (fun w' => kit_texts r s h (by omega) n A c w')
  have hsz : decide ((16384 : Int) < (s.size : Int)) = false := by simp; omega
  have hmn : decide ((n : Int) < r.min) = false := by simp; omega
  have hkk := bytes_same r.kind
  have hkn : (r.kind != r.kind) = false := by simp [bne, hkk]
  unfold RowD.val at KM KT ⊢
  clear hA h hmin hr
  generalize r.kind = rk at *
  generalize r.min = rmin at *
  generalize r.num = rnum at *
  generalize r.text = rtext at *
  generalize r.abil.length = ra at *
  rcases hmax with hm | hm
  · have hm1 : (r.max != -1) = false := by simp [hm]
    clear hm
    generalize r.max = rmax at *
    go_enter Tryz.func74, Tryz.ntmps74
    go_wp2_with fail
    refine KM.out.mono ?_
    rintro e w1 ⟨rfl, hb⟩
    have H1 := Lib.hid (H0.out.trans (hb.mono H0.out.size))
    have hx1 := (hb.block w.heap.size (by simp; omega)).trans (heap_alloc2 w _ _).1
    have hx2 := (hb.block (w.heap.size + 1) (by simp)).trans (heap_alloc2 w _ _).2
    have r1 := fun j => show w1.cell? ⟨w.heap.size, j, none⟩ = (#[.string rk, .int .i64 rmin, .int .i64 rmax, .bool rnum, .int .i64 rtext, .slice A ra c] : Array Value)[j]? by simp [World.cell?, hx1]
    have t1 := fun j => show w1.cell? ⟨w.heap.size + 1, j, none⟩ = (#[.string rk, .int .i64 0, .string s, .slice A0 n0 c0] : Array Value)[j]? by simp [World.cell?, hx2]
    clear hb hx1 hx2 KM
    go_wp2_with fail
    refine (KT.out _).mono ?_
    rintro e w2 ⟨rfl, hb2⟩
    have H2 := Lib.hid (H1.out.trans (hb2.mono H1.out.size))
    clear hb2
    go_wp2
    go_ret
    exact ⟨rfl, H2.out⟩
  · have hm2 : decide (r.max < (n : Int)) = false := by simp; omega
    have hm1 : (r.max != -1) = true := by simp; omega
    clear hm
    generalize r.max = rmax at *
    go_enter Tryz.func74, Tryz.ntmps74
    go_wp2_with fail
    refine KM.out.mono ?_
    rintro e w1 ⟨rfl, hb⟩
    have H1 := Lib.hid (H0.out.trans (hb.mono H0.out.size))
    have hx1 := (hb.block w.heap.size (by simp; omega)).trans (heap_alloc2 w _ _).1
    have hx2 := (hb.block (w.heap.size + 1) (by simp)).trans (heap_alloc2 w _ _).2
    have r1 := fun j => show w1.cell? ⟨w.heap.size, j, none⟩ = (#[.string rk, .int .i64 rmin, .int .i64 rmax, .bool rnum, .int .i64 rtext, .slice A ra c] : Array Value)[j]? by simp [World.cell?, hx1]
    have t1 := fun j => show w1.cell? ⟨w.heap.size + 1, j, none⟩ = (#[.string rk, .int .i64 0, .string s, .slice A0 n0 c0] : Array Value)[j]? by simp [World.cell?, hx2]
    clear hb hx1 hx2 KM
    go_wp2_with fail
    refine (KT.out _).mono ?_
    rintro e w2 ⟨rfl, hb2⟩
    have H2 := Lib.hid (H1.out.trans (hb2.mono H1.out.size))
    clear hb2
    go_wp2
    go_ret
    exact ⟨rfl, H2.out⟩
end Go.Proofs.YtcldbjgikkfnbaaGreatDoor
