/-
  espalierlaw3.names: a walk, for every call about names. Written by a program of mine (gen_names.py). Conditions: a text of at most 2^20 bytes; the library's variables are laid.
-/
import Derived.Test.YthkofiakfmijiaaDoorRefKind
namespace Go.Proofs.YthkofiakfmijiaaDoor
open Go.RowKit
set_option linter.unusedVariables false

theorem str_same (s : ByteArray) : (s.toList == s.toList) = true := by simp
theorem law_texts_same (A A2 : Option Addr) (l : List ByteArray) (c c2 : Nat) (w : World) (hl : l.length ≤ 140737488355328) (hR : Rd w w.heap.size A (l.map vS)) (hR2 : Rd w w.heap.size A2 (l.map vS)) :
    Calls Tryd.prog 19 #[.slice A l.length c, .slice A2 l.length c2] w (Bel (.bool true) w) := by
  have := law_texts A A2 l l c c2 w hl hl hR hR2
  rwa [decide_eq_true (rfl : l = l)] at this
theorem law_ints_same (A A2 : Option Addr) (l : List Int) (c c2 : Nat) (w : World) (hl : l.length ≤ 140737488355328) (hR : RdI w w.heap.size A l) (hR2 : RdI w w.heap.size A2 l) :
    Calls Tryd.prog 26 #[.slice A l.length c, .slice A2 l.length c2] w (Bel (.bool true) w) := by
  have := law_ints A A2 l l c c2 w hl hl hR hR2
  rwa [decide_eq_true (rfl : l = l)] at this
/-- A call's cells. -/
def opCells (k : Int) (s f f2 : ByteArray) (A A2 : Option Addr) (n n2 c c2 : Nat) : Array Value := #[.int .i64 k, .string s, .string f, .slice A n c, .string f2, .slice A2 n2 c2]
set_option maxRecDepth 100000 in
set_option maxHeartbeats 8000000 in
theorem law_names (k : Int) (s f f2 : ByteArray) (A A2 : Option Addr) (n n2 c c2 : Nat) (w : World) (hs : s.size ≤ 1048576) (hS : Sg w) :
    Calls Tryd.prog 21 #[.agg (opCells k s f f2 A A2 n n2 c c2)] w (Bel (.bool true) w) := by
  have hs2 : s.size ≤ 140737488351232 := by omega
  have HB0 := Lib.hid (show Below w.heap.size w (w.alloc (.cells (opCells k s f f2 A A2 n n2 c c2) 29)) from (Below.refl _ _).alloc (Nat.le_refl _) _)
  have HX0 := Lib.hid (heap_alloc_new w (.cells (opCells k s f f2 A A2 n n2 c c2) 29))
  have hz0 : w.heap.size < (w.alloc (.cells (opCells k s f f2 A A2 n n2 c c2) 29)).heap.size := by simp
  generalize hw0 : w.alloc (.cells (opCells k s f f2 A A2 n n2 c c2) 29) = w0 at *
  have HW0 := Lib.hid hw0
  have HS := Lib.hid (hS.below HB0.out)
  have q0 : w0.cell? ⟨w.heap.size, 0, none⟩ = some (.int .i64 k) := cell_of_row _ _ 0 _ _ _ HX0.out
  have q1 : w0.cell? ⟨w.heap.size, 1, none⟩ = some (.string s) := cell_of_row _ _ 1 _ _ _ HX0.out
  clear hw0 hS
  by_cases h1 : k = 1
  · obtain ⟨a, b, ok, hv⟩ : ∃ a b ok, kindV s = (a, b, ok) := ⟨_, _, _, rfl⟩
    have K1 := Lib.hid (sign_Kind s w0 hs2)
    have K2 : Hid (∀ w1, Calls Tryd.prog 43 #[.string s] w1 (Bel (cutT (kindV s)) w1)) := Lib.hid fun w1 => ref_Kind s w1 hs2
    rw [hv] at K1 K2
    have e1 := str_same a
    have e2 := str_same b
    have hk : (k == 1) = true := by simpa using h1
    clear h1 hv
    unfold opCells
    go_enter Tryd.func21, Tryd.ntmps21
    go_wp2_with fail
    have HWW := HW0.out
    unfold opCells at HWW
    rw [HWW]
    clear HWW
    go_wp2_with fail
    refine K1.out.mono ?_
    rintro e w1 ⟨rfl, hb⟩
    have HB1 := Lib.hid (HB0.out.trans (hb.mono HB0.out.size))
    have q1 : w1.cell? ⟨w.heap.size, 1, none⟩ = some (.string s) := (hb.cell (p := ⟨w.heap.size, 1, none⟩) hz0).trans q1
    clear hb
    unfold cutT
    go_wp2_with fail
    refine (K2.out _).mono ?_
    rintro e w2 ⟨rfl, hb⟩
    have HB2 := Lib.hid (HB1.out.trans (hb.mono HB1.out.size))
    clear hb
    unfold cutT
    go_wp2
    go_ret
    exact ⟨by simp, HB2.out⟩
  by_cases h2 : k = 2
  · have hk : (k == 2) = true := by simpa using h2
    have E0 := Ext.cell q1
    have C1 := Lib.hid (fun x : Ext w0 => sign_Word s x.now hs2)
    have C2 := Lib.hid (fun x : Ext w0 => ref_Word s x.now hs2)
    have k1 : (k == 1) = false := by simpa using h1
    clear h1 h2
    unfold opCells
    go_enter Tryd.func21, Tryd.ntmps21
    go_wp2_with fail
    have HWW := HW0.out
    unfold opCells at HWW
    rw [HWW]
    clear HWW
    go_wp2
    refine wp_region_ext (by kernel_rfl) (by kernel_rfl) ?_
    go_big_quiet_step (fail)
    go_big_quiet_step (fail)
    go_big_quiet_step ((go_at_call 15; exact Calls.ext_of (C1.out _)))
    go_big_quiet_step (fail)
    go_big_quiet_step (fail)
    go_big_quiet_step ((go_at_call 44; exact Calls.ext_of_same (C2.out _)))
    go_big_quiet_step (fail)
    go_big_quiet_step (fail)
    refine wpQuiet_nil ?_
    rintro _ ⟨z, rfl⟩
    have HZ := Lib.hid (HB0.out.trans (z.ok.mono HB0.out.size))
    clear E0
    go_wp2
    go_ret
    exact ⟨by simp, HZ.out⟩
  by_cases h3 : k = 3
  · have hk : (k == 3) = true := by simpa using h3
    have E0 := Ext.cell q1
    have C1 := Lib.hid (fun x : Ext w0 => sign_Name s x.now hs2)
    have C2 := Lib.hid (fun x : Ext w0 => ref_Name s x.now hs2)
    have k1 : (k == 1) = false := by simpa using h1
    have k2 : (k == 2) = false := by simpa using h2
    clear h1 h2 h3
    unfold opCells
    go_enter Tryd.func21, Tryd.ntmps21
    go_wp2_with fail
    have HWW := HW0.out
    unfold opCells at HWW
    rw [HWW]
    clear HWW
    go_wp2
    refine wp_region_ext (by kernel_rfl) (by kernel_rfl) ?_
    go_big_quiet_step (fail)
    go_big_quiet_step (fail)
    go_big_quiet_step ((go_at_call 16; exact Calls.ext_of (C1.out _)))
    go_big_quiet_step (fail)
    go_big_quiet_step (fail)
    go_big_quiet_step ((go_at_call 45; exact Calls.ext_of_same (C2.out _)))
    go_big_quiet_step (fail)
    go_big_quiet_step (fail)
    refine wpQuiet_nil ?_
    rintro _ ⟨z, rfl⟩
    have HZ := Lib.hid (HB0.out.trans (z.ok.mono HB0.out.size))
    clear E0
    go_wp2
    go_ret
    exact ⟨by simp, HZ.out⟩
  by_cases h4 : k = 4
  · have hk : (k == 4) = true := by simpa using h4
    have E0 := Ext.cell q1
    have C1 := Lib.hid (fun x : Ext w0 => sign_Use s x.now hs2)
    have C2 := Lib.hid (fun x : Ext w0 => ref_Use s x.now hs2)
    have k1 : (k == 1) = false := by simpa using h1
    have k2 : (k == 2) = false := by simpa using h2
    have k3 : (k == 3) = false := by simpa using h3
    clear h1 h2 h3 h4
    unfold opCells
    go_enter Tryd.func21, Tryd.ntmps21
    go_wp2_with fail
    have HWW := HW0.out
    unfold opCells at HWW
    rw [HWW]
    clear HWW
    go_wp2
    refine wp_region_ext (by kernel_rfl) (by kernel_rfl) ?_
    go_big_quiet_step (fail)
    go_big_quiet_step (fail)
    go_big_quiet_step ((go_at_call 17; exact Calls.ext_of (C1.out _)))
    go_big_quiet_step (fail)
    go_big_quiet_step (fail)
    go_big_quiet_step ((go_at_call 46; exact Calls.ext_of_same (C2.out _)))
    go_big_quiet_step (fail)
    go_big_quiet_step (fail)
    refine wpQuiet_nil ?_
    rintro _ ⟨z, rfl⟩
    have HZ := Lib.hid (HB0.out.trans (z.ok.mono HB0.out.size))
    clear E0
    go_wp2
    go_ret
    exact ⟨by simp, HZ.out⟩
  have k1 : (k == 1) = false := by simpa using h1
  have k2 : (k == 2) = false := by simpa using h2
  have k3 : (k == 3) = false := by simpa using h3
  have k4 : (k == 4) = false := by simpa using h4
  have N1 := Lib.hid (sign_Names s w0 (by omega) HS.out)
  have N2 : Hid (∀ w1, Calls Tryd.prog 47 #[.string s] w1 (NP (namesV s) w1)) := Lib.hid fun w1 => ref_Names s w1 hs
  have hbl : (blanksL s).length ≤ 140737488355328 := by have := cutL_len s 32; rw [cutL_blanks] at this; omega
  have hnv : Hid (∀ L, namesV s = some L → L.length ≤ 140737488355328) := Lib.hid fun L hL => by
    unfold namesV at hL
    split at hL
    · cases hL; exact Nat.zero_le _
    · split at hL
      · cases hL; exact hbl
      · cases hL
  clear h1 h2 h3 h4 hbl
  unfold opCells
  go_enter Tryd.func21, Tryd.ntmps21
  go_wp2_with fail
  have HWW := HW0.out
  unfold opCells at HWW
  rw [HWW]
  clear HWW
  go_wp2_with fail
  refine N1.out.mono ?_
  rintro e w1 ⟨hb, hc1⟩
  have HB1 := Lib.hid (HB0.out.trans (hb.mono HB0.out.size))
  have q1 : w1.cell? ⟨w.heap.size, 1, none⟩ = some (.string s) := (hb.cell (p := ⟨w.heap.size, 1, none⟩) hz0).trans q1
  clear hb
  cases hL : namesV s with
  | none =>
    rw [hL] at hc1 N2
    simp only at hc1
    subst hc1
    clear hL
    go_wp2_with fail
    refine (N2.out _).mono ?_
    rintro e w2 ⟨hb, hc2⟩
    simp only at hc2
    subst hc2
    have HB2 := Lib.hid (HB1.out.trans (hb.mono HB1.out.size))
    have KT := Lib.hid (law_texts_same none none [] 0 0 w2 (by decide) Rd.nil Rd.nil)
    clear hb
    go_wp2_with fail
    refine KT.out.mono ?_
    rintro e w3 ⟨rfl, hb⟩
    have HB3 := Lib.hid (HB2.out.trans (hb.mono HB2.out.size))
    clear hb
    go_wp2
    go_ret
    exact ⟨rfl, HB3.out⟩
  | some L =>
    have hLl := hnv.out L hL
    rw [hL] at hc1 N2
    obtain ⟨A8, c8, rfl, hr8⟩ := hc1
    have HR8 := Lib.hid hr8
    clear hL hr8
    go_wp2_with fail
    refine (N2.out _).mono ?_
    rintro e w2 ⟨hb, hc2⟩
    obtain ⟨A9, c9, rfl, hr9⟩ := hc2
    have HB2 := Lib.hid (HB1.out.trans (hb.mono HB1.out.size))
    have KT := Lib.hid (law_texts_same A8 A9 L c8 c9 w2 hLl (Rd.next HR8.out hb) hr9)
    clear hb hr9
    go_wp2_with fail
    refine KT.out.mono ?_
    rintro e w3 ⟨rfl, hb⟩
    have HB3 := Lib.hid (HB2.out.trans (hb.mono HB2.out.size))
    clear hb
    go_wp2
    go_ret
    exact ⟨rfl, HB3.out⟩
end Go.Proofs.YthkofiakfmijiaaDoor
