/-
  espalierlaw11.light: a walk. Printed by a program of mine (gen_works.py). Conditions: the values lie in memory.
-/
import Derived.Test.YtcldbjgikkfnbaaGreatDoorCPlFits
namespace Go.Proofs.YtcldbjgikkfnbaaGreatDoor
open Go.RowKit
set_option linter.unusedVariables false

def LightPost11 (ps : List Pl) (w : World) (e : Ending) (w' : World) : Prop := ∃ q, e = .returned (.bool q) ∧ (q = true → ps.length ≤ 2000 ∧ ∀ p ∈ ps, p.isLight = true) ∧ Below w.heap.size w w'
set_option maxRecDepth 100000 in
set_option maxHeartbeats 4000000 in
theorem law11_light (ps : List Pl) (A : Option Addr) (c : Nat) (w : World) (hlen : ps.length * 56 ≤ 140737488351232) (hl : Pls.lies w w.heap.size ps A) :
    Calls Tryz.prog 11 #[.slice A ps.length c] w (LightPost11 ps w) := by
  have HL := Lib.hid hl
  clear hl
  go_enter Tryz.func11, Tryz.ntmps11
  go_wp2
  go_loopw [3, 4] (fun s3 s4 wr => ∃ (k : Nat), k ≤ ps.length ∧ s3 = .int .i64 (k : Int) ∧ s4 = .int .i64 (k : Int) ∧ k ≤ 2000 ∧ (∀ p ∈ ps.take k, p.isLight = true) ∧ Below w.heap.size w wr) (fun _ s4 _ => ps.length - (intOf s4).toNat)
  case atStart => exact ⟨0, Nat.zero_le _, rfl, rfl, by omega, by simp, Below.refl _ _⟩
  case round =>
    obtain ⟨k, hk, rfl, rfl, hk2, hlt1, hbel⟩ := hrel
    have HT := Lib.hid hlt1
    have HB := Lib.hid hbel
    have hws : w.heap.size ≤ wr.heap.size := hbel.size
    clear hlt1 hbel
    by_cases hlt : k < ps.length
    · obtain ⟨b', o', rfl⟩ := HL.out.head (by omega)
      have hlies := (HL.out.below HB.out (by omega : w.heap.size ≤ wr.heap.size)).at_ k hlt
      have hsn := Lib.hid hlies.sane
      obtain ⟨hbb, e0, e1, e2, hlen2, A', c', e3, hll⟩ := hlies.parts
      have KL := Lib.hid (law2_Light ps[k] A' c' wr hsn.out.2.2.1 hsn.out.2.2.2 (hll.below (Below.refl _ _) (Nat.le_refl _)))
      have HT3 := Lib.hid (fun (h : ps[k].isLight = true) => show ∀ p ∈ ps.take (k + 1), p.isLight = true by
        rw [List.take_succ_eq_append_getElem hlt]
        intro p hp
        rcases List.mem_append.1 hp with h1 | h1
        · exact HT.out p h1
        · rw [List.mem_singleton.1 h1]; exact h)
      generalize hp : ps[k] = p at *
      clear hlies hp hll
      unfold Pl.arg at KL
      cases hi : p.isLight
      · rw [hi] at KL
        go_wp2_with fail
        refine KL.out.mono ?_
        rintro e w1 ⟨rfl, hb1⟩
        have HB1 := Lib.hid (HB.out.trans (hb1.mono hws))
        clear hb1 e0 e1 e2 e3 KL
        go_wp2
        go_ret
        exact ⟨false, rfl, by simp, HB1.out⟩
      · rw [hi] at KL
        have HT4 := Lib.hid (HT3.out hi)
        go_wp2_with fail
        refine KL.out.mono ?_
        rintro e w1 ⟨rfl, hb1⟩
        have HB1 := Lib.hid (HB.out.trans (hb1.mono hws))
        clear hb1 e0 e1 e2 e3 KL
        by_cases h2k : k + 1 ≤ 2000
        · have h2k' : decide ((2000 : Int) < (k : Int) + 1) = false := by simp; omega
          go_wp2
          go_roundw
          case rel => exact ⟨k + 1, by omega, by go_num, by go_num, h2k, HT4.out, HB1.out⟩
          case measure => simp [intOf]; omega
        · have h2k' : decide ((2000 : Int) < (k : Int) + 1) = true := by simp; omega
          go_wp2
          go_ret
          exact ⟨false, rfl, by simp, HB1.out⟩
    · have hkl : k = ps.length := by omega
      go_wp2
      go_ret
      refine ⟨true, rfl, fun _ => ⟨by omega, fun p hp => HT.out p ?_⟩, HB.out⟩
      rw [hkl, List.take_length]
      exact hp
end Go.Proofs.YtcldbjgikkfnbaaGreatDoor
