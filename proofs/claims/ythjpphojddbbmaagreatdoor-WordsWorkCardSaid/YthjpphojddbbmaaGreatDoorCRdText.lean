/-
  espalierref2's reader: escape, text: walks. Conditions: a text of at most 2^20 bytes.
-/
import Derived.Test.YthjpphojddbbmaaGreatDoorCRdNumber
import Derived.Test.YthjpphojddbbmaaGreatDoorCPlFits
import Derived.Laws.IdiomStrings
import Derived.Lib.BufferRead
import Derived.Deep.CutRange
namespace Go.Proofs.YthjpphojddbbmaaGreatDoor
open Go.RowKit
set_option linter.unusedVariables false
set_option linter.unusedSimpArgs false

set_option maxRecDepth 100000 in
theorem rd_digit2 (c : Int) (w : World) : Calls Tryz.prog 148 #[.int .i64 c] w (fun e w' => ∃ d : Int, e = .returned (.int .i64 d) ∧ -1 ≤ d ∧ d ≤ 15 ∧ (0 ≤ d → c ≤ 255) ∧ w = w') := by
  by_cases hc : c ≤ 255
  · refine (rd_digit c w).mono ?_
    rintro e w' ⟨d, h1, h2, h3, h4⟩
    exact ⟨d, h1, h2, h3, fun _ => hc, h4⟩
  · have hne : ∀ u : UInt8, (wrap64 (u.toNat : Int) == c) = false := fun u => by
      have := u.toNat_lt
      rw [wr_u8]
      simp
      omega
    go_enter Tryz.func148, Tryz.ntmps148
    go_wp2
    go_loop [3] (fun i => ∃ k : Nat, k ≤ 16 ∧ i = .int .i64 k) (fun i => 16 - (intOf i).toNat)
    case atStart => exact ⟨0, Nat.zero_le _, rfl⟩
    case round =>
      obtain ⟨k, hk, rfl⟩ := hrel
      by_cases hlt : k < 16
      · go_wp2
        exact ⟨⟨k + 1, by omega, by go_num⟩, by simp [intOf]; omega⟩
      · obtain rfl : k = 16 := by omega
        go_wp2
        go_ret
        exact ⟨-1, rfl, by omega, by omega, fun h => by omega, rfl⟩
def EscPost (s : ByteArray) (p : Nat) (b : Nat) (w : World) (e : Ending) (w' : World) : Prop :=
  ∃ (n : Int) (p' : Nat) (bad' err' : Int), e = .returned (.int .u8 n) ∧ 0 ≤ n ∧ n < 256 ∧ RdTo w w' b s p p' bad' err' ∧ rng err' = true
theorem u8_range (x : Int) : 0 ≤ IntKind.u8.wrap x ∧ IntKind.u8.wrap x < 256 := by
  unfold IntKind.wrap
  simp [IntKind.bits, IntKind.signed]
  omega
set_option maxRecDepth 100000 in
set_option maxHeartbeats 8000000 in
theorem rd_escape (s : ByteArray) (hs : s.size ≤ 140737488351232) (p : Nat) (bad : Int) (hb : rng bad = true) (b : Nat) (w : World) (h : Rdr w b s p bad 0) (hp : p ≤ s.size) :
    Calls Tryz.prog 136 #[.pointer (some ⟨b, 0, none⟩)] w (EscPost s p b w) := by
  have HB := Lib.hid hb
  have HR0 := Lib.hid h
  have KP := Lib.hid (rd_peek s hs p bad 0 b w h hp)
  clear h hb
  go_enter Tryz.func136, Tryz.ntmps136
  go_wp2_with fail
  refine KP.out.mono ?_
  rintro e w1 ⟨rfl, hb1⟩
  have HR1 := Lib.hid (HR0.out.below hb1)
  have HG1 := Lib.hid (grown_bel (grown_refl w b) hb1)
  obtain ⟨c1, f1, l1⟩ := HR1.out.cells
  clear hb1 KP
  by_cases hq : pk s p = 34 ∨ pk s p = 92
  · have hlt : p < s.size := pk_lt (by omega)
    have HX := Lib.hid (HR1.out.step ((p + 1 : Nat) : Int))
    have HXG := Lib.hid (grown_put HG1.out 1 (.int .i64 ((p + 1 : Nat) : Int)))
    have hr := Lib.hid (u8_range (pk s p))
    have HLT := Lib.hid hlt
    rcases hq with hq | hq
    · have d1 : (pk s p == 34) = true := by simp [hq]
      clear hq hlt
      go_wp2
      go_ret
      exact ⟨_, p + 1, bad, 0, rfl, hr.out.1, hr.out.2, ⟨HX.out, HXG.out, by omega, HLT.out, HB.out⟩, by decide⟩
    · have d1 : (pk s p == 34) = false := by simp [hq]
      have d2 : (pk s p == 92) = true := by simp [hq]
      clear hq hlt
      go_wp2
      go_ret
      exact ⟨_, p + 1, bad, 0, rfl, hr.out.1, hr.out.2, ⟨HX.out, HXG.out, by omega, HLT.out, HB.out⟩, by decide⟩
  · have d1 : (pk s p == 34) = false := by simp; omega
    have d2 : (pk s p == 92) = false := by simp; omega
    have KW := Lib.hid (rd_word s hs ⟨#[120]⟩ (by decide) (by decide) p bad HB.out b w1 HR1.out hp)
    clear hq
    go_wp2_with fail
    refine KW.out.mono ?_
    rintro e w2 ⟨rfl, p2, bad2, err2, hto, hre, hpp⟩
    have HT := Lib.hid hto
    have HRE := Lib.hid hre
    have HPP := Lib.hid hpp
    have HG2 := Lib.hid (grown_trans_ HG1.out hto.gr)
    have KP2 := Lib.hid (rd_peek s hs p2 bad2 err2 b w2 hto.rdr hto.size)
    clear hto hre hpp KW c1 f1 l1 d1 d2
    go_wp2_with fail
    refine KP2.out.mono ?_
    rintro e w3 ⟨rfl, hb3⟩
    have HR3 := Lib.hid (HT.out.rdr.below hb3)
    have HG3 := Lib.hid (grown_bel HG2.out hb3)
    clear hb3 KP2
    go_wp2_with fail
    refine (rd_digit2 _ _).mono ?_
    rintro e w4 ⟨a, rfl, ha1, ha2, ha3, rfl⟩
    have HA3 := Lib.hid ha3
    obtain ⟨c3, f3, l3⟩ := HR3.out.cells
    have hp2 := HT.out.le
    have hp3 := HT.out.size
    clear ha3
    by_cases he : err2 = 0
    · subst he
      by_cases h0 : a < 0
      · have q0 : decide (a < 0) = true := by simpa using h0
        clear h0
        go_wp2_with fail
        refine (rd_fail s _ bad2 5 _ b w3 HR3.out).mono ?_
        rintro e w9 ⟨rfl, hr9, hg9⟩
        have HR9 := Lib.hid hr9
        have HG9 := Lib.hid (grown_trans_ HG3.out hg9)
        have c9 := hr9.cells
        clear hr9 hg9
        obtain ⟨c9, f9, l9⟩ := c9
        go_wp2
        go_ret
        exact ⟨0, p2, _, 5, rfl, by decide, by decide, ⟨HR9.out, HG9.out, by omega, by omega, rng_iff.2 (by omega)⟩, by decide⟩
      · have q0 : decide (a < 0) = false := by simpa using h0
        have HA0 : Hid (0 ≤ a) := Lib.hid (by omega)
        by_cases h1 : 2 ≤ a ∧ a ≤ 6
        · obtain ⟨h1, h2⟩ := h1
          have q1 : decide (2 ≤ a) = true := by simpa using h1
          have q2 : decide (a ≤ 6) = true := by simpa using h2
          clear h0 h1 h2
          go_wp2_with fail
          refine (rd_fail s _ bad2 5 _ b w3 HR3.out).mono ?_
          rintro e w9 ⟨rfl, hr9, hg9⟩
          have HR9 := Lib.hid hr9
          have HG9 := Lib.hid (grown_trans_ HG3.out hg9)
          have c9 := hr9.cells
          clear hr9 hg9
          obtain ⟨c9, f9, l9⟩ := c9
          go_wp2
          go_ret
          exact ⟨0, p2, _, 5, rfl, by decide, by decide, ⟨HR9.out, HG9.out, by omega, by omega, rng_iff.2 (by omega)⟩, by decide⟩
        · rcases (show a < 2 ∨ 6 < a by omega) with h2 | h2
          · have q1 : decide (2 ≤ a) = false := by simp; omega
            clear h0 h1 h2
            have hlt : p2 < s.size := pk_lt (by have := HA3.out HA0.out; omega)
            have HX := Lib.hid (HR3.out.step ((p2 + 1 : Nat) : Int))
            have HXG := Lib.hid (grown_put HG3.out 1 (.int .i64 ((p2 + 1 : Nat) : Int)))
            have KP := Lib.hid (rd_peek s hs (p2 + 1) bad2 0 b _ HX.out hlt)
            rw [show (((p2 + 1 : Nat)) : Int) = (p2 : Int) + 1 by omega] at KP HX HXG
            go_wp2_with fail
            refine KP.out.mono ?_
            rintro e w5 ⟨rfl, hb5⟩
            have HR5 := Lib.hid (HX.out.below hb5)
            have HG5 := Lib.hid (grown_bel HXG.out hb5)
            clear hb5 KP
            go_wp2_with fail
            refine (rd_digit2 _ _).mono ?_
            rintro e w6 ⟨d, rfl, hd1, hd2, hd3, rfl⟩
            have HD3 := Lib.hid hd3
            obtain ⟨c6, f6, l6⟩ := HR5.out.cells
            clear hd3 c3 f3 l3
            by_cases hd0 : d < 0
            · have q3 : decide (d < 0) = true := by simpa using hd0
              clear hd0
              go_wp2_with fail
              refine (rd_fail s _ bad2 5 _ b w5 HR5.out).mono ?_
              rintro e w9 ⟨rfl, hr9, hg9⟩
              have HR9 := Lib.hid hr9
              have HG9 := Lib.hid (grown_trans_ HG5.out hg9)
              have c9 := hr9.cells
              clear hr9 hg9
              obtain ⟨c9, f9, l9⟩ := c9
              go_wp2
              go_ret
              exact ⟨0, p2 + 1, _, 5, rfl, by decide, by decide, ⟨HR9.out, HG9.out, by omega, by omega, rng_iff.2 (by omega)⟩, by decide⟩
            · have q3 : decide (d < 0) = false := by simpa using hd0
              have hlt2 : p2 + 1 < s.size := pk_lt (by have := HD3.out (by omega); omega)
              have HX2 := Lib.hid (show Rdr (w5.setCell ⟨b, 1, none⟩ (.int .i64 ((p2 : Int) + 2))) b s ((p2 + 2 : Nat) : Int) bad2 0 by rw [show (((p2 + 2 : Nat)) : Int) = (p2 : Int) + 2 by omega]; exact HR5.out.step _)
              have HXG2 := Lib.hid (grown_put HG5.out 1 (.int .i64 ((p2 : Int) + 2)))
              have hr := Lib.hid (u8_range (a * 16 + d))
              by_cases h7 : a = 7
              · by_cases h15 : d = 15
                · have q4 : (a == 7) = true := by simp [h7]
                  have q5 : (d == 15) = true := by simp [h15]
                  clear h7 h15 hd0
                  go_wp2
                  go_ret
                  exact ⟨_, p2 + 2, bad2, 0, rfl, hr.out.1, hr.out.2, ⟨HX2.out, HXG2.out, by omega, hlt2, HT.out.rb⟩, by decide⟩
                · have q4 : (a == 7) = true := by simp [h7]
                  have q5 : (d == 15) = false := by simp [h15]
                  clear h7 h15 hd0
                  go_wp2_with fail
                  refine (rd_fail s _ bad2 5 _ b w5 HR5.out).mono ?_
                  rintro e w9 ⟨rfl, hr9, hg9⟩
                  have HR9 := Lib.hid hr9
                  have HG9 := Lib.hid (grown_trans_ HG5.out hg9)
                  have c9 := hr9.cells
                  clear hr9 hg9
                  obtain ⟨c9, f9, l9⟩ := c9
                  go_wp2
                  go_ret
                  exact ⟨0, p2 + 1, _, 5, rfl, by decide, by decide, ⟨HR9.out, HG9.out, by omega, by omega, rng_iff.2 (by omega)⟩, by decide⟩
              · have q4 : (a == 7) = false := by simp [h7]
                clear h7 hd0
                go_wp2
                go_ret
                exact ⟨_, p2 + 2, bad2, 0, rfl, hr.out.1, hr.out.2, ⟨HX2.out, HXG2.out, by omega, hlt2, HT.out.rb⟩, by decide⟩
          · have q1 : decide (2 ≤ a) = true := by simp; omega
            have q2 : decide (a ≤ 6) = false := by simp; omega
            clear h0 h1 h2
            have hlt : p2 < s.size := pk_lt (by have := HA3.out HA0.out; omega)
            have HX := Lib.hid (HR3.out.step ((p2 + 1 : Nat) : Int))
            have HXG := Lib.hid (grown_put HG3.out 1 (.int .i64 ((p2 + 1 : Nat) : Int)))
            have KP := Lib.hid (rd_peek s hs (p2 + 1) bad2 0 b _ HX.out hlt)
            rw [show (((p2 + 1 : Nat)) : Int) = (p2 : Int) + 1 by omega] at KP HX HXG
            go_wp2_with fail
            refine KP.out.mono ?_
            rintro e w5 ⟨rfl, hb5⟩
            have HR5 := Lib.hid (HX.out.below hb5)
            have HG5 := Lib.hid (grown_bel HXG.out hb5)
            clear hb5 KP
            go_wp2_with fail
            refine (rd_digit2 _ _).mono ?_
            rintro e w6 ⟨d, rfl, hd1, hd2, hd3, rfl⟩
            have HD3 := Lib.hid hd3
            obtain ⟨c6, f6, l6⟩ := HR5.out.cells
            clear hd3 c3 f3 l3
            by_cases hd0 : d < 0
            · have q3 : decide (d < 0) = true := by simpa using hd0
              clear hd0
              go_wp2_with fail
              refine (rd_fail s _ bad2 5 _ b w5 HR5.out).mono ?_
              rintro e w9 ⟨rfl, hr9, hg9⟩
              have HR9 := Lib.hid hr9
              have HG9 := Lib.hid (grown_trans_ HG5.out hg9)
              have c9 := hr9.cells
              clear hr9 hg9
              obtain ⟨c9, f9, l9⟩ := c9
              go_wp2
              go_ret
              exact ⟨0, p2 + 1, _, 5, rfl, by decide, by decide, ⟨HR9.out, HG9.out, by omega, by omega, rng_iff.2 (by omega)⟩, by decide⟩
            · have q3 : decide (d < 0) = false := by simpa using hd0
              have hlt2 : p2 + 1 < s.size := pk_lt (by have := HD3.out (by omega); omega)
              have HX2 := Lib.hid (show Rdr (w5.setCell ⟨b, 1, none⟩ (.int .i64 ((p2 : Int) + 2))) b s ((p2 + 2 : Nat) : Int) bad2 0 by rw [show (((p2 + 2 : Nat)) : Int) = (p2 : Int) + 2 by omega]; exact HR5.out.step _)
              have HXG2 := Lib.hid (grown_put HG5.out 1 (.int .i64 ((p2 : Int) + 2)))
              have hr := Lib.hid (u8_range (a * 16 + d))
              by_cases h7 : a = 7
              · by_cases h15 : d = 15
                · have q4 : (a == 7) = true := by simp [h7]
                  have q5 : (d == 15) = true := by simp [h15]
                  clear h7 h15 hd0
                  go_wp2
                  go_ret
                  exact ⟨_, p2 + 2, bad2, 0, rfl, hr.out.1, hr.out.2, ⟨HX2.out, HXG2.out, by omega, hlt2, HT.out.rb⟩, by decide⟩
                · have q4 : (a == 7) = true := by simp [h7]
                  have q5 : (d == 15) = false := by simp [h15]
                  clear h7 h15 hd0
                  go_wp2_with fail
                  refine (rd_fail s _ bad2 5 _ b w5 HR5.out).mono ?_
                  rintro e w9 ⟨rfl, hr9, hg9⟩
                  have HR9 := Lib.hid hr9
                  have HG9 := Lib.hid (grown_trans_ HG5.out hg9)
                  have c9 := hr9.cells
                  clear hr9 hg9
                  obtain ⟨c9, f9, l9⟩ := c9
                  go_wp2
                  go_ret
                  exact ⟨0, p2 + 1, _, 5, rfl, by decide, by decide, ⟨HR9.out, HG9.out, by omega, by omega, rng_iff.2 (by omega)⟩, by decide⟩
              · have q4 : (a == 7) = false := by simp [h7]
                clear h7 hd0
                go_wp2
                go_ret
                exact ⟨_, p2 + 2, bad2, 0, rfl, hr.out.1, hr.out.2, ⟨HX2.out, HXG2.out, by omega, hlt2, HT.out.rb⟩, by decide⟩
    · have q0 : (err2 == 0) = false := by simpa using he
      clear he
      go_wp2
      go_ret
      exact ⟨0, p2, bad2, err2, rfl, by decide, by decide, ⟨HR3.out, HG3.out, hp2, hp3, HT.out.rb⟩, HRE.out⟩
end Go.Proofs.YthjpphojddbbmaaGreatDoor
