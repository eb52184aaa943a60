/-
  strings.Cut at one byte, sign.Word, sign.Kind: walks, for every text. Conditions: a text within a row's reach.
-/
import Derived.Test.YthjpphojddbbmaaGreatDoorSignWord
import Derived.Test.YthjpphojddbbmaaGreatDoorShelf
namespace Go.Proofs.YthjpphojddbbmaaGreatDoor
open Go.RowKit
set_option linter.unusedVariables false

theorem indexByte_lt : ∀ (l : List UInt8) (c : UInt8), -1 ≤ Lib.indexByte l c ∧ Lib.indexByte l c < l.length
  | [], c => by simp [Lib.indexByte]
  | b :: l, c => by
    have ih := indexByte_lt l c
    unfold Lib.indexByte
    split
    · simp
    · split <;> simp <;> omega
/-- Where a byte stands first; nowhere: -1. -/
def byteAt (s : ByteArray) (c : UInt8) : Int := Lib.indexByte s.data.toList c
theorem byteAt_lt (s : ByteArray) (c : UInt8) : -1 ≤ byteAt s c ∧ byteAt s c < s.size := by
  have := indexByte_lt s.data.toList c
  simpa [byteAt] using this
def cutV (s : ByteArray) (c : UInt8) : ByteArray × ByteArray × Bool :=
  if 0 ≤ byteAt s c then (s.extract 0 (byteAt s c).toNat, s.extract ((byteAt s c).toNat + 1) s.size, true) else (s, ⟨#[]⟩, false)
def cutT (r : ByteArray × ByteArray × Bool) : Value := .tuple #[.string r.1, .string r.2.1, .bool r.2.2]

set_option maxHeartbeats 1000000 in
theorem lite_cut (s : ByteArray) (c : UInt8) (w : World) (hs : s.size ≤ 140737488351232) : Calls Tryz.prog 118 #[.string s, .string ⟨#[c]⟩] w (Bel (cutT (cutV s c)) w) := by
  have hb := byteAt_lt s c
  by_cases h : 0 ≤ byteAt s c
  · obtain ⟨k, hk⟩ := Int.eq_ofNat_of_zero_le h
    have hx := Lib.hid (show cutV s c = (s.extract 0 k, s.extract (k + 1) s.size, true) by unfold cutV; rw [if_pos h, hk]; rfl)
    have hi := Lib.hid (show Lib.indexByte s.data.toList c = (k : Int) from hk)
    have hlt : k < s.size := by omega
    clear hb h hk
    go_enter Tryz.func118, Tryz.ntmps118
    go_wp2_with fail
    refine (Tryz.stringslite_Index_one s c w).mono ?_
    rintro e w' ⟨rfl, rfl⟩
    rw [hi.out]
    go_wp2
    go_quiet (fail)
    go_wp2
    go_ret3
    exact ⟨by rw [hx.out]; rfl, below_drewN (Below.refl _ _) _⟩
  · have hx := Lib.hid (show cutV s c = (s, ⟨#[]⟩, false) from if_neg h)
    have hi := Lib.hid (show Lib.indexByte s.data.toList c = -1 by unfold byteAt at h hb; omega)
    clear hb h
    go_enter Tryz.func118, Tryz.ntmps118
    go_wp2_with fail
    refine (Tryz.stringslite_Index_one s c w).mono ?_
    rintro e w' ⟨rfl, rfl⟩
    rw [hi.out]
    go_wp2
    go_ret3
    exact ⟨by rw [hx.out]; rfl, Below.refl _ _⟩
theorem str_cut (s : ByteArray) (c : UInt8) (w : World) (hs : s.size ≤ 140737488351232) : Calls Tryz.prog 93 #[.string s, .string ⟨#[c]⟩] w (Bel (cutT (cutV s c)) w) := by
  have H := Lib.hid (lite_cut s c w hs)
  go_enter Tryz.func93, Tryz.ntmps93
  go_wp2_with fail
  refine H.out.mono ?_
  rintro e w' ⟨rfl, hb⟩
  have HB := Lib.hid hb
  clear hb
  unfold cutT
  go_wp2
  go_ret3
  exact ⟨rfl, HB.out⟩

/-- A kit's name, or a kind's word. -/
def wordB (s : ByteArray) : Bool := madeB s 16 smallR (fun r => smallR r || digitR r)
theorem sign_Word (s : ByteArray) (w : World) (hs : s.size ≤ 140737488351232) : Calls Tryz.prog 71 #[.string s] w (Bel (.bool (wordB s)) w) := by
  have hF : IsPred w 89 #[] smallR := ⟨fun r w1 _ => sign_small r w1, fun args w1 => by kernel_rfl, fun r h => by simp [smallR]; omega⟩
  have hG : IsPred w 90 #[] (fun r => smallR r || digitR r) := ⟨fun r w1 _ => sign_word1 r w1, fun args w1 => by kernel_rfl, fun r h => by simp [smallR, digitR]; omega⟩
  have H := Lib.hid (sign_made s 16 _ _ _ _ _ _ w hs hF hG)
  clear hF hG
  go_enter Tryz.func71, Tryz.ntmps71
  go_wp2_with fail
  refine H.out.mono ?_
  rintro e w' ⟨rfl, hb⟩
  have HB := Lib.hid hb
  clear hb
  go_wp2
  go_ret
  exact ⟨rfl, HB.out⟩

/-- A kind's name, cut. -/
def kindV (s : ByteArray) : ByteArray × ByteArray × Bool :=
  if (cutV s 46).2.2 && wordB (cutV s 46).1 && wordB (cutV s 46).2.1 then ((cutV s 46).1, (cutV s 46).2.1, true) else (⟨#[]⟩, ⟨#[]⟩, false)
theorem cut_size (s : ByteArray) (c : UInt8) : (cutV s c).1.size ≤ s.size ∧ (cutV s c).2.1.size ≤ s.size := by
  unfold cutV
  split
  · exact ⟨by simp [ByteArray.size_extract]; omega, by simp [ByteArray.size_extract]⟩
  · exact ⟨Nat.le_refl _, Nat.zero_le _⟩
theorem sign_Kind (s : ByteArray) (w : World) (hs : s.size ≤ 140737488351232) : Calls Tryz.prog 73 #[.string s] w (Bel (cutT (kindV s)) w) := by
  have H := Lib.hid (str_cut s 46 w hs)
  have hsz := cut_size s 46
  generalize hr : cutV s 46 = r at *
  obtain ⟨a, b, ok⟩ := r
  have hk : kindV s = if ok && wordB a && wordB b then (a, b, true) else (⟨#[]⟩, ⟨#[]⟩, false) := by unfold kindV; rw [hr]
  have HK := Lib.hid hk
  clear hr hk
  simp only at hsz
  obtain ⟨ha, hb⟩ := hsz
  cases ok
  · have hx := Lib.hid (HK.out.trans (by simp; exact rfl))
    go_enter Tryz.func73, Tryz.ntmps73
    go_wp2_with fail
    refine H.out.mono ?_
    rintro e w1 ⟨rfl, hb1⟩
    have HB := Lib.hid hb1
    clear hb1
    unfold cutT
    go_wp2
    go_ret3
    exact ⟨by rw [hx.out]; rfl, HB.out⟩
  · cases hwa : wordB a
    · have hx := Lib.hid (HK.out.trans (by simp [hwa]; exact rfl))
      go_enter Tryz.func73, Tryz.ntmps73
      go_wp2_with fail
      refine H.out.mono ?_
      rintro e w1 ⟨rfl, hb1⟩
      have HB := Lib.hid hb1
      clear hb1
      unfold cutT
      go_wp2_with fail
      refine (sign_Word a w1 (by omega)).mono ?_
      rintro e w2 ⟨rfl, hb2⟩
      rw [hwa]
      have HB2 := Lib.hid hb2
      clear hb2
      go_wp2
      go_ret3
      exact ⟨by rw [hx.out]; rfl, HB.out.trans (HB2.out.mono HB.out.size)⟩
    · cases hwb : wordB b
      all_goals
        have hx := Lib.hid (HK.out.trans (by simp [hwa, hwb]; exact rfl))
        go_enter Tryz.func73, Tryz.ntmps73
        go_wp2_with fail
        refine H.out.mono ?_
        rintro e w1 ⟨rfl, hb1⟩
        have HB := Lib.hid hb1
        clear hb1
        unfold cutT
        go_wp2_with fail
        refine (sign_Word a w1 (by omega)).mono ?_
        rintro e w2 ⟨rfl, hb2⟩
        rw [hwa]
        have HB2 := Lib.hid hb2
        clear hb2
        go_wp2_with fail
        refine (sign_Word b w2 (by omega)).mono ?_
        rintro e w3 ⟨rfl, hb3⟩
        rw [hwb]
        have HB3 := Lib.hid (HB.out.trans ((HB2.out.trans (hb3.mono HB2.out.size)).mono HB.out.size))
        clear hb3
        go_wp2
        go_ret3
        exact ⟨by rw [hx.out]; rfl, HB3.out⟩
end Go.Proofs.YthjpphojddbbmaaGreatDoor
