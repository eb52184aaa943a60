/-
  Texts of a proof in one: SignKind, KitRows. Conditions: each names its own.
-/
import Derived.Test.YthjpphojddbbmaaGreatDoorCSignWord
import Derived.Test.YthjpphojddbbmaaGreatDoorShelf
/-
  strings.Cut at one byte, sign.Word, sign.Kind: walks, for every text. Conditions: a text within a row's reach.
-/
namespace Go.Proofs.YthjpphojddbbmaaGreatDoor
open Go.RowKit
set_option linter.unusedVariables false

theorem indexByte_lt : ∀ (l : List UInt8) (c : UInt8), -1 ≤ Lib.indexByte l c ∧ Lib.indexByte l c < l.length
  | [], c => by simp [Lib.indexByte]
  | b :: l, c => by
    have ih := indexByte_lt l c
    unfold Lib.indexByte
    split
    · simp
    · split <;> simp <;> omega
/-- Where a byte stands first; nowhere: -1. -/
def byteAt (s : ByteArray) (c : UInt8) : Int := Lib.indexByte s.data.toList c
theorem byteAt_lt (s : ByteArray) (c : UInt8) : -1 ≤ byteAt s c ∧ byteAt s c < s.size := by
  have := indexByte_lt s.data.toList c
  simpa [byteAt] using this
def cutV (s : ByteArray) (c : UInt8) : ByteArray × ByteArray × Bool :=
  if 0 ≤ byteAt s c then (s.extract 0 (byteAt s c).toNat, s.extract ((byteAt s c).toNat + 1) s.size, true) else (s, ⟨#[]⟩, false)
def cutT (r : ByteArray × ByteArray × Bool) : Value := .tuple #[.string r.1, .string r.2.1, .bool r.2.2]

set_option maxHeartbeats 1000000 in
theorem lite_cut (s : ByteArray) (c : UInt8) (w : World) (hs : s.size ≤ 140737488351232) : Calls Tryz.prog 118 #[.string s, .string ⟨#[c]⟩] w (Bel (cutT (cutV s c)) w) := by
  have hb := byteAt_lt s c
  by_cases h : 0 ≤ byteAt s c
  · obtain ⟨k, hk⟩ := Int.eq_ofNat_of_zero_le h
    have hx := Lib.hid (show cutV s c = (s.extract 0 k, s.extract (k + 1) s.size, true) by unfold cutV; rw [if_pos h, hk]; rfl)
    have hi := Lib.hid (show Lib.indexByte s.data.toList c = (k : Int) from hk)
    have hlt : k < s.size := by omega
    clear hb h hk
    go_enter Tryz.func118, Tryz.ntmps118
    go_wp2_with fail
    refine (Tryz.stringslite_Index_one s c w).mono ?_
    rintro e w' ⟨rfl, rfl⟩
    rw [hi.out]
    go_wp2
    go_quiet (fail)
    go_wp2
    go_ret3
    exact ⟨by rw [hx.out]; rfl, below_drewN (Below.refl _ _) _⟩
  · have hx := Lib.hid (show cutV s c = (s, ⟨#[]⟩, false) from if_neg h)
    have hi := Lib.hid (show Lib.indexByte s.data.toList c = -1 by unfold byteAt at h hb; omega)
    clear hb h
    go_enter Tryz.func118, Tryz.ntmps118
    go_wp2_with fail
    refine (Tryz.stringslite_Index_one s c w).mono ?_
    rintro e w' ⟨rfl, rfl⟩
    rw [hi.out]
    go_wp2
    go_ret3
    exact ⟨by rw [hx.out]; rfl, Below.refl _ _⟩
theorem str_cut (s : ByteArray) (c : UInt8) (w : World) (hs : s.size ≤ 140737488351232) : Calls Tryz.prog 93 #[.string s, .string ⟨#[c]⟩] w (Bel (cutT (cutV s c)) w) := by
  have H := Lib.hid (lite_cut s c w hs)
  go_enter Tryz.func93, Tryz.ntmps93
  go_wp2_with fail
  refine H.out.mono ?_
  rintro e w' ⟨rfl, hb⟩
  have HB := Lib.hid hb
  clear hb
  unfold cutT
  go_wp2
  go_ret3
  exact ⟨rfl, HB.out⟩

/-- A kit's name, or a kind's word. -/
def wordB (s : ByteArray) : Bool := madeB s 16 smallR (fun r => smallR r || digitR r)
theorem sign_Word (s : ByteArray) (w : World) (hs : s.size ≤ 140737488351232) : Calls Tryz.prog 71 #[.string s] w (Bel (.bool (wordB s)) w) := by
  have hF : IsPred w 89 #[] smallR := ⟨fun r w1 _ => sign_small r w1, fun args w1 => by kernel_rfl, fun r h => by simp [smallR]; omega⟩
  have hG : IsPred w 90 #[] (fun r => smallR r || digitR r) := ⟨fun r w1 _ => sign_word1 r w1, fun args w1 => by kernel_rfl, fun r h => by simp [smallR, digitR]; omega⟩
  have H := Lib.hid (sign_made s 16 _ _ _ _ _ _ w hs hF hG)
  clear hF hG
  go_enter Tryz.func71, Tryz.ntmps71
  go_wp2_with fail
  refine H.out.mono ?_
  rintro e w' ⟨rfl, hb⟩
  have HB := Lib.hid hb
  clear hb
  go_wp2
  go_ret
  exact ⟨rfl, HB.out⟩

/-- A kind's name, cut. -/
def kindV (s : ByteArray) : ByteArray × ByteArray × Bool :=
  if (cutV s 46).2.2 && wordB (cutV s 46).1 && wordB (cutV s 46).2.1 then ((cutV s 46).1, (cutV s 46).2.1, true) else (⟨#[]⟩, ⟨#[]⟩, false)
theorem cut_size (s : ByteArray) (c : UInt8) : (cutV s c).1.size ≤ s.size ∧ (cutV s c).2.1.size ≤ s.size := by
  unfold cutV
  split
  · exact ⟨by simp [ByteArray.size_extract]; omega, by simp [ByteArray.size_extract]⟩
  · exact ⟨Nat.le_refl _, Nat.zero_le _⟩
theorem sign_Kind (s : ByteArray) (w : World) (hs : s.size ≤ 140737488351232) : Calls Tryz.prog 73 #[.string s] w (Bel (cutT (kindV s)) w) := by
  have H := Lib.hid (str_cut s 46 w hs)
  have hsz := cut_size s 46
  generalize hr : cutV s 46 = r at *
  obtain ⟨a, b, ok⟩ := r
  have hk : kindV s = if ok && wordB a && wordB b then (a, b, true) else (⟨#[]⟩, ⟨#[]⟩, false) := by unfold kindV; rw [hr]
  have HK := Lib.hid hk
  clear hr hk
  simp only at hsz
  obtain ⟨ha, hb⟩ := hsz
  cases ok
  · have hx := Lib.hid (HK.out.trans (by simp; exact rfl))
    go_enter Tryz.func73, Tryz.ntmps73
    go_wp2_with fail
    refine H.out.mono ?_
    rintro e w1 ⟨rfl, hb1⟩
    have HB := Lib.hid hb1
    clear hb1
    unfold cutT
    go_wp2
    go_ret3
    exact ⟨by rw [hx.out]; rfl, HB.out⟩
  · cases hwa : wordB a
    · have hx := Lib.hid (HK.out.trans (by simp [hwa]; exact rfl))
      go_enter Tryz.func73, Tryz.ntmps73
      go_wp2_with fail
      refine H.out.mono ?_
      rintro e w1 ⟨rfl, hb1⟩
      have HB := Lib.hid hb1
      clear hb1
      unfold cutT
      go_wp2_with fail
      refine (sign_Word a w1 (by omega)).mono ?_
      rintro e w2 ⟨rfl, hb2⟩
      rw [hwa]
      have HB2 := Lib.hid hb2
      clear hb2
      go_wp2
      go_ret3
      exact ⟨by rw [hx.out]; rfl, HB.out.trans (HB2.out.mono HB.out.size)⟩
    · cases hwb : wordB b
      all_goals
        have hx := Lib.hid (HK.out.trans (by simp [hwa, hwb]; exact rfl))
        go_enter Tryz.func73, Tryz.ntmps73
        go_wp2_with fail
        refine H.out.mono ?_
        rintro e w1 ⟨rfl, hb1⟩
        have HB := Lib.hid hb1
        clear hb1
        unfold cutT
        go_wp2_with fail
        refine (sign_Word a w1 (by omega)).mono ?_
        rintro e w2 ⟨rfl, hb2⟩
        rw [hwa]
        have HB2 := Lib.hid hb2
        clear hb2
        go_wp2_with fail
        refine (sign_Word b w2 (by omega)).mono ?_
        rintro e w3 ⟨rfl, hb3⟩
        rw [hwb]
        have HB3 := Lib.hid (HB.out.trans ((HB2.out.trans (hb3.mono HB2.out.size)).mono HB.out.size))
        clear hb3
        go_wp2
        go_ret3
        exact ⟨by rw [hx.out]; rfl, HB3.out⟩
end Go.Proofs.YthjpphojddbbmaaGreatDoor

/-
  Rows of kits: as data, how they lie in memory; kit.rising, kit.may, kit.May, kit.copied on rows that may be: walks. Conditions: none.
-/
namespace Go.Proofs.YthjpphojddbbmaaGreatDoor
open Go.RowKit
set_option linter.unusedVariables false

structure RowD where
  kind : ByteArray
  min : Int
  max : Int
  num : Bool
  text : Int
  abil : List ByteArray
/-- Texts one after the other. -/
def NamesIn (w : World) (S : Nat → Prop) (l : List ByteArray) (A : Option Addr) : Prop :=
  0 < l.length → ∃ b o, A = some ⟨b, o, none⟩ ∧ S b ∧ ∀ j, j < l.length → w.cell? ⟨b, o + j, none⟩ = some (.string (l.getD j ByteArray.empty))
theorem NamesIn.keep {w w' : World} {S S' : Nat → Prop} {l : List ByteArray} {A : Option Addr} (h : NamesIn w S l A) (hk : ∀ b o, S b → w'.cell? ⟨b, o, none⟩ = w.cell? ⟨b, o, none⟩) (hS : ∀ b, S b → S' b) : NamesIn w' S' l A := fun hl => by
  obtain ⟨b, o, e, hs, hc⟩ := h hl
  exact ⟨b, o, e, hS b hs, fun j hj => (hk b _ hs).trans (hc j hj)⟩
theorem NamesIn.below {w w' : World} {B : Nat} {l : List ByteArray} {A : Option Addr} (h : NamesIn w (· < B) l A) (hb : Below B w w') : NamesIn w' (· < B) l A :=
  h.keep (fun b o hs => hb.cell (p := ⟨b, o, none⟩) hs) (fun _ h => h)

/-- The abilities' names, in order. -/
def allAbil : List ByteArray := [⟨#[76, 105, 116, 101, 114, 97, 108]⟩, ⟨#[83, 116, 114, 105, 99, 116]⟩, ⟨#[76, 97, 122, 121]⟩, ⟨#[66, 105, 110, 100, 101, 114]⟩, ⟨#[85, 115, 101, 114]⟩, ⟨#[67, 97, 108, 108, 101, 114]⟩, ⟨#[80, 117, 114, 101]⟩, ⟨#[84, 111, 116, 97, 108]⟩, ⟨#[83, 111, 114, 116, 101, 100]⟩, ⟨#[83, 117, 103, 97, 114]⟩, ⟨#[70, 114, 97, 109, 101, 100]⟩]
def abilCells : Array Value := #[.string ⟨#[76, 105, 116, 101, 114, 97, 108]⟩, .string ⟨#[83, 116, 114, 105, 99, 116]⟩, .string ⟨#[76, 97, 122, 121]⟩, .string ⟨#[66, 105, 110, 100, 101, 114]⟩, .string ⟨#[85, 115, 101, 114]⟩, .string ⟨#[67, 97, 108, 108, 101, 114]⟩, .string ⟨#[80, 117, 114, 101]⟩, .string ⟨#[84, 111, 116, 97, 108]⟩, .string ⟨#[83, 111, 114, 116, 101, 100]⟩, .string ⟨#[83, 117, 103, 97, 114]⟩, .string ⟨#[70, 114, 97, 109, 101, 100]⟩]
theorem kit_abilities (w : World) : Calls Tryz.prog 137 #[] w fun e w' => e = .returned (.slice (some ⟨w.heap.size, 0, none⟩) 11 11) ∧ w.alloc (.cells abilCells 9) = w' := by
  go_enter Tryz.func137, Tryz.ntmps137
  go_wp2
  go_ret
  exact ⟨rfl, rfl⟩
theorem abil_cell (w : World) {w1 : World} {B : Nat} (hb : Below B (w.alloc (.cells abilCells 9)) w1) (hB : w.heap.size < B) : ∀ j, j < allAbil.length → w1.cell? ⟨w.heap.size, 0 + j, none⟩ = some (.string (allAbil.getD j ByteArray.empty)) := by
  intro j hj
  rw [Nat.zero_add, box_cell hb hB]
  have hj' : j < 11 := hj
  rcases (show j = 0 ∨ j = 1 ∨ j = 2 ∨ j = 3 ∨ j = 4 ∨ j = 5 ∨ j = 6 ∨ j = 7 ∨ j = 8 ∨ j = 9 ∨ j = 10 by omega) with rfl | rfl | rfl | rfl | rfl | rfl | rfl | rfl | rfl | rfl | rfl <;> rfl

/-- Are names some of the abilities, in order, each once, behind a place? -/
def risingF : List ByteArray → Int → Bool
  | [], _ => true
  | s :: r, last => if Lib.idxOfS allAbil s ≤ last then false else risingF r (Lib.idxOfS allAbil s)

set_option maxHeartbeats 1000000 in
theorem kit_rising (l : List ByteArray) (A : Option Addr) (c : Nat) (w : World) (hlen : l.length ≤ 140737488351232) (hl : NamesIn w (· < w.heap.size) l A) (hr : risingF l (-1) = true) :
    Calls Tryz.prog 116 #[.slice A l.length c] w (Bel (.bool true) w) := by
  have HL := Lib.hid hl
  have HR := Lib.hid hr
  clear hl hr
  go_enter Tryz.func116, Tryz.ntmps116
  go_wp2_with (go_at_call 137; refine (kit_abilities _).mono ?_; rintro e w' ⟨rfl, rfl⟩)
  go_loop [4, 11] (fun s4 s11 => ∃ (k : Nat) (last : Int), k ≤ l.length ∧ s11 = .int .i64 (k : Int) ∧ s4 = .int .i64 last ∧ risingF (l.drop k) last = true) (fun _ s11 => l.length - (intOf s11).toNat)
  case atStart => exact ⟨0, -1, Nat.zero_le _, rfl, rfl, by simpa using HR.out⟩
  case round =>
    obtain ⟨k, last, hk, rfl, rfl, hr⟩ := hrel
    by_cases hlt : k < l.length
    · obtain ⟨b, o, rfl, hb, hc⟩ := HL.out (by omega)
      have hck := (World.cell?_alloc_lt w (.cells abilCells 9) ⟨b, o + k, none⟩ hb).trans (hc k hlt)
      rw [List.drop_eq_getElem_cons hlt, risingF] at hr
      have hget : l.getD k ByteArray.empty = l[k] := by simp [hlt]
      rw [hget] at hck
      have hidx : ¬ Lib.idxOfS allAbil l[k] ≤ last := by
        intro h; rw [if_pos h] at hr; cases hr
      rw [if_neg hidx] at hr
      have HRR := Lib.hid hr
      clear hr hc hget
      generalize hx : Lib.idxOfS allAbil l[k] = ix at *
      have HX := Lib.hid hx
      clear hx
      go_wp2_with fail
      refine (Tryz.slices_Index_string w.heap.size 0 11 11 allAbil l[k] _ (by decide) (by decide) (abil_cell w (Below.refl (w.heap.size + 1) _) (by omega))).mono ?_
      rintro e w' ⟨rfl, rfl⟩
      rw [show allAbil.take 11 = allAbil from rfl, HX.out]
      go_wp2
      go_round
      case rel => exact ⟨k + 1, ix, by omega, by go_num, rfl, HRR.out⟩
      case measure => simp [intOf]; omega
    · obtain rfl : k = l.length := by omega
      clear hr
      go_wp2
      go_ret
      exact ⟨rfl, (Below.refl _ _).alloc (Nat.le_refl _) _⟩

theorem fault_none (w : World) : Calls Tryz.prog 70 #[.int .i64 0] w fun e w' => e = .returned .nilIface ∧ w = w' := by
  go_enter Tryz.func70, Tryz.ntmps70
  go_wp2
  go_ret
  exact ⟨rfl, rfl⟩
end Go.Proofs.YthjpphojddbbmaaGreatDoor
