/-
  Part 2 of 8 of a proof, several texts in a row: PlRow, SignWord, SignKind, KitRows, KitMay, KitCopied, MapLaws, KitNewA, KitNewB, KitNew. Conditions: each text names its own.
-/
import Derived.Test.YtcdjnkeomaidaaaGreatM01
import Derived.ProofKit
import Derived.OpenShut
import Derived.Carry
import Derived.SizedLaws
import Derived.Test.YtcdjnkeomaidaaaGreatProg
import Derived.Lib.Strings
import Derived.Test.YtcdjnkeomaidaaaGreatShelf
import Derived.Laws.ResultCell
import Derived.MapKept
import Derived.Deep.AppendLies
import Derived.StillTailTactics
/-
  A row's last lines: arguments read again behind new memory. Conditions: none.
-/
namespace Go.Proofs.YtcdjnkeomaidaaaGreat
open Go.RowKit Go.WideShapes Go.ChangeShapes Go.ChangeAt
set_option linter.unusedVariables false

section
variable {H : Type} {enc : TypeId × Value → H} {P : Program}
theorem trodAll_keeps (hl : laidOutB P = true) {W W' : World} {sp : Nat → Bool} (hb : Below W.heap.size W W') : ∀ {ts : List TypeId} {vs : List Value} {ds : List (DataW H)} {ps : List MemPlace},
    ts.all (fun t => P.readableRec t && decide (t < P.types.size)) = true → DataW.TrodAll enc P W 0 (fun _ => true) true ts vs ds ps → (∀ p ∈ ps, p.block < W.heap.size) → (∀ p ∈ ps, sp p.block = true) → DataW.TrodAll enc P W' 0 sp true ts vs ds ps
  | [], vs, ds, ps, _, h, _, _ => by
    obtain ⟨rfl, rfl, rfl⟩ := trodAll_nil h
    exact trodAll_mk0
  | t :: ts, vs, ds, ps, hr, h, hlt, hsp => by
    obtain ⟨v, vs', d, ds', p, q, rfl, rfl, rfl, hd, hds⟩ := trodAll_cons h
    simp only [List.all_cons, Bool.and_eq_true, decide_eq_true_eq] at hr
    refine trodAll_cons_mk (WideElems.Trod_stays hl hr.1.1 hr.1.2 hd (fun x hx => hb.same (hlt x (by simp [hx]))) (fun x hx => hsp x (by simp [hx]))) (trodAll_keeps hl hb hr.2 hds (fun x hx => hlt x (by simp [hx])) (fun x hx => hsp x (by simp [hx])))
end
theorem plLaid : laidOutB Tryz.prog = true := by kernel_rfl
theorem len2 {α : Type} {l : List α} (h : l.length = 2) : ∃ a b, l = [a, b] := by
  match l, h with
  | [a, b], _ => exact ⟨a, b, rfl⟩
theorem add_add_two (b o i j : Nat) : ((⟨b, o, none⟩ : Addr).add i).add j = ⟨b, o + i + j, none⟩ := add_add_none b o i j
end Go.Proofs.YtcdjnkeomaidaaaGreat

/-
  sign.made, sign.Word: which texts may be names: walks, for every text. Conditions: none.
-/
namespace Go.Proofs.YtcdjnkeomaidaaaGreat
open Go.RowKit
set_option linter.unusedVariables false

def smallR (r : Int) : Bool := decide (97 ≤ r) && decide (r ≤ 122)
def digitR (r : Int) : Bool := decide (48 ≤ r) && decide (r ≤ 57)
theorem sign_small (r : Int) (w : World) : Calls Tryz.prog 78 #[.int .i32 r] w fun e w' => e = .returned (.bool (smallR r)) ∧ w = w' := by
  by_cases h : 97 ≤ r
  · have hx := Lib.hid (show smallR r = decide (r ≤ 122) by simp [smallR, h])
    go_enter Tryz.func78, Tryz.ntmps78
    go_wp2
    go_ret
    exact ⟨by rw [hx.out]; rfl, rfl⟩
  · have hx := Lib.hid (show smallR r = false by simp [smallR, h])
    have hd : decide (97 ≤ r) = false := by simpa using h
    go_enter Tryz.func78, Tryz.ntmps78
    go_wp2
    go_ret
    exact ⟨by rw [hx.out]; rfl, rfl⟩
theorem sign_digit (r : Int) (w : World) : Calls Tryz.prog 80 #[.int .i32 r] w fun e w' => e = .returned (.bool (digitR r)) ∧ w = w' := by
  by_cases h : 48 ≤ r
  · have hx := Lib.hid (show digitR r = decide (r ≤ 57) by simp [digitR, h])
    go_enter Tryz.func80, Tryz.ntmps80
    go_wp2
    go_ret
    exact ⟨by rw [hx.out]; rfl, rfl⟩
  · have hx := Lib.hid (show digitR r = false by simp [digitR, h])
    have hd : decide (48 ≤ r) = false := by simpa using h
    go_enter Tryz.func80, Tryz.ntmps80
    go_wp2
    go_ret
    exact ⟨by rw [hx.out]; rfl, rfl⟩
theorem sign_word1 (r : Int) (w : World) : Calls Tryz.prog 79 #[.int .i32 r] w fun e w' => e = .returned (.bool (smallR r || digitR r)) ∧ w = w' := by
  cases h : smallR r
  · go_enter Tryz.func79, Tryz.ntmps79
    go_wp2_with (first | (go_at_call 78; refine (sign_small _ _).mono ?_; rintro e w' ⟨rfl, rfl⟩) | (go_at_call 80; refine (sign_digit _ _).mono ?_; rintro e w' ⟨rfl, rfl⟩))
    go_ret
    exact ⟨rfl, rfl⟩
  · go_enter Tryz.func79, Tryz.ntmps79
    go_wp2_with (first | (go_at_call 78; refine (sign_small _ _).mono ?_; rintro e w' ⟨rfl, rfl⟩) | (go_at_call 80; refine (sign_digit _ _).mono ?_; rintro e w' ⟨rfl, rfl⟩))
    go_ret
    exact ⟨rfl, rfl⟩

/-- A function value that tells a rune by a Boolean. -/
structure IsPred (w : World) (F : FuncId) (caps : Array Value) (p : Int → Bool) : Prop where
  call : ∀ (r : Int) (w1 : World), Below w.heap.size w w1 → Calls Tryz.prog F (#[.int .i32 r] ++ caps) w1 fun e w' => e = .returned (.bool (p r)) ∧ w1 = w'
  enter : ∀ (args : Array Value) (w1 : World), (callFunc F args).run Tryz.prog w1 = .ok (.enter F args) w1
  high : ∀ r : Int, 128 ≤ r → p r = false
/-- What 'made' tells, byte by byte. -/
def madeB (s : ByteArray) (most : Int) (p q : Int → Bool) : Bool :=
  decide (s.size ≠ 0 ∧ (s.size : Int) ≤ most) && (p (s.data.toList.headD 0).toNat) && s.data.toList.all (fun c => q c.toNat)

theorem madeB_q {s : ByteArray} {most : Int} {p q : Int → Bool} {pos : Nat} (h : pos < s.size) (hq : q (s[pos]'h).toNat = false) : madeB s most p q = false := by
  have hm : s[pos]'h ∈ s.data.toList := List.getElem_mem (l := s.data.toList) (by simpa using h)
  have : s.data.toList.all (fun c => q c.toNat) = false := by rw [List.all_eq_false]; exact ⟨_, hm, by simp [hq]⟩
  simp only [madeB, this, Bool.and_false]
theorem head_at {s : ByteArray} (h : 0 < s.size) : s.data.toList.headD 0 = s[0]'h := by
  rw [List.headD_eq_head?_getD, List.head?_eq_getElem?, List.getElem?_eq_getElem (by simpa using h)]; rfl
theorem madeB_p {s : ByteArray} {most : Int} {p q : Int → Bool} (h : 0 < s.size) (hp : p (s[0]'h).toNat = false) : madeB s most p q = false := by
  simp only [madeB, head_at h, hp, Bool.and_false, Bool.false_and]
theorem madeB_true {s : ByteArray} {most : Int} {p q : Int → Bool} (h : 0 < s.size) (hm : (s.size : Int) ≤ most) (hp : p (s.data.toList.headD 0).toNat = true) (hq : ∀ c ∈ s.data.toList, q c.toNat = true) : madeB s most p q = true := by
  have h2 : s.data.toList.all (fun c => q c.toNat) = true := by rw [List.all_eq_true]; exact hq
  have h3 : s.size ≠ 0 := by omega
  simp only [madeB, hp, h2, Bool.and_true]
  simp [h3, hm]
theorem take_next {s : ByteArray} {pos : Nat} (h : pos < s.size) {q : Int → Bool} (hq : ∀ c ∈ s.data.toList.take pos, q c.toNat = true) (hc : q (s[pos]'h).toNat = true) : ∀ c ∈ s.data.toList.take (pos + 1), q c.toNat = true := by
  intro c hm
  rw [List.take_succ_eq_append_getElem (by simpa using h), List.mem_append] at hm
  rcases hm with hm | hm
  · exact hq c hm
  · simp at hm; subst hm; exact hc

set_option maxHeartbeats 2000000 in
theorem sign_made (s : ByteArray) (most : Int) (F G : FuncId) (cf cg : Array Value) (p q : Int → Bool) (w : World) (hs : s.size ≤ 140737488351232) (hF : IsPred w F cf p) (hG : IsPred w G cg q) :
    Calls Tryz.prog 77 #[.string s, .int .i64 most, .func (.func F) #[] cf, .func (.func G) #[] cg] w fun e w' => e = .returned (.bool (madeB s most p q)) ∧ Below w.heap.size w w' := by
  have HF := Lib.hid hF
  have HG := Lib.hid hG
  clear hF hG
  by_cases h0 : s.toList = []
  · have hx := Lib.hid (show madeB s most p q = false by
      have : s.size = 0 := by rw [Lib.toList_data, ← List.length_eq_zero_iff] at h0; simpa using h0
      simp [madeB, this])
    go_enter Tryz.func77, Tryz.ntmps77
    go_wp2
    go_ret
    exact ⟨by rw [hx.out]; rfl, Below.refl _ _⟩
  by_cases h1 : most < (s.size : Int)
  · have hx := Lib.hid (show madeB s most p q = false by
      have : ¬ ((s.size : Int) ≤ most) := by omega
      simp [madeB, this])
    have h1d : decide (most < (s.size : Int)) = true := by simpa using h1
    go_enter Tryz.func77, Tryz.ntmps77
    go_wp2
    go_ret
    exact ⟨by rw [hx.out]; rfl, Below.refl _ _⟩
  have h1d : decide (most < (s.size : Int)) = false := by simpa using h1
  have h0b : s.toList.isEmpty = false := by simpa using h0
  have hsz : 0 < s.size := by
    rcases Nat.eq_zero_or_pos s.size with h | h
    · exact absurd (by rw [Lib.toList_data, ← List.length_eq_zero_iff]; simpa using h) h0
    · exact h
  go_enter Tryz.func77, Tryz.ntmps77
  go_wp2
  clear h1d
  go_loopw [9] (fun _ wr => ∃ pos : Nat, pos ≤ s.size ∧ wr = w.iter s pos ∧ (0 < pos → p (s.data.toList.headD 0).toNat = true) ∧ (∀ c ∈ s.data.toList.take pos, q c.toNat = true)) (fun _ wr => s.size - wr.iterPos w.heap.size)
  case atStart => exact ⟨0, Nat.zero_le _, rfl, fun h => by omega, fun c hc => by simp at hc⟩
  case round =>
    obtain ⟨pos, hp, rfl, hp0, hq⟩ := hrel
    have H0 := Lib.hid hp0
    have HQ := Lib.hid hq
    clear hp0 hq
    by_cases hlt : pos < s.size
    · have hnext := run_next_any (P := Tryz.prog) w s pos 0 hlt
      have hFe := HF.out.enter
      have hGe := HG.out.enter
      have hbel : Hid (∀ n, Below w.heap.size w (w.iter s n)) := fun n => (Below.refl _ _).alloc (Nat.le_refl _) _
      by_cases hasc : (s[pos]'hlt).toNat < 128
      · rw [decode_ascii s pos hlt hasc] at hnext
        by_cases hpos : pos = 0
        · subst hpos
          cases hp : p (s[0]'hlt).toNat
          · have hx := Lib.hid (madeB_p (most := most) (q := q) hlt hp)
            go_wp2_with fail
            refine (HF.out.call _ _ (hbel.out _)).mono ?_
            rintro e w' ⟨rfl, rfl⟩
            go_wp2
            go_ret
            exact ⟨by rw [hx.out]; rfl, hbel.out _⟩
          · have HP := Lib.hid hp
            go_wp2_with fail
            refine (HF.out.call _ _ (hbel.out _)).mono ?_
            rintro e w' ⟨rfl, rfl⟩
            go_wp2_with fail
            refine (HG.out.call _ _ (hbel.out _)).mono ?_
            rintro e w' ⟨rfl, rfl⟩
            cases hq : q (s[0]'hlt).toNat
            · have hx := Lib.hid (madeB_q (most := most) (p := p) hlt hq)
              go_wp2
              go_ret
              exact ⟨by rw [hx.out]; rfl, hbel.out _⟩
            · have HQ1 := Lib.hid (take_next hlt HQ.out hq)
              go_wp2
              go_roundw
              case rel => exact ⟨0 + 1, by omega, rfl, fun _ => by rw [head_at hlt]; exact HP.out, HQ1.out⟩
              case measure => simp; omega
        · have hpb : ((pos : Int) == 0) = false := by simpa using hpos
          go_wp2_with fail
          refine (HG.out.call _ _ (hbel.out _)).mono ?_
          rintro e w' ⟨rfl, rfl⟩
          cases hq : q (s[pos]'hlt).toNat
          · have hx := Lib.hid (madeB_q (most := most) (p := p) hlt hq)
            go_wp2
            go_ret
            exact ⟨by rw [hx.out]; rfl, hbel.out _⟩
          · have HQ1 := Lib.hid (take_next hlt HQ.out hq)
            go_wp2
            go_roundw
            case rel => exact ⟨pos + 1, by omega, rfl, fun _ => H0.out (by omega), HQ1.out⟩
            case measure => simp; omega
      · have hhi := decode_high s pos hlt (by omega)
        have hx := Lib.hid (madeB_q (most := most) (p := p) hlt (HG.out.high _ (by omega)))
        have hqr : q ((Utf8.decode s pos).1 : Int) = false := HG.out.high _ (by omega)
        by_cases hpos : pos = 0
        · subst hpos
          cases hp : p ((Utf8.decode s 0).1 : Int)
          · go_wp2_with fail
            refine (HF.out.call _ _ (hbel.out _)).mono ?_
            rintro e w' ⟨rfl, rfl⟩
            go_wp2
            go_ret
            exact ⟨by rw [hx.out]; rfl, hbel.out _⟩
          · go_wp2_with fail
            refine (HF.out.call _ _ (hbel.out _)).mono ?_
            rintro e w' ⟨rfl, rfl⟩
            go_wp2_with fail
            refine (HG.out.call _ _ (hbel.out _)).mono ?_
            rintro e w' ⟨rfl, rfl⟩
            go_wp2
            go_ret
            exact ⟨by rw [hx.out]; rfl, hbel.out _⟩
        · have hpb : ((pos : Int) == 0) = false := by simpa using hpos
          go_wp2_with fail
          refine (HG.out.call _ _ (hbel.out _)).mono ?_
          rintro e w' ⟨rfl, rfl⟩
          go_wp2
          go_ret
          exact ⟨by rw [hx.out]; rfl, hbel.out _⟩
    · obtain rfl : pos = s.size := by omega
      have hnext := run_next_end (P := Tryz.prog) w s s.size 0 hlt
      have hx := Lib.hid (madeB_true (most := most) hsz (by omega) (H0.out hsz) (fun c hc => HQ.out c (by rw [List.take_of_length_le (by simp)]; exact hc)))
      go_wp2
      go_ret
      exact ⟨by rw [hx.out]; rfl, (Below.refl _ _).alloc (Nat.le_refl _) _⟩
end Go.Proofs.YtcdjnkeomaidaaaGreat

/-
  strings.Cut at one byte, sign.Word, sign.Kind: walks, for every text. Conditions: a text within a row's reach.
-/
namespace Go.Proofs.YtcdjnkeomaidaaaGreat
open Go.RowKit
set_option linter.unusedVariables false

theorem indexByte_lt : ∀ (l : List UInt8) (c : UInt8), -1 ≤ Lib.indexByte l c ∧ Lib.indexByte l c < l.length
  | [], c => by simp [Lib.indexByte]
  | b :: l, c => by
    have ih := indexByte_lt l c
    unfold Lib.indexByte
    split
    · simp
    · split <;> simp <;> omega
/-- Where a byte stands first; nowhere: -1. -/
def byteAt (s : ByteArray) (c : UInt8) : Int := Lib.indexByte s.data.toList c
theorem byteAt_lt (s : ByteArray) (c : UInt8) : -1 ≤ byteAt s c ∧ byteAt s c < s.size := by
  have := indexByte_lt s.data.toList c
  simpa [byteAt] using this
def cutV (s : ByteArray) (c : UInt8) : ByteArray × ByteArray × Bool :=
  if 0 ≤ byteAt s c then (s.extract 0 (byteAt s c).toNat, s.extract ((byteAt s c).toNat + 1) s.size, true) else (s, ⟨#[]⟩, false)
def cutT (r : ByteArray × ByteArray × Bool) : Value := .tuple #[.string r.1, .string r.2.1, .bool r.2.2]

set_option maxHeartbeats 1000000 in
theorem lite_cut (s : ByteArray) (c : UInt8) (w : World) (hs : s.size ≤ 140737488351232) : Calls Tryz.prog 89 #[.string s, .string ⟨#[c]⟩] w (Bel (cutT (cutV s c)) w) := by
  have hb := byteAt_lt s c
  by_cases h : 0 ≤ byteAt s c
  · obtain ⟨k, hk⟩ := Int.eq_ofNat_of_zero_le h
    have hx := Lib.hid (show cutV s c = (s.extract 0 k, s.extract (k + 1) s.size, true) by unfold cutV; rw [if_pos h, hk]; rfl)
    have hi := Lib.hid (show Lib.indexByte s.data.toList c = (k : Int) from hk)
    have hlt : k < s.size := by omega
    clear hb h hk
    go_enter Tryz.func89, Tryz.ntmps89
    go_wp2_with fail
    refine (Tryz.stringslite_Index_one s c w).mono ?_
    rintro e w' ⟨rfl, rfl⟩
    rw [hi.out]
    go_wp2
    go_quiet (fail)
    go_wp2
    go_ret3
    exact ⟨by rw [hx.out]; rfl, below_drewN (Below.refl _ _) _⟩
  · have hx := Lib.hid (show cutV s c = (s, ⟨#[]⟩, false) from if_neg h)
    have hi := Lib.hid (show Lib.indexByte s.data.toList c = -1 by unfold byteAt at h hb; omega)
    clear hb h
    go_enter Tryz.func89, Tryz.ntmps89
    go_wp2_with fail
    refine (Tryz.stringslite_Index_one s c w).mono ?_
    rintro e w' ⟨rfl, rfl⟩
    rw [hi.out]
    go_wp2
    go_ret3
    exact ⟨by rw [hx.out]; rfl, Below.refl _ _⟩
theorem str_cut (s : ByteArray) (c : UInt8) (w : World) (hs : s.size ≤ 140737488351232) : Calls Tryz.prog 82 #[.string s, .string ⟨#[c]⟩] w (Bel (cutT (cutV s c)) w) := by
  have H := Lib.hid (lite_cut s c w hs)
  go_enter Tryz.func82, Tryz.ntmps82
  go_wp2_with fail
  refine H.out.mono ?_
  rintro e w' ⟨rfl, hb⟩
  have HB := Lib.hid hb
  clear hb
  unfold cutT
  go_wp2
  go_ret3
  exact ⟨rfl, HB.out⟩

/-- A kit's name, or a kind's word. -/
def wordB (s : ByteArray) : Bool := madeB s 16 smallR (fun r => smallR r || digitR r)
theorem sign_Word (s : ByteArray) (w : World) (hs : s.size ≤ 140737488351232) : Calls Tryz.prog 62 #[.string s] w (Bel (.bool (wordB s)) w) := by
  have hF : IsPred w 78 #[] smallR := ⟨fun r w1 _ => sign_small r w1, fun args w1 => by kernel_rfl, fun r h => by simp [smallR]; omega⟩
  have hG : IsPred w 79 #[] (fun r => smallR r || digitR r) := ⟨fun r w1 _ => sign_word1 r w1, fun args w1 => by kernel_rfl, fun r h => by simp [smallR, digitR]; omega⟩
  have H := Lib.hid (sign_made s 16 _ _ _ _ _ _ w hs hF hG)
  clear hF hG
  go_enter Tryz.func62, Tryz.ntmps62
  go_wp2_with fail
  refine H.out.mono ?_
  rintro e w' ⟨rfl, hb⟩
  have HB := Lib.hid hb
  clear hb
  go_wp2
  go_ret
  exact ⟨rfl, HB.out⟩

/-- A kind's name, cut. -/
def kindV (s : ByteArray) : ByteArray × ByteArray × Bool :=
  if (cutV s 46).2.2 && wordB (cutV s 46).1 && wordB (cutV s 46).2.1 then ((cutV s 46).1, (cutV s 46).2.1, true) else (⟨#[]⟩, ⟨#[]⟩, false)
theorem cut_size (s : ByteArray) (c : UInt8) : (cutV s c).1.size ≤ s.size ∧ (cutV s c).2.1.size ≤ s.size := by
  unfold cutV
  split
  · exact ⟨by simp [ByteArray.size_extract]; omega, by simp [ByteArray.size_extract]⟩
  · exact ⟨Nat.le_refl _, Nat.zero_le _⟩
theorem sign_Kind (s : ByteArray) (w : World) (hs : s.size ≤ 140737488351232) : Calls Tryz.prog 64 #[.string s] w (Bel (cutT (kindV s)) w) := by
  have H := Lib.hid (str_cut s 46 w hs)
  have hsz := cut_size s 46
  generalize hr : cutV s 46 = r at *
  obtain ⟨a, b, ok⟩ := r
  have hk : kindV s = if ok && wordB a && wordB b then (a, b, true) else (⟨#[]⟩, ⟨#[]⟩, false) := by unfold kindV; rw [hr]
  have HK := Lib.hid hk
  clear hr hk
  simp only at hsz
  obtain ⟨ha, hb⟩ := hsz
  cases ok
  · have hx := Lib.hid (HK.out.trans (by simp; exact rfl))
    go_enter Tryz.func64, Tryz.ntmps64
    go_wp2_with fail
    refine H.out.mono ?_
    rintro e w1 ⟨rfl, hb1⟩
    have HB := Lib.hid hb1
    clear hb1
    unfold cutT
    go_wp2
    go_ret3
    exact ⟨by rw [hx.out]; rfl, HB.out⟩
  · cases hwa : wordB a
    · have hx := Lib.hid (HK.out.trans (by simp [hwa]; exact rfl))
      go_enter Tryz.func64, Tryz.ntmps64
      go_wp2_with fail
      refine H.out.mono ?_
      rintro e w1 ⟨rfl, hb1⟩
      have HB := Lib.hid hb1
      clear hb1
      unfold cutT
      go_wp2_with fail
      refine (sign_Word a w1 (by omega)).mono ?_
      rintro e w2 ⟨rfl, hb2⟩
      rw [hwa]
      have HB2 := Lib.hid hb2
      clear hb2
      go_wp2
      go_ret3
      exact ⟨by rw [hx.out]; rfl, HB.out.trans (HB2.out.mono HB.out.size)⟩
    · cases hwb : wordB b
      all_goals
        have hx := Lib.hid (HK.out.trans (by simp [hwa, hwb]; exact rfl))
        go_enter Tryz.func64, Tryz.ntmps64
        go_wp2_with fail
        refine H.out.mono ?_
        rintro e w1 ⟨rfl, hb1⟩
        have HB := Lib.hid hb1
        clear hb1
        unfold cutT
        go_wp2_with fail
        refine (sign_Word a w1 (by omega)).mono ?_
        rintro e w2 ⟨rfl, hb2⟩
        rw [hwa]
        have HB2 := Lib.hid hb2
        clear hb2
        go_wp2_with fail
        refine (sign_Word b w2 (by omega)).mono ?_
        rintro e w3 ⟨rfl, hb3⟩
        rw [hwb]
        have HB3 := Lib.hid (HB.out.trans ((HB2.out.trans (hb3.mono HB2.out.size)).mono HB.out.size))
        clear hb3
        go_wp2
        go_ret3
        exact ⟨by rw [hx.out]; rfl, HB3.out⟩
end Go.Proofs.YtcdjnkeomaidaaaGreat

/-
  Rows of kits: as data, how they lie in memory; kit.rising, kit.may, kit.May, kit.copied on rows that may be: walks. Conditions: none.
-/
namespace Go.Proofs.YtcdjnkeomaidaaaGreat
open Go.RowKit
set_option linter.unusedVariables false

structure RowD where
  kind : ByteArray
  min : Int
  max : Int
  num : Bool
  text : Int
  abil : List ByteArray
/-- Texts one after the other. -/
def NamesIn (w : World) (S : Nat → Prop) (l : List ByteArray) (A : Option Addr) : Prop :=
  0 < l.length → ∃ b o, A = some ⟨b, o, none⟩ ∧ S b ∧ ∀ j, j < l.length → w.cell? ⟨b, o + j, none⟩ = some (.string (l.getD j ByteArray.empty))
theorem NamesIn.keep {w w' : World} {S S' : Nat → Prop} {l : List ByteArray} {A : Option Addr} (h : NamesIn w S l A) (hk : ∀ b o, S b → w'.cell? ⟨b, o, none⟩ = w.cell? ⟨b, o, none⟩) (hS : ∀ b, S b → S' b) : NamesIn w' S' l A := fun hl => by
  obtain ⟨b, o, e, hs, hc⟩ := h hl
  exact ⟨b, o, e, hS b hs, fun j hj => (hk b _ hs).trans (hc j hj)⟩
theorem NamesIn.below {w w' : World} {B : Nat} {l : List ByteArray} {A : Option Addr} (h : NamesIn w (· < B) l A) (hb : Below B w w') : NamesIn w' (· < B) l A :=
  h.keep (fun b o hs => hb.cell (p := ⟨b, o, none⟩) hs) (fun _ h => h)

/-- The abilities' names, in order. -/
def allAbil : List ByteArray := [⟨#[76, 105, 116, 101, 114, 97, 108]⟩, ⟨#[83, 116, 114, 105, 99, 116]⟩, ⟨#[76, 97, 122, 121]⟩, ⟨#[66, 105, 110, 100, 101, 114]⟩, ⟨#[85, 115, 101, 114]⟩, ⟨#[67, 97, 108, 108, 101, 114]⟩, ⟨#[80, 117, 114, 101]⟩, ⟨#[84, 111, 116, 97, 108]⟩, ⟨#[83, 111, 114, 116, 101, 100]⟩, ⟨#[83, 117, 103, 97, 114]⟩, ⟨#[70, 114, 97, 109, 101, 100]⟩]
def abilCells : Array Value := #[.string ⟨#[76, 105, 116, 101, 114, 97, 108]⟩, .string ⟨#[83, 116, 114, 105, 99, 116]⟩, .string ⟨#[76, 97, 122, 121]⟩, .string ⟨#[66, 105, 110, 100, 101, 114]⟩, .string ⟨#[85, 115, 101, 114]⟩, .string ⟨#[67, 97, 108, 108, 101, 114]⟩, .string ⟨#[80, 117, 114, 101]⟩, .string ⟨#[84, 111, 116, 97, 108]⟩, .string ⟨#[83, 111, 114, 116, 101, 100]⟩, .string ⟨#[83, 117, 103, 97, 114]⟩, .string ⟨#[70, 114, 97, 109, 101, 100]⟩]
theorem kit_abilities (w : World) : Calls Tryz.prog 90 #[] w fun e w' => e = .returned (.slice (some ⟨w.heap.size, 0, none⟩) 11 11) ∧ w.alloc (.cells abilCells 9) = w' := by
  go_enter Tryz.func90, Tryz.ntmps90
  go_wp2
  go_ret
  exact ⟨rfl, rfl⟩
theorem abil_cell (w : World) {w1 : World} {B : Nat} (hb : Below B (w.alloc (.cells abilCells 9)) w1) (hB : w.heap.size < B) : ∀ j, j < allAbil.length → w1.cell? ⟨w.heap.size, 0 + j, none⟩ = some (.string (allAbil.getD j ByteArray.empty)) := by
  intro j hj
  rw [Nat.zero_add, box_cell hb hB]
  have hj' : j < 11 := hj
  rcases (show j = 0 ∨ j = 1 ∨ j = 2 ∨ j = 3 ∨ j = 4 ∨ j = 5 ∨ j = 6 ∨ j = 7 ∨ j = 8 ∨ j = 9 ∨ j = 10 by omega) with rfl | rfl | rfl | rfl | rfl | rfl | rfl | rfl | rfl | rfl | rfl <;> rfl

/-- Are names some of the abilities, in order, each once, behind a place? -/
def risingF : List ByteArray → Int → Bool
  | [], _ => true
  | s :: r, last => if Lib.idxOfS allAbil s ≤ last then false else risingF r (Lib.idxOfS allAbil s)

set_option maxHeartbeats 1000000 in
theorem kit_rising (l : List ByteArray) (A : Option Addr) (c : Nat) (w : World) (hlen : l.length ≤ 140737488351232) (hl : NamesIn w (· < w.heap.size) l A) (hr : risingF l (-1) = true) :
    Calls Tryz.prog 87 #[.slice A l.length c] w (Bel (.bool true) w) := by
  have HL := Lib.hid hl
  have HR := Lib.hid hr
  clear hl hr
  go_enter Tryz.func87, Tryz.ntmps87
  go_wp2_with (go_at_call 90; refine (kit_abilities _).mono ?_; rintro e w' ⟨rfl, rfl⟩)
  go_loop [4, 11] (fun s4 s11 => ∃ (k : Nat) (last : Int), k ≤ l.length ∧ s11 = .int .i64 (k : Int) ∧ s4 = .int .i64 last ∧ risingF (l.drop k) last = true) (fun _ s11 => l.length - (intOf s11).toNat)
  case atStart => exact ⟨0, -1, Nat.zero_le _, rfl, rfl, by simpa using HR.out⟩
  case round =>
    obtain ⟨k, last, hk, rfl, rfl, hr⟩ := hrel
    by_cases hlt : k < l.length
    · obtain ⟨b, o, rfl, hb, hc⟩ := HL.out (by omega)
      have hck := (World.cell?_alloc_lt w (.cells abilCells 9) ⟨b, o + k, none⟩ hb).trans (hc k hlt)
      rw [List.drop_eq_getElem_cons hlt, risingF] at hr
      have hget : l.getD k ByteArray.empty = l[k] := by simp [hlt]
      rw [hget] at hck
      have hidx : ¬ Lib.idxOfS allAbil l[k] ≤ last := by
        intro h; rw [if_pos h] at hr; cases hr
      rw [if_neg hidx] at hr
      have HRR := Lib.hid hr
      clear hr hc hget
      generalize hx : Lib.idxOfS allAbil l[k] = ix at *
      have HX := Lib.hid hx
      clear hx
      go_wp2_with fail
      refine (Tryz.slices_Index_string w.heap.size 0 11 11 allAbil l[k] _ (by decide) (by decide) (abil_cell w (Below.refl (w.heap.size + 1) _) (by omega))).mono ?_
      rintro e w' ⟨rfl, rfl⟩
      rw [show allAbil.take 11 = allAbil from rfl, HX.out]
      go_wp2
      go_round
      case rel => exact ⟨k + 1, ix, by omega, by go_num, rfl, HRR.out⟩
      case measure => simp [intOf]; omega
    · obtain rfl : k = l.length := by omega
      clear hr
      go_wp2
      go_ret
      exact ⟨rfl, (Below.refl _ _).alloc (Nat.le_refl _) _⟩

theorem fault_none (w : World) : Calls Tryz.prog 61 #[.int .i64 0] w fun e w' => e = .returned .nilIface ∧ w = w' := by
  go_enter Tryz.func61, Tryz.ntmps61
  go_wp2
  go_ret
  exact ⟨rfl, rfl⟩
end Go.Proofs.YtcdjnkeomaidaaaGreat

/-
  kit.may, kit.May, kit.copied on rows that may be: walks. Conditions: the row is one that may be.
-/
namespace Go.Proofs.YtcdjnkeomaidaaaGreat
open Go.RowKit
set_option linter.unusedVariables false

def totalName : ByteArray := ⟨#[84, 111, 116, 97, 108]⟩
def pureName : ByteArray := ⟨#[80, 117, 114, 101]⟩
/-- A row that may be. -/
structure RowD.ok (r : RowD) : Prop where
  kind : (kindV r.kind).2.2 = true
  size : r.kind.size ≤ 140737488351232
  min0 : 0 ≤ r.min
  min1 : r.min ≤ 1023
  max : r.max = -1 ∨ (r.min ≤ r.max ∧ r.max ≤ 1023)
  text0 : 0 ≤ r.text
  text1 : r.text ≤ 4
  names : r.text = 3 → r.min ≠ 0
  len : 0 < r.abil.length ∧ r.abil.length ≤ 140737488351
  rising : risingF r.abil (-1) = true
  total : Lib.containsS r.abil totalName = true → Lib.containsS r.abil pureName = true
def RowD.val (r : RowD) (A : Option Addr) (c : Nat) : Value := .agg #[.string r.kind, .int .i64 r.min, .int .i64 r.max, .bool r.num, .int .i64 r.text, .slice A r.abil.length c]

theorem contains_of {w : World} {S : Nat → Prop} {l : List ByteArray} {A : Option Addr} (h : NamesIn w S l A) (h0 : 0 < l.length) (hlen : l.length ≤ 9223372036854775807) (c : Nat) (x : ByteArray) :
    Calls Tryz.prog 88 #[.slice A l.length c, .string x] w fun e w' => e = .returned (.bool (Lib.containsS l x)) ∧ w = w' := by
  obtain ⟨b, o, rfl, hb, hc⟩ := h h0
  refine (Tryz.slices_Contains_string b o l.length c l x w (Nat.le_refl _) hlen hc).mono ?_
  rintro e w' ⟨rfl, rfl⟩
  rw [List.take_length]
  exact ⟨rfl, rfl⟩

theorem triple_true (t : ByteArray × ByteArray × Bool) (h : t.2.2 = true) : ∃ a b, t = (a, b, true) := by obtain ⟨x, y, z⟩ := t; simp at h; subst h; exact ⟨x, y, rfl⟩

set_option maxRecDepth 100000 in
set_option maxHeartbeats 4000000 in
theorem kit_may (r : RowD) (hr : r.ok) (A : Option Addr) (c : Nat) (w : World) (hA : NamesIn w (· < w.heap.size) r.abil A) :
    Calls Tryz.prog 81 #[r.val A c] w (Bel (.int .i64 0) w) := by
  have HA := Lib.hid hA
  have hk := Lib.hid (sign_Kind r.kind (w.alloc (.cells #[.string r.kind, .int .i64 r.min, .int .i64 r.max, .bool r.num, .int .i64 r.text, .slice A r.abil.length c] 90)) hr.size)
  have hkk := Lib.hid hr.kind
  obtain ⟨k1, k2, hkv⟩ : ∃ a b, kindV r.kind = (a, b, true) := triple_true _ hr.kind
  have HKV := Lib.hid hkv
  have HR := Lib.hid hr.rising
  have HT := Lib.hid hr.total
  have hl1 := hr.len.1
  have hl2 := hr.len.2
  have g1 := hr.min0
  have g2 := hr.min1
  have g4 := hr.text0
  have g5 := hr.text1
  have hmx := Lib.hid hr.max
  have hnm := Lib.hid hr.names
  obtain ⟨kind, mn, mx, nm, tx, ab⟩ := r
  simp only at *
  clear hA hr hkv
  have d1 : decide (mn < 0) = false := by simpa using g1
  have d2 : decide (tx < 0) = false := by simpa using g4
  have d3 : decide (4 < tx) = false := by simpa using g5
  have hbx : Hid (Below w.heap.size w (w.alloc (.cells #[.string kind, .int .i64 mn, .int .i64 mx, .bool nm, .int .i64 tx, .slice A ab.length c] 90))) := (Below.refl _ _).alloc (Nat.le_refl _) _
  unfold RowD.val
  go_enter Tryz.func81, Tryz.ntmps81
  go_wp2_with fail
  refine hk.out.mono ?_
  rintro e w1 ⟨rfl, hb1⟩
  rw [HKV.out]
  unfold cutT
  have c1 := box_cell hb1 (by simp) 1
  have c2 := box_cell hb1 (by simp) 2
  have c4 := box_cell hb1 (by simp) 4
  have c5 := box_cell hb1 (by simp) 5
  simp at c1 c2 c4 c5
  have HB1 := Lib.hid hb1
  have hs1 := hb1.size
  rw [size_alloc] at hs1
  clear hb1
  have hmax : (mx != -1) = false ∨ ((mx != -1) = true ∧ decide (mx < mn) = false ∧ decide (1023 < mx) = false) := by
    by_cases h : mx = -1
    · exact .inl (by simpa using h)
    · rcases hmx.out with h' | h'
      · exact absurd h' h
      · exact .inr ⟨by simpa using h, by simp; omega, by simp; omega⟩
  have hname : (tx == 3) = false ∨ ((tx == 3) = true ∧ (mn == 0) = false) := by
    by_cases h : tx = 3
    · exact .inr ⟨by simpa using h, by simpa using hnm.out h⟩
    · exact .inl (by simpa using h)
  have hris := Lib.hid (kit_rising ab A c w1 (by omega) ((HA.out.below ((Below.refl _ _).alloc (Nat.le_refl _) _ |>.trans (HB1.out.mono (by simp)))).keep (fun _ _ _ => rfl) (fun b hb => by have : b < w.heap.size := hb; show b < w1.heap.size; omega)) HR.out)
  have hA1 := Lib.hid ((HA.out.below ((Below.refl _ _).alloc (Nat.le_refl _) _ |>.trans (HB1.out.mono (by simp)))))
  have fin : ∀ w2 w3 : World, Below w1.heap.size w1 w2 → Below w2.heap.size w2 w3 → Below w.heap.size w w3 := fun w2 w3 h2 h3 => (hbx.out.trans (HB1.out.mono (by simp))).trans ((h2.trans (h3.mono h2.size)).mono (by omega))
  have FIN := Lib.hid fin
  clear fin
  rcases hmax with m1 | ⟨m1, m2, m3⟩ <;> rcases hname with n1 | ⟨n1, n2⟩
  all_goals
    go_wp2_with fail
    refine hris.out.mono ?_
    rintro e w2 ⟨rfl, hb2⟩
    have cc5 := (hb2.cell (p := ⟨w.heap.size, 5, none⟩) (show w.heap.size < w1.heap.size by omega)).trans c5
    have hA2 := Lib.hid (hA1.out.below (hb2.mono (by omega)))
    have HB2 := Lib.hid hb2
    clear hb2
    go_wp2_with fail
    refine (contains_of hA2.out hl1 (by omega) c totalName).mono ?_
    rintro e w' ⟨rfl, rfl⟩
    cases ht : Lib.containsS ab totalName
    · go_wp2
      go_ret
      exact ⟨rfl, FIN.out _ _ HB2.out (Below.refl _ _)⟩
    · have hp := HT.out ht
      go_wp2_with fail
      refine (contains_of hA2.out hl1 (by omega) c pureName).mono ?_
      rintro e w' ⟨rfl, rfl⟩
      rw [hp]
      go_wp2
      go_ret
      exact ⟨rfl, FIN.out _ _ HB2.out (Below.refl _ _)⟩

theorem kit_May (r : RowD) (hr : r.ok) (A : Option Addr) (c : Nat) (w : World) (hA : NamesIn w (· < w.heap.size) r.abil A) :
    Calls Tryz.prog 63 #[r.val A c] w (Bel .nilIface w) := by
  have HA := Lib.hid hA
  have HR := Lib.hid hr
  have hbx : Hid (Below w.heap.size w (w.alloc (.cells #[.string r.kind, .int .i64 r.min, .int .i64 r.max, .bool r.num, .int .i64 r.text, .slice A r.abil.length c] 90))) := (Below.refl _ _).alloc (Nat.le_refl _) _
  have hm := Lib.hid (kit_may r hr A c (w.alloc (.cells #[.string r.kind, .int .i64 r.min, .int .i64 r.max, .bool r.num, .int .i64 r.text, .slice A r.abil.length c] 90)) ((HA.out.below hbx.out).keep (fun _ _ _ => rfl) (fun b hb => by have : b < w.heap.size := hb; simp; omega)))
  clear hA hr
  unfold RowD.val at *
  go_enter Tryz.func63, Tryz.ntmps63
  go_wp2_with fail
  refine hm.out.mono ?_
  rintro e w1 ⟨rfl, hb1⟩
  have HB := Lib.hid (hbx.out.trans (hb1.mono (by simp)))
  clear hb1
  go_wp2_with (go_at_call 61; refine (fault_none _).mono ?_; rintro e w' ⟨rfl, rfl⟩)
  go_ret
  exact ⟨rfl, HB.out⟩

end Go.Proofs.YtcdjnkeomaidaaaGreat

/-
  kit.copied: a walk. Conditions: the row lies in memory.
-/
namespace Go.Proofs.YtcdjnkeomaidaaaGreat
open Go.RowKit
set_option linter.unusedVariables false

/-- A row in memory of its own. -/
def CopiedPost (r : RowD) (w : World) (e : Ending) (w' : World) : Prop := ∃ A c, e = .returned (r.val A c) ∧ NamesIn w' (fresh w w') r.abil A ∧ Below w.heap.size w w'
theorem names_of_own {w : World} {base g0 g1 : Nat} {l : List ByteArray} {v : Value} (h : w.ownsRow base 9 1 v l.length (l.map Value.string)) (h0 : g0 ≤ base) (h1 : w.heap.size ≤ g1) :
    ∃ A c, v = .slice A l.length c ∧ NamesIn w (fun b => g0 ≤ b ∧ b < g1) l A := by
  rcases h.2 with ⟨rfl, h2⟩ | ⟨g, cap, cur, rfl, _⟩
  · exact ⟨none, 0, by rw [h2], fun h => by omega⟩
  · have hlt := h.lt g rfl
    exact ⟨_, _, rfl, fun _ => ⟨g, 0, rfl, ⟨by omega, by omega⟩, fun j hj => by
      rw [Nat.zero_add, h.cellAt j (by omega)]; simp [hj]⟩⟩

set_option maxHeartbeats 400000 in
theorem kit_copied (r : RowD) (h0 : 0 < r.abil.length) (h1 : r.abil.length ≤ 140737488351) (A : Option Addr) (c : Nat) (w : World) (hA : NamesIn w (· < w.heap.size) r.abil A) :
    Calls Tryz.prog 65 #[r.val A c] w (CopiedPost r w) := by
  have HA := Lib.hid hA
  have hbx : Hid (Below w.heap.size w ((w.alloc (.cells #[.string r.kind, .int .i64 r.min, .int .i64 r.max, .bool r.num, .int .i64 r.text, .slice A r.abil.length c] 90)).alloc (.cells #[.string ⟨#[]⟩, .int .i64 0, .int .i64 0, .bool false, .int .i64 0, .slice none 0 0] 90))) := ((Below.refl _ _).alloc (Nat.le_refl _) _).alloc (by simp) _
  obtain ⟨b, o, rfl, hb, hc⟩ := hA h0
  have hcl := Lib.hid (Tryz.slices_Clone_string b o r.abil.length c r.abil ((w.alloc (.cells #[.string r.kind, .int .i64 r.min, .int .i64 r.max, .bool r.num, .int .i64 r.text, .slice (some ⟨b, o, none⟩) r.abil.length c] 90)).alloc (.cells #[.string ⟨#[]⟩, .int .i64 0, .int .i64 0, .bool false, .int .i64 0, .slice none 0 0] 90)) (Nat.le_refl _) (by omega) (fun j hj => (hbx.out.cell (p := ⟨b, o + j, none⟩) hb).trans (hc j hj)))
  clear hA hc
  unfold RowD.val
  go_enter Tryz.func65, Tryz.ntmps65
  go_wp2_with fail
  refine hcl.out.mono ?_
  rintro e w1 ⟨v, rfl, hown, _, hb1⟩
  rw [List.take_length] at hown
  have hsz2 : w.heap.size + 2 ≤ ((w.alloc (.cells #[.string r.kind, .int .i64 r.min, .int .i64 r.max, .bool r.num, .int .i64 r.text, .slice (some ⟨b, o, none⟩) r.abil.length c] 90)).alloc (.cells #[.string ⟨#[]⟩, .int .i64 0, .int .i64 0, .bool false, .int .i64 0, .slice none 0 0] 90)).heap.size := by simp
  obtain ⟨A1, c1, rfl, hA1⟩ := names_of_own hown (g0 := w.heap.size + 2) (g1 := w1.heap.size) hsz2 (Nat.le_refl _)
  have hs1 := hb1.size
  have hg := heap_alloc2 w (.cells #[.string r.kind, .int .i64 r.min, .int .i64 r.max, .bool r.num, .int .i64 r.text, .slice (some ⟨b, o, none⟩) r.abil.length c] 90) (.cells #[.string ⟨#[]⟩, .int .i64 0, .int .i64 0, .bool false, .int .i64 0, .slice none 0 0] 90)
  have b0 := (hb1.block w.heap.size (by simp; omega)).trans hg.1
  have b1 := (hb1.block (w.heap.size + 1) (by simp)).trans hg.2
  have HB := Lib.hid (hbx.out.trans (hb1.mono (by simp; omega)))
  have HA1 := Lib.hid hA1
  have e0 : ∀ j, w1.cell? ⟨w.heap.size, j, none⟩ = (#[.string r.kind, .int .i64 r.min, .int .i64 r.max, .bool r.num, .int .i64 r.text, .slice (some ⟨b, o, none⟩) r.abil.length c] : Array Value)[j]? := fun j => by simp [World.cell?, b0]
  have f0 : ∀ j, w1.cell? ⟨w.heap.size + 1, j, none⟩ = (#[.string ⟨#[]⟩, .int .i64 0, .int .i64 0, .bool false, .int .i64 0, .slice none 0 0] : Array Value)[j]? := fun j => by simp [World.cell?, b1]
  have g0 : ∀ j, w1.frozen? ⟨w.heap.size, j, none⟩ = false := fun j => by simp [World.frozen?, b0]
  have g1 : ∀ j, w1.frozen? ⟨w.heap.size + 1, j, none⟩ = false := fun j => by simp [World.frozen?, b1]
  simp at hs1
  have B1 := Lib.hid b1
  clear hown hb1 hA1 hg b0 b1 hsz2
  go_wp2
  have hres := run_loadVar_row (P := Tryz.prog) _ _ _ 90 _ _ _ (blk_set (blk_set (blk_set (blk_set (blk_set (blk_set (blk_far B1.out (p := ⟨w.heap.size, 5, none⟩) (by simp) (.slice A1 r.abil.length c1)) 0 (.string r.kind)) 1 (.int .i64 r.min)) 2 (.int .i64 r.max)) 3 (.bool r.num)) 4 (.int .i64 r.text)) 5 (.slice A1 r.abil.length c1)) Tryz.underlying90 rfl (by kernel_rfl)
  refine bodyPost_ret (fn := Tryz.f65) (v := r.val A1 c1) ?_ ?_ ?_
  · skip
    refine results_cell (p := 2) (ty := 90) (a := ⟨w.heap.size + 1, 0, none⟩) Tryz.results65 ?_ ?_
    · skip
      rfl
    · skip
      exact hres
  · rfl
  have hsz : (((((((w1.setCell ⟨w.heap.size, 5, none⟩ (.slice A1 r.abil.length c1)).setCell ⟨w.heap.size + 1, 0, none⟩ (.string r.kind)).setCell ⟨w.heap.size + 1, 1, none⟩ (.int .i64 r.min)).setCell ⟨w.heap.size + 1, 2, none⟩ (.int .i64 r.max)).setCell ⟨w.heap.size + 1, 3, none⟩ (.bool r.num)).setCell ⟨w.heap.size + 1, 4, none⟩ (.int .i64 r.text)).setCell ⟨w.heap.size + 1, 5, none⟩ (.slice A1 r.abil.length c1)).heap.size = w1.heap.size := by
    rw [size_set, size_set, size_set, size_set, size_set, size_set, size_set]
  refine ⟨A1, c1, rfl, HA1.out.keep (fun b o hb => ?_) (fun b hb => ⟨by have := hb.1; omega, by rw [hsz]; exact hb.2⟩), ?_⟩
  · skip
    have h2 := hb.1
    have n0 : b ≠ w.heap.size := by omega
    have n1 : b ≠ w.heap.size + 1 := by omega
    rw [cell_far _ _ (p := ⟨w.heap.size + 1, 5, none⟩) n1, cell_far _ _ (p := ⟨w.heap.size + 1, 4, none⟩) n1, cell_far _ _ (p := ⟨w.heap.size + 1, 3, none⟩) n1, cell_far _ _ (p := ⟨w.heap.size + 1, 2, none⟩) n1, cell_far _ _ (p := ⟨w.heap.size + 1, 1, none⟩) n1, cell_far _ _ (p := ⟨w.heap.size + 1, 0, none⟩) n1, cell_far _ _ (p := ⟨w.heap.size, 5, none⟩) n0]
  · skip
    exact (((((((HB.out.setCell (p := ⟨w.heap.size, 5, none⟩) (Nat.le_refl _) _).setCell (p := ⟨w.heap.size + 1, 0, none⟩) (Nat.le_succ _) _).setCell (p := ⟨w.heap.size + 1, 1, none⟩) (Nat.le_succ _) _).setCell (p := ⟨w.heap.size + 1, 2, none⟩) (Nat.le_succ _) _).setCell (p := ⟨w.heap.size + 1, 3, none⟩) (Nat.le_succ _) _).setCell (p := ⟨w.heap.size + 1, 4, none⟩) (Nat.le_succ _) _).setCell (p := ⟨w.heap.size + 1, 5, none⟩) (Nat.le_succ _) _)
end Go.Proofs.YtcdjnkeomaidaaaGreat

/-
  Laws on maps with text keys whose entries are written out: a literal's entries laid one by one, a look-up. Over any program. Conditions: none.
-/
namespace Go.Proofs.YtcdjnkeomaidaaaGreat
open Go.RowKit

section
variable {P : Program}
theorem run_check_str {K : TypeId} (hK : P.underlying K = some .string) (em : Bool) (s : ByteArray) (w : World) : (Instr.checkKey em 10000 K (.string s)).run P w = .ok () w := by
  have h : ∀ n, (Instr.checkKey em (n + 1) K (.string s)).run P w = .ok () w := fun n => by simp [Instr.checkKey, run_underlying hK]
  exact h 9999
theorem push_set {α : Type} (a : Array α) (x y : α) : (a.push x).setIfInBounds a.size y = a.push y := by
  apply Array.ext'
  simp
theorem alloc_set (w : World) (o o' : Obj) : { w.alloc o with heap := (w.alloc o).heap.setIfInBounds w.heap.size o' } = w.alloc o' := by
  show { w with heap := (w.heap.push o).setIfInBounds w.heap.size o' } = { w with heap := w.heap.push o' }
  rw [push_set]
theorem find_str {K : TypeId} (hK : P.underlying K = some .string) {s : ByteArray} {l : List MapEntry} {a : Option (Nat × Value)} (hf : Instr.findNow .string (.string s) l 0 = some a) (w : World) :
    (Instr.findKey K (.string s) l).run P w = .ok a w := by
  simp [Instr.findKey, run_underlying hK, Result.andThen, hf]
theorem get_map {w : World} {r : Nat} {es : Array MapEntry} {c : Nat} (hb : w.heap[r]? = some (.map es c)) : (getObj r).run P w = .ok (.map es c) w := by
  simp [getObj, Sem.run, hb]
theorem set_map {w : World} {r : Nat} {es : Array MapEntry} {c : Nat} (o : Obj) (hb : w.heap[r]? = some (.map es c)) : (setObj r o).run P w = .ok () { w with heap := w.heap.setIfInBounds r o } := by
  simp [setObj, Sem.run, hb]
theorem run_insert_new {T K E : TypeId} (hT : P.underlying T = some (.map K E)) (hK : P.underlying K = some .string) (es : Array MapEntry) (c : Nat) (s : ByteArray) (v : Value) (w : World)
    (hf : Instr.findNow .string (.string s) es.toList 0 = some none) :
    (Instr.mapUpdate T (.map (some w.heap.size)) (.string s) v).run P (w.alloc (.map es c)) = .ok () (w.alloc (.map (es.push ⟨.string s, v, c⟩) (c + 1))) := by
  have hb : (w.alloc (.map es c)).heap[w.heap.size]? = some (.map es c) := heap_alloc_new w _
  unfold Instr.mapUpdate
  simp only [Sem.run_bind, run_underlying hT, Result.andThen_ok, get_map hb, run_check_str hK, find_str hK hf, set_map _ hb, alloc_set]
/-- A literal's entry, laid into the newest block. -/
theorem wpList_insert_new {ops : Array Oper} {rest : List Oper} {o : Oper} {a : Act} {Q : Exit → Act → World → Prop} (w : World) (hgd : o.guard = none) (T K E : TypeId) (m k v : Operand) (ho : o.op = .insert T m k v)
    (hT : P.underlying T = some (.map K E)) (hK : P.underlying K = some .string) (es : Array MapEntry) (c : Nat) (s : ByteArray) (hm : a.eval m = .map (some w.heap.size)) (hk : a.eval k = .string s)
    (hf : Instr.findNow .string (.string s) es.toList 0 = some none)
    (h : wpList P ops Q rest (a.put o.dst undef) (w.alloc (.map (es.push ⟨.string s, a.eval v, c⟩) (c + 1)))) : wpList P ops Q (o :: rest) a (w.alloc (.map es c)) :=
  wpList_plain hgd fun K' hK' => by
    unfold Oper.wp execOp
    simp only [ho, hm, hk, Sem.run_bind, run_insert_new hT hK es c s (a.eval v) w hf, Result.andThen_ok, Sem.run_pure, Oper.upon]
    exact hK' _ _ h
/-- A look-up, with 'ok', in a map whose entries are known. -/
theorem run_lookup_hit {T K E : TypeId} (hT : P.underlying T = some (.map K E)) (hK : P.underlying K = some .string) {r : Nat} {es : Array MapEntry} {c : Nat} {s : ByteArray} {i : Nat} {v : Value} {w : World}
    (hb : w.heap[r]? = some (.map es c)) (hf : Instr.findNow .string (.string s) es.toList 0 = some (some (i, v))) :
    (Instr.lookup T (.map (some r)) (.string s) true).run P w = .ok (.tuple #[v, .bool true]) w := by
  unfold Instr.lookup
  simp [Sem.run_bind, run_underlying hT, Result.andThen_ok, get_map hb, run_check_str hK, find_str hK hf]
theorem run_lookup_miss {T K E : TypeId} (hT : P.underlying T = some (.map K E)) (hK : P.underlying K = some .string) {r : Nat} {es : Array MapEntry} {c : Nat} {s : ByteArray} {z : Value} {w : World}
    (hz : (zeroValue E).run P w = .ok z w) (hb : w.heap[r]? = some (.map es c)) (hf : Instr.findNow .string (.string s) es.toList 0 = some none) :
    (Instr.lookup T (.map (some r)) (.string s) true).run P w = .ok (.tuple #[z, .bool false]) w := by
  unfold Instr.lookup
  simp [Sem.run_bind, run_underlying hT, Result.andThen_ok, get_map hb, run_check_str hK, find_str hK hf, hz]
end
end Go.Proofs.YtcdjnkeomaidaaaGreat

/-
  kit.New: what its memory is like, and laws for its steps. Conditions: none.
-/
namespace Go.Proofs.YtcdjnkeomaidaaaGreat
open Go.RowKit
set_option linter.unusedVariables false

/-- A block of its own. -/
def setB (w : World) (r : Nat) (o : Obj) : World := { w with heap := w.heap.setIfInBounds r o }
theorem setB_size (w : World) (r : Nat) (o : Obj) : (setB w r o).heap.size = w.heap.size := by simp [setB]
theorem setB_far (w : World) {r k : Nat} (o : Obj) (h : k ≠ r) : (setB w r o).heap[k]? = w.heap[k]? := by
  simp [setB, Ne.symm h]
theorem setB_at {w : World} {r : Nat} (o : Obj) (h : r < w.heap.size) : (setB w r o).heap[r]? = some o := by
  simp [setB, h]
theorem setB_below {w0 w : World} {B : Nat} {r : Nat} (o : Obj) (h : Below B w0 w) (hr : B ≤ r) : Below B w0 (setB w r o) :=
  ⟨h.os, h.tape, h.output, by rw [setB_size]; exact h.size, fun k hk => by rw [setB_far _ _ (by omega)]; exact h.block k hk⟩
theorem setB_own {w : World} {r base : Nat} {e : TypeId} {size : Nat} {v : Value} {n : Nat} {xs : List Value} (o : Obj) (h : w.ownsRow base e size v n xs) (hr : r < base) : (setB w r o).ownsRow base e size v n xs := by
  refine ⟨h.1, ?_⟩
  rcases h.2 with h2 | ⟨g, cap, cur, e1, e2, e3, e4⟩
  · exact .inl h2
  · exact .inr ⟨g, cap, cur, e1, e2, by rw [setB_far _ _ (by omega)]; exact e3, e4⟩

section
variable {P : Program}
theorem run_update_new {T K E : TypeId} (hT : P.underlying T = some (.map K E)) (hK : P.underlying K = some .string) {r : Nat} (es : Array MapEntry) (c : Nat) (s : ByteArray) (v : Value) (w : World) (hb : w.heap[r]? = some (.map es c))
    (hf : Instr.findNow .string (.string s) es.toList 0 = some none) :
    (Instr.mapUpdate T (.map (some r)) (.string s) v).run P w = .ok () (setB w r (.map (es.push ⟨.string s, v, c⟩) (c + 1))) := by
  unfold Instr.mapUpdate
  simp only [Sem.run_bind, run_underlying hT, Result.andThen_ok, get_map hb, run_check_str hK, find_str hK hf, set_map _ hb]
  rfl
theorem wpList_update_new {ops : Array Oper} {rest : List Oper} {o : Oper} {a : Act} {Q : Exit → Act → World → Prop} (w : World) (hgd : o.guard = none) (T K E : TypeId) (m k v : Operand) (ho : o.op = .mapUpdate T m k v)
    (hT : P.underlying T = some (.map K E)) (hK : P.underlying K = some .string) {r : Nat} (es : Array MapEntry) (c : Nat) (s : ByteArray) (hm : a.eval m = .map (some r)) (hk : a.eval k = .string s) (hb : w.heap[r]? = some (.map es c))
    (hf : Instr.findNow .string (.string s) es.toList 0 = some none)
    (h : wpList P ops Q rest (a.put o.dst undef) (setB w r (.map (es.push ⟨.string s, a.eval v, c⟩) (c + 1)))) : wpList P ops Q (o :: rest) a w :=
  wpList_plain hgd fun K' hK' => by
    unfold Oper.wp execOp
    simp only [ho, hm, hk, Sem.run_bind, run_update_new hT hK es c s (a.eval v) w hb hf, Result.andThen_ok, Sem.run_pure, Oper.upon]
    exact hK' _ _ h
end

theorem bytes_ne {a b : ByteArray} (h : a ≠ b) : (a == b) = false := by
  cases e : a == b
  · rfl
  · exact absurd ((MapKept.bytes_beq a b).mp e) h
theorem bytes_same (a : ByteArray) : (a == a) = true := (MapKept.bytes_beq a a).mpr rfl

/-- The entries of a kit's map. -/
def entr : List RowD → Nat → List MapEntry
  | [], _ => []
  | r :: l, j => ⟨.string r.kind, .int .i64 (j : Int), j⟩ :: entr l (j + 1)
theorem entr_snoc (l : List RowD) (r : RowD) : ∀ j, entr (l ++ [r]) j = entr l j ++ [⟨.string r.kind, .int .i64 ((j + l.length : Nat) : Int), j + l.length⟩] := by
  induction l with
  | nil => intro j; rfl
  | cons a l ih => intro j; simp only [List.cons_append, entr, ih, List.length_cons]; rw [show j + 1 + l.length = j + (l.length + 1) by omega]
theorem entr_push (l : List RowD) (r : RowD) : (entr l 0).toArray.push ⟨.string r.kind, .int .i64 (l.length : Int), l.length⟩ = (entr (l ++ [r]) 0).toArray := by
  rw [entr_snoc]; simp
theorem find_none (l : List RowD) (s : ByteArray) (h : ∀ r ∈ l, r.kind ≠ s) : ∀ j i, Instr.findNow .string (.string s) (entr l j) i = some none := by
  induction l with
  | nil => intro j i; rfl
  | cons a l ih =>
    intro j i
    have h1 : (s == a.kind) = false := bytes_ne (h a (by simp)).symm
    simp only [entr, Instr.findNow, Instr.sameNow, h1]
    exact ih (fun r hr => h r (by simp [hr])) _ _
theorem find_some (l : List RowD) (s : ByteArray) : ∀ (n : Nat) (hn : n < l.length), l[n].kind = s → (∀ m (hm : m < n), (l[m]'(by omega)).kind ≠ s) → ∀ j i, Instr.findNow .string (.string s) (entr l j) i = some (some (i + n, .int .i64 ((j + n : Nat) : Int))) := by
  induction l with
  | nil => intro n hn; simp at hn
  | cons a l ih =>
    intro n hn hk hm j i
    cases n with
    | zero =>
      have h1 : (s == a.kind) = true := by rw [show s = a.kind from hk.symm]; exact bytes_same _
      simp only [entr, Instr.findNow, Instr.sameNow, h1]; rfl
    | succ n =>
      have h1 : (s == a.kind) = false := bytes_ne (hm 0 (by omega)).symm
      simp only [entr, Instr.findNow, Instr.sameNow, h1]
      rw [ih n (by simpa using hn) (by simpa using hk) (fun m hm' => by simpa using hm (m + 1) (by omega)) (j + 1) (i + 1)]
      simp only [Option.some.injEq, Prod.mk.injEq, Value.int.injEq, true_and]
      omega

/-- A row in memory: its data, its list's place, its list's capacity. -/
structure RowAt where
  row : RowD
  at_ : Option Addr
  cap : Nat
def RowAt.cells (t : RowAt) : List Value := [.string t.row.kind, .int .i64 t.row.min, .int .i64 t.row.max, .bool t.row.num, .int .i64 t.row.text, .slice t.at_ t.row.abil.length t.cap]
theorem cells_one (t : RowAt) : ∀ u ∈ t.cells, u.oneCell' = true := by
  intro u hu
  simp only [RowAt.cells, List.mem_cons, List.not_mem_nil, or_false] at hu
  rcases hu with rfl | rfl | rfl | rfl | rfl | rfl <;> rfl
theorem flat_length (l : List RowAt) : (l.flatMap RowAt.cells).length = l.length * 6 := by
  induction l with
  | nil => rfl
  | cons a l ih => simp only [List.flatMap_cons, List.length_append, ih, List.length_cons, RowAt.cells]; simp; omega
theorem flat_at (l : List RowAt) : ∀ (k : Nat) (hk : k < l.length) (j : Nat), j < 6 → (l.flatMap RowAt.cells)[k * 6 + j]? = (l[k].cells)[j]? := by
  induction l with
  | nil => intro k hk; simp at hk
  | cons a l ih =>
    intro k hk j hj
    cases k with
    | zero =>
      simp only [List.flatMap_cons, List.getElem_cons_zero, Nat.zero_mul, Nat.zero_add]
      rw [List.getElem?_append_left (by simpa [RowAt.cells] using hj)]
    | succ k =>
      simp only [List.flatMap_cons, List.getElem_cons_succ]
      rw [List.getElem?_append_right (by simp [RowAt.cells]; omega)]
      rw [show (k + 1) * 6 + j - a.cells.length = k * 6 + j by simp [RowAt.cells]; omega]
      exact ih k (by simpa using hk) j hj

/-- Rows as an argument. -/
def RowsIn (w : World) (S : Nat → Prop) (ts : List RowAt) (A : Option Addr) : Prop :=
  0 < ts.length → ∃ b o, A = some ⟨b, o, none⟩ ∧ S b ∧ (∀ k (h : k < ts.length), (∀ j, j < 6 → w.cell? ⟨b, o + k * 6 + j, none⟩ = ts[k].cells[j]?) ∧ NamesIn w S ts[k].row.abil ts[k].at_)
theorem RowsIn.below {w w' : World} {B : Nat} {ts : List RowAt} {A : Option Addr} (h : RowsIn w (· < B) ts A) (hb : Below B w w') : RowsIn w' (· < B) ts A := fun hl => by
  obtain ⟨b, o, e, hs, hc⟩ := h hl
  exact ⟨b, o, e, hs, fun k hk => ⟨fun j hj => (hb.cell (p := ⟨b, _, none⟩) hs).trans ((hc k hk).1 j hj), (hc k hk).2.below hb⟩⟩

/-- What a kit's memory is: the map's block, the kit's block, the rows. -/
structure KitIn (w : World) (M KB : Nat) (name : ByteArray) (m : Value) (v : Value) (ts : List RowAt) : Prop where
  map : w.heap[M]? = some (.map (entr (ts.map RowAt.row) 0).toArray ts.length)
  kit : w.heap[KB]? = some (.cells #[.string name, v, .map (some M), m] 77)
  own : w.ownsRow (KB + 1) 90 6 v ts.length (ts.flatMap RowAt.cells)
  names : ∀ k (h : k < ts.length), NamesIn w (fun b => KB < b ∧ b < w.heap.size ∧ v.ownBlock ≠ some b) ts[k].row.abil ts[k].at_
theorem KitIn.below {w w' : World} {M KB : Nat} {name : ByteArray} {m v : Value} {ts : List RowAt} (h : KitIn w M KB name m v ts) (hb : Below w.heap.size w w') : KitIn w' M KB name m v ts := by
  have hlt : ∀ {k : Nat} {o : Obj}, w.heap[k]? = some o → k < w.heap.size := fun {k o} h => by
    rcases Nat.lt_or_ge k w.heap.size with h' | h'
    · exact h'
    · rw [Array.getElem?_eq_none h'] at h; cases h
  exact ⟨(hb.block _ (hlt h.map)).trans h.map, (hb.block _ (hlt h.kit)).trans h.kit, own_below h.own hb, fun k hk => (h.names k hk).keep (fun b o hs => hb.cell (p := ⟨b, o, none⟩) hs.2.1) (fun b hs => ⟨hs.1, Nat.lt_of_lt_of_le hs.2.1 hb.size, hs.2.2⟩)⟩
theorem heap_lt {w : World} {k : Nat} {o : Obj} (h : w.heap[k]? = some o) : k < w.heap.size := by
  rcases Nat.lt_or_ge k w.heap.size with h' | h'
  · exact h'
  · rw [Array.getElem?_eq_none h'] at h; cases h
theorem KitIn.map_lt {w : World} {M KB : Nat} {name : ByteArray} {m v : Value} {ts : List RowAt} (h : KitIn w M KB name m v ts) : M < w.heap.size := heap_lt h.map
theorem KitIn.kit_lt {w : World} {M KB : Nat} {name : ByteArray} {m v : Value} {ts : List RowAt} (h : KitIn w M KB name m v ts) : KB < w.heap.size := heap_lt h.kit
/-- A kit of which the map has one row more than the rows. -/
structure KitMid (w : World) (M KB : Nat) (name : ByteArray) (m : Value) (v : Value) (ts : List RowAt) (r : RowD) : Prop where
  map : w.heap[M]? = some (.map (entr (ts.map RowAt.row ++ [r]) 0).toArray (ts.length + 1))
  kit : w.heap[KB]? = some (.cells #[.string name, v, .map (some M), m] 77)
  own : w.ownsRow (KB + 1) 90 6 v ts.length (ts.flatMap RowAt.cells)
  names : ∀ k (h : k < ts.length), NamesIn w (fun b => KB < b ∧ b < w.heap.size ∧ v.ownBlock ≠ some b) ts[k].row.abil ts[k].at_
theorem KitIn.entry {w : World} {M KB : Nat} {name : ByteArray} {m v u : Value} {ts : List RowAt} (h : KitIn w M KB name m v ts) (hMK : M < KB) (r : RowD) {k : Nat} (hl : ts.length = k) (hu : u = .int .i64 (k : Int) := by rfl) :
    KitMid (setB w.drew M (.map ((entr (ts.map RowAt.row) 0).toArray.push ⟨.string r.kind, u, ts.length⟩) (ts.length + 1))) M KB name m v ts r := by
  subst hl hu
  refine ⟨?_, ?_, ?_, ?_⟩
  · rw [setB_at _ (show M < w.drew.heap.size from h.map_lt)]
    have := entr_push (ts.map RowAt.row) r
    rw [List.length_map] at this
    rw [this]
  · rw [setB_far _ _ (by omega)]; exact h.kit
  · exact setB_own _ (own_below h.own (Below.refl _ w).drew) (by omega)
  · intro k hk
    refine (h.names k hk).keep (fun b o hs => ?_) (fun b hs => ⟨hs.1, by rw [setB_size]; exact hs.2.1, hs.2.2⟩)
    exact World.cell?_of_block (a := ⟨b, o, none⟩) (by rw [setB_far _ _ (by have := hs.1; show b ≠ M; omega)]; rfl)
end Go.Proofs.YtcdjnkeomaidaaaGreat

/-
  kit.New: the step that adds a row. Conditions: none.
-/
namespace Go.Proofs.YtcdjnkeomaidaaaGreat
open Go.RowKit
set_option linter.unusedVariables false

theorem info_row : (Tryz.prog.info? 90).map (fun i => (i.zero, i.size, i.bytes)) = some (some (.agg #[.string ⟨#[]⟩, .int .i64 0, .int .i64 0, .bool false, .int .i64 0, .slice none 0 0]), 6, 72) := by kernel_rfl

theorem own_no {w : World} {base : Nat} {e : TypeId} {size : Nat} {v : Value} {n : Nat} {xs : List Value} (h : w.ownsRow base e size v n xs) {b : Nat} (hb : b < base) : v.ownBlock ≠ some b := fun e => by
  have := (h.lt b e).1; omega

theorem KitMid.copied {w5 w6 w7 : World} {M KB : Nat} {name : ByteArray} {m v : Value} {ts : List RowAt} {r : RowD} (h : KitMid w5 M KB name m v ts r) (hMK : M < KB) {A1 : Option Addr} {c1 g cap : Nat} {Y : Obj}
    (hb6 : Below w5.heap.size w5 w6) (hA1 : NamesIn w6 (fresh w5 w6) r.abil A1) (hgrow : (w6.alloc Y).grownBy w7 v.ownBlock) (hat : v.ownBlock = some g ∨ g = w6.heap.size + 1)
    (hown : w7.ownsRow (KB + 1) 90 6 (.slice (some ⟨g, 0, none⟩) (ts.length + 1) cap) (ts.length + 1) (ts.flatMap RowAt.cells ++ (RowAt.mk r A1 c1).cells)) :
    KitIn (w7.setCell ⟨KB, 1, none⟩ (.slice (some ⟨g, 0, none⟩) (ts.length + 1) cap)) M KB name m (.slice (some ⟨g, 0, none⟩) (ts.length + 1) cap) (ts ++ [⟨r, A1, c1⟩]) := by
  have hs6 := hb6.size
  have hs7 := hgrow.size
  rw [size_alloc] at hs7
  have hM := heap_lt h.map
  have hK := heap_lt h.kit
  have blk : ∀ b, b < w5.heap.size → v.ownBlock ≠ some b → w7.heap[b]? = w5.heap[b]? := fun b hb hne => by
    rw [hgrow.block b (by rw [size_alloc]; omega) (Ne.symm hne), Below.heap_alloc _ _ _ (by omega), hb6.block b hb]
  have blk6 : ∀ b, b < w6.heap.size → v.ownBlock ≠ some b → w7.heap[b]? = w6.heap[b]? := fun b hb hne => by
    rw [hgrow.block b (by rw [size_alloc]; omega) (Ne.symm hne), Below.heap_alloc _ _ _ (by omega)]
  have hg : KB + 1 ≤ g := (hown.lt g rfl).1
  have hvlt : ∀ b, v.ownBlock = some b → b < w5.heap.size := fun b e => (h.own.lt b e).2
  refine ⟨?_, ?_, ?_, ?_⟩
  · rw [Below.heap_setCell _ _ _ _ (show M ≠ KB by omega), blk M hM (own_no h.own (by omega)), h.map]
    simp
  · have := blk_set ((blk KB hK (own_no h.own (by omega))).trans h.kit) 1 (.slice (some ⟨g, 0, none⟩) (ts.length + 1) cap)
    simpa using this
  · have : (ts ++ [RowAt.mk r A1 c1]).flatMap RowAt.cells = ts.flatMap RowAt.cells ++ (RowAt.mk r A1 c1).cells := by simp
    rw [this, List.length_append]
    refine ⟨hown.1, ?_⟩
    rcases hown.2 with h2 | ⟨g', cap', cur, e1, e2, e3, e4⟩
    · exact .inl h2
    · exact .inr ⟨g', cap', cur, e1, e2, by rw [Below.heap_setCell _ _ _ _ (show g' ≠ KB by omega)]; exact e3, e4⟩
  · intro k hk
    rw [List.length_append] at hk
    have hlate : ∀ b, b ≠ KB → b < w6.heap.size → v.ownBlock ≠ some b → ∀ o, (w7.setCell ⟨KB, 1, none⟩ (.slice (some ⟨g, 0, none⟩) (ts.length + 1) cap)).cell? ⟨b, o, none⟩ = w6.cell? ⟨b, o, none⟩ := fun b h1 h2 h3 o => by
      rw [cell_far _ _ h1]; exact World.cell?_of_block (a := ⟨b, o, none⟩) (blk6 b h2 h3)
    by_cases hkt : k < ts.length
    · rw [List.getElem_append_left hkt]
      refine (h.names k hkt).keep (fun b o hs => ?_) (fun b hs => ⟨hs.1, by rw [size_set]; have := hs.2.1; omega, ?_⟩)
      · rw [hlate b (by have := hs.1; omega) (by have := hs.2.1; omega) hs.2.2]
        exact hb6.cell (p := ⟨b, o, none⟩) hs.2.1
      · rcases hat with e | e
        · have := hs.2.2; rw [e] at this; exact this
        · intro e'; injection e' with e'; have := hs.2.1; have e'' : g = b := e'; omega
    · have hkk : k = ts.length := by simp at hk; omega
      have : (ts ++ [RowAt.mk r A1 c1])[k]'(by simp; omega) = ⟨r, A1, c1⟩ := by subst hkk; simp
      rw [this]
      refine hA1.keep (fun b o hs => ?_) (fun b hs => ⟨by have := hs.1; omega, by rw [size_set]; have := hs.2; omega, ?_⟩)
      · exact hlate b (by have := hs.1; omega) hs.2 (fun e => by have := hvlt b e; have := hs.1; omega) o
      · intro e'; injection e' with e'
        have e'' : g = b := e'
        have := hs.1; have := hs.2
        rcases hat with e | e
        · have := hvlt g e; omega
        · omega
theorem KitMid.kit_lt {w : World} {M KB : Nat} {name : ByteArray} {m v : Value} {ts : List RowAt} {r : RowD} (h : KitMid w M KB name m v ts r) : KB < w.heap.size := heap_lt h.kit
theorem KitMid.drew {w : World} {M KB : Nat} {name : ByteArray} {m v : Value} {ts : List RowAt} {r : RowD} (h : KitMid w M KB name m v ts r) : KitMid w.drew M KB name m v ts r :=
  ⟨h.map, h.kit, own_below h.own (Below.refl _ w).drew, h.names⟩
theorem KitMid.store {w5 w6 w7 : World} {M KB : Nat} {name : ByteArray} {m v : Value} {ts : List RowAt} {r : RowD} (h : KitMid w5 M KB name m v ts r) {Y : Obj}
    (hb6 : Below w5.heap.size w5 w6) (hgrow : (w6.alloc Y).grownBy w7 v.ownBlock) : w7.cell? ⟨KB, 1, none⟩ = some v ∧ w7.frozen? ⟨KB, 1, none⟩ = false := by
  have hs6 := hb6.size
  have hK := heap_lt h.kit
  have blk : w7.heap[KB]? = w5.heap[KB]? := by
    rw [hgrow.block KB (by rw [size_alloc]; omega) (Ne.symm (own_no h.own (by omega))), Below.heap_alloc _ _ _ (by omega), hb6.block KB hK]
  rw [h.kit] at blk
  exact ⟨by simp [World.cell?, blk], by simp [World.frozen?, blk]⟩
end Go.Proofs.YtcdjnkeomaidaaaGreat

/-
  kit.New on rows that may be: a walk. Conditions: the rows may be, their kinds are of the kit and apart.
-/
namespace Go.Proofs.YtcdjnkeomaidaaaGreat
open Go.RowKit
set_option linter.unusedVariables false

/-- What kit.New has made. -/
def NewPost (name : ByteArray) (m : Value) (rs : List RowD) (w : World) (e : Ending) (w' : World) : Prop :=
  ∃ M v ts, w.heap.size ≤ M ∧ e = .returned (.tuple #[.pointer (some ⟨M + 1, 0, none⟩), .nilIface]) ∧ KitIn w' M (M + 1) name m v ts ∧ ts.map RowAt.row = rs ∧ Below w.heap.size w w'

set_option maxRecDepth 100000 in
set_option maxHeartbeats 4000000 in
theorem kit_new (name : ByteArray) (f : FuncId) (ts : List RowAt) (A : Option Addr) (c : Nat) (w : World) (hn : wordB name = true) (hns : name.size ≤ 140737488351232) (h0 : 0 < ts.length) (h1 : ts.length ≤ 1000000)
    (hok : ∀ k (h : k < ts.length), ts[k].row.ok ∧ (kindV ts[k].row.kind).1 = name ∧ ∀ m (h : m < k), (ts[m]'(by omega)).row.kind ≠ ts[k].row.kind) (hA : RowsIn w (· < w.heap.size) ts A) :
    Calls Tryz.prog 26 #[.string name, .slice A ts.length c, .func (.func f) #[] #[]] w (NewPost name (.func (.func f) #[] #[]) (ts.map RowAt.row) w) := by
  have HOK := Lib.hid hok
  have HA := Lib.hid hA
  have HN := Lib.hid hn
  have hw := Lib.hid (sign_Word name w hns)
  have hfn : ∀ w, (binOp .eql 75 (.func (.func f) #[] #[]) .nilFunc).run Tryz.prog w = .ok (.bool false) w := fun w => by kernel_rfl
  have hmk : ∀ w, (Instr.makeMap 74 none).run Tryz.prog w = .ok (.map (some w.heap.size)) (w.alloc (.map #[] 0)) := fun w => by kernel_rfl
  clear hok hA hn
  go_enter Tryz.func26, Tryz.ntmps26
  go_wp2_with fail
  refine hw.out.mono ?_
  rintro e w1 ⟨rfl, hb1⟩
  rw [HN.out]
  have HB1 := Lib.hid hb1
  have hs1 := hb1.size
  clear hb1
  go_wp2
  have hkb : ((w1.alloc (.map #[] 0)).alloc (.cells #[.string name, .slice none 0 0, .map (some w1.heap.size), .func (.func f) #[] #[]] 77)).heap.size = w1.heap.size + 2 := by simp
  go_loopw [38] (fun s38 wr => ∃ (k : Nat) (v : Value) (us : List RowAt), k ≤ ts.length ∧ s38 = .int .i64 (k : Int) ∧ us.map RowAt.row = (ts.map RowAt.row).take k ∧ KitIn wr w1.heap.size (w1.heap.size + 1) name (.func (.func f) #[] #[]) v us ∧ Below w.heap.size w wr) (fun s38 _ => ts.length - (intOf s38).toNat)
  case atStart =>
    refine ⟨0, .slice none 0 0, [], Nat.zero_le _, rfl, by simp, ⟨?_, ?_, World.ownsRow_nil _ _ _ _, fun k h => absurd h (by simp)⟩, (HB1.out.alloc hs1 _).alloc (by simp; omega) _⟩
    · exact (heap_alloc2 w1 _ _).1
    · exact (heap_alloc2 w1 _ _).2
  case round =>
    obtain ⟨k, v, us, hk, rfl, hus, hkit, hbel⟩ := hrel
    have HU := Lib.hid hus
    have HK := Lib.hid hkit
    have HBL := Lib.hid hbel
    have hul : us.length = k := by have := congrArg List.length hus; simp at this; omega
    have hsz := hbel.size
    clear hus hbel hkit
    by_cases hlt : k < ts.length
    · obtain ⟨b, o, rfl, hbb, hrows⟩ := HA.out h0
      obtain ⟨hcells, hnames⟩ := hrows k hlt
      obtain ⟨hrok, hrname, hrtwice⟩ := HOK.out k hlt
      have HNM0 := Lib.hid hnames
      have HNM := Lib.hid (hnames.below HBL.out)
      have HROK := Lib.hid hrok
      have HRN := Lib.hid hrname
      have HRT := Lib.hid hrtwice
      have hc : ∀ j, j < 6 → wr.cell? ⟨b, o + k * 6 + j, none⟩ = ts[k].cells[j]? := fun j hj => (HBL.out.cell (p := ⟨b, _, none⟩) hbb).trans (hcells j hj)
      have e0 : wr.cell? ⟨b, o + k * 6, none⟩ = some (.string ts[k].row.kind) := hc 0 (by omega)
      have e1 : wr.cell? ⟨b, o + k * 6 + 1, none⟩ = some (.int .i64 ts[k].row.min) := hc 1 (by omega)
      have e2 : wr.cell? ⟨b, o + k * 6 + 2, none⟩ = some (.int .i64 ts[k].row.max) := hc 2 (by omega)
      have e3 : wr.cell? ⟨b, o + k * 6 + 3, none⟩ = some (.bool ts[k].row.num) := hc 3 (by omega)
      have e4 : wr.cell? ⟨b, o + k * 6 + 4, none⟩ = some (.int .i64 ts[k].row.text) := hc 4 (by omega)
      have e5 : wr.cell? ⟨b, o + k * 6 + 5, none⟩ = some (.slice ts[k].at_ ts[k].row.abil.length ts[k].cap) := hc 5 (by omega)
      clear hc hcells hnames hrok hrname hrtwice hrows
      have hmay := Lib.hid (kit_May ts[k].row HROK.out ts[k].at_ ts[k].cap (wr.alloc (.cells #[.string ts[k].row.kind, .int .i64 ts[k].row.min, .int .i64 ts[k].row.max, .bool ts[k].row.num, .int .i64 ts[k].row.text, .slice ts[k].at_ ts[k].row.abil.length ts[k].cap] 90))
        ((HNM.out.below ((Below.refl w.heap.size wr).alloc hsz _)).keep (fun _ _ _ => rfl) (fun b hb => by have : b < w.heap.size := hb; simp; omega)))
      unfold RowD.val at hmay
      go_wp2_with fail
      refine hmay.out.mono ?_
      rintro e w2 ⟨rfl, hb2⟩
      have hs2 := hb2.size
      rw [size_alloc] at hs2
      have hb2' : Below wr.heap.size wr w2 := ((Below.refl _ _).alloc (Nat.le_refl _) _).trans (hb2.mono (by simp))
      have HB2 := Lib.hid hb2'
      have r2 := (hb2.block wr.heap.size (by simp)).trans (heap_alloc_new wr _)
      have R2 := Lib.hid r2
      have c2 : w2.cell? ⟨wr.heap.size, 0, none⟩ = some (.string ts[k].row.kind) := by simp [World.cell?, r2]
      clear hb2 hb2' r2 e0 e1 e2 e3 e4 e5
      have hkd := Lib.hid (sign_Kind ts[k].row.kind w2 HROK.out.size)
      go_wp2_with fail
      refine hkd.out.mono ?_
      rintro e w3 ⟨rfl, hb3⟩
      obtain ⟨n1, n2, hkv⟩ := triple_true _ HROK.out.kind
      have hn1 : n1 = name := by have := HRN.out; rw [hkv] at this; exact this
      subst hn1
      rw [hkv]
      unfold cutT
      have hneq := bytes_same n1
      have hs3 := hb3.size
      have HB3 := Lib.hid (HB2.out.trans (hb3.mono HB2.out.size))
      have HK3 := Lib.hid (HK.out.below HB3.out)
      have R3 := Lib.hid ((hb3.block wr.heap.size (by omega)).trans R2.out)
      have HKV := Lib.hid hkv
      clear hb3 c2 hkv
      have hul3 : (us.map RowAt.row).length = k := by simp [hul]
      have hmiss : ∀ j i, Instr.findNow .string (.string ts[k].row.kind) (entr (us.map RowAt.row) j) i = some none := find_none _ _ (fun r hr => by
        rw [HU.out] at hr
        obtain ⟨m, hm, rfl⟩ := List.getElem_of_mem hr
        rw [List.length_take, List.length_map] at hm
        have := HRT.out m (by omega)
        simpa using this)
      have hlook : ∀ n, (Instr.lookup 74 (.map (some w1.heap.size)) (.string ts[k].row.kind) true).run Tryz.prog (w3.drewN n) = .ok (.tuple #[.int .i64 0, .bool false]) (w3.drewN n) := fun n =>
        run_lookup_miss (T := 74) (K := 9) (E := 3) (by kernel_rfl) (by kernel_rfl) (by kernel_rfl) HK3.out.map (hmiss 0 0)
      have k2 : w3.cell? ⟨w1.heap.size + 1, 2, none⟩ = some (.map (some w1.heap.size)) := by simp [World.cell?, HK3.out.kit]
      have c3 : w3.cell? ⟨wr.heap.size, 0, none⟩ = some (.string ts[k].row.kind) := by simp [World.cell?, R3.out]
      go_wp2
      go_quiet (fail)
      have hb4 : Below w3.heap.size w3 (w3.drewN nq) := below_drewN (Below.refl _ _) _
      have HK4 := Lib.hid (HK3.out.below hb4)
      have HB4 := Lib.hid (HBL.out.trans ((HB3.out.trans (hb4.mono HB3.out.size)).mono hsz))
      have r4 : (w3.drewN nq).heap[wr.heap.size]? = some (.cells #[.string ts[k].row.kind, .int .i64 ts[k].row.min, .int .i64 ts[k].row.max, .bool ts[k].row.num, .int .i64 ts[k].row.text, .slice ts[k].at_ ts[k].row.abil.length ts[k].cap] 90) := R3.out
      have R4 := Lib.hid r4
      have hs4 : (w3.drewN nq).heap.size = w3.heap.size := rfl
      have k4 : (w3.drewN nq).cell? ⟨w1.heap.size + 1, 2, none⟩ = some (.map (some w1.heap.size)) := k2
      have c4 : (w3.drewN nq).cell? ⟨wr.heap.size, 0, none⟩ = some (.string ts[k].row.kind) := c3
      clear hb4 r4 hlook k2 c3
      generalize w3.drewN nq = w4 at *
      go_wp2
      go_still_tail 7, (by kernel_rfl)
      change wpList _ _ _ _ _ w4.drew
      refine wpList_update_new w4.drew rfl 74 9 3 _ _ _ rfl (by kernel_rfl) (by kernel_rfl) (r := w1.heap.size) (entr (us.map RowAt.row) 0).toArray us.length ts[k].row.kind rfl rfl HK4.out.map (hmiss 0 0) ?_
      have hM : w1.heap.size < w4.heap.size := HK4.out.map_lt
      have HK5 := Lib.hid (HK4.out.entry (u := .int .i64 (k : Int)) (by omega) ts[k].row hul)
      have HB5 := Lib.hid (setB_below (r := w1.heap.size) (.map ((entr (us.map RowAt.row) 0).toArray.push ⟨.string ts[k].row.kind, .int .i64 (k : Int), us.length⟩) (us.length + 1)) (HB4.out.drew) hs1)
      have hs5 := setB_size w4.drew w1.heap.size (.map ((entr (us.map RowAt.row) 0).toArray.push ⟨.string ts[k].row.kind, .int .i64 (k : Int), us.length⟩) (us.length + 1))
      have R5 := Lib.hid ((setB_far w4.drew (r := w1.heap.size) (k := wr.heap.size) (.map ((entr (us.map RowAt.row) 0).toArray.push ⟨.string ts[k].row.kind, .int .i64 (k : Int), us.length⟩) (us.length + 1)) (by have := HK.out.map_lt; omega)).trans R4.out)
      have hs5' : w4.drew.heap.size = w4.heap.size := rfl
      generalize hw5 : setB w4.drew w1.heap.size (.map ((entr (us.map RowAt.row) 0).toArray.push ⟨.string ts[k].row.kind, .int .i64 (k : Int), us.length⟩) (us.length + 1)) = w5 at *
      change wpList _ _ _ _ _ (setB w4.drew w1.heap.size (.map ((entr (us.map RowAt.row) 0).toArray.push ⟨.string ts[k].row.kind, .int .i64 (k : Int), us.length⟩) (us.length + 1)))
      rw [hw5]
      clear k4 c4 hw5 hmiss
      have b1 : w5.cell? ⟨w1.heap.size + 1, 1, none⟩ = some v := by simp [World.cell?, HK5.out.kit]
      have hrow : ∀ j, w5.cell? ⟨wr.heap.size, j, none⟩ = (#[.string ts[k].row.kind, .int .i64 ts[k].row.min, .int .i64 ts[k].row.max, .bool ts[k].row.num, .int .i64 ts[k].row.text, .slice ts[k].at_ ts[k].row.abil.length ts[k].cap] : Array Value)[j]? := fun j => by simp [World.cell?, R5.out]
      have a0 := hrow 0
      have a1 := hrow 1
      have a2 := hrow 2
      have a3 := hrow 3
      have a4 := hrow 4
      have a5 := hrow 5
      simp at a0 a1 a2 a3 a4 a5
      have hcp := Lib.hid (kit_copied ts[k].row HROK.out.len.1 HROK.out.len.2 ts[k].at_ ts[k].cap w5.drew ((HNM0.out.below HB5.out.drew).keep (fun _ _ _ => rfl) (fun b hb => Nat.lt_of_lt_of_le hb HB5.out.size)))
      have HK5d := Lib.hid HK5.out.drew
      clear hrow
      obtain ⟨i0, hi, hz0, hz1, hz2⟩ := info_parts info_row
      go_wp2
      go_region_law (first
        | (refine step_append_lies _ rfl _ _ 71 rfl (w1.heap.size + 1 + 1) 90 i0 _ 6 72 Tryz.underlying71 hi hz0 hz1 hz2 rfl (by decide) v us.length _ rfl (own_below (own_below HK5d.out.own HB6.out) ((Below.refl _ _).alloc (Nat.le_refl _) _)) ⟨w6.heap.size, 0, none⟩ 1 1 (RowAt.mk ts[k].row A1 c1).cells rfl rfl (World.news_of_block (heap_alloc_new w6 _)) (cells_one _) (by decide) (by unfold maxLen; omega) (by omega) (by have := HK5d.out.kit_lt; have := HB6.out.size; rw [size_alloc]; omega) _ rfl ?_; intro g cap w7 hown hgrow hat hlt'; have hst := HK5d.out.store HB6.out hgrow; have st1 := hst.1; have st2 := hst.2; have HOW := Lib.hid hown; have HGR := Lib.hid hgrow; have HAT := Lib.hid hat; clear hst hown hgrow hat)
        | (go_simp; refine hcp.out.mono ?_; rintro e w6 ⟨A1, c1, rfl, hA1, hb6⟩; have HA1 := Lib.hid hA1; have HB6 := Lib.hid hb6; have d1 := (hb6.cell (p := ⟨w1.heap.size + 1, 1, none⟩) HK5d.out.kit_lt).trans b1; have d2 : ∀ Y, (w6.alloc Y).cell? ⟨w1.heap.size + 1, 1, none⟩ = some v := fun Y => alloc_cell Y d1; clear hA1 hb6; unfold RowD.val))
      all_goals
        have hfin := HK5d.out.copied (by omega) HB6.out HA1.out HGR.out (by have := HAT.out; rw [size_alloc] at this; exact this) HOW.out
        have HF := Lib.hid hfin
        have hbf := Lib.hid (((((HB5.out.drew).trans (HB6.out.mono HB5.out.size)).alloc (by have := HB6.out.size; have := HB5.out.size; show w.heap.size ≤ w6.heap.size; exact Nat.le_trans HB5.out.size HB6.out.size) _).grown HGR.out (Nat.le_trans (Nat.le_trans HB5.out.size HB6.out.size) (by simp)) (fun g hg => by have := (HK5d.out.own.lt g hg).1; omega)).setCell (p := ⟨w1.heap.size + 1, 1, none⟩) (by show w.heap.size ≤ w1.heap.size + 1; omega) (.slice (some ⟨g, 0, none⟩) (k + 1) cap))
        clear hfin d1 d2 st1 st2 hlt' a0 a1 a2 a3 a4 a5 b1 hs5 hs5' hs4
        rw [hul] at HF
        go_wp2
        go_roundw
        case rel => exact ⟨k + 1, _, us ++ [⟨ts[k].row, _, _⟩], by omega, by go_num, (by rw [List.map_append, HU.out]; simp [List.take_add_one, hlt]), HF.out, hbf.out⟩
        case measure => simp [intOf]; omega
    · obtain rfl : k = ts.length := by omega
      go_wp2
      go_ret2
      exact ⟨w1.heap.size, v, us, hs1, rfl, HK.out, HU.out.trans (List.take_of_length_le (by simp)), HBL.out⟩
end Go.Proofs.YtcdjnkeomaidaaaGreat
