/-
  Texts of a proof in one: WorthMs, WorthMs2. Conditions: each names its own.
-/
import Derived.Test.YthjpphojddbbmaaGreatDoorCPlLeft
import Derived.Deep.QuietTactic
import Derived.BigQuiet
/-
  worth.measure: a walk, for every plain value: the same as what the reference has left. Conditions: it lies in memory.
-/
namespace Go.Proofs.YthjpphojddbbmaaGreatDoor
open Go.RowKit
set_option linter.unusedVariables false

def MsPost (p : Pl) (left deep : Int) (w : World) (e : Ending) (w' : World) : Prop := ∃ s : Int, e = .returned (.tuple #[.int .i64 s, .bool (decide (0 ≤ p.left left deep))]) ∧ (0 ≤ p.left left deep → s = left - p.left left deep) ∧ Below w.heap.size w w'
theorem ms_bad {k n : Int} {t : ByteArray} {ls : List Pl} {left deep : Int} (h : goodB k n t ls.length deep = false ∨ left - 1 - (t.size : Int) < 0) : (Pl.mk k n t ls).left left deep = -1 := by unfold Pl.left; rw [if_pos h]
theorem ms_good {k n : Int} {t : ByteArray} {left deep : Int} (h : goodB k n t 0 deep = true) (h2 : ¬ left - 1 - (t.size : Int) < 0) : (Pl.mk k n t []).left left deep = left - 1 - (t.size : Int) := by
  unfold Pl.left; rw [if_neg (by rintro (h' | h'); rw [List.length_nil, h] at h'; cases h'; exact h2 h')]; unfold Pls.left; rfl
theorem ms_no {p : Pl} {left deep s : Int} {w w' : World} (hx : p.left left deep = -1) (hb : Below w.heap.size w w') : MsPost p left deep w (.returned (.tuple #[.int .i64 s, .bool false])) w' := ⟨s, by rw [hx]; rfl, fun h => by omega, hb⟩
theorem ms_yes {p : Pl} {left deep s : Int} {w w' : World} (hx : p.left left deep = left - s) (h0 : 0 ≤ left - s) (hb : Below w.heap.size w w') : MsPost p left deep w (.returned (.tuple #[.int .i64 s, .bool true])) w' := ⟨s, by rw [hx, decide_eq_true h0], fun h => by omega, hb⟩
set_option maxRecDepth 100000 in
set_option maxHeartbeats 8000000 in
theorem ms_scalar (k n : Int) (t : ByteArray) (ls : List Pl) (hk5 : k ≠ 5) (b o : Nat) (left deep : Int) (w : World) (B : Nat) (hBw : B ≤ w.heap.size) (h0 : 0 ≤ left) (hu : left ≤ 65536) (hl : (Pl.mk k n t ls).lies w B b o) :
    Calls Tryz.prog 82 #[.pointer (some ⟨b, o, none⟩), .int .i64 left, .int .i64 deep] w (MsPost (Pl.mk k n t ls) left deep w) := by
  unfold Pl.lies at hl
  obtain ⟨hb, c0, c1, c2, rk, rn, ht, hlen, A, c, c3, hrest⟩ := hl
  clear hrest rk rn
  have hsz : t.toList = [] ↔ t.size = 0 := by rw [Lib.toList_data, ← List.length_eq_zero_iff]; simp
  have HS := Lib.hid hsz
  clear hsz
  have HB0 := Lib.hid (Below.refl w.heap.size w)
  by_cases h1 : left < 1
  · have HX := Lib.hid (ms_bad (k := k) (n := n) (t := t) (ls := ls) (left := left) (deep := deep) (.inr (by omega)))
    go_enter Tryz.func82, Tryz.ntmps82
    go_wp2
    go_ret2
    exact ms_no HX.out (Below.refl _ _)
  by_cases h4 : k = 4
  · subst h4
    cases ls with
    | cons p0 ls =>
      have HX := Lib.hid (ms_bad (k := 4) (n := n) (t := t) (ls := p0 :: ls) (left := left) (deep := deep) (.inl (by simp [goodB])))
      have hpos : Hid (0 < (p0 :: ls).length) := Lib.hid (by simp)
      generalize hL : (p0 :: ls).length = L at *
      have hp : 0 < L := hpos.out
      go_enter Tryz.func82, Tryz.ntmps82
      go_wp2
      go_ret2
      exact ms_no HX.out (Below.refl _ _)
    | nil =>
      rw [List.length_nil] at c3
      by_cases hn : n = 0
      · subst hn
        by_cases hs : (t.size : Int) < left
        · have HX := Lib.hid (ms_good (k := 4) (n := 0) (t := t) (left := left) (deep := deep) (by simp [goodB]) (by omega))
          have hd : decide ((t.size : Int) < left) = true := by simpa using hs
          have HS2 := Lib.hid hs
          clear hs
          go_enter Tryz.func82, Tryz.ntmps82
          go_upto_region 11 with fail
          go_quiet (fail)
          have HB := Lib.hid (below_drewN HB0.out nq)
          generalize w.drewN nq = w1 at *
          go_wp2
          go_ret2
          have := HS2.out
          exact ms_yes (by rw [HX.out]; omega) (by omega) HB.out
        · have HX := Lib.hid (ms_bad (k := 4) (n := 0) (t := t) (ls := []) (left := left) (deep := deep) (.inr (by omega)))
          have hd : decide ((t.size : Int) < left) = false := by simpa using hs
          go_enter Tryz.func82, Tryz.ntmps82
          go_upto_region 11 with fail
          go_quiet (fail)
          have HB := Lib.hid (below_drewN HB0.out nq)
          generalize w.drewN nq = w1 at *
          go_wp2
          go_ret2
          exact ms_no HX.out HB.out
      · have hx0 : (n == 0) = false := by simpa using hn
        have HX := Lib.hid (ms_bad (k := 4) (n := n) (t := t) (ls := []) (left := left) (deep := deep) (.inl (by simp [goodB, hn])))
        go_enter Tryz.func82, Tryz.ntmps82
        go_upto_region 11 with fail
        go_quiet (fail)
        have HB := Lib.hid (below_drewN HB0.out nq)
        generalize w.drewN nq = w1 at *
        go_wp2
        go_ret2
        exact ms_no HX.out HB.out
  by_cases ht0 : ¬ t.toList = []
  · have htn : ¬ t.size = 0 := fun h => ht0 (HS.out.2 h)
    have HX := Lib.hid (ms_bad (k := k) (n := n) (t := t) (ls := ls) (left := left) (deep := deep) (.inl (by simp [goodB, htn, h4, hk5])))
    have htb : t.toList.isEmpty = false := by simpa using ht0
    have hk4 : (k == 4) = false := by simpa using h4
    clear htn
    go_enter Tryz.func82, Tryz.ntmps82
    go_wp2
    go_ret2
    exact ms_no HX.out (Below.refl _ _)
  rw [Classical.not_not] at ht0
  cases ls with
  | cons p0 ls =>
    have HX := Lib.hid (ms_bad (k := k) (n := n) (t := t) (ls := p0 :: ls) (left := left) (deep := deep) (.inl (by simp [goodB, h4, hk5])))
    have hpos : Hid (0 < (p0 :: ls).length) := Lib.hid (by simp)
    have hk4 : (k == 4) = false := by simpa using h4
    have hkb5 : (k == 5) = false := by simpa using hk5
    generalize hL : (p0 :: ls).length = L at *
    have hp : 0 < L := hpos.out
    go_enter Tryz.func82, Tryz.ntmps82
    go_wp2
    go_ret2
    exact ms_no HX.out (Below.refl _ _)
  | nil =>
    rw [List.length_nil] at c3
    have hts : t.size = 0 := HS.out.1 ht0
    have hb0 : ¬ left - 1 - (t.size : Int) < 0 := by omega
    have HT := Lib.hid hts
    have HBB := Lib.hid hb0
    clear hts hb0
    by_cases k1 : k = 1
    · subst k1
      by_cases hn : n = 0
      · subst hn
        have HX := Lib.hid (ms_good (k := 1) (n := 0) (t := t) (left := left) (deep := deep) (by simp [goodB, HT.out]) HBB.out)
        go_enter Tryz.func82, Tryz.ntmps82
        go_upto_region 5 with fail
        go_quiet (fail)
        have HB := Lib.hid (below_drewN HB0.out nq)
        generalize w.drewN nq = w1 at *
        go_wp2
        go_ret2
        exact ms_yes (by rw [HX.out]; have := HT.out; omega) (by omega) HB.out
      · have hx0 : (n == 0) = false := by simpa using hn
        have HX := Lib.hid (ms_bad (k := 1) (n := n) (t := t) (ls := []) (left := left) (deep := deep) (.inl (by simp [goodB, HT.out, hn])))
        go_enter Tryz.func82, Tryz.ntmps82
        go_upto_region 5 with fail
        go_quiet (fail)
        have HB := Lib.hid (below_drewN HB0.out nq)
        generalize w.drewN nq = w1 at *
        go_wp2
        go_ret2
        exact ms_no HX.out HB.out
    by_cases k2 : k = 2
    · subst k2
      by_cases hn : n = 0
      · subst hn
        have HX := Lib.hid (ms_good (k := 2) (n := 0) (t := t) (left := left) (deep := deep) (by simp [goodB, HT.out]) HBB.out)
        go_enter Tryz.func82, Tryz.ntmps82
        go_upto_region 7 with fail
        go_quiet (fail)
        have HB := Lib.hid (below_drewN HB0.out nq)
        generalize w.drewN nq = w1 at *
        go_wp2
        go_ret2
        exact ms_yes (by rw [HX.out]; have := HT.out; omega) (by omega) HB.out
      by_cases hn1 : n = 1
      · subst hn1
        have HX := Lib.hid (ms_good (k := 2) (n := 1) (t := t) (left := left) (deep := deep) (by simp [goodB, HT.out]) HBB.out)
        go_enter Tryz.func82, Tryz.ntmps82
        go_upto_region 7 with fail
        go_quiet (fail)
        have HB := Lib.hid (below_drewN HB0.out nq)
        generalize w.drewN nq = w1 at *
        go_wp2
        go_ret2
        exact ms_yes (by rw [HX.out]; have := HT.out; omega) (by omega) HB.out
      · have hx0 : (n == 0) = false := by simpa using hn
        have hx1 : (n == 1) = false := by simpa using hn1
        have HX := Lib.hid (ms_bad (k := 2) (n := n) (t := t) (ls := []) (left := left) (deep := deep) (.inl (by simp [goodB, HT.out, hn, hn1])))
        go_enter Tryz.func82, Tryz.ntmps82
        go_upto_region 7 with fail
        go_quiet (fail)
        have HB := Lib.hid (below_drewN HB0.out nq)
        generalize w.drewN nq = w1 at *
        go_wp2
        go_ret2
        exact ms_no HX.out HB.out
    by_cases k3 : k = 3
    · subst k3
      have HX := Lib.hid (ms_good (k := 3) (n := n) (t := t) (left := left) (deep := deep) (by simp [goodB, HT.out]) HBB.out)
      go_enter Tryz.func82, Tryz.ntmps82
      go_wp2
      go_ret2
      exact ms_yes (by rw [HX.out]; have := HT.out; omega) (by omega) (Below.refl _ _)
    have e1 : (k == 1) = false := by simpa using k1
    have e2 : (k == 2) = false := by simpa using k2
    have e3 : (k == 3) = false := by simpa using k3
    have e4 : (k == 4) = false := by simpa using h4
    have e5 : (k == 5) = false := by simpa using hk5
    have HX := Lib.hid (ms_bad (k := k) (n := n) (t := t) (ls := []) (left := left) (deep := deep) (.inl (by simp [goodB, k1, k2, k3, h4, hk5])))
    go_enter Tryz.func82, Tryz.ntmps82
    go_wp2
    go_ret2
    exact ms_no HX.out (Below.refl _ _)
end Go.Proofs.YthjpphojddbbmaaGreatDoor

/-
  worth.measure of a list, and of any plain value; worth.May: walks. Conditions: it lies in memory.
-/
namespace Go.Proofs.YthjpphojddbbmaaGreatDoor
open Go.RowKit
set_option linter.unusedVariables false

def MsAll (p : Pl) : Prop := ∀ (b o : Nat) (left deep : Int) (w : World) (B : Nat), B ≤ w.heap.size → 0 ≤ left → left ≤ 65536 → 0 ≤ deep → deep ≤ 64 → p.lies w B b o →
  Calls Tryz.prog 82 #[.pointer (some ⟨b, o, none⟩), .int .i64 left, .int .i64 deep] w (MsPost p left deep w)
set_option maxRecDepth 100000 in
set_option maxHeartbeats 8000000 in
theorem ms_list (n : Int) (t : ByteArray) (ls : List Pl) (ih : ∀ (j : Nat) (h : j < ls.length), MsAll ls[j]) : MsAll (.mk 5 n t ls) := by
  intro b o left deep w B hBw h0 hu hd0 hd1 hl
  have IH := Lib.hid ih
  clear ih
  unfold Pl.lies at hl
  obtain ⟨hb, c0, c1, c2, rk, rn, ht, hlen, A, c, c3, hrest⟩ := hl
  have HR := Lib.hid hrest
  clear hrest rk rn
  have hsz : t.toList = [] ↔ t.size = 0 := by rw [Lib.toList_data, ← List.length_eq_zero_iff]; simp
  have HS := Lib.hid hsz
  clear hsz
  by_cases h1 : left < 1
  · have HX := Lib.hid (ms_bad (k := 5) (n := n) (t := t) (ls := ls) (left := left) (deep := deep) (.inr (by omega)))
    go_enter Tryz.func82, Tryz.ntmps82
    go_wp2
    go_ret2
    exact ms_no HX.out (Below.refl _ _)
  by_cases ht0 : ¬ t.toList = []
  · have htn : ¬ t.size = 0 := fun h => ht0 (HS.out.2 h)
    have HX := Lib.hid (ms_bad (k := 5) (n := n) (t := t) (ls := ls) (left := left) (deep := deep) (.inl (by simp [goodB, htn])))
    have htb : t.toList.isEmpty = false := by simpa using ht0
    clear htn
    go_enter Tryz.func82, Tryz.ntmps82
    go_wp2
    go_ret2
    exact ms_no HX.out (Below.refl _ _)
  rw [Classical.not_not] at ht0
  have hts : t.size = 0 := HS.out.1 ht0
  by_cases hn : ¬ n = 0
  · have HX := Lib.hid (ms_bad (k := 5) (n := n) (t := t) (ls := ls) (left := left) (deep := deep) (.inl (by simp [goodB, hn])))
    have hx0 : (n == 0) = false := by simpa using hn
    clear hts
    go_enter Tryz.func82, Tryz.ntmps82
    go_wp2
    go_ret2
    exact ms_no HX.out (Below.refl _ _)
  rw [Classical.not_not] at hn
  subst hn
  by_cases hd : deep = 64
  · subst hd
    have HX := Lib.hid (ms_bad (k := 5) (n := 0) (t := t) (ls := ls) (left := left) (deep := 64) (.inl (by simp [goodB])))
    clear hts
    go_enter Tryz.func82, Tryz.ntmps82
    go_wp2
    go_ret2
    exact ms_no HX.out (Below.refl _ _)
  have HG := Lib.hid (show (Pl.mk 5 0 t ls).left left deep = Pls.left ls (left - 1) (deep + 1) by
    unfold Pl.left
    rw [if_neg (by rintro (h | h); simp [goodB, hts] at h; omega; omega), hts]
    simp)
  have hdb : (deep == 64) = false := by simpa using hd
  clear hts
  go_enter Tryz.func82, Tryz.ntmps82
  go_wp2
  go_loopw [108, 8] (fun s108 s8 wr => ∃ (j : Nat) (nn : Int), j ≤ ls.length ∧ s108 = .int .i64 (j : Int) ∧ s8 = .int .i64 nn ∧ 1 ≤ nn ∧ nn ≤ left ∧ Pls.left ls (left - 1) (deep + 1) = Pls.left (ls.drop j) (left - nn) (deep + 1) ∧ Below w.heap.size w wr) (fun s108 _ _ => ls.length - (intOf s108).toNat)
  case atStart => exact ⟨0, 1, Nat.zero_le _, rfl, rfl, by omega, by omega, rfl, Below.refl _ _⟩
  case round =>
    obtain ⟨j, nn, hj, rfl, rfl, hn1, hn2, hleft, hbel⟩ := hrel
    have HL := Lib.hid hleft
    have HB := Lib.hid hbel
    have hws := hbel.size
    clear hleft hbel
    by_cases hlt : j < ls.length
    · obtain ⟨b', o', rfl⟩ := HR.out.head (by omega)
      have hchild := (HR.out.at_ j hlt).keep (w' := wr) (B' := B) (fun b1 o1 h1 => HB.out.cell (p := ⟨b1, o1, none⟩) (Nat.lt_of_lt_of_le h1 hBw)) (Nat.le_refl _)
      have KM := Lib.hid (IH.out j hlt b' (o' + j * 4) (left - nn) (deep + 1) wr B (by omega) (by omega) (by omega) (by omega) (by omega) hchild)
      have hle := Pl.left_le ls[j] (left - nn) (deep + 1) (by omega)
      have HST := Lib.hid (Pls.left_step hlt (left - nn) (deep + 1) (by omega))
      have d3 : wr.cell? ⟨b, o + 3, none⟩ = some (.slice (some ⟨b', o', none⟩) ls.length c) := (HB.out.cell (p := ⟨b, o + 3, none⟩) (Nat.lt_of_lt_of_le hb hBw)).trans c3
      clear hchild c0 c1 c2 c3
      unfold MsPost at KM
      generalize hq : ls[j].left (left - nn) (deep + 1) = q at *
      go_wp2_with fail
      refine KM.out.mono ?_
      rintro e w2 ⟨s, rfl, hs, hb2⟩
      have HB2 := Lib.hid (HB.out.trans (hb2.mono hws))
      clear hb2 KM d3
      by_cases hq0 : 0 ≤ q
      · have hsq := hs hq0
        have hdq : decide (0 ≤ q) = true := by simpa using hq0
        have hs0 : 0 ≤ s := by omega
        have hs1 : s ≤ 65536 := by omega
        have hns : left - (nn + s) = q := by omega
        have HNS := Lib.hid hns
        have HSQ := Lib.hid hsq
        clear hs hsq hns
        go_wp2
        go_roundw
        case rel => exact ⟨j + 1, nn + s, by omega, by go_num, rfl, by omega, by have := HNS.out; omega, by rw [HNS.out, HL.out, HST.out], HB2.out⟩
        case measure => simp [intOf]; omega
      · have hdq : decide (0 ≤ q) = false := by simpa using hq0
        clear hs
        go_wp2
        go_ret2
        have HX : (Pl.mk 5 0 t ls).left left deep = -1 := by rw [HG.out, HL.out, HST.out, Pls.left_neg _ _ _ (by omega)]; omega
        exact ms_no HX HB2.out
    · have hjl : j = ls.length := by omega
      go_wp2
      go_ret2
      have HX : (Pl.mk 5 0 t ls).left left deep = left - nn := by rw [HG.out, HL.out, hjl, List.drop_length]; unfold Pls.left; rfl
      exact ms_yes HX (by omega) HB.out
theorem ms_all : ∀ (m : Nat) (p : Pl), SizeOf.sizeOf p ≤ m → MsAll p
  | 0, .mk k n t l, h => absurd h (by simp only [Pl.mk.sizeOf_spec]; omega)
  | m + 1, .mk k n t l, h => by
    by_cases hk : k = 5
    · subst hk
      exact ms_list n t l (fun j hj => ms_all m l[j] (by
        have h1 := List.sizeOf_lt_of_mem (List.getElem_mem hj)
        simp only [Pl.mk.sizeOf_spec] at h
        omega))
    · intro b o left deep w B hBw h0 hu hd0 hd1 hl
      exact ms_scalar k n t l hk b o left deep w B hBw h0 hu hl
end Go.Proofs.YthjpphojddbbmaaGreatDoor
