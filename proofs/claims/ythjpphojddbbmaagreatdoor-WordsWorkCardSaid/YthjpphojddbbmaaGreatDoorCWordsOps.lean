/-
  The small functions of package words: walks. Conditions: the values lie in memory; the library's variables hold what they were laid with.
-/
import Derived.Test.YthjpphojddbbmaaGreatDoorCPlFits
import Derived.Test.YthjpphojddbbmaaGreatDoorShelf
import Derived.Lib.Tables
import Derived.Lib.LaidTab
import Derived.Lib.ItoaNum
import Derived.WalkSmall
import Derived.Lib.SmallJoins
import Derived.Lib.ParseIntBTie
import Derived.Lib.AppendIntMem
namespace Go.Proofs.YthjpphojddbbmaaGreatDoor
open Go.RowKit
set_option linter.unusedVariables false

/-- The memory that package words' functions ask for. -/
structure Ws (w : World) : Prop where
  tab : Lib.TabIs Tryz.prog w "internal/strconv.uint64pow10" .u64 Lib.pow10Tab
  mx : ∃ m : Int, w.cell? ⟨0, 0, none⟩ = some (.int .i64 m)
  e1 : ∃ tp p, w.cell? ⟨2, 0, none⟩ = some (.iface tp p)
  e2 : ∃ tp p, w.cell? ⟨3, 0, none⟩ = some (.iface tp p)
  sz : 4 ≤ w.heap.size
theorem Ws.below {w w' : World} (h : Ws w) (hb : Below w.heap.size w w') : Ws w' := by
  have hs := h.sz
  refine ⟨var?_below (n := "internal/strconv.uint64pow10") (g := 1) hb (by kernel_rfl) (by omega) h.tab, ?_, ?_, ?_, Nat.le_trans h.sz hb.size⟩
  · obtain ⟨m, hm⟩ := h.mx
    exact ⟨m, (hb.cell (p := ⟨0, 0, none⟩) (by simp; omega)).trans hm⟩
  · obtain ⟨t, p, hm⟩ := h.e1
    exact ⟨t, p, (hb.cell (p := ⟨2, 0, none⟩) (by simp; omega)).trans hm⟩
  · obtain ⟨t, p, hm⟩ := h.e2
    exact ⟨t, p, (hb.cell (p := ⟨3, 0, none⟩) (by simp; omega)).trans hm⟩
theorem run_assert_sure {P : Program} {x t : TypeId} {d : TypeDesc} (hu : P.underlying t = some d) (hd : (match d with | .interface _ => false | _ => true) = true) (v : Value) (w : World) :
    (Instr.typeAssert (.iface t v) x t false).run P w = .ok v w := by
  unfold Instr.typeAssert
  cases d <;> simp_all [run_underlying hu]
theorem w_sureT (s : ByteArray) (w : World) : (Instr.typeAssert (.iface 77 (.string s)) 29 77 false).run Tryz.prog w = .ok (.string s) w := run_assert_sure Tryz.underlying77 rfl _ w
theorem w_sureI (n : Int) (w : World) : (Instr.typeAssert (.iface 75 (.int .i64 n)) 29 75 false).run Tryz.prog w = .ok (.int .i64 n) w := run_assert_sure Tryz.underlying75 rfl _ w
def wFault (n : Int) : Value := .tuple #[.nilIface, .int .i64 n, .string ⟨#[]⟩]
def wText (s : ByteArray) : Value := .tuple #[.iface 77 (.string s), .int .i64 0, .string ⟨#[]⟩]
def wInt (n : Int) : Value := .tuple #[.iface 75 (.int .i64 n), .int .i64 0, .string ⟨#[]⟩]
def wTruth (b : Bool) : Value := .tuple #[.iface 47 (.bool b), .int .i64 0, .string ⟨#[]⟩]
def t_empty (s : ByteArray) : Prop := (s.size = 0 → s.toList.isEmpty = true) ∧ (¬ s.size = 0 → s.toList.isEmpty = false)
theorem t_empty_of (s : ByteArray) : t_empty s := by
  have h : s.toList.isEmpty = decide (s.size = 0) := by
    rw [Lib.toList_data, Bool.eq_iff_iff]
    simp only [List.isEmpty_iff, decide_eq_true_eq]
    rw [← List.length_eq_zero_iff]; simp
  exact ⟨fun h1 => by rw [h]; simpa using h1, fun h1 => by rw [h]; simpa using h1⟩
theorem w_bytes (w : World) (t : ByteArray) : Below w.heap.size w (Lib.bytesWorld w 5 t) := Joins.below_bytesWorld _ w 5 t (Nat.le_refl _)
theorem w_parse_rng {s : List UInt8} {v : Int} (h : Lib.parseIntB 64 s = .ok v) : -9223372036854775808 ≤ v ∧ v ≤ 9223372036854775807 := by
  have h1 := Lib.parseIntB_bounds h
  simp only [Nat.reducePow, Nat.reduceSub] at h1
  omega
theorem w_fault (n : Int) (w : World) : Calls Tryz.prog 25 #[.int .i64 n] w fun e w' => e = .returned (.tuple #[.nilIface, .int .i64 n, .string ⟨#[]⟩]) ∧ w = w' := by
  go_enter Tryz.func25, Tryz.ntmps25
  go_wp2
  go_ret3
  exact ⟨rfl, rfl⟩
theorem w_number (n : Int) (w : World) : Calls Tryz.prog 42 #[.int .i64 n] w fun e w' => e = .returned (.tuple #[.iface 75 (.int .i64 n), .int .i64 0, .string ⟨#[]⟩]) ∧ w = w' := by
  go_enter Tryz.func42, Tryz.ntmps42
  go_wp2
  go_ret3
  exact ⟨rfl, rfl⟩
theorem w_text (s : ByteArray) (w : World) : Calls Tryz.prog 49 #[.string s] w fun e w' => e = .returned (.tuple #[.iface 77 (.string s), .int .i64 0, .string ⟨#[]⟩]) ∧ w = w' := by
  go_enter Tryz.func49, Tryz.ntmps49
  go_wp2
  go_ret3
  exact ⟨rfl, rfl⟩
set_option maxRecDepth 100000 in
theorem w_join (s t : ByteArray) (hs : s.size ≤ 140737488351232) (ht : t.size ≤ 140737488351232) (b o c : Nat) (w : World) (c0 : w.cell? ⟨b, o, none⟩ = some (.iface 77 (.string s))) (c1 : w.cell? ⟨b, o + 1, none⟩ = some (.iface 77 (.string t))) :
    Calls Tryz.prog 40 #[.slice (some ⟨b, o, none⟩) 2 c] w (Bel (if s.size + t.size ≤ 65535 then wText (s ++ t) else wFault 2) w) := by
  have ha := w_sureT
  by_cases h : s.size + t.size ≤ 65535
  · rw [if_pos h]
    have hd : decide ((65535 : Int) < (s.size : Int) + (t.size : Int)) = false := by simp; omega
    go_enter Tryz.func40, Tryz.ntmps40
    go_wp2
    go_quiet (fail)
    go_wp2
    go_ret3
    exact ⟨rfl, below_drewN (Below.refl _ _) _⟩
  · rw [if_neg h]
    have hd : decide ((65535 : Int) < (s.size : Int) + (t.size : Int)) = true := by simp; omega
    go_enter Tryz.func40, Tryz.ntmps40
    go_wp2
    go_quiet (fail)
    go_wp2_with fail
    refine (w_fault 2 _).mono ?_
    rintro e w' ⟨rfl, rfl⟩
    go_wp2
    go_ret3
    exact ⟨rfl, below_drewN (Below.refl _ _) _⟩
set_option maxRecDepth 100000 in
theorem w_cut (s : ByteArray) (x y : Int) (hs : s.size ≤ 140737488351232) (b o c : Nat) (w : World) (c0 : w.cell? ⟨b, o, none⟩ = some (.iface 77 (.string s))) (c1 : w.cell? ⟨b, o + 1, none⟩ = some (.iface 75 (.int .i64 x))) (c2 : w.cell? ⟨b, o + 2, none⟩ = some (.iface 75 (.int .i64 y))) :
    Calls Tryz.prog 43 #[.slice (some ⟨b, o, none⟩) 3 c] w (Bel (if 0 ≤ x ∧ x ≤ y ∧ y ≤ s.size then wText (s.extract x.toNat y.toNat) else wFault 23) w) := by
  have ha := w_sureT
  have hi := w_sureI
  by_cases h : 0 ≤ x ∧ x ≤ y ∧ y ≤ s.size
  · rw [if_pos h]
    obtain ⟨h1, h2, h3⟩ := h
    obtain ⟨x, rfl⟩ := Int.eq_ofNat_of_zero_le h1
    obtain ⟨y, rfl⟩ := Int.eq_ofNat_of_zero_le (show 0 ≤ y by omega)
    simp only [Int.toNat_natCast]
    have h2' : x ≤ y := by omega
    have h3' : y ≤ s.size := by omega
    clear h1 h2 h3
    go_enter Tryz.func43, Tryz.ntmps43
    go_wp2
    go_quiet (fail)
    go_wp2
    go_ret3
    exact ⟨rfl, below_drewN (Below.refl _ _) _⟩
  · rw [if_neg h]
    by_cases h1 : x < 0
    · have t1 : decide (x < 0) = true := by simpa using h1
      clear h
      go_enter Tryz.func43, Tryz.ntmps43
      go_wp2
      go_quiet (fail)
      go_wp2_with fail
      refine (w_fault 23 _).mono ?_
      rintro e w' ⟨rfl, rfl⟩
      go_wp2
      go_ret3
      exact ⟨rfl, below_drewN (Below.refl _ _) _⟩
    · have t1 : decide (x < 0) = false := by simpa using h1
      by_cases h2 : y < x
      · have t2 : decide (y < x) = true := by simpa using h2
        clear h h1
        go_enter Tryz.func43, Tryz.ntmps43
        go_wp2
        go_quiet (fail)
        go_wp2_with fail
        refine (w_fault 23 _).mono ?_
        rintro e w' ⟨rfl, rfl⟩
        go_wp2
        go_ret3
        exact ⟨rfl, below_drewN (Below.refl _ _) _⟩
      · have t2 : decide (y < x) = false := by simpa using h2
        have t3 : decide ((s.size : Int) < y) = true := by simp; omega
        clear h h1 h2
        go_enter Tryz.func43, Tryz.ntmps43
        go_wp2
        go_quiet (fail)
        go_wp2_with fail
        refine (w_fault 23 _).mono ?_
        rintro e w' ⟨rfl, rfl⟩
        go_wp2
        go_ret3
        exact ⟨rfl, below_drewN (Below.refl _ _) _⟩
theorem w_size (s : ByteArray) (hs : s.size ≤ 140737488351232) (b o c : Nat) (w : World) (c0 : w.cell? ⟨b, o, none⟩ = some (.iface 77 (.string s))) :
    Calls Tryz.prog 41 #[.slice (some ⟨b, o, none⟩) 1 c] w (Bel (wInt s.size) w) := by
  have ha := w_sureT
  go_enter Tryz.func41, Tryz.ntmps41
  go_wp2_with fail
  refine (w_number _ _).mono ?_
  rintro e w' ⟨rfl, rfl⟩
  go_wp2
  go_ret3
  exact ⟨rfl, Below.refl _ _⟩
set_option maxRecDepth 100000 in
theorem w_find (s t : ByteArray) (hs : s.size < 4294967281) (b o c : Nat) (w : World) (hw : Ws w) (c0 : w.cell? ⟨b, o, none⟩ = some (.iface 77 (.string s))) (c1 : w.cell? ⟨b, o + 1, none⟩ = some (.iface 77 (.string t))) :
    Calls Tryz.prog 44 #[.slice (some ⟨b, o, none⟩) 2 c] w (Bel (wInt (Lib.index s.data.toList t.data.toList)) w) := by
  have ha := w_sureT
  obtain ⟨m, hm⟩ := hw.mx
  have C0 := Ext.cell (w := w) c0
  have C1 := Ext.cell (w := w) c1
  have KI := Lib.hid (fun x : Ext w => (Tryz.strings_Index s t m x.now hs (Ext.cell hm x)).mono (R' := fun e w' => e = .returned (.int .i64 (Lib.index s.data.toList t.data.toList)) ∧ x.now = w') fun e w' h => ⟨h.1, h.2.symm⟩)
  clear hw hm c0 c1
  generalize Lib.index s.data.toList t.data.toList = n at *
  have KN := Lib.hid (fun x : Ext w => w_number n x.now)
  go_enter Tryz.func44, Tryz.ntmps44
  go_wp2
  refine wp_region_ext (by kernel_rfl) (by kernel_rfl) ?_
  go_big_quiet_step (fail)
  go_big_quiet_step (fail)
  go_big_quiet_step (fail)
  go_big_quiet_step (fail)
  go_big_quiet_step (fail)
  go_big_quiet_step (fail)
  go_big_quiet_step (fail)
  go_big_quiet_step (fail)
  go_big_quiet_step ((go_at_call 45; exact Calls.ext_of_same (KI.out _)))
  go_big_quiet_step ((go_at_call 42; exact Calls.ext_of_same (KN.out _)))
  go_big_quiet_step (fail)
  go_big_quiet_step (fail)
  go_big_quiet_step (fail)
  go_big_quiet_step (fail)
  go_big_quiet_step (fail)
  go_big_quiet_step (fail)
  refine wpQuiet_nil ?_
  rintro _ ⟨x, rfl⟩
  have HB := Lib.hid x.ok
  clear C0 C1 KI KN
  generalize x.now = w2 at *
  go_wp2
  go_ret3
  exact ⟨rfl, HB.out⟩
set_option maxRecDepth 100000 in
theorem w_less (s t : ByteArray) (b o c : Nat) (w : World) (c0 : w.cell? ⟨b, o, none⟩ = some (.iface 77 (.string s))) (c1 : w.cell? ⟨b, o + 1, none⟩ = some (.iface 77 (.string t))) :
    Calls Tryz.prog 47 #[.slice (some ⟨b, o, none⟩) 2 c] w (Bel (wTruth (Op.bytesLess s.toList t.toList)) w) := by
  have ha := w_sureT
  go_enter Tryz.func47, Tryz.ntmps47
  go_wp2
  go_quiet (fail)
  go_wp2
  go_ret3
  exact ⟨rfl, below_drewN (Below.refl _ _) _⟩
theorem w_format (n : Int) (hn : rng n = true) (w : World) (hw : Ws w) : Calls Tryz.prog 50 #[.int .i64 n, .int .i64 10] w (Bel (.string ⟨(Lib.itoa n).toArray⟩) w) := by
  have hr := rng_iff.1 hn
  exact (Tryz.strconv_FormatInt_10 n (by omega) (by omega) w hw.tab).mono fun e w' ⟨he, k, os, h⟩ => ⟨he, by rw [h]; exact Lib.below_grow _ w (Nat.le_refl _) k os⟩
theorem w_of (n : Int) (hn : rng n = true) (b o c : Nat) (w : World) (hw : Ws w) (c0 : w.cell? ⟨b, o, none⟩ = some (.iface 75 (.int .i64 n))) :
    Calls Tryz.prog 48 #[.slice (some ⟨b, o, none⟩) 1 c] w (Bel (wText ⟨(Lib.itoa n).toArray⟩) w) := by
  have hi := w_sureI
  have KF := Lib.hid (w_format n hn w hw)
  clear hw hn
  generalize (⟨(Lib.itoa n).toArray⟩ : ByteArray) = z at *
  go_enter Tryz.func48, Tryz.ntmps48
  go_wp2_with fail
  refine KF.out.mono ?_
  rintro e w1 ⟨rfl, hb⟩
  have HB := Lib.hid hb
  clear hb c0
  go_wp2_with fail
  refine (w_text _ _).mono ?_
  rintro e w' ⟨rfl, rfl⟩
  go_wp2
  go_ret3
  exact ⟨rfl, HB.out⟩
/-- What words.num gives. -/
def wNum (s : ByteArray) : Value := match Lib.parseIntB 64 s.data.toList with
  | .ok v => if (⟨(Lib.itoa v).toArray⟩ : ByteArray) = s then wInt v else wFault 24
  | _ => wFault 24
theorem w_teq (s t : ByteArray) : (s.toList == t.toList) = decide (s = t) := by
  rw [Bool.eq_iff_iff]
  simp only [beq_iff_eq, decide_eq_true_eq]
  rw [Lib.toList_data, Lib.toList_data]
  obtain ⟨⟨x⟩⟩ := s
  obtain ⟨⟨y⟩⟩ := t
  simp
set_option maxRecDepth 100000 in
theorem w_num (s : ByteArray) (hs : s.size ≤ 140737488351232) (b o c : Nat) (w : World) (hw : Ws w) (c0 : w.cell? ⟨b, o, none⟩ = some (.iface 77 (.string s))) :
    Calls Tryz.prog 51 #[.slice (some ⟨b, o, none⟩) 1 c] w (Bel (wNum s) w) := by
  have ha := w_sureT
  cases hp : Lib.parseIntB 64 s.data.toList with
  | ok v =>
    have HR := Lib.hid (show wNum s = if (⟨(Lib.itoa v).toArray⟩ : ByteArray) = s then wInt v else wFault 24 by unfold wNum; rw [hp])
    have hv : rng v = true := rng_iff.2 (w_parse_rng hp)
    have KP := Lib.hid (Tryz.strconv_ParseInt_10_at64_ok s (by omega) v hp w)
    have KF := Lib.hid (fun (w1 : World) (hb : Below w.heap.size w w1) => w_format v hv w1 (hw.below hb))
    have hnil : ∀ w, (binOp .neq 86 .nilIface .nilIface).run Tryz.prog w = .ok (.bool false) w := fun _ => rfl
    clear hw hp hv
    generalize (⟨(Lib.itoa v).toArray⟩ : ByteArray) = z at *
    go_enter Tryz.func51, Tryz.ntmps51
    go_wp2_with fail
    refine KP.out.mono ?_
    rintro e w1 ⟨rfl, hb⟩
    have HB := Lib.hid (show Below w.heap.size w w1 by
      rcases hb with rfl | ⟨t, rfl⟩
      · exact Below.refl _ _
      · exact w_bytes _ _)
    clear hb c0 KP
    go_wp2_with fail
    refine (KF.out w1 HB.out).mono ?_
    rintro e w2 ⟨rfl, hb2⟩
    have HB2 := Lib.hid (HB.out.trans (hb2.mono HB.out.size))
    clear hb2 KF
    by_cases hz : z = s
    · have e1 : (z.toList == s.toList) = true := by rw [w_teq]; simpa using hz
      have e2 : (z.toList != s.toList) = false := by unfold bne; rw [e1]; rfl
      have hr := Lib.hid (show wNum s = wInt v by rw [HR.out, if_pos hz])
      clear hz
      go_wp2
      go_ret3
      exact ⟨by rw [hr.out]; rfl, HB2.out⟩
    · have e1 : (z.toList == s.toList) = false := by rw [w_teq]; simpa using hz
      have e2 : (z.toList != s.toList) = true := by unfold bne; rw [e1]; rfl
      have hr := Lib.hid (show wNum s = wFault 24 by rw [HR.out, if_neg hz])
      clear hz
      go_wp2_with fail
      refine (w_fault 24 _).mono ?_
      rintro e w' ⟨rfl, rfl⟩
      go_wp2
      go_ret3
      exact ⟨by rw [hr.out]; rfl, HB2.out⟩
  | range =>
    have hr := Lib.hid (show wNum s = wFault 24 by unfold wNum; rw [hp])
    obtain ⟨tp, p, he⟩ := hw.e2
    have KP := Lib.hid (Tryz.strconv_ParseInt_10_at64_range s (by omega) hp (.iface tp p) w he (.inr ⟨tp, p, rfl⟩))
    clear hw hp he
    generalize Lib.intSat 64 s.data.toList = z at *
    go_enter Tryz.func51, Tryz.ntmps51
    go_wp2_with fail
    refine KP.out.mono ?_
    rintro e w1 ⟨N, rfl, _, _, hb⟩
    have HB := Lib.hid hb
    have hnil : ∀ w, (binOp .neq 86 (.iface 223 (.pointer (some ⟨N, 0, none⟩))) .nilIface).run Tryz.prog w = .ok (.bool true) w := fun _ => rfl
    clear hb c0 KP
    go_wp2_with fail
    refine (w_fault 24 _).mono ?_
    rintro e w' ⟨rfl, rfl⟩
    go_wp2
    go_ret3
    exact ⟨by rw [hr.out]; rfl, HB.out⟩
  | _ =>
    have hr := Lib.hid (show wNum s = wFault 24 by unfold wNum; rw [hp])
    obtain ⟨tp, p, he⟩ := hw.e1
    have KP := Lib.hid (Tryz.strconv_ParseInt_10_at64_syntax s (by omega) hp (.iface tp p) w he (.inr ⟨tp, p, rfl⟩))
    clear hw hp he
    go_enter Tryz.func51, Tryz.ntmps51
    go_wp2_with fail
    refine KP.out.mono ?_
    rintro e w1 ⟨N, rfl, _, _, hb⟩
    have HB := Lib.hid hb
    have hnil : ∀ w, (binOp .neq 86 (.iface 223 (.pointer (some ⟨N, 0, none⟩))) .nilIface).run Tryz.prog w = .ok (.bool true) w := fun _ => rfl
    clear hb c0 KP
    go_wp2_with fail
    refine (w_fault 24 _).mono ?_
    rintro e w' ⟨rfl, rfl⟩
    go_wp2
    go_ret3
    exact ⟨by rw [hr.out]; rfl, HB.out⟩
/-- What words.rep gives. -/
def wRep (s : ByteArray) (n : Int) : Value := if n < 0 then wFault 23 else if s.size = 0 then wText ⟨#[]⟩ else if 65535 / (s.size : Int) < n then wFault 2 else wText ⟨(Lib.repeatL s.data.toList n.toNat).toArray⟩
set_option maxRecDepth 100000 in
theorem w_rep (s : ByteArray) (n : Int) (hs : s.size ≤ 140737488351232) (b o c : Nat) (w : World) (c0 : w.cell? ⟨b, o, none⟩ = some (.iface 77 (.string s))) (c1 : w.cell? ⟨b, o + 1, none⟩ = some (.iface 75 (.int .i64 n))) :
    Calls Tryz.prog 46 #[.slice (some ⟨b, o, none⟩) 2 c] w (Bel (wRep s n) w) := by
  have ha := w_sureT
  have hi := w_sureI
  have hempty : t_empty s := t_empty_of s
  by_cases h1 : n < 0
  · have hr := Lib.hid (show wRep s n = wFault 23 by unfold wRep; rw [if_pos h1])
    have t1 : decide (n < 0) = true := by simpa using h1
    clear h1 hempty
    go_enter Tryz.func46, Tryz.ntmps46
    go_wp2
    go_quiet (fail)
    go_wp2_with fail
    refine (w_fault 23 _).mono ?_
    rintro e w' ⟨rfl, rfl⟩
    go_wp2
    go_ret3
    exact ⟨by rw [hr.out]; rfl, below_drewN (Below.refl _ _) _⟩
  have t1 : decide (n < 0) = false := by simpa using h1
  by_cases h2 : s.size = 0
  · have hr := Lib.hid (show wRep s n = wText ⟨#[]⟩ by unfold wRep; rw [if_neg h1, if_pos h2])
    have t2 : s.toList.isEmpty = true := hempty.1 h2
    have t2' : s.toList = [] := by simpa using t2
    clear h1 h2 hempty
    go_enter Tryz.func46, Tryz.ntmps46
    go_wp2
    go_quiet (fail)
    go_wp2_with fail
    refine (w_text _ _).mono ?_
    rintro e w' ⟨rfl, rfl⟩
    go_wp2
    go_ret3
    exact ⟨by rw [hr.out]; rfl, below_drewN (Below.refl _ _) _⟩
  have t2 : s.toList.isEmpty = false := hempty.2 h2
  have hz1 : 1 ≤ (s.size : Int) := by omega
  by_cases h3 : 65535 / (s.size : Int) < n
  · have hr := Lib.hid (show wRep s n = wFault 2 by unfold wRep; rw [if_neg h1, if_neg h2, if_pos h3])
    have t3 : decide (65535 / (s.size : Int) < n) = true := by simpa using h3
    clear h1 h2 h3 hempty
    go_enter Tryz.func46, Tryz.ntmps46
    go_wp2
    go_quiet (fail)
    go_wp2_with fail
    refine (w_fault 2 _).mono ?_
    rintro e w' ⟨rfl, rfl⟩
    go_wp2
    go_ret3
    exact ⟨by rw [hr.out]; rfl, below_drewN (Below.refl _ _) _⟩
  · have hr := Lib.hid (show wRep s n = wText ⟨(Lib.repeatL s.data.toList n.toNat).toArray⟩ by unfold wRep; rw [if_neg h1, if_neg h2, if_neg h3])
    have t3 : decide (65535 / (s.size : Int) < n) = false := by simpa using h3
    obtain ⟨m, rfl⟩ := Int.eq_ofNat_of_zero_le (show 0 ≤ n by omega)
    have hm : s.size * m ≤ 65535 := by
      have h4 : (m : Int) ≤ 65535 / (s.size : Int) := by omega
      have h5 := (Int.le_ediv_iff_mul_le (show (0 : Int) < s.size by omega)).1 h4
      have h6 : ((m * s.size : Nat) : Int) ≤ 65535 := by rw [Int.natCast_mul]; exact h5
      rw [Nat.mul_comm]; omega
    have hm2 : m ≤ 65535 := Nat.le_trans (Nat.le_mul_of_pos_left m (by omega)) hm
    have KR := Lib.hid (fun w1 => Tryz.strings_Repeat s m w1 (by omega) (by omega))
    simp only [Int.toNat_natCast] at hr
    generalize (⟨(Lib.repeatL s.data.toList m).toArray⟩ : ByteArray) = z at *
    clear h1 h2 h3 hempty hm
    go_enter Tryz.func46, Tryz.ntmps46
    go_wp2
    go_quiet (fail)
    go_wp2_with fail
    refine (KR.out _).mono ?_
    rintro e w1 ⟨rfl, hb⟩
    have HB := Lib.hid ((below_drewN (Below.refl w.heap.size w) _).trans hb)
    clear hb
    go_wp2_with fail
    refine (w_text _ _).mono ?_
    rintro e w' ⟨rfl, rfl⟩
    go_wp2
    go_ret3
    exact ⟨by rw [hr.out]; rfl, HB.out⟩
end Go.Proofs.YthjpphojddbbmaaGreatDoor
