/-
  num.Work: what it comes to, for every operation and every list of plain values: a walk. Conditions: the values lie in memory.
-/
import Derived.Test.YtcdjnkeomaidaaaNumOpsAll
namespace Go.Proofs.Ytcdjnkeomaidaaa
open Go.RowKit
set_option linter.unusedVariables false

def bad3 (e : Int) : Value := .tuple #[.nilIface, .int .i64 e, .string ⟨#[]⟩]
def doV (V : Int → Int → Value) : List Vl → Value
  | [.int a] => withText (V a 0)
  | [.int a, .int b] => withText (V a b)
  | _ => bad3 20
def workV (cnt : Nat) (V : Int → Int → Value) (ps : List Pl) : Value :=
  if ps.length ≠ cnt then bad3 11 else if ps.all Pl.ok = false then bad3 1 else doV V (Pls.toVl ps)
def Gives (v : Value) (w : World) (e : Ending) (w' : World) : Prop := e = .returned v ∧ Below w.heap.size w w'

theorem Vl.is.other {w : World} {S : Nat → Prop} {x : Vl} {v : Value} (h : x.is w S v) (hx : ∀ n, x ≠ .int n) : ∃ t y, v = .iface t y ∧ t ≠ 48 := by
  cases x <;> unfold Vl.is at h
  case int n => exact absurd rfl (hx n)
  case list l => obtain ⟨A, c, h, _⟩ := h; exact ⟨_, _, h, by decide⟩
  all_goals exact ⟨_, _, h, by decide⟩

theorem withText_three {V : Int → Int → Value} (h : ∀ a b, ∃ x y, V a b = .tuple #[x, y]) (a b : Int) : ∃ x y z, withText (V a b) = .tuple #[x, y, z] := by
  obtain ⟨x, y, e⟩ := h a b
  exact ⟨x, y, _, by rw [e]; rfl⟩
theorem doV_three {V : Int → Int → Value} (h : ∀ a b, ∃ x y, V a b = .tuple #[x, y]) (l : List Vl) : ∃ x y z, doV V l = .tuple #[x, y, z] := by
  unfold doV
  split
  · exact withText_three h _ _
  · exact withText_three h _ _
  · exact ⟨_, _, _, rfl⟩

/-- num.Do on one or two values that lie in memory. -/
theorem num_do {op : ByteArray} {cnt : Nat} {V : Int → Int → Value} (h : NumOp op cnt V) (hc : cnt = 1 ∨ cnt = 2) (l : List Vl) (hl : l.length = cnt) (hf : Vls.fine l) (A : Option Addr) (c : Nat) (w : World) (S : Nat → Prop) (hA : Vls.lies w S l A) :
    Calls Try.prog 20 #[.string op, .slice A l.length c] w (Gives (doV V l) w) := by
  obtain ⟨i, f, hfind, hV, hcall⟩ := h.found
  match l, hl, hf, hA with
  | [], hl, _, _ => simp at hl; omega
  | [x], hl, hf, hA =>
    obtain ⟨b, o, rfl⟩ := hA.head (by simp)
    obtain ⟨_, u, hu, hi⟩ := hA.at_ 0 (by simp)
    simp only [List.getElem_cons_zero] at hi
    by_cases hx : ∃ n, x = .int n
    · obtain ⟨n, rfl⟩ := hx
      unfold Vl.is at hi
      subst hi
      unfold Vls.fine Vl.fine at hf
      exact do_one hfind hV h.two hcall n hf.1 b o c w (by simpa using hu)
    · obtain ⟨t, y, rfl, ht⟩ := hi.other (fun n e => hx ⟨n, e⟩)
      have : doV V [x] = bad3 20 := by unfold doV; cases x <;> first | rfl | exact absurd ⟨_, rfl⟩ hx
      rw [this]
      exact do_bad hfind 0 t y ht b o c w (by simpa using hu)
  | [x, z], hl, hf, hA =>
    obtain ⟨b, o, rfl⟩ := hA.head (by simp)
    obtain ⟨_, u, hu, hi⟩ := hA.at_ 0 (by simp)
    obtain ⟨_, u1, hu1, hi1⟩ := hA.at_ 1 (by simp)
    simp only [List.getElem_cons_zero, List.getElem_cons_succ] at hi hi1
    by_cases hx : ∃ n, x = .int n
    · obtain ⟨n, rfl⟩ := hx
      unfold Vl.is at hi
      subst hi
      by_cases hz : ∃ m, z = .int m
      · obtain ⟨m, rfl⟩ := hz
        unfold Vl.is at hi1
        subst hi1
        unfold Vls.fine Vl.fine Vls.fine Vl.fine at hf
        exact do_two hfind hV h.two hcall n m hf.1 hf.2.1 b o c w (by simpa using hu) hu1
      · obtain ⟨t, y, rfl, ht⟩ := hi1.other (fun n e => hz ⟨n, e⟩)
        have : doV V [.int n, z] = bad3 20 := by unfold doV; cases z <;> first | rfl | exact absurd ⟨_, rfl⟩ hz
        rw [this]
        exact do_bad2 hfind 0 n t y ht b o c w (by simpa using hu) hu1
    · obtain ⟨t, y, rfl, ht⟩ := hi.other (fun n e => hx ⟨n, e⟩)
      have : doV V [x, z] = bad3 20 := by unfold doV; cases x <;> first | rfl | exact absurd ⟨_, rfl⟩ hx
      rw [this]
      exact do_bad hfind 1 t y ht b o c w (by simpa using hu)
  | x :: y :: z :: r, hl, _, _ => simp at hl; omega

theorem three_parts {P : Program} {f : FuncId} {args : Array Value} {w : World} {v : Value} (h : Calls P f args w (Gives v w)) (hv : ∃ x y z, v = .tuple #[x, y, z]) :
    Calls P f args w fun e w' => ∃ x y z, e = .returned (.tuple #[x, y, z]) ∧ Hid (.tuple #[x, y, z] = v) ∧ Hid (Below w.heap.size w w') := by
  obtain ⟨x, y, z, rfl⟩ := hv
  exact h.mono fun _ _ ⟨he, hw⟩ => ⟨x, y, z, he, rfl, hw⟩

set_option maxRecDepth 100000 in
set_option maxHeartbeats 1000000 in
theorem num_work {op : ByteArray} {cnt : Nat} {V : Int → Int → Value} (h : NumOp op cnt V) (hc : cnt = 1 ∨ cnt = 2) (ps : List Pl) (A : Option Addr) (c : Nat) (w : World) (hlen : ps.length * 56 ≤ 140737488351232) (hl : Pls.lies w w.heap.size ps A) :
    Calls Try.prog 11 #[.string op, .slice A ps.length c] w (Gives (workV cnt V ps) w) := by
  obtain ⟨i, f, hfind, _, _⟩ := h.found
  have hlook := run_lookup_hit (P := Try.prog) (T := 54) (K := 9) (E := 52) (r := w.heap.size) (es := numTab) (c := 12) (s := op) (w := w.alloc (.map numTab 12)) Try.underlying54 Try.underlying9 (heap_alloc_new w _) hfind
  have HC := Lib.hid h.counts
  have H := Lib.hid h
  have HL := Lib.hid hl
  clear h hfind hl
  have hbt : Hid (Below w.heap.size w (w.alloc (.map numTab 12))) := (Below.refl _ _).alloc (Nat.le_refl _) _
  by_cases hn : ps.length = cnt
  · have hnb : ((ps.length : Int) != (cnt : Int)) = false := by simp [hn]
    have HN := Lib.hid hn
    clear hn
    have hall := zval_all ps A c (w.alloc (.map numTab 12)) hlen (HL.out.below hbt.out (by simp))
    have HA := Lib.hid hall
    clear hall
    go_enter Try.func11, Try.ntmps11
    go_wp2_with (first | (go_at_call 17; refine (num_two _).mono ?_; rintro e w' ⟨rfl, rfl⟩) | (go_at_call 18; refine (HC.out _).mono ?_; rintro e w' ⟨rfl, rfl⟩))
    refine HA.out.mono ?_
    rintro e w1 (⟨hok, A1, c1, rfl, hvl, hb1⟩ | ⟨hok, rfl, hb1⟩)
    · have hx := Lib.hid (show workV cnt V ps = doV V (Pls.toVl ps) by unfold workV; rw [if_neg (by simpa using HN.out), if_neg (by simp [hok])])
      have hb := Lib.hid (hbt.out.trans (hb1.mono (by simp)))
      have hd := num_do H.out hc (Pls.toVl ps) (by rw [Pls.toVl_length]; exact HN.out) (Pls.lies.fine ps A HL.out) A1 c1 w1 _ hvl
      rw [Pls.toVl_length] at hd
      have HD := Lib.hid (three_parts hd (doV_three H.out.two _))
      have hsz := hb1.size
      clear hd hvl hb1 hok
      go_wp2_with fail
      refine HD.out.mono ?_
      rintro e w2 ⟨x, y, z, rfl, hv, hb2⟩
      go_wp2
      go_ret3
      exact ⟨by rw [hx.out, ← hv.out]; rfl, hb.out.trans (hb2.out.mono (by simp at hsz; omega))⟩
    · have hx := Lib.hid (show workV cnt V ps = bad3 1 by unfold workV; rw [if_neg (by simpa using HN.out), if_pos hok])
      have hb := Lib.hid (hbt.out.trans (hb1.mono (by simp)))
      clear hb1 hok
      go_wp2
      go_ret3
      exact ⟨by rw [hx.out]; rfl, hb.out⟩
  · have hnb : ((ps.length : Int) != (cnt : Int)) = true := by simp; omega
    have hx := Lib.hid (show workV cnt V ps = bad3 11 from if_pos hn)
    clear hn
    go_enter Try.func11, Try.ntmps11
    go_wp2_with (first | (go_at_call 17; refine (num_two _).mono ?_; rintro e w' ⟨rfl, rfl⟩) | (go_at_call 18; refine (HC.out _).mono ?_; rintro e w' ⟨rfl, rfl⟩))
    go_ret3
    exact ⟨by rw [hx.out]; rfl, hbt.out⟩

set_option maxRecDepth 100000 in
theorem num_work_none {op : ByteArray} (h : Instr.findNow .string (.string op) numTab.toList 0 = some none) (v : Value) (w : World) :
    Calls Try.prog 11 #[.string op, v] w (Gives (bad3 1) w) := by
  have hlook := run_lookup_miss (P := Try.prog) (T := 54) (K := 9) (E := 52) (r := w.heap.size) (es := numTab) (c := 12) (s := op) (w := w.alloc (.map numTab 12)) Try.underlying54 Try.underlying9 (z := .nilFunc) (by kernel_rfl) (heap_alloc_new w _) h
  have hbt : Hid (Below w.heap.size w (w.alloc (.map numTab 12))) := (Below.refl _ _).alloc (Nat.le_refl _) _
  clear h
  go_enter Try.func11, Try.ntmps11
  go_wp2_with (first | (go_at_call 17; refine (num_two _).mono ?_; rintro e w' ⟨rfl, rfl⟩))
  go_ret3
  exact ⟨rfl, hbt.out⟩
end Go.Proofs.Ytcdjnkeomaidaaa
