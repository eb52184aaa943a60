/-
  words.Work at each of its operations: walks. Printed by a program of mine (gen_wops.py). Conditions: the values lie in memory.
-/
import Derived.Test.YthjpphojddbbmaaGreatDoorCWordsWork
import Derived.Test.YthjpphojddbbmaaGreatDoorCPlSame
namespace Go.Proofs.YthjpphojddbbmaaGreatDoor
open Go.RowKit
set_option linter.unusedVariables false
set_option linter.unusedSimpArgs false

def txt : Vl → ByteArray
  | .text s => s
  | _ => ⟨#[]⟩
def nmb : Vl → Int
  | .int n => n
  | _ => 0
def wJoinV (s t : ByteArray) : Value := if s.size + t.size ≤ 65535 then wText (s ++ t) else wFault 2
def wCutV (s : ByteArray) (x y : Int) : Value := if 0 ≤ x ∧ x ≤ y ∧ y ≤ s.size then wText (s.extract x.toNat y.toNat) else wFault 23
def isTup (r : Value) : Prop := ∃ a k s, r = .tuple #[a, .int .i64 k, .string s]
theorem tup_if {p : Prop} [Decidable p] {a b : Value} (ha : isTup a) (hb : isTup b) : isTup (if p then a else b) := by by_cases h : p <;> simp only [h, if_true, if_false] <;> assumption
theorem tup_fault (n : Int) : isTup (wFault n) := ⟨_, _, _, rfl⟩
theorem tup_text (s : ByteArray) : isTup (wText s) := ⟨_, _, _, rfl⟩
theorem tup_int (n : Int) : isTup (wInt n) := ⟨_, _, _, rfl⟩
theorem tup_truth (b : Bool) : isTup (wTruth b) := ⟨_, _, _, rfl⟩
theorem tup_num (s : ByteArray) : isTup (wNum s) := by
  unfold wNum
  split
  · exact tup_if (tup_int _) (tup_fault _)
  · exact tup_fault _
theorem tup_rep (s : ByteArray) (n : Int) : isTup (wRep s n) := tup_if (tup_fault _) (tup_if (tup_text _) (tup_if (tup_fault _) (tup_text _)))
theorem tup_join (s t : ByteArray) : isTup (wJoinV s t) := tup_if (tup_text _) (tup_fault _)
theorem tup_cut (s : ByteArray) (x y : Int) : isTup (wCutV s x y) := tup_if (tup_text _) (tup_fault _)
theorem may_text {p : Pl} (h : p.mayB = true) : p.text.size ≤ 65535 := by
  have h1 : 0 ≤ p.left 65536 0 := of_decide_eq_true h
  obtain ⟨k, n, t, l⟩ := p
  unfold Pl.left at h1
  by_cases hb : goodB k n t l.length 0 = false ∨ 65536 - 1 - (t.size : Int) < 0
  · rw [if_pos hb] at h1; omega
  · show t.size ≤ 65535
    omega
theorem txt_may {p : Pl} (h : p.mayB = true) {s : ByteArray} (e : p.toVl = .text s) : s.size ≤ 65535 := by
  have h1 := may_text h
  obtain ⟨k, n, t, l⟩ := p
  rw [toVl_mk] at e
  by_cases h2 : k = 2
  · rw [if_pos h2] at e; cases e
  rw [if_neg h2] at e
  by_cases h3 : k = 3
  · rw [if_pos h3] at e; cases e
  rw [if_neg h3] at e
  by_cases h4 : k = 4
  · rw [if_pos h4] at e; injection e with e; rw [← e]; exact h1
  rw [if_neg h4] at e
  by_cases h5 : k = 5
  · rw [if_pos h5] at e; cases e
  · rw [if_neg h5] at e; cases e
def pAt (ps : List Pl) (j : Nat) : Vl := ((ps[j]?).getD (.mk 0 0 ⟨#[]⟩ [])).toVl
theorem pAt_eq {ps : List Pl} {j : Nat} (h : j < ps.length) : pAt ps j = ps[j].toVl := by unfold pAt; rw [List.getElem?_eq_getElem h]; rfl
def wq_join (ps : List Pl) : Bool := letterB (pAt ps 0) 116 && letterB (pAt ps 1) 116
def wr_join (ps : List Pl) : Value := (wJoinV (txt (pAt ps 0)) (txt (pAt ps 1)))
set_option maxRecDepth 100000 in
theorem w_Work_join (ps : List Pl) (A : Option Addr) (c : Nat) (w : World) (hlen : ps.length * 56 ≤ 140737488351232) (hl : Pls.lies w w.heap.size ps A) (hw : Ws w) :
    Calls Tryz.prog 10 #[.string wn_join, .slice A ps.length c] w (Bel (wRes 2 (wq_join ps) (wr_join ps) ps) w) := by
  refine w_Work wf_join wc_join 2 (by decide) (by decide) (by decide) ps A c w hlen hl (wq_join ps) ?_ ?_ (wr_join ps) (by unfold wr_join; exact tup_join _ _) ?_
  · intro hq hn j h h'
    unfold wq_join at hq
    simp only [Bool.and_eq_true] at hq
    have hj : j = 0 ∨ j = 1 := by omega
    rcases hj with rfl | rfl
    · have h1 := hq.1
      rw [pAt_eq h] at h1
      exact h1
    · have h1 := hq.2
      rw [pAt_eq h] at h1
      exact h1
  · intro hq hn
    unfold wq_join at hq
    simp only [Bool.and_eq_false_iff] at hq
    rcases hq with hq | hq
    · exact ⟨0, by omega, by decide, by rw [← pAt_eq]; exact hq⟩
    · exact ⟨1, by omega, by decide, by rw [← pAt_eq]; exact hq⟩
  · intro hq hn hmay g c' us w' hul hb hcs his
    unfold wq_join at hq
    simp only [Bool.and_eq_true] at hq
    have WS := hw.below hb
    rw [hul]
    have hfine : ∀ j (h : j < ps.length), ps[j].toVl.fine := fun j h => by
      obtain ⟨b1, o1, e1⟩ := hl.head (by omega)
      subst e1
      exact (hl.at_ j h).fine
    obtain ⟨s0, hx0⟩ := letter_text hq.1
    have hy0 := hx0
    rw [pAt_eq (by omega)] at hy0
    have F0 := hfine 0 (by omega)
    rw [hy0] at F0
    unfold Vl.fine at F0
    have M0 := txt_may (hmay 0 (by omega)) hy0
    have i0 := his 0 (by omega) (by omega)
    rw [hy0] at i0
    unfold Vl.is at i0
    have C0 := hcs 0 (by omega)
    rw [i0] at C0
    obtain ⟨s1, hx1⟩ := letter_text hq.2
    have hy1 := hx1
    rw [pAt_eq (by omega)] at hy1
    have F1 := hfine 1 (by omega)
    rw [hy1] at F1
    unfold Vl.fine at F1
    have M1 := txt_may (hmay 1 (by omega)) hy1
    have i1 := his 1 (by omega) (by omega)
    rw [hy1] at i1
    unfold Vl.is at i1
    have C1 := hcs 1 (by omega)
    rw [i1] at C1
    unfold wr_join
    rw [hx0, hx1]
    exact w_join s0 s1 F0 F1 g 0 c' w' C0 C1
def wq_size (ps : List Pl) : Bool := letterB (pAt ps 0) 116
def wr_size (ps : List Pl) : Value := (wInt (txt (pAt ps 0)).size)
set_option maxRecDepth 100000 in
theorem w_Work_size (ps : List Pl) (A : Option Addr) (c : Nat) (w : World) (hlen : ps.length * 56 ≤ 140737488351232) (hl : Pls.lies w w.heap.size ps A) (hw : Ws w) :
    Calls Tryz.prog 10 #[.string wn_size, .slice A ps.length c] w (Bel (wRes 1 (wq_size ps) (wr_size ps) ps) w) := by
  refine w_Work wf_size wc_size 1 (by decide) (by decide) (by decide) ps A c w hlen hl (wq_size ps) ?_ ?_ (wr_size ps) (by unfold wr_size; exact tup_int _) ?_
  · intro hq hn j h h'
    unfold wq_size at hq
    have hj : j = 0 := by omega
    rcases hj with rfl
    · have h1 := hq
      rw [pAt_eq h] at h1
      exact h1
  · intro hq hn
    unfold wq_size at hq
    exact ⟨0, by omega, by decide, by rw [← pAt_eq]; exact hq⟩
  · intro hq hn hmay g c' us w' hul hb hcs his
    unfold wq_size at hq
    have WS := hw.below hb
    rw [hul]
    have hfine : ∀ j (h : j < ps.length), ps[j].toVl.fine := fun j h => by
      obtain ⟨b1, o1, e1⟩ := hl.head (by omega)
      subst e1
      exact (hl.at_ j h).fine
    obtain ⟨s0, hx0⟩ := letter_text hq
    have hy0 := hx0
    rw [pAt_eq (by omega)] at hy0
    have F0 := hfine 0 (by omega)
    rw [hy0] at F0
    unfold Vl.fine at F0
    have M0 := txt_may (hmay 0 (by omega)) hy0
    have i0 := his 0 (by omega) (by omega)
    rw [hy0] at i0
    unfold Vl.is at i0
    have C0 := hcs 0 (by omega)
    rw [i0] at C0
    unfold wr_size
    rw [hx0]
    exact w_size s0 F0 g 0 c' w' C0
def wq_cut (ps : List Pl) : Bool := letterB (pAt ps 0) 116 && letterB (pAt ps 1) 105 && letterB (pAt ps 2) 105
def wr_cut (ps : List Pl) : Value := (wCutV (txt (pAt ps 0)) (nmb (pAt ps 1)) (nmb (pAt ps 2)))
set_option maxRecDepth 100000 in
theorem w_Work_cut (ps : List Pl) (A : Option Addr) (c : Nat) (w : World) (hlen : ps.length * 56 ≤ 140737488351232) (hl : Pls.lies w w.heap.size ps A) (hw : Ws w) :
    Calls Tryz.prog 10 #[.string wn_cut, .slice A ps.length c] w (Bel (wRes 3 (wq_cut ps) (wr_cut ps) ps) w) := by
  refine w_Work wf_cut wc_cut 3 (by decide) (by decide) (by decide) ps A c w hlen hl (wq_cut ps) ?_ ?_ (wr_cut ps) (by unfold wr_cut; exact tup_cut _ _ _) ?_
  · intro hq hn j h h'
    unfold wq_cut at hq
    simp only [Bool.and_eq_true] at hq
    have hj : j = 0 ∨ j = 1 ∨ j = 2 := by omega
    rcases hj with rfl | rfl | rfl
    · have h1 := hq.1.1
      rw [pAt_eq h] at h1
      exact h1
    · have h1 := hq.1.2
      rw [pAt_eq h] at h1
      exact h1
    · have h1 := hq.2
      rw [pAt_eq h] at h1
      exact h1
  · intro hq hn
    unfold wq_cut at hq
    simp only [Bool.and_eq_false_iff] at hq
    rcases hq with (hq | hq) | hq
    · exact ⟨0, by omega, by decide, by rw [← pAt_eq]; exact hq⟩
    · exact ⟨1, by omega, by decide, by rw [← pAt_eq]; exact hq⟩
    · exact ⟨2, by omega, by decide, by rw [← pAt_eq]; exact hq⟩
  · intro hq hn hmay g c' us w' hul hb hcs his
    unfold wq_cut at hq
    simp only [Bool.and_eq_true] at hq
    have WS := hw.below hb
    rw [hul]
    have hfine : ∀ j (h : j < ps.length), ps[j].toVl.fine := fun j h => by
      obtain ⟨b1, o1, e1⟩ := hl.head (by omega)
      subst e1
      exact (hl.at_ j h).fine
    obtain ⟨s0, hx0⟩ := letter_text hq.1.1
    have hy0 := hx0
    rw [pAt_eq (by omega)] at hy0
    have F0 := hfine 0 (by omega)
    rw [hy0] at F0
    unfold Vl.fine at F0
    have M0 := txt_may (hmay 0 (by omega)) hy0
    have i0 := his 0 (by omega) (by omega)
    rw [hy0] at i0
    unfold Vl.is at i0
    have C0 := hcs 0 (by omega)
    rw [i0] at C0
    obtain ⟨n1, hx1⟩ := letter_int hq.1.2
    have hy1 := hx1
    rw [pAt_eq (by omega)] at hy1
    have F1 := hfine 1 (by omega)
    rw [hy1] at F1
    unfold Vl.fine at F1
    have i1 := his 1 (by omega) (by omega)
    rw [hy1] at i1
    unfold Vl.is at i1
    have C1 := hcs 1 (by omega)
    rw [i1] at C1
    obtain ⟨n2, hx2⟩ := letter_int hq.2
    have hy2 := hx2
    rw [pAt_eq (by omega)] at hy2
    have F2 := hfine 2 (by omega)
    rw [hy2] at F2
    unfold Vl.fine at F2
    have i2 := his 2 (by omega) (by omega)
    rw [hy2] at i2
    unfold Vl.is at i2
    have C2 := hcs 2 (by omega)
    rw [i2] at C2
    unfold wr_cut
    rw [hx0, hx1, hx2]
    exact w_cut s0 n1 n2 F0 g 0 c' w' C0 C1 C2
def wq_find (ps : List Pl) : Bool := letterB (pAt ps 0) 116 && letterB (pAt ps 1) 116
def wr_find (ps : List Pl) : Value := (wInt (Lib.index (txt (pAt ps 0)).data.toList (txt (pAt ps 1)).data.toList))
set_option maxRecDepth 100000 in
theorem w_Work_find (ps : List Pl) (A : Option Addr) (c : Nat) (w : World) (hlen : ps.length * 56 ≤ 140737488351232) (hl : Pls.lies w w.heap.size ps A) (hw : Ws w) :
    Calls Tryz.prog 10 #[.string wn_find, .slice A ps.length c] w (Bel (wRes 2 (wq_find ps) (wr_find ps) ps) w) := by
  refine w_Work wf_find wc_find 2 (by decide) (by decide) (by decide) ps A c w hlen hl (wq_find ps) ?_ ?_ (wr_find ps) (by unfold wr_find; exact tup_int _) ?_
  · intro hq hn j h h'
    unfold wq_find at hq
    simp only [Bool.and_eq_true] at hq
    have hj : j = 0 ∨ j = 1 := by omega
    rcases hj with rfl | rfl
    · have h1 := hq.1
      rw [pAt_eq h] at h1
      exact h1
    · have h1 := hq.2
      rw [pAt_eq h] at h1
      exact h1
  · intro hq hn
    unfold wq_find at hq
    simp only [Bool.and_eq_false_iff] at hq
    rcases hq with hq | hq
    · exact ⟨0, by omega, by decide, by rw [← pAt_eq]; exact hq⟩
    · exact ⟨1, by omega, by decide, by rw [← pAt_eq]; exact hq⟩
  · intro hq hn hmay g c' us w' hul hb hcs his
    unfold wq_find at hq
    simp only [Bool.and_eq_true] at hq
    have WS := hw.below hb
    rw [hul]
    have hfine : ∀ j (h : j < ps.length), ps[j].toVl.fine := fun j h => by
      obtain ⟨b1, o1, e1⟩ := hl.head (by omega)
      subst e1
      exact (hl.at_ j h).fine
    obtain ⟨s0, hx0⟩ := letter_text hq.1
    have hy0 := hx0
    rw [pAt_eq (by omega)] at hy0
    have F0 := hfine 0 (by omega)
    rw [hy0] at F0
    unfold Vl.fine at F0
    have M0 := txt_may (hmay 0 (by omega)) hy0
    have i0 := his 0 (by omega) (by omega)
    rw [hy0] at i0
    unfold Vl.is at i0
    have C0 := hcs 0 (by omega)
    rw [i0] at C0
    obtain ⟨s1, hx1⟩ := letter_text hq.2
    have hy1 := hx1
    rw [pAt_eq (by omega)] at hy1
    have F1 := hfine 1 (by omega)
    rw [hy1] at F1
    unfold Vl.fine at F1
    have M1 := txt_may (hmay 1 (by omega)) hy1
    have i1 := his 1 (by omega) (by omega)
    rw [hy1] at i1
    unfold Vl.is at i1
    have C1 := hcs 1 (by omega)
    rw [i1] at C1
    unfold wr_find
    rw [hx0, hx1]
    exact w_find s0 s1 (by omega) g 0 c' w' WS C0 C1
def wq_rep (ps : List Pl) : Bool := letterB (pAt ps 0) 116 && letterB (pAt ps 1) 105
def wr_rep (ps : List Pl) : Value := (wRep (txt (pAt ps 0)) (nmb (pAt ps 1)))
set_option maxRecDepth 100000 in
theorem w_Work_rep (ps : List Pl) (A : Option Addr) (c : Nat) (w : World) (hlen : ps.length * 56 ≤ 140737488351232) (hl : Pls.lies w w.heap.size ps A) (hw : Ws w) :
    Calls Tryz.prog 10 #[.string wn_rep, .slice A ps.length c] w (Bel (wRes 2 (wq_rep ps) (wr_rep ps) ps) w) := by
  refine w_Work wf_rep wc_rep 2 (by decide) (by decide) (by decide) ps A c w hlen hl (wq_rep ps) ?_ ?_ (wr_rep ps) (by unfold wr_rep; exact tup_rep _ _) ?_
  · intro hq hn j h h'
    unfold wq_rep at hq
    simp only [Bool.and_eq_true] at hq
    have hj : j = 0 ∨ j = 1 := by omega
    rcases hj with rfl | rfl
    · have h1 := hq.1
      rw [pAt_eq h] at h1
      exact h1
    · have h1 := hq.2
      rw [pAt_eq h] at h1
      exact h1
  · intro hq hn
    unfold wq_rep at hq
    simp only [Bool.and_eq_false_iff] at hq
    rcases hq with hq | hq
    · exact ⟨0, by omega, by decide, by rw [← pAt_eq]; exact hq⟩
    · exact ⟨1, by omega, by decide, by rw [← pAt_eq]; exact hq⟩
  · intro hq hn hmay g c' us w' hul hb hcs his
    unfold wq_rep at hq
    simp only [Bool.and_eq_true] at hq
    have WS := hw.below hb
    rw [hul]
    have hfine : ∀ j (h : j < ps.length), ps[j].toVl.fine := fun j h => by
      obtain ⟨b1, o1, e1⟩ := hl.head (by omega)
      subst e1
      exact (hl.at_ j h).fine
    obtain ⟨s0, hx0⟩ := letter_text hq.1
    have hy0 := hx0
    rw [pAt_eq (by omega)] at hy0
    have F0 := hfine 0 (by omega)
    rw [hy0] at F0
    unfold Vl.fine at F0
    have M0 := txt_may (hmay 0 (by omega)) hy0
    have i0 := his 0 (by omega) (by omega)
    rw [hy0] at i0
    unfold Vl.is at i0
    have C0 := hcs 0 (by omega)
    rw [i0] at C0
    obtain ⟨n1, hx1⟩ := letter_int hq.2
    have hy1 := hx1
    rw [pAt_eq (by omega)] at hy1
    have F1 := hfine 1 (by omega)
    rw [hy1] at F1
    unfold Vl.fine at F1
    have i1 := his 1 (by omega) (by omega)
    rw [hy1] at i1
    unfold Vl.is at i1
    have C1 := hcs 1 (by omega)
    rw [i1] at C1
    unfold wr_rep
    rw [hx0, hx1]
    exact w_rep s0 n1 F0 g 0 c' w' C0 C1
def wq_less (ps : List Pl) : Bool := letterB (pAt ps 0) 116 && letterB (pAt ps 1) 116
def wr_less (ps : List Pl) : Value := (wTruth (Op.bytesLess (txt (pAt ps 0)).toList (txt (pAt ps 1)).toList))
set_option maxRecDepth 100000 in
theorem w_Work_less (ps : List Pl) (A : Option Addr) (c : Nat) (w : World) (hlen : ps.length * 56 ≤ 140737488351232) (hl : Pls.lies w w.heap.size ps A) (hw : Ws w) :
    Calls Tryz.prog 10 #[.string wn_less, .slice A ps.length c] w (Bel (wRes 2 (wq_less ps) (wr_less ps) ps) w) := by
  refine w_Work wf_less wc_less 2 (by decide) (by decide) (by decide) ps A c w hlen hl (wq_less ps) ?_ ?_ (wr_less ps) (by unfold wr_less; exact tup_truth _) ?_
  · intro hq hn j h h'
    unfold wq_less at hq
    simp only [Bool.and_eq_true] at hq
    have hj : j = 0 ∨ j = 1 := by omega
    rcases hj with rfl | rfl
    · have h1 := hq.1
      rw [pAt_eq h] at h1
      exact h1
    · have h1 := hq.2
      rw [pAt_eq h] at h1
      exact h1
  · intro hq hn
    unfold wq_less at hq
    simp only [Bool.and_eq_false_iff] at hq
    rcases hq with hq | hq
    · exact ⟨0, by omega, by decide, by rw [← pAt_eq]; exact hq⟩
    · exact ⟨1, by omega, by decide, by rw [← pAt_eq]; exact hq⟩
  · intro hq hn hmay g c' us w' hul hb hcs his
    unfold wq_less at hq
    simp only [Bool.and_eq_true] at hq
    have WS := hw.below hb
    rw [hul]
    have hfine : ∀ j (h : j < ps.length), ps[j].toVl.fine := fun j h => by
      obtain ⟨b1, o1, e1⟩ := hl.head (by omega)
      subst e1
      exact (hl.at_ j h).fine
    obtain ⟨s0, hx0⟩ := letter_text hq.1
    have hy0 := hx0
    rw [pAt_eq (by omega)] at hy0
    have F0 := hfine 0 (by omega)
    rw [hy0] at F0
    unfold Vl.fine at F0
    have M0 := txt_may (hmay 0 (by omega)) hy0
    have i0 := his 0 (by omega) (by omega)
    rw [hy0] at i0
    unfold Vl.is at i0
    have C0 := hcs 0 (by omega)
    rw [i0] at C0
    obtain ⟨s1, hx1⟩ := letter_text hq.2
    have hy1 := hx1
    rw [pAt_eq (by omega)] at hy1
    have F1 := hfine 1 (by omega)
    rw [hy1] at F1
    unfold Vl.fine at F1
    have M1 := txt_may (hmay 1 (by omega)) hy1
    have i1 := his 1 (by omega) (by omega)
    rw [hy1] at i1
    unfold Vl.is at i1
    have C1 := hcs 1 (by omega)
    rw [i1] at C1
    unfold wr_less
    rw [hx0, hx1]
    exact w_less s0 s1 g 0 c' w' C0 C1
def wq_of (ps : List Pl) : Bool := letterB (pAt ps 0) 105
def wr_of (ps : List Pl) : Value := (wText ⟨(Lib.itoa (nmb (pAt ps 0))).toArray⟩)
set_option maxRecDepth 100000 in
theorem w_Work_of (ps : List Pl) (A : Option Addr) (c : Nat) (w : World) (hlen : ps.length * 56 ≤ 140737488351232) (hl : Pls.lies w w.heap.size ps A) (hw : Ws w) :
    Calls Tryz.prog 10 #[.string wn_of, .slice A ps.length c] w (Bel (wRes 1 (wq_of ps) (wr_of ps) ps) w) := by
  refine w_Work wf_of wc_of 1 (by decide) (by decide) (by decide) ps A c w hlen hl (wq_of ps) ?_ ?_ (wr_of ps) (by unfold wr_of; exact tup_text _) ?_
  · intro hq hn j h h'
    unfold wq_of at hq
    have hj : j = 0 := by omega
    rcases hj with rfl
    · have h1 := hq
      rw [pAt_eq h] at h1
      exact h1
  · intro hq hn
    unfold wq_of at hq
    exact ⟨0, by omega, by decide, by rw [← pAt_eq]; exact hq⟩
  · intro hq hn hmay g c' us w' hul hb hcs his
    unfold wq_of at hq
    have WS := hw.below hb
    rw [hul]
    have hfine : ∀ j (h : j < ps.length), ps[j].toVl.fine := fun j h => by
      obtain ⟨b1, o1, e1⟩ := hl.head (by omega)
      subst e1
      exact (hl.at_ j h).fine
    obtain ⟨n0, hx0⟩ := letter_int hq
    have hy0 := hx0
    rw [pAt_eq (by omega)] at hy0
    have F0 := hfine 0 (by omega)
    rw [hy0] at F0
    unfold Vl.fine at F0
    have i0 := his 0 (by omega) (by omega)
    rw [hy0] at i0
    unfold Vl.is at i0
    have C0 := hcs 0 (by omega)
    rw [i0] at C0
    unfold wr_of
    rw [hx0]
    exact w_of n0 F0 g 0 c' w' WS C0
def wq_num (ps : List Pl) : Bool := letterB (pAt ps 0) 116
def wr_num (ps : List Pl) : Value := (wNum (txt (pAt ps 0)))
set_option maxRecDepth 100000 in
theorem w_Work_num (ps : List Pl) (A : Option Addr) (c : Nat) (w : World) (hlen : ps.length * 56 ≤ 140737488351232) (hl : Pls.lies w w.heap.size ps A) (hw : Ws w) :
    Calls Tryz.prog 10 #[.string wn_num, .slice A ps.length c] w (Bel (wRes 1 (wq_num ps) (wr_num ps) ps) w) := by
  refine w_Work wf_num wc_num 1 (by decide) (by decide) (by decide) ps A c w hlen hl (wq_num ps) ?_ ?_ (wr_num ps) (by unfold wr_num; exact tup_num _) ?_
  · intro hq hn j h h'
    unfold wq_num at hq
    have hj : j = 0 := by omega
    rcases hj with rfl
    · have h1 := hq
      rw [pAt_eq h] at h1
      exact h1
  · intro hq hn
    unfold wq_num at hq
    exact ⟨0, by omega, by decide, by rw [← pAt_eq]; exact hq⟩
  · intro hq hn hmay g c' us w' hul hb hcs his
    unfold wq_num at hq
    have WS := hw.below hb
    rw [hul]
    have hfine : ∀ j (h : j < ps.length), ps[j].toVl.fine := fun j h => by
      obtain ⟨b1, o1, e1⟩ := hl.head (by omega)
      subst e1
      exact (hl.at_ j h).fine
    obtain ⟨s0, hx0⟩ := letter_text hq
    have hy0 := hx0
    rw [pAt_eq (by omega)] at hy0
    have F0 := hfine 0 (by omega)
    rw [hy0] at F0
    unfold Vl.fine at F0
    have M0 := txt_may (hmay 0 (by omega)) hy0
    have i0 := his 0 (by omega) (by omega)
    rw [hy0] at i0
    unfold Vl.is at i0
    have C0 := hcs 0 (by omega)
    rw [i0] at C0
    unfold wr_num
    rw [hx0]
    exact w_num s0 F0 g 0 c' w' WS C0
end Go.Proofs.YthjpphojddbbmaaGreatDoor
