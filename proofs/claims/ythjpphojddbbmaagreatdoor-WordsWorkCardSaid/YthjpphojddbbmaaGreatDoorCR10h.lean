/-
  words.Work and espalierref10.Work beside each other, for any operation and any plain values. Printed by a program of mine (gen_r10h.py). Conditions: they lie in memory.
-/
import Derived.Test.YthjpphojddbbmaaGreatDoorCR10g
import Derived.Test.YthjpphojddbbmaaGreatDoorCWordsDo
namespace Go.Proofs.YthjpphojddbbmaaGreatDoor
open Go.RowKit
set_option linter.unusedVariables false
set_option linter.unusedSimpArgs false

def Vl.val1 : Vl → Value
  | .unit => .iface 157 (.agg #[])
  | .truth b => .iface 47 (.bool b)
  | .int n => .iface 75 (.int .i64 n)
  | .text s => .iface 77 (.string s)
  | .list _ => .nilIface
theorem Vl.is_val1 {x : Vl} (h : x.isList = false) (w : World) (S : Nat → Prop) : x.is w S x.val1 := by
  cases x <;> simp_all [Vl.isList, Vl.is, Vl.val1]
/-- What is answered: a fault (its number, not 0), or a value without lists. -/
def outV (r : Int × Vl) : Value := if r.1 = 0 then .tuple #[r.2.val1, .int .i64 0, .string ⟨#[]⟩] else wFault r.1
def OneR (r : Int × Vl) : Prop := r.1 = 0 → r.2.isList = false ∧ r.2.fine
structure BothW (op : ByteArray) (ps : List Pl) (r : Int × Vl) : Prop where
  one : OneR r
  code : ∀ (A : Option Addr) (c : Nat) (w : World), ps.length * 56 ≤ 140737488351232 → Pls.lies w w.heap.size ps A → Ws w → Calls Tryz.prog 10 #[.string op, .slice A ps.length c] w (Bel (outV r) w)
  ref : ∀ (A : Option Addr) (c : Nat) (w : World), ps.length * 56 ≤ 140737488351232 → Pls.lies w w.heap.size ps A → Calls Tryz.prog 11 #[.string op, .slice A ps.length c] w (Bel (outP r) w)
theorem outV_bad {e : Int} (h : e ≠ 0) (x : Vl) : outV (e, x) = wFault e := by unfold outV; rw [if_neg h]
theorem outP_bad {e : Int} (h : e ≠ 0) (x : Vl) : outP (e, x) = badP e := by unfold outP; rw [if_neg h]
theorem outV_text (s : ByteArray) : outV (0, .text s) = wText s := by unfold outV; rw [if_pos rfl]; rfl
theorem outV_int (n : Int) : outV (0, .int n) = wInt n := by unfold outV; rw [if_pos rfl]; rfl
theorem outV_truth (b : Bool) : outV (0, .truth b) = wTruth b := by unfold outV; rw [if_pos rfl]; rfl
theorem one_text {s : ByteArray} (h : s.size ≤ 140737488351232) : OneR (0, .text s) := fun _ => ⟨rfl, h⟩
theorem one_unit (e : Int) (h : e ≠ 0) : OneR (e, .unit) := fun h' => absurd h' h
theorem one_if {p : Prop} [Decidable p] {a b : Int × Vl} (ha : p → OneR a) (hb : ¬ p → OneR b) : OneR (if p then a else b) := by
  by_cases h : p
  · rw [if_pos h]; exact ha h
  · rw [if_neg h]; exact hb h
theorem one_join (s t : ByteArray) : OneR (vJoin s t) := one_if (fun h => one_text (by rw [ByteArray.size_append]; omega)) (fun _ => one_unit _ (by decide))
theorem one_cut (s : ByteArray) (x y : Int) (hs : s.size ≤ 65535) : OneR (vCut s x y) := one_if (fun _ => one_text (by rw [ByteArray.size_extract]; omega)) (fun _ => one_unit _ (by decide))
theorem one_rep (s : ByteArray) (n : Int) : OneR (repR s n) := one_if (fun _ => one_unit _ (by decide)) (fun hn => one_if (fun _ => one_text (by decide)) (fun h0 => one_if (fun _ => one_unit _ (by decide)) (fun h1 => one_text (by
  have hz : 0 < (s.size : Int) := by omega
  have h2 : ¬ 65535 < n * (s.size : Int) := fun h => h1 ((rep_bound hz).2 h)
  obtain ⟨m, rfl⟩ := Int.eq_ofNat_of_zero_le (show 0 ≤ n by omega)
  show (Lib.repeatL s.data.toList (m : Int).toNat).length ≤ _
  rw [Int.toNat_natCast, Lib.repeatL_length, ← Lib.size_eq]
  have h3 : ((m * s.size : Nat) : Int) ≤ 65535 := by rw [Int.natCast_mul]; omega
  omega))))
theorem one_itoa (n : Int) (h : rng n = true) : OneR (0, .text ⟨(Lib.itoa n).toArray⟩) := one_text (by
  show (Lib.itoa n).length ≤ _
  rw [rng_iff] at h
  have := Lib.itoa_length_le n (by omega) (by omega)
  omega)
theorem one_num (s : ByteArray) : OneR (vNum s) := by
  unfold vNum
  split
  · rename_i v hv
    refine one_if (fun _ _ => ⟨rfl, ?_⟩) (fun _ => one_unit _ (by decide))
    have := w_parse_rng hv
    exact rng_iff.2 ⟨by omega, by omega⟩
  · exact one_unit _ (by decide)
theorem index_le : ∀ (s t : List UInt8), Lib.index s t ≤ s.length
  | [], t => by unfold Lib.index; split <;> simp
  | b :: l, t => by
    have := index_le l t
    unfold Lib.index
    split
    · simp only [List.length_cons]; omega
    · split
      · simp only [List.length_cons]; omega
      · simp only [List.length_cons]; omega
theorem index_rng (s t : ByteArray) (h : s.size ≤ 65535) : rng (Lib.index s.data.toList t.data.toList) = true := by
  have h1 := index_le s.data.toList t.data.toList
  have h2 := Lib.index_ge s.data.toList t.data.toList
  have h3 : s.size = s.data.toList.length := Lib.size_eq s
  exact rng_iff.2 ⟨by omega, by omega⟩
theorem plies_rng {w : World} {B : Nat} {l : List Pl} {A : Option Addr} (h : Pls.lies w B l A) : ∀ p ∈ l, rng p.num = true := by
  intro p hp
  obtain ⟨j, hj, rfl⟩ := List.getElem_of_mem hp
  obtain ⟨b, o, e⟩ := h.head (by omega)
  subst e
  exact (h.at_ j hj).nums.2
theorem arg_cells {w w' : World} {ps : List Pl} {b o : Nat} (hl : Pls.lies w w.heap.size ps (some ⟨b, o, none⟩)) (hb : Below w.heap.size w w') (j : Nat) (h : j < ps.length) :
    w'.cell? ⟨b, o + j * 4, none⟩ = some (.int .i64 ps[j].kind) ∧ w'.cell? ⟨b, o + j * 4 + 1, none⟩ = some (.int .i64 ps[j].num) ∧ w'.cell? ⟨b, o + j * 4 + 2, none⟩ = some (.string ps[j].text) := by
  obtain ⟨h0, h1, h2, h3, _⟩ := (hl.at_ j h).parts
  exact ⟨(hb.cell (p := ⟨b, o + j * 4, none⟩) h0).trans h1, (hb.cell (p := ⟨b, o + j * 4 + 1, none⟩) h0).trans h2, (hb.cell (p := ⟨b, o + j * 4 + 2, none⟩) h0).trans h3⟩
theorem letter4 (p : Pl) : letterB p.toVl 116 = (p.kind == 4) := by
  obtain ⟨k, n, t, l⟩ := p
  show letterB (Pl.mk k n t l).toVl 116 = (k == 4)
  unfold Pl.toVl
  by_cases k2 : k = 2; · subst k2; rfl
  rw [if_neg k2]
  by_cases k3 : k = 3; · subst k3; rfl
  rw [if_neg k3]
  by_cases k4 : k = 4; · subst k4; rfl
  rw [if_neg k4]
  have h4 : (k == 4) = false := by simpa using k4
  rw [h4]
  by_cases k5 : k = 5; · rw [if_pos k5]; rfl
  rw [if_neg k5]; rfl
theorem letter3 (p : Pl) : letterB p.toVl 105 = (p.kind == 3) := by
  obtain ⟨k, n, t, l⟩ := p
  show letterB (Pl.mk k n t l).toVl 105 = (k == 3)
  unfold Pl.toVl
  by_cases k2 : k = 2; · subst k2; rfl
  rw [if_neg k2]
  by_cases k3 : k = 3; · subst k3; rfl
  rw [if_neg k3]
  have h4 : (k == 3) = false := by simpa using k3
  rw [h4]
  by_cases k4 : k = 4; · subst k4; rfl
  rw [if_neg k4]
  by_cases k5 : k = 5; · rw [if_pos k5]; rfl
  rw [if_neg k5]; rfl
theorem txt4 {p : Pl} (h : p.kind = 4) : txt p.toVl = p.text := by
  obtain ⟨k, n, t, l⟩ := p
  have h' : k = 4 := h
  subst h'
  rfl
theorem nmb3 {p : Pl} (h : p.kind = 3) : nmb p.toVl = p.num := by
  obtain ⟨k, n, t, l⟩ := p
  have h' : k = 3 := h
  subst h'
  rfl
theorem asked_at {op : ByteArray} {ps : List Pl} : ∀ {rs : List RowD} {k : Nat} (h : k < rs.length), (rs.take k).all (fun r => !rowHit op r) = true → rowHit op rs[k] = true →
    askedR op ps rs = (if (ps.length : Int) < rs[k].min ∨ rs[k].max < (ps.length : Int) then 11 else if ps.all Pl.ok = true then 0 else 1)
  | r :: rs, 0, h, _, hh => by
    rw [askedR, if_pos (by simpa using hh)]
    rfl
  | r :: rs, k + 1, h, ha, hh => by
    simp only [List.take_succ_cons, List.all_cons, Bool.and_eq_true] at ha
    rw [askedR, if_neg (by have := ha.1; simp at this; simp [this])]
    exact asked_at (rs := rs) (k := k) (by simpa using h) ha.2 (by simpa using hh)
theorem asked_none {op : ByteArray} {ps : List Pl} : ∀ {rs : List RowD}, (∀ r ∈ rs, rowHit op r = false) → askedR op ps rs = 1
  | [], _ => rfl
  | r :: rs, h => by
    rw [askedR, if_neg (by rw [h r (by simp)]; decide)]
    exact asked_none fun r hr => h r (by simp [hr])
def AskedW (op : ByteArray) (n : Nat) : Prop := ∀ ps : List Pl, askedR op ps wordsRows = (if (ps.length : Int) < (n : Int) ∨ (n : Int) < (ps.length : Int) then 11 else if ps.all Pl.ok = true then 0 else 1)
theorem askedW {op : ByteArray} {n : Nat} (k : Nat) (h : k < wordsRows.length) (h1 : (wordsRows.take k).all (fun r => !rowHit op r) = true) (h2 : rowHit op wordsRows[k] = true) (h3 : wordsRows[k].min = n) (h4 : wordsRows[k].max = n) : AskedW op n := fun ps => by
  rw [asked_at h h1 h2, h3, h4]
theorem all_ok (ps : List Pl) : ps.all Pl.mayB = ps.all Pl.ok := by
  congr 1
  funext p
  exact (ok_left p).symm
/-- An operation, from its parts. -/
theorem both_w {op : ByteArray} {n : Nat} {q : List Pl → Bool} {wr : List Pl → Value} (hn : 0 < n)
    (hcode : ∀ (ps : List Pl) (A : Option Addr) (c : Nat) (w : World), ps.length * 56 ≤ 140737488351232 → Pls.lies w w.heap.size ps A → Ws w → Calls Tryz.prog 10 #[.string op, .slice A ps.length c] w (Bel (wRes n (q ps) (wr ps) ps) w)) (hask : AskedW op n) (ps : List Pl)
    (hS : ps.length = n → ∀ (b o c : Nat) (w w' : World), Pls.lies w w.heap.size ps (some ⟨b, o, none⟩) → Below w.heap.size w w' → Calls Tryz.prog 29 #[.string op, .slice (some ⟨b, o, none⟩) ps.length c] w' (Bel (.bool (q ps)) w'))
    (hR : ps.length = n → ps.all Pl.mayB = true → q ps = true → ∃ r, OneR r ∧ wr ps = outV r ∧ ∀ (b o c : Nat) (w w' : World), Pls.lies w w.heap.size ps (some ⟨b, o, none⟩) → Below w.heap.size w w' → Calls Tryz.prog 30 #[.string op, .slice (some ⟨b, o, none⟩) ps.length c] w' (Bel (pairW r) w')) :
    (∀ p ∈ ps, rng p.num = true) → ∃ r, BothW op ps r := by
  intro _
  by_cases hl : ps.length = n
  · cases hm : ps.all Pl.mayB
    · refine ⟨(1, .unit), one_unit _ (by decide), fun A c w h1 h2 h3 => ?_, fun A c w h1 h2 => ?_⟩
      · have := hcode ps A c w h1 h2 h3
        unfold wRes at this
        rw [if_pos hl, if_neg (by rw [hm]; decide)] at this
        rw [outV_bad (by decide)]
        exact this
      · rw [outP_bad (by decide)]
        exact r10_fault op ps A c w h1 h2 1 (by rw [hask, if_neg (by omega), if_neg (by rw [← all_ok, hm]; decide)]) (by decide)
    · have hz : askedR op ps wordsRows = 0 := by rw [hask, if_neg (by omega), if_pos (by rw [← all_ok, hm])]
      cases hq : q ps
      · refine ⟨(20, .unit), one_unit _ (by decide), fun A c w h1 h2 h3 => ?_, fun A c w h1 h2 => ?_⟩
        · have := hcode ps A c w h1 h2 h3
          unfold wRes wIf at this
          rw [if_pos hl, if_pos hm, if_neg (by rw [hq]; decide)] at this
          rw [outV_bad (by decide)]
          exact this
        · rw [outP_bad (by decide)]
          obtain ⟨b, o, rfl⟩ := h2.head (by omega)
          refine r10_sort op ps _ c w h1 h2 hz (fun w' hb => ?_)
          have := hS hl b o c w w' h2 hb
          rw [hq] at this
          exact this
      · obtain ⟨r, h1r, h2r, h3r⟩ := hR hl hm hq
        refine ⟨r, h1r, fun A c w h1 h2 h3 => ?_, fun A c w h1 h2 => ?_⟩
        · have := hcode ps A c w h1 h2 h3
          unfold wRes wIf at this
          rw [if_pos hl, if_pos hm, if_pos hq, h2r] at this
          exact this
        · obtain ⟨b, o, rfl⟩ := h2.head (by omega)
          refine r10_ok op ps _ c w h1 h2 hz (fun w' hb => ?_) r (fun w' hb => h3r b o c w w' h2 hb)
          have := hS hl b o c w w' h2 hb
          rw [hq] at this
          exact this
  · refine ⟨(11, .unit), one_unit _ (by decide), fun A c w h1 h2 h3 => ?_, fun A c w h1 h2 => ?_⟩
    · have := hcode ps A c w h1 h2 h3
      unfold wRes at this
      rw [if_neg hl] at this
      rw [outV_bad (by decide)]
      exact this
    · rw [outP_bad (by decide)]
      exact r10_fault op ps A c w h1 h2 11 (by rw [hask, if_pos (by omega)]) (by decide)
theorem wJoin_out (s t : ByteArray) : wJoinV s t = outV (vJoin s t) := by
  unfold wJoinV vJoin
  by_cases h : s.size + t.size ≤ 65535
  · rw [if_pos h, if_pos h, outV_text]
  · rw [if_neg h, if_neg h, outV_bad (by decide)]
theorem wCut_out (s : ByteArray) (x y : Int) : wCutV s x y = outV (vCut s x y) := by
  unfold wCutV vCut
  by_cases h : 0 ≤ x ∧ x ≤ y ∧ y ≤ s.size
  · rw [if_pos h, if_pos h, outV_text]
  · rw [if_neg h, if_neg h, outV_bad (by decide)]
theorem wRep_out (s : ByteArray) (n : Int) : wRep s n = outV (repR s n) := by
  unfold wRep repR
  by_cases h : n < 0
  · rw [if_pos h, if_pos h, outV_bad (by decide)]
  · rw [if_neg h, if_neg h]
    by_cases h1 : s.size = 0
    · rw [if_pos h1, if_pos h1, outV_text]
    · rw [if_neg h1, if_neg h1]
      by_cases h2 : 65535 / (s.size : Int) < n
      · rw [if_pos h2, if_pos h2, outV_bad (by decide)]
      · rw [if_neg h2, if_neg h2, outV_text]
theorem wNum_out (s : ByteArray) : wNum s = outV (vNum s) := by
  unfold wNum vNum
  cases hv : Lib.parseIntB 64 s.data.toList with
  | ok v =>
    by_cases h : (⟨(Lib.itoa v).toArray⟩ : ByteArray) = s
    · show (if _ then _ else _) = outV (if _ then _ else _)
      rw [if_pos h, if_pos h, outV_int]
    · show (if _ then _ else _) = outV (if _ then _ else _)
      rw [if_neg h, if_neg h, outV_bad (by decide)]
  | _ => exact (outV_bad (by decide) _).symm
theorem wq_join_eq {ps : List Pl} (h : ps.length = 2) : wq_join ps = kindsB ps [4, 4] := by
  match ps, h with
  | [p, q], _ =>
    unfold wq_join pAt kindsB
    simp [letter4, letter3, kindsB, Bool.and_assoc]
theorem both_join (ps : List Pl) (hs : ∀ p ∈ ps, rng p.num = true) : ∃ r, BothW wn_join ps r := by
  refine both_w (n := 2) (by decide) w_Work_join (askedW 0 (by decide) (by kernel_rfl) (by kernel_rfl) (by kernel_rfl) (by kernel_rfl)) ps (fun hl b o c w w' h hb => ?_) (fun hl hm hq => ?_) hs
  · rw [wq_join_eq hl, hl]
    exact r_sorts_join ps hl b o c w' (fun j h' => (arg_cells h hb j h').1)
  · rw [wq_join_eq hl] at hq
    match ps, hl with
    | [p, q], _ =>
      simp only [kindsB, Bool.and_eq_true, beq_iff_eq, Bool.and_true, and_true] at hq
      simp only [List.all_cons, List.all_nil, Bool.and_true, Bool.and_eq_true] at hm
      have e : wr_join [p, q] = outV (vJoin p.text q.text) := by
        unfold wr_join pAt
        simp only [List.getElem?_cons_zero, List.getElem?_cons_succ, Option.getD_some]
        rw [txt4 (p := p) (hq.1), txt4 (p := q) (hq.2)]
        exact wJoin_out _ _
      refine ⟨vJoin p.text q.text, one_join _ _, e, fun b o c w w' hl hb => ?_⟩
      have K0 := arg_cells hl hb 0 (by simp)
      have K1 := arg_cells hl hb 1 (by simp)
      simp only [List.getElem_cons_zero, List.getElem_cons_succ, Nat.zero_mul, Nat.add_zero, Nat.one_mul, Nat.reduceMul, Nat.add_assoc, Nat.reduceAdd] at K0 K1
      exact r_work_join p.text (may_text hm.1) q.text (may_text hm.2) b o c w' K0.2.2 K1.2.2
theorem wq_size_eq {ps : List Pl} (h : ps.length = 1) : wq_size ps = kindsB ps [4] := by
  match ps, h with
  | [p], _ =>
    unfold wq_size pAt kindsB
    simp [letter4, letter3, kindsB, Bool.and_assoc]
theorem both_size (ps : List Pl) (hs : ∀ p ∈ ps, rng p.num = true) : ∃ r, BothW wn_size ps r := by
  refine both_w (n := 1) (by decide) w_Work_size (askedW 1 (by decide) (by kernel_rfl) (by kernel_rfl) (by kernel_rfl) (by kernel_rfl)) ps (fun hl b o c w w' h hb => ?_) (fun hl hm hq => ?_) hs
  · rw [wq_size_eq hl, hl]
    exact r_sorts_size ps hl b o c w' (fun j h' => (arg_cells h hb j h').1)
  · rw [wq_size_eq hl] at hq
    match ps, hl with
    | [p], _ =>
      simp only [kindsB, Bool.and_eq_true, beq_iff_eq, Bool.and_true, and_true] at hq
      simp only [List.all_cons, List.all_nil, Bool.and_true, Bool.and_eq_true] at hm
      have e : wr_size [p] = outV (((0 : Int), Vl.int p.text.size)) := by
        unfold wr_size pAt
        simp only [List.getElem?_cons_zero, List.getElem?_cons_succ, Option.getD_some]
        rw [txt4 (p := p) (hq)]
        exact (outV_int _).symm
      refine ⟨((0 : Int), Vl.int p.text.size), fun _ => ⟨rfl, rng_iff.2 (by have := may_text hm; omega)⟩, e, fun b o c w w' hl hb => ?_⟩
      have K0 := arg_cells hl hb 0 (by simp)
      simp only [List.getElem_cons_zero, List.getElem_cons_succ, Nat.zero_mul, Nat.add_zero, Nat.one_mul, Nat.reduceMul, Nat.add_assoc, Nat.reduceAdd] at K0
      exact r_work_size p.text (may_text hm) b o c w' K0.2.2
theorem wq_cut_eq {ps : List Pl} (h : ps.length = 3) : wq_cut ps = kindsB ps [4, 3, 3] := by
  match ps, h with
  | [p, q, r], _ =>
    unfold wq_cut pAt kindsB
    simp [letter4, letter3, kindsB, Bool.and_assoc]
theorem both_cut (ps : List Pl) (hs : ∀ p ∈ ps, rng p.num = true) : ∃ r, BothW wn_cut ps r := by
  refine both_w (n := 3) (by decide) w_Work_cut (askedW 2 (by decide) (by kernel_rfl) (by kernel_rfl) (by kernel_rfl) (by kernel_rfl)) ps (fun hl b o c w w' h hb => ?_) (fun hl hm hq => ?_) hs
  · rw [wq_cut_eq hl, hl]
    exact r_sorts_cut ps hl b o c w' (fun j h' => (arg_cells h hb j h').1)
  · rw [wq_cut_eq hl] at hq
    match ps, hl with
    | [p, q, r], _ =>
      simp only [kindsB, Bool.and_eq_true, beq_iff_eq, Bool.and_true, and_true] at hq
      simp only [List.all_cons, List.all_nil, Bool.and_true, Bool.and_eq_true] at hm
      have e : wr_cut [p, q, r] = outV (vCut p.text q.num r.num) := by
        unfold wr_cut pAt
        simp only [List.getElem?_cons_zero, List.getElem?_cons_succ, Option.getD_some]
        rw [txt4 (p := p) (hq.1), nmb3 (p := q) (hq.2.1), nmb3 (p := r) (hq.2.2)]
        exact wCut_out _ _ _
      refine ⟨vCut p.text q.num r.num, one_cut _ _ _ (may_text hm.1), e, fun b o c w w' hl hb => ?_⟩
      have K0 := arg_cells hl hb 0 (by simp)
      have K1 := arg_cells hl hb 1 (by simp)
      have K2 := arg_cells hl hb 2 (by simp)
      simp only [List.getElem_cons_zero, List.getElem_cons_succ, Nat.zero_mul, Nat.add_zero, Nat.one_mul, Nat.reduceMul, Nat.add_assoc, Nat.reduceAdd] at K0 K1 K2
      exact r_work_cut p.text (may_text hm.1) q.num r.num b o c w' K0.2.2 K1.2.1 K2.2.1
theorem wq_find_eq {ps : List Pl} (h : ps.length = 2) : wq_find ps = kindsB ps [4, 4] := by
  match ps, h with
  | [p, q], _ =>
    unfold wq_find pAt kindsB
    simp [letter4, letter3, kindsB, Bool.and_assoc]
theorem both_find (ps : List Pl) (hs : ∀ p ∈ ps, rng p.num = true) : ∃ r, BothW wn_find ps r := by
  refine both_w (n := 2) (by decide) w_Work_find (askedW 3 (by decide) (by kernel_rfl) (by kernel_rfl) (by kernel_rfl) (by kernel_rfl)) ps (fun hl b o c w w' h hb => ?_) (fun hl hm hq => ?_) hs
  · rw [wq_find_eq hl, hl]
    exact r_sorts_find ps hl b o c w' (fun j h' => (arg_cells h hb j h').1)
  · rw [wq_find_eq hl] at hq
    match ps, hl with
    | [p, q], _ =>
      simp only [kindsB, Bool.and_eq_true, beq_iff_eq, Bool.and_true, and_true] at hq
      simp only [List.all_cons, List.all_nil, Bool.and_true, Bool.and_eq_true] at hm
      have e : wr_find [p, q] = outV (((0 : Int), Vl.int (Lib.index p.text.data.toList q.text.data.toList))) := by
        unfold wr_find pAt
        simp only [List.getElem?_cons_zero, List.getElem?_cons_succ, Option.getD_some]
        rw [txt4 (p := p) (hq.1), txt4 (p := q) (hq.2)]
        exact (outV_int _).symm
      refine ⟨((0 : Int), Vl.int (Lib.index p.text.data.toList q.text.data.toList)), fun _ => ⟨rfl, index_rng p.text q.text (may_text hm.1)⟩, e, fun b o c w w' hl hb => ?_⟩
      have K0 := arg_cells hl hb 0 (by simp)
      have K1 := arg_cells hl hb 1 (by simp)
      simp only [List.getElem_cons_zero, List.getElem_cons_succ, Nat.zero_mul, Nat.add_zero, Nat.one_mul, Nat.reduceMul, Nat.add_assoc, Nat.reduceAdd] at K0 K1
      exact r_work_find p.text (may_text hm.1) q.text (may_text hm.2) b o c w' K0.2.2 K1.2.2
theorem wq_rep_eq {ps : List Pl} (h : ps.length = 2) : wq_rep ps = kindsB ps [4, 3] := by
  match ps, h with
  | [p, q], _ =>
    unfold wq_rep pAt kindsB
    simp [letter4, letter3, kindsB, Bool.and_assoc]
theorem both_rep (ps : List Pl) (hs : ∀ p ∈ ps, rng p.num = true) : ∃ r, BothW wn_rep ps r := by
  refine both_w (n := 2) (by decide) w_Work_rep (askedW 4 (by decide) (by kernel_rfl) (by kernel_rfl) (by kernel_rfl) (by kernel_rfl)) ps (fun hl b o c w w' h hb => ?_) (fun hl hm hq => ?_) hs
  · rw [wq_rep_eq hl, hl]
    exact r_sorts_rep ps hl b o c w' (fun j h' => (arg_cells h hb j h').1)
  · rw [wq_rep_eq hl] at hq
    match ps, hl with
    | [p, q], _ =>
      simp only [kindsB, Bool.and_eq_true, beq_iff_eq, Bool.and_true, and_true] at hq
      simp only [List.all_cons, List.all_nil, Bool.and_true, Bool.and_eq_true] at hm
      have e : wr_rep [p, q] = outV (repR p.text q.num) := by
        unfold wr_rep pAt
        simp only [List.getElem?_cons_zero, List.getElem?_cons_succ, Option.getD_some]
        rw [txt4 (p := p) (hq.1), nmb3 (p := q) (hq.2)]
        exact wRep_out _ _
      refine ⟨repR p.text q.num, one_rep _ _, e, fun b o c w w' hl hb => ?_⟩
      have K0 := arg_cells hl hb 0 (by simp)
      have K1 := arg_cells hl hb 1 (by simp)
      simp only [List.getElem_cons_zero, List.getElem_cons_succ, Nat.zero_mul, Nat.add_zero, Nat.one_mul, Nat.reduceMul, Nat.add_assoc, Nat.reduceAdd] at K0 K1
      exact r_work_rep p.text (may_text hm.1) q.num b o c w' K0.2.2 K1.2.1
theorem wq_less_eq {ps : List Pl} (h : ps.length = 2) : wq_less ps = kindsB ps [4, 4] := by
  match ps, h with
  | [p, q], _ =>
    unfold wq_less pAt kindsB
    simp [letter4, letter3, kindsB, Bool.and_assoc]
theorem both_less (ps : List Pl) (hs : ∀ p ∈ ps, rng p.num = true) : ∃ r, BothW wn_less ps r := by
  refine both_w (n := 2) (by decide) w_Work_less (askedW 5 (by decide) (by kernel_rfl) (by kernel_rfl) (by kernel_rfl) (by kernel_rfl)) ps (fun hl b o c w w' h hb => ?_) (fun hl hm hq => ?_) hs
  · rw [wq_less_eq hl, hl]
    exact r_sorts_less ps hl b o c w' (fun j h' => (arg_cells h hb j h').1)
  · rw [wq_less_eq hl] at hq
    match ps, hl with
    | [p, q], _ =>
      simp only [kindsB, Bool.and_eq_true, beq_iff_eq, Bool.and_true, and_true] at hq
      simp only [List.all_cons, List.all_nil, Bool.and_true, Bool.and_eq_true] at hm
      have e : wr_less [p, q] = outV (((0 : Int), Vl.truth (Op.bytesLess p.text.toList q.text.toList))) := by
        unfold wr_less pAt
        simp only [List.getElem?_cons_zero, List.getElem?_cons_succ, Option.getD_some]
        rw [txt4 (p := p) (hq.1), txt4 (p := q) (hq.2)]
        exact (outV_truth _).symm
      refine ⟨((0 : Int), Vl.truth (Op.bytesLess p.text.toList q.text.toList)), fun _ => ⟨rfl, trivial⟩, e, fun b o c w w' hl hb => ?_⟩
      have K0 := arg_cells hl hb 0 (by simp)
      have K1 := arg_cells hl hb 1 (by simp)
      simp only [List.getElem_cons_zero, List.getElem_cons_succ, Nat.zero_mul, Nat.add_zero, Nat.one_mul, Nat.reduceMul, Nat.add_assoc, Nat.reduceAdd] at K0 K1
      exact r_work_less p.text (may_text hm.1) q.text (may_text hm.2) b o c w' K0.2.2 K1.2.2
theorem wq_of_eq {ps : List Pl} (h : ps.length = 1) : wq_of ps = kindsB ps [3] := by
  match ps, h with
  | [p], _ =>
    unfold wq_of pAt kindsB
    simp [letter4, letter3, kindsB, Bool.and_assoc]
theorem both_of (ps : List Pl) (hs : ∀ p ∈ ps, rng p.num = true) : ∃ r, BothW wn_of ps r := by
  refine both_w (n := 1) (by decide) w_Work_of (askedW 6 (by decide) (by kernel_rfl) (by kernel_rfl) (by kernel_rfl) (by kernel_rfl)) ps (fun hl b o c w w' h hb => ?_) (fun hl hm hq => ?_) hs
  · rw [wq_of_eq hl, hl]
    exact r_sorts_of ps hl b o c w' (fun j h' => (arg_cells h hb j h').1)
  · rw [wq_of_eq hl] at hq
    match ps, hl with
    | [p], _ =>
      simp only [kindsB, Bool.and_eq_true, beq_iff_eq, Bool.and_true, and_true] at hq
      simp only [List.all_cons, List.all_nil, Bool.and_true, Bool.and_eq_true] at hm
      have e : wr_of [p] = outV (((0 : Int), Vl.text ⟨(Lib.itoa p.num).toArray⟩)) := by
        unfold wr_of pAt
        simp only [List.getElem?_cons_zero, List.getElem?_cons_succ, Option.getD_some]
        rw [nmb3 (p := p) (hq)]
        exact (outV_text _).symm
      refine ⟨((0 : Int), Vl.text ⟨(Lib.itoa p.num).toArray⟩), one_itoa _ (hs p (by simp)), e, fun b o c w w' hl hb => ?_⟩
      have K0 := arg_cells hl hb 0 (by simp)
      simp only [List.getElem_cons_zero, List.getElem_cons_succ, Nat.zero_mul, Nat.add_zero, Nat.one_mul, Nat.reduceMul, Nat.add_assoc, Nat.reduceAdd] at K0
      exact r_work_of p.num (plies_rng hl p (by simp)) p.text b o c w' K0.2.1 K0.2.2
theorem wq_num_eq {ps : List Pl} (h : ps.length = 1) : wq_num ps = kindsB ps [4] := by
  match ps, h with
  | [p], _ =>
    unfold wq_num pAt kindsB
    simp [letter4, letter3, kindsB, Bool.and_assoc]
theorem both_num (ps : List Pl) (hs : ∀ p ∈ ps, rng p.num = true) : ∃ r, BothW wn_num ps r := by
  refine both_w (n := 1) (by decide) w_Work_num (askedW 7 (by decide) (by kernel_rfl) (by kernel_rfl) (by kernel_rfl) (by kernel_rfl)) ps (fun hl b o c w w' h hb => ?_) (fun hl hm hq => ?_) hs
  · rw [wq_num_eq hl, hl]
    exact r_sorts_num ps hl b o c w' (fun j h' => (arg_cells h hb j h').1)
  · rw [wq_num_eq hl] at hq
    match ps, hl with
    | [p], _ =>
      simp only [kindsB, Bool.and_eq_true, beq_iff_eq, Bool.and_true, and_true] at hq
      simp only [List.all_cons, List.all_nil, Bool.and_true, Bool.and_eq_true] at hm
      have e : wr_num [p] = outV (vNum p.text) := by
        unfold wr_num pAt
        simp only [List.getElem?_cons_zero, List.getElem?_cons_succ, Option.getD_some]
        rw [txt4 (p := p) (hq)]
        exact wNum_out _
      refine ⟨vNum p.text, one_num _, e, fun b o c w w' hl hb => ?_⟩
      have K0 := arg_cells hl hb 0 (by simp)
      simp only [List.getElem_cons_zero, List.getElem_cons_succ, Nat.zero_mul, Nat.add_zero, Nat.one_mul, Nat.reduceMul, Nat.add_assoc, Nat.reduceAdd] at K0
      exact r_work_num p.text (may_text hm) b o c w' K0.2.2
def wNames : List ByteArray := [wn_join, wn_size, wn_cut, wn_find, wn_rep, wn_less, wn_of, wn_num]
theorem bytes_same_l {a b : ByteArray} (h : a.toList = b.toList) : a = b := by
  have h' : a.data.toList = b.data.toList := by rw [← Lib.toList_data, ← Lib.toList_data, h]
  cases a; cases b
  simp only [ByteArray.mk.injEq]
  exact Array.ext' h'
theorem w_find_not (s : ByteArray) : ∀ (l : List MapEntry) (i : Nat), (∀ e ∈ l, ∃ k, e.key = .string k ∧ (s == k) = false) → Instr.findNow .string (.string s) l i = some none
  | [], _, _ => rfl
  | e :: l, i, h => by
    obtain ⟨k, hk, hn⟩ := h e (by simp)
    simp only [Instr.findNow, Instr.sameNow, hk, hn]
    exact w_find_not s l _ fun e he => h e (by simp [he])
theorem w_strict_names : ∀ r ∈ wordsRows, hasB txStrict r.abil = true → wNames.any (fun n => n.toList == r.kind.toList) = true := by decide +kernel
theorem w_tab_names : wTab.toList.all (fun e => match e.key with | .string k => wNames.any (fun n => n == k) | _ => false) = true := by kernel_rfl
theorem w_bytes_ne {a b : ByteArray} (h : a ≠ b) : (a == b) = false := by
  cases e : (a == b)
  · rfl
  · exact absurd ((MapKept.bytes_beq a b).mp e) h
theorem bothw_none {op : ByteArray} (h : op ∉ wNames) (ps : List Pl) : ∃ r, BothW op ps r := by
  refine ⟨(1, .unit), one_unit _ (by decide), fun A c w h1 h2 h3 => ?_, fun A c w h1 h2 => ?_⟩
  · rw [outV_bad (by decide)]
    refine w_Work_none op (w_find_not op _ 0 fun e he => ?_) _ w
    have h1 := List.all_eq_true.1 w_tab_names e he
    split at h1
    · rename_i k hk
      refine ⟨k, hk, w_bytes_ne fun e => ?_⟩
      obtain ⟨n, hn, hb⟩ := List.any_eq_true.1 h1
      have : n = k := (MapKept.bytes_beq n k).mp hb
      exact h (e ▸ this ▸ hn)
    · cases h1
  · rw [outP_bad (by decide)]
    refine r10_fault op ps A c w h1 h2 1 (asked_none fun r hr => ?_) (by decide)
    unfold rowHit
    cases hs : hasB txStrict r.abil
    · simp
    · rw [Bool.and_true]
      show (r.kind.toList == op.toList) = false
      rw [beq_eq_false_iff_ne]
      intro e
      obtain ⟨n, hn, hb⟩ := List.any_eq_true.1 (w_strict_names r hr hs)
      refine h ?_
      have : n = op := bytes_same_l (by rw [beq_iff_eq] at hb; rw [hb, e])
      rw [← this]
      exact hn
theorem words_both (op : ByteArray) (ps : List Pl) (hs : ∀ p ∈ ps, rng p.num = true) : ∃ r, BothW op ps r := by
  by_cases h : op ∈ wNames
  · simp only [wNames, List.mem_cons, List.not_mem_nil, or_false] at h
    rcases h with rfl | rfl | rfl | rfl | rfl | rfl | rfl | rfl
    · exact both_join ps hs
    · exact both_size ps hs
    · exact both_cut ps hs
    · exact both_find ps hs
    · exact both_rep ps hs
    · exact both_less ps hs
    · exact both_of ps hs
    · exact both_num ps hs
  · exact bothw_none h ps
end Go.Proofs.YthjpphojddbbmaaGreatDoor
