/-
  Part 7 of 8 of a proof, several texts in a row: NumBoth, LawWork, LawBegun, LawBegun2, PlLight, TwOwn, Pack. Conditions: each text names its own.
-/
import Derived.Test.YtcdjnkeomaidaaaGreatM05
import Derived.Test.YtcdjnkeomaidaaaGreatM06
import Derived.Test.YtcdjnkeomaidaaaGreatM03
import Derived.Laws.ResultCell
import Derived.Test.YtcdjnkeomaidaaaGreatM01
import Derived.Test.YtcdjnkeomaidaaaGreatProg
import Derived.Lib.Strings
import Derived.Test.YtcdjnkeomaidaaaGreatM04
import Derived.Deep.CutRange
/-
  num.Work and the document's answer, beside each other, for any operation and any plain values. Conditions: they lie in memory.
-/
namespace Go.Proofs.YtcdjnkeomaidaaaGreat
open Go.RowKit
set_option linter.unusedVariables false

def Vl.val1 : Vl → Value
  | .unit => .iface 148 (.agg #[])
  | .truth b => .iface 45 (.bool b)
  | .int n => .iface 65 (.int .i64 n)
  | .text s => .iface 146 (.string s)
  | .list _ => .nilIface
theorem Vl.is_val1 {x : Vl} (h : x.isList = false) (w : World) (S : Nat → Prop) : x.is w S x.val1 := by
  cases x <;> simp_all [Vl.isList, Vl.is, Vl.val1]
/-- What is answered: a fault (its number, not 0), or a value without lists. -/
def outV (r : Int × Vl) : Value := if r.1 = 0 then .tuple #[r.2.val1, .int .i64 0, .string ⟨#[]⟩] else bad3 r.1
def outP (r : Int × Vl) : Value := if r.1 = 0 then okP r.2 else badP r.1
structure Both (op : ByteArray) (ps : List Pl) (r : Int × Vl) : Prop where
  one : r.1 = 0 → r.2.isList = false ∧ r.2.fine
  code : ∀ (A : Option Addr) (c : Nat) (w : World), ps.length * 56 ≤ 140737488351232 → Pls.lies w w.heap.size ps A → Calls Tryz.prog 6 #[.string op, .slice A ps.length c] w (Bel (outV r) w)
  ref : ∀ (A : Option Addr) (c : Nat) (w : World), ps.length * 56 ≤ 140737488351232 → Pls.lies w w.heap.size ps A → Calls Tryz.prog 7 #[.string op, .slice A ps.length c] w (Bel (outP r) w)
def Goes (v q : Value) (r : Int × Vl) : Prop :=
  withText v = outV r ∧ (∃ n k, q = .tuple #[.int .i64 n, .int .i64 k] ∧ outP r = (if k = 0 then okP (.int n) else badP k)) ∧ (r.1 = 0 → r.2.isList = false ∧ r.2.fine)
theorem goes_num {n : Int} (h : rng n = true) : Goes (numV n) (pairP n 0) (0, .int n) :=
  ⟨rfl, ⟨n, 0, rfl, rfl⟩, fun _ => ⟨rfl, h⟩⟩
theorem goes_fault {e : Int} (h : e ≠ 0) : Goes (faultV e) (pairP 0 e) (e, .unit) :=
  ⟨by unfold outV; rw [if_neg h]; rfl, ⟨0, e, rfl, by unfold outP; rw [if_neg h, if_neg h]⟩, fun h' => absurd h' h⟩
theorem goes_exact (x : Int) : ∃ r, Goes (exactV x) (exactP x) r := by
  unfold exactV exactP
  cases h : rng x
  · exact ⟨_, goes_fault (e := 21) (by decide)⟩
  · exact ⟨_, goes_num h⟩
theorem goes_quo (a b : Int) : ∃ r, Goes (quoV a b) (quoP a b) r := by
  unfold quoV quoP
  split
  · exact ⟨_, goes_fault (e := 22) (by decide)⟩
  · exact goes_exact _
theorem modR_rng {a b : Int} (hb : rng b = true) (h0 : b ≠ 0) : rng (modR a b) = true := by
  obtain ⟨_, h1, _, _⟩ := tmod_facts (a := a) h0
  rw [rng_iff] at hb ⊢
  unfold modR
  split <;> omega
theorem goes_mod (a b : Int) (hb : rng b = true) : ∃ r, Goes (modV a b) (modP a b) r := by
  unfold modV modP
  split
  · exact ⟨_, goes_fault (e := 22) (by decide)⟩
  · exact ⟨_, goes_num (modR_rng hb (by assumption))⟩
theorem goes_pow (a b : Int) : ∃ r, Goes (powVV a b) (powP a b) r := by
  unfold powVV powP
  split
  · exact ⟨_, goes_fault (e := 23) (by decide)⟩
  · exact goes_exact _
theorem goes_min {a b : Int} (ha : rng a = true) (hb : rng b = true) : ∃ r, Goes (numV (min a b)) (pairP (min a b) 0) r :=
  ⟨_, goes_num (by rw [rng_iff] at ha hb ⊢; omega)⟩
theorem goes_max {a b : Int} (ha : rng a = true) (hb : rng b = true) : ∃ r, Goes (numV (max a b)) (pairP (max a b) 0) r :=
  ⟨_, goes_num (by rw [rng_iff] at ha hb ⊢; omega)⟩

/-! What is asked of a call. -/
theorem asked_at {op : ByteArray} {ps : List Pl} : ∀ {rs : List RowD} {k : Nat} (h : k < rs.length), (rs.take k).all (fun r => !rowHit op r) = true → rowHit op rs[k] = true →
    askedR op ps rs = (if (ps.length : Int) < rs[k].min ∨ rs[k].max < (ps.length : Int) then 11 else if ps.all Pl.ok = true then 0 else 1)
  | r :: rs, 0, h, _, hh => by
    rw [askedR, if_pos (by simpa using hh)]
    rfl
  | r :: rs, k + 1, h, ha, hh => by
    simp only [List.take_succ_cons, List.all_cons, Bool.and_eq_true] at ha
    rw [askedR, if_neg (by have := ha.1; simp at this; simp [this])]
    exact asked_at (rs := rs) (k := k) (by simpa using h) ha.2 (by simpa using hh)
theorem asked_none {op : ByteArray} {ps : List Pl} : ∀ {rs : List RowD}, (∀ r ∈ rs, rowHit op r = false) → askedR op ps rs = 1
  | [], _ => rfl
  | r :: rs, h => by
    rw [askedR, if_neg (by rw [h r (by simp)]; decide)]
    exact asked_none fun r hr => h r (by simp [hr])
/-- An operation of the table that takes a number, or two. -/
def AskedN (op : ByteArray) (n : Int) : Prop := ∀ ps : List Pl, askedR op ps numRows = (if (ps.length : Int) < n ∨ n < (ps.length : Int) then 11 else if ps.all Pl.ok = true then 0 else 1)
theorem askedN {op : ByteArray} {n : Int} (k : Nat) (h : k < numRows.length) (h1 : (numRows.take k).all (fun r => !rowHit op r) = true) (h2 : rowHit op numRows[k] = true) (h3 : numRows[k].min = n) (h4 : numRows[k].max = n) : AskedN op n := fun ps => by
  rw [asked_at h h1 h2, h3, h4]

theorem bad_code (v : Value) (e : Int) (h : e ≠ 0) : bad3 e = outV (e, .unit) := by unfold outV; rw [if_neg h]
theorem bad_ref (e : Int) (h : e ≠ 0) : badP e = outP (e, .unit) := by unfold outP; rw [if_neg h]
theorem toVl_int {p : Pl} (h : p.kind = 3) : p.toVl = .int p.num := by
  obtain ⟨k, n, t, l⟩ := p
  simp only [Pl.kind] at h
  subst h
  unfold Pl.toVl
  simp [Pl.num]
theorem toVl_other {p : Pl} (h : p.kind ≠ 3) (n : Int) : p.toVl ≠ .int n := by
  obtain ⟨k, m, t, l⟩ := p
  simp only [Pl.kind] at h
  unfold Pl.toVl
  rw [if_neg h]
  split
  · exact fun e => by cases e
  · split
    · exact fun e => by cases e
    · split
      · exact fun e => by cases e
      · exact fun e => by cases e
theorem doV_other1 {V : Int → Int → Value} {x : Vl} (h : ∀ n, x ≠ .int n) : doV V [x] = bad3 20 := by
  unfold doV; cases x <;> first | rfl | exact absurd rfl (h _)
theorem doV_other2 {V : Int → Int → Value} {x y : Vl} (h : ∀ n, x ≠ .int n) : doV V [x, y] = bad3 20 := by
  unfold doV; cases x <;> first | rfl | exact absurd rfl (h _)
theorem doV_other3 {V : Int → Int → Value} {x y : Vl} (h : ∀ n, y ≠ .int n) : doV V [x, y] = bad3 20 := by
  unfold doV; cases x <;> cases y <;> first | rfl | exact absurd rfl (h _)

section
variable {op : ByteArray} {ps : List Pl}
theorem both_fault {e : Int} (he : e ≠ 0) (hc : ∀ (A : Option Addr) (c : Nat) (w : World), ps.length * 56 ≤ 140737488351232 → Pls.lies w w.heap.size ps A → Calls Tryz.prog 6 #[.string op, .slice A ps.length c] w (Bel (bad3 e) w))
    (hr : ∀ (A : Option Addr) (c : Nat) (w : World), ps.length * 56 ≤ 140737488351232 → Pls.lies w w.heap.size ps A → Calls Tryz.prog 7 #[.string op, .slice A ps.length c] w (Bel (badP e) w)) : ∃ r, Both op ps r :=
  ⟨(e, .unit), fun h => absurd h he, fun A c w h1 h2 => by rw [← bad_code .nilIface e he]; exact hc A c w h1 h2, fun A c w h1 h2 => by rw [← bad_ref e he]; exact hr A c w h1 h2⟩
end
theorem code_of {op : ByteArray} {cnt : Nat} {V : Int → Int → Value} {ps : List Pl} {v : Value} (h : NumOp op cnt V) (hc : cnt = 1 ∨ cnt = 2) (hv : workV cnt V ps = v) (A : Option Addr) (c : Nat) (w : World) (h1 : ps.length * 56 ≤ 140737488351232) (h2 : Pls.lies w w.heap.size ps A) :
    Calls Tryz.prog 6 #[.string op, .slice A ps.length c] w (Bel v w) := hv ▸ num_work h hc ps A c w h1 h2
theorem both_head {op : ByteArray} {cnt : Nat} {V : Int → Int → Value} (hop : NumOp op cnt V) (hc : cnt = 1 ∨ cnt = 2) (ha : AskedN op cnt) (ps : List Pl)
    (hk : ps.length = cnt → ps.all Pl.ok = true → askedR op ps numRows = 0 → workV cnt V ps = doV V (Pls.toVl ps) → ∃ r, Both op ps r) : ∃ r, Both op ps r := by
  by_cases hl : ps.length = cnt
  · cases hok : ps.all Pl.ok
    · exact both_fault (e := 1) (by decide) (code_of hop hc (by unfold workV; rw [if_neg (by simpa using hl), if_pos hok])) (fun A c w h1 h2 => ref8_fault op ps A c w h1 h2 1 (by rw [ha, if_neg (by omega), hok]; rfl) (by decide))
    · exact hk hl hok (by rw [ha, if_neg (by omega), if_pos hok]) (by unfold workV; rw [if_neg (by simpa using hl), if_neg (by simp [hok])])
  · exact both_fault (e := 11) (by decide) (code_of hop hc (by unfold workV; rw [if_pos hl])) (fun A c w h1 h2 => ref8_fault op ps A c w h1 h2 11 (by rw [ha, if_pos (by omega)]) (by decide))
def NoCmp (op : ByteArray) : Prop := (op.toList == ([110, 117, 109, 46, 108, 101, 115, 115] : List UInt8)) = false ∧ (op.toList == ([110, 117, 109, 46, 109, 111, 115, 116] : List UInt8)) = false
def RefOp (op : ByteArray) (Q : Int → Int → Value) : Prop := ∀ (a b : Int), rng a = true → rng b = true → ∀ w : World, Calls Tryz.prog 22 #[.string op, .int .i64 a, .int .i64 b] w fun e w' => e = .returned (Q a b) ∧ w = w'
theorem both_one {op : ByteArray} {V Q : Int → Int → Value} (hop : NumOp op 1 V) (ha : AskedN op 1) (hno : NoCmp op) (hq : RefOp op Q) (hg : ∀ a, rng a = true → ∃ r, Goes (V a 0) (Q a 0) r) (ps : List Pl) (hs : ∀ p ∈ ps, rng p.num = true) : ∃ r, Both op ps r := by
  refine both_head hop (Or.inl rfl) ha ps fun hl hok hz hv => ?_
  match ps, hl with
  | [p], _ =>
    have hp := hs p (by simp)
    by_cases hk : p.kind = 3
    · obtain ⟨r, g1, ⟨n, k, g2, g3⟩, g4⟩ := hg p.num hp
      refine ⟨r, g4, code_of hop (Or.inl rfl) (hv.trans ?_), fun A c w h1 h2 => ref8_num1 op p A c w h1 h2 hz hk hno n k _ g3 (fun w => by rw [← g2]; exact hq p.num 0 hp rfl w)⟩
      simp only [Pls.toVl, toVl_int hk]
      exact g1
    · refine both_fault (e := 20) (by decide) (code_of hop (Or.inl rfl) (hv.trans ?_)) (fun A c w h1 h2 => ref8_kind1 op p [] A c w h1 h2 hz hk)
      simp only [Pls.toVl]
      exact doV_other1 (toVl_other hk)
theorem both_two {op : ByteArray} {V Q : Int → Int → Value} (hop : NumOp op 2 V) (ha : AskedN op 2) (hno : NoCmp op) (hq : RefOp op Q) (hg : ∀ a b, rng a = true → rng b = true → ∃ r, Goes (V a b) (Q a b) r) (ps : List Pl) (hs : ∀ p ∈ ps, rng p.num = true) : ∃ r, Both op ps r := by
  refine both_head hop (Or.inr rfl) ha ps fun hl hok hz hv => ?_
  match ps, hl with
  | [p, q], _ =>
    have hp := hs p (by simp)
    have hq' := hs q (by simp)
    by_cases hk : p.kind = 3
    · by_cases hk2 : q.kind = 3
      · obtain ⟨r, g1, ⟨n, k, g2, g3⟩, g4⟩ := hg p.num q.num hp hq'
        refine ⟨r, g4, code_of hop (Or.inr rfl) (hv.trans ?_), fun A c w h1 h2 => ref8_num2 op p q A c w h1 h2 hz hk hk2 hno n k _ g3 (fun w => by rw [← g2]; exact hq p.num q.num hp hq' w)⟩
        simp only [Pls.toVl, toVl_int hk, toVl_int hk2]
        exact g1
      · refine both_fault (e := 20) (by decide) (code_of hop (Or.inr rfl) (hv.trans ?_)) (fun A c w h1 h2 => ref8_kind2 op p q A c w h1 h2 hz hk hk2)
        simp only [Pls.toVl]
        exact doV_other3 (toVl_other hk2)
    · refine both_fault (e := 20) (by decide) (code_of hop (Or.inr rfl) (hv.trans ?_)) (fun A c w h1 h2 => ref8_kind1 op p [q] A c w h1 h2 hz hk)
      simp only [Pls.toVl]
      exact doV_other2 (toVl_other hk)
theorem both_cmp {op : ByteArray} {T : Int → Int → Bool} (hop : NumOp op 2 (fun a b => truthV (T a b))) (ha : AskedN op 2)
    (hr : ∀ (p q : Pl) (A : Option Addr) (c : Nat) (w : World), [p, q].length * 56 ≤ 140737488351232 → Pls.lies w w.heap.size [p, q] A → askedR op [p, q] numRows = 0 → p.kind = 3 → q.kind = 3 → Calls Tryz.prog 7 #[.string op, .slice A [p, q].length c] w (Bel (okP (.truth (T p.num q.num))) w))
    (ps : List Pl) : ∃ r, Both op ps r := by
  refine both_head hop (Or.inr rfl) ha ps fun hl hok hz hv => ?_
  match ps, hl with
  | [p, q], _ =>
    by_cases hk : p.kind = 3
    · by_cases hk2 : q.kind = 3
      · refine ⟨(0, .truth (T p.num q.num)), fun _ => ⟨rfl, trivial⟩, code_of hop (Or.inr rfl) (hv.trans ?_), fun A c w h1 h2 => hr p q A c w h1 h2 hz hk hk2⟩
        simp only [Pls.toVl, toVl_int hk, toVl_int hk2]
        rfl
      · refine both_fault (e := 20) (by decide) (code_of hop (Or.inr rfl) (hv.trans ?_)) (fun A c w h1 h2 => ref8_kind2 op p q A c w h1 h2 hz hk hk2)
        simp only [Pls.toVl]
        exact doV_other3 (toVl_other hk2)
    · refine both_fault (e := 20) (by decide) (code_of hop (Or.inr rfl) (hv.trans ?_)) (fun A c w h1 h2 => ref8_kind1 op p [q] A c w h1 h2 hz hk)
      simp only [Pls.toVl]
      exact doV_other2 (toVl_other hk)
theorem bytes_same_list {a b : ByteArray} (h : a.toList = b.toList) : a = b := by
  have h' : a.data.toList = b.data.toList := by rw [← Lib.toList_data, ← Lib.toList_data, h]
  cases a; cases b
  simp only [ByteArray.mk.injEq]
  exact Array.ext' h'
/-- The operations' names. -/
def opNames : List ByteArray := [⟨#[110, 117, 109, 46, 97, 100, 100]⟩, ⟨#[110, 117, 109, 46, 115, 117, 98]⟩, ⟨#[110, 117, 109, 46, 109, 117, 108]⟩, ⟨#[110, 117, 109, 46, 113, 117, 111]⟩, ⟨#[110, 117, 109, 46, 109, 111, 100]⟩, ⟨#[110, 117, 109, 46, 112, 111, 119]⟩,
  ⟨#[110, 117, 109, 46, 110, 101, 103]⟩, ⟨#[110, 117, 109, 46, 97, 98, 115]⟩, ⟨#[110, 117, 109, 46, 109, 105, 110]⟩, ⟨#[110, 117, 109, 46, 109, 97, 120]⟩, ⟨#[110, 117, 109, 46, 108, 101, 115, 115]⟩, ⟨#[110, 117, 109, 46, 109, 111, 115, 116]⟩]
theorem find_not (s : ByteArray) : ∀ (l : List MapEntry) (i : Nat), (∀ e ∈ l, ∃ k, e.key = .string k ∧ (s == k) = false) → Instr.findNow .string (.string s) l i = some none
  | [], _, _ => rfl
  | e :: l, i, h => by
    obtain ⟨k, hk, hn⟩ := h e (by simp)
    simp only [Instr.findNow, Instr.sameNow, hk, hn]
    exact find_not s l _ fun e he => h e (by simp [he])
theorem strict_names : ∀ r ∈ numRows, hasB txStrict r.abil = true → opNames.any (fun n => n.toList == r.kind.toList) = true := by decide +kernel
theorem tab_names : numTab.toList.all (fun e => match e.key with | .string k => opNames.any (fun n => n == k) | _ => false) = true := by kernel_rfl
theorem both_none {op : ByteArray} (h : op ∉ opNames) (ps : List Pl) : ∃ r, Both op ps r := by
  refine both_fault (e := 1) (by decide) (fun A c w h1 h2 => num_work_none (find_not op _ 0 fun e he => ?_) _ w) (fun A c w h1 h2 => ref8_fault op ps A c w h1 h2 1 (asked_none fun r hr => ?_) (by decide))
  · have h1 := List.all_eq_true.1 tab_names e he
    split at h1
    · rename_i k hk
      refine ⟨k, hk, bytes_ne fun e => h ?_⟩
      obtain ⟨n, hn, hb⟩ := List.any_eq_true.1 h1
      have : n = k := (MapKept.bytes_beq n k).mp hb
      exact e ▸ this ▸ hn
    · cases h1
  · unfold rowHit
    cases hs : hasB txStrict r.abil
    · simp
    · rw [Bool.and_true, beq_eq_false_iff_ne]
      intro e
      obtain ⟨n, hn, hb⟩ := List.any_eq_true.1 (strict_names r hr hs)
      refine h ?_
      have : n = op := bytes_same_list (by rw [beq_iff_eq] at hb; rw [hb, e])
      rw [← this]
      exact hn
theorem num_both (op : ByteArray) (ps : List Pl) (hs : ∀ p ∈ ps, rng p.num = true) : ∃ r, Both op ps r := by
  by_cases h : op ∈ opNames
  · simp only [opNames, List.mem_cons, List.not_mem_nil, or_false] at h
    rcases h with rfl | rfl | rfl | rfl | rfl | rfl | rfl | rfl | rfl | rfl | rfl | rfl
    · exact both_two op_add (askedN 0 (by decide) (by kernel_rfl) (by kernel_rfl) (by kernel_rfl) (by kernel_rfl)) ⟨by kernel_rfl, by kernel_rfl⟩ (fun a b ha hb w => wk_add a b ha hb w) (fun a b ha hb => goes_exact _) ps hs
    · exact both_two op_sub (askedN 1 (by decide) (by kernel_rfl) (by kernel_rfl) (by kernel_rfl) (by kernel_rfl)) ⟨by kernel_rfl, by kernel_rfl⟩ (fun a b ha hb w => wk_sub a b ha hb w) (fun a b ha hb => goes_exact _) ps hs
    · exact both_two op_mul (askedN 2 (by decide) (by kernel_rfl) (by kernel_rfl) (by kernel_rfl) (by kernel_rfl)) ⟨by kernel_rfl, by kernel_rfl⟩ (fun a b ha hb w => wk_mul a b ha hb w) (fun a b ha hb => goes_exact _) ps hs
    · exact both_two op_quo (askedN 3 (by decide) (by kernel_rfl) (by kernel_rfl) (by kernel_rfl) (by kernel_rfl)) ⟨by kernel_rfl, by kernel_rfl⟩ (fun a b ha hb w => wk_quo a b ha hb w) (fun a b ha hb => goes_quo a b) ps hs
    · exact both_two op_mod (askedN 4 (by decide) (by kernel_rfl) (by kernel_rfl) (by kernel_rfl) (by kernel_rfl)) ⟨by kernel_rfl, by kernel_rfl⟩ (fun a b ha hb w => wk_mod a b ha hb w) (fun a b ha hb => goes_mod a b hb) ps hs
    · exact both_two op_pow (askedN 5 (by decide) (by kernel_rfl) (by kernel_rfl) (by kernel_rfl) (by kernel_rfl)) ⟨by kernel_rfl, by kernel_rfl⟩ (fun a b ha hb w => wk_pow a b ha hb w) (fun a b ha hb => goes_pow a b) ps hs
    · exact both_one op_neg (askedN 6 (by decide) (by kernel_rfl) (by kernel_rfl) (by kernel_rfl) (by kernel_rfl)) ⟨by kernel_rfl, by kernel_rfl⟩ (fun a b ha hb w => wk_neg a b ha hb w) (fun a ha => by rw [show -a = 0 - a by omega]; exact goes_exact _) ps hs
    · exact both_one op_abs (askedN 7 (by decide) (by kernel_rfl) (by kernel_rfl) (by kernel_rfl) (by kernel_rfl)) ⟨by kernel_rfl, by kernel_rfl⟩ (fun a b ha hb w => wk_abs a b ha hb w) (fun a ha => goes_exact _) ps hs
    · exact both_two op_min (askedN 8 (by decide) (by kernel_rfl) (by kernel_rfl) (by kernel_rfl) (by kernel_rfl)) ⟨by kernel_rfl, by kernel_rfl⟩ (fun a b ha hb w => wk_min a b ha hb w) (fun a b ha hb => goes_min ha hb) ps hs
    · exact both_two op_max (askedN 9 (by decide) (by kernel_rfl) (by kernel_rfl) (by kernel_rfl) (by kernel_rfl)) ⟨by kernel_rfl, by kernel_rfl⟩ (fun a b ha hb w => wk_max a b ha hb w) (fun a b ha hb => goes_max ha hb) ps hs
    · exact both_cmp op_less (askedN 10 (by decide) (by kernel_rfl) (by kernel_rfl) (by kernel_rfl) (by kernel_rfl)) (fun p q A c w h1 h2 hz hk hk2 => ref8_less _ p q A c w h1 h2 hz hk hk2 rfl) ps
    · exact both_cmp op_most (askedN 11 (by decide) (by kernel_rfl) (by kernel_rfl) (by kernel_rfl) (by kernel_rfl)) (fun p q A c w h1 h2 hz hk hk2 => ref8_most _ p q A c w h1 h2 hz hk hk2 rfl) ps
  · exact both_none h ps
end Go.Proofs.YtcdjnkeomaidaaaGreat

/-
  espalierlaw8's work: what an operation on numbers comes to: walks. Conditions: the numbers lie in memory.
-/
namespace Go.Proofs.YtcdjnkeomaidaaaGreat
open Go.RowKit
set_option linter.unusedVariables false

def plInt (n : Int) : Pl := .mk 3 n ⟨#[]⟩ []
def intCells (n : Int) : List Value := [.int .i64 3, .int .i64 n, .string ⟨#[]⟩, .slice none 0 0]
theorem plInt_ok (n : Int) : (plInt n).ok = true := by
  unfold Pl.ok plInt
  unfold Pl.right Pl.toVl
  simp [Vl.measure]
  rw [if_pos (show (⟨#[]⟩ : ByteArray) = ByteArray.empty from rfl)]
theorem plInts_ok (ns : List Int) : (ns.map plInt).all Pl.ok = true := by simp [plInt_ok]
theorem plInts_val (ns : List Int) : Pls.toVl (ns.map plInt) = ns.map Vl.int := by
  induction ns with
  | nil => simp [Pls.toVl]
  | cons a l ih => simp only [List.map_cons, Pls.toVl, ih]; unfold plInt Pl.toVl; simp
theorem ints_lie {w : World} {B b : Nat} (hb : b < B) : ∀ (ns : List Int) (o : Nat), (∀ n ∈ ns, rng n = true) → (∀ k (h : k < ns.length) j, j < 4 → w.cell? ⟨b, o + k * 4 + j, none⟩ = (intCells ns[k])[j]?) → Pls.lies w B (ns.map plInt) (some ⟨b, o, none⟩) := by
  intro ns
  induction ns with
  | nil => intro o _ _; simp [Pls.lies]
  | cons a l ih =>
    intro o hr hc
    rw [List.map_cons, Pls.lies]
    refine ⟨b, o, rfl, ?_, ih (o + 4) (fun n hn => hr n (by simp [hn])) (fun k hk j hj => ?_)⟩
    · unfold plInt Pl.lies
      have h0 := hc 0 (by simp) 0 (by omega)
      have h1 := hc 0 (by simp) 1 (by omega)
      have h2 := hc 0 (by simp) 2 (by omega)
      have h3 := hc 0 (by simp) 3 (by omega)
      simp [intCells] at h0 h1 h2 h3
      exact ⟨hb, h0, h1, h2, by decide, hr a (by simp), by decide, by simp, none, 0, h3, by unfold Pls.lies; trivial⟩
    · have := hc (k + 1) (by simpa using hk) j hj
      rw [show o + 4 + k * 4 + j = o + (k + 1) * 4 + j by omega]
      simpa using this
theorem flatI_length (l : List Int) : (l.flatMap intCells).length = l.length * 4 := by
  induction l with
  | nil => rfl
  | cons a l ih => simp only [List.flatMap_cons, List.length_append, ih, List.length_cons, intCells]; simp; omega
theorem flatI_at (l : List Int) : ∀ (k : Nat) (hk : k < l.length) (j : Nat), j < 4 → (l.flatMap intCells)[k * 4 + j]? = (intCells l[k])[j]? := by
  induction l with
  | nil => intro k hk; simp at hk
  | cons a l ih =>
    intro k hk j hj
    cases k with
    | zero =>
      simp only [List.flatMap_cons, List.getElem_cons_zero, Nat.zero_mul, Nat.zero_add]
      rw [List.getElem?_append_left (by simpa [intCells] using hj)]
    | succ k =>
      simp only [List.flatMap_cons, List.getElem_cons_succ]
      rw [List.getElem?_append_right (by simp [intCells]; omega)]
      rw [show (k + 1) * 4 + j - (intCells a).length = k * 4 + j by simp [intCells]; omega]
      exact ih k (by simpa using hk) j hj
theorem own_ints {w : World} {base : Nat} {v : Value} {ns : List Int} (h : w.ownsRow base 34 4 v ns.length (ns.flatMap intCells)) (hr : ∀ n ∈ ns, rng n = true) : ∃ A c, v = .slice A ns.length c ∧ Pls.lies w w.heap.size (ns.map plInt) A := by
  rcases h.2 with ⟨e, h2⟩ | ⟨g, cap, cur, e, _⟩
  · have : ns = [] := List.eq_nil_of_length_eq_zero h2
    subst this
    exact ⟨none, 0, e, by simp [Pls.lies]⟩
  · subst e
    refine ⟨_, _, rfl, ints_lie (h.lt g rfl).2 ns 0 hr (fun k hk j hj => ?_)⟩
    rw [Nat.zero_add, h.cellAt (k * 4 + j) (by omega), flatI_at ns k hk j hj]

theorem law_whole (n : Int) (w : World) : Calls Tryz.prog 11 #[.int .i64 n] w (Bel (.agg #[.int .i64 3, .int .i64 n, .string ⟨#[]⟩, .slice none 0 0]) w) := by
  have hb2 : Hid (Below w.heap.size w (w.alloc (.cells #[.int .i64 3, .int .i64 n, .string ⟨#[]⟩, .slice none 0 0] 34))) := (Below.refl _ _).alloc (Nat.le_refl _) _
  go_enter Tryz.func11, Tryz.ntmps11
  go_wp2
  have hres := run_loadVar_row (P := Tryz.prog) _ _ _ 34 _ _ _ (heap_alloc_new w (.cells #[.int .i64 3, .int .i64 n, .string ⟨#[]⟩, .slice none 0 0] 34)) Tryz.underlying34 rfl (by kernel_rfl)
  refine bodyPost_ret (fn := Tryz.f11) (v := .agg #[.int .i64 3, .int .i64 n, .string ⟨#[]⟩, .slice none 0 0]) ?_ ?_ ?_
  · refine results_cell (p := 2) (ty := 34) (a := ⟨w.heap.size, 0, none⟩) Tryz.results11 ?_ ?_
    · rfl
    · exact hres
  · rfl
  · exact ⟨rfl, hb2.out⟩

theorem info_plain : (Tryz.prog.info? 34).map (fun i => (i.zero, i.size, i.bytes)) = some (some (.agg #[.int .i64 0, .int .i64 0, .string ⟨#[]⟩, .slice none 0 0]), 4, 56) := by kernel_rfl
/-- A number or a fault, as the law tells it. -/
def IsPair (v : Value) (r : Int × Int) : Prop := (v = withText (numV r.1) ∧ r.2 = 0) ∨ (v = withText (faultV r.2) ∧ r.1 = 0 ∧ r.2 ≠ 0)
def pairV (r : Int × Int) : Value := .tuple #[.int .i64 r.1, .int .i64 r.2]

set_option maxRecDepth 100000 in
set_option maxHeartbeats 4000000 in
theorem law_work {op : ByteArray} {cnt : Nat} {V : Int → Int → Value} (h : NumOp op cnt V) (hc : cnt = 1 ∨ cnt = 2) (ns : List Int) (hns : ns.length = cnt) (hr : ∀ n ∈ ns, rng n = true) (b o c : Nat) (w : World) (hb : b < w.heap.size)
    (hargs : ∀ k (h : k < ns.length), w.cell? ⟨b, o + k, none⟩ = some (.int .i64 ns[k])) (r : Int × Int) (hres : IsPair (doV V (ns.map Vl.int)) r) :
    Calls Tryz.prog 10 #[.string op, .slice (some ⟨b, o, none⟩) ns.length c] w (Bel (pairV r) w) := by
  obtain ⟨i0, hi, hz0, hz1, hz2⟩ := info_parts info_plain
  have HA := Lib.hid hargs
  have HR := Lib.hid hr
  have HH := Lib.hid h
  have HC := Lib.hid hc
  have HRES := Lib.hid hres
  have hln : ns.length ≤ 2 := by omega
  have HN := Lib.hid hns
  have hhit : ∀ v w, (Instr.typeAssert (.iface 65 v) 29 65 true).run Tryz.prog w = .ok (.tuple #[v, .bool true]) w := fun v w => run_assert_hit Tryz.underlying65 rfl v w
  have hnil : ∀ w, (Instr.typeAssert .nilIface 29 65 true).run Tryz.prog w = .ok (.tuple #[.int .i64 0, .bool false]) w := fun w => by kernel_rfl
  clear hargs hr h hc hns hres
  go_enter Tryz.func10, Tryz.ntmps10
  go_wp2
  go_loopw [6, 7] (fun s6 s7 wr => ∃ (k : Nat), k ≤ ns.length ∧ s7 = .int .i64 (k : Int) ∧ wr.ownsRow w.heap.size 34 4 s6 k ((ns.take k).flatMap intCells) ∧ Below w.heap.size w wr) (fun _ s7 _ => ns.length - (intOf s7).toNat)
  case atStart => exact ⟨0, Nat.zero_le _, rfl, World.ownsRow_nil _ _ _ _, Below.refl _ _⟩
  case round =>
    obtain ⟨k, hk, rfl, hown, hbel⟩ := hrel
    have HO := Lib.hid hown
    have HB := Lib.hid hbel
    have hsz := hbel.size
    clear hown hbel
    by_cases hlt : k < ns.length
    · have e0 := (HB.out.cell (p := ⟨b, o + k, none⟩) hb).trans (HA.out k hlt)
      go_wp2_with fail
      refine (law_whole ns[k] wr).mono ?_
      rintro e w2 ⟨rfl, hb2⟩
      have HB2 := Lib.hid hb2
      have hs2 := hb2.size
      clear hb2 e0
      go_wp2_with (at_builtin; refine wpList_append_lies _ rfl _ _ 24 rfl w.heap.size 34 i0 _ 4 56 Tryz.underlying24 hi hz0 hz1 hz2 rfl (by decide) u6 k _ rfl ((own_below HO.out HB2.out).alloc _) ⟨w2.heap.size, 0, none⟩ 1 1 (intCells ns[k]) rfl rfl (World.news_of_block (by exact heap_alloc_new w2 _)) (by intro u hu; simp only [intCells, List.mem_cons, List.not_mem_nil, or_false] at hu; rcases hu with rfl | rfl | rfl | rfl <;> rfl) (by decide) (by unfold maxLen; omega) (by omega) (by simp; omega) (w2.heap.size + 1) (by simp) ?_; intro g cap w7 hown hgrow hat hlt')
      have H1 := Lib.hid hown
      have H2 := Lib.hid (step_below HB.out hsz HB2.out hgrow HO.out (Nat.le_refl _))
      clear hown hgrow hat
      go_wp2
      go_roundw
      case rel => exact ⟨k + 1, by omega, by go_num, by have := H1.out; rw [List.take_add_one, List.flatMap_append]; simpa [hlt] using this, H2.out⟩
      case measure => simp [intOf]; omega
    · have HKE : Hid (k = ns.length) := (by omega : k = ns.length)
      have hlie : ∃ A c, u6 = .slice A k c ∧ Pls.lies wr wr.heap.size (ns.map plInt) A := by
        have := HO.out
        rw [HKE.out] at this ⊢
        rw [List.take_length] at this
        exact own_ints this HR.out
      obtain ⟨A, c1, rfl, hl⟩ := hlie
      have HW := num_work HH.out HC.out (ns.map plInt) A c1 wr (by rw [List.length_map]; omega) hl
      rw [List.length_map, ← HKE.out] at HW
      have hv : workV cnt V (ns.map plInt) = doV V (ns.map Vl.int) := by
        unfold workV
        rw [if_neg (by simp [HN.out]), if_neg (by rw [plInts_ok]; simp), plInts_val]
      rw [hv] at HW
      have HWW := Lib.hid HW
      clear HW hv hl
      obtain ⟨r1, r2⟩ := r
      rcases HRES.out with ⟨e1, e2⟩ | ⟨e1, e2, e3⟩
      · simp only at e1 e2
        rw [e1, show withText (numV r1) = .tuple #[.iface 65 (.int .i64 r1), .int .i64 0, .string ⟨#[]⟩] from rfl] at HWW
        subst e2
        clear e1
        go_wp2_with fail
        refine HWW.out.mono ?_
        rintro e w2 ⟨rfl, hb2⟩
        have H2 := Lib.hid (HB.out.trans (hb2.mono hsz))
        clear hb2
        go_wp2
        go_ret2
        exact ⟨rfl, H2.out⟩
      · simp only at e1 e2 e3
        rw [e1, show withText (faultV r2) = .tuple #[.nilIface, .int .i64 r2, .string ⟨#[]⟩] from rfl] at HWW
        subst e2
        have e4 : (r2 == 0) = false := by simpa using e3
        clear e1 e3
        go_wp2_with fail
        refine HWW.out.mono ?_
        rintro e w2 ⟨rfl, hb2⟩
        have H2 := Lib.hid (HB.out.trans (hb2.mono hsz))
        clear hb2
        go_wp2
        go_ret2
        exact ⟨rfl, H2.out⟩
end Go.Proofs.YtcdjnkeomaidaaaGreat

/-
  espalierlaw8's begun: a walk. Conditions: none.
-/
namespace Go.Proofs.YtcdjnkeomaidaaaGreat
open Go.RowKit
set_option linter.unusedVariables false

theorem law_call2 {op : ByteArray} {V : Int → Int → Value} (h : NumOp op 2 V) (a b : Int) (ha : rng a = true) (hb : rng b = true) (w : World) (r : Int × Int) (hres : IsPair (withText (V a b)) r) :
    Calls Tryz.prog 10 #[.string op, .slice (some ⟨w.heap.size, 0, none⟩) 2 2] (w.alloc (.cells #[.int .i64 a, .int .i64 b] 2)) fun e w' => e = .returned (.tuple #[.int .i64 r.1, .int .i64 r.2]) ∧ Below w.heap.size w w' :=
  (law_work h (.inr rfl) [a, b] rfl (by intro n hn; simp at hn; rcases hn with rfl | rfl <;> assumption) w.heap.size 0 2 _ (by simp) (fun k hk => by
    rw [Nat.zero_add, World.cell?_alloc_new]
    have hk' : k < 2 := hk
    rcases (show k = 0 ∨ k = 1 by omega) with rfl | rfl <;> rfl) r hres).mono fun _ _ ⟨he, hb⟩ => ⟨he, ((Below.refl _ _).alloc (Nat.le_refl _) _).trans (hb.mono (by simp))⟩
theorem law_call1 {op : ByteArray} {V : Int → Int → Value} (h : NumOp op 1 V) (a : Int) (ha : rng a = true) (w : World) (r : Int × Int) (hres : IsPair (withText (V a 0)) r) :
    Calls Tryz.prog 10 #[.string op, .slice (some ⟨w.heap.size, 0, none⟩) 1 1] (w.alloc (.cells #[.int .i64 a] 2)) fun e w' => e = .returned (.tuple #[.int .i64 r.1, .int .i64 r.2]) ∧ Below w.heap.size w w' :=
  (law_work h (.inl rfl) [a] rfl (by intro n hn; simp at hn; subst hn; assumption) w.heap.size 0 1 _ (by simp) (fun k hk => by
    rw [Nat.zero_add, World.cell?_alloc_new]
    have hk' : k < 1 := hk
    obtain rfl : k = 0 := by omega
    rfl) r hres).mono fun _ _ ⟨he, hb⟩ => ⟨he, ((Below.refl _ _).alloc (Nat.le_refl _) _).trans (hb.mono (by simp))⟩
theorem law_num2 {op : ByteArray} {V : Int → Int → Value} (h : NumOp op 2 V) (a b : Int) (ha : rng a = true) (hb : rng b = true) (w : World) :
    Calls Tryz.prog 6 #[.string op, .slice (some ⟨w.heap.size, 0, none⟩) 2 2] (w.alloc (.cells #[.int .i64 3, .int .i64 a, .string ⟨#[]⟩, .slice none 0 0, .int .i64 3, .int .i64 b, .string ⟨#[]⟩, .slice none 0 0] 34)) fun e w' => e = .returned (withText (V a b)) ∧ Below w.heap.size w w' := by
  have hw := num_work h (.inr rfl) ([a, b].map plInt) (some ⟨w.heap.size, 0, none⟩) 2 (w.alloc (.cells #[.int .i64 3, .int .i64 a, .string ⟨#[]⟩, .slice none 0 0, .int .i64 3, .int .i64 b, .string ⟨#[]⟩, .slice none 0 0] 34)) (by simp) (ints_lie (by simp) [a, b] 0 (by intro n hn; simp at hn; rcases hn with rfl | rfl <;> assumption) (fun k hk j hj => by
    rw [Nat.zero_add, World.cell?_alloc_new]
    have hk' : k < 2 := hk
    rcases (show k = 0 ∨ k = 1 by omega) with rfl | rfl <;> rcases (show j = 0 ∨ j = 1 ∨ j = 2 ∨ j = 3 by omega) with rfl | rfl | rfl | rfl <;> rfl))
  refine hw.mono fun _ _ ⟨he, hb⟩ => ⟨?_, ((Below.refl _ _).alloc (Nat.le_refl _) _).trans (hb.mono (by simp))⟩
  rw [he]
  unfold workV
  rw [if_neg (by simp), if_neg (by rw [plInts_ok]; simp), plInts_val]
  rfl
theorem law_kind (a : Int) (ha : rng a = true) (w : World) :
    Calls Tryz.prog 6 #[.string ⟨#[110, 117, 109, 46, 97, 100, 100]⟩, .slice (some ⟨w.heap.size, 0, none⟩) 2 2] (w.alloc (.cells #[.int .i64 3, .int .i64 a, .string ⟨#[]⟩, .slice none 0 0, .int .i64 1, .int .i64 0, .string ⟨#[]⟩, .slice none 0 0] 34)) fun e w' => e = .returned (bad3 20) ∧ Below w.heap.size w w' := by
  have hl : Pls.lies (w.alloc (.cells #[.int .i64 3, .int .i64 a, .string ⟨#[]⟩, .slice none 0 0, .int .i64 1, .int .i64 0, .string ⟨#[]⟩, .slice none 0 0] 34)) (w.heap.size + 1) [plInt a, .mk 1 0 ⟨#[]⟩ []] (some ⟨w.heap.size, 0, none⟩) := by
    simp only [Pls.lies, Pl.lies, plInt]
    refine ⟨w.heap.size, 0, rfl, ⟨by omega, ?_, ?_, ?_, by decide, ha, by decide, by simp, none, 0, ?_, trivial⟩, w.heap.size, 4, rfl, ⟨by omega, ?_, ?_, ?_, by decide, by decide, by decide, by simp, none, 0, ?_, trivial⟩, trivial⟩
    all_goals rw [World.cell?_alloc_new]; rfl
  have hw := num_work op_add (.inr rfl) [plInt a, .mk 1 0 ⟨#[]⟩ []] (some ⟨w.heap.size, 0, none⟩) 2 _ (by simp) (by rw [size_alloc]; exact hl)
  refine hw.mono fun _ _ ⟨he, hb⟩ => ⟨?_, ((Below.refl _ _).alloc (Nat.le_refl _) _).trans (hb.mono (by simp))⟩
  have h1 : (Pl.mk 1 0 ⟨#[]⟩ []).ok = true := by
    unfold Pl.ok Pl.right Pl.toVl
    simp [Vl.measure]
    rw [if_pos (show (⟨#[]⟩ : ByteArray) = ByteArray.empty from rfl)]
    rfl
  rw [he]
  unfold workV
  rw [if_neg (by simp), if_neg (by simp [plInt_ok, h1])]
  congr 1

theorem c_mod (w : World) : Calls Tryz.prog 10 #[.string ⟨#[110, 117, 109, 46, 109, 111, 100]⟩, .slice (some ⟨w.heap.size, 0, none⟩) 2 2] (w.alloc (.cells #[.int .i64 (-7), .int .i64 2] 2)) fun e w' => e = .returned (.tuple #[.int .i64 1, .int .i64 0]) ∧ Below w.heap.size w w' :=
  law_call2 op_mod (-7) 2 (by decide) (by decide) w (1, 0) (.inl ⟨by rfl, rfl⟩)
theorem c_quo (w : World) : Calls Tryz.prog 10 #[.string ⟨#[110, 117, 109, 46, 113, 117, 111]⟩, .slice (some ⟨w.heap.size, 0, none⟩) 2 2] (w.alloc (.cells #[.int .i64 1, .int .i64 0] 2)) fun e w' => e = .returned (.tuple #[.int .i64 0, .int .i64 22]) ∧ Below w.heap.size w w' :=
  law_call2 op_quo 1 0 (by decide) (by decide) w (0, 22) (.inr ⟨by rfl, rfl, by decide⟩)
theorem c_add (w : World) : Calls Tryz.prog 10 #[.string ⟨#[110, 117, 109, 46, 97, 100, 100]⟩, .slice (some ⟨w.heap.size, 0, none⟩) 2 2] (w.alloc (.cells #[.int .i64 9223372036854775807, .int .i64 1] 2)) fun e w' => e = .returned (.tuple #[.int .i64 0, .int .i64 21]) ∧ Below w.heap.size w w' :=
  law_call2 op_add 9223372036854775807 1 (by decide) (by decide) w (0, 21) (.inr ⟨by rfl, rfl, by decide⟩)
theorem c_pow (w : World) : Calls Tryz.prog 10 #[.string ⟨#[110, 117, 109, 46, 112, 111, 119]⟩, .slice (some ⟨w.heap.size, 0, none⟩) 2 2] (w.alloc (.cells #[.int .i64 (-2), .int .i64 63] 2)) fun e w' => e = .returned (.tuple #[.int .i64 (-9223372036854775808), .int .i64 0]) ∧ Below w.heap.size w w' :=
  law_call2 op_pow (-2) 63 (by decide) (by decide) w ((-9223372036854775808), 0) (.inl ⟨by rfl, rfl⟩)
theorem c_less (w : World) : Calls Tryz.prog 6 #[.string ⟨#[110, 117, 109, 46, 108, 101, 115, 115]⟩, .slice (some ⟨w.heap.size, 0, none⟩) 2 2] (w.alloc (.cells #[.int .i64 3, .int .i64 1, .string ⟨#[]⟩, .slice none 0 0, .int .i64 3, .int .i64 2, .string ⟨#[]⟩, .slice none 0 0] 34)) fun e w' => e = .returned (.tuple #[.iface 45 (.bool true), .int .i64 0, .string ⟨#[]⟩]) ∧ Below w.heap.size w w' :=
  law_num2 op_less 1 2 (by decide) (by decide) w
theorem c_sum (v : Value) (w : World) : Calls Tryz.prog 6 #[.string ⟨#[110, 117, 109, 46, 115, 117, 109]⟩, v] w fun e w' => e = .returned (.tuple #[.nilIface, .int .i64 1, .string ⟨#[]⟩]) ∧ Below w.heap.size w w' :=
  num_work_none (op := ⟨#[110, 117, 109, 46, 115, 117, 109]⟩) (by kernel_rfl) v w
theorem c_kind (w : World) : Calls Tryz.prog 6 #[.string ⟨#[110, 117, 109, 46, 97, 100, 100]⟩, .slice (some ⟨w.heap.size, 0, none⟩) 2 2] (w.alloc (.cells #[.int .i64 3, .int .i64 1, .string ⟨#[]⟩, .slice none 0 0, .int .i64 1, .int .i64 0, .string ⟨#[]⟩, .slice none 0 0] 34)) fun e w' => e = .returned (.tuple #[.nilIface, .int .i64 20, .string ⟨#[]⟩]) ∧ Below w.heap.size w w' :=
  law_kind 1 (by decide) w
end Go.Proofs.YtcdjnkeomaidaaaGreat

/-
  espalierlaw8's begun: a walk. Conditions: none.
-/
namespace Go.Proofs.YtcdjnkeomaidaaaGreat
open Go.RowKit
set_option linter.unusedVariables false

set_option maxRecDepth 100000 in
set_option maxHeartbeats 4000000 in
theorem law_begun (w : World) : Calls Tryz.prog 4 #[] w (Bel (.bool true) w) := by
  have HB : Hid (Below w.heap.size w w) := Below.refl _ _
  have heq : ∀ w, (binOp .eql 29 (.iface 45 (.bool true)) (.iface 45 (.bool true))).run Tryz.prog w = .ok (.bool true) w := fun w => by kernel_rfl
  go_enter Tryz.func4, Tryz.ntmps4
  go_wp2_with fail
  refine (c_mod _).mono ?_
  rintro e w1 ⟨rfl, hb⟩
  have HB := Lib.hid (HB.out.trans (hb.mono HB.out.size))
  clear hb
  go_wp2_with fail
  refine (c_quo _).mono ?_
  rintro e w2 ⟨rfl, hb⟩
  have HB := Lib.hid (HB.out.trans (hb.mono HB.out.size))
  clear hb
  go_wp2_with fail
  refine (c_add _).mono ?_
  rintro e w3 ⟨rfl, hb⟩
  have HB := Lib.hid (HB.out.trans (hb.mono HB.out.size))
  clear hb
  go_wp2_with fail
  refine (c_pow _).mono ?_
  rintro e w4 ⟨rfl, hb⟩
  have HB := Lib.hid (HB.out.trans (hb.mono HB.out.size))
  clear hb
  go_wp2_with fail
  refine (law_whole 1 _).mono ?_
  rintro e v0 ⟨rfl, hb⟩
  have HB := Lib.hid (HB.out.trans (hb.mono HB.out.size))
  clear hb
  go_wp2_with fail
  refine (law_whole 2 _).mono ?_
  rintro e v1 ⟨rfl, hb⟩
  have HB := Lib.hid (HB.out.trans (hb.mono HB.out.size))
  clear hb
  go_wp2_with fail
  refine (c_less _).mono ?_
  rintro e v2 ⟨rfl, hb⟩
  have HB := Lib.hid (HB.out.trans (hb.mono HB.out.size))
  clear hb
  go_wp2_with fail
  refine (law_whole 1 _).mono ?_
  rintro e v3 ⟨rfl, hb⟩
  have HB := Lib.hid (HB.out.trans (hb.mono HB.out.size))
  clear hb
  go_wp2_with fail
  refine (c_sum _ _).mono ?_
  rintro e v4 ⟨rfl, hb⟩
  have HB := Lib.hid ((HB.out.alloc HB.out.size _).trans (hb.mono (by rw [size_alloc]; exact Nat.le_succ_of_le HB.out.size)))
  clear hb
  go_wp2_with fail
  refine (law_whole 1 _).mono ?_
  rintro e v5 ⟨rfl, hb⟩
  have HB := Lib.hid (HB.out.trans (hb.mono HB.out.size))
  clear hb
  go_wp2_with fail
  refine (c_kind _).mono ?_
  rintro e v6 ⟨rfl, hb⟩
  have HB := Lib.hid (HB.out.trans (hb.mono HB.out.size))
  clear hb
  go_wp2_with fail
  refine (num_Kit _).mono ?_
  rintro e v7 ⟨M, v, us, hM, rfl, hK, _, hb⟩
  have hn := Lib.hid (kit_Name hK)
  have HB := Lib.hid (HB.out.trans (hb.mono HB.out.size))
  clear hb hM hK
  go_wp2_with fail
  refine hn.out.mono ?_
  rintro e w' ⟨rfl, rfl⟩
  go_wp2
  go_ret
  exact ⟨rfl, HB.out⟩
end Go.Proofs.YtcdjnkeomaidaaaGreat

/-
  espalierlaw2.Light: what it counts: a walk, for every plain value. Conditions: it lies in memory.
-/
namespace Go.Proofs.YtcdjnkeomaidaaaGreat
open Go.RowKit
set_option linter.unusedVariables false

mutual
/-- What is left of a count. -/
def Pl.light : Pl → Int → Int → Int
  | .mk _ _ t l, m, deep => if 70 < deep then -1 else Pls.light l (m - 1 - (t.size : Int) / 4) (deep + 1)
def Pls.light : List Pl → Int → Int → Int
  | [], m, _ => m
  | p :: ps, m, deep => if 0 ≤ m then Pls.light ps (p.light m deep) deep else m
end
mutual
theorem Pl.light_le {w : World} {B : Nat} : ∀ (p : Pl) (b o : Nat) (m deep : Int), p.lies w B b o → 0 ≤ m → p.light m deep ≤ m ∧ -140737488355328 ≤ p.light m deep
  | .mk k n t l, b, o, m, deep, h, hm => by
    unfold Pl.lies at h
    obtain ⟨h0, h1, h2, h3, h4, h5, h6, h7, A, c, h8, h9⟩ := h
    have ih := Pls.light_le l A (m - 1 - (t.size : Int) / 4) (deep + 1) h9 (by omega)
    unfold Pl.light
    split <;> omega
theorem Pls.light_le {w : World} {B : Nat} : ∀ (l : List Pl) (A : Option Addr) (m deep : Int), Pls.lies w B l A → -140737488355328 ≤ m → Pls.light l m deep ≤ m ∧ -140737488355328 ≤ Pls.light l m deep
  | [], A, m, deep, h, hm => by unfold Pls.light; omega
  | p :: ps, A, m, deep, h, hm => by
    unfold Pls.lies at h
    obtain ⟨b, o, e, h1, h2⟩ := h
    unfold Pls.light
    by_cases h0 : 0 ≤ m
    · rw [if_pos h0]
      have i1 := Pl.light_le p b o m deep h1 h0
      have i2 := Pls.light_le ps _ (p.light m deep) deep h2 i1.2
      omega
    · rw [if_neg h0]; omega
end
theorem Pls.light_step {l : List Pl} {k : Nat} (h : k < l.length) (m deep : Int) (hm : 0 ≤ m) : Pls.light (l.drop k) m deep = Pls.light (l.drop (k + 1)) (l[k].light m deep) deep := by
  rw [List.drop_eq_getElem_cons h, Pls.light, if_pos hm]
theorem Pls.light_neg (l : List Pl) (m deep : Int) (hm : ¬ 0 ≤ m) : Pls.light l m deep = m := by
  cases l with
  | nil => unfold Pls.light; rfl
  | cons p ps => unfold Pls.light; rw [if_neg hm]
set_option maxRecDepth 100000 in
set_option maxHeartbeats 4000000 in
theorem light_step (k n : Int) (t : ByteArray) (l : List Pl)
    (ih : ∀ (j : Nat) (h : j < l.length) (A : Option Addr) (c : Nat) (m deep : Int) (w : World), l[j].text.size ≤ 140737488351232 → l[j].list.length * 56 ≤ 140737488351232 → Pls.lies w w.heap.size l[j].list A → 0 ≤ m → m ≤ 70000 → 0 ≤ deep → deep ≤ 71 →
      Calls Tryz.prog 29 #[l[j].arg A c, .int .i64 m, .int .i64 deep] w (Bel (.int .i64 (l[j].light m deep)) w))
    (A : Option Addr) (c : Nat) (m deep : Int) (w : World) (ht : t.size ≤ 140737488351232) (hlen : l.length * 56 ≤ 140737488351232) (hl : Pls.lies w w.heap.size l A) (hm0 : 0 ≤ m) (hm1 : m ≤ 70000) (hd0 : 0 ≤ deep) (hd1 : deep ≤ 71) :
    Calls Tryz.prog 29 #[.agg #[.int .i64 k, .int .i64 n, .string t, .slice A l.length c], .int .i64 m, .int .i64 deep] w (Bel (.int .i64 ((Pl.mk k n t l).light m deep)) w) := by
  have IH := Lib.hid ih
  have HL := Lib.hid hl
  have HB : Hid (Below w.heap.size w (w.alloc (.cells #[.int .i64 k, .int .i64 n, .string t, .slice A l.length c] 34))) := (Below.refl _ _).alloc (Nat.le_refl _) _
  have hll := Lib.hid (Pls.light_le l A (m - 1 - (t.size : Int) / 4) (deep + 1) hl (by omega))
  clear ih hl
  by_cases hd : 70 < deep
  · have hx := Lib.hid (show (Pl.mk k n t l).light m deep = -1 by unfold Pl.light; rw [if_pos hd])
    go_enter Tryz.func29, Tryz.ntmps29
    go_wp2
    go_ret
    exact ⟨by rw [hx.out]; rfl, HB.out⟩
  · have hx := Lib.hid (show (Pl.mk k n t l).light m deep = Pls.light l (m - 1 - (t.size : Int) / 4) (deep + 1) by unfold Pl.light; rw [if_neg hd])
    have hd2 : decide (70 < deep) = false := by simp; omega
    go_enter Tryz.func29, Tryz.ntmps29
    go_wp2
    go_loopw [1, 7] (fun s1 i wr => ∃ (j : Nat) (m' : Int), j ≤ l.length ∧ i = .int .i64 j ∧ s1 = .int .i64 m' ∧ m' ≤ 70000 ∧ -140737488355328 ≤ m' ∧ Pls.light (l.drop j) m' (deep + 1) = Pls.light l (m - 1 - (t.size : Int) / 4) (deep + 1) ∧ Below (w.heap.size + 1) (w.alloc (.cells #[.int .i64 k, .int .i64 n, .string t, .slice A l.length c] 34)) wr) (fun s1 i wr => l.length - (intOf i).toNat)
    case atStart => exact ⟨0, _, Nat.zero_le _, rfl, rfl, by omega, by omega, rfl, Below.refl _ _⟩
    case round =>
      obtain ⟨j, m', hj, rfl, rfl, hm2, hm3, heq, hbel⟩ := hrel
      have HE := Lib.hid heq
      have HBL := Lib.hid hbel
      have hx0 := Lib.hid ((hbel.block w.heap.size (by omega)).trans (heap_alloc_new w _))
      have HS : w.heap.size + 1 ≤ wr.heap.size := by have := hbel.size; simpa using this
      clear heq hbel
      have c3 : wr.cell? ⟨w.heap.size, 3, none⟩ = some (.slice A l.length c) := cell_of_row _ _ 3 _ _ _ hx0.out
      by_cases hlt : j < l.length
      · by_cases hm4 : 0 ≤ m'
        · obtain ⟨b', o', rfl⟩ := HL.out.head (by omega)
          have hlies := (HL.out.below (B' := wr.heap.size) (HB.out.trans (HBL.out.mono (by omega))) (by omega)).at_ j hlt
          obtain ⟨hbb, e0, e1, e2, hlen2, A', c', e3, hll⟩ := hlies.parts
          have htx := Lib.hid hlies.text
          have hle := Lib.hid (Pl.light_le _ _ _ m' (deep + 1) hlies hm4)
          have HLL := Lib.hid (IH.out j hlt A' c' m' (deep + 1) wr htx.out hlen2 hll hm4 hm2 (by omega) (by omega))
          have HST := Lib.hid (Pls.light_step hlt m' (deep + 1) hm4)
          clear hll hlies
          unfold Pl.arg at HLL
          go_wp2_with fail
          refine HLL.out.mono ?_
          rintro e w2 ⟨rfl, hb⟩
          have HB2 := Lib.hid (HBL.out.trans (hb.mono HS))
          have hle2 := hle.out
          clear hb
          go_wp2
          go_roundw
          case rel => exact ⟨j + 1, _, by omega, by go_num, rfl, by omega, by omega, by rw [← HE.out, HST.out], HB2.out⟩
          case measure => simp [intOf]; omega
        · have hd4 : decide (0 ≤ m') = false := by simp; omega
          have hfin := Lib.hid (show Pls.light l (m - 1 - (t.size : Int) / 4) (deep + 1) = m' by rw [← HE.out]; exact Pls.light_neg _ _ _ hm4)
          go_wp2
          go_ret
          exact ⟨by rw [hx.out, hfin.out]; rfl, HB.out.trans (HBL.out.mono (by omega))⟩
      · have hfin := Lib.hid (show Pls.light l (m - 1 - (t.size : Int) / 4) (deep + 1) = m' by
          rw [← HE.out, List.drop_eq_nil_of_le (by omega)]; unfold Pls.light; rfl)
        go_wp2
        go_ret
        exact ⟨by rw [hx.out, hfin.out]; rfl, HB.out.trans (HBL.out.mono (by omega))⟩
theorem light_all : ∀ (z : Nat) (p : Pl), SizeOf.sizeOf p ≤ z → ∀ (A : Option Addr) (c : Nat) (m deep : Int) (w : World), p.text.size ≤ 140737488351232 → p.list.length * 56 ≤ 140737488351232 → Pls.lies w w.heap.size p.list A → 0 ≤ m → m ≤ 70000 → 0 ≤ deep → deep ≤ 71 →
      Calls Tryz.prog 29 #[p.arg A c, .int .i64 m, .int .i64 deep] w (Bel (.int .i64 (p.light m deep)) w) := by
  intro z
  induction z with
  | zero => intro p h; cases p; simp at h
  | succ z ih =>
    intro p hp A c m deep w h0 h1 h2 h3 h4 h5 h6
    obtain ⟨k, n, t, l⟩ := p
    exact light_step k n t l (fun j hj => ih l[j] (by have := Pl.size_lt (k := k) (n := n) (t := t) hj; omega)) A c m deep w h0 h1 h2 h3 h4 h5 h6
def Pl.isLight (p : Pl) : Bool := decide (0 ≤ p.light 70000 0)
set_option maxRecDepth 100000 in
/-- espalierlaw2.Light. -/
theorem law2_Light (p : Pl) (A : Option Addr) (c : Nat) (w : World) (h0 : p.text.size ≤ 140737488351232) (h1 : p.list.length * 56 ≤ 140737488351232) (h2 : Pls.lies w w.heap.size p.list A) :
    Calls Tryz.prog 14 #[p.arg A c] w (Bel (.bool p.isLight) w) := by
  have HB : Hid (Below w.heap.size w (w.alloc (.cells #[.int .i64 p.kind, .int .i64 p.num, .string p.text, .slice A p.list.length c] 34))) := (Below.refl _ _).alloc (Nat.le_refl _) _
  have KL := Lib.hid (light_all _ p (Nat.le_refl _) A c 70000 0 (w.alloc (.cells #[.int .i64 p.kind, .int .i64 p.num, .string p.text, .slice A p.list.length c] 34)) h0 h1 (h2.below HB.out (by simp)) (by omega) (by omega) (by omega) (by omega))
  unfold Pl.arg at KL ⊢
  clear h2
  go_enter Tryz.func14, Tryz.ntmps14
  go_wp2_with fail
  refine KL.out.mono ?_
  rintro e w2 ⟨rfl, hb⟩
  have HB2 := Lib.hid (HB.out.trans (hb.mono (by simp)))
  clear hb
  go_wp2
  go_ret
  exact ⟨rfl, HB2.out⟩
end Go.Proofs.YtcdjnkeomaidaaaGreat

/-
  Twins that a call owns, in a row of its own. Conditions: none.
-/
namespace Go.Proofs.YtcdjnkeomaidaaaGreat
open Go.RowKit
set_option linter.unusedVariables false

/-- A light one: in memory of its own, with marks; a heavy one: where it was. -/
def TwEl (w0 : Nat) (w : World) (S : Nat → Prop) (x : PlAt) : Prop := x.p.sane ∧ (x.p.isLight = true → Marked w S x.p.list x.A x.c) ∧ (x.p.isLight = false → Pls.lies w w0 x.p.list x.A)
theorem TwEl.keep {w0 : Nat} {w w' : World} {S S' : Nat → Prop} {x : PlAt} (h : TwEl w0 w S x) (h0 : ∀ b o, b < w0 → w'.cell? ⟨b, o, none⟩ = w.cell? ⟨b, o, none⟩) (hk : ∀ b o, S b → w'.cell? ⟨b, o, none⟩ = w.cell? ⟨b, o, none⟩) (hS : ∀ b, S b → S' b) : TwEl w0 w' S' x :=
  ⟨h.1, fun hl => (h.2.1 hl).keep hk hS, fun hl => (h.2.2 hl).keep h0 (Nat.le_refl _)⟩
theorem TwEl.lies {w0 : Nat} {w : World} {S : Nat → Prop} {x : PlAt} {B : Nat} (h : TwEl w0 w S x) (hB : w0 ≤ B) (hS : ∀ b, S b → b < B) : Pls.lies w B x.p.list x.A := by
  cases hl : x.p.isLight
  · exact (h.2.2 hl).keep (fun _ _ _ => rfl) hB
  · exact (h.2.1 hl).lies hS
structure TwOwn (w0 : Nat) (w : World) (v : Value) (us : List PlAt) : Prop where
  own : w.ownsRow w0 34 4 v us.length (us.flatMap PlAt.cells)
  els : ∀ x ∈ us, TwEl w0 w (fun b => w0 ≤ b ∧ b < w.heap.size ∧ v.ownBlock ≠ some b) x
theorem TwOwn.nil (w0 : Nat) (w : World) : TwOwn w0 w (.slice none 0 0) [] := ⟨World.ownsRow_nil _ _ _ _, fun x h => absurd h (List.not_mem_nil)⟩
theorem TwOwn.step {w0 : Nat} {w5 w6 w7 : World} {v : Value} {us : List PlAt} (h : TwOwn w0 w5 v us) (x : PlAt) (hB : w0 ≤ w5.heap.size) {g cap : Nat} {Y : Obj}
    (hb6 : Below w5.heap.size w5 w6) (hx : TwEl w0 w6 (fresh w5 w6) x) (hgrow : (w6.alloc Y).grownBy w7 v.ownBlock) (hat : v.ownBlock = some g ∨ g = w6.heap.size + 1)
    (hown : w7.ownsRow w0 34 4 (.slice (some ⟨g, 0, none⟩) (us.length + 1) cap) (us.length + 1) (us.flatMap PlAt.cells ++ x.cells)) :
    TwOwn w0 w7 (.slice (some ⟨g, 0, none⟩) (us.length + 1) cap) (us ++ [x]) := by
  have hs6 := hb6.size
  have hs7 := hgrow.size
  rw [size_alloc] at hs7
  have blk6 : ∀ b, b < w6.heap.size → v.ownBlock ≠ some b → w7.heap[b]? = w6.heap[b]? := fun b hb hne => by
    rw [hgrow.block b (by rw [size_alloc]; omega) (Ne.symm hne), Below.heap_alloc _ _ _ (by omega)]
  have hvlt : ∀ b, v.ownBlock = some b → w0 ≤ b ∧ b < w5.heap.size := fun b e => h.own.lt b e
  have hlate : ∀ b, b < w6.heap.size → v.ownBlock ≠ some b → ∀ o, w7.cell? ⟨b, o, none⟩ = w6.cell? ⟨b, o, none⟩ := fun b h2 h3 o => World.cell?_of_block (a := ⟨b, o, none⟩) (blk6 b h2 h3)
  have hold : ∀ b o, b < w0 → w7.cell? ⟨b, o, none⟩ = w6.cell? ⟨b, o, none⟩ := fun b o hb => hlate b (by omega) (fun e => by have := (hvlt b e).1; omega) o
  refine ⟨?_, fun y hy => ?_⟩
  · have : (us ++ [x]).flatMap PlAt.cells = us.flatMap PlAt.cells ++ x.cells := by simp
    rw [this, List.length_append]
    exact hown
  · rcases List.mem_append.1 hy with hy | hy
    · refine (h.els y hy).keep (fun b o hb => by rw [hold b o hb]; exact hb6.cell (p := ⟨b, o, none⟩) (by show b < _; omega)) (fun b o hs => ?_) (fun b hs => ⟨hs.1, by have := hs.2.1; omega, ?_⟩)
      · rw [hlate b (by have := hs.2.1; omega) hs.2.2]
        exact hb6.cell (p := ⟨b, o, none⟩) hs.2.1
      · rcases hat with e | e
        · have := hs.2.2; rw [e] at this; exact this
        · intro e'; injection e' with e'; have := hs.2.1; have e'' : g = b := e'; omega
    · rw [List.mem_singleton] at hy
      subst hy
      refine hx.keep hold (fun b o hs => hlate b hs.2 (fun e => by have := (hvlt b e).2; have := hs.1; omega) o) (fun b hs => ⟨by have := hs.1; omega, by have := hs.2; omega, ?_⟩)
      intro e'; injection e' with e'
      have e'' : g = b := e'
      have := hs.1; have := hs.2
      rcases hat with e | e
      · have := (hvlt g e).2; omega
      · omega
theorem TwOwn.below {w0 : Nat} {w w' : World} {v : Value} {us : List PlAt} (h : TwOwn w0 w v us) (hb : Below w.heap.size w w') (h0 : w0 ≤ w.heap.size) : TwOwn w0 w' v us :=
  ⟨own_below h.own hb, fun x hx => (h.els x hx).keep (fun b o hb' => hb.cell (p := ⟨b, o, none⟩) (by show b < _; omega)) (fun b o hs => hb.cell (p := ⟨b, o, none⟩) hs.2.1) (fun b hs => ⟨hs.1, Nat.lt_of_lt_of_le hs.2.1 hb.size, hs.2.2⟩)⟩
/-- Its slice, and what lies there. -/
theorem TwOwn.slice {w0 : Nat} {w : World} {v : Value} {us : List PlAt} (h : TwOwn w0 w v us) : ∃ A c, v = .slice A us.length c ∧ (0 < us.length → ∃ g, A = some ⟨g, 0, none⟩ ∧ g < w.heap.size ∧ ∀ k (hk : k < us.length) j u, us[k].cells[j]? = some u → w.cell? ⟨g, k * 4 + j, none⟩ = some u) := by
  rcases h.own.2 with ⟨e, h2⟩ | ⟨g, cap, cur, e, _⟩
  · exact ⟨none, 0, by rw [e, h2], fun h => by omega⟩
  · subst e
    have hlt := h.own.lt g rfl
    refine ⟨_, _, rfl, fun hl => ⟨g, rfl, hlt.2, fun k hk j u hj => ?_⟩⟩
    have hj4 : j < 4 := by
      rcases Nat.lt_or_ge j 4 with h | h
      · exact h
      · rw [List.getElem?_eq_none (by exact h)] at hj; cases hj
    rw [h.own.cellAt (k * 4 + j) (by omega), plat_flat us k hk j hj4]
    exact hj
theorem plies_of {w : World} {B b : Nat} (hb : b < B) : ∀ (us : List PlAt) (o : Nat), (∀ k (hk : k < us.length) j u, us[k].cells[j]? = some u → w.cell? ⟨b, o + (k * 4 + j), none⟩ = some u) → (∀ x ∈ us, x.p.sane ∧ Pls.lies w B x.p.list x.A) → Pls.lies w B (us.map PlAt.p) (some ⟨b, o, none⟩)
  | [], _, _, _ => by unfold List.map Pls.lies; trivial
  | x :: us, o, hc, hx => by
    unfold List.map Pls.lies
    obtain ⟨hs, hl⟩ := hx x (by simp)
    refine ⟨b, o, rfl, ?_, plies_of hb us (o + 4) (fun k hk j u hj => ?_) (fun y hy => hx y (by simp [hy]))⟩
    · have h0 : ∀ j u, x.cells[j]? = some u → w.cell? ⟨b, o + j, none⟩ = some u := fun j u hj => by
        have := hc 0 (by simp) j u (by simpa using hj)
        rwa [Nat.zero_mul, Nat.zero_add] at this
      obtain ⟨⟨k, n, t, l⟩, A, c⟩ := x
      unfold Pl.lies
      exact ⟨hb, h0 0 _ rfl, h0 1 _ rfl, h0 2 _ rfl, hs.1, hs.2.1, hs.2.2.1, hs.2.2.2, A, c, h0 3 _ rfl, hl⟩
    · rw [show o + 4 + (k * 4 + j) = o + ((k + 1) * 4 + j) by omega]
      exact hc (k + 1) (by simpa using hk) j u (by simpa using hj)
/-- All of them lie there as plain values. -/
theorem TwOwn.lies {w0 : Nat} {w : World} {v : Value} {us : List PlAt} {A : Option Addr} {c : Nat} (h : TwOwn w0 w v us) (h0 : w0 ≤ w.heap.size) (e : v = .slice A us.length c) : Pls.lies w w.heap.size (us.map PlAt.p) A := by
  obtain ⟨A', c', e', hx⟩ := h.slice
  rw [e] at e'
  injection e' with e1 _ e2
  subst e1
  by_cases hn : 0 < us.length
  · obtain ⟨g, rfl, hg, hc⟩ := hx hn
    exact plies_of hg us 0 (fun k hk j u hj => by rw [Nat.zero_add]; exact hc k hk j u hj) (fun x hx => ⟨(h.els x hx).1, (h.els x hx).lies h0 (fun b hs => hs.2.1)⟩)
  · have : us = [] := List.eq_nil_of_length_eq_zero (by omega)
    subst this
    unfold List.map Pls.lies; trivial
end Go.Proofs.YtcdjnkeomaidaaaGreat

/-
  espalierlaw8.Twins, Untouched: walks, for any plain values. Written by a program of mine (gen_pack.py). Conditions: they lie in memory.
-/
namespace Go.Proofs.YtcdjnkeomaidaaaGreat
open Go.RowKit
set_option linter.unusedVariables false

def TwinsPost (ps : List Pl) (w : World) (e : Ending) (w' : World) : Prop := ∃ v us, e = .returned v ∧ us.map PlAt.p = ps ∧ TwOwn w.heap.size w' v us ∧ Below w.heap.size w w'
set_option maxRecDepth 100000 in
set_option maxHeartbeats 4000000 in
theorem law_Twins (ps : List Pl) (A : Option Addr) (c : Nat) (w : World) (hlen : ps.length * 56 ≤ 140737488351232) (hl : Pls.lies w w.heap.size ps A) :
    Calls Tryz.prog 5 #[.slice A ps.length c] w (TwinsPost ps w) := by
  obtain ⟨i0, hi, hz0, hz1, hz2⟩ := info_plain_parts
  have HL := Lib.hid hl
  clear hl
  go_enter Tryz.func5, Tryz.ntmps5
  go_wp2
  go_loopw [3, 4] (fun s3 s4 wr => ∃ (k : Nat) (us : List PlAt), k ≤ ps.length ∧ s4 = .int .i64 (k : Int) ∧ us.map PlAt.p = ps.take k ∧ TwOwn w.heap.size wr s3 us ∧ Below w.heap.size w wr) (fun _ s4 _ => ps.length - (intOf s4).toNat)
  case atStart => exact ⟨0, [], Nat.zero_le _, rfl, by simp, TwOwn.nil _ _, Below.refl _ _⟩
  case round =>
    obtain ⟨k, us, hk, rfl, hus, hown, hbel⟩ := hrel
    have HU := Lib.hid hus
    have HO := Lib.hid hown
    have HB := Lib.hid hbel
    have hws : w.heap.size ≤ wr.heap.size := hbel.size
    clear hus hown hbel
    by_cases hlt : k < ps.length
    · have hul : us.length = k := by have := congrArg List.length HU.out; simpa [Nat.min_eq_left hk] using this
      subst hul
      obtain ⟨b', o', rfl⟩ := HL.out.head (by omega)
      have hlies := (HL.out.below HB.out (by omega : w.heap.size ≤ wr.heap.size)).at_ us.length hlt
      have hlw := Lib.hid (HL.out.at_ us.length hlt).parts
      have hsn := Lib.hid hlies.sane
      obtain ⟨hbb, e0, e1, e2, hlen2, A', c', e3, hll⟩ := hlies.parts
      have hl0 : Hid (Pls.lies w w.heap.size ps[us.length].list A') := Lib.hid (by
        obtain ⟨hb0, _, _, _, _, A2, c2, f3, hl2⟩ := hlw.out
        have := (HB.out.cell (p := ⟨b', o' + us.length * 4 + 3, none⟩) hb0).trans f3
        rw [e3] at this
        injection this with this
        injection this with h1 _ _
        subst h1
        exact hl2)
      have HU3 := Lib.hid (fun A1 c1 => show (us ++ [(⟨ps[us.length], A1, c1⟩ : PlAt)]).map PlAt.p = ps.take (us.length + 1) by rw [List.map_append, HU.out, List.take_succ_eq_append_getElem hlt]; rfl)
      generalize hp : ps[us.length] = p at *
      clear hlies hp hlw
      generalize hX : Obj.cells #[.int .i64 p.kind, .int .i64 p.num, .string p.text, .slice A' p.list.length c'] 34 = X
      have HX := Lib.hid hX
      have HBX := Lib.hid ((Below.refl wr.heap.size wr).alloc (Nat.le_refl _) X)
      have KL := Lib.hid (law2_Light p A' c' (wr.alloc X) hsn.out.2.2.1 hsn.out.2.2.2 (hll.below HBX.out HBX.out.size))
      unfold Pl.arg at KL
      clear hll hX
      go_wp2_with fail
      rw [HX.out]
      refine KL.out.mono ?_
      rintro e w1 ⟨rfl, hb1⟩
      have HB1 := Lib.hid (HBX.out.trans (hb1.mono HBX.out.size))
      have hx1 := (hb1.block wr.heap.size (by simp)).trans (heap_alloc_new wr X)
      have hz1w := lt_of_block hx1
      have HX1 := Lib.hid hx1
      rw [← HX.out] at hx1
      have f0 : ∀ j, w1.cell? ⟨wr.heap.size, j, none⟩ = (#[.int .i64 p.kind, .int .i64 p.num, .string p.text, .slice A' p.list.length c'] : Array Value)[j]? := fun j => by simp [World.cell?, hx1]
      have g0 : ∀ j, w1.frozen? ⟨wr.heap.size, j, none⟩ = false := fun j => by simp [World.frozen?, hx1]
      clear hb1 hx1 e0 e1 e2 e3 KL
      cases hlt2 : p.isLight
      · have HT := Lib.hid (show TwEl w.heap.size w1 (fresh wr w1) ⟨p, A', c'⟩ from ⟨hsn.out, fun h => absurd (hlt2.symm.trans h) (by decide), fun _ => hl0.out.keep (fun b o hb => (HB1.out.cell (p := ⟨b, o, none⟩) (Nat.lt_of_lt_of_le hb hws)).trans (HB.out.cell (p := ⟨b, o, none⟩) hb)) (Nat.le_refl _)⟩)
        have hown2 := Lib.hid (own_below HO.out.own HB1.out |>.alloc (.cells (p.cells4 A' c').toArray 34))
        unfold Pl.cells4 at hown2
        go_wp2_with (at_builtin; refine wpList_append_lies _ rfl _ _ 24 rfl w.heap.size 34 i0 _ 4 56 Tryz.underlying24 hi hz0 hz1 hz2 rfl (by decide) _ us.length (us.flatMap PlAt.cells) rfl hown2.out ⟨w1.heap.size, 0, none⟩ 1 1 (p.cells4 A' c') rfl rfl (World.news_of_block (by exact heap_alloc_new w1 _)) (by intro u hu; unfold Pl.cells4 at hu; simp at hu; rcases hu with rfl | rfl | rfl | rfl <;> rfl) (by decide) (by unfold maxLen; omega) (by omega) (by have := HB1.out.size; simp; omega) (w1.heap.size + 1) (by simp) ?_)
        intro g cap w3 hown3 hgr3 hat hlt3
        have HO3 := Lib.hid (HO.out.step ⟨p, A', c'⟩ hws HB1.out HT.out hgr3 hat hown3)
        have HB3 := Lib.hid ((((HB.out.trans (HB1.out.mono hws)).alloc (by have := HB1.out.size; omega) _).grown hgr3 (by have := HB1.out.size; rw [size_alloc]; omega) (fun q e => (HO.out.own.lt q e).1)))
        clear hown3 hgr3 hown2 hat
        go_wp2
        go_roundw
        case rel => exact ⟨us.length + 1, us ++ [(⟨p, A', c'⟩ : PlAt)], by omega, by go_num, HU3.out _ _, HO3.out, HB3.out⟩
        case measure => simp [intOf]; omega
      · have KT := Lib.hid (law2_Twin p A' c' w1 hsn.out (hl0.out.keep (fun b o hb => (HB1.out.cell (p := ⟨b, o, none⟩) (Nat.lt_of_lt_of_le hb hws)).trans (HB.out.cell (p := ⟨b, o, none⟩) hb)) (by have := HB1.out.size; omega)))
        unfold Pl.arg at KT
        go_wp2_with fail
        refine KT.out.mono ?_
        rintro e w2 ⟨A1, c1, rfl, hm, hb2⟩
        have hx2 := (hb2.block wr.heap.size hz1w).trans HX1.out
        have HX2 := Lib.hid hx2
        rw [← HX.out] at hx2
        have f2 : ∀ j, w2.cell? ⟨wr.heap.size, j, none⟩ = (#[.int .i64 p.kind, .int .i64 p.num, .string p.text, .slice A' p.list.length c'] : Array Value)[j]? := fun j => by simp [World.cell?, hx2]
        have g2 : ∀ j, w2.frozen? ⟨wr.heap.size, j, none⟩ = false := fun j => by simp [World.frozen?, hx2]
        have HB2 := Lib.hid (HB1.out.trans (hb2.mono HB1.out.size))
        have HM := Lib.hid hm
        have hs2 := hb2.size
        clear f0 g0 hb2 hm hx2 KT
        unfold Pl.arg
        have hW4 : ∃ w4, w4 = (((w2.setCell ⟨wr.heap.size, 0, none⟩ (.int .i64 p.kind)).setCell ⟨wr.heap.size, 1, none⟩ (.int .i64 p.num)).setCell ⟨wr.heap.size, 2, none⟩ (.string p.text)).setCell ⟨wr.heap.size, 3, none⟩ (.slice A1 p.list.length c1) := ⟨_, rfl⟩
        obtain ⟨w4, hw4⟩ := hW4
        have HB4 : Hid (Below wr.heap.size wr w4) := Lib.hid (by
          rw [hw4]
          exact (((HB2.out.setCell (p := ⟨wr.heap.size, 0, none⟩) (Nat.le_refl _) _).setCell (p := ⟨wr.heap.size, 1, none⟩) (Nat.le_refl _) _).setCell (p := ⟨wr.heap.size, 2, none⟩) (Nat.le_refl _) _).setCell (p := ⟨wr.heap.size, 3, none⟩) (Nat.le_refl _) _)
        have hz4 : w4.heap.size = w2.heap.size := by rw [hw4, size_set, size_set, size_set, size_set]
        have hx4 : w4.heap[wr.heap.size]? = some (.cells #[.int .i64 p.kind, .int .i64 p.num, .string p.text, .slice A1 p.list.length c1] 34 (0, 0)) := by
          rw [hw4]
          exact blk_set (blk_set (blk_set (blk_set (HX2.out.trans (by rw [← HX.out])) 0 (.int .i64 p.kind)) 1 (.int .i64 p.num)) 2 (.string p.text)) 3 (.slice A1 p.list.length c1)
        have HT4 : Hid (TwEl w.heap.size w4 (fresh wr w4) ⟨p, A1, c1⟩) := Lib.hid ⟨hsn.out, fun _ => HM.out.keep (fun b o hs => by
            have h1 : b ≠ wr.heap.size := by have := hs.1; omega
            rw [hw4, cell_far _ _ (p := ⟨wr.heap.size, 3, none⟩) h1, cell_far _ _ (p := ⟨wr.heap.size, 2, none⟩) h1, cell_far _ _ (p := ⟨wr.heap.size, 1, none⟩) h1, cell_far _ _ (p := ⟨wr.heap.size, 0, none⟩) h1]) (fun b hs => ⟨by have := hs.1; omega, by have := hs.2; omega⟩), fun h => absurd (hlt2.symm.trans h) (by decide)⟩
        have hown2 := Lib.hid (own_below HO.out.own HB4.out |>.alloc (.cells (p.cells4 A1 c1).toArray 34))
        have HW4 := Lib.hid hw4
        clear hw4
        unfold Pl.cells4 at hown2
        go_upto_region 8 with fail
        rw [← HW4.out]
        have f4 : ∀ j, w4.cell? ⟨wr.heap.size, j, none⟩ = (#[.int .i64 p.kind, .int .i64 p.num, .string p.text, .slice A1 p.list.length c1] : Array Value)[j]? := fun j => by simp [World.cell?, hx4]
        have hz4' := Lib.hid hz4
        clear f2 g2 hx4 hz4
        go_wp2_with (at_builtin; refine wpList_append_lies _ rfl _ _ 24 rfl w.heap.size 34 i0 _ 4 56 Tryz.underlying24 hi hz0 hz1 hz2 rfl (by decide) _ us.length (us.flatMap PlAt.cells) rfl hown2.out ⟨w4.heap.size, 0, none⟩ 1 1 (p.cells4 A1 c1) rfl rfl (World.news_of_block (by exact heap_alloc_new w4 _)) (by intro u hu; unfold Pl.cells4 at hu; simp at hu; rcases hu with rfl | rfl | rfl | rfl <;> rfl) (by decide) (by unfold maxLen; omega) (by omega) (by have := HB4.out.size; simp; omega) (w4.heap.size + 1) (by simp) ?_)
        intro g cap w3 hown3 hgr3 hat hlt3
        have HO3 := Lib.hid (HO.out.step ⟨p, A1, c1⟩ hws HB4.out HT4.out hgr3 hat hown3)
        have HB3 := Lib.hid ((((HB.out.trans (HB4.out.mono hws)).alloc (by have := HB4.out.size; omega) _).grown hgr3 (by have := HB4.out.size; rw [size_alloc]; omega) (fun q e => (HO.out.own.lt q e).1)))
        clear hown3 hgr3 hown2 hat
        go_wp2
        go_roundw
        case rel => exact ⟨us.length + 1, us ++ [(⟨p, A1, c1⟩ : PlAt)], by omega, by go_num, HU3.out _ _, HO3.out, HB3.out⟩
        case measure => simp [intOf]; omega
    · have hps := Lib.hid (show us.map PlAt.p = ps by rw [HU.out, List.take_of_length_le (by omega)])
      go_wp2
      go_ret
      exact ⟨_, us, rfl, hps.out, HO.out, HB.out⟩
set_option maxRecDepth 100000 in
set_option maxHeartbeats 8000000 in
theorem law_Untouched (us : List PlAt) (w0 : Nat) (v : Value) (A B : Option Addr) (c d : Nat) (w : World) (hlen : us.length * 56 ≤ 140737488351232) (h0 : w0 ≤ w.heap.size) (ho : TwOwn w0 w v us) (hv : v = .slice A us.length c) (hl : Pls.lies w w.heap.size (us.map PlAt.p) B) :
    Calls Tryz.prog 9 #[.slice A us.length c, .slice B us.length d] w (Bel (.bool true) w) := by
  have HO := Lib.hid ho
  have HL := Lib.hid hl
  have HV := Lib.hid hv
  clear ho hl hv
  go_enter Tryz.func9, Tryz.ntmps9
  go_wp2
  go_loopw [5] (fun s5 wr => ∃ (k : Nat), k ≤ us.length ∧ s5 = .int .i64 (k : Int) ∧ Below w.heap.size w wr) (fun s5 _ => us.length - (intOf s5).toNat)
  case atStart => exact ⟨0, Nat.zero_le _, rfl, Below.refl _ _⟩
  case round =>
    obtain ⟨k, hk, rfl, hbel⟩ := hrel
    have HB := Lib.hid hbel
    clear hbel
    by_cases hlt : k < us.length
    · have ho := HO.out.below HB.out h0
      obtain ⟨A', c', e', hx⟩ := ho.slice
      have hve := HV.out
      rw [e'] at hve
      injection hve with hA _ hc
      subst hA hc
      obtain ⟨g, rfl, hg, hcs⟩ := hx (by omega)
      have hl := HL.out.below HB.out HB.out.size
      obtain ⟨b', o', rfl⟩ := hl.head (by simp; omega)
      have hlies := hl.at_ k (by simpa using hlt)
      rw [List.getElem_map] at hlies
      have hsn := Lib.hid hlies.sane
      obtain ⟨hbb, e0, e1, e2, hlen2, A2, c2, e3, hll⟩ := hlies.parts
      have hel := Lib.hid (ho.els us[k] (List.getElem_mem hlt))
      have d0 : wr.cell? ⟨g, k * 4, none⟩ = some (.int .i64 us[k].p.kind) := hcs k hlt 0 _ rfl
      have d1 : wr.cell? ⟨g, k * 4 + 1, none⟩ = some (.int .i64 us[k].p.num) := hcs k hlt 1 _ rfl
      have d2 : wr.cell? ⟨g, k * 4 + 2, none⟩ = some (.string us[k].p.text) := hcs k hlt 2 _ rfl
      have d3 : wr.cell? ⟨g, k * 4 + 3, none⟩ = some (.slice us[k].A us[k].p.list.length us[k].c) := hcs k hlt 3 _ rfl
      generalize us[k] = x at *
      have KL := Lib.hid (fun y : Ext wr => law2_Light x.p A2 c2 y.now hsn.out.2.2.1 hsn.out.2.2.2 (hll.below y.ok y.ok.size))
      have KK := Lib.hid (fun (hi : x.p.isLight = true) (y : Ext wr) => law2_Kept x.p x.A A2 x.c c2 y.now hsn.out ((hel.out.2.1 hi).keep (fun b o hs => y.ok.cell (p := ⟨b, o, none⟩) hs.2.1) (fun b hs => Nat.lt_of_lt_of_le hs.2.1 y.ok.size)) (hll.below y.ok y.ok.size))
      unfold Pl.arg at KL KK
      have E0 := Ext.cell (w := wr) e0
      have E1 := Ext.cell (w := wr) e1
      have E2 := Ext.cell (w := wr) e2
      have E3 := Ext.cell (w := wr) e3
      have D0 := Ext.cell (w := wr) d0
      have D1 := Ext.cell (w := wr) d1
      have D2 := Ext.cell (w := wr) d2
      have D3 := Ext.cell (w := wr) d3
      clear e0 e1 e2 e3 d0 d1 d2 d3 hlies hl hll hcs hx ho hel
      cases hi : x.p.isLight
      · rw [hi] at KL
        go_upto_region 4 with fail
        refine wp_region_ext (by kernel_rfl) (by kernel_rfl) ?_
        go_big_quiet_step (fail)
        go_big_quiet_step (fail)
        go_big_quiet_step (fail)
        go_big_quiet_step (fail)
        go_big_quiet_step ((go_at_call 14; exact Calls.ext_of (KL.out _)))
        go_big_quiet_step (fail)
        go_big_quiet_step (fail)
        go_big_quiet_step (fail)
        go_big_quiet_step (fail)
        go_big_quiet_step (fail)
        go_big_quiet_step (fail)
        go_big_quiet_step (fail)
        go_big_quiet_step (fail)
        go_big_quiet_step (fail)
        go_big_quiet_step (fail)
        go_big_quiet_step (fail)
        go_big_quiet_step (fail)
        refine wpQuiet_nil ?_
        rintro _ ⟨z, rfl⟩
        have HB2 := Lib.hid (HB.out.trans (z.ok.mono HB.out.size))
        clear D0 D1 D2 D3 E0 E1 E2 E3 KL KK
        generalize z.now = w2 at *
        go_wp2
        go_roundw
        case rel => exact ⟨k + 1, by omega, by go_num, HB2.out⟩
        case measure => simp [intOf]; omega
      · rw [hi] at KL
        have KK2 := Lib.hid (KK.out hi)
        clear KK
        go_upto_region 4 with fail
        refine wp_region_ext (by kernel_rfl) (by kernel_rfl) ?_
        go_big_quiet_step (fail)
        go_big_quiet_step (fail)
        go_big_quiet_step (fail)
        go_big_quiet_step (fail)
        go_big_quiet_step ((go_at_call 14; exact Calls.ext_of (KL.out _)))
        go_big_quiet_step (fail)
        go_big_quiet_step (fail)
        go_big_quiet_step (fail)
        go_big_quiet_step (fail)
        go_big_quiet_step (fail)
        go_big_quiet_step (fail)
        go_big_quiet_step (fail)
        go_big_quiet_step (fail)
        go_big_quiet_step (fail)
        go_big_quiet_step ((go_at_call 25; exact Calls.ext_of (KK2.out _)))
        go_big_quiet_step (fail)
        go_big_quiet_step (fail)
        refine wpQuiet_nil ?_
        rintro _ ⟨z, rfl⟩
        have HB2 := Lib.hid (HB.out.trans (z.ok.mono HB.out.size))
        clear D0 D1 D2 D3 E0 E1 E2 E3 KL KK2
        generalize z.now = w2 at *
        go_wp2
        go_roundw
        case rel => exact ⟨k + 1, by omega, by go_num, HB2.out⟩
        case measure => simp [intOf]; omega
    · go_wp2
      go_ret
      exact ⟨rfl, HB.out⟩
end Go.Proofs.YtcdjnkeomaidaaaGreat
