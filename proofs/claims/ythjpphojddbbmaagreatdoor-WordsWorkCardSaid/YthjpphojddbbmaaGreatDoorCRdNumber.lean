/-
  espalierref2's reader: number: a walk. Conditions: a text within a row's reach.
-/
import Derived.Test.YthjpphojddbbmaaGreatDoorCRdBase
namespace Go.Proofs.YthjpphojddbbmaaGreatDoor
open Go.RowKit
set_option linter.unusedVariables false
set_option linter.unusedSimpArgs false

/-- What a number's reading leaves. -/
def NumTo (s : ByteArray) (p : Nat) (pl : Pl) (p' : Nat) (err' : Int) : Prop := match rdN (s.data.toList.drop p) with
  | some (v, k) => err' = 0 ∧ p' = p + k ∧ pl = .mk 3 v ⟨#[]⟩ [] ∧ rng v = true
  | none => err' ≠ 0 ∧ pl = .mk 0 0 ⟨#[]⟩ []
def NumPost (s : ByteArray) (p : Nat) (b : Nat) (w : World) (e : Ending) (w' : World) : Prop :=
  ∃ pl p' bad' err', e = .returned (pl.arg none 0) ∧ RdTo w w' b s p p' bad' err' ∧ rng err' = true ∧ NumTo s p pl p' err'
theorem pk_drop (s : ByteArray) (p k : Nat) : (s.data.toList.drop p)[k]? = s.data.toList[p + k]? := by rw [List.getElem?_drop]
/-- The number that is read so far, or that it is too great. -/
def RdAcc (l : List UInt8) (k : Nat) (n : Int) (o : Bool) : Prop :=
  (l.take k).all digB = true ∧ ((o = false ∧ n = (digVal (l.take k) : Nat) ∧ digVal (l.take k) ≤ 9223372036854775808) ∨ (o = true ∧ 9223372036854775808 < digVal (l.take k) ∧ 0 ≤ n ∧ n < 18446744073709551616))
theorem RdAcc.step {l : List UInt8} {k : Nat} {n : Int} {o : Bool} (h : RdAcc l k n o) {c : UInt8} (hc : l[k]? = some c) (hd : digB c = true) :
    RdAcc l (k + 1) ((n * 10 + ((c.toNat : Int) - 48)) % 18446744073709551616) (if (9223372036854775808 - ((c.toNat : Int) - 48)) / 10 < n then true else o) := by
  obtain ⟨ha, h⟩ := h
  have hk : l.take (k + 1) = l.take k ++ [c] := by rw [List.take_add_one, hc]; rfl
  have hv := digVal_snoc (l.take k) c
  have hc2 : 48 ≤ c.toNat ∧ c.toNat ≤ 57 := by simpa [digB] using hd
  refine ⟨by rw [hk, List.all_append, ha]; simp [hd], ?_⟩
  rw [hk, hv]
  rcases h with ⟨rfl, rfl, h3⟩ | ⟨rfl, h2, h3, h4⟩
  · by_cases hg : (9223372036854775808 - ((c.toNat : Int) - 48)) / 10 < ((digVal (l.take k) : Nat) : Int)
    · rw [if_pos hg]; exact .inr ⟨rfl, by omega, by omega, by omega⟩
    · rw [if_neg hg]; exact .inl ⟨rfl, by omega, by omega⟩
  · rw [ite_self]; exact .inr ⟨rfl, by omega, by omega, by omega⟩
theorem RdAcc.bound {l : List UInt8} {k : Nat} {n : Int} {o : Bool} (h : RdAcc l k n o) : 0 ≤ n ∧ n < 18446744073709551616 := by
  rcases h.2 with ⟨_, h2, h3⟩ | ⟨_, _, h3, h4⟩ <;> omega
theorem pk_dig {s : ByteArray} {p : Nat} (h1 : 48 ≤ pk s p) (h2 : pk s p ≤ 57) : ∃ c, s.data.toList[p]? = some c ∧ pk s p = c.toNat ∧ digB c = true := by
  unfold pk at h1 h2 ⊢
  cases hc : s.data.toList[p]? with
  | none => rw [hc] at h2; simp at h2
  | some c =>
    rw [hc] at h1 h2
    simp only at h1 h2
    exact ⟨c, rfl, rfl, by simp only [digB, Bool.and_eq_true, decide_eq_true_eq]; omega⟩
theorem pk_no {s : ByteArray} {p : Nat} (h : ¬ (48 ≤ pk s p ∧ pk s p ≤ 57)) {c : UInt8} (hc : s.data.toList[p]? = some c) : digB c = false := by
  unfold pk at h
  rw [hc] at h
  simp only at h
  cases hd : digB c
  · rfl
  · simp only [digB, Bool.and_eq_true, decide_eq_true_eq] at hd
    omega
theorem pk_45 {s : ByteArray} {p : Nat} : pk s p = 45 ↔ s.data.toList[p]? = some 45 := by
  unfold pk
  cases hc : s.data.toList[p]? with
  | none => simp
  | some c =>
    simp only [Option.some.injEq]
    constructor
    · intro h; exact UInt8.toNat_inj.1 (by have : (45 : UInt8).toNat = 45 := rfl; omega)
    · rintro rfl; rfl
theorem pk_48 {s : ByteArray} {p : Nat} : pk s p = 48 ↔ s.data.toList[p]? = some 48 := by
  unfold pk
  cases hc : s.data.toList[p]? with
  | none => simp
  | some c =>
    simp only [Option.some.injEq]
    constructor
    · intro h; exact UInt8.toNat_inj.1 (by have : (48 : UInt8).toNat = 48 := rfl; omega)
    · rintro rfl; rfl
/-- Where a number's digits begin. -/
def numAt (s : ByteArray) (p : Nat) : Nat := if pk s p = 45 then p + 1 else p
theorem rdN_at (s : ByteArray) (p : Nat) : rdN (s.data.toList.drop p) =
    (let ds := (s.data.toList.drop (numAt s p)).takeWhile digB
     if ds = [] ∨ (ds.head? = some 48 ∧ (pk s p = 45 ∨ 1 < ds.length)) then none
     else if (if pk s p = 45 then 9223372036854775808 else 9223372036854775807) < digVal ds then none
     else some (if pk s p = 45 then -(digVal ds : Int) else (digVal ds : Int), (if pk s p = 45 then 1 else 0) + ds.length)) := by
  unfold rdN numAt
  have h1 : (s.data.toList.drop p).head? = some 45 ↔ pk s p = 45 := by rw [pk_45, List.head?_drop]
  by_cases h : pk s p = 45
  · simp only [h1.2 h, h, decide_true, if_true, List.tail_drop]
  · have h2 : ¬ (s.data.toList.drop p).head? = some 45 := fun e => h (h1.1 e)
    simp only [h2, h, decide_false, Bool.false_eq_true, if_false, false_or]
theorem num_bad1 {s : ByteArray} {p : Nat} (h : ¬ (48 ≤ pk s (numAt s p) ∧ pk s (numAt s p) ≤ 57)) : rdN (s.data.toList.drop p) = none := by
  rw [rdN_at]
  have : (s.data.toList.drop (numAt s p)).takeWhile digB = [] := digs_stop (k := 0) rfl (fun c hc => pk_no h (by rw [List.getElem?_drop] at hc; exact hc))
  simp only [this, true_or, if_true]
theorem num_head {s : ByteArray} {p k : Nat} (hk : 0 < k) : ((s.data.toList.drop p).take k).head? = s.data.toList[p]? := by
  rw [List.head?_take, if_neg (by omega), List.head?_drop]
theorem num_first {s : ByteArray} {o : Nat} (h1 : 48 ≤ pk s o) (h2 : pk s o ≤ 57) : ((s.data.toList.drop o).takeWhile digB).head? = s.data.toList[o]? := by
  obtain ⟨c, hc, _, hd⟩ := pk_dig h1 h2
  have hl : s.data.toList.drop o = c :: s.data.toList.drop (o + 1) := by
    have hlt : o < s.data.toList.length := by
      rcases Nat.lt_or_ge o s.data.toList.length with h | h
      · exact h
      · rw [List.getElem?_eq_none h] at hc; cases hc
    rw [List.drop_eq_getElem_cons hlt]
    rw [List.getElem?_eq_getElem hlt] at hc
    injection hc with hc
    rw [hc]
  rw [hl, hc]
  simp [List.takeWhile, hd]
theorem num_bad2 {s : ByteArray} {p : Nat} (h : pk s (numAt s p) = 48) (hn : pk s p = 45) : rdN (s.data.toList.drop p) = none := by
  rw [rdN_at]
  have := num_first (s := s) (o := numAt s p) (by omega) (by omega)
  rw [pk_48.1 h] at this
  simp only [this, hn, true_or, and_self, or_true, if_true]
theorem num_bad3 {s : ByteArray} {p k : Nat} (h : pk s (numAt s p) = 48) (hk : 0 < k) (ha : ((s.data.toList.drop (numAt s p)).take k).all digB = true) (h1 : 48 ≤ pk s (numAt s p + k)) (h2 : pk s (numAt s p + k) ≤ 57) : rdN (s.data.toList.drop p) = none := by
  rw [rdN_at]
  have hh := num_first (s := s) (o := numAt s p) (by omega) (by omega)
  rw [pk_48.1 h] at hh
  obtain ⟨c, hc, _, hd⟩ := pk_dig h1 h2
  have hlen : 1 < ((s.data.toList.drop (numAt s p)).takeWhile digB).length := by
    have e : s.data.toList.drop (numAt s p) = (s.data.toList.drop (numAt s p)).take (k + 1) ++ (s.data.toList.drop (numAt s p)).drop (k + 1) := (List.take_append_drop _ _).symm
    have hk1 : ((s.data.toList.drop (numAt s p)).take (k + 1)).all digB = true := by
      rw [List.take_add_one, List.all_append, ha, List.getElem?_drop, hc]; simp [hd]
    have hlt : numAt s p + k < s.data.toList.length := by
      rcases Nat.lt_or_ge (numAt s p + k) s.data.toList.length with h | h
      · exact h
      · rw [List.getElem?_eq_none h] at hc; cases hc
    have hl1 : ((s.data.toList.drop (numAt s p)).take (k + 1)).length = k + 1 := by rw [List.length_take, List.length_drop]; omega
    rw [e, List.takeWhile_append_of_pos (fun x hx => List.all_eq_true.1 hk1 x hx), List.length_append, hl1]
    omega
  simp only [hh, hlen, or_true, and_self, if_true]
theorem num_good {s : ByteArray} {p k : Nat} {n : Int} {o : Bool} (ha : RdAcc (s.data.toList.drop (numAt s p)) k n o) (hk : 0 < k) (hkl : numAt s p + k ≤ s.size) (hs : ¬ (48 ≤ pk s (numAt s p + k) ∧ pk s (numAt s p + k) ≤ 57)) (hz : pk s (numAt s p) = 48 → k = 1 ∧ pk s p ≠ 45) :
    rdN (s.data.toList.drop p) = if o = true ∨ (n = 9223372036854775808 ∧ pk s p ≠ 45) then none else some (if pk s p = 45 then -n else n, (if pk s p = 45 then 1 else 0) + k) := by
  rw [rdN_at]
  have hst : (s.data.toList.drop (numAt s p)).takeWhile digB = (s.data.toList.drop (numAt s p)).take k := digs_stop ha.1 (fun c hc => pk_no hs (by rw [List.getElem?_drop] at hc; exact hc))
  have hl1 : ((s.data.toList.drop (numAt s p)).take k).length = k := by rw [List.length_take, List.length_drop, ← Lib.size_eq]; omega
  have hne : ¬ (s.data.toList.drop (numAt s p)).take k = [] := fun e => by rw [e] at hl1; simp at hl1; omega
  have hhd := num_head (s := s) (p := numAt s p) hk
  simp only [hst, hl1]
  rw [if_neg]
  · rcases ha.2 with ⟨rfl, rfl, h3⟩ | ⟨rfl, h2, h3, h4⟩
    · by_cases hq : pk s p = 45
      · simp only [hq, if_true, ne_eq, not_true, and_false, or_false, Bool.false_eq_true, if_false]
        rw [if_neg (by omega)]
      · simp only [hq, if_false, ne_eq, not_false_eq_true, and_true, Bool.false_eq_true, false_or]
        by_cases hv : 9223372036854775807 < digVal ((s.data.toList.drop (numAt s p)).take k)
        · rw [if_pos hv, if_pos (by omega)]
        · rw [if_neg hv, if_neg (by omega)]
    · simp only [true_or, if_true]
      rw [if_pos]
      split <;> omega
  · rintro (e | ⟨e, e2⟩)
    · exact hne e
    · rw [hhd] at e
      have := hz (pk_48.2 e)
      rcases e2 with e2 | e2
      · exact this.2 e2
      · omega
/-- WALK -/
theorem acc_le {l : List UInt8} {k : Nat} {n : Int} (h : RdAcc l k n false) : n ≤ 9223372036854775808 := by
  rcases h.2 with ⟨_, h2, h3⟩ | ⟨h1, _⟩
  · omega
  · cases h1
theorem u64w (x : Int) : IntKind.u64.wrap x = x % 18446744073709551616 := by
  unfold IntKind.wrap
  rw [if_neg (fun h => absurd ((Bool.and_eq_true _ _).mp h).1 (by decide))]
  exact congrArg (fun q : Int => x % q) (by decide)
def rdAt (w : World) (b : Nat) : Nat := match w.cell? ⟨b, 1, none⟩ with
  | some (.int _ q) => q.toNat
  | _ => 0
theorem rdAt_of {w : World} {b : Nat} {s : ByteArray} {q : Nat} {bad err : Int} (h : Rdr w b s q bad err) : rdAt w b = q := by
  unfold rdAt
  rw [h.cells.1 1]
  simp
theorem num_start (s : ByteArray) (p : Nat) : (decide (pk s (numAt s p) < 48) = true ∧ rdN (s.data.toList.drop p) = none) ∨ (decide (pk s (numAt s p) < 48) = false ∧ decide (57 < pk s (numAt s p)) = true ∧ rdN (s.data.toList.drop p) = none) ∨
    (decide (pk s (numAt s p) < 48) = false ∧ decide (57 < pk s (numAt s p)) = false ∧ (pk s (numAt s p) == 48) = true ∧ decide ((p : Int) < (numAt s p : Nat)) = true ∧ rdN (s.data.toList.drop p) = none) ∨
    (decide (pk s (numAt s p) < 48) = false ∧ decide (57 < pk s (numAt s p)) = false ∧ (((pk s (numAt s p) == 48) = true ∧ numAt s p = p) ∨ (pk s (numAt s p) == 48) = false)) := by
  by_cases h1 : pk s (numAt s p) < 48
  · exact .inl ⟨by simpa using h1, num_bad1 (by omega)⟩
  by_cases h2 : 57 < pk s (numAt s p)
  · exact .inr (.inl ⟨by simpa using h1, by simpa using h2, num_bad1 (by omega)⟩)
  by_cases h3 : pk s (numAt s p) = 48
  · by_cases h5 : pk s p = 45
    · have ho : numAt s p = p + 1 := by unfold numAt; rw [if_pos h5]
      exact .inr (.inr (.inl ⟨by simpa using h1, by simpa using h2, by simpa using h3, by simp; omega, num_bad2 h3 h5⟩))
    · have ho : numAt s p = p := by unfold numAt; rw [if_neg h5]
      exact .inr (.inr (.inr ⟨by simpa using h1, by simpa using h2, .inl ⟨by simpa using h3, ho⟩⟩))
  · exact .inr (.inr (.inr ⟨by simpa using h1, by simpa using h2, .inr (by simpa using h3)⟩))
def rdZero : Obj := .cells #[.int .i64 0, .int .i64 0, .string ⟨#[]⟩, .slice none 0 0] 34
theorem grown_alloc9 {w w1 : World} {b : Nat} (h : w.grownBy w1 (some b)) (o : Obj) : w.grownBy (w1.alloc o) (some b) :=
  ⟨h.os, h.tape, h.output, by rw [size_alloc]; have := h.size; omega, fun k hk hne => (Below.heap_alloc _ _ _ (by have := h.size; omega)).trans (h.block k hk hne)⟩
theorem grown_set9 {w w1 : World} {b : Nat} (h : w.grownBy w1 (some b)) (p : Addr) (hp : w.heap.size ≤ p.block) (u : Value) : w.grownBy (w1.setCell p u) (some b) :=
  ⟨h.os, h.tape, h.output, by rw [size_set]; exact h.size, fun k hk hne => (Below.heap_setCell _ _ _ _ (fun e => by omega)).trans (h.block k hk hne)⟩
theorem blk_cells9 {w : World} {b : Nat} {cs : Array Value} {T : TypeId} (h : w.heap[b]? = some (.cells cs T (0, 0))) : (∀ j, w.cell? ⟨b, j, none⟩ = cs[j]?) ∧ (∀ j, w.frozen? ⟨b, j, none⟩ = false) :=
  ⟨fun j => by simp [World.cell?, h], fun j => by simp [World.frozen?, h]⟩
set_option maxRecDepth 100000 in
set_option maxHeartbeats 8000000 in
theorem rd_number (s : ByteArray) (hs : s.size ≤ 140737488351232) (p : Nat) (bad : Int) (hb : rng bad = true) (b : Nat) (w : World) (h : Rdr w b s p bad 0) (hp : p < s.size) :
    Calls Tryz.prog 113 #[.pointer (some ⟨b, 0, none⟩)] w (NumPost s p b w) := by
  obtain ⟨c0, f0, hbl⟩ := h.cells
  have HB := Lib.hid hb
  have HR0 := Lib.hid (h.far (.cells #[.int .i64 0, .int .i64 0, .string ⟨#[]⟩, .slice none 0 0] 34))
  have HG0 := Lib.hid (grown_alloc9 (grown_refl w b) (.cells #[.int .i64 0, .int .i64 0, .string ⟨#[]⟩, .slice none 0 0] 34))
  have HX0 := Lib.hid (heap_alloc_new w (.cells #[.int .i64 0, .int .i64 0, .string ⟨#[]⟩, .slice none 0 0] 34))
  clear h hb
  go_enter Tryz.func113, Tryz.ntmps113
  go_wp2_with fail
  refine (rd_peek s hs p bad 0 b _ HR0.out (by omega)).mono ?_
  rintro e w1 ⟨rfl, hb1⟩
  have HR1 := Lib.hid (HR0.out.below hb1)
  have HG1 := Lib.hid (grown_bel HG0.out hb1)
  have HX1 := Lib.hid ((hb1.block w.heap.size (by rw [size_alloc]; omega)).trans HX0.out)
  obtain ⟨c1, f1, l1⟩ := HR1.out.cells
  clear hb1 c0 f0
  by_cases hn : pk s p = 45
  · have hnb : (pk s p == 45) = true := by simp [hn]
    have ho := Lib.hid (show numAt s p = p + 1 by unfold numAt; rw [if_pos hn])
    have HN := Lib.hid (show pk s p = 45 ↔ numAt s p = p + 1 from ⟨fun _ => ho.out, fun _ => hn⟩)
    have HP := Lib.hid (show p ≤ numAt s p ∧ numAt s p ≤ s.size by rw [ho.out]; omega)
    have HRq := Lib.hid (show Rdr (w1.setCell ⟨b, 1, none⟩ (.int .i64 ((p : Int) + 1))) b s (numAt s p : Nat) bad 0 by rw [ho.out]; exact HR1.out.step _)
    clear hn
    go_wp2_with fail
    refine (rd_peek s hs (numAt s p) bad 0 b _ HRq.out (HP.out.2)).mono ?_
    rintro e w2 ⟨rfl, hb2⟩
    have HR2 := Lib.hid (HRq.out.below hb2)
    have HG2 := Lib.hid (grown_bel (grown_put HG1.out 1 _) hb2)
    have HX2 := Lib.hid ((hb2.block w.heap.size (by rw [size_set]; exact lt_of_block HX1.out)).trans (blk_far HX1.out (by show w.heap.size ≠ b; omega) _))
    clear hb2
    obtain ⟨c2, f2, l2⟩ := HR2.out.cells
    clear c1 f1 l1 hnb HR1 HG1 HX1 HRq HR0 HG0 HX0
    have hcases := num_start s p
    rcases hcases with ⟨h1, hr⟩ | ⟨h1, h2, hr⟩ | ⟨h1, h2, h3, h4, hr⟩ | ⟨h1, h2, h3⟩
    · have HRD := Lib.hid hr
      clear hr
      go_wp2_with fail
      refine (rd_fail s _ bad 5 _ b w2 HR2.out).mono ?_
      rintro e w9 ⟨rfl, hr9, hg9⟩
      have HX9 := Lib.hid ((hg9.block w.heap.size (lt_of_block HX2.out) (fun e => by injection e with e; omega)).trans HX2.out)
      have HR9 := Lib.hid hr9
      have HG9 := Lib.hid (grown_trans_ HG2.out hg9)
      have f9 := blk_cells9 HX9.out
      clear hr9 hg9
      go_wp2
      refine bodyPost_ret (fn := Tryz.f113) (v := (Pl.mk 0 0 ⟨#[]⟩ []).arg none 0) (results_cell (p := 2) (ty := 34) (a := ⟨w.heap.size, 0, none⟩) Tryz.results113 rfl (run_loadVar_row (P := Tryz.prog) _ _ _ 34 _ _ _ (blk_set (blk_set (blk_set (blk_set HX9.out 0 (.int .i64 0)) 1 (.int .i64 0)) 2 (.string ⟨#[]⟩)) 3 (.slice none 0 0)) Tryz.underlying34 rfl (by kernel_rfl))) rfl ?_
      refine ⟨.mk 0 0 ⟨#[]⟩ [], numAt s p, _, 5, rfl, ⟨blk_far (blk_far (blk_far (blk_far HR9.out (by show b ≠ w.heap.size; omega) _) (by show b ≠ w.heap.size; omega) _) (by show b ≠ w.heap.size; omega) _) (by show b ≠ w.heap.size; omega) _, grown_set9 (grown_set9 (grown_set9 (grown_set9 HG9.out _ (Nat.le_refl _) _) _ (Nat.le_refl _) _) _ (Nat.le_refl _) _) _ (Nat.le_refl _) _, ?_, ?_, rng_iff.2 ?_⟩, by decide, ?_⟩
      · have := HP.out; omega
      · have := HP.out; omega
      · have := HP.out; omega
      · unfold NumTo; rw [HRD.out]; exact ⟨by decide, rfl⟩
    · have HRD := Lib.hid hr
      clear hr
      go_wp2_with fail
      refine (rd_fail s _ bad 5 _ b w2 HR2.out).mono ?_
      rintro e w9 ⟨rfl, hr9, hg9⟩
      have HX9 := Lib.hid ((hg9.block w.heap.size (lt_of_block HX2.out) (fun e => by injection e with e; omega)).trans HX2.out)
      have HR9 := Lib.hid hr9
      have HG9 := Lib.hid (grown_trans_ HG2.out hg9)
      have f9 := blk_cells9 HX9.out
      clear hr9 hg9
      go_wp2
      refine bodyPost_ret (fn := Tryz.f113) (v := (Pl.mk 0 0 ⟨#[]⟩ []).arg none 0) (results_cell (p := 2) (ty := 34) (a := ⟨w.heap.size, 0, none⟩) Tryz.results113 rfl (run_loadVar_row (P := Tryz.prog) _ _ _ 34 _ _ _ (blk_set (blk_set (blk_set (blk_set HX9.out 0 (.int .i64 0)) 1 (.int .i64 0)) 2 (.string ⟨#[]⟩)) 3 (.slice none 0 0)) Tryz.underlying34 rfl (by kernel_rfl))) rfl ?_
      refine ⟨.mk 0 0 ⟨#[]⟩ [], numAt s p, _, 5, rfl, ⟨blk_far (blk_far (blk_far (blk_far HR9.out (by show b ≠ w.heap.size; omega) _) (by show b ≠ w.heap.size; omega) _) (by show b ≠ w.heap.size; omega) _) (by show b ≠ w.heap.size; omega) _, grown_set9 (grown_set9 (grown_set9 (grown_set9 HG9.out _ (Nat.le_refl _) _) _ (Nat.le_refl _) _) _ (Nat.le_refl _) _) _ (Nat.le_refl _) _, ?_, ?_, rng_iff.2 ?_⟩, by decide, ?_⟩
      · have := HP.out; omega
      · have := HP.out; omega
      · have := HP.out; omega
      · unfold NumTo; rw [HRD.out]; exact ⟨by decide, rfl⟩
    · have h5 : p < numAt s p := by simpa using h4
      have HRD := Lib.hid hr
      clear hr
      go_wp2_with fail
      refine (rd_fail s _ bad 5 _ b w2 HR2.out).mono ?_
      rintro e w9 ⟨rfl, hr9, hg9⟩
      have HX9 := Lib.hid ((hg9.block w.heap.size (lt_of_block HX2.out) (fun e => by injection e with e; omega)).trans HX2.out)
      have HR9 := Lib.hid hr9
      have HG9 := Lib.hid (grown_trans_ HG2.out hg9)
      have f9 := blk_cells9 HX9.out
      clear hr9 hg9
      go_wp2
      refine bodyPost_ret (fn := Tryz.f113) (v := (Pl.mk 0 0 ⟨#[]⟩ []).arg none 0) (results_cell (p := 2) (ty := 34) (a := ⟨w.heap.size, 0, none⟩) Tryz.results113 rfl (run_loadVar_row (P := Tryz.prog) _ _ _ 34 _ _ _ (blk_set (blk_set (blk_set (blk_set HX9.out 0 (.int .i64 0)) 1 (.int .i64 0)) 2 (.string ⟨#[]⟩)) 3 (.slice none 0 0)) Tryz.underlying34 rfl (by kernel_rfl))) rfl ?_
      refine ⟨.mk 0 0 ⟨#[]⟩ [], numAt s p, _, 5, rfl, ⟨blk_far (blk_far (blk_far (blk_far HR9.out (by show b ≠ w.heap.size; omega) _) (by show b ≠ w.heap.size; omega) _) (by show b ≠ w.heap.size; omega) _) (by show b ≠ w.heap.size; omega) _, grown_set9 (grown_set9 (grown_set9 (grown_set9 HG9.out _ (Nat.le_refl _) _) _ (Nat.le_refl _) _) _ (Nat.le_refl _) _) _ (Nat.le_refl _) _, ?_, ?_, rng_iff.2 ?_⟩, by decide, ?_⟩
      · have := HP.out; omega
      · have := HP.out; omega
      · have := HP.out; omega
      · unfold NumTo; rw [HRD.out]; exact ⟨by decide, rfl⟩
    · have H48 := Lib.hid (show 48 ≤ pk s (numAt s p) ∧ pk s (numAt s p) ≤ 57 by simp at h1 h2; omega)
      rcases h3 with ⟨h3, h4⟩ | h3
      · exact absurd ho.out (by omega)
      · go_wp2
        go_loopw [5, 6] (fun s5 s6 wr => ∃ (k : Nat) (n : Int) (o : Bool), numAt s p + k ≤ s.size ∧ s5 = .int .u64 n ∧ s6 = .bool o ∧ RdAcc (s.data.toList.drop (numAt s p)) k n o ∧ (pk s (numAt s p) = 48 → k ≤ 1) ∧ Rdr wr b s ((numAt s p + k : Nat) : Int) bad 0 ∧ wr.heap[w.heap.size]? = some (.cells #[.int .i64 0, .int .i64 0, .string ⟨#[]⟩, .slice none 0 0] 34) ∧ w.grownBy wr (some b)) (fun _ _ wr => s.size - rdAt wr b)
        case atStart => exact ⟨0, 0, false, HP.out.2, rfl, rfl, ⟨rfl, .inl ⟨rfl, rfl, by simp [digVal]⟩⟩, fun _ => by omega, HR2.out, HX2.out, HG2.out⟩
        case round =>
          clear c2 f2 l2 HR2 HX2 HG2
          obtain ⟨k, n, o, hk, rfl, rfl, hacc, h1k, hr3, hx3, hg3⟩ := hrel
          have HR3 := Lib.hid hr3
          have HX3 := Lib.hid hx3
          have HG3 := Lib.hid hg3
          have HA := Lib.hid hacc
          have HK := Lib.hid h1k
          obtain ⟨c3, f3, l3⟩ := HR3.out.cells
          clear hr3 hx3 hg3 hacc h1k
          by_cases hd : 48 ≤ pk s (numAt s p + k) ∧ pk s (numAt s p + k) ≤ 57
          · obtain ⟨d1, d2⟩ := hd
            go_wp2_with fail
            refine (rd_peek s hs (numAt s p + k) bad 0 b wr HR3.out hk).mono ?_
            rintro e w4 ⟨rfl, hb4⟩
            have HR4 := Lib.hid (HR3.out.below hb4)
            have HG4 := Lib.hid (grown_bel HG3.out hb4)
            have HX4 := Lib.hid ((hb4.block w.heap.size (lt_of_block HX3.out)).trans HX3.out)
            obtain ⟨c4, f4, l4⟩ := HR4.out.cells
            clear hb4
            go_wp2_with fail
            refine (rd_peek s hs (numAt s p + k) bad 0 b w4 HR4.out hk).mono ?_
            rintro e w5 ⟨rfl, hb5⟩
            have HR5 := Lib.hid (HR4.out.below hb5)
            have HG5 := Lib.hid (grown_bel HG4.out hb5)
            have HX5 := Lib.hid ((hb5.block w.heap.size (lt_of_block HX4.out)).trans HX4.out)
            obtain ⟨c5, f5, l5⟩ := HR5.out.cells
            clear hb5
            go_wp2_with fail
            refine (rd_peek s hs (numAt s p + k) bad 0 b w5 HR5.out hk).mono ?_
            rintro e w6 ⟨rfl, hb6⟩
            have HR6 := Lib.hid (HR5.out.below hb6)
            have HG6 := Lib.hid (grown_bel HG5.out hb6)
            have HX6 := Lib.hid ((hb6.block w.heap.size (lt_of_block HX5.out)).trans HX5.out)
            obtain ⟨c6, f6, l6⟩ := HR6.out.cells
            clear hb6
            have HD := Lib.hid (pk_dig d1 d2)
            have B := HA.out.bound
            obtain ⟨B1, B2⟩ := B
            by_cases hov : (9223372036854775808 - (pk s (numAt s p + k) - 48)) / 10 < n
            · go_wp2
              obtain ⟨c, hc, hpc, hdc⟩ := HD.out
              have hst := HA.out.step (by rw [List.getElem?_drop]; exact hc) hdc
              have hkl : numAt s p + k < s.size := pk_lt (by omega)
              have hrd : Rdr (w6.setCell ⟨b, 1, none⟩ (.int .i64 ((numAt s p : Nat) + (k : Nat) + 1))) b s ((numAt s p + (k + 1) : Nat) : Int) bad 0 := by rw [show (((numAt s p + (k + 1) : Nat)) : Int) = (numAt s p : Nat) + (k : Nat) + 1 by omega]; exact HR6.out.step _
              rw [← hpc, if_pos hov] at hst
              refine ⟨⟨k + 1, _, _, by omega, rfl, rfl, ?_, ?_, hrd, blk_far HX6.out (by show w.heap.size ≠ b; omega) _, grown_put HG6.out 1 _⟩, ?_⟩
              · rw [u64w, u64w, Int.emod_add_emod]; exact hst
              · intro e; rw [e] at h3; simp at h3
              · rw [rdAt_of hrd, rdAt_of HR3.out]; omega
            · go_wp2
              obtain ⟨c, hc, hpc, hdc⟩ := HD.out
              have hst := HA.out.step (by rw [List.getElem?_drop]; exact hc) hdc
              have hkl : numAt s p + k < s.size := pk_lt (by omega)
              have hrd : Rdr (w6.setCell ⟨b, 1, none⟩ (.int .i64 ((numAt s p : Nat) + (k : Nat) + 1))) b s ((numAt s p + (k + 1) : Nat) : Int) bad 0 := by rw [show (((numAt s p + (k + 1) : Nat)) : Int) = (numAt s p : Nat) + (k : Nat) + 1 by omega]; exact HR6.out.step _
              rw [← hpc, if_neg (Int.not_lt.2 hov)] at hst
              refine ⟨⟨k + 1, _, _, by omega, rfl, rfl, ?_, ?_, hrd, blk_far HX6.out (by show w.heap.size ≠ b; omega) _, grown_put HG6.out 1 _⟩, ?_⟩
              · rwa [Int.emod_eq_of_lt (by omega) (by omega)] at hst
              · intro e; rw [e] at h3; simp at h3
              · rw [rdAt_of hrd, rdAt_of HR3.out]; omega
          · have hk0 : 0 < k := by
              rcases Nat.eq_zero_or_pos k with rfl | h
              · exact absurd H48.out hd
              · exact h
            have HGD := Lib.hid (num_good HA.out hk0 hk hd (fun e => by rw [e] at h3; simp at h3))
            obtain ⟨B1, B2⟩ := HA.out.bound
            have HA2 := Lib.hid HA.out.2
            clear hk0
            have HPK := Lib.hid (pk_at hp)
            have hcs : (pk s (numAt s p + k) < 48) ∨ (48 ≤ pk s (numAt s p + k) ∧ 57 < pk s (numAt s p + k)) := by omega
            clear hd
            rcases hcs with d1 | ⟨d1, d2⟩
            · go_wp2_with fail
              refine (rd_peek s hs (numAt s p + k) bad 0 b wr HR3.out hk).mono ?_
              rintro e w4 ⟨rfl, hb4⟩
              have HR4 := Lib.hid (HR3.out.below hb4)
              have HG4 := Lib.hid (grown_bel HG3.out hb4)
              have HX4 := Lib.hid ((hb4.block w.heap.size (lt_of_block HX3.out)).trans HX3.out)
              obtain ⟨c4, f4, l4⟩ := HR4.out.cells
              clear hb4
              cases o
              · have hm := HN.out.2 ho.out
                have hmm := Lib.hid hm
                have m1 : ((((s[p]'hp).toNat : Nat) : Int) == 45) = true := by rw [← HPK.out]; simpa using hm
                have m2 : ((((s[p]'hp).toNat : Nat) : Int) != 45) = false := by unfold bne; rw [m1]; rfl
                clear hm
                by_cases hv : n = 9223372036854775808
                · have HV := Lib.hid hv
                  have f9 := blk_cells9 HX4.out
                  go_wp2
                  refine bodyPost_ret (fn := Tryz.f113) (v := (Pl.mk 3 (wrap64 (-wrap64 9223372036854775808)) ⟨#[]⟩ []).arg none 0) (results_cell (p := 2) (ty := 34) (a := ⟨w.heap.size, 0, none⟩) Tryz.results113 rfl (run_loadVar_row (P := Tryz.prog) _ _ _ 34 _ _ _ (blk_set (blk_set (blk_set (blk_set HX4.out 0 (.int .i64 3)) 1 (.int .i64 (wrap64 (-wrap64 9223372036854775808)))) 2 (.string ⟨#[]⟩)) 3 (.slice none 0 0)) Tryz.underlying34 rfl (by kernel_rfl))) rfl ?_
                  have hn9 := acc_le HA.out
                  have hn8 := HV.out
                  have hval : wrap64 (-wrap64 9223372036854775808) = -n := by unfold wrap64; omega
                  refine ⟨.mk 3 (wrap64 (-wrap64 9223372036854775808)) ⟨#[]⟩ [], numAt s p + k, bad, 0, rfl, ⟨blk_far (blk_far (blk_far (blk_far HR4.out (by show b ≠ w.heap.size; omega) _) (by show b ≠ w.heap.size; omega) _) (by show b ≠ w.heap.size; omega) _) (by show b ≠ w.heap.size; omega) _, grown_set9 (grown_set9 (grown_set9 (grown_set9 HG4.out _ (Nat.le_refl _) _) _ (Nat.le_refl _) _) _ (Nat.le_refl _) _) _ (Nat.le_refl _) _, ?_, hk, HB.out⟩, by decide, ?_⟩
                  · have := HP.out; omega
                  · unfold NumTo
                    rw [HGD.out, if_neg (by rintro (e | ⟨e, e2⟩) <;> first | exact absurd e (by decide) | exact e2 hmm.out), if_pos hmm.out, if_pos hmm.out]
                    have h9 := ho.out
                    exact ⟨rfl, by omega, by rw [hval], rng_iff.2 (by omega)⟩
                · have HV := Lib.hid hv
                  have f9 := blk_cells9 HX4.out
                  go_wp2
                  refine bodyPost_ret (fn := Tryz.f113) (v := (Pl.mk 3 (wrap64 (-wrap64 n)) ⟨#[]⟩ []).arg none 0) (results_cell (p := 2) (ty := 34) (a := ⟨w.heap.size, 0, none⟩) Tryz.results113 rfl (run_loadVar_row (P := Tryz.prog) _ _ _ 34 _ _ _ (blk_set (blk_set (blk_set (blk_set HX4.out 0 (.int .i64 3)) 1 (.int .i64 (wrap64 (-wrap64 n)))) 2 (.string ⟨#[]⟩)) 3 (.slice none 0 0)) Tryz.underlying34 rfl (by kernel_rfl))) rfl ?_
                  have hn9 := acc_le HA.out
                  have hn8 := HV.out
                  have hval : wrap64 (-wrap64 n) = -n := by unfold wrap64; omega
                  refine ⟨.mk 3 (wrap64 (-wrap64 n)) ⟨#[]⟩ [], numAt s p + k, bad, 0, rfl, ⟨blk_far (blk_far (blk_far (blk_far HR4.out (by show b ≠ w.heap.size; omega) _) (by show b ≠ w.heap.size; omega) _) (by show b ≠ w.heap.size; omega) _) (by show b ≠ w.heap.size; omega) _, grown_set9 (grown_set9 (grown_set9 (grown_set9 HG4.out _ (Nat.le_refl _) _) _ (Nat.le_refl _) _) _ (Nat.le_refl _) _) _ (Nat.le_refl _) _, ?_, hk, HB.out⟩, by decide, ?_⟩
                  · have := HP.out; omega
                  · unfold NumTo
                    rw [HGD.out, if_neg (by rintro (e | ⟨e, e2⟩) <;> first | exact absurd e (by decide) | exact e2 hmm.out), if_pos hmm.out, if_pos hmm.out]
                    have h9 := ho.out
                    exact ⟨rfl, by omega, by rw [hval], rng_iff.2 (by omega)⟩
              · have HRD := Lib.hid (HGD.out.trans (if_pos (.inl rfl)))
                go_wp2_with fail
                refine (rd_fail s _ bad 21 _ b w4 HR4.out).mono ?_
                rintro e w9 ⟨rfl, hr9, hg9⟩
                have HX9 := Lib.hid ((hg9.block w.heap.size (lt_of_block HX4.out) (fun e => by injection e with e; omega)).trans HX4.out)
                have HR9 := Lib.hid hr9
                have HG9 := Lib.hid (grown_trans_ HG4.out hg9)
                have f9 := blk_cells9 HX9.out
                clear hr9 hg9
                go_wp2
                refine bodyPost_ret (fn := Tryz.f113) (v := (Pl.mk 0 0 ⟨#[]⟩ []).arg none 0) (results_cell (p := 2) (ty := 34) (a := ⟨w.heap.size, 0, none⟩) Tryz.results113 rfl (run_loadVar_row (P := Tryz.prog) _ _ _ 34 _ _ _ (blk_set (blk_set (blk_set (blk_set HX9.out 0 (.int .i64 0)) 1 (.int .i64 0)) 2 (.string ⟨#[]⟩)) 3 (.slice none 0 0)) Tryz.underlying34 rfl (by kernel_rfl))) rfl ?_
                refine ⟨.mk 0 0 ⟨#[]⟩ [], numAt s p + k, _, 21, rfl, ⟨blk_far (blk_far (blk_far (blk_far HR9.out (by show b ≠ w.heap.size; omega) _) (by show b ≠ w.heap.size; omega) _) (by show b ≠ w.heap.size; omega) _) (by show b ≠ w.heap.size; omega) _, grown_set9 (grown_set9 (grown_set9 (grown_set9 HG9.out _ (Nat.le_refl _) _) _ (Nat.le_refl _) _) _ (Nat.le_refl _) _) _ (Nat.le_refl _) _, ?_, ?_, rng_iff.2 ?_⟩, by decide, ?_⟩
                · have := HP.out; omega
                · have := HP.out; omega
                · have := HP.out; omega
                · unfold NumTo; rw [HRD.out]; exact ⟨by decide, rfl⟩
            · go_wp2_with fail
              refine (rd_peek s hs (numAt s p + k) bad 0 b wr HR3.out hk).mono ?_
              rintro e w4 ⟨rfl, hb4⟩
              have HR4 := Lib.hid (HR3.out.below hb4)
              have HG4 := Lib.hid (grown_bel HG3.out hb4)
              have HX4 := Lib.hid ((hb4.block w.heap.size (lt_of_block HX3.out)).trans HX3.out)
              obtain ⟨c4, f4, l4⟩ := HR4.out.cells
              clear hb4
              go_wp2_with fail
              refine (rd_peek s hs (numAt s p + k) bad 0 b w4 HR4.out hk).mono ?_
              rintro e w5 ⟨rfl, hb5⟩
              have HR5 := Lib.hid (HR4.out.below hb5)
              have HG5 := Lib.hid (grown_bel HG4.out hb5)
              have HX5 := Lib.hid ((hb5.block w.heap.size (lt_of_block HX4.out)).trans HX4.out)
              obtain ⟨c5, f5, l5⟩ := HR5.out.cells
              clear hb5
              cases o
              · have hm := HN.out.2 ho.out
                have hmm := Lib.hid hm
                have m1 : ((((s[p]'hp).toNat : Nat) : Int) == 45) = true := by rw [← HPK.out]; simpa using hm
                have m2 : ((((s[p]'hp).toNat : Nat) : Int) != 45) = false := by unfold bne; rw [m1]; rfl
                clear hm
                by_cases hv : n = 9223372036854775808
                · have HV := Lib.hid hv
                  have f9 := blk_cells9 HX5.out
                  go_wp2
                  refine bodyPost_ret (fn := Tryz.f113) (v := (Pl.mk 3 (wrap64 (-wrap64 9223372036854775808)) ⟨#[]⟩ []).arg none 0) (results_cell (p := 2) (ty := 34) (a := ⟨w.heap.size, 0, none⟩) Tryz.results113 rfl (run_loadVar_row (P := Tryz.prog) _ _ _ 34 _ _ _ (blk_set (blk_set (blk_set (blk_set HX5.out 0 (.int .i64 3)) 1 (.int .i64 (wrap64 (-wrap64 9223372036854775808)))) 2 (.string ⟨#[]⟩)) 3 (.slice none 0 0)) Tryz.underlying34 rfl (by kernel_rfl))) rfl ?_
                  have hn9 := acc_le HA.out
                  have hn8 := HV.out
                  have hval : wrap64 (-wrap64 9223372036854775808) = -n := by unfold wrap64; omega
                  refine ⟨.mk 3 (wrap64 (-wrap64 9223372036854775808)) ⟨#[]⟩ [], numAt s p + k, bad, 0, rfl, ⟨blk_far (blk_far (blk_far (blk_far HR5.out (by show b ≠ w.heap.size; omega) _) (by show b ≠ w.heap.size; omega) _) (by show b ≠ w.heap.size; omega) _) (by show b ≠ w.heap.size; omega) _, grown_set9 (grown_set9 (grown_set9 (grown_set9 HG5.out _ (Nat.le_refl _) _) _ (Nat.le_refl _) _) _ (Nat.le_refl _) _) _ (Nat.le_refl _) _, ?_, hk, HB.out⟩, by decide, ?_⟩
                  · have := HP.out; omega
                  · unfold NumTo
                    rw [HGD.out, if_neg (by rintro (e | ⟨e, e2⟩) <;> first | exact absurd e (by decide) | exact e2 hmm.out), if_pos hmm.out, if_pos hmm.out]
                    have h9 := ho.out
                    exact ⟨rfl, by omega, by rw [hval], rng_iff.2 (by omega)⟩
                · have HV := Lib.hid hv
                  have f9 := blk_cells9 HX5.out
                  go_wp2
                  refine bodyPost_ret (fn := Tryz.f113) (v := (Pl.mk 3 (wrap64 (-wrap64 n)) ⟨#[]⟩ []).arg none 0) (results_cell (p := 2) (ty := 34) (a := ⟨w.heap.size, 0, none⟩) Tryz.results113 rfl (run_loadVar_row (P := Tryz.prog) _ _ _ 34 _ _ _ (blk_set (blk_set (blk_set (blk_set HX5.out 0 (.int .i64 3)) 1 (.int .i64 (wrap64 (-wrap64 n)))) 2 (.string ⟨#[]⟩)) 3 (.slice none 0 0)) Tryz.underlying34 rfl (by kernel_rfl))) rfl ?_
                  have hn9 := acc_le HA.out
                  have hn8 := HV.out
                  have hval : wrap64 (-wrap64 n) = -n := by unfold wrap64; omega
                  refine ⟨.mk 3 (wrap64 (-wrap64 n)) ⟨#[]⟩ [], numAt s p + k, bad, 0, rfl, ⟨blk_far (blk_far (blk_far (blk_far HR5.out (by show b ≠ w.heap.size; omega) _) (by show b ≠ w.heap.size; omega) _) (by show b ≠ w.heap.size; omega) _) (by show b ≠ w.heap.size; omega) _, grown_set9 (grown_set9 (grown_set9 (grown_set9 HG5.out _ (Nat.le_refl _) _) _ (Nat.le_refl _) _) _ (Nat.le_refl _) _) _ (Nat.le_refl _) _, ?_, hk, HB.out⟩, by decide, ?_⟩
                  · have := HP.out; omega
                  · unfold NumTo
                    rw [HGD.out, if_neg (by rintro (e | ⟨e, e2⟩) <;> first | exact absurd e (by decide) | exact e2 hmm.out), if_pos hmm.out, if_pos hmm.out]
                    have h9 := ho.out
                    exact ⟨rfl, by omega, by rw [hval], rng_iff.2 (by omega)⟩
              · have HRD := Lib.hid (HGD.out.trans (if_pos (.inl rfl)))
                go_wp2_with fail
                refine (rd_fail s _ bad 21 _ b w5 HR5.out).mono ?_
                rintro e w9 ⟨rfl, hr9, hg9⟩
                have HX9 := Lib.hid ((hg9.block w.heap.size (lt_of_block HX5.out) (fun e => by injection e with e; omega)).trans HX5.out)
                have HR9 := Lib.hid hr9
                have HG9 := Lib.hid (grown_trans_ HG5.out hg9)
                have f9 := blk_cells9 HX9.out
                clear hr9 hg9
                go_wp2
                refine bodyPost_ret (fn := Tryz.f113) (v := (Pl.mk 0 0 ⟨#[]⟩ []).arg none 0) (results_cell (p := 2) (ty := 34) (a := ⟨w.heap.size, 0, none⟩) Tryz.results113 rfl (run_loadVar_row (P := Tryz.prog) _ _ _ 34 _ _ _ (blk_set (blk_set (blk_set (blk_set HX9.out 0 (.int .i64 0)) 1 (.int .i64 0)) 2 (.string ⟨#[]⟩)) 3 (.slice none 0 0)) Tryz.underlying34 rfl (by kernel_rfl))) rfl ?_
                refine ⟨.mk 0 0 ⟨#[]⟩ [], numAt s p + k, _, 21, rfl, ⟨blk_far (blk_far (blk_far (blk_far HR9.out (by show b ≠ w.heap.size; omega) _) (by show b ≠ w.heap.size; omega) _) (by show b ≠ w.heap.size; omega) _) (by show b ≠ w.heap.size; omega) _, grown_set9 (grown_set9 (grown_set9 (grown_set9 HG9.out _ (Nat.le_refl _) _) _ (Nat.le_refl _) _) _ (Nat.le_refl _) _) _ (Nat.le_refl _) _, ?_, ?_, rng_iff.2 ?_⟩, by decide, ?_⟩
                · have := HP.out; omega
                · have := HP.out; omega
                · have := HP.out; omega
                · unfold NumTo; rw [HRD.out]; exact ⟨by decide, rfl⟩
  · have hnb : (pk s p == 45) = false := by simp [hn]
    have ho := Lib.hid (show numAt s p = p by unfold numAt; rw [if_neg hn])
    have HN := Lib.hid (show pk s p = 45 ↔ numAt s p = p + 1 from ⟨fun e => absurd e hn, fun e => by have := ho.out; omega⟩)
    have HP := Lib.hid (show p ≤ numAt s p ∧ numAt s p ≤ s.size by rw [ho.out]; omega)
    have HRq := Lib.hid (show Rdr w1 b s (numAt s p : Nat) bad 0 by rw [ho.out]; exact HR1.out)
    clear hn
    go_wp2_with fail
    refine (rd_peek s hs (numAt s p) bad 0 b _ HRq.out (HP.out.2)).mono ?_
    rintro e w2 ⟨rfl, hb2⟩
    have HR2 := Lib.hid (HRq.out.below hb2)
    have HG2 := Lib.hid (grown_bel HG1.out hb2)
    have HX2 := Lib.hid ((hb2.block w.heap.size (lt_of_block HX1.out)).trans HX1.out)
    clear hb2
    obtain ⟨c2, f2, l2⟩ := HR2.out.cells
    clear c1 f1 l1 hnb HR1 HG1 HX1 HRq HR0 HG0 HX0
    have hcases := num_start s p
    rcases hcases with ⟨h1, hr⟩ | ⟨h1, h2, hr⟩ | ⟨h1, h2, h3, h4, hr⟩ | ⟨h1, h2, h3⟩
    · have HRD := Lib.hid hr
      clear hr
      go_wp2_with fail
      refine (rd_fail s _ bad 5 _ b w2 HR2.out).mono ?_
      rintro e w9 ⟨rfl, hr9, hg9⟩
      have HX9 := Lib.hid ((hg9.block w.heap.size (lt_of_block HX2.out) (fun e => by injection e with e; omega)).trans HX2.out)
      have HR9 := Lib.hid hr9
      have HG9 := Lib.hid (grown_trans_ HG2.out hg9)
      have f9 := blk_cells9 HX9.out
      clear hr9 hg9
      go_wp2
      refine bodyPost_ret (fn := Tryz.f113) (v := (Pl.mk 0 0 ⟨#[]⟩ []).arg none 0) (results_cell (p := 2) (ty := 34) (a := ⟨w.heap.size, 0, none⟩) Tryz.results113 rfl (run_loadVar_row (P := Tryz.prog) _ _ _ 34 _ _ _ (blk_set (blk_set (blk_set (blk_set HX9.out 0 (.int .i64 0)) 1 (.int .i64 0)) 2 (.string ⟨#[]⟩)) 3 (.slice none 0 0)) Tryz.underlying34 rfl (by kernel_rfl))) rfl ?_
      refine ⟨.mk 0 0 ⟨#[]⟩ [], numAt s p, _, 5, rfl, ⟨blk_far (blk_far (blk_far (blk_far HR9.out (by show b ≠ w.heap.size; omega) _) (by show b ≠ w.heap.size; omega) _) (by show b ≠ w.heap.size; omega) _) (by show b ≠ w.heap.size; omega) _, grown_set9 (grown_set9 (grown_set9 (grown_set9 HG9.out _ (Nat.le_refl _) _) _ (Nat.le_refl _) _) _ (Nat.le_refl _) _) _ (Nat.le_refl _) _, ?_, ?_, rng_iff.2 ?_⟩, by decide, ?_⟩
      · have := HP.out; omega
      · have := HP.out; omega
      · have := HP.out; omega
      · unfold NumTo; rw [HRD.out]; exact ⟨by decide, rfl⟩
    · have HRD := Lib.hid hr
      clear hr
      go_wp2_with fail
      refine (rd_fail s _ bad 5 _ b w2 HR2.out).mono ?_
      rintro e w9 ⟨rfl, hr9, hg9⟩
      have HX9 := Lib.hid ((hg9.block w.heap.size (lt_of_block HX2.out) (fun e => by injection e with e; omega)).trans HX2.out)
      have HR9 := Lib.hid hr9
      have HG9 := Lib.hid (grown_trans_ HG2.out hg9)
      have f9 := blk_cells9 HX9.out
      clear hr9 hg9
      go_wp2
      refine bodyPost_ret (fn := Tryz.f113) (v := (Pl.mk 0 0 ⟨#[]⟩ []).arg none 0) (results_cell (p := 2) (ty := 34) (a := ⟨w.heap.size, 0, none⟩) Tryz.results113 rfl (run_loadVar_row (P := Tryz.prog) _ _ _ 34 _ _ _ (blk_set (blk_set (blk_set (blk_set HX9.out 0 (.int .i64 0)) 1 (.int .i64 0)) 2 (.string ⟨#[]⟩)) 3 (.slice none 0 0)) Tryz.underlying34 rfl (by kernel_rfl))) rfl ?_
      refine ⟨.mk 0 0 ⟨#[]⟩ [], numAt s p, _, 5, rfl, ⟨blk_far (blk_far (blk_far (blk_far HR9.out (by show b ≠ w.heap.size; omega) _) (by show b ≠ w.heap.size; omega) _) (by show b ≠ w.heap.size; omega) _) (by show b ≠ w.heap.size; omega) _, grown_set9 (grown_set9 (grown_set9 (grown_set9 HG9.out _ (Nat.le_refl _) _) _ (Nat.le_refl _) _) _ (Nat.le_refl _) _) _ (Nat.le_refl _) _, ?_, ?_, rng_iff.2 ?_⟩, by decide, ?_⟩
      · have := HP.out; omega
      · have := HP.out; omega
      · have := HP.out; omega
      · unfold NumTo; rw [HRD.out]; exact ⟨by decide, rfl⟩
    · have h5 : p < numAt s p := by simpa using h4
      have HRD := Lib.hid hr
      clear hr
      go_wp2_with fail
      refine (rd_fail s _ bad 5 _ b w2 HR2.out).mono ?_
      rintro e w9 ⟨rfl, hr9, hg9⟩
      have HX9 := Lib.hid ((hg9.block w.heap.size (lt_of_block HX2.out) (fun e => by injection e with e; omega)).trans HX2.out)
      have HR9 := Lib.hid hr9
      have HG9 := Lib.hid (grown_trans_ HG2.out hg9)
      have f9 := blk_cells9 HX9.out
      clear hr9 hg9
      go_wp2
      refine bodyPost_ret (fn := Tryz.f113) (v := (Pl.mk 0 0 ⟨#[]⟩ []).arg none 0) (results_cell (p := 2) (ty := 34) (a := ⟨w.heap.size, 0, none⟩) Tryz.results113 rfl (run_loadVar_row (P := Tryz.prog) _ _ _ 34 _ _ _ (blk_set (blk_set (blk_set (blk_set HX9.out 0 (.int .i64 0)) 1 (.int .i64 0)) 2 (.string ⟨#[]⟩)) 3 (.slice none 0 0)) Tryz.underlying34 rfl (by kernel_rfl))) rfl ?_
      refine ⟨.mk 0 0 ⟨#[]⟩ [], numAt s p, _, 5, rfl, ⟨blk_far (blk_far (blk_far (blk_far HR9.out (by show b ≠ w.heap.size; omega) _) (by show b ≠ w.heap.size; omega) _) (by show b ≠ w.heap.size; omega) _) (by show b ≠ w.heap.size; omega) _, grown_set9 (grown_set9 (grown_set9 (grown_set9 HG9.out _ (Nat.le_refl _) _) _ (Nat.le_refl _) _) _ (Nat.le_refl _) _) _ (Nat.le_refl _) _, ?_, ?_, rng_iff.2 ?_⟩, by decide, ?_⟩
      · have := HP.out; omega
      · have := HP.out; omega
      · have := HP.out; omega
      · unfold NumTo; rw [HRD.out]; exact ⟨by decide, rfl⟩
    · have H48 := Lib.hid (show 48 ≤ pk s (numAt s p) ∧ pk s (numAt s p) ≤ 57 by simp at h1 h2; omega)
      rcases h3 with ⟨h3, h4⟩ | h3
      · have h5 : ¬ p < numAt s p := by omega
        have H4 := Lib.hid h4
        clear h4
        go_wp2
        go_loopw [5, 6] (fun s5 s6 wr => ∃ (k : Nat) (n : Int) (o : Bool), numAt s p + k ≤ s.size ∧ s5 = .int .u64 n ∧ s6 = .bool o ∧ RdAcc (s.data.toList.drop (numAt s p)) k n o ∧ (pk s (numAt s p) = 48 → k ≤ 1) ∧ Rdr wr b s ((numAt s p + k : Nat) : Int) bad 0 ∧ wr.heap[w.heap.size]? = some (.cells #[.int .i64 0, .int .i64 0, .string ⟨#[]⟩, .slice none 0 0] 34) ∧ w.grownBy wr (some b)) (fun _ _ wr => s.size - rdAt wr b)
        case atStart => exact ⟨0, 0, false, HP.out.2, rfl, rfl, ⟨rfl, .inl ⟨rfl, rfl, by simp [digVal]⟩⟩, fun _ => by omega, HR2.out, HX2.out, HG2.out⟩
        case round =>
          clear c2 f2 l2 HR2 HX2 HG2
          obtain ⟨k, n, o, hk, rfl, rfl, hacc, h1k, hr3, hx3, hg3⟩ := hrel
          have HR3 := Lib.hid hr3
          have HX3 := Lib.hid hx3
          have HG3 := Lib.hid hg3
          have HA := Lib.hid hacc
          have HK := Lib.hid h1k
          obtain ⟨c3, f3, l3⟩ := HR3.out.cells
          clear hr3 hx3 hg3 hacc h1k
          by_cases hd : 48 ≤ pk s (numAt s p + k) ∧ pk s (numAt s p + k) ≤ 57
          · obtain ⟨d1, d2⟩ := hd
            go_wp2_with fail
            refine (rd_peek s hs (numAt s p + k) bad 0 b wr HR3.out hk).mono ?_
            rintro e w4 ⟨rfl, hb4⟩
            have HR4 := Lib.hid (HR3.out.below hb4)
            have HG4 := Lib.hid (grown_bel HG3.out hb4)
            have HX4 := Lib.hid ((hb4.block w.heap.size (lt_of_block HX3.out)).trans HX3.out)
            obtain ⟨c4, f4, l4⟩ := HR4.out.cells
            clear hb4
            go_wp2_with fail
            refine (rd_peek s hs (numAt s p + k) bad 0 b w4 HR4.out hk).mono ?_
            rintro e w5 ⟨rfl, hb5⟩
            have HR5 := Lib.hid (HR4.out.below hb5)
            have HG5 := Lib.hid (grown_bel HG4.out hb5)
            have HX5 := Lib.hid ((hb5.block w.heap.size (lt_of_block HX4.out)).trans HX4.out)
            obtain ⟨c5, f5, l5⟩ := HR5.out.cells
            clear hb5
            rcases Nat.eq_zero_or_pos k with hk0 | hk0
            · have h6 : ¬ p < numAt s p + k := by have := H4.out; omega
              have HK0 := Lib.hid hk0
              clear hk0
              go_wp2_with fail
              refine (rd_peek s hs (numAt s p + k) bad 0 b w5 HR5.out hk).mono ?_
              rintro e w6 ⟨rfl, hb6⟩
              have HR6 := Lib.hid (HR5.out.below hb6)
              have HG6 := Lib.hid (grown_bel HG5.out hb6)
              have HX6 := Lib.hid ((hb6.block w.heap.size (lt_of_block HX5.out)).trans HX5.out)
              obtain ⟨c6, f6, l6⟩ := HR6.out.cells
              clear hb6
              have HD := Lib.hid (pk_dig d1 d2)
              have B := HA.out.bound
              obtain ⟨B1, B2⟩ := B
              by_cases hov : (9223372036854775808 - (pk s (numAt s p + k) - 48)) / 10 < n
              · go_wp2
                obtain ⟨c, hc, hpc, hdc⟩ := HD.out
                have hst := HA.out.step (by rw [List.getElem?_drop]; exact hc) hdc
                have hkl : numAt s p + k < s.size := pk_lt (by omega)
                have hrd : Rdr (w6.setCell ⟨b, 1, none⟩ (.int .i64 ((numAt s p : Nat) + (k : Nat) + 1))) b s ((numAt s p + (k + 1) : Nat) : Int) bad 0 := by rw [show (((numAt s p + (k + 1) : Nat)) : Int) = (numAt s p : Nat) + (k : Nat) + 1 by omega]; exact HR6.out.step _
                rw [← hpc, if_pos hov] at hst
                refine ⟨⟨k + 1, _, _, by omega, rfl, rfl, ?_, ?_, hrd, blk_far HX6.out (by show w.heap.size ≠ b; omega) _, grown_put HG6.out 1 _⟩, ?_⟩
                · rw [u64w, u64w, Int.emod_add_emod]; exact hst
                · intro _; have := HK0.out; omega
                · rw [rdAt_of hrd, rdAt_of HR3.out]; omega
              · go_wp2
                obtain ⟨c, hc, hpc, hdc⟩ := HD.out
                have hst := HA.out.step (by rw [List.getElem?_drop]; exact hc) hdc
                have hkl : numAt s p + k < s.size := pk_lt (by omega)
                have hrd : Rdr (w6.setCell ⟨b, 1, none⟩ (.int .i64 ((numAt s p : Nat) + (k : Nat) + 1))) b s ((numAt s p + (k + 1) : Nat) : Int) bad 0 := by rw [show (((numAt s p + (k + 1) : Nat)) : Int) = (numAt s p : Nat) + (k : Nat) + 1 by omega]; exact HR6.out.step _
                rw [← hpc, if_neg (Int.not_lt.2 hov)] at hst
                refine ⟨⟨k + 1, _, _, by omega, rfl, rfl, ?_, ?_, hrd, blk_far HX6.out (by show w.heap.size ≠ b; omega) _, grown_put HG6.out 1 _⟩, ?_⟩
                · rwa [Int.emod_eq_of_lt (by omega) (by omega)] at hst
                · intro _; have := HK0.out; omega
                · rw [rdAt_of hrd, rdAt_of HR3.out]; omega
            · have h6 : p < numAt s p + k := by have := H4.out; omega
              have HRD := Lib.hid (num_bad3 (s := s) (p := p) (k := k) (by simpa using h3) hk0 HA.out.1 d1 d2)
              clear hk0
              go_wp2_with fail
              refine (rd_fail s _ bad 5 _ b w5 HR5.out).mono ?_
              rintro e w9 ⟨rfl, hr9, hg9⟩
              have HX9 := Lib.hid ((hg9.block w.heap.size (lt_of_block HX5.out) (fun e => by injection e with e; omega)).trans HX5.out)
              have HR9 := Lib.hid hr9
              have HG9 := Lib.hid (grown_trans_ HG5.out hg9)
              have f9 := blk_cells9 HX9.out
              clear hr9 hg9
              go_wp2
              refine bodyPost_ret (fn := Tryz.f113) (v := (Pl.mk 0 0 ⟨#[]⟩ []).arg none 0) (results_cell (p := 2) (ty := 34) (a := ⟨w.heap.size, 0, none⟩) Tryz.results113 rfl (run_loadVar_row (P := Tryz.prog) _ _ _ 34 _ _ _ (blk_set (blk_set (blk_set (blk_set HX9.out 0 (.int .i64 0)) 1 (.int .i64 0)) 2 (.string ⟨#[]⟩)) 3 (.slice none 0 0)) Tryz.underlying34 rfl (by kernel_rfl))) rfl ?_
              refine ⟨.mk 0 0 ⟨#[]⟩ [], numAt s p + k, _, 5, rfl, ⟨blk_far (blk_far (blk_far (blk_far HR9.out (by show b ≠ w.heap.size; omega) _) (by show b ≠ w.heap.size; omega) _) (by show b ≠ w.heap.size; omega) _) (by show b ≠ w.heap.size; omega) _, grown_set9 (grown_set9 (grown_set9 (grown_set9 HG9.out _ (Nat.le_refl _) _) _ (Nat.le_refl _) _) _ (Nat.le_refl _) _) _ (Nat.le_refl _) _, ?_, ?_, rng_iff.2 ?_⟩, by decide, ?_⟩
              · have := HP.out; omega
              · have := HP.out; omega
              · have := HP.out; omega
              · unfold NumTo; rw [HRD.out]; exact ⟨by decide, rfl⟩
          · have hk0 : 0 < k := by
              rcases Nat.eq_zero_or_pos k with rfl | h
              · exact absurd H48.out hd
              · exact h
            have HGD := Lib.hid (num_good HA.out hk0 hk hd (fun e => ⟨by have := HK.out e; omega, fun e2 => by have h7 := HN.out.1 e2; have h8 := H4.out; omega⟩))
            obtain ⟨B1, B2⟩ := HA.out.bound
            have HA2 := Lib.hid HA.out.2
            clear hk0
            have HPK := Lib.hid (pk_at hp)
            have hcs : (pk s (numAt s p + k) < 48) ∨ (48 ≤ pk s (numAt s p + k) ∧ 57 < pk s (numAt s p + k)) := by omega
            clear hd
            rcases hcs with d1 | ⟨d1, d2⟩
            · go_wp2_with fail
              refine (rd_peek s hs (numAt s p + k) bad 0 b wr HR3.out hk).mono ?_
              rintro e w4 ⟨rfl, hb4⟩
              have HR4 := Lib.hid (HR3.out.below hb4)
              have HG4 := Lib.hid (grown_bel HG3.out hb4)
              have HX4 := Lib.hid ((hb4.block w.heap.size (lt_of_block HX3.out)).trans HX3.out)
              obtain ⟨c4, f4, l4⟩ := HR4.out.cells
              clear hb4
              cases o
              · have hm : ¬ pk s p = 45 := fun e => by have := HN.out.1 e; have := ho.out; omega
                have hmm := Lib.hid hm
                have m1 : ((((s[p]'hp).toNat : Nat) : Int) == 45) = false := by rw [← HPK.out]; simpa using hm
                have m2 : ((((s[p]'hp).toNat : Nat) : Int) != 45) = true := by unfold bne; rw [m1]; rfl
                clear hm
                by_cases hv : n = 9223372036854775808
                · have HRD := Lib.hid (HGD.out.trans (if_pos (.inr ⟨hv, hmm.out⟩)))
                  go_wp2_with fail
                  refine (rd_fail s _ bad 21 _ b w4 HR4.out).mono ?_
                  rintro e w9 ⟨rfl, hr9, hg9⟩
                  have HX9 := Lib.hid ((hg9.block w.heap.size (lt_of_block HX4.out) (fun e => by injection e with e; omega)).trans HX4.out)
                  have HR9 := Lib.hid hr9
                  have HG9 := Lib.hid (grown_trans_ HG4.out hg9)
                  have f9 := blk_cells9 HX9.out
                  clear hr9 hg9
                  go_wp2
                  refine bodyPost_ret (fn := Tryz.f113) (v := (Pl.mk 0 0 ⟨#[]⟩ []).arg none 0) (results_cell (p := 2) (ty := 34) (a := ⟨w.heap.size, 0, none⟩) Tryz.results113 rfl (run_loadVar_row (P := Tryz.prog) _ _ _ 34 _ _ _ (blk_set (blk_set (blk_set (blk_set HX9.out 0 (.int .i64 0)) 1 (.int .i64 0)) 2 (.string ⟨#[]⟩)) 3 (.slice none 0 0)) Tryz.underlying34 rfl (by kernel_rfl))) rfl ?_
                  refine ⟨.mk 0 0 ⟨#[]⟩ [], numAt s p + k, _, 21, rfl, ⟨blk_far (blk_far (blk_far (blk_far HR9.out (by show b ≠ w.heap.size; omega) _) (by show b ≠ w.heap.size; omega) _) (by show b ≠ w.heap.size; omega) _) (by show b ≠ w.heap.size; omega) _, grown_set9 (grown_set9 (grown_set9 (grown_set9 HG9.out _ (Nat.le_refl _) _) _ (Nat.le_refl _) _) _ (Nat.le_refl _) _) _ (Nat.le_refl _) _, ?_, ?_, rng_iff.2 ?_⟩, by decide, ?_⟩
                  · have := HP.out; omega
                  · have := HP.out; omega
                  · have := HP.out; omega
                  · unfold NumTo; rw [HRD.out]; exact ⟨by decide, rfl⟩
                · have HV := Lib.hid hv
                  have f9 := blk_cells9 HX4.out
                  go_wp2
                  refine bodyPost_ret (fn := Tryz.f113) (v := (Pl.mk 3 (wrap64 n) ⟨#[]⟩ []).arg none 0) (results_cell (p := 2) (ty := 34) (a := ⟨w.heap.size, 0, none⟩) Tryz.results113 rfl (run_loadVar_row (P := Tryz.prog) _ _ _ 34 _ _ _ (blk_set (blk_set (blk_set (blk_set HX4.out 0 (.int .i64 3)) 1 (.int .i64 (wrap64 n))) 2 (.string ⟨#[]⟩)) 3 (.slice none 0 0)) Tryz.underlying34 rfl (by kernel_rfl))) rfl ?_
                  have hn9 := acc_le HA.out
                  have hn8 := HV.out
                  have hval : wrap64 n = n := by unfold wrap64; omega
                  refine ⟨.mk 3 (wrap64 n) ⟨#[]⟩ [], numAt s p + k, bad, 0, rfl, ⟨blk_far (blk_far (blk_far (blk_far HR4.out (by show b ≠ w.heap.size; omega) _) (by show b ≠ w.heap.size; omega) _) (by show b ≠ w.heap.size; omega) _) (by show b ≠ w.heap.size; omega) _, grown_set9 (grown_set9 (grown_set9 (grown_set9 HG4.out _ (Nat.le_refl _) _) _ (Nat.le_refl _) _) _ (Nat.le_refl _) _) _ (Nat.le_refl _) _, ?_, hk, HB.out⟩, by decide, ?_⟩
                  · have := HP.out; omega
                  · unfold NumTo
                    rw [HGD.out, if_neg (by rintro (e | ⟨e, e2⟩) <;> first | exact absurd e (by decide) | exact hn8 e), if_neg hmm.out, if_neg hmm.out]
                    have h9 := ho.out
                    exact ⟨rfl, by omega, by rw [hval], rng_iff.2 (by omega)⟩
              · have HRD := Lib.hid (HGD.out.trans (if_pos (.inl rfl)))
                go_wp2_with fail
                refine (rd_fail s _ bad 21 _ b w4 HR4.out).mono ?_
                rintro e w9 ⟨rfl, hr9, hg9⟩
                have HX9 := Lib.hid ((hg9.block w.heap.size (lt_of_block HX4.out) (fun e => by injection e with e; omega)).trans HX4.out)
                have HR9 := Lib.hid hr9
                have HG9 := Lib.hid (grown_trans_ HG4.out hg9)
                have f9 := blk_cells9 HX9.out
                clear hr9 hg9
                go_wp2
                refine bodyPost_ret (fn := Tryz.f113) (v := (Pl.mk 0 0 ⟨#[]⟩ []).arg none 0) (results_cell (p := 2) (ty := 34) (a := ⟨w.heap.size, 0, none⟩) Tryz.results113 rfl (run_loadVar_row (P := Tryz.prog) _ _ _ 34 _ _ _ (blk_set (blk_set (blk_set (blk_set HX9.out 0 (.int .i64 0)) 1 (.int .i64 0)) 2 (.string ⟨#[]⟩)) 3 (.slice none 0 0)) Tryz.underlying34 rfl (by kernel_rfl))) rfl ?_
                refine ⟨.mk 0 0 ⟨#[]⟩ [], numAt s p + k, _, 21, rfl, ⟨blk_far (blk_far (blk_far (blk_far HR9.out (by show b ≠ w.heap.size; omega) _) (by show b ≠ w.heap.size; omega) _) (by show b ≠ w.heap.size; omega) _) (by show b ≠ w.heap.size; omega) _, grown_set9 (grown_set9 (grown_set9 (grown_set9 HG9.out _ (Nat.le_refl _) _) _ (Nat.le_refl _) _) _ (Nat.le_refl _) _) _ (Nat.le_refl _) _, ?_, ?_, rng_iff.2 ?_⟩, by decide, ?_⟩
                · have := HP.out; omega
                · have := HP.out; omega
                · have := HP.out; omega
                · unfold NumTo; rw [HRD.out]; exact ⟨by decide, rfl⟩
            · go_wp2_with fail
              refine (rd_peek s hs (numAt s p + k) bad 0 b wr HR3.out hk).mono ?_
              rintro e w4 ⟨rfl, hb4⟩
              have HR4 := Lib.hid (HR3.out.below hb4)
              have HG4 := Lib.hid (grown_bel HG3.out hb4)
              have HX4 := Lib.hid ((hb4.block w.heap.size (lt_of_block HX3.out)).trans HX3.out)
              obtain ⟨c4, f4, l4⟩ := HR4.out.cells
              clear hb4
              go_wp2_with fail
              refine (rd_peek s hs (numAt s p + k) bad 0 b w4 HR4.out hk).mono ?_
              rintro e w5 ⟨rfl, hb5⟩
              have HR5 := Lib.hid (HR4.out.below hb5)
              have HG5 := Lib.hid (grown_bel HG4.out hb5)
              have HX5 := Lib.hid ((hb5.block w.heap.size (lt_of_block HX4.out)).trans HX4.out)
              obtain ⟨c5, f5, l5⟩ := HR5.out.cells
              clear hb5
              cases o
              · have hm : ¬ pk s p = 45 := fun e => by have := HN.out.1 e; have := ho.out; omega
                have hmm := Lib.hid hm
                have m1 : ((((s[p]'hp).toNat : Nat) : Int) == 45) = false := by rw [← HPK.out]; simpa using hm
                have m2 : ((((s[p]'hp).toNat : Nat) : Int) != 45) = true := by unfold bne; rw [m1]; rfl
                clear hm
                by_cases hv : n = 9223372036854775808
                · have HRD := Lib.hid (HGD.out.trans (if_pos (.inr ⟨hv, hmm.out⟩)))
                  go_wp2_with fail
                  refine (rd_fail s _ bad 21 _ b w5 HR5.out).mono ?_
                  rintro e w9 ⟨rfl, hr9, hg9⟩
                  have HX9 := Lib.hid ((hg9.block w.heap.size (lt_of_block HX5.out) (fun e => by injection e with e; omega)).trans HX5.out)
                  have HR9 := Lib.hid hr9
                  have HG9 := Lib.hid (grown_trans_ HG5.out hg9)
                  have f9 := blk_cells9 HX9.out
                  clear hr9 hg9
                  go_wp2
                  refine bodyPost_ret (fn := Tryz.f113) (v := (Pl.mk 0 0 ⟨#[]⟩ []).arg none 0) (results_cell (p := 2) (ty := 34) (a := ⟨w.heap.size, 0, none⟩) Tryz.results113 rfl (run_loadVar_row (P := Tryz.prog) _ _ _ 34 _ _ _ (blk_set (blk_set (blk_set (blk_set HX9.out 0 (.int .i64 0)) 1 (.int .i64 0)) 2 (.string ⟨#[]⟩)) 3 (.slice none 0 0)) Tryz.underlying34 rfl (by kernel_rfl))) rfl ?_
                  refine ⟨.mk 0 0 ⟨#[]⟩ [], numAt s p + k, _, 21, rfl, ⟨blk_far (blk_far (blk_far (blk_far HR9.out (by show b ≠ w.heap.size; omega) _) (by show b ≠ w.heap.size; omega) _) (by show b ≠ w.heap.size; omega) _) (by show b ≠ w.heap.size; omega) _, grown_set9 (grown_set9 (grown_set9 (grown_set9 HG9.out _ (Nat.le_refl _) _) _ (Nat.le_refl _) _) _ (Nat.le_refl _) _) _ (Nat.le_refl _) _, ?_, ?_, rng_iff.2 ?_⟩, by decide, ?_⟩
                  · have := HP.out; omega
                  · have := HP.out; omega
                  · have := HP.out; omega
                  · unfold NumTo; rw [HRD.out]; exact ⟨by decide, rfl⟩
                · have HV := Lib.hid hv
                  have f9 := blk_cells9 HX5.out
                  go_wp2
                  refine bodyPost_ret (fn := Tryz.f113) (v := (Pl.mk 3 (wrap64 n) ⟨#[]⟩ []).arg none 0) (results_cell (p := 2) (ty := 34) (a := ⟨w.heap.size, 0, none⟩) Tryz.results113 rfl (run_loadVar_row (P := Tryz.prog) _ _ _ 34 _ _ _ (blk_set (blk_set (blk_set (blk_set HX5.out 0 (.int .i64 3)) 1 (.int .i64 (wrap64 n))) 2 (.string ⟨#[]⟩)) 3 (.slice none 0 0)) Tryz.underlying34 rfl (by kernel_rfl))) rfl ?_
                  have hn9 := acc_le HA.out
                  have hn8 := HV.out
                  have hval : wrap64 n = n := by unfold wrap64; omega
                  refine ⟨.mk 3 (wrap64 n) ⟨#[]⟩ [], numAt s p + k, bad, 0, rfl, ⟨blk_far (blk_far (blk_far (blk_far HR5.out (by show b ≠ w.heap.size; omega) _) (by show b ≠ w.heap.size; omega) _) (by show b ≠ w.heap.size; omega) _) (by show b ≠ w.heap.size; omega) _, grown_set9 (grown_set9 (grown_set9 (grown_set9 HG5.out _ (Nat.le_refl _) _) _ (Nat.le_refl _) _) _ (Nat.le_refl _) _) _ (Nat.le_refl _) _, ?_, hk, HB.out⟩, by decide, ?_⟩
                  · have := HP.out; omega
                  · unfold NumTo
                    rw [HGD.out, if_neg (by rintro (e | ⟨e, e2⟩) <;> first | exact absurd e (by decide) | exact hn8 e), if_neg hmm.out, if_neg hmm.out]
                    have h9 := ho.out
                    exact ⟨rfl, by omega, by rw [hval], rng_iff.2 (by omega)⟩
              · have HRD := Lib.hid (HGD.out.trans (if_pos (.inl rfl)))
                go_wp2_with fail
                refine (rd_fail s _ bad 21 _ b w5 HR5.out).mono ?_
                rintro e w9 ⟨rfl, hr9, hg9⟩
                have HX9 := Lib.hid ((hg9.block w.heap.size (lt_of_block HX5.out) (fun e => by injection e with e; omega)).trans HX5.out)
                have HR9 := Lib.hid hr9
                have HG9 := Lib.hid (grown_trans_ HG5.out hg9)
                have f9 := blk_cells9 HX9.out
                clear hr9 hg9
                go_wp2
                refine bodyPost_ret (fn := Tryz.f113) (v := (Pl.mk 0 0 ⟨#[]⟩ []).arg none 0) (results_cell (p := 2) (ty := 34) (a := ⟨w.heap.size, 0, none⟩) Tryz.results113 rfl (run_loadVar_row (P := Tryz.prog) _ _ _ 34 _ _ _ (blk_set (blk_set (blk_set (blk_set HX9.out 0 (.int .i64 0)) 1 (.int .i64 0)) 2 (.string ⟨#[]⟩)) 3 (.slice none 0 0)) Tryz.underlying34 rfl (by kernel_rfl))) rfl ?_
                refine ⟨.mk 0 0 ⟨#[]⟩ [], numAt s p + k, _, 21, rfl, ⟨blk_far (blk_far (blk_far (blk_far HR9.out (by show b ≠ w.heap.size; omega) _) (by show b ≠ w.heap.size; omega) _) (by show b ≠ w.heap.size; omega) _) (by show b ≠ w.heap.size; omega) _, grown_set9 (grown_set9 (grown_set9 (grown_set9 HG9.out _ (Nat.le_refl _) _) _ (Nat.le_refl _) _) _ (Nat.le_refl _) _) _ (Nat.le_refl _) _, ?_, ?_, rng_iff.2 ?_⟩, by decide, ?_⟩
                · have := HP.out; omega
                · have := HP.out; omega
                · have := HP.out; omega
                · unfold NumTo; rw [HRD.out]; exact ⟨by decide, rfl⟩
      · go_wp2
        go_loopw [5, 6] (fun s5 s6 wr => ∃ (k : Nat) (n : Int) (o : Bool), numAt s p + k ≤ s.size ∧ s5 = .int .u64 n ∧ s6 = .bool o ∧ RdAcc (s.data.toList.drop (numAt s p)) k n o ∧ (pk s (numAt s p) = 48 → k ≤ 1) ∧ Rdr wr b s ((numAt s p + k : Nat) : Int) bad 0 ∧ wr.heap[w.heap.size]? = some (.cells #[.int .i64 0, .int .i64 0, .string ⟨#[]⟩, .slice none 0 0] 34) ∧ w.grownBy wr (some b)) (fun _ _ wr => s.size - rdAt wr b)
        case atStart => exact ⟨0, 0, false, HP.out.2, rfl, rfl, ⟨rfl, .inl ⟨rfl, rfl, by simp [digVal]⟩⟩, fun _ => by omega, HR2.out, HX2.out, HG2.out⟩
        case round =>
          clear c2 f2 l2 HR2 HX2 HG2
          obtain ⟨k, n, o, hk, rfl, rfl, hacc, h1k, hr3, hx3, hg3⟩ := hrel
          have HR3 := Lib.hid hr3
          have HX3 := Lib.hid hx3
          have HG3 := Lib.hid hg3
          have HA := Lib.hid hacc
          have HK := Lib.hid h1k
          obtain ⟨c3, f3, l3⟩ := HR3.out.cells
          clear hr3 hx3 hg3 hacc h1k
          by_cases hd : 48 ≤ pk s (numAt s p + k) ∧ pk s (numAt s p + k) ≤ 57
          · obtain ⟨d1, d2⟩ := hd
            go_wp2_with fail
            refine (rd_peek s hs (numAt s p + k) bad 0 b wr HR3.out hk).mono ?_
            rintro e w4 ⟨rfl, hb4⟩
            have HR4 := Lib.hid (HR3.out.below hb4)
            have HG4 := Lib.hid (grown_bel HG3.out hb4)
            have HX4 := Lib.hid ((hb4.block w.heap.size (lt_of_block HX3.out)).trans HX3.out)
            obtain ⟨c4, f4, l4⟩ := HR4.out.cells
            clear hb4
            go_wp2_with fail
            refine (rd_peek s hs (numAt s p + k) bad 0 b w4 HR4.out hk).mono ?_
            rintro e w5 ⟨rfl, hb5⟩
            have HR5 := Lib.hid (HR4.out.below hb5)
            have HG5 := Lib.hid (grown_bel HG4.out hb5)
            have HX5 := Lib.hid ((hb5.block w.heap.size (lt_of_block HX4.out)).trans HX4.out)
            obtain ⟨c5, f5, l5⟩ := HR5.out.cells
            clear hb5
            go_wp2_with fail
            refine (rd_peek s hs (numAt s p + k) bad 0 b w5 HR5.out hk).mono ?_
            rintro e w6 ⟨rfl, hb6⟩
            have HR6 := Lib.hid (HR5.out.below hb6)
            have HG6 := Lib.hid (grown_bel HG5.out hb6)
            have HX6 := Lib.hid ((hb6.block w.heap.size (lt_of_block HX5.out)).trans HX5.out)
            obtain ⟨c6, f6, l6⟩ := HR6.out.cells
            clear hb6
            have HD := Lib.hid (pk_dig d1 d2)
            have B := HA.out.bound
            obtain ⟨B1, B2⟩ := B
            by_cases hov : (9223372036854775808 - (pk s (numAt s p + k) - 48)) / 10 < n
            · go_wp2
              obtain ⟨c, hc, hpc, hdc⟩ := HD.out
              have hst := HA.out.step (by rw [List.getElem?_drop]; exact hc) hdc
              have hkl : numAt s p + k < s.size := pk_lt (by omega)
              have hrd : Rdr (w6.setCell ⟨b, 1, none⟩ (.int .i64 ((numAt s p : Nat) + (k : Nat) + 1))) b s ((numAt s p + (k + 1) : Nat) : Int) bad 0 := by rw [show (((numAt s p + (k + 1) : Nat)) : Int) = (numAt s p : Nat) + (k : Nat) + 1 by omega]; exact HR6.out.step _
              rw [← hpc, if_pos hov] at hst
              refine ⟨⟨k + 1, _, _, by omega, rfl, rfl, ?_, ?_, hrd, blk_far HX6.out (by show w.heap.size ≠ b; omega) _, grown_put HG6.out 1 _⟩, ?_⟩
              · rw [u64w, u64w, Int.emod_add_emod]; exact hst
              · intro e; rw [e] at h3; simp at h3
              · rw [rdAt_of hrd, rdAt_of HR3.out]; omega
            · go_wp2
              obtain ⟨c, hc, hpc, hdc⟩ := HD.out
              have hst := HA.out.step (by rw [List.getElem?_drop]; exact hc) hdc
              have hkl : numAt s p + k < s.size := pk_lt (by omega)
              have hrd : Rdr (w6.setCell ⟨b, 1, none⟩ (.int .i64 ((numAt s p : Nat) + (k : Nat) + 1))) b s ((numAt s p + (k + 1) : Nat) : Int) bad 0 := by rw [show (((numAt s p + (k + 1) : Nat)) : Int) = (numAt s p : Nat) + (k : Nat) + 1 by omega]; exact HR6.out.step _
              rw [← hpc, if_neg (Int.not_lt.2 hov)] at hst
              refine ⟨⟨k + 1, _, _, by omega, rfl, rfl, ?_, ?_, hrd, blk_far HX6.out (by show w.heap.size ≠ b; omega) _, grown_put HG6.out 1 _⟩, ?_⟩
              · rwa [Int.emod_eq_of_lt (by omega) (by omega)] at hst
              · intro e; rw [e] at h3; simp at h3
              · rw [rdAt_of hrd, rdAt_of HR3.out]; omega
          · have hk0 : 0 < k := by
              rcases Nat.eq_zero_or_pos k with rfl | h
              · exact absurd H48.out hd
              · exact h
            have HGD := Lib.hid (num_good HA.out hk0 hk hd (fun e => by rw [e] at h3; simp at h3))
            obtain ⟨B1, B2⟩ := HA.out.bound
            have HA2 := Lib.hid HA.out.2
            clear hk0
            have HPK := Lib.hid (pk_at hp)
            have hcs : (pk s (numAt s p + k) < 48) ∨ (48 ≤ pk s (numAt s p + k) ∧ 57 < pk s (numAt s p + k)) := by omega
            clear hd
            rcases hcs with d1 | ⟨d1, d2⟩
            · go_wp2_with fail
              refine (rd_peek s hs (numAt s p + k) bad 0 b wr HR3.out hk).mono ?_
              rintro e w4 ⟨rfl, hb4⟩
              have HR4 := Lib.hid (HR3.out.below hb4)
              have HG4 := Lib.hid (grown_bel HG3.out hb4)
              have HX4 := Lib.hid ((hb4.block w.heap.size (lt_of_block HX3.out)).trans HX3.out)
              obtain ⟨c4, f4, l4⟩ := HR4.out.cells
              clear hb4
              cases o
              · have hm : ¬ pk s p = 45 := fun e => by have := HN.out.1 e; have := ho.out; omega
                have hmm := Lib.hid hm
                have m1 : ((((s[p]'hp).toNat : Nat) : Int) == 45) = false := by rw [← HPK.out]; simpa using hm
                have m2 : ((((s[p]'hp).toNat : Nat) : Int) != 45) = true := by unfold bne; rw [m1]; rfl
                clear hm
                by_cases hv : n = 9223372036854775808
                · have HRD := Lib.hid (HGD.out.trans (if_pos (.inr ⟨hv, hmm.out⟩)))
                  go_wp2_with fail
                  refine (rd_fail s _ bad 21 _ b w4 HR4.out).mono ?_
                  rintro e w9 ⟨rfl, hr9, hg9⟩
                  have HX9 := Lib.hid ((hg9.block w.heap.size (lt_of_block HX4.out) (fun e => by injection e with e; omega)).trans HX4.out)
                  have HR9 := Lib.hid hr9
                  have HG9 := Lib.hid (grown_trans_ HG4.out hg9)
                  have f9 := blk_cells9 HX9.out
                  clear hr9 hg9
                  go_wp2
                  refine bodyPost_ret (fn := Tryz.f113) (v := (Pl.mk 0 0 ⟨#[]⟩ []).arg none 0) (results_cell (p := 2) (ty := 34) (a := ⟨w.heap.size, 0, none⟩) Tryz.results113 rfl (run_loadVar_row (P := Tryz.prog) _ _ _ 34 _ _ _ (blk_set (blk_set (blk_set (blk_set HX9.out 0 (.int .i64 0)) 1 (.int .i64 0)) 2 (.string ⟨#[]⟩)) 3 (.slice none 0 0)) Tryz.underlying34 rfl (by kernel_rfl))) rfl ?_
                  refine ⟨.mk 0 0 ⟨#[]⟩ [], numAt s p + k, _, 21, rfl, ⟨blk_far (blk_far (blk_far (blk_far HR9.out (by show b ≠ w.heap.size; omega) _) (by show b ≠ w.heap.size; omega) _) (by show b ≠ w.heap.size; omega) _) (by show b ≠ w.heap.size; omega) _, grown_set9 (grown_set9 (grown_set9 (grown_set9 HG9.out _ (Nat.le_refl _) _) _ (Nat.le_refl _) _) _ (Nat.le_refl _) _) _ (Nat.le_refl _) _, ?_, ?_, rng_iff.2 ?_⟩, by decide, ?_⟩
                  · have := HP.out; omega
                  · have := HP.out; omega
                  · have := HP.out; omega
                  · unfold NumTo; rw [HRD.out]; exact ⟨by decide, rfl⟩
                · have HV := Lib.hid hv
                  have f9 := blk_cells9 HX4.out
                  go_wp2
                  refine bodyPost_ret (fn := Tryz.f113) (v := (Pl.mk 3 (wrap64 n) ⟨#[]⟩ []).arg none 0) (results_cell (p := 2) (ty := 34) (a := ⟨w.heap.size, 0, none⟩) Tryz.results113 rfl (run_loadVar_row (P := Tryz.prog) _ _ _ 34 _ _ _ (blk_set (blk_set (blk_set (blk_set HX4.out 0 (.int .i64 3)) 1 (.int .i64 (wrap64 n))) 2 (.string ⟨#[]⟩)) 3 (.slice none 0 0)) Tryz.underlying34 rfl (by kernel_rfl))) rfl ?_
                  have hn9 := acc_le HA.out
                  have hn8 := HV.out
                  have hval : wrap64 n = n := by unfold wrap64; omega
                  refine ⟨.mk 3 (wrap64 n) ⟨#[]⟩ [], numAt s p + k, bad, 0, rfl, ⟨blk_far (blk_far (blk_far (blk_far HR4.out (by show b ≠ w.heap.size; omega) _) (by show b ≠ w.heap.size; omega) _) (by show b ≠ w.heap.size; omega) _) (by show b ≠ w.heap.size; omega) _, grown_set9 (grown_set9 (grown_set9 (grown_set9 HG4.out _ (Nat.le_refl _) _) _ (Nat.le_refl _) _) _ (Nat.le_refl _) _) _ (Nat.le_refl _) _, ?_, hk, HB.out⟩, by decide, ?_⟩
                  · have := HP.out; omega
                  · unfold NumTo
                    rw [HGD.out, if_neg (by rintro (e | ⟨e, e2⟩) <;> first | exact absurd e (by decide) | exact hn8 e), if_neg hmm.out, if_neg hmm.out]
                    have h9 := ho.out
                    exact ⟨rfl, by omega, by rw [hval], rng_iff.2 (by omega)⟩
              · have HRD := Lib.hid (HGD.out.trans (if_pos (.inl rfl)))
                go_wp2_with fail
                refine (rd_fail s _ bad 21 _ b w4 HR4.out).mono ?_
                rintro e w9 ⟨rfl, hr9, hg9⟩
                have HX9 := Lib.hid ((hg9.block w.heap.size (lt_of_block HX4.out) (fun e => by injection e with e; omega)).trans HX4.out)
                have HR9 := Lib.hid hr9
                have HG9 := Lib.hid (grown_trans_ HG4.out hg9)
                have f9 := blk_cells9 HX9.out
                clear hr9 hg9
                go_wp2
                refine bodyPost_ret (fn := Tryz.f113) (v := (Pl.mk 0 0 ⟨#[]⟩ []).arg none 0) (results_cell (p := 2) (ty := 34) (a := ⟨w.heap.size, 0, none⟩) Tryz.results113 rfl (run_loadVar_row (P := Tryz.prog) _ _ _ 34 _ _ _ (blk_set (blk_set (blk_set (blk_set HX9.out 0 (.int .i64 0)) 1 (.int .i64 0)) 2 (.string ⟨#[]⟩)) 3 (.slice none 0 0)) Tryz.underlying34 rfl (by kernel_rfl))) rfl ?_
                refine ⟨.mk 0 0 ⟨#[]⟩ [], numAt s p + k, _, 21, rfl, ⟨blk_far (blk_far (blk_far (blk_far HR9.out (by show b ≠ w.heap.size; omega) _) (by show b ≠ w.heap.size; omega) _) (by show b ≠ w.heap.size; omega) _) (by show b ≠ w.heap.size; omega) _, grown_set9 (grown_set9 (grown_set9 (grown_set9 HG9.out _ (Nat.le_refl _) _) _ (Nat.le_refl _) _) _ (Nat.le_refl _) _) _ (Nat.le_refl _) _, ?_, ?_, rng_iff.2 ?_⟩, by decide, ?_⟩
                · have := HP.out; omega
                · have := HP.out; omega
                · have := HP.out; omega
                · unfold NumTo; rw [HRD.out]; exact ⟨by decide, rfl⟩
            · go_wp2_with fail
              refine (rd_peek s hs (numAt s p + k) bad 0 b wr HR3.out hk).mono ?_
              rintro e w4 ⟨rfl, hb4⟩
              have HR4 := Lib.hid (HR3.out.below hb4)
              have HG4 := Lib.hid (grown_bel HG3.out hb4)
              have HX4 := Lib.hid ((hb4.block w.heap.size (lt_of_block HX3.out)).trans HX3.out)
              obtain ⟨c4, f4, l4⟩ := HR4.out.cells
              clear hb4
              go_wp2_with fail
              refine (rd_peek s hs (numAt s p + k) bad 0 b w4 HR4.out hk).mono ?_
              rintro e w5 ⟨rfl, hb5⟩
              have HR5 := Lib.hid (HR4.out.below hb5)
              have HG5 := Lib.hid (grown_bel HG4.out hb5)
              have HX5 := Lib.hid ((hb5.block w.heap.size (lt_of_block HX4.out)).trans HX4.out)
              obtain ⟨c5, f5, l5⟩ := HR5.out.cells
              clear hb5
              cases o
              · have hm : ¬ pk s p = 45 := fun e => by have := HN.out.1 e; have := ho.out; omega
                have hmm := Lib.hid hm
                have m1 : ((((s[p]'hp).toNat : Nat) : Int) == 45) = false := by rw [← HPK.out]; simpa using hm
                have m2 : ((((s[p]'hp).toNat : Nat) : Int) != 45) = true := by unfold bne; rw [m1]; rfl
                clear hm
                by_cases hv : n = 9223372036854775808
                · have HRD := Lib.hid (HGD.out.trans (if_pos (.inr ⟨hv, hmm.out⟩)))
                  go_wp2_with fail
                  refine (rd_fail s _ bad 21 _ b w5 HR5.out).mono ?_
                  rintro e w9 ⟨rfl, hr9, hg9⟩
                  have HX9 := Lib.hid ((hg9.block w.heap.size (lt_of_block HX5.out) (fun e => by injection e with e; omega)).trans HX5.out)
                  have HR9 := Lib.hid hr9
                  have HG9 := Lib.hid (grown_trans_ HG5.out hg9)
                  have f9 := blk_cells9 HX9.out
                  clear hr9 hg9
                  go_wp2
                  refine bodyPost_ret (fn := Tryz.f113) (v := (Pl.mk 0 0 ⟨#[]⟩ []).arg none 0) (results_cell (p := 2) (ty := 34) (a := ⟨w.heap.size, 0, none⟩) Tryz.results113 rfl (run_loadVar_row (P := Tryz.prog) _ _ _ 34 _ _ _ (blk_set (blk_set (blk_set (blk_set HX9.out 0 (.int .i64 0)) 1 (.int .i64 0)) 2 (.string ⟨#[]⟩)) 3 (.slice none 0 0)) Tryz.underlying34 rfl (by kernel_rfl))) rfl ?_
                  refine ⟨.mk 0 0 ⟨#[]⟩ [], numAt s p + k, _, 21, rfl, ⟨blk_far (blk_far (blk_far (blk_far HR9.out (by show b ≠ w.heap.size; omega) _) (by show b ≠ w.heap.size; omega) _) (by show b ≠ w.heap.size; omega) _) (by show b ≠ w.heap.size; omega) _, grown_set9 (grown_set9 (grown_set9 (grown_set9 HG9.out _ (Nat.le_refl _) _) _ (Nat.le_refl _) _) _ (Nat.le_refl _) _) _ (Nat.le_refl _) _, ?_, ?_, rng_iff.2 ?_⟩, by decide, ?_⟩
                  · have := HP.out; omega
                  · have := HP.out; omega
                  · have := HP.out; omega
                  · unfold NumTo; rw [HRD.out]; exact ⟨by decide, rfl⟩
                · have HV := Lib.hid hv
                  have f9 := blk_cells9 HX5.out
                  go_wp2
                  refine bodyPost_ret (fn := Tryz.f113) (v := (Pl.mk 3 (wrap64 n) ⟨#[]⟩ []).arg none 0) (results_cell (p := 2) (ty := 34) (a := ⟨w.heap.size, 0, none⟩) Tryz.results113 rfl (run_loadVar_row (P := Tryz.prog) _ _ _ 34 _ _ _ (blk_set (blk_set (blk_set (blk_set HX5.out 0 (.int .i64 3)) 1 (.int .i64 (wrap64 n))) 2 (.string ⟨#[]⟩)) 3 (.slice none 0 0)) Tryz.underlying34 rfl (by kernel_rfl))) rfl ?_
                  have hn9 := acc_le HA.out
                  have hn8 := HV.out
                  have hval : wrap64 n = n := by unfold wrap64; omega
                  refine ⟨.mk 3 (wrap64 n) ⟨#[]⟩ [], numAt s p + k, bad, 0, rfl, ⟨blk_far (blk_far (blk_far (blk_far HR5.out (by show b ≠ w.heap.size; omega) _) (by show b ≠ w.heap.size; omega) _) (by show b ≠ w.heap.size; omega) _) (by show b ≠ w.heap.size; omega) _, grown_set9 (grown_set9 (grown_set9 (grown_set9 HG5.out _ (Nat.le_refl _) _) _ (Nat.le_refl _) _) _ (Nat.le_refl _) _) _ (Nat.le_refl _) _, ?_, hk, HB.out⟩, by decide, ?_⟩
                  · have := HP.out; omega
                  · unfold NumTo
                    rw [HGD.out, if_neg (by rintro (e | ⟨e, e2⟩) <;> first | exact absurd e (by decide) | exact hn8 e), if_neg hmm.out, if_neg hmm.out]
                    have h9 := ho.out
                    exact ⟨rfl, by omega, by rw [hval], rng_iff.2 (by omega)⟩
              · have HRD := Lib.hid (HGD.out.trans (if_pos (.inl rfl)))
                go_wp2_with fail
                refine (rd_fail s _ bad 21 _ b w5 HR5.out).mono ?_
                rintro e w9 ⟨rfl, hr9, hg9⟩
                have HX9 := Lib.hid ((hg9.block w.heap.size (lt_of_block HX5.out) (fun e => by injection e with e; omega)).trans HX5.out)
                have HR9 := Lib.hid hr9
                have HG9 := Lib.hid (grown_trans_ HG5.out hg9)
                have f9 := blk_cells9 HX9.out
                clear hr9 hg9
                go_wp2
                refine bodyPost_ret (fn := Tryz.f113) (v := (Pl.mk 0 0 ⟨#[]⟩ []).arg none 0) (results_cell (p := 2) (ty := 34) (a := ⟨w.heap.size, 0, none⟩) Tryz.results113 rfl (run_loadVar_row (P := Tryz.prog) _ _ _ 34 _ _ _ (blk_set (blk_set (blk_set (blk_set HX9.out 0 (.int .i64 0)) 1 (.int .i64 0)) 2 (.string ⟨#[]⟩)) 3 (.slice none 0 0)) Tryz.underlying34 rfl (by kernel_rfl))) rfl ?_
                refine ⟨.mk 0 0 ⟨#[]⟩ [], numAt s p + k, _, 21, rfl, ⟨blk_far (blk_far (blk_far (blk_far HR9.out (by show b ≠ w.heap.size; omega) _) (by show b ≠ w.heap.size; omega) _) (by show b ≠ w.heap.size; omega) _) (by show b ≠ w.heap.size; omega) _, grown_set9 (grown_set9 (grown_set9 (grown_set9 HG9.out _ (Nat.le_refl _) _) _ (Nat.le_refl _) _) _ (Nat.le_refl _) _) _ (Nat.le_refl _) _, ?_, ?_, rng_iff.2 ?_⟩, by decide, ?_⟩
                · have := HP.out; omega
                · have := HP.out; omega
                · have := HP.out; omega
                · unfold NumTo; rw [HRD.out]; exact ⟨by decide, rfl⟩
end Go.Proofs.YthjpphojddbbmaaGreatDoor
