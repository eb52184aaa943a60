/-
  espalierref2.order and Same: walks, for any two plain values. Printed by a program of mine (gen_ord2.py). Conditions: both lie in memory.
-/
import Derived.Test.YtjdpnljaichdmaaGreatDoorPlEqB
namespace Go.Proofs.YtjdpnljaichdmaaGreatDoor
open Go.RowKit
set_option linter.unusedVariables false

def sgnI (a b : Int) : Int := if a < b then -1 else if b < a then 1 else 0
def sgnT (s t : ByteArray) : Int := if Op.bytesLess s.toList t.toList = true then -1 else if s = t then 0 else 1
mutual
/-- Which is ahead. -/
def Pl.ord : Pl → Pl → Int
  | .mk k n t l, .mk k' n' t' l' => if sgnI k k' ≠ 0 then sgnI k k' else if sgnI n n' ≠ 0 then sgnI n n' else if sgnT t t' ≠ 0 then sgnT t t' else Pls.ord l l'
def Pls.ord : List Pl → List Pl → Int
  | [], [] => 0
  | [], _ :: _ => -1
  | _ :: _, [] => 1
  | p :: ps, q :: qs => if p.ord q ≠ 0 then p.ord q else Pls.ord ps qs
end
theorem less_self : ∀ l : List UInt8, Op.bytesLess l l = false
  | [] => by simp [Op.bytesLess]
  | x :: xs => by simp [Op.bytesLess, less_self xs]
theorem sgnI_zero {a b : Int} : sgnI a b = 0 ↔ a = b := by
  unfold sgnI
  by_cases h : a < b
  · rw [if_pos h]; constructor <;> intro h' <;> omega
  · rw [if_neg h]
    by_cases h2 : b < a
    · rw [if_pos h2]; constructor <;> intro h' <;> omega
    · rw [if_neg h2]; constructor <;> intro h' <;> omega
theorem sgnT_zero {a b : ByteArray} : sgnT a b = 0 ↔ a = b := by
  unfold sgnT
  by_cases h : Op.bytesLess a.toList b.toList = true
  · rw [if_pos h]
    constructor
    · intro h'; cases h'
    · intro h'; subst h'; rw [less_self] at h; cases h
  · rw [if_neg h]
    by_cases h2 : a = b
    · rw [if_pos h2]; simp [h2]
    · rw [if_neg h2]; simp [h2]
mutual
theorem Pl.ord_zero : ∀ (p q : Pl), p.ord q = 0 ↔ p.eqB q = true
  | .mk k n t l, .mk k' n' t' l' => by
    have ih := Pls.ord_zero l l'
    unfold Pl.ord Pl.eqB
    simp only [Bool.and_eq_true, decide_eq_true_eq]
    by_cases h1 : sgnI k k' = 0
    · rw [if_neg (by simp [h1])]
      by_cases h2 : sgnI n n' = 0
      · rw [if_neg (by simp [h2])]
        by_cases h3 : sgnT t t' = 0
        · rw [if_neg (by simp [h3]), ih]
          exact ⟨fun h => ⟨⟨⟨sgnI_zero.1 h1, sgnI_zero.1 h2⟩, sgnT_zero.1 h3⟩, h⟩, fun h => h.2⟩
        · rw [if_pos h3]
          exact ⟨fun h => absurd h h3, fun h => absurd (sgnT_zero.2 h.1.2) h3⟩
      · rw [if_pos h2]
        exact ⟨fun h => absurd h h2, fun h => absurd (sgnI_zero.2 h.1.1.2) h2⟩
    · rw [if_pos h1]
      exact ⟨fun h => absurd h h1, fun h => absurd (sgnI_zero.2 h.1.1.1) h1⟩
theorem Pls.ord_zero : ∀ (l m : List Pl), Pls.ord l m = 0 ↔ Pls.eqB l m = true
  | [], [] => by simp [Pls.ord, Pls.eqB]
  | [], _ :: _ => by simp [Pls.ord, Pls.eqB]
  | _ :: _, [] => by simp [Pls.ord, Pls.eqB]
  | p :: ps, q :: qs => by
    have i1 := Pl.ord_zero p q
    have i2 := Pls.ord_zero ps qs
    simp only [Pls.ord, Pls.eqB, Bool.and_eq_true]
    by_cases h : p.ord q = 0
    · rw [if_neg (by simp [h]), i2]
      exact ⟨fun h' => ⟨i1.1 h, h'⟩, fun h' => h'.2⟩
    · rw [if_pos h]
      exact ⟨fun h' => absurd h' h, fun h' => absurd (i1.2 h'.1) h⟩
end
theorem Pls.ord_drop {l m : List Pl} {k : Nat} (h : k < l.length) (h' : k < m.length) : Pls.ord (l.drop k) (m.drop k) = if l[k].ord m[k] ≠ 0 then l[k].ord m[k] else Pls.ord (l.drop (k + 1)) (m.drop (k + 1)) := by
  rw [List.drop_eq_getElem_cons h, List.drop_eq_getElem_cons h', Pls.ord]
theorem Pls.ord_left {l m : List Pl} {k : Nat} (h : l.length ≤ k) (h' : k < m.length) : Pls.ord (l.drop k) (m.drop k) = -1 := by
  rw [List.drop_of_length_le h, List.drop_eq_getElem_cons h', Pls.ord]
theorem Pls.ord_right {l m : List Pl} {k : Nat} (h : k < l.length) (h' : m.length ≤ k) : Pls.ord (l.drop k) (m.drop k) = 1 := by
  rw [List.drop_eq_getElem_cons h, List.drop_of_length_le h', Pls.ord]
theorem Pls.ord_end {l m : List Pl} {k : Nat} (h : l.length ≤ k) (h' : m.length ≤ k) : Pls.ord (l.drop k) (m.drop k) = 0 := by
  rw [List.drop_of_length_le h, List.drop_of_length_le h', Pls.ord]
theorem ref2_sign (a b : Bool) (w : World) : Calls Tryz.prog 103 #[.bool a, .bool b] w fun e w' => e = .returned (.int .i64 (if a = true then -1 else if b = true then 1 else 0)) ∧ w = w' := by
  cases a <;> cases b
  all_goals
    go_enter Tryz.func103, Tryz.ntmps103
    go_wp2
    go_ret
    exact ⟨by rfl, rfl⟩
def OrdAll (p : Pl) : Prop := ∀ (q : Pl) (A A' : Option Addr) (c c' : Nat) (w : World), p.sane → q.sane → Pls.lies w w.heap.size p.list A → Pls.lies w w.heap.size q.list A' → Calls Tryz.prog 83 #[p.arg A c, q.arg A' c'] w (Bel (.int .i64 (p.ord q)) w)
theorem ord_mk (k n k' n' : Int) (t t' : ByteArray) (l l' : List Pl) : (Pl.mk k n t l).ord (.mk k' n' t' l') = if sgnI k k' ≠ 0 then sgnI k k' else if sgnI n n' ≠ 0 then sgnI n n' else if sgnT t t' ≠ 0 then sgnT t t' else Pls.ord l l' := by rw [Pl.ord]
theorem sgnI_self (a : Int) : sgnI a a = 0 := sgnI_zero.2 rfl
theorem sgnT_self (a : ByteArray) : sgnT a a = 0 := sgnT_zero.2 rfl
set_option maxRecDepth 100000 in
set_option maxHeartbeats 4000000 in
theorem ord_k_lt (k n k' n' : Int) (t t' : ByteArray) (l l' : List Pl) (h1 : decide (k < k') = true) (h2 : decide (k' < k) = false) (A A' : Option Addr) (c c' : Nat) (w : World) (hlen : l.length * 56 ≤ 140737488351232) (hlen' : l'.length * 56 ≤ 140737488351232) :
    Calls Tryz.prog 83 #[.agg #[.int .i64 k, .int .i64 n, .string t, .slice A l.length c], .agg #[.int .i64 k', .int .i64 n', .string t', .slice A' l'.length c']] w (Bel (.int .i64 (-1)) w) := by
  have HBa := Lib.hid (fun X X' : Obj => ((Below.refl w.heap.size w).alloc (Nat.le_refl _) X).alloc (by simp) X')
  go_enter Tryz.func83, Tryz.ntmps83
  go_wp2_with fail
  refine (ref2_sign true false _).mono ?_
  rintro e W' ⟨rfl, rfl⟩
  go_wp2
  go_loop [6, 5] (fun s6 s5 => s6 = .int .i64 0 ∧ s5 = .int .i64 (-1)) (fun _ _ => 0)
  case atStart => exact ⟨rfl, rfl⟩
  case round =>
    obtain ⟨rfl, rfl⟩ := hrel
    go_wp2
    all_goals go_ret
    all_goals exact ⟨rfl, HBa.out _ _⟩
set_option maxRecDepth 100000 in
set_option maxHeartbeats 4000000 in
theorem ord_k_gt (k n k' n' : Int) (t t' : ByteArray) (l l' : List Pl) (h1 : decide (k < k') = false) (h2 : decide (k' < k) = true) (A A' : Option Addr) (c c' : Nat) (w : World) (hlen : l.length * 56 ≤ 140737488351232) (hlen' : l'.length * 56 ≤ 140737488351232) :
    Calls Tryz.prog 83 #[.agg #[.int .i64 k, .int .i64 n, .string t, .slice A l.length c], .agg #[.int .i64 k', .int .i64 n', .string t', .slice A' l'.length c']] w (Bel (.int .i64 1) w) := by
  have HBa := Lib.hid (fun X X' : Obj => ((Below.refl w.heap.size w).alloc (Nat.le_refl _) X).alloc (by simp) X')
  go_enter Tryz.func83, Tryz.ntmps83
  go_wp2_with fail
  refine (ref2_sign false true _).mono ?_
  rintro e W' ⟨rfl, rfl⟩
  go_wp2
  go_loop [6, 5] (fun s6 s5 => s6 = .int .i64 0 ∧ s5 = .int .i64 1) (fun _ _ => 0)
  case atStart => exact ⟨rfl, rfl⟩
  case round =>
    obtain ⟨rfl, rfl⟩ := hrel
    go_wp2
    all_goals go_ret
    all_goals exact ⟨rfl, HBa.out _ _⟩
set_option maxRecDepth 100000 in
set_option maxHeartbeats 4000000 in
theorem ord_n_lt (k n n' : Int) (t t' : ByteArray) (l l' : List Pl) (h1 : decide (n < n') = true) (h2 : decide (n' < n) = false) (A A' : Option Addr) (c c' : Nat) (w : World) (hlen : l.length * 56 ≤ 140737488351232) (hlen' : l'.length * 56 ≤ 140737488351232) :
    Calls Tryz.prog 83 #[.agg #[.int .i64 k, .int .i64 n, .string t, .slice A l.length c], .agg #[.int .i64 k, .int .i64 n', .string t', .slice A' l'.length c']] w (Bel (.int .i64 (-1)) w) := by
  have HBa := Lib.hid (fun X X' : Obj => ((Below.refl w.heap.size w).alloc (Nat.le_refl _) X).alloc (by simp) X')
  go_enter Tryz.func83, Tryz.ntmps83
  go_wp2_with fail
  refine (ref2_sign false false _).mono ?_
  rintro e W' ⟨rfl, rfl⟩
  go_wp2_with fail
  refine (ref2_sign true false _).mono ?_
  rintro e W' ⟨rfl, rfl⟩
  go_wp2
  go_loop [6, 5] (fun s6 s5 => s6 = .int .i64 0 ∧ s5 = .int .i64 (-1)) (fun _ _ => 0)
  case atStart => exact ⟨rfl, rfl⟩
  case round =>
    obtain ⟨rfl, rfl⟩ := hrel
    go_wp2
    all_goals go_ret
    all_goals exact ⟨rfl, HBa.out _ _⟩
set_option maxRecDepth 100000 in
set_option maxHeartbeats 4000000 in
theorem ord_n_gt (k n n' : Int) (t t' : ByteArray) (l l' : List Pl) (h1 : decide (n < n') = false) (h2 : decide (n' < n) = true) (A A' : Option Addr) (c c' : Nat) (w : World) (hlen : l.length * 56 ≤ 140737488351232) (hlen' : l'.length * 56 ≤ 140737488351232) :
    Calls Tryz.prog 83 #[.agg #[.int .i64 k, .int .i64 n, .string t, .slice A l.length c], .agg #[.int .i64 k, .int .i64 n', .string t', .slice A' l'.length c']] w (Bel (.int .i64 1) w) := by
  have HBa := Lib.hid (fun X X' : Obj => ((Below.refl w.heap.size w).alloc (Nat.le_refl _) X).alloc (by simp) X')
  go_enter Tryz.func83, Tryz.ntmps83
  go_wp2_with fail
  refine (ref2_sign false false _).mono ?_
  rintro e W' ⟨rfl, rfl⟩
  go_wp2_with fail
  refine (ref2_sign false true _).mono ?_
  rintro e W' ⟨rfl, rfl⟩
  go_wp2
  go_loop [6, 5] (fun s6 s5 => s6 = .int .i64 0 ∧ s5 = .int .i64 1) (fun _ _ => 0)
  case atStart => exact ⟨rfl, rfl⟩
  case round =>
    obtain ⟨rfl, rfl⟩ := hrel
    go_wp2
    all_goals go_ret
    all_goals exact ⟨rfl, HBa.out _ _⟩
set_option maxRecDepth 100000 in
set_option maxHeartbeats 4000000 in
theorem ord_t_lt (k n : Int) (t t' : ByteArray) (l l' : List Pl) (h1 : Op.bytesLess t.toList t'.toList = true) (A A' : Option Addr) (c c' : Nat) (w : World) (hlen : l.length * 56 ≤ 140737488351232) (hlen' : l'.length * 56 ≤ 140737488351232) :
    Calls Tryz.prog 83 #[.agg #[.int .i64 k, .int .i64 n, .string t, .slice A l.length c], .agg #[.int .i64 k, .int .i64 n, .string t', .slice A' l'.length c']] w (Bel (.int .i64 (-1)) w) := by
  have HBa := Lib.hid (fun X X' : Obj => ((Below.refl w.heap.size w).alloc (Nat.le_refl _) X).alloc (by simp) X')
  go_enter Tryz.func83, Tryz.ntmps83
  go_wp2_with fail
  refine (ref2_sign false false _).mono ?_
  rintro e W' ⟨rfl, rfl⟩
  go_wp2_with fail
  refine (ref2_sign false false _).mono ?_
  rintro e W' ⟨rfl, rfl⟩
  go_wp2_with fail
  refine (ref2_sign true false _).mono ?_
  rintro e W' ⟨rfl, rfl⟩
  go_wp2
  go_loop [6, 5] (fun s6 s5 => s6 = .int .i64 0 ∧ s5 = .int .i64 (-1)) (fun _ _ => 0)
  case atStart => exact ⟨rfl, rfl⟩
  case round =>
    obtain ⟨rfl, rfl⟩ := hrel
    go_wp2
    all_goals go_ret
    all_goals exact ⟨rfl, HBa.out _ _⟩
set_option maxRecDepth 100000 in
set_option maxHeartbeats 4000000 in
theorem ord_t_gt (k n : Int) (t t' : ByteArray) (l l' : List Pl) (h1 : Op.bytesLess t.toList t'.toList = false) (h2 : (t.toList == t'.toList) = false) (A A' : Option Addr) (c c' : Nat) (w : World) (hlen : l.length * 56 ≤ 140737488351232) (hlen' : l'.length * 56 ≤ 140737488351232) :
    Calls Tryz.prog 83 #[.agg #[.int .i64 k, .int .i64 n, .string t, .slice A l.length c], .agg #[.int .i64 k, .int .i64 n, .string t', .slice A' l'.length c']] w (Bel (.int .i64 1) w) := by
  have HBa := Lib.hid (fun X X' : Obj => ((Below.refl w.heap.size w).alloc (Nat.le_refl _) X).alloc (by simp) X')
  go_enter Tryz.func83, Tryz.ntmps83
  go_wp2_with fail
  refine (ref2_sign false false _).mono ?_
  rintro e W' ⟨rfl, rfl⟩
  go_wp2_with fail
  refine (ref2_sign false false _).mono ?_
  rintro e W' ⟨rfl, rfl⟩
  go_wp2_with fail
  refine (ref2_sign false true _).mono ?_
  rintro e W' ⟨rfl, rfl⟩
  go_wp2
  go_loop [6, 5] (fun s6 s5 => s6 = .int .i64 0 ∧ s5 = .int .i64 1) (fun _ _ => 0)
  case atStart => exact ⟨rfl, rfl⟩
  case round =>
    obtain ⟨rfl, rfl⟩ := hrel
    go_wp2
    all_goals go_ret
    all_goals exact ⟨rfl, HBa.out _ _⟩
set_option maxRecDepth 100000 in
set_option maxHeartbeats 4000000 in
theorem ord_lists (k n : Int) (t : ByteArray) (l : List Pl) (ih : ∀ (j : Nat) (h : j < l.length), OrdAll l[j]) (l' : List Pl) (A A' : Option Addr) (c c' : Nat) (w : World) (hlen : l.length * 56 ≤ 140737488351232) (hlen' : l'.length * 56 ≤ 140737488351232)
    (hl : Pls.lies w w.heap.size l A) (hl' : Pls.lies w w.heap.size l' A') :
    Calls Tryz.prog 83 #[.agg #[.int .i64 k, .int .i64 n, .string t, .slice A l.length c], .agg #[.int .i64 k, .int .i64 n, .string t, .slice A' l'.length c']] w (Bel (.int .i64 (Pls.ord l l')) w) := by
  have IH := Lib.hid ih
  have HL := Lib.hid hl
  have HL' := Lib.hid hl'
  have hls := less_self t.toList
  clear ih hl hl'
  go_enter Tryz.func83, Tryz.ntmps83
  go_wp2_with fail
  refine (ref2_sign false false _).mono ?_
  rintro e W' ⟨rfl, rfl⟩
  go_wp2_with fail
  refine (ref2_sign false false _).mono ?_
  rintro e W' ⟨rfl, rfl⟩
  go_wp2_with fail
  refine (ref2_sign false false _).mono ?_
  rintro e W' ⟨rfl, rfl⟩
  clear hls
  go_wp2
  generalize hX : Obj.cells #[.int .i64 k, .int .i64 n, .string t, .slice A l.length c] 34 = X at *
  generalize hX' : Obj.cells #[.int .i64 k, .int .i64 n, .string t, .slice A' l'.length c'] 34 = X' at *
  have HX := Lib.hid hX
  have HX' := Lib.hid hX'
  have HB0 := Lib.hid (((Below.refl w.heap.size w).alloc (Nat.le_refl _) X).alloc (by simp) X')
  have D1 := Lib.hid (heap_alloc2 w X X').1
  have D2 := Lib.hid (heap_alloc2 w X X').2
  clear hX hX'
  go_loopw [6, 5] (fun s6 s5 wr => ∃ (j : Nat) (kk : Int), j ≤ l.length ∧ j ≤ l'.length ∧ s6 = .int .i64 (j : Int) ∧ s5 = .int .i64 kk ∧ ((kk = 0 ∧ Pls.ord l l' = Pls.ord (l.drop j) (l'.drop j)) ∨ (kk ≠ 0 ∧ Pls.ord l l' = kk)) ∧ wr.heap[w.heap.size]? = some X ∧ wr.heap[w.heap.size + 1]? = some X' ∧ Below w.heap.size w wr) (fun s6 _ _ => l.length - (intOf s6).toNat)
  case atStart => exact ⟨0, 0, Nat.zero_le _, Nat.zero_le _, rfl, rfl, .inl ⟨rfl, rfl⟩, D1.out, D2.out, HB0.out⟩
  case round =>
    obtain ⟨j, kk, hj, hj', rfl, rfl, hcase, hb1, hb2, hbel⟩ := hrel
    have B1 := Lib.hid hb1
    have B2 := Lib.hid hb2
    have HB := Lib.hid hbel
    have hsz : w.heap.size + 1 < wr.heap.size := lt_of_block hb2
    clear hb1 hb2 hbel
    have c3 : wr.cell? ⟨w.heap.size, 3, none⟩ = some (.slice A l.length c) := cell_of_row _ _ 3 _ _ _ (by rw [B1.out, ← HX.out])
    have c4 : wr.cell? ⟨w.heap.size + 1, 3, none⟩ = some (.slice A' l'.length c') := cell_of_row _ _ 3 _ _ _ (by show wr.heap[w.heap.size + 1]? = _; rw [B2.out, ← HX'.out])
    rcases hcase with ⟨rfl, hord⟩ | ⟨hk0, hord⟩
    case inr =>
      have HO := Lib.hid hord
      have hkb : (kk == 0) = false := by simpa using hk0
      clear hord hk0
      go_wp2
      all_goals go_ret
      all_goals exact ⟨by rw [HO.out]; rfl, HB.out⟩
    have HM := Lib.hid hord
    clear hord
    by_cases hlt : j < l.length
    · by_cases hltm : j < l'.length
      · obtain ⟨b1, o1, rfl⟩ := HL.out.head (by omega)
        obtain ⟨b2, o2, rfl⟩ := HL'.out.head (by omega)
        have hl1 := (HL.out.below HB.out (by omega : w.heap.size ≤ wr.heap.size)).at_ j hlt
        have hl2 := (HL'.out.below HB.out (by omega : w.heap.size ≤ wr.heap.size)).at_ j hltm
        have hsn := Lib.hid hl1.sane
        have hsn' := Lib.hid hl2.sane
        have HD := Lib.hid (Pls.ord_drop hlt hltm)
        obtain ⟨_, d0, d1, d2, _, A1, c1, d3, hll1⟩ := hl1.parts
        obtain ⟨_, e0, e1, e2, _, A2, c2, e3, hll2⟩ := hl2.parts
        have KE := Lib.hid (fun x : Ext wr => IH.out j hlt l'[j] A1 A2 c1 c2 x.now hsn.out hsn'.out (hll1.below x.ok x.ok.size) (hll2.below x.ok x.ok.size))
        unfold Pl.arg at KE
        have D0 := Ext.cell (w := wr) d0
        have D1 := Ext.cell (w := wr) d1
        have D2 := Ext.cell (w := wr) d2
        have D3 := Ext.cell (w := wr) d3
        have E0 := Ext.cell (w := wr) e0
        have E1 := Ext.cell (w := wr) e1
        have E2 := Ext.cell (w := wr) e2
        have E3 := Ext.cell (w := wr) e3
        have F1 := Ext.cell (w := wr) (p := ⟨w.heap.size, 3, none⟩) c3
        have F2 := Ext.cell (w := wr) (p := ⟨w.heap.size + 1, 3, none⟩) c4
        clear d0 d1 d2 d3 e0 e1 e2 e3 hl1 hl2 hll1 hll2
        generalize hq : l[j].ord l'[j] = q at *
        generalize l[j] = p1 at *
        generalize l'[j] = p2 at *
        go_wp2
        refine wp_region_ext (by kernel_rfl) (by kernel_rfl) ?_
        go_big_quiet_step (fail)
        go_big_quiet_step (fail)
        go_big_quiet_step (fail)
        go_big_quiet_step (fail)
        go_big_quiet_step (fail)
        go_big_quiet_step (fail)
        go_big_quiet_step (fail)
        go_big_quiet_step (fail)
        go_big_quiet_step (fail)
        go_big_quiet_step (fail)
        go_big_quiet_step ((go_at_call 83; exact Calls.ext_of (KE.out _)))
        go_big_quiet_step (fail)
        refine wpQuiet_nil ?_
        rintro _ ⟨z, rfl⟩
        have hz := z.ok
        have hb1 := Lib.hid ((hz.block w.heap.size (by omega)).trans B1.out)
        have hb2 := Lib.hid ((hz.block (w.heap.size + 1) (by omega)).trans B2.out)
        have HB2 := Lib.hid (HB.out.trans (hz.mono HB.out.size))
        have HN := Lib.hid (show (q = 0 ∧ Pls.ord l l' = Pls.ord (l.drop (j + 1)) (l'.drop (j + 1))) ∨ (q ≠ 0 ∧ Pls.ord l l' = q) by
          by_cases h0 : q = 0
          · exact .inl ⟨h0, by rw [HM.out, HD.out, if_neg (by simp [h0])]⟩
          · exact .inr ⟨h0, by rw [HM.out, HD.out, if_pos h0]⟩)
        clear hz D0 D1 D2 D3 E0 E1 E2 E3 F1 F2 KE c3 c4 HM
        generalize z.now = w2 at *
        go_wp2
        go_roundw
        case rel => exact ⟨j + 1, q, by omega, by omega, by go_num, rfl, HN.out, hb1.out, hb2.out, HB2.out⟩
        case measure => simp [intOf]; omega
      · have hr := Lib.hid (show Pls.ord l l' = 1 by rw [HM.out, Pls.ord_right hlt (by omega)])
        have t1 : decide (l.length < l'.length) = false := by simp; omega
        have t2 : decide (l'.length < l.length) = true := by simp; omega
        go_wp2_with fail
        refine (ref2_sign false true _).mono ?_
        rintro e W' ⟨rfl, rfl⟩
        go_wp2
        go_ret
        exact ⟨by rw [hr.out]; rfl, HB.out⟩
    · by_cases hltm : j < l'.length
      · have hr := Lib.hid (show Pls.ord l l' = -1 by rw [HM.out, Pls.ord_left (by omega) hltm])
        have t1 : decide (l.length < l'.length) = true := by simp; omega
        have t2 : decide (l'.length < l.length) = false := by simp; omega
        go_wp2_with fail
        refine (ref2_sign true false _).mono ?_
        rintro e W' ⟨rfl, rfl⟩
        go_wp2
        go_ret
        exact ⟨by rw [hr.out]; rfl, HB.out⟩
      · have hr := Lib.hid (show Pls.ord l l' = 0 by rw [HM.out, Pls.ord_end (by omega) (by omega)])
        have t1 : decide (l.length < l'.length) = false := by simp; omega
        have t2 : decide (l'.length < l.length) = false := by simp; omega
        go_wp2_with fail
        refine (ref2_sign false false _).mono ?_
        rintro e W' ⟨rfl, rfl⟩
        go_wp2
        go_ret
        exact ⟨by rw [hr.out]; rfl, HB.out⟩
theorem ord_step (k n : Int) (t : ByteArray) (l : List Pl) (ih : ∀ (j : Nat) (h : j < l.length), OrdAll l[j]) : OrdAll (.mk k n t l) := by
  rintro ⟨k', n', t', l'⟩ A A' c c' w hs hs' hl hl'
  have HR := ord_mk k n k' n' t t' l l'
  rcases Int.lt_trichotomy k k' with h | h | h
  · have e : sgnI k k' = -1 := by unfold sgnI; rw [if_pos h]
    rw [e, if_pos (by decide)] at HR
    rw [HR]
    exact ord_k_lt k n k' n' t t' l l' (decide_eq_true h) (decide_eq_false (by omega)) A A' c c' w hs.2.2.2 hs'.2.2.2
  · subst h
    rw [sgnI_self, if_neg (by decide)] at HR
    rcases Int.lt_trichotomy n n' with h | h | h
    · have e : sgnI n n' = -1 := by unfold sgnI; rw [if_pos h]
      rw [e, if_pos (by decide)] at HR
      rw [HR]
      exact ord_n_lt k n n' t t' l l' (decide_eq_true h) (decide_eq_false (by omega)) A A' c c' w hs.2.2.2 hs'.2.2.2
    · subst h
      rw [sgnI_self, if_neg (by decide)] at HR
      by_cases ht : t = t'
      · subst ht
        rw [sgnT_self, if_neg (by decide)] at HR
        rw [HR]
        exact ord_lists k n t l ih l' A A' c c' w hs.2.2.2 hs'.2.2.2 hl hl'
      · cases hb : Op.bytesLess t.toList t'.toList
        · have e : sgnT t t' = 1 := by unfold sgnT; rw [if_neg (by rw [hb]; decide), if_neg ht]
          rw [e, if_pos (by decide)] at HR
          rw [HR]
          exact ord_t_gt k n t t' l l' hb (by rw [text_eqb]; exact decide_eq_false ht) A A' c c' w hs.2.2.2 hs'.2.2.2
        · have e : sgnT t t' = -1 := by unfold sgnT; rw [if_pos hb]
          rw [e, if_pos (by decide)] at HR
          rw [HR]
          exact ord_t_lt k n t t' l l' hb A A' c c' w hs.2.2.2 hs'.2.2.2
    · have e : sgnI n n' = 1 := by unfold sgnI; rw [if_neg (by omega), if_pos h]
      rw [e, if_pos (by decide)] at HR
      rw [HR]
      exact ord_n_gt k n n' t t' l l' (decide_eq_false (by omega)) (decide_eq_true h) A A' c c' w hs.2.2.2 hs'.2.2.2
  · have e : sgnI k k' = 1 := by unfold sgnI; rw [if_neg (by omega), if_pos h]
    rw [e, if_pos (by decide)] at HR
    rw [HR]
    exact ord_k_gt k n k' n' t t' l l' (decide_eq_false (by omega)) (decide_eq_true h) A A' c c' w hs.2.2.2 hs'.2.2.2
theorem ord_all : ∀ (z : Nat) (p : Pl), SizeOf.sizeOf p ≤ z → OrdAll p := by
  intro z
  induction z with
  | zero => intro p h; cases p; simp at h
  | succ z ih =>
    intro p hp
    obtain ⟨k, n, t, l⟩ := p
    exact ord_step k n t l (fun j hj => ih l[j] (by have := Pl.size_lt (k := k) (n := n) (t := t) hj; omega))
/-- espalierref2.order of any two. -/
theorem ref2_order (p q : Pl) (A A' : Option Addr) (c c' : Nat) (w : World) (h0 : p.sane) (h0' : q.sane) (h1 : Pls.lies w w.heap.size p.list A) (h2 : Pls.lies w w.heap.size q.list A') : Calls Tryz.prog 83 #[p.arg A c, q.arg A' c'] w (Bel (.int .i64 (p.ord q)) w) :=
  ord_all _ p (Nat.le_refl _) q A A' c c' w h0 h0' h1 h2
end Go.Proofs.YtjdpnljaichdmaaGreatDoor
