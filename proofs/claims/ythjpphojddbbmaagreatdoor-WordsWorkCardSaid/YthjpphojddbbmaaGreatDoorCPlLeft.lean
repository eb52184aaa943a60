/-
  espalierref2.May: what is left of a size: a walk, for every plain value; it lets through the same as zval. Conditions: it lies in memory.
-/
import Derived.Test.YthjpphojddbbmaaGreatDoorCPlMarks
import Derived.Test.YthjpphojddbbmaaGreatDoorCBase
import Derived.Test.YthjpphojddbbmaaGreatDoorProg
import Derived.Lib.Strings
import Derived.Deep.CutRange
import Derived.Deep.CutBlock
namespace Go.Proofs.YthjpphojddbbmaaGreatDoor
open Go.RowKit
set_option linter.unusedVariables false

/-- Its own form. -/
def goodB (k n : Int) (t : ByteArray) (len : Nat) (deep : Int) : Bool :=
  if k = 1 then decide (n = 0) && decide (t.size = 0) && decide (len = 0)
  else if k = 2 then (decide (n = 0) || decide (n = 1)) && decide (t.size = 0) && decide (len = 0)
  else if k = 3 then decide (t.size = 0) && decide (len = 0)
  else if k = 4 then decide (n = 0) && decide (len = 0)
  else if k = 5 then decide (n = 0) && decide (t.size = 0) && decide (deep < 64)
  else false
mutual
/-- What is left of a size. -/
def Pl.left : Pl → Int → Int → Int
  | .mk k n t l, m, deep => if goodB k n t l.length deep = false ∨ m - 1 - (t.size : Int) < 0 then -1 else Pls.left l (m - 1 - (t.size : Int)) (deep + 1)
def Pls.left : List Pl → Int → Int → Int
  | [], m, _ => m
  | p :: ps, m, deep => if 0 ≤ m then Pls.left ps (p.left m deep) deep else m
end
mutual
theorem Pl.left_le : ∀ (p : Pl) (m deep : Int), 0 ≤ m → p.left m deep ≤ m ∧ -1 ≤ p.left m deep
  | .mk k n t l, m, deep, hm => by
    unfold Pl.left
    by_cases h : goodB k n t l.length deep = false ∨ m - 1 - (t.size : Int) < 0
    · rw [if_pos h]; omega
    · rw [if_neg h]
      have ih := Pls.left_le l (m - 1 - (t.size : Int)) (deep + 1) (by omega)
      omega
theorem Pls.left_le : ∀ (l : List Pl) (m deep : Int), -1 ≤ m → Pls.left l m deep ≤ m ∧ -1 ≤ Pls.left l m deep
  | [], m, deep, hm => by unfold Pls.left; omega
  | p :: ps, m, deep, hm => by
    unfold Pls.left
    by_cases h0 : 0 ≤ m
    · rw [if_pos h0]
      have i1 := Pl.left_le p m deep h0
      have i2 := Pls.left_le ps (p.left m deep) deep i1.2
      omega
    · rw [if_neg h0]; omega
end
theorem Pls.left_step {l : List Pl} {k : Nat} (h : k < l.length) (m deep : Int) (hm : 0 ≤ m) : Pls.left (l.drop k) m deep = Pls.left (l.drop (k + 1)) (l[k].left m deep) deep := by
  rw [List.drop_eq_getElem_cons h, Pls.left, if_pos hm]
theorem Pls.left_neg (l : List Pl) (m deep : Int) (hm : ¬ 0 ≤ m) : Pls.left l m deep = m := by
  cases l with
  | nil => unfold Pls.left; rfl
  | cons p ps => unfold Pls.left; rw [if_neg hm]
set_option maxRecDepth 100000 in
set_option maxHeartbeats 4000000 in
theorem left_step (k n : Int) (t : ByteArray) (l : List Pl)
    (ih : ∀ (j : Nat) (h : j < l.length) (A : Option Addr) (c : Nat) (m deep : Int) (w : World), l[j].sane → Pls.lies w w.heap.size l[j].list A → 0 ≤ m → m ≤ 65536 → 0 ≤ deep → deep ≤ 65 →
      Calls Tryz.prog 83 #[l[j].arg A c, .int .i64 m, .int .i64 deep] w (Bel (.int .i64 (l[j].left m deep)) w))
    (A : Option Addr) (c : Nat) (m deep : Int) (w : World) (hs : (Pl.mk k n t l).sane) (hl : Pls.lies w w.heap.size l A) (hm0 : 0 ≤ m) (hm1 : m ≤ 65536) (hd0 : 0 ≤ deep) (hd1 : deep ≤ 65) :
    Calls Tryz.prog 83 #[.agg #[.int .i64 k, .int .i64 n, .string t, .slice A l.length c], .int .i64 m, .int .i64 deep] w (Bel (.int .i64 ((Pl.mk k n t l).left m deep)) w) := by
  have IH := Lib.hid ih
  have HL := Lib.hid hl
  generalize hX : Obj.cells #[.int .i64 k, .int .i64 n, .string t, .slice A l.length c] 34 = X
  have HX := Lib.hid hX
  have HB0 := Lib.hid ((Below.refl w.heap.size w).alloc (Nat.le_refl _) X)
  have D1 := Lib.hid (heap_alloc_new w X)
  have ht : t.size ≤ 140737488351232 := hs.2.2.1
  have hlen : l.length * 56 ≤ 140737488351232 := hs.2.2.2
  have hempty : Hid (t.toList = [] ↔ t.size = 0) := Lib.hid (by rw [Lib.toList_data, ← List.length_eq_zero_iff]; simp)
  clear ih hs hl hX
  go_enter Tryz.func83, Tryz.ntmps83
  go_upto_block 0 with fail
  rw [HX.out]
  have c0 : (w.alloc X).cell? ⟨w.heap.size, 0, none⟩ = some (.int .i64 k) := cell_of_row _ _ 0 _ _ _ (by rw [D1.out, ← HX.out])
  have c1 : (w.alloc X).cell? ⟨w.heap.size, 1, none⟩ = some (.int .i64 n) := cell_of_row _ _ 1 _ _ _ (by rw [D1.out, ← HX.out])
  have c2 : (w.alloc X).cell? ⟨w.heap.size, 2, none⟩ = some (.string t) := cell_of_row _ _ 2 _ _ _ (by rw [D1.out, ← HX.out])
  have c3 : (w.alloc X).cell? ⟨w.heap.size, 3, none⟩ = some (.slice A l.length c) := cell_of_row _ _ 3 _ _ _ (by rw [D1.out, ← HX.out])
  generalize hW : w.alloc X = W at *
  go_cut [7] from 11 to 83 (fun s7 wx => s7 = .bool (goodB k n t l.length deep) ∧ wx = W)
  case first =>
    clear HL IH HB0 D1 HX hW
    have hlb := Lib.hid (show ((l.length : Int) == 0) = decide (l = []) by rw [Bool.eq_iff_iff]; simp)
    by_cases h1 : k = 1
    · subst h1
      by_cases hn : n = 0
      · have hx0 : (n == 0) = true := by simpa using hn
        have HN := Lib.hid hn
        clear hn
        by_cases ht0 : t.toList = []
        · have hts : t.size = 0 := hempty.out.1 ht0
          go_wp2
          all_goals go_meet
          all_goals exact ⟨congrArg Value.bool (by simp [goodB, HN.out, hts, hlb.out]), rfl⟩
        · have htn : ¬ t.size = 0 := fun h => ht0 (hempty.out.2 h)
          have htb : t.toList.isEmpty = false := by simpa using ht0
          go_wp2
          all_goals go_meet
          all_goals exact ⟨congrArg Value.bool (by simp [goodB, HN.out, htn]), rfl⟩
      · have hx0 : (n == 0) = false := by simpa using hn
        go_wp2
        all_goals go_meet
        all_goals exact ⟨congrArg Value.bool (by simp [goodB, hn]), rfl⟩
    · have hk1 : (k == 1) = false := by simpa using h1
      by_cases h2 : k = 2
      · subst h2
        by_cases hn : n = 0
        · have hx0 : (n == 0) = true := by simpa using hn
          have HN := Lib.hid hn
          clear hn
          by_cases ht0 : t.toList = []
          · have hts : t.size = 0 := hempty.out.1 ht0
            go_wp2
            all_goals go_meet
            all_goals exact ⟨congrArg Value.bool (by simp [goodB, HN.out, hts, hlb.out]), rfl⟩
          · have htn : ¬ t.size = 0 := fun h => ht0 (hempty.out.2 h)
            have htb : t.toList.isEmpty = false := by simpa using ht0
            go_wp2
            all_goals go_meet
            all_goals exact ⟨congrArg Value.bool (by simp [goodB, HN.out, htn]), rfl⟩
        · have hx0 : (n == 0) = false := by simpa using hn
          by_cases hn1 : n = 1
          · have hx1 : (n == 1) = true := by simpa using hn1
            have HN1 := Lib.hid hn1
            clear hn1 hn
            by_cases ht0 : t.toList = []
            · have hts : t.size = 0 := hempty.out.1 ht0
              go_wp2
              all_goals go_meet
              all_goals exact ⟨congrArg Value.bool (by simp [goodB, HN1.out, hts, hlb.out]), rfl⟩
            · have htn : ¬ t.size = 0 := fun h => ht0 (hempty.out.2 h)
              have htb : t.toList.isEmpty = false := by simpa using ht0
              go_wp2
              all_goals go_meet
              all_goals exact ⟨congrArg Value.bool (by simp [goodB, HN1.out, htn]), rfl⟩
          · have hx1 : (n == 1) = false := by simpa using hn1
            go_wp2
            all_goals go_meet
            all_goals exact ⟨congrArg Value.bool (by simp [goodB, hn, hn1]), rfl⟩
      · have hk2 : (k == 2) = false := by simpa using h2
        by_cases h3 : k = 3
        · subst h3
          by_cases ht0 : t.toList = []
          · have hts : t.size = 0 := hempty.out.1 ht0
            go_wp2
            all_goals go_meet
            all_goals exact ⟨congrArg Value.bool (by simp [goodB, hts, hlb.out]), rfl⟩
          · have htn : ¬ t.size = 0 := fun h => ht0 (hempty.out.2 h)
            have htb : t.toList.isEmpty = false := by simpa using ht0
            go_wp2
            all_goals go_meet
            all_goals exact ⟨congrArg Value.bool (by simp [goodB, htn]), rfl⟩
        · have hk3 : (k == 3) = false := by simpa using h3
          by_cases h4 : k = 4
          · subst h4
            by_cases hn : n = 0
            · have hx0 : (n == 0) = true := by simpa using hn
              have HN := Lib.hid hn
              clear hn
              go_wp2
              all_goals go_meet
              all_goals exact ⟨congrArg Value.bool (by simp [goodB, HN.out, hlb.out]), rfl⟩
            · have hx0 : (n == 0) = false := by simpa using hn
              go_wp2
              all_goals go_meet
              all_goals exact ⟨congrArg Value.bool (by simp [goodB, hn]), rfl⟩
          · have hk4 : (k == 4) = false := by simpa using h4
            by_cases h5 : k = 5
            · subst h5
              by_cases hn : n = 0
              · have hx0 : (n == 0) = true := by simpa using hn
                have HN := Lib.hid hn
                clear hn
                by_cases ht0 : t.toList = []
                · have hts : t.size = 0 := hempty.out.1 ht0
                  by_cases hdp : deep < 64
                  · have hdx := hdp
                    go_wp2
                    all_goals go_meet
                    all_goals exact ⟨congrArg Value.bool (by simp [goodB, HN.out, hts, hdp]), rfl⟩
                  · have hdx : decide (deep < 64) = false := by simpa using hdp
                    go_wp2
                    all_goals go_meet
                    all_goals exact ⟨congrArg Value.bool (by simp [goodB, HN.out, hts, hdp]), rfl⟩
                · have htn : ¬ t.size = 0 := fun h => ht0 (hempty.out.2 h)
                  have htb : t.toList.isEmpty = false := by simpa using ht0
                  go_wp2
                  all_goals go_meet
                  all_goals exact ⟨congrArg Value.bool (by simp [goodB, HN.out, htn]), rfl⟩
              · have hx0 : (n == 0) = false := by simpa using hn
                go_wp2
                all_goals go_meet
                all_goals exact ⟨congrArg Value.bool (by simp [goodB, hn]), rfl⟩
            · have hk5 : (k == 5) = false := by simpa using h5
              go_wp2
              all_goals go_meet
              all_goals exact ⟨congrArg Value.bool (by simp [goodB, h1, h2, h3, h4, h5]), rfl⟩
  case rest =>
    obtain ⟨rfl, rfl⟩ := hcut
    cases hg : goodB k n t l.length deep
    · have hx := Lib.hid (show (Pl.mk k n t l).left m deep = -1 by unfold Pl.left; rw [if_pos (.inl hg)])
      go_wp2
      go_ret
      exact ⟨by rw [hx.out]; rfl, HB0.out⟩
    · by_cases hneg : m - 1 - (t.size : Int) < 0
      · have hx := Lib.hid (show (Pl.mk k n t l).left m deep = -1 by unfold Pl.left; rw [if_pos (.inr hneg)])
        have hd : decide (m - 1 - (t.size : Int) < 0) = true := by simpa using hneg
        go_wp2
        go_ret
        exact ⟨by rw [hx.out]; rfl, HB0.out⟩
      · have hx := Lib.hid (show (Pl.mk k n t l).left m deep = Pls.left l (m - 1 - (t.size : Int)) (deep + 1) by unfold Pl.left; rw [if_neg (by rw [hg]; simpa using hneg)])
        have hd : decide (m - 1 - (t.size : Int) < 0) = false := by simp; omega
        have hdeep : l ≠ [] → deep < 64 := fun hne => by
          unfold goodB at hg
          split at hg
          · simp [hne] at hg
          · split at hg
            · simp [hne] at hg
            · split at hg
              · simp [hne] at hg
              · split at hg
                · simp [hne] at hg
                · split at hg
                  · simp only [Bool.and_eq_true, decide_eq_true_eq] at hg; exact hg.2
                  · cases hg
        have HD := Lib.hid hdeep
        clear hdeep
        have hzw : w.heap.size < wc.heap.size := lt_of_block D1.out
        go_wp2
        clear c0 c1 c2 c3
        go_loopw [1, 8] (fun s1 s8 wr => ∃ (j : Nat) (m' : Int), j ≤ l.length ∧ s8 = .int .i64 (j : Int) ∧ s1 = .int .i64 m' ∧ m' ≤ 65536 ∧ -1 ≤ m' ∧ Pls.left (l.drop j) m' (deep + 1) = Pls.left l (m - 1 - (t.size : Int)) (deep + 1) ∧ wr.heap[w.heap.size]? = some X ∧ Below w.heap.size w wr) (fun _ s8 _ => l.length - (intOf s8).toNat)
        case atStart => exact ⟨0, _, Nat.zero_le _, rfl, rfl, by omega, by omega, rfl, D1.out, HB0.out⟩
        case round =>
          obtain ⟨j, m', hj, rfl, rfl, hm2, hm3, heq, hb1, hbel⟩ := hrel
          have HE := Lib.hid heq
          have B1 := Lib.hid hb1
          have HB := Lib.hid hbel
          have hsz : w.heap.size < wr.heap.size := lt_of_block hb1
          clear heq hb1 hbel
          have c3 : wr.cell? ⟨w.heap.size, 3, none⟩ = some (.slice A l.length c) := cell_of_row _ _ 3 _ _ _ (by rw [B1.out, ← HX.out])
          by_cases hlt : j < l.length
          · by_cases hm4 : 0 ≤ m'
            · obtain ⟨b', o', rfl⟩ := HL.out.head (by omega)
              have hdp := HD.out (by intro e; rw [e] at hlt; simp at hlt)
              have hlies := (HL.out.below HB.out (by omega : w.heap.size ≤ wr.heap.size)).at_ j hlt
              obtain ⟨hbb, e0, e1, e2, hlen2, A', c', e3, hll⟩ := hlies.parts
              have hle := Lib.hid (Pl.left_le l[j] m' (deep + 1) hm4)
              have HLL := Lib.hid (IH.out j hlt A' c' m' (deep + 1) wr hlies.sane hll hm4 hm2 (by omega) (by omega))
              have HST := Lib.hid (Pls.left_step hlt m' (deep + 1) hm4)
              clear hll hlies
              unfold Pl.arg at HLL
              go_wp2_with fail
              refine HLL.out.mono ?_
              rintro e w2 ⟨rfl, hb⟩
              have B2 := Lib.hid ((hb.block w.heap.size hsz).trans B1.out)
              have HB2 := Lib.hid (HB.out.trans (hb.mono HB.out.size))
              have hle2 := hle.out
              clear hb
              go_wp2
              go_roundw
              case rel => exact ⟨j + 1, _, by omega, by go_num, rfl, by omega, by omega, by rw [← HE.out, HST.out], B2.out, HB2.out⟩
              case measure => simp [intOf]; omega
            · have hd4 : decide (0 ≤ m') = false := by simp; omega
              have hfin := Lib.hid (show Pls.left l (m - 1 - (t.size : Int)) (deep + 1) = m' by rw [← HE.out]; exact Pls.left_neg _ _ _ hm4)
              go_wp2
              go_ret
              exact ⟨by rw [hx.out, hfin.out]; rfl, HB.out⟩
          · have hfin := Lib.hid (show Pls.left l (m - 1 - (t.size : Int)) (deep + 1) = m' by
              rw [← HE.out, List.drop_eq_nil_of_le (by omega)]; unfold Pls.left; rfl)
            go_wp2
            go_ret
            exact ⟨by rw [hx.out, hfin.out]; rfl, HB.out⟩
theorem left_all : ∀ (z : Nat) (p : Pl), SizeOf.sizeOf p ≤ z → ∀ (A : Option Addr) (c : Nat) (m deep : Int) (w : World), p.sane → Pls.lies w w.heap.size p.list A → 0 ≤ m → m ≤ 65536 → 0 ≤ deep → deep ≤ 65 →
      Calls Tryz.prog 83 #[p.arg A c, .int .i64 m, .int .i64 deep] w (Bel (.int .i64 (p.left m deep)) w) := by
  intro z
  induction z with
  | zero => intro p h; cases p; simp at h
  | succ z ih =>
    intro p hp A c m deep w h1 h2 h3 h4 h5 h6
    obtain ⟨k, n, t, l⟩ := p
    exact left_step k n t l (fun j hj => ih l[j] (by have := Pl.size_lt (k := k) (n := n) (t := t) hj; omega)) A c m deep w h1 h2 h3 h4 h5 h6
set_option maxRecDepth 100000 in
/-- espalierref2.May. -/
theorem ref2_May (p : Pl) (A : Option Addr) (c : Nat) (w : World) (h1 : p.sane) (h2 : Pls.lies w w.heap.size p.list A) :
    Calls Tryz.prog 56 #[p.arg A c] w (Bel (.bool (decide (0 ≤ p.left 65536 0))) w) := by
  have HB : Hid (Below w.heap.size w (w.alloc (.cells #[.int .i64 p.kind, .int .i64 p.num, .string p.text, .slice A p.list.length c] 34))) := (Below.refl _ _).alloc (Nat.le_refl _) _
  have KL := Lib.hid (left_all _ p (Nat.le_refl _) A c 65536 0 (w.alloc (.cells #[.int .i64 p.kind, .int .i64 p.num, .string p.text, .slice A p.list.length c] 34)) h1 (h2.below HB.out (by simp)) (by omega) (by omega) (by omega) (by omega))
  unfold Pl.arg at KL ⊢
  clear h2
  go_enter Tryz.func56, Tryz.ntmps56
  go_wp2_with fail
  refine KL.out.mono ?_
  rintro e w2 ⟨rfl, hb⟩
  have HB2 := Lib.hid (HB.out.trans (hb.mono (by simp)))
  clear hb
  go_wp2
  go_ret
  exact ⟨rfl, HB2.out⟩
theorem right5 (n : Int) (t : ByteArray) (l : List Pl) (m deep : Int) : (Pl.mk 5 n t l).right m deep = if m - 1 < 0 ∨ 64 < deep ∨ t.size ≠ 0 then (false, m - 1) else ((Pls.right l (m - 1) (deep + 1)).1 && decide (n = 0), (Pls.right l (m - 1) (deep + 1)).2) := by
  rw [Pl.right]
  by_cases h : m - 1 < 0 ∨ 64 < deep ∨ t.size ≠ 0
  · rw [if_pos h, if_pos (by rcases h with h | h | h; exact .inl h; exact .inr (.inl h); exact .inr (.inr (.inl ⟨by decide, h⟩)))]
  · rw [if_neg h, if_neg (by rintro (h' | h' | ⟨_, h'⟩ | ⟨h', _⟩); exact h (.inl h'); exact h (.inr (.inl h')); exact h (.inr (.inr h')); exact h' rfl)]; rfl
theorem meas5 (n : Int) (t : ByteArray) (l : List Pl) (m deep : Int) : (Pl.mk 5 n t l).toVl.measure m deep = if 64 ≤ deep then -1 else Vls.measure (Pls.toVl l) (m - 1) (deep + 1) := by
  rw [Pl.toVl]; rfl
theorem left5 (n : Int) (t : ByteArray) (l : List Pl) (m deep : Int) : (Pl.mk 5 n t l).left m deep = if ¬ (n = 0 ∧ t.size = 0 ∧ deep < 64) ∨ m - 1 - (t.size : Int) < 0 then -1 else Pls.left l (m - 1 - (t.size : Int)) (deep + 1) := by
  rw [Pl.left]
  have hg : (goodB 5 n t l.length deep = false) ↔ ¬ (n = 0 ∧ t.size = 0 ∧ deep < 64) := by
    show ((decide (n = 0) && decide (t.size = 0) && decide (deep < 64)) = false) ↔ _
    rw [← Bool.not_eq_true]
    simp only [Bool.and_eq_true, decide_eq_true_eq, and_assoc]
  by_cases h : ¬ (n = 0 ∧ t.size = 0 ∧ deep < 64) ∨ m - 1 - (t.size : Int) < 0
  · rw [if_pos h, if_pos (by rw [hg]; exact h)]
  · rw [if_neg h, if_neg (by rw [hg]; exact h)]
theorem left_long {k n : Int} {t : ByteArray} {l : List Pl} {m deep : Int} (hk : k ≠ 5) (hl : 0 < l.length) : (Pl.mk k n t l).left m deep = -1 ∧ ((Pl.mk k n t l).right m deep).1 = false := by
  constructor
  · rw [Pl.left, if_pos]
    left
    unfold goodB
    have hb : decide (l.length = 0) = false := by simp; exact fun e => by rw [e] at hl; simp at hl
    rw [hb]
    simp only [Bool.and_false, if_neg hk]
    split <;> simp
  · rw [Pl.right, if_pos (.inr (.inr (.inr ⟨hk, hl⟩)))]
theorem scalar_ok (k n : Int) (t : ByteArray) (m deep : Int) (hk : k ≠ 5) (hm : 0 ≤ m) (hd0 : 0 ≤ deep) (hd1 : deep ≤ 64) :
    (((Pl.mk k n t []).right m deep).1 = true ∧ 0 ≤ (Pl.mk k n t []).toVl.measure m deep → 0 ≤ (Pl.mk k n t []).left m deep) ∧ (0 ≤ (Pl.mk k n t []).left m deep → ((Pl.mk k n t []).right m deep).1 = true ∧ ((Pl.mk k n t []).right m deep).2 = (Pl.mk k n t []).left m deep ∧ (Pl.mk k n t []).toVl.measure m deep = (Pl.mk k n t []).left m deep) := by
  have hd2 : ¬ 64 < deep := by omega
  rw [Pl.left, Pl.right, Pl.toVl, Pls.left]
  by_cases h1 : k = 1
  · subst h1
    by_cases hn : n = 0 <;> by_cases ht : t.size = 0 <;> by_cases hm1 : m - 1 < 0 <;> simp [goodB, Vl.measure, hn, ht, hm1, hd2] <;> (try omega)
  · by_cases h2 : k = 2
    · subst h2
      by_cases hn : n = 0 <;> by_cases hn1 : n = 1 <;> by_cases ht : t.size = 0 <;> by_cases hm1 : m - 1 < 0 <;> simp [goodB, Vl.measure, hn, hn1, ht, hm1, hd2] <;> (try omega)
    · by_cases h3 : k = 3
      · subst h3
        by_cases ht : t.size = 0 <;> by_cases hm1 : m - 1 < 0 <;> simp [goodB, Vl.measure, ht, hm1, hd2] <;> (try omega)
      · by_cases h4 : k = 4
        · subst h4
          by_cases hn : n = 0 <;> by_cases hm1 : m - 1 < 0 <;> by_cases hm2 : m - 1 - (t.size : Int) < 0 <;> simp [goodB, Vl.measure, hn, hm1, hm2, hd2] <;> (try omega)
        · simp [goodB, h1, h2, h3, h4, hk]
mutual
/-- zval's look and measure let through what this lets through, and leave as much. -/
theorem Pl.left_ok : ∀ (p : Pl) (m deep : Int), 0 ≤ m → 0 ≤ deep → deep ≤ 64 →
    ((p.right m deep).1 = true ∧ 0 ≤ p.toVl.measure m deep → 0 ≤ p.left m deep) ∧ (0 ≤ p.left m deep → (p.right m deep).1 = true ∧ (p.right m deep).2 = p.left m deep ∧ p.toVl.measure m deep = p.left m deep)
  | .mk k n t l, m, deep, hm, hd0, hd1 => by
    by_cases h5 : k = 5
    · subst h5
      rw [right5, meas5, left5]
      by_cases hd : deep < 64
      · rw [if_neg (by omega : ¬ 64 ≤ deep)]
        by_cases hc : m - 1 < 0 ∨ t.size ≠ 0
        · rw [if_pos (by rcases hc with h | h; exact .inl h; exact .inr (.inr h)), if_pos (by rcases hc with h | h; exact .inr (by omega); exact .inl (fun h' => h h'.2.1))]
          exact ⟨fun h => absurd h.1 (by simp), fun h => absurd h (by omega)⟩
        · have h1 : ¬ m - 1 < 0 := fun h => hc (.inl h)
          have h2 : t.size = 0 := Classical.byContradiction fun h => hc (.inr h)
          have ih := Pls.left_ok l (m - 1) (deep + 1) (by omega) (by omega) (by omega)
          rw [if_neg (by rintro (h | h | h); exact h1 h; omega; exact h h2)]
          rw [show m - 1 - (t.size : Int) = m - 1 by omega]
          by_cases hn : n = 0
          · rw [if_neg (by rintro (h | h); exact h ⟨hn, h2, hd⟩; exact h1 h)]
            simp only [hn, decide_true, Bool.and_true]
            exact ih
          · rw [if_pos (.inl (fun h => hn h.1))]
            exact ⟨fun h => absurd h.1 (by simp [hn]), fun h => absurd h (by omega)⟩
      · rw [if_pos (by omega : 64 ≤ deep), if_pos (show ¬ (n = 0 ∧ t.size = 0 ∧ deep < 64) ∨ m - 1 - (t.size : Int) < 0 from .inl (fun h => hd h.2.2))]
        exact ⟨fun h => absurd h.2 (by omega), fun h => absurd h (by omega)⟩
    · cases l with
      | nil => exact scalar_ok k n t m deep h5 hm hd0 hd1
      | cons x xs =>
        obtain ⟨h1, h2⟩ := left_long (k := k) (n := n) (t := t) (l := x :: xs) (m := m) (deep := deep) h5 (by simp)
        rw [h1, h2]
        exact ⟨fun h => absurd h.1 (by simp), fun h => absurd h (by omega)⟩
theorem Pls.left_ok : ∀ (l : List Pl) (m deep : Int), 0 ≤ m → 0 ≤ deep → deep ≤ 64 →
    ((Pls.right l m deep).1 = true ∧ 0 ≤ Vls.measure (Pls.toVl l) m deep → 0 ≤ Pls.left l m deep) ∧ (0 ≤ Pls.left l m deep → (Pls.right l m deep).1 = true ∧ (Pls.right l m deep).2 = Pls.left l m deep ∧ Vls.measure (Pls.toVl l) m deep = Pls.left l m deep)
  | [], m, deep, hm, hd0, hd1 => by
    unfold Pls.right Pls.toVl Vls.measure Pls.left
    exact ⟨fun h => h.2, fun h => ⟨rfl, rfl, rfl⟩⟩
  | p :: ps, m, deep, hm, hd0, hd1 => by
    have ih := Pl.left_ok p m deep hm hd0 hd1
    have hlp := Pl.left_le p m deep hm
    unfold Pls.right Pls.toVl Vls.measure Pls.left
    rw [if_pos hm]
    by_cases h : 0 ≤ p.left m deep
    · obtain ⟨h1, h2, h3⟩ := ih.2 h
      rw [if_pos h1, h2, h3, if_neg (by omega)]
      exact Pls.left_ok ps _ deep h hd0 hd1
    · rw [Pls.left_neg _ _ _ h]
      refine ⟨fun ⟨h1, h2⟩ => ?_, fun h' => absurd h' h⟩
      by_cases hr : (p.right m deep).1 = true
      · by_cases hmm : p.toVl.measure m deep < 0
        · rw [if_pos hmm] at h2; omega
        · exact ih.1 ⟨hr, by omega⟩
      · rw [if_neg hr] at h1; cases h1
end
theorem ok_left (p : Pl) : p.ok = decide (0 ≤ p.left 65536 0) := by
  have h := Pl.left_ok p 65536 0 (by omega) (by omega) (by omega)
  unfold Pl.ok
  rw [Bool.eq_iff_iff]
  simp only [Bool.and_eq_true, decide_eq_true_eq]
  exact ⟨h.1, fun h' => ⟨(h.2 h').1, by rw [(h.2 h').2.2]; exact h'⟩⟩
end Go.Proofs.YthjpphojddbbmaaGreatDoor
