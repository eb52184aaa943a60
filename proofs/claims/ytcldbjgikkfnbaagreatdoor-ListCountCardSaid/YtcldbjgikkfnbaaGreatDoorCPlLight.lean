/-
  espalierlaw2.Light: what it counts: a walk, for every plain value. Conditions: it lies in memory.
-/
import Derived.Test.YtcldbjgikkfnbaaGreatDoorCPlMarks
import Derived.Test.YtcldbjgikkfnbaaGreatDoorProg
import Derived.Lib.Strings
namespace Go.Proofs.YtcldbjgikkfnbaaGreatDoor
open Go.RowKit
set_option linter.unusedVariables false

mutual
/-- What is left of a count. -/
def Pl.light : Pl → Int → Int → Int
  | .mk _ _ t l, m, deep => if 70 < deep then -1 else Pls.light l (m - 1 - (t.size : Int) / 4) (deep + 1)
def Pls.light : List Pl → Int → Int → Int
  | [], m, _ => m
  | p :: ps, m, deep => if 0 ≤ m then Pls.light ps (p.light m deep) deep else m
end
mutual
theorem Pl.light_le {w : World} {B : Nat} : ∀ (p : Pl) (b o : Nat) (m deep : Int), p.lies w B b o → 0 ≤ m → p.light m deep ≤ m ∧ -140737488355328 ≤ p.light m deep
  | .mk k n t l, b, o, m, deep, h, hm => by
    unfold Pl.lies at h
    obtain ⟨h0, h1, h2, h3, h4, h5, h6, h7, A, c, h8, h9⟩ := h
    have ih := Pls.light_le l A (m - 1 - (t.size : Int) / 4) (deep + 1) h9 (by omega)
    unfold Pl.light
    split <;> omega
theorem Pls.light_le {w : World} {B : Nat} : ∀ (l : List Pl) (A : Option Addr) (m deep : Int), Pls.lies w B l A → -140737488355328 ≤ m → Pls.light l m deep ≤ m ∧ -140737488355328 ≤ Pls.light l m deep
  | [], A, m, deep, h, hm => by unfold Pls.light; omega
  | p :: ps, A, m, deep, h, hm => by
    unfold Pls.lies at h
    obtain ⟨b, o, e, h1, h2⟩ := h
    unfold Pls.light
    by_cases h0 : 0 ≤ m
    · rw [if_pos h0]
      have i1 := Pl.light_le p b o m deep h1 h0
      have i2 := Pls.light_le ps _ (p.light m deep) deep h2 i1.2
      omega
    · rw [if_neg h0]; omega
end
theorem Pls.light_step {l : List Pl} {k : Nat} (h : k < l.length) (m deep : Int) (hm : 0 ≤ m) : Pls.light (l.drop k) m deep = Pls.light (l.drop (k + 1)) (l[k].light m deep) deep := by
  rw [List.drop_eq_getElem_cons h, Pls.light, if_pos hm]
theorem Pls.light_neg (l : List Pl) (m deep : Int) (hm : ¬ 0 ≤ m) : Pls.light l m deep = m := by
  cases l with
  | nil => unfold Pls.light; rfl
  | cons p ps => unfold Pls.light; rw [if_neg hm]
set_option maxRecDepth 100000 in
set_option maxHeartbeats 4000000 in
theorem light_step (k n : Int) (t : ByteArray) (l : List Pl)
    (ih : ∀ (j : Nat) (h : j < l.length) (A : Option Addr) (c : Nat) (m deep : Int) (w : World), l[j].text.size ≤ 140737488351232 → l[j].list.length * 56 ≤ 140737488351232 → Pls.lies w w.heap.size l[j].list A → 0 ≤ m → m ≤ 70000 → 0 ≤ deep → deep ≤ 71 →
      Calls Tryz.prog 42 #[l[j].arg A c, .int .i64 m, .int .i64 deep] w (Bel (.int .i64 (l[j].light m deep)) w))
    (A : Option Addr) (c : Nat) (m deep : Int) (w : World) (ht : t.size ≤ 140737488351232) (hlen : l.length * 56 ≤ 140737488351232) (hl : Pls.lies w w.heap.size l A) (hm0 : 0 ≤ m) (hm1 : m ≤ 70000) (hd0 : 0 ≤ deep) (hd1 : deep ≤ 71) :
    Calls Tryz.prog 42 #[.agg #[.int .i64 k, .int .i64 n, .string t, .slice A l.length c], .int .i64 m, .int .i64 deep] w (Bel (.int .i64 ((Pl.mk k n t l).light m deep)) w) := by
  have IH := Lib.hid ih
  have HL := Lib.hid hl
  have HB : Hid (Below w.heap.size w (w.alloc (.cells #[.int .i64 k, .int .i64 n, .string t, .slice A l.length c] 31))) := (Below.refl _ _).alloc (Nat.le_refl _) _
  have hll := Lib.hid (Pls.light_le l A (m - 1 - (t.size : Int) / 4) (deep + 1) hl (by omega))
  clear ih hl
  by_cases hd : 70 < deep
  · have hx := Lib.hid (show (Pl.mk k n t l).light m deep = -1 by unfold Pl.light; rw [if_pos hd])
    go_enter Tryz.func42, Tryz.ntmps42
    go_wp2
    go_ret
    exact ⟨by rw [hx.out]; rfl, HB.out⟩
  · have hx := Lib.hid (show (Pl.mk k n t l).light m deep = Pls.light l (m - 1 - (t.size : Int) / 4) (deep + 1) by unfold Pl.light; rw [if_neg hd])
    have hd2 : decide (70 < deep) = false := by simp; omega
    go_enter Tryz.func42, Tryz.ntmps42
    go_wp2
    go_loopw [1, 7] (fun s1 i wr => ∃ (j : Nat) (m' : Int), j ≤ l.length ∧ i = .int .i64 j ∧ s1 = .int .i64 m' ∧ m' ≤ 70000 ∧ -140737488355328 ≤ m' ∧ Pls.light (l.drop j) m' (deep + 1) = Pls.light l (m - 1 - (t.size : Int) / 4) (deep + 1) ∧ Below (w.heap.size + 1) (w.alloc (.cells #[.int .i64 k, .int .i64 n, .string t, .slice A l.length c] 31)) wr) (fun s1 i wr => l.length - (intOf i).toNat)
    case atStart => exact ⟨0, _, Nat.zero_le _, rfl, rfl, by omega, by omega, rfl, Below.refl _ _⟩
    case round =>
      obtain ⟨j, m', hj, rfl, rfl, hm2, hm3, heq, hbel⟩ := hrel
      have HE := Lib.hid heq
      have HBL := Lib.hid hbel
      have hx0 := Lib.hid ((hbel.block w.heap.size (by omega)).trans (heap_alloc_new w _))
      have HS : w.heap.size + 1 ≤ wr.heap.size := by have := hbel.size; simpa using this
      clear heq hbel
      have c3 : wr.cell? ⟨w.heap.size, 3, none⟩ = some (.slice A l.length c) := cell_of_row _ _ 3 _ _ _ hx0.out
      by_cases hlt : j < l.length
      · by_cases hm4 : 0 ≤ m'
        · obtain ⟨b', o', rfl⟩ := HL.out.head (by omega)
          have hlies := (HL.out.below (B' := wr.heap.size) (HB.out.trans (HBL.out.mono (by omega))) (by omega)).at_ j hlt
          obtain ⟨hbb, e0, e1, e2, hlen2, A', c', e3, hll⟩ := hlies.parts
          have htx := Lib.hid hlies.text
          have hle := Lib.hid (Pl.light_le _ _ _ m' (deep + 1) hlies hm4)
          have HLL := Lib.hid (IH.out j hlt A' c' m' (deep + 1) wr htx.out hlen2 hll hm4 hm2 (by omega) (by omega))
          have HST := Lib.hid (Pls.light_step hlt m' (deep + 1) hm4)
          clear hll hlies
          unfold Pl.arg at HLL
          go_wp2_with fail
          refine HLL.out.mono ?_
          rintro e w2 ⟨rfl, hb⟩
          have HB2 := Lib.hid (HBL.out.trans (hb.mono HS))
          have hle2 := hle.out
          clear hb
          go_wp2
          go_roundw
          case rel => exact ⟨j + 1, _, by omega, by go_num, rfl, by omega, by omega, by rw [← HE.out, HST.out], HB2.out⟩
          case measure => simp [intOf]; omega
        · have hd4 : decide (0 ≤ m') = false := by simp; omega
          have hfin := Lib.hid (show Pls.light l (m - 1 - (t.size : Int) / 4) (deep + 1) = m' by rw [← HE.out]; exact Pls.light_neg _ _ _ hm4)
          go_wp2
          go_ret
          exact ⟨by rw [hx.out, hfin.out]; rfl, HB.out.trans (HBL.out.mono (by omega))⟩
      · have hfin := Lib.hid (show Pls.light l (m - 1 - (t.size : Int) / 4) (deep + 1) = m' by
          rw [← HE.out, List.drop_eq_nil_of_le (by omega)]; unfold Pls.light; rfl)
        go_wp2
        go_ret
        exact ⟨by rw [hx.out, hfin.out]; rfl, HB.out.trans (HBL.out.mono (by omega))⟩
theorem light_all : ∀ (z : Nat) (p : Pl), SizeOf.sizeOf p ≤ z → ∀ (A : Option Addr) (c : Nat) (m deep : Int) (w : World), p.text.size ≤ 140737488351232 → p.list.length * 56 ≤ 140737488351232 → Pls.lies w w.heap.size p.list A → 0 ≤ m → m ≤ 70000 → 0 ≤ deep → deep ≤ 71 →
      Calls Tryz.prog 42 #[p.arg A c, .int .i64 m, .int .i64 deep] w (Bel (.int .i64 (p.light m deep)) w) := by
  intro z
  induction z with
  | zero => intro p h; cases p; simp at h
  | succ z ih =>
    intro p hp A c m deep w h0 h1 h2 h3 h4 h5 h6
    obtain ⟨k, n, t, l⟩ := p
    exact light_step k n t l (fun j hj => ih l[j] (by have := Pl.size_lt (k := k) (n := n) (t := t) hj; omega)) A c m deep w h0 h1 h2 h3 h4 h5 h6
def Pl.isLight (p : Pl) : Bool := decide (0 ≤ p.light 70000 0)
set_option maxRecDepth 100000 in
/-- espalierlaw2.Light. -/
theorem law2_Light (p : Pl) (A : Option Addr) (c : Nat) (w : World) (h0 : p.text.size ≤ 140737488351232) (h1 : p.list.length * 56 ≤ 140737488351232) (h2 : Pls.lies w w.heap.size p.list A) :
    Calls Tryz.prog 26 #[p.arg A c] w (Bel (.bool p.isLight) w) := by
  have HB : Hid (Below w.heap.size w (w.alloc (.cells #[.int .i64 p.kind, .int .i64 p.num, .string p.text, .slice A p.list.length c] 31))) := (Below.refl _ _).alloc (Nat.le_refl _) _
  have KL := Lib.hid (light_all _ p (Nat.le_refl _) A c 70000 0 (w.alloc (.cells #[.int .i64 p.kind, .int .i64 p.num, .string p.text, .slice A p.list.length c] 31)) h0 h1 (h2.below HB.out (by simp)) (by omega) (by omega) (by omega) (by omega))
  unfold Pl.arg at KL ⊢
  clear h2
  go_enter Tryz.func26, Tryz.ntmps26
  go_wp2_with fail
  refine KL.out.mono ?_
  rintro e w2 ⟨rfl, hb⟩
  have HB2 := Lib.hid (HB.out.trans (hb.mono (by simp)))
  clear hb
  go_wp2
  go_ret
  exact ⟨rfl, HB2.out⟩
end Go.Proofs.YtcldbjgikkfnbaaGreatDoor
