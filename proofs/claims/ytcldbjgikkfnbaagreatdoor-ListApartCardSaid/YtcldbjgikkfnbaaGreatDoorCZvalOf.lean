/-
  Texts of a proof in one: ZvalOf, ZvalOfS. Conditions: each names its own.
-/
import Derived.Test.YtcldbjgikkfnbaaGreatDoorCBase
import Derived.Test.YtcldbjgikkfnbaaGreatDoorProg
import Derived.Test.YtcldbjgikkfnbaaGreatDoorCPlSameL
/-
  zval.Of: the value of a plain one, in memory of its own: a walk, for every plain value. Conditions: it lies in memory.
-/
namespace Go.Proofs.YtcldbjgikkfnbaaGreatDoor
open Go.RowKit
set_option linter.unusedVariables false

theorem info_value : (Tryz.prog.info? 35).map (fun i => (i.zero, i.size, i.bytes)) = some (some .nilIface, 1, 16) := by kernel_rfl
def OfPost (p : Pl) (w : World) (e : Ending) (w' : World) : Prop := ∃ v, e = .returned v ∧ p.toVl.is w' (fresh w w') v ∧ Below w.heap.size w w'

theorem of_scalar (k n : Int) (t : ByteArray) (l : List Pl) (hk : k ≠ 5) (A : Option Addr) (len c : Nat) (w : World) :
    Calls Tryz.prog 57 #[.agg #[.int .i64 k, .int .i64 n, .string t, .slice A len c]] w (OfPost (.mk k n t l) w) := by
  by_cases h2 : k = 2
  · have hx := Lib.hid (show (Pl.mk k n t l).toVl = .truth (decide (n = 1)) by rw [Pl.toVl, if_pos h2])
    subst h2
    go_enter Tryz.func57, Tryz.ntmps57
    go_wp2
    all_goals go_ret
    exact ⟨_, rfl, by rw [hx.out]; unfold Vl.is; congr 2, (Below.refl _ _).alloc (Nat.le_refl _) _⟩
  have h2b : (k == 2) = false := by simpa using h2
  by_cases h3 : k = 3
  · have hx := Lib.hid (show (Pl.mk k n t l).toVl = .int n by rw [Pl.toVl, if_neg h2, if_pos h3])
    subst h3
    go_enter Tryz.func57, Tryz.ntmps57
    go_wp2
    go_ret
    exact ⟨_, rfl, by rw [hx.out]; unfold Vl.is; rfl, (Below.refl _ _).alloc (Nat.le_refl _) _⟩
  have h3b : (k == 3) = false := by simpa using h3
  by_cases h4 : k = 4
  · have hx := Lib.hid (show (Pl.mk k n t l).toVl = .text t by rw [Pl.toVl, if_neg h2, if_neg h3, if_pos h4])
    subst h4
    go_enter Tryz.func57, Tryz.ntmps57
    go_wp2
    go_ret
    exact ⟨_, rfl, by rw [hx.out]; unfold Vl.is; rfl, (Below.refl _ _).alloc (Nat.le_refl _) _⟩
  have h4b : (k == 4) = false := by simpa using h4
  have hkb : (k == 5) = false := by simpa using hk
  have hx := Lib.hid (show (Pl.mk k n t l).toVl = .unit by rw [Pl.toVl, if_neg h2, if_neg h3, if_neg h4, if_neg hk])
  go_enter Tryz.func57, Tryz.ntmps57
  go_wp2
  go_ret
  exact ⟨_, rfl, by rw [hx.out]; unfold Vl.is; rfl, (Below.refl _ _).alloc (Nat.le_refl _) _⟩

theorem fresh_grow {w w' w'' : World} (h : w'.heap.size ≤ w''.heap.size) (b : Nat) (hb : fresh w w' b) : fresh w w'' b := ⟨hb.1, Nat.lt_of_lt_of_le hb.2 h⟩

set_option maxRecDepth 100000 in
set_option maxHeartbeats 2000000 in
theorem of_list (n : Int) (t : ByteArray) (l : List Pl)
    (ih : ∀ (j : Nat) (h : j < l.length) (A : Option Addr) (c : Nat) (w : World), l[j].list.length * 56 ≤ 140737488351232 → Pls.lies w w.heap.size l[j].list A →
      Calls Tryz.prog 57 #[.agg #[.int .i64 l[j].kind, .int .i64 l[j].num, .string l[j].text, .slice A l[j].list.length c]] w (OfPost l[j] w))
    (A : Option Addr) (c : Nat) (w : World) (hlen : l.length * 56 ≤ 140737488351232) (hl : Pls.lies w w.heap.size l A) :
    Calls Tryz.prog 57 #[.agg #[.int .i64 5, .int .i64 n, .string t, .slice A l.length c]] w (OfPost (.mk 5 n t l) w) := by
  have hx := Lib.hid (show (Pl.mk 5 n t l).toVl = .list (Pls.toVl l) by rw [Pl.toVl]; rfl)
  obtain ⟨i0, hi, hz0, hz1, hz2⟩ := info_parts info_value
  have IH := Lib.hid ih
  have HL := Lib.hid hl
  have HB : Hid (Below w.heap.size w (w.alloc (.cells #[.int .i64 5, .int .i64 n, .string t, .slice A l.length c] 31))) := (Below.refl _ _).alloc (Nat.le_refl _) _
  clear ih hl
  go_enter Tryz.func57, Tryz.ntmps57
  go_wp2_with (refine wpList_make_own _ rfl _ _ 47 rfl (w.heap.size + 1) 35 i0 .nilIface 1 Tryz.underlying47 hi hz0 hz1 _ _ _ l.length rfl rfl rfl (by rw [hz2]; omega) (by unfold maxLen; omega) (by simp) ?_; intro w1 hown hgr; have hc3 : w1.cell? ⟨w.heap.size, 3, none⟩ = some (.slice A l.length c) := (World.cell?_of_block (hgr.block _ (by simp) (by simp))).trans (by rw [World.cell?_alloc_new]; rfl))
  have hb1 := HB.out.grown hgr (by simp) (by simp)
  have hsz : w.heap.size + 1 < w1.heap.size := by
    rcases hown.2 with ⟨h, _⟩ | ⟨g, cap, cur, h, _, hh, _⟩
    · cases h
    · have := lt_of_block hh
      injection h with h _ _
      injection h with h
      injection h with h
      omega
  have HB1 := Lib.hid hb1
  have hown' : w1.ownsRow (w.heap.size + 1) 35 1 (.slice (some ⟨w.heap.size + 1, 0, none⟩) 0 l.length) 0 [] := by simpa using hown
  have HO := Lib.hid hown'
  clear hown'
  clear hgr hown hb1
  go_loopw [3, 33] (fun s3 s33 wr => ∃ (k : Nat) (us : List Value), k ≤ l.length ∧ s33 = .int .i64 (k : Int) ∧ s3 = .slice (some ⟨w.heap.size + 1, 0, none⟩) k l.length ∧ us.length = k ∧ wr.ownsRow (w.heap.size + 1) 35 1 (.slice (some ⟨w.heap.size + 1, 0, none⟩) k l.length) k us ∧
      (∀ j (h : j < l.length) (h' : j < us.length), l[j].toVl.is wr (fun b => w.heap.size + 1 < b ∧ b < wr.heap.size) us[j]) ∧ Below w.heap.size w wr ∧ w.heap.size + 1 < wr.heap.size) (fun _ s33 _ => l.length - (intOf s33).toNat)
  case atStart => exact ⟨0, [], Nat.zero_le _, rfl, rfl, rfl, HO.out, fun j h h' => absurd h' (by simp), HB1.out, hsz⟩
  case round =>
    clear hc3 hsz HO HB1 HB
    obtain ⟨k, us, hk, rfl, rfl, hus, hown, hel, hbel, hsz⟩ := hrel
    have HE := Lib.hid hel
    have HU := Lib.hid hus
    have HBL := Lib.hid hbel
    clear hel hus hbel
    by_cases hlt : k < l.length
    · obtain ⟨b', o', rfl⟩ := HL.out.head (by omega)
      have hlies := ((HL.out.below HBL.out (Nat.le_refl _)).at_ k hlt)
      obtain ⟨hbb, e0, e1, e2, hlen2, A', c', e3, hll⟩ := hlies.parts
      have HLL := Lib.hid hll
      clear hll hlies
      go_wp2_with fail
      refine (IH.out k hlt A' c' _ hlen2 (HLL.out.below ((Below.refl _ _).alloc (by omega) _) (by simp; omega))).mono ?_
      rintro e w2 ⟨v, rfl, hv, hb2⟩
      obtain ⟨vt, vx, rfl⟩ := hv.iface
      have HV := Lib.hid hv
      have hV := Lib.hid hv
      have HB2 := Lib.hid hb2
      have hown2 := own_below (hown.alloc _) hb2
      have hs2 := hb2.size
      rw [size_alloc] at hs2
      have hone := one_new w2 (.iface vt vx) 35
      clear hv hb2 hown e0 e1 e2 e3 HLL
      go_wp2_with (at_builtin; refine wpList_append_fits _ rfl _ _ 47 rfl (w.heap.size + 1) 35 i0 1 Tryz.underlying47 hi hz1 (w.heap.size + 1) k l.length us rfl (hown2.alloc _) ⟨w2.heap.size, 0, none⟩ 1 1 [.iface vt vx] rfl rfl hone (by intro u hu; simp at hu; subst hu; rfl) (by omega) ?_)
      intro w3 hown3 hgr3
      obtain ⟨hc1, hc2, hs1, hs3⟩ := step_cells HB2.out hgr3
      have hel3 : ∀ j (h : j < l.length) (h' : j < (us ++ [Value.iface vt vx]).length), l[j].toVl.is w3 (fun b => w.heap.size + 1 < b ∧ b < w3.heap.size) (us ++ [Value.iface vt vx])[j] := by
        intro j h h'
        have hus := HU.out
        by_cases hj : j < k
        · rw [List.getElem_append_left (by omega)]
          exact (HE.out j h (by omega)).keep (fun b o hb => hc1 b o (by omega) hb.2) (fun b hb => ⟨hb.1, by omega⟩)
        · have hjk : j = k := by simp at h'; omega
          rw [List.getElem_append_right (by omega)]
          simp only [hjk, hus, Nat.sub_self, List.getElem_cons_zero]
          exact (HV.out).keep (fun b o hb => hc2 b o (by have := hb.1; rw [size_alloc] at this; omega) hb.2) (fun b hb => ⟨by have := hb.1; rw [size_alloc] at this; omega, by have := hb.2; omega⟩)
      have hb3 : Below w.heap.size w w3 := (((HBL.out.alloc (by omega) _).trans (HB2.out.mono (by rw [size_alloc]; omega))).alloc (by omega) _).grown hgr3 (by rw [size_alloc]; omega) (by intro k hk; injection hk with hk; omega)
      have HE3 := Lib.hid hel3
      have HB3 := Lib.hid hb3
      have HO3 := Lib.hid hown3
      have hlen3 : (us ++ [Value.iface vt vx]).length = k + 1 := by simp [HU.out]
      have HL3 := Lib.hid hlen3
      clear hel3 hb3 hown3 hgr3 hc1 hc2 hown2 hone hlen3
      go_wp2
      go_roundw
      case rel => exact ⟨k + 1, us ++ [.iface vt vx], by omega, by go_num, rfl, HL3.out, HO3.out, HE3.out, HB3.out, by omega⟩
      case measure => simp [intOf]; omega
    · obtain rfl : k = l.length := by omega
      have HO := Lib.hid hown
      clear hown
      go_wp2
      go_ret
      refine ⟨_, rfl, ?_, HBL.out⟩
      rw [hx.out]
      unfold Vl.is
      refine ⟨some ⟨w.heap.size + 1, 0, none⟩, l.length, by rw [Pls.toVl_length]; rfl, Vls.lies.of (us := us) (by rw [Pls.toVl_length]; exact HU.out) (fun _ => ⟨by omega, hsz⟩) (fun j u hj => ?_) (fun j h h' => ?_)⟩
      · have hlt : j < us.length := by
          rcases Nat.lt_or_ge j us.length with h | h
          · exact h
          · rw [List.getElem?_eq_none h] at hj; cases hj
        rw [Nat.zero_add, HO.out.cellAt j (by rw [Nat.mul_one]; have := HU.out; omega)]
        exact hj
      · have hj : j < l.length := by rw [Pls.toVl_length] at h; exact h
        rw [Pls.toVl_get l j hj h]
        exact (HE.out j hj h').keep (fun _ _ _ => rfl) (fun b hb => ⟨by omega, hb.2⟩)

theorem of_all : ∀ (m : Nat) (p : Pl), SizeOf.sizeOf p ≤ m → ∀ (A : Option Addr) (c : Nat) (w : World), p.list.length * 56 ≤ 140737488351232 → Pls.lies w w.heap.size p.list A →
      Calls Tryz.prog 57 #[.agg #[.int .i64 p.kind, .int .i64 p.num, .string p.text, .slice A p.list.length c]] w (OfPost p w) := by
  intro m
  induction m with
  | zero => intro p h; cases p; simp at h
  | succ m ih =>
    intro p hp A c w h1 h2
    obtain ⟨k, n, t, l⟩ := p
    by_cases hk : k = 5
    · subst hk
      exact of_list n t l (fun j hj => ih l[j] (by have := Pl.size_lt (k := 5) (n := n) (t := t) hj; omega)) A c w h1 h2
    · exact of_scalar k n t l hk A _ c w
/-- zval.Of. -/
theorem zval_of (p : Pl) (A : Option Addr) (c : Nat) (w : World) (h1 : p.list.length * 56 ≤ 140737488351232) (h2 : Pls.lies w w.heap.size p.list A) :
    Calls Tryz.prog 57 #[.agg #[.int .i64 p.kind, .int .i64 p.num, .string p.text, .slice A p.list.length c]] w (OfPost p w) := of_all _ p (Nat.le_refl _) A c w h1 h2
end Go.Proofs.YtcldbjgikkfnbaaGreatDoor

/-
  zval.Of: the value of a plain one, in memory of its own, its lists apart: a walk, for every plain value. Conditions: it lies in memory.
-/
namespace Go.Proofs.YtcldbjgikkfnbaaGreatDoor
open Go.RowKit
set_option linter.unusedVariables false

def OfPostS (p : Pl) (w : World) (e : Ending) (w' : World) : Prop := ∃ v, e = .returned v ∧ p.toVl.sep w' (fresh w w') v ∧ Below w.heap.size w w'

theorem of_scalarS (k n : Int) (t : ByteArray) (l : List Pl) (hk : k ≠ 5) (A : Option Addr) (len c : Nat) (w : World) :
    Calls Tryz.prog 57 #[.agg #[.int .i64 k, .int .i64 n, .string t, .slice A len c]] w (OfPostS (.mk k n t l) w) := by
  by_cases h2 : k = 2
  · have hx := Lib.hid (show (Pl.mk k n t l).toVl = .truth (decide (n = 1)) by rw [Pl.toVl, if_pos h2])
    subst h2
    go_enter Tryz.func57, Tryz.ntmps57
    go_wp2
    all_goals go_ret
    exact ⟨_, rfl, by rw [hx.out]; unfold Vl.sep; congr 2, (Below.refl _ _).alloc (Nat.le_refl _) _⟩
  have h2b : (k == 2) = false := by simpa using h2
  by_cases h3 : k = 3
  · have hx := Lib.hid (show (Pl.mk k n t l).toVl = .int n by rw [Pl.toVl, if_neg h2, if_pos h3])
    subst h3
    go_enter Tryz.func57, Tryz.ntmps57
    go_wp2
    go_ret
    exact ⟨_, rfl, by rw [hx.out]; unfold Vl.sep; rfl, (Below.refl _ _).alloc (Nat.le_refl _) _⟩
  have h3b : (k == 3) = false := by simpa using h3
  by_cases h4 : k = 4
  · have hx := Lib.hid (show (Pl.mk k n t l).toVl = .text t by rw [Pl.toVl, if_neg h2, if_neg h3, if_pos h4])
    subst h4
    go_enter Tryz.func57, Tryz.ntmps57
    go_wp2
    go_ret
    exact ⟨_, rfl, by rw [hx.out]; unfold Vl.sep; rfl, (Below.refl _ _).alloc (Nat.le_refl _) _⟩
  have h4b : (k == 4) = false := by simpa using h4
  have hkb : (k == 5) = false := by simpa using hk
  have hx := Lib.hid (show (Pl.mk k n t l).toVl = .unit by rw [Pl.toVl, if_neg h2, if_neg h3, if_neg h4, if_neg hk])
  go_enter Tryz.func57, Tryz.ntmps57
  go_wp2
  go_ret
  exact ⟨_, rfl, by rw [hx.out]; unfold Vl.sep; rfl, (Below.refl _ _).alloc (Nat.le_refl _) _⟩

theorem Pls.toVl_append : ∀ l m : List Pl, Pls.toVl (l ++ m) = Pls.toVl l ++ Pls.toVl m
  | [], m => by simp [Pls.toVl]
  | x :: xs, m => by simp [Pls.toVl, Pls.toVl_append xs m]
theorem Pls.toVl_snoc {l : List Pl} {k : Nat} (h : k < l.length) : Pls.toVl (l.take (k + 1)) = Pls.toVl (l.take k) ++ [l[k].toVl] := by
  rw [List.take_succ_eq_append_getElem h, Pls.toVl_append]
  simp [Pls.toVl]
/-- A block laid, a callee that makes memory, a block laid, an append to row g: what was there, but for g, is there, block by block. -/
theorem step_blocks {wr w2 w3 : World} {X Y : Obj} {row : Option Nat} (hb2 : Below (wr.alloc X).heap.size (wr.alloc X) w2) (hgr : (w2.alloc Y).grownBy w3 row) :
    (∀ b, row ≠ some b → b < wr.heap.size → w3.heap[b]? = wr.heap[b]?) ∧ (∀ b, row ≠ some b → b < w2.heap.size → w3.heap[b]? = w2.heap[b]?) := by
  have hs := hb2.size
  rw [size_alloc] at hs
  have h2 : ∀ b, row ≠ some b → b < w2.heap.size → w3.heap[b]? = w2.heap[b]? := fun b hne hb => (hgr.block b (by rw [size_alloc]; omega) (Ne.symm hne)).trans (Below.heap_alloc _ _ _ hb)
  exact ⟨fun b hne hb => (h2 b hne (by omega)).trans ((hb2.block b (by rw [size_alloc]; omega)).trans (Below.heap_alloc _ _ _ hb)), h2⟩
set_option maxRecDepth 100000 in
set_option maxHeartbeats 2000000 in
theorem of_listS (n : Int) (t : ByteArray) (l : List Pl)
    (ih : ∀ (j : Nat) (h : j < l.length) (A : Option Addr) (c : Nat) (w : World), l[j].list.length * 56 ≤ 140737488351232 → Pls.lies w w.heap.size l[j].list A →
      Calls Tryz.prog 57 #[.agg #[.int .i64 l[j].kind, .int .i64 l[j].num, .string l[j].text, .slice A l[j].list.length c]] w (OfPostS l[j] w))
    (A : Option Addr) (c : Nat) (w : World) (hlen : l.length * 56 ≤ 140737488351232) (hl : Pls.lies w w.heap.size l A) :
    Calls Tryz.prog 57 #[.agg #[.int .i64 5, .int .i64 n, .string t, .slice A l.length c]] w (OfPostS (.mk 5 n t l) w) := by
  have hx := Lib.hid (show (Pl.mk 5 n t l).toVl = .list (Pls.toVl l) by rw [Pl.toVl]; rfl)
  obtain ⟨i0, hi, hz0, hz1, hz2⟩ := info_parts info_value
  have IH := Lib.hid ih
  have HL := Lib.hid hl
  have HB : Hid (Below w.heap.size w (w.alloc (.cells #[.int .i64 5, .int .i64 n, .string t, .slice A l.length c] 31))) := (Below.refl _ _).alloc (Nat.le_refl _) _
  clear ih hl
  go_enter Tryz.func57, Tryz.ntmps57
  go_wp2_with (refine wpList_make_own _ rfl _ _ 47 rfl (w.heap.size + 1) 35 i0 .nilIface 1 Tryz.underlying47 hi hz0 hz1 _ _ _ l.length rfl rfl rfl (by rw [hz2]; omega) (by unfold maxLen; omega) (by simp) ?_; intro w1 hown hgr; have hc3 : w1.cell? ⟨w.heap.size, 3, none⟩ = some (.slice A l.length c) := (World.cell?_of_block (hgr.block _ (by simp) (by simp))).trans (by rw [World.cell?_alloc_new]; rfl))
  have hb1 := HB.out.grown hgr (by simp) (by simp)
  have hsz : w.heap.size + 1 < w1.heap.size := by
    rcases hown.2 with ⟨h, _⟩ | ⟨g, cap, cur, h, _, hh, _⟩
    · cases h
    · have := lt_of_block hh
      injection h with h _ _
      injection h with h
      injection h with h
      omega
  have HB1 := Lib.hid hb1
  have hown' : w1.ownsRow (w.heap.size + 1) 35 1 (.slice (some ⟨w.heap.size + 1, 0, none⟩) 0 l.length) 0 [] := by simpa using hown
  have HO := Lib.hid hown'
  clear hown'
  clear hgr hown hb1
  go_loopw [3, 33] (fun s3 s33 wr => ∃ (k : Nat) (us : List Value), k ≤ l.length ∧ s33 = .int .i64 (k : Int) ∧ s3 = .slice (some ⟨w.heap.size + 1, 0, none⟩) k l.length ∧ us.length = k ∧ wr.ownsRow (w.heap.size + 1) 35 1 (.slice (some ⟨w.heap.size + 1, 0, none⟩) k l.length) k us ∧
      Vls.sep wr (Pls.toVl (l.take k)) (fun b => w.heap.size + 1 < b ∧ b < wr.heap.size) us ∧ Below w.heap.size w wr ∧ w.heap.size + 1 < wr.heap.size) (fun _ s33 _ => l.length - (intOf s33).toNat)
  case atStart => exact ⟨0, [], Nat.zero_le _, rfl, rfl, rfl, HO.out, by simpa [Pls.toVl] using Vls.sep.nil w1 _, HB1.out, hsz⟩
  case round =>
    clear hc3 hsz HO HB1 HB
    obtain ⟨k, us, hk, rfl, rfl, hus, hown, hel, hbel, hsz⟩ := hrel
    have HE := Lib.hid hel
    have HU := Lib.hid hus
    have HBL := Lib.hid hbel
    clear hel hus hbel
    by_cases hlt : k < l.length
    · obtain ⟨b', o', rfl⟩ := HL.out.head (by omega)
      have hlies := ((HL.out.below HBL.out (Nat.le_refl _)).at_ k hlt)
      obtain ⟨hbb, e0, e1, e2, hlen2, A', c', e3, hll⟩ := hlies.parts
      have HLL := Lib.hid hll
      clear hll hlies
      go_wp2_with fail
      refine (IH.out k hlt A' c' _ hlen2 (HLL.out.below ((Below.refl _ _).alloc (by omega) _) (by simp; omega))).mono ?_
      rintro e w2 ⟨v, rfl, hv, hb2⟩
      obtain ⟨vt, vx, rfl⟩ := hv.iface
      have HV := Lib.hid hv
      have hV := Lib.hid hv
      have HB2 := Lib.hid hb2
      have hown2 := own_below (hown.alloc _) hb2
      have hs2 := hb2.size
      rw [size_alloc] at hs2
      have hone := one_new w2 (.iface vt vx) 35
      clear hv hb2 hown e0 e1 e2 e3 HLL
      go_wp2_with (at_builtin; refine wpList_append_fits _ rfl _ _ 47 rfl (w.heap.size + 1) 35 i0 1 Tryz.underlying47 hi hz1 (w.heap.size + 1) k l.length us rfl (hown2.alloc _) ⟨w2.heap.size, 0, none⟩ 1 1 [.iface vt vx] rfl rfl hone (by intro u hu; simp at hu; subst hu; rfl) (by omega) ?_)
      intro w3 hown3 hgr3
      obtain ⟨hc1, hc2⟩ := step_blocks HB2.out hgr3
      obtain ⟨_, _, hs1, hs3⟩ := step_cells HB2.out hgr3
      have hel3 : Vls.sep w3 (Pls.toVl (l.take (k + 1))) (fun b => w.heap.size + 1 < b ∧ b < w3.heap.size) (us ++ [Value.iface vt vx]) := by
        rw [Pls.toVl_snoc hlt]
        exact Vls.sep.snoc (Vls.sep.keep _ _ (fun b => w.heap.size + 1 < b ∧ b < wr.heap.size) _ (fun b hb => hc1 b (by intro e; injection e with e; have := hb.1; omega) hb.2) (fun _ h => h) HE.out) (Vl.sep.keep _ _ (fun b => wr.heap.size + 1 ≤ b ∧ b < w2.heap.size) _ (fun b hb => hc2 b (by intro e; injection e with e; have := hb.1; rw [size_alloc] at this; omega) hb.2) (fun b hb => ⟨by have := hb.1; rw [size_alloc] at this; exact this, hb.2⟩) HV.out)
          (fun b hb => ⟨hb.1, by have := hb.2; omega⟩) (fun b hb => ⟨by have := hb.1; omega, by have := hb.2; omega⟩) (fun b hb hb' => by have := hb.2; have := hb'.1; omega)
      have hb3 : Below w.heap.size w w3 := (((HBL.out.alloc (by omega) _).trans (HB2.out.mono (by rw [size_alloc]; omega))).alloc (by omega) _).grown hgr3 (by rw [size_alloc]; omega) (by intro k hk; injection hk with hk; omega)
      have HE3 := Lib.hid hel3
      have HB3 := Lib.hid hb3
      have HO3 := Lib.hid hown3
      have hlen3 : (us ++ [Value.iface vt vx]).length = k + 1 := by simp [HU.out]
      have HL3 := Lib.hid hlen3
      clear hel3 hb3 hown3 hgr3 hc1 hc2 hown2 hone hlen3
      go_wp2
      go_roundw
      case rel => exact ⟨k + 1, us ++ [.iface vt vx], by omega, by go_num, rfl, HL3.out, HO3.out, HE3.out, HB3.out, by omega⟩
      case measure => simp [intOf]; omega
    · obtain rfl : k = l.length := by omega
      have HO := Lib.hid hown
      clear hown
      go_wp2
      go_ret
      refine ⟨_, rfl, ?_, HBL.out⟩
      have hse := HE.out
      rw [List.take_length] at hse
      rw [hx.out]
      unfold Vl.sep
      rw [Pls.toVl_length]
      exact ⟨some ⟨w.heap.size + 1, 0, none⟩, l.length, us, rfl, own_base HO.out (Nat.zero_le _), fun g hg => by injection hg with hg; have hg' : w.heap.size + 1 = g := hg; exact ⟨by omega, by omega⟩, hse.mono (fun b hb => ⟨⟨by have := hb.1; omega, hb.2⟩, fun e => by injection e with e; have e' : w.heap.size + 1 = b := e; have := hb.1; omega⟩)⟩

theorem of_allS : ∀ (m : Nat) (p : Pl), SizeOf.sizeOf p ≤ m → ∀ (A : Option Addr) (c : Nat) (w : World), p.list.length * 56 ≤ 140737488351232 → Pls.lies w w.heap.size p.list A →
      Calls Tryz.prog 57 #[.agg #[.int .i64 p.kind, .int .i64 p.num, .string p.text, .slice A p.list.length c]] w (OfPostS p w) := by
  intro m
  induction m with
  | zero => intro p h; cases p; simp at h
  | succ m ih =>
    intro p hp A c w h1 h2
    obtain ⟨k, n, t, l⟩ := p
    by_cases hk : k = 5
    · subst hk
      exact of_listS n t l (fun j hj => ih l[j] (by have := Pl.size_lt (k := 5) (n := n) (t := t) hj; omega)) A c w h1 h2
    · exact of_scalarS k n t l hk A _ c w
/-- zval.Of. -/
theorem zval_ofS (p : Pl) (A : Option Addr) (c : Nat) (w : World) (h1 : p.list.length * 56 ≤ 140737488351232) (h2 : Pls.lies w w.heap.size p.list A) :
    Calls Tryz.prog 57 #[.agg #[.int .i64 p.kind, .int .i64 p.num, .string p.text, .slice A p.list.length c]] w (OfPostS p w) := of_allS _ p (Nat.le_refl _) A c w h1 h2
end Go.Proofs.YtcldbjgikkfnbaaGreatDoor
