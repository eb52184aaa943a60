/-
  worth.value: the value of a plain one that may be, in memory of its own: a walk. Conditions: it lies in memory.
-/
import Derived.Test.YthjpphojddbbmaaGreatDoorCWorthMs
namespace Go.Proofs.YthjpphojddbbmaaGreatDoor
open Go.RowKit
set_option linter.unusedVariables false

mutual
/-- Kinds that there are. -/
def Pl.kindB : Pl → Bool
  | .mk k _ _ l => (decide (k = 1) || decide (k = 2) || decide (k = 3) || decide (k = 4) || decide (k = 5)) && Pls.kindB l
def Pls.kindB : List Pl → Bool
  | [] => true
  | p :: ps => p.kindB && Pls.kindB ps
end
theorem good_kind {k n : Int} {t : ByteArray} {len : Nat} {deep : Int} (h : goodB k n t len deep = true) : k = 1 ∨ k = 2 ∨ k = 3 ∨ k = 4 ∨ k = 5 := by
  unfold goodB at h
  by_cases h1 : k = 1; · exact .inl h1
  by_cases h2 : k = 2; · exact .inr (.inl h2)
  by_cases h3 : k = 3; · exact .inr (.inr (.inl h3))
  by_cases h4 : k = 4; · exact .inr (.inr (.inr (.inl h4)))
  by_cases h5 : k = 5; · exact .inr (.inr (.inr (.inr h5)))
  rw [if_neg h1, if_neg h2, if_neg h3, if_neg h4, if_neg h5] at h
  cases h
mutual
theorem Pl.left_kind : ∀ (p : Pl) (m deep : Int), 0 ≤ p.left m deep → p.kindB = true
  | .mk k n t l, m, deep, h => by
    unfold Pl.left at h
    by_cases hb : goodB k n t l.length deep = false ∨ m - 1 - (t.size : Int) < 0
    · rw [if_pos hb] at h; omega
    · rw [if_neg hb] at h
      have hg : goodB k n t l.length deep = true := by
        cases hq : goodB k n t l.length deep
        · exact absurd (.inl hq) hb
        · rfl
      unfold Pl.kindB
      rw [Pls.left_kind l _ _ h, Bool.and_true]
      rcases good_kind hg with e | e | e | e | e <;> simp [e]
theorem Pls.left_kind : ∀ (l : List Pl) (m deep : Int), 0 ≤ Pls.left l m deep → Pls.kindB l = true
  | [], m, deep, h => by unfold Pls.kindB; rfl
  | p :: ps, m, deep, h => by
    unfold Pls.left at h
    by_cases h0 : 0 ≤ m
    · rw [if_pos h0] at h
      have h1 : 0 ≤ p.left m deep := by
        rcases Int.lt_or_le (p.left m deep) 0 with h2 | h2
        · rw [Pls.left_neg _ _ _ (by omega)] at h; exact h
        · exact h2
      unfold Pls.kindB
      rw [Pl.left_kind p _ _ h1, Pls.left_kind ps _ _ h]
      rfl
    · rw [if_neg h0] at h; omega
end
theorem Pls.kind_at : ∀ {l : List Pl}, Pls.kindB l = true → ∀ (j : Nat) (h : j < l.length), l[j].kindB = true
  | p :: ps, h, 0, _ => by unfold Pls.kindB at h; simp only [Bool.and_eq_true] at h; exact h.1
  | p :: ps, h, j + 1, hj => by unfold Pls.kindB at h; simp only [Bool.and_eq_true] at h; exact Pls.kind_at h.2 j (by simpa using hj)

theorem info_val : (Tryz.prog.info? 29).map (fun i => (i.zero, i.size, i.bytes)) = some (some .nilIface, 1, 16) := by kernel_rfl
def ValPost (p : Pl) (w : World) (e : Ending) (w' : World) : Prop := ∃ v, e = .returned v ∧ p.toVl.is w' (fresh w w') v ∧ Below w.heap.size w w'
theorem val_scalar (k n : Int) (t : ByteArray) (ls : List Pl) (hk : k = 1 ∨ k = 2 ∨ k = 3 ∨ k = 4) (b o : Nat) (w : World) (B : Nat) (hl : (Pl.mk k n t ls).lies w B b o) :
    Calls Tryz.prog 53 #[.pointer (some ⟨b, o, none⟩)] w (ValPost (.mk k n t ls) w) := by
  unfold Pl.lies at hl
  obtain ⟨hb, c0, c1, c2, rk, rn, ht, hlen, A, c, c3, hrest⟩ := hl
  clear hrest rk rn
  rcases hk with rfl | rfl | rfl | rfl
  · have hx := Lib.hid (show (Pl.mk 1 n t ls).toVl = .unit by rw [Pl.toVl]; rfl)
    go_enter Tryz.func53, Tryz.ntmps53
    go_wp2
    go_ret
    exact ⟨_, rfl, by rw [hx.out]; unfold Vl.is; rfl, Below.refl _ _⟩
  · have hx := Lib.hid (show (Pl.mk 2 n t ls).toVl = .truth (decide (n = 1)) by rw [Pl.toVl]; rfl)
    go_enter Tryz.func53, Tryz.ntmps53
    go_wp2
    all_goals go_ret
    exact ⟨_, rfl, by rw [hx.out]; unfold Vl.is; congr 2, Below.refl _ _⟩
  · have hx := Lib.hid (show (Pl.mk 3 n t ls).toVl = .int n by rw [Pl.toVl]; rfl)
    go_enter Tryz.func53, Tryz.ntmps53
    go_wp2
    go_ret
    exact ⟨_, rfl, by rw [hx.out]; unfold Vl.is; rfl, Below.refl _ _⟩
  · have hx := Lib.hid (show (Pl.mk 4 n t ls).toVl = .text t by rw [Pl.toVl]; rfl)
    go_enter Tryz.func53, Tryz.ntmps53
    go_wp2
    go_ret
    exact ⟨_, rfl, by rw [hx.out]; unfold Vl.is; rfl, Below.refl _ _⟩
theorem val_cells {wr w2 w3 : World} {Y : Obj} {g : Nat} (hb2 : Below wr.heap.size wr w2) (hgr : (w2.alloc Y).grownBy w3 (some g)) :
    (∀ b o, b ≠ g → b < wr.heap.size → w3.cell? ⟨b, o, none⟩ = wr.cell? ⟨b, o, none⟩) ∧ (∀ b o, b ≠ g → b < w2.heap.size → w3.cell? ⟨b, o, none⟩ = w2.cell? ⟨b, o, none⟩) ∧ wr.heap.size ≤ w2.heap.size ∧ w2.heap.size < w3.heap.size := by
  have hs := hb2.size
  have hs3 := hgr.size
  rw [size_alloc] at hs3
  have h2 : ∀ b o, b ≠ g → b < w2.heap.size → w3.cell? ⟨b, o, none⟩ = w2.cell? ⟨b, o, none⟩ := fun b o hne hb => by
    rw [World.cell?_of_block (a := ⟨b, o, none⟩) (hgr.block b (by rw [size_alloc]; omega) (by simpa using hne)), World.cell?_alloc_lt _ _ _ hb]
  exact ⟨fun b o hne hb => by rw [h2 b o hne (by omega)]; exact hb2.cell (p := ⟨b, o, none⟩) hb, h2, hs, hs3⟩
def ValAll (p : Pl) : Prop := ∀ (b o : Nat) (w : World) (B : Nat), B ≤ w.heap.size → p.lies w B b o → Calls Tryz.prog 53 #[.pointer (some ⟨b, o, none⟩)] w (ValPost p w)
set_option maxRecDepth 100000 in
set_option maxHeartbeats 4000000 in
theorem val_list (n : Int) (t : ByteArray) (l : List Pl) (ih : ∀ (j : Nat) (h : j < l.length), ValAll l[j]) : ValAll (.mk 5 n t l) := by
  intro b o w B hBw hl
  unfold Pl.lies at hl
  obtain ⟨hb, c0, c1, c2, rk, rn, ht, hlen, A, c, c3, hrest⟩ := hl
  have HL := Lib.hid hrest
  have HC3 := Lib.hid c3
  have hbw : b < w.heap.size := by omega
  clear hrest rk rn c1 c2
  have hx := Lib.hid (show (Pl.mk 5 n t l).toVl = .list (Pls.toVl l) by rw [Pl.toVl]; rfl)
  obtain ⟨i0, hi, hz0, hz1, hz2⟩ := info_parts info_val
  have IH := Lib.hid ih
  clear ih
  go_enter Tryz.func53, Tryz.ntmps53
  go_wp2_with (refine wpList_make_own _ rfl _ _ 158 rfl w.heap.size 29 i0 .nilIface 1 Tryz.underlying158 hi hz0 hz1 _ _ _ l.length rfl rfl rfl (by rw [hz2]; omega) (by unfold maxLen; omega) (by simp) ?_; intro w1 hown hgr; have hc3 : w1.cell? ⟨b, o + 3, none⟩ = some (.slice A l.length c) := (World.cell?_of_block (a := ⟨b, o + 3, none⟩) (hgr.block _ hbw (by simp))).trans HC3.out)
  have hb1 := (Below.refl w.heap.size w).grown hgr (by simp) (by simp)
  have hsz : w.heap.size < w1.heap.size := by
    rcases hown.2 with ⟨h, _⟩ | ⟨g, cap, cur, h, _, hh, _⟩
    · cases h
    · have := lt_of_block hh
      injection h with h _ _
      injection h with h
      injection h with h
      omega
  have HB1 := Lib.hid hb1
  have hown' : w1.ownsRow w.heap.size 29 1 (.slice (some ⟨w.heap.size, 0, none⟩) 0 l.length) 0 [] := by simpa using hown
  have HO := Lib.hid hown'
  clear hown'
  clear hgr hown hb1
  go_wp2_with fail
  go_loopw [3, 46] (fun s3 s46 wr => ∃ (k : Nat) (us : List Value), k ≤ l.length ∧ s46 = .int .i64 (k : Int) ∧ s3 = .slice (some ⟨w.heap.size, 0, none⟩) k l.length ∧ us.length = k ∧ wr.ownsRow w.heap.size 29 1 (.slice (some ⟨w.heap.size, 0, none⟩) k l.length) k us ∧
      (∀ j (h : j < l.length) (h' : j < us.length), l[j].toVl.is wr (fun b => w.heap.size < b ∧ b < wr.heap.size) us[j]) ∧ Below w.heap.size w wr ∧ w.heap.size < wr.heap.size) (fun _ s46 _ => l.length - (intOf s46).toNat)
  case atStart => exact ⟨0, [], Nat.zero_le _, rfl, rfl, rfl, HO.out, fun j h h' => absurd h' (by simp), HB1.out, hsz⟩
  case round =>
    clear hc3 hsz HO HB1
    obtain ⟨k, us, hk, rfl, rfl, hus, hown, hel, hbel, hsz⟩ := hrel
    have HE := Lib.hid hel
    have HU := Lib.hid hus
    have HBL := Lib.hid hbel
    clear hel hus hbel
    by_cases hlt : k < l.length
    · have d3 : wr.cell? ⟨b, o + 3, none⟩ = some (.slice A l.length c) := (HBL.out.cell (p := ⟨b, o + 3, none⟩) hbw).trans HC3.out
      obtain ⟨b', o', rfl⟩ := HL.out.head (by omega)
      have hchild := (HL.out.at_ k hlt).keep (w' := wr) (B' := B) (fun b1 o1 h1 => HBL.out.cell (p := ⟨b1, o1, none⟩) (Nat.lt_of_lt_of_le h1 hBw)) (Nat.le_refl _)
      have KI := Lib.hid (IH.out k hlt b' (o' + k * 4) wr B (by omega) hchild)
      clear hchild c0 c3
      go_wp2_with fail
      refine KI.out.mono ?_
      rintro e w2 ⟨v, rfl, hv, hb2⟩
      obtain ⟨vt, vx, rfl⟩ := hv.iface
      have HV := Lib.hid hv
      have HB2 := Lib.hid hb2
      have hown2 := own_below hown hb2
      have hs2 := hb2.size
      have hone := one_new w2 (.iface vt vx) 29
      clear hv hb2 hown d3 KI
      go_wp2_with (at_builtin; refine wpList_append_fits _ rfl _ _ 158 rfl w.heap.size 29 i0 1 Tryz.underlying158 hi hz1 w.heap.size k l.length us rfl (hown2.alloc _) ⟨w2.heap.size, 0, none⟩ 1 1 [.iface vt vx] rfl rfl hone (by intro u hu; simp at hu; subst hu; rfl) (by omega) ?_)
      intro w3 hown3 hgr3
      obtain ⟨hc1, hc2, hs1, hs3⟩ := val_cells HB2.out hgr3
      have hel3 : ∀ j (h : j < l.length) (h' : j < (us ++ [Value.iface vt vx]).length), l[j].toVl.is w3 (fun b => w.heap.size < b ∧ b < w3.heap.size) (us ++ [Value.iface vt vx])[j] := by
        intro j h h'
        have hus := HU.out
        by_cases hj : j < k
        · rw [List.getElem_append_left (by omega)]
          exact (HE.out j h (by omega)).keep (fun b o hb => hc1 b o (by omega) hb.2) (fun b hb => ⟨hb.1, by omega⟩)
        · have hjk : j = k := by simp at h'; omega
          rw [List.getElem_append_right (by omega)]
          simp only [hjk, hus, Nat.sub_self, List.getElem_cons_zero]
          exact (HV.out).keep (fun b o hb => hc2 b o (by have := hb.1; omega) hb.2) (fun b hb => ⟨by have := hb.1; omega, by have := hb.2; omega⟩)
      have hb3 : Below w.heap.size w w3 := ((HBL.out.trans (HB2.out.mono (by omega))).alloc (by omega) _).grown hgr3 (by rw [size_alloc]; omega) (by intro k hk; injection hk with hk; omega)
      have HE3 := Lib.hid hel3
      have HB3 := Lib.hid hb3
      have HO3 := Lib.hid hown3
      have hlen3 : (us ++ [Value.iface vt vx]).length = k + 1 := by simp [HU.out]
      have HL3 := Lib.hid hlen3
      clear hel3 hb3 hown3 hgr3 hc1 hc2 hown2 hone hlen3
      go_wp2
      go_roundw
      case rel => exact ⟨k + 1, us ++ [.iface vt vx], by omega, by go_num, rfl, HL3.out, HO3.out, HE3.out, HB3.out, by omega⟩
      case measure => simp [intOf]; omega
    · obtain rfl : k = l.length := by omega
      have HO := Lib.hid hown
      clear hown
      go_wp2
      go_ret
      refine ⟨_, rfl, ?_, HBL.out⟩
      rw [hx.out]
      unfold Vl.is
      refine ⟨some ⟨w.heap.size, 0, none⟩, l.length, by rw [Pls.toVl_length]; rfl, Vls.lies.of (us := us) (by rw [Pls.toVl_length]; exact HU.out) (fun _ => ⟨by omega, hsz⟩) (fun j u hj => ?_) (fun j h h' => ?_)⟩
      · have hlt : j < us.length := by
          rcases Nat.lt_or_ge j us.length with h | h
          · exact h
          · rw [List.getElem?_eq_none h] at hj; cases hj
        rw [Nat.zero_add, HO.out.cellAt j (by rw [Nat.mul_one]; have := HU.out; omega)]
        exact hj
      · have hj : j < l.length := by rw [Pls.toVl_length] at h; exact h
        rw [Pls.toVl_get l j hj h]
        exact (HE.out j hj h').keep (fun _ _ _ => rfl) (fun b hb => ⟨by omega, hb.2⟩)
theorem val_all : ∀ (m : Nat) (p : Pl), SizeOf.sizeOf p ≤ m → p.kindB = true → ValAll p
  | 0, .mk k n t l, h, _ => absurd h (by simp only [Pl.mk.sizeOf_spec]; omega)
  | m + 1, .mk k n t l, h, hq => by
    unfold Pl.kindB at hq
    simp only [Bool.and_eq_true, Bool.or_eq_true, decide_eq_true_eq] at hq
    by_cases hk : k = 5
    · subst hk
      exact val_list n t l (fun j hj => val_all m l[j] (by
        have h1 := List.sizeOf_lt_of_mem (List.getElem_mem hj)
        simp only [Pl.mk.sizeOf_spec] at h
        omega) (Pls.kind_at hq.2 j hj))
    · intro b o w B hBw hl
      exact val_scalar k n t l (by omega) b o w B hl
/-- A plain value boxed. -/
theorem box_lies (p : Pl) (A : Option Addr) (c : Nat) (w : World) (T : TypeId) (hs : p.sane) (hl : Pls.lies w w.heap.size p.list A) :
    p.lies (w.alloc (.cells #[.int .i64 p.kind, .int .i64 p.num, .string p.text, .slice A p.list.length c] T)) (w.heap.size + 1) w.heap.size 0 := by
  have hc := fun j => World.cell?_alloc_new w #[.int .i64 p.kind, .int .i64 p.num, .string p.text, .slice A p.list.length c] T j
  have hk := hl.keep (w' := w.alloc (.cells #[.int .i64 p.kind, .int .i64 p.num, .string p.text, .slice A p.list.length c] T)) (B' := w.heap.size + 1) (fun b o hb => World.cell?_alloc_lt _ _ _ hb) (by omega)
  obtain ⟨k, n, t, l⟩ := p
  unfold Pl.lies
  exact ⟨by omega, hc 0, hc 1, hc 2, hs.1, hs.2.1, hs.2.2.1, hs.2.2.2, A, c, hc 3, hk⟩
/-- May it be? -/
def Pl.mayB (p : Pl) : Bool := decide (0 ≤ p.left 65536 0)
theorem worth_May (p : Pl) (A : Option Addr) (c : Nat) (w : World) (hs : p.sane) (hl : Pls.lies w w.heap.size p.list A) : Calls Tryz.prog 52 #[p.arg A c] w (Bel (.bool p.mayB) w) := by
  have HB := Lib.hid ((Below.refl w.heap.size w).alloc (Nat.le_refl _) (.cells #[.int .i64 p.kind, .int .i64 p.num, .string p.text, .slice A p.list.length c] 34))
  have KM := Lib.hid (ms_all _ p (Nat.le_refl _) w.heap.size 0 65536 0 _ (w.heap.size + 1) (by rw [size_alloc]; omega) (by omega) (by omega) (by omega) (by omega) (box_lies p A c w 34 hs hl))
  unfold MsPost at KM
  have hm := Lib.hid (show p.mayB = decide (0 ≤ p.left 65536 0) from rfl)
  unfold Pl.arg
  generalize p.left 65536 0 = q at *
  go_enter Tryz.func52, Tryz.ntmps52
  go_wp2_with fail
  refine KM.out.mono ?_
  rintro e w1 ⟨s, rfl, _, hb⟩
  have HB1 := Lib.hid (HB.out.trans (hb.mono HB.out.size))
  clear hb
  go_wp2
  go_ret
  exact ⟨by rw [hm.out]; rfl, HB1.out⟩
/-- What worth.Of gives. -/
def WOfPost (p : Pl) (w : World) (e : Ending) (w' : World) : Prop :=
  (p.mayB = true ∧ ∃ v, e = .returned (.tuple #[v, .int .i64 0]) ∧ p.toVl.is w' (fresh w w') v ∧ Below w.heap.size w w') ∨ (p.mayB = false ∧ e = .returned (.tuple #[.nilIface, .int .i64 1]) ∧ Below w.heap.size w w')
theorem worth_Of (p : Pl) (A : Option Addr) (c : Nat) (w : World) (hs : p.sane) (hl : Pls.lies w w.heap.size p.list A) : Calls Tryz.prog 26 #[p.arg A c] w (WOfPost p w) := by
  have HB := Lib.hid ((Below.refl w.heap.size w).alloc (Nat.le_refl _) (.cells #[.int .i64 p.kind, .int .i64 p.num, .string p.text, .slice A p.list.length c] 34))
  have HX := Lib.hid (heap_alloc_new w (.cells #[.int .i64 p.kind, .int .i64 p.num, .string p.text, .slice A p.list.length c] 34))
  have KM := Lib.hid (worth_May p A c (w.alloc (.cells #[.int .i64 p.kind, .int .i64 p.num, .string p.text, .slice A p.list.length c] 34)) hs (hl.below HB.out HB.out.size))
  have KV := Lib.hid (fun (h : p.mayB = true) (w' : World) (hb : Below (w.alloc (.cells #[.int .i64 p.kind, .int .i64 p.num, .string p.text, .slice A p.list.length c] 34)).heap.size (w.alloc (.cells #[.int .i64 p.kind, .int .i64 p.num, .string p.text, .slice A p.list.length c] 34)) w') =>
    val_all _ p (Nat.le_refl _) (Pl.left_kind p 65536 0 (of_decide_eq_true h)) w.heap.size 0 w' (w.heap.size + 1) (by have := hb.size; rw [size_alloc] at this; omega) ((box_lies p A c w 34 hs hl).keep (fun b o h1 => hb.cell (p := ⟨b, o, none⟩) (by rw [size_alloc]; exact h1)) (Nat.le_refl _)))
  unfold Pl.arg at KM ⊢
  have t0 := fun j => show (w.alloc (.cells #[.int .i64 p.kind, .int .i64 p.num, .string p.text, .slice A p.list.length c] 34)).cell? ⟨w.heap.size, j, none⟩ = (#[.int .i64 p.kind, .int .i64 p.num, .string p.text, .slice A p.list.length c] : Array Value)[j]? by exact World.cell?_alloc_new _ _ _ _
  have hsz := size_alloc w (.cells #[.int .i64 p.kind, .int .i64 p.num, .string p.text, .slice A p.list.length c] 34)
  generalize hq : p.mayB = q at *
  go_enter Tryz.func26, Tryz.ntmps26
  go_wp2_with fail
  refine KM.out.mono ?_
  rintro e w1 ⟨rfl, hb⟩
  have HB1 := Lib.hid hb
  clear hb t0
  cases q
  · go_wp2
    go_ret2
    exact .inr ⟨hq, rfl, HB.out.trans (HB1.out.mono HB.out.size)⟩
  · have KV1 := Lib.hid (KV.out rfl w1 HB1.out)
    go_wp2_with fail
    refine KV1.out.mono ?_
    rintro e w2 ⟨v, rfl, hv, hb2⟩
    have HV := Lib.hid hv
    have HB2 := Lib.hid (HB.out.trans ((HB1.out.trans (hb2.mono HB1.out.size)).mono HB.out.size))
    have hs1 := HB1.out.size
    have hs2 := hb2.size
    clear hv hb2
    go_wp2
    go_ret2
    exact .inl ⟨hq, v, rfl, HV.out.keep (fun _ _ _ => rfl) (fun b hb => ⟨by have := hb.1; omega, hb.2⟩), HB2.out⟩
end Go.Proofs.YthjpphojddbbmaaGreatDoor
