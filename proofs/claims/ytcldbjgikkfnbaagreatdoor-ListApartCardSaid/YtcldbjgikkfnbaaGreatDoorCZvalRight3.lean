/-
  Texts of a proof in one: ZvalRight3, ZvalAll, ZvalAllS. Conditions: each names its own.
-/
import Derived.Test.YtcldbjgikkfnbaaGreatDoorCZvalRight
import Derived.Laws.EntriesVeiled
import Derived.Test.YtcldbjgikkfnbaaGreatDoorCZvalOf
import Derived.Test.YtcldbjgikkfnbaaGreatDoorCZvalMay
/-
  zval.right: a walk, for every plain value. Conditions: it lies in memory.
-/
namespace Go.Proofs.YtcldbjgikkfnbaaGreatDoor
open Go.RowKit
set_option linter.unusedVariables false

set_option maxHeartbeats 1000000 in
theorem zval_right (p : Pl) (b o : Nat) (w : World) (hp : p.lies w w.heap.size b o) :
    Calls Tryz.prog 56 #[.pointer (some ⟨b, o, none⟩)] w fun e w' => e = .returned (.bool (p.right 65536 0).1) ∧ Below w.heap.size w w' := by
  have hlies : Hid (∀ v : World, Below w.heap.size w v → p.lies v w.heap.size b o) := fun v hv => hp.below hv (Nat.le_refl _)
  clear hp
  go_enter Tryz.func56, Tryz.ntmps56
  go_wp2_with fail
  have hs : w.heap.size ≠ w.heap.size + 1 := by omega
  refine (right1_all (SizeOf.sizeOf p) p (Nat.le_refl _) _ _ _ _ 65536 0 _ w.heap.size (Nat.le_refl _) (Nat.le_succ _) (by omega) (by simp; omega) (by decide) (by decide) (by decide) (by decide) (hlies.out _ ?_) ?_).mono ?_
  · exact ((Below.refl _ _).alloc (Nat.le_refl _) _).alloc (by simp) _
  · exact ⟨(heap_alloc2 _ _ _).1, (heap_alloc2 _ _ _).2⟩
  rintro e w' ⟨rfl, hL, hg⟩
  go_wp2
  go_ret
  exact ⟨rfl, (((Below.refl _ _).alloc (Nat.le_refl _) _).alloc (by simp) _).grown hg (by simp; omega) (fun k hk => by injection hk with hk; omega)⟩
end Go.Proofs.YtcldbjgikkfnbaaGreatDoor

/-
  zval.All: the values of plain ones: a walk, for every list of plain values. Conditions: it lies in memory.
-/
namespace Go.Proofs.YtcldbjgikkfnbaaGreatDoor
open Go.RowKit
set_option linter.unusedVariables false

def AllPost (ps : List Pl) (w : World) (e : Ending) (w' : World) : Prop :=
  (ps.all Pl.ok = true ∧ ∃ A c, e = .returned (.tuple #[.slice A ps.length c, .bool true]) ∧ Vls.lies w' (fresh w w') (Pls.toVl ps) A ∧ Below w.heap.size w w') ∨
  (ps.all Pl.ok = false ∧ e = .returned (.tuple #[.slice none 0 0, .bool false]) ∧ Below w.heap.size w w')

theorem all_false {ps : List Pl} {k : Nat} (h : k < ps.length) (hk : ps[k].ok = false) : ps.all Pl.ok = false := by
  rw [List.all_eq_false]; exact ⟨ps[k], List.getElem_mem h, by simp [hk]⟩
theorem all_true {ps : List Pl} (h : ∀ j (hj : j < ps.length), ps[j].ok = true) : ps.all Pl.ok = true := by
  rw [List.all_eq_true]
  intro p hp
  obtain ⟨j, hj, rfl⟩ := List.mem_iff_getElem.1 hp
  exact h j hj

/-- What one round does to the values that have been gathered. -/
theorem all_step {ps : List Pl} {k base : Nat} {us : List Value} {wr w2 w3 w4 : World} {s4 v' v : Value} {X Y : Obj} (hlt : k < ps.length) (hus : us.length = k) {e : TypeId}
    (hown : wr.ownsRow base e 1 s4 k us) (hb2 : Below (wr.alloc X).heap.size (wr.alloc X) w2) (hb3 : Below w2.heap.size w2 w3) (hgr : (w3.alloc Y).grownBy w4 s4.ownBlock) (hblk : v'.ownBlock = s4.ownBlock ∨ v'.ownBlock = some (w3.alloc Y).heap.size)
    (hel : ∀ j (h : j < ps.length) (h' : j < us.length), ps[j].toVl.is wr (fun b => (base ≤ b ∧ b < wr.heap.size) ∧ s4.ownBlock ≠ some b) us[j]) (hv : ps[k].toVl.is w3 (fresh w2 w3) v) (hbase : base ≤ wr.heap.size) :
    ∀ j (h : j < ps.length) (h' : j < (us ++ [v]).length), ps[j].toVl.is w4 (fun b => (base ≤ b ∧ b < w4.heap.size) ∧ v'.ownBlock ≠ some b) (us ++ [v])[j] := by
  intro j h h'
  have hs2 := hb2.size
  have hs3 := hb3.size
  have hs4 := hgr.size
  rw [size_alloc] at hs2 hs4 hblk
  have hol : ∀ g, s4.ownBlock = some g → g < wr.heap.size := fun g hg => (hown.lt g hg).2
  have hc3 : ∀ b o, b < w3.heap.size → s4.ownBlock ≠ some b → w4.cell? ⟨b, o, none⟩ = w3.cell? ⟨b, o, none⟩ := fun b o hb hne => by
    rw [World.cell?_of_block (a := ⟨b, o, none⟩) (hgr.block b (by rw [size_alloc]; omega) (Ne.symm hne)), World.cell?_alloc_lt _ _ _ hb]
  by_cases hj : j < k
  · rw [List.getElem_append_left (by omega)]
    refine (hel j h (by omega)).keep (fun b o hb => ?_) (fun b hb => ⟨⟨hb.1.1, by have := hb.1.2; omega⟩, ?_⟩)
    · rw [hc3 b o (by have := hb.1.2; omega) hb.2, hb3.cell (p := ⟨b, o, none⟩) (by have := hb.1.2; simp; omega), hb2.cell (p := ⟨b, o, none⟩) (by have := hb.1.2; simp; omega), World.cell?_alloc_lt _ _ _ hb.1.2]
    · rcases hblk with e | e <;> rw [e]
      · exact hb.2
      · intro e; injection e with e; have := hb.1.2; omega
  · have hjk : j = k := by simp at h'; omega
    rw [List.getElem_append_right (by omega)]
    simp only [hjk, hus, Nat.sub_self, List.getElem_cons_zero]
    have hne : ∀ b, fresh w2 w3 b → s4.ownBlock ≠ some b := fun b hb e => by have := hol b e; have := hb.1; omega
    refine hv.keep (fun b o hb => hc3 b o hb.2 (hne b hb)) (fun b hb => ⟨⟨by have := hb.1; omega, by have := hb.2; omega⟩, ?_⟩)
    rcases hblk with e | e <;> rw [e]
    · exact hne b hb
    · intro e; injection e with e; have := hb.2; omega

set_option maxRecDepth 100000 in
set_option maxHeartbeats 2000000 in
theorem zval_all (ps : List Pl) (A : Option Addr) (c : Nat) (w : World) (hlen : ps.length * 56 ≤ 140737488351232) (hl : Pls.lies w w.heap.size ps A) :
    Calls Tryz.prog 28 #[.slice A ps.length c] w (AllPost ps w) := by
  obtain ⟨i0, hi, hz0, hz1, hz2⟩ := info_parts info_value
  have HL := Lib.hid hl
  clear hl
  go_enter Tryz.func28, Tryz.ntmps28
  go_wp2
  go_loopw [4, 10] (fun s4 s10 wr => ∃ (k : Nat) (us : List Value), k ≤ ps.length ∧ s10 = .int .i64 (k : Int) ∧ us.length = k ∧ wr.ownsRow w.heap.size 35 1 s4 k us ∧
      (∀ j (h : j < ps.length) (h' : j < us.length), ps[j].toVl.is wr (fun b => (w.heap.size ≤ b ∧ b < wr.heap.size) ∧ s4.ownBlock ≠ some b) us[j]) ∧ (∀ j (h : j < ps.length), j < k → ps[j].ok = true) ∧ Below w.heap.size w wr) (fun _ s10 _ => ps.length - (intOf s10).toNat)
  case atStart => exact ⟨0, [], Nat.zero_le _, rfl, rfl, World.ownsRow_nil _ _ _ _, fun j h h' => absurd h' (by simp), fun j h h' => absurd h' (by omega), Below.refl _ _⟩
  case round =>
    obtain ⟨k, us, hk, rfl, hus, hown, hel, hok, hbel⟩ := hrel
    have HE := Lib.hid hel
    have HU := Lib.hid hus
    have HK := Lib.hid hok
    have HBL := Lib.hid hbel
    have HO := Lib.hid hown
    have hsz := hbel.size
    clear hel hus hbel hok hown
    by_cases hlt : k < ps.length
    · obtain ⟨b', o', rfl⟩ := HL.out.head (by omega)
      have hlies := ((HL.out.below HBL.out (Nat.le_refl _)).at_ k hlt)
      obtain ⟨hbb, e0, e1, e2, hlen2, A', c', e3, hll⟩ := hlies.parts
      obtain ⟨hcopy, hlist⟩ := hlies.copy hsz e3 31
      have hfine := Lib.hid hlies.fine
      have HC := Lib.hid hcopy
      have HLI := Lib.hid hlist
      clear hll hlies hcopy hlist
      go_wp2_with fail
      refine (zval_right ps[k] wr.heap.size 0 _ (by rw [size_alloc]; exact HC.out)).mono ?_
      rintro e w2 ⟨rfl, hb2⟩
      have hs2 := hb2.size
      rw [size_alloc] at hs2
      have hB2 := Lib.hid hb2
      have d0 : w2.cell? ⟨wr.heap.size, 0, none⟩ = some (.int .i64 ps[k].kind) := (hb2.cell (p := ⟨wr.heap.size, 0, none⟩) (by simp)).trans (by rw [World.cell?_alloc_new]; rfl)
      have d1 : w2.cell? ⟨wr.heap.size, 1, none⟩ = some (.int .i64 ps[k].num) := (hb2.cell (p := ⟨wr.heap.size, 1, none⟩) (by simp)).trans (by rw [World.cell?_alloc_new]; rfl)
      have d2 : w2.cell? ⟨wr.heap.size, 2, none⟩ = some (.string ps[k].text) := (hb2.cell (p := ⟨wr.heap.size, 2, none⟩) (by simp)).trans (by rw [World.cell?_alloc_new]; rfl)
      have d3 : w2.cell? ⟨wr.heap.size, 3, none⟩ = some (.slice A' ps[k].list.length c') := (hb2.cell (p := ⟨wr.heap.size, 3, none⟩) (by simp)).trans (by rw [World.cell?_alloc_new]; rfl)
      have hbw2 : Below w.heap.size w w2 := (HBL.out.alloc hsz _).trans (hb2.mono (by rw [size_alloc]; omega))
      have HBW2 := Lib.hid hbw2
      clear hb2 hbw2 e0 e1 e2 e3
      cases hr : (ps[k].right 65536 0).1
      · have hf := Lib.hid (all_false hlt (show ps[k].ok = false by unfold Pl.ok; rw [hr]; rfl))
        clear d0 d1 d2 d3
        go_wp2
        go_ret2
        exact .inr ⟨hf.out, rfl, HBW2.out⟩
      · go_wp2_with fail
        refine (zval_of ps[k] A' c' w2 hlen2 (HLI.out.below ((Below.refl w.heap.size wr |>.alloc hsz _).trans (hB2.out.mono (by rw [size_alloc]; omega))) (by omega))).mono ?_
        rintro e w3 ⟨v, rfl, hv, hb3⟩
        obtain ⟨vt, vx, rfl⟩ := hv.iface
        have HV := Lib.hid hv
        have HB3 := Lib.hid hb3
        have hs3 := hb3.size
        clear hv hb3 d0 d1 d2 d3
        go_wp2_with fail
        refine (zval_may ps[k].toVl w3 _ _ hfine.out HV.out).mono ?_
        rintro e w' ⟨rfl, rfl⟩
        by_cases hm : 0 ≤ ps[k].toVl.measure 65536 0
        · have hmb : decide (0 ≤ ps[k].toVl.measure 65536 0) = true := by simpa using hm
          have hpk : Hid (ps[k].ok = true) := by unfold Hid Pl.ok; rw [hr, hmb]; rfl
          have hone := one_new w3 (.iface vt vx) 35
          have hown3 := own_below (own_below (HO.out.alloc (.cells #[.int .i64 ps[k].kind, .int .i64 ps[k].num, .string ps[k].text, .slice A' ps[k].list.length c'] 31)) hB2.out) HB3.out
          clear hm
          go_wp2_with (at_builtin; refine wpList_append_own_at _ rfl _ _ 46 rfl w.heap.size 35 i0 .nilIface 1 16 Tryz.underlying46 hi hz0 hz1 hz2 rfl (by decide) _ _ _ rfl (hown3.alloc _) ⟨w3.heap.size, 0, none⟩ 1 1 [.iface vt vx] rfl rfl hone (by intro u hu; simp at hu; subst hu; rfl) (by unfold maxLen; omega) (by omega) (by simp; omega) ?_)
          intro v' w4 hown4 hgr4 _ hblk
          have hel4 := all_step hlt HU.out HO.out hB2.out HB3.out hgr4 (by rw [size_alloc]; exact hblk) HE.out HV.out hsz
          have hs4 := hgr4.size
          rw [size_alloc] at hs4
          have hb4 : Below w.heap.size w w4 := ((HBW2.out.trans (HB3.out.mono (by omega))).alloc (by omega) _).grown hgr4 (by rw [size_alloc]; omega) (fun g hg => (HO.out.lt g hg).1)
          have hok4 : ∀ j (h : j < ps.length), j < k + 1 → ps[j].ok = true := fun j h hj => by
            by_cases e : j = k
            · subst e; exact hpk.out
            · exact HK.out j h (by omega)
          have hlen4 : (us ++ [Value.iface vt vx]).length = k + 1 := by simp [HU.out]
          have H1 := Lib.hid hel4
          have H2 := Lib.hid hb4
          have H3 := Lib.hid hok4
          have H4 := Lib.hid hlen4
          have H5 := Lib.hid hown4
          clear hel4 hb4 hok4 hlen4 hown4 hgr4 hblk hown3 hone
          go_wp2
          go_roundw
          case rel => exact ⟨k + 1, us ++ [.iface vt vx], by omega, by go_num, H4.out, H5.out, H1.out, H3.out, H2.out⟩
          case measure => simp [intOf]; omega
        · have hmb : decide (0 ≤ ps[k].toVl.measure 65536 0) = false := by simpa using hm
          have hf := Lib.hid (all_false hlt (show ps[k].ok = false by unfold Pl.ok; rw [hr, hmb]; rfl))
          clear hm
          go_wp2
          go_ret2
          exact .inr ⟨hf.out, rfl, HBW2.out.trans (HB3.out.mono (by omega))⟩
    · obtain rfl : k = ps.length := by omega
      have hv : ∃ A c, u4 = .slice A ps.length c ∧ Vls.lies wr (fresh w wr) (Pls.toVl ps) A := by
        refine Vls.lies.of_own HU.out (by rw [Pls.toVl_length]; exact HU.out) HO.out (fun g hg _ => HO.out.lt g hg) (fun j h h' => ?_)
        have hj : j < ps.length := by rw [Pls.toVl_length] at h; exact h
        rw [Pls.toVl_get ps j hj h]
        exact (HE.out j hj h').keep (fun _ _ _ => rfl) (fun b hb => hb.1)
      obtain ⟨A', c', rfl, hA'⟩ := hv
      have H1 := Lib.hid hA'
      clear hA'
      go_wp2
      go_ret2
      exact .inl ⟨all_true fun j hj => HK.out j hj hj, A', c', rfl, H1.out, HBL.out⟩
end Go.Proofs.YtcldbjgikkfnbaaGreatDoor

/-
  zval.All: the values of plain ones, their lists apart: a walk, for every list of plain values. Conditions: it lies in memory.
-/
namespace Go.Proofs.YtcldbjgikkfnbaaGreatDoor
open Go.RowKit
set_option linter.unusedVariables false

def AllPostS (ps : List Pl) (w : World) (e : Ending) (w' : World) : Prop :=
  (ps.all Pl.ok = true ∧ ∃ A c us, e = .returned (.tuple #[.slice A ps.length c, .bool true]) ∧ w'.ownsRow w.heap.size 35 1 (.slice A ps.length c) ps.length us ∧ Vls.sep w' (Pls.toVl ps) (fun b => fresh w w' b ∧ (Value.slice A ps.length c).ownBlock ≠ some b) us ∧ Below w.heap.size w w') ∨
  (ps.all Pl.ok = false ∧ e = .returned (.tuple #[.slice none 0 0, .bool false]) ∧ Below w.heap.size w w')

theorem sep_step {base k : Nat} {l : List Vl} {x : Vl} {us : List Value} {wr w2 w3 w4 : World} {s v' v : Value} {X Y : Obj} {e : TypeId}
    (hel : Vls.sep wr l (fun b => (base ≤ b ∧ b < wr.heap.size) ∧ s.ownBlock ≠ some b) us) (hv : x.sep w3 (fresh w2 w3) v) (hown : wr.ownsRow base e 1 s k us) (hb2 : Below (wr.alloc X).heap.size (wr.alloc X) w2) (hb3 : Below w2.heap.size w2 w3) (hgr : (w3.alloc Y).grownBy w4 s.ownBlock)
    (hblk : v'.ownBlock = s.ownBlock ∨ v'.ownBlock = some (w3.heap.size + 1)) (hbase : base ≤ wr.heap.size) :
    Vls.sep w4 (l ++ [x]) (fun b => (base ≤ b ∧ b < w4.heap.size) ∧ v'.ownBlock ≠ some b) (us ++ [v]) := by
  have hs2 := hb2.size
  have hs3 := hb3.size
  have hs4 := hgr.size
  rw [size_alloc] at hs2 hs4
  have hol : ∀ g, s.ownBlock = some g → g < wr.heap.size := fun g hg => (hown.lt g hg).2
  have hne : ∀ b, fresh w2 w3 b → s.ownBlock ≠ some b := fun b hb e => by have := hol b e; have := hb.1; omega
  have h4 : ∀ b, s.ownBlock ≠ some b → b < w3.heap.size → w4.heap[b]? = w3.heap[b]? := fun b hn hb => (hgr.block b (by rw [size_alloc]; omega) (Ne.symm hn)).trans (Below.heap_alloc _ _ _ hb)
  refine Vls.sep.snoc (S2 := fun b => (base ≤ b ∧ b < wr.heap.size) ∧ s.ownBlock ≠ some b) (S1 := fresh w2 w3) (Vls.sep.keep _ _ _ _ (fun b hb => ?_) (fun _ h => h) hel) (Vl.sep.keep _ _ _ _ (fun b hb => h4 b (hne b hb) hb.2) (fun _ h => h) hv) (fun b hb => ⟨⟨hb.1.1, by have := hb.1.2; omega⟩, ?_⟩) (fun b hb => ⟨⟨by have := hb.1; omega, by have := hb.2; omega⟩, ?_⟩) (fun b hb hb' => by have := hb.1.2; have := hb'.1; omega)
  · have hlt := hb.1.2
    exact (h4 b hb.2 (by omega)).trans ((hb3.block b (by omega)).trans ((hb2.block b (by rw [size_alloc]; omega)).trans (Below.heap_alloc _ _ _ hlt)))
  · rcases hblk with e | e <;> rw [e]
    · exact hb.2
    · intro e; injection e with e; have := hb.1.2; omega
  · rcases hblk with e | e <;> rw [e]
    · exact hne b hb
    · intro e; injection e with e; have := hb.2; omega
set_option maxRecDepth 100000 in
set_option maxHeartbeats 2000000 in
theorem zval_allS (ps : List Pl) (A : Option Addr) (c : Nat) (w : World) (hlen : ps.length * 56 ≤ 140737488351232) (hl : Pls.lies w w.heap.size ps A) :
    Calls Tryz.prog 28 #[.slice A ps.length c] w (AllPostS ps w) := by
  obtain ⟨i0, hi, hz0, hz1, hz2⟩ := info_parts info_value
  have HL := Lib.hid hl
  clear hl
  go_enter Tryz.func28, Tryz.ntmps28
  go_wp2
  go_loopw [4, 10] (fun s4 s10 wr => ∃ (k : Nat) (us : List Value), k ≤ ps.length ∧ s10 = .int .i64 (k : Int) ∧ us.length = k ∧ wr.ownsRow w.heap.size 35 1 s4 k us ∧
      Vls.sep wr (Pls.toVl (ps.take k)) (fun b => (w.heap.size ≤ b ∧ b < wr.heap.size) ∧ s4.ownBlock ≠ some b) us ∧ (∀ j (h : j < ps.length), j < k → ps[j].ok = true) ∧ Below w.heap.size w wr) (fun _ s10 _ => ps.length - (intOf s10).toNat)
  case atStart => exact ⟨0, [], Nat.zero_le _, rfl, rfl, World.ownsRow_nil _ _ _ _, by simpa [Pls.toVl] using Vls.sep.nil w _, fun j h h' => absurd h' (by omega), Below.refl _ _⟩
  case round =>
    obtain ⟨k, us, hk, rfl, hus, hown, hel, hok, hbel⟩ := hrel
    have HE := Lib.hid hel
    have HU := Lib.hid hus
    have HK := Lib.hid hok
    have HBL := Lib.hid hbel
    have HO := Lib.hid hown
    have hsz := hbel.size
    clear hel hus hbel hok hown
    by_cases hlt : k < ps.length
    · obtain ⟨b', o', rfl⟩ := HL.out.head (by omega)
      have hlies := ((HL.out.below HBL.out (Nat.le_refl _)).at_ k hlt)
      obtain ⟨hbb, e0, e1, e2, hlen2, A', c', e3, hll⟩ := hlies.parts
      obtain ⟨hcopy, hlist⟩ := hlies.copy hsz e3 31
      have hfine := Lib.hid hlies.fine
      have HC := Lib.hid hcopy
      have HLI := Lib.hid hlist
      clear hll hlies hcopy hlist
      go_wp2_with fail
      refine (zval_right ps[k] wr.heap.size 0 _ (by rw [size_alloc]; exact HC.out)).mono ?_
      rintro e w2 ⟨rfl, hb2⟩
      have hs2 := hb2.size
      rw [size_alloc] at hs2
      have hB2 := Lib.hid hb2
      have d0 : w2.cell? ⟨wr.heap.size, 0, none⟩ = some (.int .i64 ps[k].kind) := (hb2.cell (p := ⟨wr.heap.size, 0, none⟩) (by simp)).trans (by rw [World.cell?_alloc_new]; rfl)
      have d1 : w2.cell? ⟨wr.heap.size, 1, none⟩ = some (.int .i64 ps[k].num) := (hb2.cell (p := ⟨wr.heap.size, 1, none⟩) (by simp)).trans (by rw [World.cell?_alloc_new]; rfl)
      have d2 : w2.cell? ⟨wr.heap.size, 2, none⟩ = some (.string ps[k].text) := (hb2.cell (p := ⟨wr.heap.size, 2, none⟩) (by simp)).trans (by rw [World.cell?_alloc_new]; rfl)
      have d3 : w2.cell? ⟨wr.heap.size, 3, none⟩ = some (.slice A' ps[k].list.length c') := (hb2.cell (p := ⟨wr.heap.size, 3, none⟩) (by simp)).trans (by rw [World.cell?_alloc_new]; rfl)
      have hbw2 : Below w.heap.size w w2 := (HBL.out.alloc hsz _).trans (hb2.mono (by rw [size_alloc]; omega))
      have HBW2 := Lib.hid hbw2
      clear hb2 hbw2 e0 e1 e2 e3
      cases hr : (ps[k].right 65536 0).1
      · have hf := Lib.hid (all_false hlt (show ps[k].ok = false by unfold Pl.ok; rw [hr]; rfl))
        clear d0 d1 d2 d3
        go_wp2
        go_ret2
        exact .inr ⟨hf.out, rfl, HBW2.out⟩
      · go_wp2_with fail
        refine (zval_ofS ps[k] A' c' w2 hlen2 (HLI.out.below ((Below.refl w.heap.size wr |>.alloc hsz _).trans (hB2.out.mono (by rw [size_alloc]; omega))) (by omega))).mono ?_
        rintro e w3 ⟨v, rfl, hv, hb3⟩
        obtain ⟨vt, vx, rfl⟩ := hv.iface
        have HV := Lib.hid hv
        have HB3 := Lib.hid hb3
        have hs3 := hb3.size
        clear hv hb3 d0 d1 d2 d3
        go_wp2_with fail
        refine (zval_may ps[k].toVl w3 _ _ hfine.out (Vl.sep.is _ _ _ HV.out)).mono ?_
        rintro e w' ⟨rfl, rfl⟩
        by_cases hm : 0 ≤ ps[k].toVl.measure 65536 0
        · have hmb : decide (0 ≤ ps[k].toVl.measure 65536 0) = true := by simpa using hm
          have hpk : Hid (ps[k].ok = true) := by unfold Hid Pl.ok; rw [hr, hmb]; rfl
          have hone := one_new w3 (.iface vt vx) 35
          have hown3 := own_below (own_below (HO.out.alloc (.cells #[.int .i64 ps[k].kind, .int .i64 ps[k].num, .string ps[k].text, .slice A' ps[k].list.length c'] 31)) hB2.out) HB3.out
          clear hm
          go_wp2_with (at_builtin; refine wpList_append_own_at _ rfl _ _ 46 rfl w.heap.size 35 i0 .nilIface 1 16 Tryz.underlying46 hi hz0 hz1 hz2 rfl (by decide) _ _ _ rfl (hown3.alloc _) ⟨w3.heap.size, 0, none⟩ 1 1 [.iface vt vx] rfl rfl hone (by intro u hu; simp at hu; subst hu; rfl) (by unfold maxLen; omega) (by omega) (by simp; omega) ?_)
          intro v' w4 hown4 hgr4 _ hblk
          have hs4 := hgr4.size
          rw [size_alloc] at hs4
          have hel4 : Vls.sep w4 (Pls.toVl (ps.take (k + 1))) (fun b => (w.heap.size ≤ b ∧ b < w4.heap.size) ∧ v'.ownBlock ≠ some b) (us ++ [Value.iface vt vx]) := by
            rw [Pls.toVl_snoc hlt]
            exact sep_step HE.out HV.out HO.out hB2.out HB3.out hgr4 hblk hsz
          have hb4 : Below w.heap.size w w4 := ((HBW2.out.trans (HB3.out.mono (by omega))).alloc (by omega) _).grown hgr4 (by rw [size_alloc]; omega) (fun g hg => (HO.out.lt g hg).1)
          have hok4 : ∀ j (h : j < ps.length), j < k + 1 → ps[j].ok = true := fun j h hj => by
            by_cases e : j = k
            · subst e; exact hpk.out
            · exact HK.out j h (by omega)
          have hlen4 : (us ++ [Value.iface vt vx]).length = k + 1 := by simp [HU.out]
          have H1 := Lib.hid hel4
          have H2 := Lib.hid hb4
          have H3 := Lib.hid hok4
          have H4 := Lib.hid hlen4
          have H5 := Lib.hid hown4
          clear hel4 hb4 hok4 hlen4 hown4 hgr4 hblk hown3 hone
          go_wp2
          go_roundw
          case rel => exact ⟨k + 1, us ++ [.iface vt vx], by omega, by go_num, H4.out, H5.out, H1.out, H3.out, H2.out⟩
          case measure => simp [intOf]; omega
        · have hmb : decide (0 ≤ ps[k].toVl.measure 65536 0) = false := by simpa using hm
          have hf := Lib.hid (all_false hlt (show ps[k].ok = false by unfold Pl.ok; rw [hr, hmb]; rfl))
          clear hm
          go_wp2
          go_ret2
          exact .inr ⟨hf.out, rfl, HBW2.out.trans (HB3.out.mono (by omega))⟩
    · obtain rfl : k = ps.length := by omega
      have hv : ∃ A c, u4 = .slice A ps.length c := by
        rcases HO.out.2 with ⟨e, h0⟩ | ⟨g, cap, cur, e, _⟩
        · exact ⟨none, 0, by rw [e, h0]⟩
        · exact ⟨_, _, e⟩
      obtain ⟨A', c', rfl⟩ := hv
      have hse := HE.out
      rw [List.take_length] at hse
      have H1 := Lib.hid hse
      clear hse
      go_wp2
      go_ret2
      exact .inl ⟨all_true fun j hj => HK.out j hj hj, A', c', us, rfl, HO.out, H1.out, HBL.out⟩
end Go.Proofs.YtcldbjgikkfnbaaGreatDoor
