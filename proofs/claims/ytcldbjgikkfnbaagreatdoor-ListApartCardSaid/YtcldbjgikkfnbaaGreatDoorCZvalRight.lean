/-
  Texts of a proof in one: ZvalRight, ZvalRight2. Conditions: each names its own.
-/
import Derived.Test.YtcldbjgikkfnbaaGreatDoorCBase
import Derived.Test.YtcldbjgikkfnbaaGreatDoorProg
import Derived.StillTailTactics
import Derived.Lib.Strings
/-
  What zval's look at a plain value comes to: a walk, for every plain value. Conditions: it lies in memory.
-/
namespace Go.Proofs.YtcldbjgikkfnbaaGreatDoor
open Go.RowKit
set_option linter.unusedVariables false

/-- What the closure finds in what it captured: what is left; itself. -/
structure LookZ (w : World) (l q : Nat) (left : Int) : Prop where
  left : w.heap[l]? = some (.cells #[.int .i64 left] 3 (0, 0))
  self : w.heap[q]? = some (.cells #[.func (.func 82) #[] #[.pointer (some ⟨l, 0, none⟩), .pointer (some ⟨q, 0, none⟩)]] 205 (0, 0))
def RightPost (w : World) (l q : Nat) (r : Bool × Int) (e : Ending) (w' : World) : Prop := e = .returned (.bool r.1) ∧ LookZ w' l q r.2 ∧ w.grownBy w' (some l)

/-- Of a plain value that is refused at once. -/
def Pl.bad : Pl → Int → Int → Prop
  | .mk k _ t l, left, deep => left - 1 < 0 ∨ 64 < deep ∨ (k ≠ 4 ∧ t.size ≠ 0) ∨ (k ≠ 5 ∧ 0 < l.length)

theorem LookZ.set {w : World} {l q : Nat} {a : Int} (h : LookZ w l q a) (hne : l ≠ q) (b : Int) : LookZ (w.setCell ⟨l, 0, none⟩ (.int .i64 b)) l q b :=
  ⟨one_setCell h.left, by rw [Below.heap_setCell _ _ _ _ (Ne.symm hne)]; exact h.self⟩
theorem grown_set (w : World) (l : Nat) (v : Value) : w.grownBy (w.setCell ⟨l, 0, none⟩ v) (some l) :=
  ⟨rfl, rfl, rfl, by simp [World.setCell], fun k _ hne => Below.heap_setCell _ _ _ _ (fun e => hne (by rw [e]))⟩

theorem LookZ.drew {w : World} {l q : Nat} {a : Int} (h : LookZ w l q a) : LookZ w.drew l q a := ⟨h.left, h.self⟩
set_option maxRecDepth 100000 in
set_option maxHeartbeats 4000000 in
theorem right1_scalar (k n : Int) (t : ByteArray) (ls : List Pl) (hk5 : k ≠ 5) (b o l q : Nat) (left deep : Int) (w : World) (B : Nat) (hBl : B ≤ l) (hBq : B ≤ q) (hne : l ≠ q)
    (h0 : 0 ≤ left) (h1 : left ≤ 65536) (hd0 : 0 ≤ deep) (hd1 : deep ≤ 65) (hl : (Pl.mk k n t ls).lies w B b o) (hL : LookZ w l q left) :
    Calls Tryz.prog 82 #[.pointer (some ⟨b, o, none⟩), .int .i64 deep, .pointer (some ⟨l, 0, none⟩), .pointer (some ⟨q, 0, none⟩)] w (RightPost w l q ((Pl.mk k n t ls).right left deep)) := by
  unfold Pl.lies at hl
  obtain ⟨hb, c0, c1, c2, rk, rn, ht, hlen, A, c, c3, hrest⟩ := hl
  have hcl := cell_of_one hL.left
  have hcf := free_of_one hL.left
  have hs := Lib.hid (hL.set hne)
  have hbl : b < l := by omega
  have hne' : ¬ b = l := by omega
  have HL := Lib.hid hL
  clear hL hrest
  rw [rng_iff] at rk rn
  obtain ⟨k1, k2⟩ := rk
  obtain ⟨n1, n2⟩ := rn
  have hbad : (left - 1 < 0 ∨ 64 < deep ∨ (k ≠ 4 ∧ t.size ≠ 0) ∨ (k ≠ 5 ∧ 0 < ls.length)) → Hid ((Pl.mk k n t ls).right left deep = (false, left - 1)) := fun h => by unfold Hid Pl.right; rw [if_pos h]
  have hgood : ¬ (left - 1 < 0 ∨ 64 < deep ∨ (k ≠ 4 ∧ t.size ≠ 0) ∨ (k ≠ 5 ∧ 0 < ls.length)) → Hid ((Pl.mk k n t ls).right left deep = (if k = 2 then (decide (n = 0 ∨ n = 1), left - 1) else if k = 3 then (true, left - 1) else if k = 1 ∨ k = 4 then (decide (n = 0 ∧ 0 ≤ left - 1 - t.size), left - 1 - t.size) else if k = 5 then (((Pls.right ls (left - 1) (deep + 1)).1 && decide (n = 0)), (Pls.right ls (left - 1) (deep + 1)).2) else (false, left - 1))) := fun h => by unfold Hid; rw [Pl.right, if_neg h]
  have HB := Lib.hid hbad
  have HG := Lib.hid hgood
  clear hbad hgood
  have hsz : t.toList = [] ↔ t.size = 0 := by
    rw [Lib.toList_data, ← List.length_eq_zero_iff]; simp
  have HS := Lib.hid hsz
  clear hsz
  by_cases ha : left - 1 < 0
  · have hx := HB.out (.inl ha)
    go_enter Tryz.func82, Tryz.ntmps82
    go_wp2
    go_ret
    exact ⟨by rw [hx.out]; rfl, by rw [hx.out]; exact hs.out _, grown_set _ _ _⟩
  by_cases hb1 : 64 < deep
  · have hx := HB.out (.inr (.inl hb1))
    go_enter Tryz.func82, Tryz.ntmps82
    go_wp2
    go_ret
    exact ⟨by rw [hx.out]; rfl, by rw [hx.out]; exact hs.out _, grown_set _ _ _⟩
  by_cases h4 : k = 4
  · subst h4
    by_cases h5 : 0 < ls.length
    · have hx := HB.out (.inr (.inr (.inr ⟨by decide, h5⟩)))
      go_enter Tryz.func82, Tryz.ntmps82
      go_wp2
      go_ret
      exact ⟨by rw [hx.out]; rfl, by rw [hx.out]; exact hs.out _, grown_set _ _ _⟩
    · have hg := HG.out (by rintro (h | h | ⟨h, _⟩ | ⟨_, h⟩); exact ha h; exact hb1 h; exact h rfl; exact h5 h)
      have hx := Lib.hid (hg.out.trans ((if_neg (by decide)).trans ((if_neg (by decide)).trans (if_pos (.inr rfl)))))
      clear hg
      go_enter Tryz.func82, Tryz.ntmps82
      go_wp2
      refine gen (fun v => LookZ v l q (left - 1) ∧ (∀ a : Addr, a.block ≠ l → v.cell? a = w.cell? a) ∧ w.grownBy v (some l)) ?_ ?_
      · exact ⟨hs.out _, fun a ha => World.cell?_setCell_other _ _ _ _ (fun e => ha (by rw [← e])), grown_set _ _ _⟩
      intro v ⟨hLv, hcv, hgv⟩
      have d1 := (hcv ⟨b, o + 1, none⟩ (by simpa using hne')).trans c1
      have d2 := (hcv ⟨b, o + 2, none⟩ (by simpa using hne')).trans c2
      have dl := cell_of_one hLv.left
      have dlf := free_of_one hLv.left
      have hs := Lib.hid (hLv.set hne)
      have HL2 := Lib.hid hLv
      clear hLv hcv c0 c1 c2 c3 hcl hcf HL
      go_still_tail 7, (by kernel_rfl)
      go_wp2
      all_goals go_ret
      · exact ⟨by rw [hx.out]; exact ret_bool (by simp [*]; try omega), by rw [hx.out]; exact (hs.out _).drew, grown_drew (grown_on hgv (grown_set _ _ _))⟩
      · exact ⟨by rw [hx.out]; exact ret_bool (by simp [*]; try omega), by rw [hx.out]; exact (hs.out _).drew, grown_drew (grown_on hgv (grown_set _ _ _))⟩
  have hk4 : (k != 4) = true := by simpa using h4
  have hk5b : (k != 5) = true := by simpa using hk5
  by_cases ht0 : t.toList = []
  · by_cases h5 : 0 < ls.length
    · have hx := HB.out (.inr (.inr (.inr ⟨hk5, h5⟩)))
      go_enter Tryz.func82, Tryz.ntmps82
      go_wp2
      go_ret
      exact ⟨by rw [hx.out]; rfl, by rw [hx.out]; exact hs.out _, grown_set _ _ _⟩
    · have hg := HG.out (by rintro (h | h | ⟨_, h⟩ | ⟨_, h⟩); exact ha h; exact hb1 h; exact h (HS.out.1 ht0); exact h5 h)
      by_cases k2' : k = 2
      · have hx := Lib.hid (hg.out.trans (if_pos k2'))
        subst k2'
        clear hg
        by_cases hn : n = 0
        · subst hn
          go_enter Tryz.func82, Tryz.ntmps82
          go_wp2
          go_ret
          exact ⟨by rw [hx.out]; rfl, by rw [hx.out]; exact hs.out _, grown_set _ _ _⟩
        · have hnb : (n == 0) = false := by simpa using hn
          go_enter Tryz.func82, Tryz.ntmps82
          go_wp2
          go_ret
          exact ⟨by rw [hx.out]; exact ret_bool (by rw [Bool.eq_iff_iff]; simp [hn]), by rw [hx.out]; exact hs.out _, grown_set _ _ _⟩
      · have k2b : (k == 2) = false := by simpa using k2'
        by_cases k3 : k = 3
        · have hx := Lib.hid (hg.out.trans ((if_neg k2').trans (if_pos k3)))
          subst k3
          clear hg
          go_enter Tryz.func82, Tryz.ntmps82
          go_wp2
          go_ret
          exact ⟨by rw [hx.out]; rfl, by rw [hx.out]; exact hs.out _, grown_set _ _ _⟩
        · have k3b : (k == 3) = false := by simpa using k3
          by_cases k1' : k = 1
          · have hx := Lib.hid (hg.out.trans ((if_neg k2').trans ((if_neg k3).trans (if_pos (.inl k1')))))
            subst k1'
            clear hg
            go_enter Tryz.func82, Tryz.ntmps82
            go_wp2
            refine gen (fun v => LookZ v l q (left - 1) ∧ (∀ a : Addr, a.block ≠ l → v.cell? a = w.cell? a) ∧ w.grownBy v (some l)) ?_ ?_
            · exact ⟨hs.out _, fun a ha => World.cell?_setCell_other _ _ _ _ (fun e => ha (by rw [← e])), grown_set _ _ _⟩
            intro v ⟨hLv, hcv, hgv⟩
            have d1 := (hcv ⟨b, o + 1, none⟩ (by simpa using hne')).trans c1
            have d2 := (hcv ⟨b, o + 2, none⟩ (by simpa using hne')).trans c2
            have dl := cell_of_one hLv.left
            have dlf := free_of_one hLv.left
            have hs := Lib.hid (hLv.set hne)
            have HL2 := Lib.hid hLv
            clear hLv hcv c0 c1 c2 c3 hcl hcf HL
            go_still_tail 7, (by kernel_rfl)
            go_wp2
            all_goals go_ret
            · exact ⟨by rw [hx.out]; exact ret_bool (by simp [*]; try omega), by rw [hx.out]; exact (hs.out _).drew, grown_drew (grown_on hgv (grown_set _ _ _))⟩
            · exact ⟨by rw [hx.out]; exact ret_bool (by simp [*]; try omega), by rw [hx.out]; exact (hs.out _).drew, grown_drew (grown_on hgv (grown_set _ _ _))⟩
          · have k1b : (k == 1) = false := by simpa using k1'
            have k4b : (k == 4) = false := by simpa using h4
            have k5b : (k == 5) = false := by simpa using hk5
            have hx := Lib.hid (hg.out.trans ((if_neg k2').trans ((if_neg k3).trans ((if_neg (by omega)).trans (if_neg hk5)))))
            clear hg
            go_enter Tryz.func82, Tryz.ntmps82
            go_wp2
            go_ret
            exact ⟨by rw [hx.out]; rfl, by rw [hx.out]; exact hs.out _, grown_set _ _ _⟩
  · have hx := HB.out (.inr (.inr (.inl ⟨h4, fun h => ht0 (HS.out.2 h)⟩)))
    go_enter Tryz.func82, Tryz.ntmps82
    go_wp2
    go_ret
    exact ⟨by rw [hx.out]; rfl, by rw [hx.out]; exact hs.out _, grown_set _ _ _⟩

end Go.Proofs.YtcldbjgikkfnbaaGreatDoor

/-
  zval's look at a list of plain values, and at any plain value: walks. Conditions: it lies in memory.
-/
namespace Go.Proofs.YtcldbjgikkfnbaaGreatDoor
open Go.RowKit
set_option linter.unusedVariables false

set_option maxRecDepth 100000 in
set_option maxHeartbeats 4000000 in
theorem right1_list (n : Int) (t : ByteArray) (ls : List Pl)
    (ih : ∀ (j : Nat) (h : j < ls.length) (b o l q : Nat) (left deep : Int) (w : World) (B : Nat), B ≤ l → B ≤ q → l ≠ q → B ≤ w.heap.size → 0 ≤ left → left ≤ 65536 → 0 ≤ deep → deep ≤ 65 → ls[j].lies w B b o → LookZ w l q left →
      Calls Tryz.prog 82 #[.pointer (some ⟨b, o, none⟩), .int .i64 deep, .pointer (some ⟨l, 0, none⟩), .pointer (some ⟨q, 0, none⟩)] w (RightPost w l q (ls[j].right left deep)))
    (b o l q : Nat) (left deep : Int) (w : World) (B : Nat) (hBl : B ≤ l) (hBq : B ≤ q) (hne : l ≠ q) (hBw : B ≤ w.heap.size)
    (h0 : 0 ≤ left) (h1 : left ≤ 65536) (hd0 : 0 ≤ deep) (hd1 : deep ≤ 65) (hl : (Pl.mk 5 n t ls).lies w B b o) (hL : LookZ w l q left) :
    Calls Tryz.prog 82 #[.pointer (some ⟨b, o, none⟩), .int .i64 deep, .pointer (some ⟨l, 0, none⟩), .pointer (some ⟨q, 0, none⟩)] w (RightPost w l q ((Pl.mk 5 n t ls).right left deep)) := by
  have hlies := Lib.hid hl
  have IH := Lib.hid ih
  clear ih
  unfold Pl.lies at hl
  obtain ⟨hb, c0, c1, c2, rk, rn, ht, hlen, A, c, c3, hrest⟩ := hl
  have hcl := cell_of_one hL.left
  have hcf := free_of_one hL.left
  have hs := Lib.hid (hL.set hne)
  have hbl : b < l := by omega
  have hne' : ¬ b = l := by omega
  have HL := Lib.hid hL
  have HR := Lib.hid hrest
  clear hL hrest rk
  rw [rng_iff] at rn
  obtain ⟨n1, n2⟩ := rn
  have hbad : (left - 1 < 0 ∨ 64 < deep ∨ ((5 : Int) ≠ 4 ∧ t.size ≠ 0) ∨ ((5 : Int) ≠ 5 ∧ 0 < ls.length)) → Hid ((Pl.mk 5 n t ls).right left deep = (false, left - 1)) := fun h => by unfold Hid Pl.right; rw [if_pos h]
  have HB := Lib.hid hbad
  clear hbad
  have hsz : t.toList = [] ↔ t.size = 0 := by
    rw [Lib.toList_data, ← List.length_eq_zero_iff]; simp
  have HS := Lib.hid hsz
  clear hsz
  by_cases ha : left - 1 < 0
  · have hx := HB.out (.inl ha)
    go_enter Tryz.func82, Tryz.ntmps82
    go_wp2
    go_ret
    exact ⟨by rw [hx.out]; rfl, by rw [hx.out]; exact hs.out _, grown_set _ _ _⟩
  by_cases hb1 : 64 < deep
  · have hx := HB.out (.inr (.inl hb1))
    go_enter Tryz.func82, Tryz.ntmps82
    go_wp2
    go_ret
    exact ⟨by rw [hx.out]; rfl, by rw [hx.out]; exact hs.out _, grown_set _ _ _⟩
  by_cases ht0 : t.toList = []
  · have hx := Lib.hid (show (Pl.mk 5 n t ls).right left deep = (((Pls.right ls (left - 1) (deep + 1)).1 && decide (n = 0)), (Pls.right ls (left - 1) (deep + 1)).2) by
      rw [Pl.right, if_neg (by rintro (h | h | ⟨_, h⟩ | ⟨h, _⟩); exact ha h; exact hb1 h; exact h (HS.out.1 ht0); exact h rfl)]; rfl)
    go_enter Tryz.func82, Tryz.ntmps82
    go_wp2
    generalize hW1 : w.setCell ⟨l, 0, none⟩ (.int .i64 (left - 1)) = w1
    have hL1 : LookZ w1 l q (left - 1) := by rw [← hW1]; exact hs.out _
    have hg1 : w.grownBy w1 (some l) := by rw [← hW1]; exact grown_set _ _ _
    clear hW1 hs hcl hcf c0 c1 c2 c3 HL
    have HL1 := Lib.hid hL1
    clear hL1
    go_loopw [91] (fun s91 wr => ∃ (k : Nat) (L : Int), k ≤ ls.length ∧ s91 = .int .i64 (k : Int) ∧ LookZ wr l q L ∧ w.grownBy wr (some l) ∧ 0 ≤ L ∧ L ≤ 65536 ∧ Pls.right (ls.drop k) L (deep + 1) = Pls.right ls (left - 1) (deep + 1)) (fun s91 _ => ls.length - (intOf s91).toNat)
    case atStart => exact ⟨0, left - 1, Nat.zero_le _, rfl, HL1.out, hg1, by omega, by omega, by simp⟩
    case round =>
      obtain ⟨k, L, hk, rfl, hLr, hgr, hL0, hL1, heq⟩ := hrel
      have HE := Lib.hid heq
      have hlr := (hlies.out).grown hgr hBl hBw
      unfold Pl.lies at hlr
      obtain ⟨_, e0, e1, e2, _, _, _, _, A', c', e3, hrr⟩ := hlr
      have f0 := cell_of_one hLr.left
      have f1 := cell_of_one hLr.self
      by_cases hlt : k < ls.length
      · obtain ⟨b', o', rfl⟩ := hrr.head (by omega)
        have hel := Lib.hid (hrr.at_ k hlt)
        have hst := Lib.hid (Pls.right_step hlt L (deep + 1))
        have HLr := Lib.hid hLr
        have HGr := Lib.hid hgr
        have hBr : B ≤ wr.heap.size := Nat.le_trans hBw hgr.size
        clear hrr hLr hgr heq
        go_wp2
        go_still_tail 9, (by kernel_rfl)
        go_wp2_with fail
        refine (IH.out k hlt _ _ _ _ L _ wr.drew B hBl hBq hne hBr hL0 hL1 (by omega) (by omega) hel.out.drew HLr.out.drew).mono ?_
        rintro e w' ⟨rfl, hL', hg'⟩
        have hle := Pl.right_le ls[k] L (deep + 1)
        have hg2 := Lib.hid (grown_on (grown_drew HGr.out) hg')
        have HL' := Lib.hid hL'
        clear hL' hg' HLr HGr hel
        cases hr : (ls[k].right L (deep + 1)).1
        · have hfin : Pls.right ls (left - 1) (deep + 1) = (false, (ls[k].right L (deep + 1)).2) := by
            rw [← HE.out, hst.out, hr]; rfl
          have HF := Lib.hid hfin
          clear hfin hle HE hst
          go_wp2
          go_ret
          exact ⟨by rw [hx.out, HF.out]; rfl, by rw [hx.out, HF.out]; exact HL'.out, hg2.out⟩
        · have hnext : Pls.right (ls.drop (k + 1)) (ls[k].right L (deep + 1)).2 (deep + 1) = Pls.right ls (left - 1) (deep + 1) := by
            rw [← HE.out, hst.out, hr]; rfl
          have HN := Lib.hid hnext
          obtain ⟨hle1, hle2⟩ := hle
          have hle3 := hle2 hr
          clear hnext HE hst hle2
          go_wp2
          go_roundw
          case rel => exact ⟨k + 1, _, by omega, by go_num, HL'.out, hg2.out, hle3, by omega, HN.out⟩
          case measure => simp [intOf]; omega
      · obtain rfl : k = ls.length := by omega
        have hfin : Pls.right ls (left - 1) (deep + 1) = (true, L) := by
          rw [← heq, List.drop_length]; unfold Pls.right; rfl
        have HF := Lib.hid (hx.out.trans (by rw [hfin]))
        have HLr := Lib.hid hLr
        have HGr := Lib.hid hgr
        clear hfin heq hrr hLr hgr HE
        by_cases hn : n = 0
        · subst hn
          go_wp2
          go_ret
          exact ⟨by rw [HF.out]; rfl, by rw [HF.out]; exact HLr.out, HGr.out⟩
        · have hnb : (n == 0) = false := by simpa using hn
          go_wp2
          go_ret
          exact ⟨by rw [HF.out]; exact ret_bool (by simp [hn]), by rw [HF.out]; exact HLr.out, HGr.out⟩
  · have hx := HB.out (.inr (.inr (.inl ⟨by decide, fun h => ht0 (HS.out.2 h)⟩)))
    go_enter Tryz.func82, Tryz.ntmps82
    go_wp2
    go_ret
    exact ⟨by rw [hx.out]; rfl, by rw [hx.out]; exact hs.out _, grown_set _ _ _⟩

theorem right1_all : ∀ (m : Nat) (p : Pl), SizeOf.sizeOf p ≤ m → ∀ (b o l q : Nat) (left deep : Int) (w : World) (B : Nat), B ≤ l → B ≤ q → l ≠ q → B ≤ w.heap.size → 0 ≤ left → left ≤ 65536 → 0 ≤ deep → deep ≤ 65 → p.lies w B b o → LookZ w l q left →
      Calls Tryz.prog 82 #[.pointer (some ⟨b, o, none⟩), .int .i64 deep, .pointer (some ⟨l, 0, none⟩), .pointer (some ⟨q, 0, none⟩)] w (RightPost w l q (p.right left deep)) := by
  intro m
  induction m with
  | zero => intro p h; cases p; simp at h
  | succ m ih =>
    intro p hp b o l q left deep w B h1 h2 h3 h4 h5 h6 h7 h8 h9 h10
    obtain ⟨k, n, t, ls⟩ := p
    by_cases hk : k = 5
    · subst hk
      exact right1_list n t ls (fun j hj => ih ls[j] (by have := Pl.size_lt (k := 5) (n := n) (t := t) hj; omega)) b o l q left deep w B h1 h2 h3 h4 h5 h6 h7 h8 h9 h10
    · exact right1_scalar k n t ls hk b o l q left deep w B h1 h2 h3 h5 h6 h7 h8 h9 h10
end Go.Proofs.YtcldbjgikkfnbaaGreatDoor
