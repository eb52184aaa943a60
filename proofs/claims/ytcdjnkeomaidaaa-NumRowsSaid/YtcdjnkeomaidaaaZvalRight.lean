/-
  What zval's look at a plain value comes to: a walk, for every plain value. Conditions: it lies in memory.
-/
import Derived.Test.YtcdjnkeomaidaaaPlains
import Derived.Test.YtcdjnkeomaidaaaProg
import Derived.StillTailTactics
import Derived.Lib.Strings
namespace Go.Proofs.Ytcdjnkeomaidaaa
open Go.RowKit
set_option linter.unusedVariables false

/-- What the closure finds in what it captured: what is left; itself. -/
structure Looks (w : World) (l q : Nat) (left : Int) : Prop where
  left : w.heap[l]? = some (.cells #[.int .i64 left] 3 (0, 0))
  self : w.heap[q]? = some (.cells #[.func (.func 59) #[] #[.pointer (some ⟨l, 0, none⟩), .pointer (some ⟨q, 0, none⟩)]] 133 (0, 0))
def RightPost (w : World) (l q : Nat) (r : Bool × Int) (e : Ending) (w' : World) : Prop := e = .returned (.bool r.1) ∧ Looks w' l q r.2 ∧ w.grownBy w' (some l)

/-- Of a plain value that is refused at once. -/
def Pl.bad : Pl → Int → Int → Prop
  | .mk k _ t l, left, deep => left - 1 < 0 ∨ 64 < deep ∨ (k ≠ 4 ∧ t.size ≠ 0) ∨ (k ≠ 5 ∧ 0 < l.length)

theorem Looks.set {w : World} {l q : Nat} {a : Int} (h : Looks w l q a) (hne : l ≠ q) (b : Int) : Looks (w.setCell ⟨l, 0, none⟩ (.int .i64 b)) l q b :=
  ⟨one_setCell h.left, by rw [Below.heap_setCell _ _ _ _ (Ne.symm hne)]; exact h.self⟩
theorem grown_set (w : World) (l : Nat) (v : Value) : w.grownBy (w.setCell ⟨l, 0, none⟩ v) (some l) :=
  ⟨rfl, rfl, rfl, by simp [World.setCell], fun k _ hne => Below.heap_setCell _ _ _ _ (fun e => hne (by rw [e]))⟩

theorem Looks.drew {w : World} {l q : Nat} {a : Int} (h : Looks w l q a) : Looks w.drew l q a := ⟨h.left, h.self⟩
set_option maxRecDepth 100000 in
set_option maxHeartbeats 4000000 in
theorem right1_scalar (k n : Int) (t : ByteArray) (ls : List Pl) (hk5 : k ≠ 5) (b o l q : Nat) (left deep : Int) (w : World) (B : Nat) (hBl : B ≤ l) (hBq : B ≤ q) (hne : l ≠ q)
    (h0 : 0 ≤ left) (h1 : left ≤ 65536) (hd0 : 0 ≤ deep) (hd1 : deep ≤ 65) (hl : (Pl.mk k n t ls).lies w B b o) (hL : Looks w l q left) :
    Calls Try.prog 59 #[.pointer (some ⟨b, o, none⟩), .int .i64 deep, .pointer (some ⟨l, 0, none⟩), .pointer (some ⟨q, 0, none⟩)] w (RightPost w l q ((Pl.mk k n t ls).right left deep)) := by
  unfold Pl.lies at hl
  obtain ⟨hb, c0, c1, c2, rk, rn, ht, hlen, A, c, c3, hrest⟩ := hl
  have hcl := cell_of_one hL.left
  have hcf := free_of_one hL.left
  have hs := Lib.hid (hL.set hne)
  have hbl : b < l := by omega
  have hne' : ¬ b = l := by omega
  have HL := Lib.hid hL
  clear hL hrest
  rw [rng_iff] at rk rn
  obtain ⟨k1, k2⟩ := rk
  obtain ⟨n1, n2⟩ := rn
  have hbad : (left - 1 < 0 ∨ 64 < deep ∨ (k ≠ 4 ∧ t.size ≠ 0) ∨ (k ≠ 5 ∧ 0 < ls.length)) → Hid ((Pl.mk k n t ls).right left deep = (false, left - 1)) := fun h => by unfold Hid Pl.right; rw [if_pos h]
  have hgood : ¬ (left - 1 < 0 ∨ 64 < deep ∨ (k ≠ 4 ∧ t.size ≠ 0) ∨ (k ≠ 5 ∧ 0 < ls.length)) → Hid ((Pl.mk k n t ls).right left deep = (if k = 2 then (decide (n = 0 ∨ n = 1), left - 1) else if k = 3 then (true, left - 1) else if k = 1 ∨ k = 4 then (decide (n = 0 ∧ 0 ≤ left - 1 - t.size), left - 1 - t.size) else if k = 5 then (((Pls.right ls (left - 1) (deep + 1)).1 && decide (n = 0)), (Pls.right ls (left - 1) (deep + 1)).2) else (false, left - 1))) := fun h => by unfold Hid; rw [Pl.right, if_neg h]
  have HB := Lib.hid hbad
  have HG := Lib.hid hgood
  clear hbad hgood
  have hsz : t.toList = [] ↔ t.size = 0 := by
    rw [Lib.toList_data, ← List.length_eq_zero_iff]; simp
  have HS := Lib.hid hsz
  clear hsz
  by_cases ha : left - 1 < 0
  · have hx := HB.out (.inl ha)
    go_enter Try.func59, Try.ntmps59
    go_wp2
    go_ret
    exact ⟨by rw [hx.out]; rfl, by rw [hx.out]; exact hs.out _, grown_set _ _ _⟩
  by_cases hb1 : 64 < deep
  · have hx := HB.out (.inr (.inl hb1))
    go_enter Try.func59, Try.ntmps59
    go_wp2
    go_ret
    exact ⟨by rw [hx.out]; rfl, by rw [hx.out]; exact hs.out _, grown_set _ _ _⟩
  by_cases h4 : k = 4
  · subst h4
    by_cases h5 : 0 < ls.length
    · have hx := HB.out (.inr (.inr (.inr ⟨by decide, h5⟩)))
      go_enter Try.func59, Try.ntmps59
      go_wp2
      go_ret
      exact ⟨by rw [hx.out]; rfl, by rw [hx.out]; exact hs.out _, grown_set _ _ _⟩
    · have hg := HG.out (by rintro (h | h | ⟨h, _⟩ | ⟨_, h⟩); exact ha h; exact hb1 h; exact h rfl; exact h5 h)
      have hx := Lib.hid (hg.out.trans ((if_neg (by decide)).trans ((if_neg (by decide)).trans (if_pos (.inr rfl)))))
      clear hg
      go_enter Try.func59, Try.ntmps59
      go_wp2
      refine gen (fun v => Looks v l q (left - 1) ∧ (∀ a : Addr, a.block ≠ l → v.cell? a = w.cell? a) ∧ w.grownBy v (some l)) ?_ ?_
      · exact ⟨hs.out _, fun a ha => World.cell?_setCell_other _ _ _ _ (fun e => ha (by rw [← e])), grown_set _ _ _⟩
      intro v ⟨hLv, hcv, hgv⟩
      have d1 := (hcv ⟨b, o + 1, none⟩ (by simpa using hne')).trans c1
      have d2 := (hcv ⟨b, o + 2, none⟩ (by simpa using hne')).trans c2
      have dl := cell_of_one hLv.left
      have dlf := free_of_one hLv.left
      have hs := Lib.hid (hLv.set hne)
      have HL2 := Lib.hid hLv
      clear hLv hcv c0 c1 c2 c3 hcl hcf HL
      go_still_tail 7, (by kernel_rfl)
      go_wp2
      all_goals go_ret
      · exact ⟨by rw [hx.out]; exact ret_bool (by simp [*]; try omega), by rw [hx.out]; exact (hs.out _).drew, grown_drew (grown_on hgv (grown_set _ _ _))⟩
      · exact ⟨by rw [hx.out]; exact ret_bool (by simp [*]; try omega), by rw [hx.out]; exact (hs.out _).drew, grown_drew (grown_on hgv (grown_set _ _ _))⟩
  have hk4 : (k != 4) = true := by simpa using h4
  have hk5b : (k != 5) = true := by simpa using hk5
  by_cases ht0 : t.toList = []
  · by_cases h5 : 0 < ls.length
    · have hx := HB.out (.inr (.inr (.inr ⟨hk5, h5⟩)))
      go_enter Try.func59, Try.ntmps59
      go_wp2
      go_ret
      exact ⟨by rw [hx.out]; rfl, by rw [hx.out]; exact hs.out _, grown_set _ _ _⟩
    · have hg := HG.out (by rintro (h | h | ⟨_, h⟩ | ⟨_, h⟩); exact ha h; exact hb1 h; exact h (HS.out.1 ht0); exact h5 h)
      by_cases k2' : k = 2
      · have hx := Lib.hid (hg.out.trans (if_pos k2'))
        subst k2'
        clear hg
        by_cases hn : n = 0
        · subst hn
          go_enter Try.func59, Try.ntmps59
          go_wp2
          go_ret
          exact ⟨by rw [hx.out]; rfl, by rw [hx.out]; exact hs.out _, grown_set _ _ _⟩
        · have hnb : (n == 0) = false := by simpa using hn
          go_enter Try.func59, Try.ntmps59
          go_wp2
          go_ret
          exact ⟨by rw [hx.out]; exact ret_bool (by rw [Bool.eq_iff_iff]; simp [hn]), by rw [hx.out]; exact hs.out _, grown_set _ _ _⟩
      · have k2b : (k == 2) = false := by simpa using k2'
        by_cases k3 : k = 3
        · have hx := Lib.hid (hg.out.trans ((if_neg k2').trans (if_pos k3)))
          subst k3
          clear hg
          go_enter Try.func59, Try.ntmps59
          go_wp2
          go_ret
          exact ⟨by rw [hx.out]; rfl, by rw [hx.out]; exact hs.out _, grown_set _ _ _⟩
        · have k3b : (k == 3) = false := by simpa using k3
          by_cases k1' : k = 1
          · have hx := Lib.hid (hg.out.trans ((if_neg k2').trans ((if_neg k3).trans (if_pos (.inl k1')))))
            subst k1'
            clear hg
            go_enter Try.func59, Try.ntmps59
            go_wp2
            refine gen (fun v => Looks v l q (left - 1) ∧ (∀ a : Addr, a.block ≠ l → v.cell? a = w.cell? a) ∧ w.grownBy v (some l)) ?_ ?_
            · exact ⟨hs.out _, fun a ha => World.cell?_setCell_other _ _ _ _ (fun e => ha (by rw [← e])), grown_set _ _ _⟩
            intro v ⟨hLv, hcv, hgv⟩
            have d1 := (hcv ⟨b, o + 1, none⟩ (by simpa using hne')).trans c1
            have d2 := (hcv ⟨b, o + 2, none⟩ (by simpa using hne')).trans c2
            have dl := cell_of_one hLv.left
            have dlf := free_of_one hLv.left
            have hs := Lib.hid (hLv.set hne)
            have HL2 := Lib.hid hLv
            clear hLv hcv c0 c1 c2 c3 hcl hcf HL
            go_still_tail 7, (by kernel_rfl)
            go_wp2
            all_goals go_ret
            · exact ⟨by rw [hx.out]; exact ret_bool (by simp [*]; try omega), by rw [hx.out]; exact (hs.out _).drew, grown_drew (grown_on hgv (grown_set _ _ _))⟩
            · exact ⟨by rw [hx.out]; exact ret_bool (by simp [*]; try omega), by rw [hx.out]; exact (hs.out _).drew, grown_drew (grown_on hgv (grown_set _ _ _))⟩
          · have k1b : (k == 1) = false := by simpa using k1'
            have k4b : (k == 4) = false := by simpa using h4
            have k5b : (k == 5) = false := by simpa using hk5
            have hx := Lib.hid (hg.out.trans ((if_neg k2').trans ((if_neg k3).trans ((if_neg (by omega)).trans (if_neg hk5)))))
            clear hg
            go_enter Try.func59, Try.ntmps59
            go_wp2
            go_ret
            exact ⟨by rw [hx.out]; rfl, by rw [hx.out]; exact hs.out _, grown_set _ _ _⟩
  · have hx := HB.out (.inr (.inr (.inl ⟨h4, fun h => ht0 (HS.out.2 h)⟩)))
    go_enter Try.func59, Try.ntmps59
    go_wp2
    go_ret
    exact ⟨by rw [hx.out]; rfl, by rw [hx.out]; exact hs.out _, grown_set _ _ _⟩

end Go.Proofs.Ytcdjnkeomaidaaa
