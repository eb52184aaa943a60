/-
  slices.Reverse of a list's row; list.turn: walks. Conditions: the values lie in memory.
-/
import Derived.Test.YtcldbjgikkfnbaaGreatDoorCListOps
import Derived.Shelf.RegionOpenPlain
namespace Go.Proofs.YtcldbjgikkfnbaaGreatDoor
open Go.RowKit
set_option linter.unusedVariables false

/-- The element at place j when i pairs have been exchanged. -/
def revIx (n i j : Nat) : Nat := if j < i ∨ n - 1 - j < i then n - 1 - j else j
structure RevIn (w : World) (g n i : Nat) (us : List Value) (e : TypeId) (cs : Nat) : Prop where
  blk : ∃ cur : Array Value, w.heap[g]? = some (.cells cur e (0, 0)) ∧ cur.size = cs ∧ ∀ j, j < n → ∃ h : revIx n i j < us.length, cur[j]? = some us[revIx n i j]
theorem RevIn.cells {w : World} {g n i cs : Nat} {us : List Value} {e : TypeId} (h : RevIn w g n i us e cs) (j : Nat) (hj : j < n) (hs : revIx n i j = j) (hu : j < us.length) : w.cell? ⟨g, j, none⟩ = some us[j] ∧ w.frozen? ⟨g, j, none⟩ = false := by
  obtain ⟨cur, h1, h2, h3⟩ := h.blk
  obtain ⟨h4, h5⟩ := h3 j hj
  simp only [hs] at h5
  exact ⟨by simp [World.cell?, h1, h5], by simp [World.frozen?, h1]⟩
theorem RevIn.step {w w' : World} {g n i cs : Nat} {us : List Value} {e : TypeId} (h : RevIn w g n i us e cs) (hi : i < n - 1 - i) (hn : n ≤ cs) (hl : us.length = n) (ui uj : Value) (hui : us[i]? = some ui) (huj : us[n - 1 - i]? = some uj) (hw : w'.heap[g]? = ((w.setCell ⟨g, i, none⟩ uj).setCell ⟨g, n - 1 - i, none⟩ ui).heap[g]?) : RevIn w' g n (i + 1) us e cs := by
  obtain ⟨cur, h1, h2, h3⟩ := h.blk
  refine ⟨⟨(cur.setIfInBounds i uj).setIfInBounds (n - 1 - i) ui, hw.trans (blk_set (blk_set h1 i uj) (n - 1 - i) ui), by simp [h2], fun j hj => ?_⟩⟩
  obtain ⟨h4, h5⟩ := h3 j hj
  have hb : revIx n (i + 1) j < us.length := by unfold revIx; split <;> omega
  refine ⟨hb, ?_⟩
  by_cases e1 : j = n - 1 - i
  · subst e1
    rw [Array.getElem?_setIfInBounds_self_of_lt (by simp; omega)]
    have : revIx n (i + 1) (n - 1 - i) = i := by unfold revIx; rw [if_pos (by omega)]; omega
    simp only [this]
    rw [← hui, List.getElem?_eq_getElem]
  · rw [Array.getElem?_setIfInBounds_ne (Ne.symm e1)]
    by_cases e2 : j = i
    · subst e2
      rw [Array.getElem?_setIfInBounds_self_of_lt (by omega)]
      have : revIx n (j + 1) j = n - 1 - j := by unfold revIx; rw [if_pos (by omega)]
      simp only [this]
      rw [← huj, List.getElem?_eq_getElem]
    · rw [Array.getElem?_setIfInBounds_ne (Ne.symm e2), h5]
      have : revIx n (i + 1) j = revIx n i j := by
        unfold revIx
        by_cases c : j < i ∨ n - 1 - j < i
        · rw [if_pos c, if_pos (by omega)]
        · rw [if_neg c, if_neg (by omega)]
      simp only [this]
theorem RevIn.done {w : World} {g n i cap base : Nat} {us : List Value} {e : TypeId} (h : RevIn w g n i us e cap) (hi : ¬ i < n - 1 - i ∨ n = 0) (hn : n ≤ cap) (hl : us.length = n) (hb : base ≤ g) (hc : cap ≤ maxLen) : w.ownsRow base e 1 (.slice (some ⟨g, 0, none⟩) n cap) n us.reverse := by
  obtain ⟨cur, h1, h2, h3⟩ := h.blk
  refine ⟨by simp [hl], .inr ⟨g, cap, cur, rfl, hb, h1, hn, hc, by simp [h2], ?_⟩⟩
  rw [Nat.mul_one]
  apply List.ext_getElem?
  intro j
  by_cases hj : j < n
  · obtain ⟨h4, h5⟩ := h3 j hj
    rw [List.getElem?_take_of_lt hj, Array.getElem?_toList, h5, List.getElem?_reverse (by omega)]
    have : revIx n i j = us.length - 1 - j := by unfold revIx; split <;> omega
    rw [← this, List.getElem?_eq_getElem h4]
  · rw [List.getElem?_eq_none (by simp; omega), List.getElem?_eq_none (by simp; omega)]
theorem RevIn.start {w : World} {g n cap base : Nat} {us : List Value} {e : TypeId} (h : w.ownsRow base e 1 (.slice (some ⟨g, 0, none⟩) n cap) n us) : RevIn w g n 0 us e cap ∧ n ≤ cap ∧ us.length = n ∧ base ≤ g ∧ cap ≤ maxLen := by
  have hl := h.1
  have hl' : us.length = n := by omega
  rcases h.2 with ⟨e1, _⟩ | ⟨g', cap', cur, e1, h3, h4, h5, h6, h7, h8⟩
  · cases e1
  · injection e1 with e2 e3 e4
    injection e2 with e2
    injection e2 with e2
    subst e2 e4
    refine ⟨⟨⟨cur, h4, by omega, fun j hj => ?_⟩⟩, h5, hl', h3, h6⟩
    have hr : revIx n 0 j = j := by unfold revIx; rw [if_neg (by omega)]
    refine ⟨by rw [hr]; omega, ?_⟩
    simp only [hr]
    have : us[j]? = cur[j]? := by rw [← h8, List.getElem?_take_of_lt (by omega), Array.getElem?_toList]
    rw [← this, List.getElem?_eq_getElem]
theorem ifaces2 {w : World} {l : List Vl} {S : Nat → Prop} {us : List Value} (h : Vls.sep w l S us) : ∀ u ∈ us, ∃ t y, u = .iface t y := by
  intro u hu
  obtain ⟨j, hj, rfl⟩ := List.getElem_of_mem hu
  have hl := h.length
  exact (h.at_ j (by omega) hj).iface
theorem grown_two {w wr : World} {g : Nat} (h : w.grownBy wr (some g)) (i j : Nat) (u v : Value) : w.grownBy ((wr.setCell ⟨g, i, none⟩ u).setCell ⟨g, j, none⟩ v).drew (some g) :=
  ⟨h.os, h.tape, h.output, by show _ ≤ ((wr.setCell ⟨g, i, none⟩ u).setCell ⟨g, j, none⟩ v).heap.size; rw [size_set, size_set]; exact h.size, fun k hk hne => (Below.heap_setCell _ _ _ _ (fun e => hne (by rw [e]))).trans ((Below.heap_setCell _ _ _ _ (fun e => hne (by rw [e]))).trans (h.block k hk hne))⟩
set_option maxRecDepth 100000 in
set_option maxHeartbeats 4000000 in
theorem list_Reverse (A : Option Addr) (n c base : Nat) (us : List Value) (w : World) (hown : w.ownsRow base 35 1 (.slice A n c) n us) (h1 : ∀ u ∈ us, ∃ t y, u = .iface t y) (hsz : n ≤ 140737488351232) :
    Calls Tryz.prog 53 #[.slice A n c] w fun e w' => e = .returned (.tuple #[]) ∧ w'.ownsRow base 35 1 (.slice A n c) n us.reverse ∧ w.grownBy w' (Value.slice A n c).ownBlock := by
  cases A with
  | none =>
    have h0 : n = 0 ∧ c = 0 ∧ us = [] := by
      rcases hown.2 with ⟨e1, h0⟩ | ⟨g, cap, cur, e1, _⟩
      · injection e1 with _ _ e4
        have := hown.1
        exact ⟨h0, e4, List.eq_nil_of_length_eq_zero (by omega)⟩
      · cases e1
    obtain ⟨rfl, rfl, rfl⟩ := h0
    clear hown h1
    go_enter Tryz.func53, Tryz.ntmps53
    go_wp2_with fail
    refine wp_loop_rounds 1 ?_
    rw [rounds_succ]
    go_wp2
    go_end0
    exact ⟨rfl, World.ownsRow_nil _ _ _ _, ⟨rfl, rfl, rfl, Nat.le_refl _, fun _ _ _ => rfl⟩⟩
  | some ad =>
    obtain ⟨g, rfl⟩ : ∃ g, ad = ⟨g, 0, none⟩ := by
      rcases hown.2 with ⟨e1, _⟩ | ⟨g, cap, cur, e1, _⟩
      · cases e1
      · injection e1 with e2 _ _
        injection e2 with e2
        exact ⟨g, e2⟩
    obtain ⟨hrev, hnc, hul, hbg, hcm⟩ := RevIn.start hown
    have HR0 := Lib.hid hrev
    have H1 := Lib.hid h1
    clear hown hrev h1
    go_enter Tryz.func53, Tryz.ntmps53
    go_wp2_with fail
    go_loopw [2, 3] (fun s2 s3 wr => ∃ i : Nat, 2 * i ≤ n ∧ s2 = .int .i64 (i : Int) ∧ s3 = .int .i64 ((n : Int) - 1 - (i : Int)) ∧ RevIn wr g n i us 35 c ∧ w.grownBy wr (some g)) (fun s2 _ _ => n - (intOf s2).toNat)
    case atStart => exact ⟨0, by omega, rfl, by simp, HR0.out, ⟨rfl, rfl, rfl, Nat.le_refl _, fun _ _ _ => rfl⟩⟩
    case round =>
      obtain ⟨i, hi, rfl, rfl, hr, hg⟩ := hrel
      have HR := Lib.hid hr
      have HG := Lib.hid hg
      clear hr hg
      by_cases hlt : i < n - 1 - i
      · have hd : decide ((i : Int) < (n : Int) - 1 - (i : Int)) = true := by simp; omega
        obtain ⟨ci, fi⟩ := HR.out.cells i (by omega) (by unfold revIx; rw [if_neg (by omega)]) (by omega)
        obtain ⟨cj, fj⟩ := HR.out.cells (n - 1 - i) (by omega) (by unfold revIx; rw [if_neg (by omega)]) (by omega)
        obtain ⟨t1, y1, e1⟩ := H1.out (us[i]'(by omega)) (List.getElem_mem _)
        obtain ⟨t2, y2, e2⟩ := H1.out (us[n - 1 - i]'(by omega)) (List.getElem_mem _)
        have E1 := Lib.hid (show us[i]? = some (.iface t1 y1) by rw [List.getElem?_eq_getElem (by omega), e1])
        have E2 := Lib.hid (show us[n - 1 - i]? = some (.iface t2 y2) by rw [List.getElem?_eq_getElem (by omega), e2])
        have HST := Lib.hid (fun w' hw => HR.out.step (w' := w') hlt hnc hul _ _ E1.out E2.out hw)
        rw [e1] at ci
        rw [e2] at cj
        have hcast : (n : Int) - 1 - (i : Int) = ((n - 1 - i : Nat) : Int) := by omega
        have hij : i ≠ n - 1 - i := by omega
        have hj1 : n - 1 - i < n := by omega
        have hi1 : i < n := by omega
        rw [hcast]
        clear e1 e2 hcast
        have HJ := Lib.hid (show n - 1 - i = n - 1 - i from rfl)
        generalize hjn : n - 1 - i = jn at *
        replace HJ := Lib.hid hjn
        clear hjn
        have mixed : Tryz.prog.follows .mixedOrders = true := by kernel_rfl
        go_wp2_with fail
        go_region_o
        go_wp2
        go_roundw
        case rel =>
          have hj := HJ.out
          have hI : ∀ a b : Int, a = b → Value.int .i64 a = .int .i64 b := fun a b h => by rw [h]
          exact ⟨i + 1, by omega, hI _ _ (by omega), hI _ _ (by omega), HST.out _ rfl, grown_two HG.out _ _ _ _⟩
        case measure => simp [intOf]; omega
      · have hd : decide ((i : Int) < (n : Int) - 1 - (i : Int)) = false := by simp; omega
        go_wp2
        go_end0
        exact ⟨rfl, HR.out.done (by omega) hnc hul hbg hcm, HG.out⟩
set_option maxRecDepth 100000 in
theorem list_turn (x : Vl) (u : Value) (b o c : Nat) (S : Nat → Prop) (w : World) (hx : x.sep w S u) (hS : ∀ b, S b → b < w.heap.size) (hc : w.cell? ⟨b, o, none⟩ = some u) (hlen : ∀ l, x.asList = some l → l.length ≤ 65536) :
    Calls Tryz.prog 52 #[.slice (some ⟨b, o, none⟩) 1 c] w (LOut (lTurn x) S w) := by
  obtain ⟨i0, hi, hz0, hz1, hz2⟩ := info_parts info_value
  cases hl : x.asList with
  | some l =>
    rw [show lTurn x = (0, .list l.reverse) by unfold lTurn; rw [hl]]
    have hlen2 := hlen l hl
    obtain ⟨A, c2, us, rfl, hown, hgS, hsep⟩ := sep_asList hx hl
    obtain ⟨hn1, hn2⟩ := own_news hown
    have hul := hsep.length
    have HS := Lib.hid hsep
    have HF := Lib.hid (ifaces hsep)
    have HF2 := Lib.hid (ifaces2 hsep)
    have HN := Lib.hid hn2
    have HSS := Lib.hid hS
    have HN1 := Lib.hid hn1
    clear hx hl hlen hown hgS hsep hn2 hn1
    go_enter Tryz.func52, Tryz.ntmps52
    go_wp2_with fail
    refine (list_list_hit _ _ _ _).mono ?_
    rintro e w' ⟨rfl, rfl⟩
    go_wp2_with (at_builtin; refine wpList_append_any rfl _ _ 47 rfl w.heap.size 35 i0 .nilIface 1 16 Tryz.underlying47 hi hz0 hz1 hz2 rfl (by decide) _ _ _ rfl (own_lit w _) A l.length c2 us rfl (by omega) HN1.out (fun ad hA j u hj => alloc_cell _ (HN.out ad hA j u hj)) HF.out (by unfold maxLen; omega) (by omega) (by simp) ?_)
    intro v' w1 hown1 hgr1 _
    replace hown1 : w1.ownsRow w.heap.size 35 1 v' l.length us := by simpa using hown1
    obtain ⟨A', c', rfl⟩ := own_form hown1
    have HO := Lib.hid hown1
    have HB := Lib.hid (((Below.refl w.heap.size w).alloc (Nat.le_refl _) (.cells #[] 35)).grown hgr1 (by simp) (fun g hg => by injection hg with hg; have h2 : w.heap.size = g := hg; omega))
    clear hown1 hgr1
    go_wp2_with fail
    refine (list_Reverse A' l.length c' w.heap.size us w1 HO.out HF2.out (by omega)).mono ?_
    rintro e w2 ⟨rfl, hown2, hgr2⟩
    have HO2 := Lib.hid hown2
    have HB2 := Lib.hid (HB.out.grown hgr2 HB.out.size (fun g hg => (HO.out.lt g hg).1))
    clear hown2 hgr2
    go_wp2
    go_ret2
    refine ⟨_, rfl, fun _ => sep_list (by simp) HO2.out (fun g hg => .inr (HO2.out.lt g hg)) ?_, fun h => absurd rfl h, HB2.out⟩
    refine Vls.sep.keep _ _ _ _ (fun b hb => HB2.out.block b (HSS.out b hb.1)) (fun b hb => ⟨.inl hb.1, fun e => ?_⟩) HS.out.reverse
    have := (HO2.out.lt b e).1
    have := HSS.out b hb.1
    omega
  | none =>
    rw [show lTurn x = lBad 20 by unfold lTurn; rw [hl]]
    obtain ⟨T, y, rfl, hT⟩ := sep_noList hx hl
    clear hx hl
    go_enter Tryz.func52, Tryz.ntmps52
    go_wp2_with fail
    refine (list_list_miss _ _ hT _).mono ?_
    rintro e w' ⟨rfl, rfl⟩
    go_wp2
    go_ret2
    exact lout_bad (by decide) _ _ _ (Below.refl _ _)
end Go.Proofs.YtcldbjgikkfnbaaGreatDoor
