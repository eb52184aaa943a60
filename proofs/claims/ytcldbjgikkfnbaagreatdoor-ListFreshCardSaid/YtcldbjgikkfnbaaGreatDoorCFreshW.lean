/-
  espalierlaw11.ListFresh, for any operations: it returns true. Conditions: they lie in memory; the lists' capacities are no less than their lengths.
-/
import Derived.Test.YtcldbjgikkfnbaaGreatDoorCFreshP
import Derived.Test.YtcldbjgikkfnbaaGreatDoorCFullW
import Derived.Test.YtcldbjgikkfnbaaGreatDoorCRefWork11
import Derived.Deep.RegionHeld3
import Derived.Deep.CutRange
namespace Go.Proofs.YtcldbjgikkfnbaaGreatDoor
open Go.RowKit
set_option linter.unusedVariables false

def FineV (x : Vl) : Prop := x.fine ∧ x.count ≤ 65536 ∧ x.dep ≤ 65
/-- What a call of the reference comes to, with what is wanted in letters. -/
def RefTo (p : Pl) (f : Int) (w : World) (e : Ending) (w' : World) : Prop := ∃ A c, e = .returned (.tuple #[.agg #[.int .i64 p.kind, .int .i64 p.num, .string p.text, .slice A p.list.length c], .int .i64 f, .string ⟨#[]⟩]) ∧ Pls.lies w' w'.heap.size p.list A ∧ Below w.heap.size w w'
def ListTo (x : Vl) (w : World) (e : Ending) (w' : World) : Prop := ∃ t y, e = .returned (.tuple #[.iface t y, .int .i64 0, .string ⟨#[]⟩]) ∧ x.sep w' (fresh w w') (.iface t y) ∧ Below w.heap.size w w'
/-- An operation, as the law asks for it. -/
structure FreshOp (op : ByteArray) (ps : List Pl) (A : Option Addr) (c : Nat) (w : World) (p : Pl) (f : Int) (x : Vl) : Prop where
  ref : ∀ w', Below w.heap.size w w' → Calls Tryz.prog 17 #[.string op, .slice A ps.length c] w' (RefTo p f w')
  work : f = 0 → ∀ w', Below w.heap.size w w' → Calls Tryz.prog 12 #[.string op, .slice A ps.length c] w' (ListTo x w')
  works : ∀ w', Below w.heap.size w w' → Calls Tryz.prog 9 #[.agg #[.string op, .slice A ps.length c]] w' (Bel (.bool true) w')
  fine : f = 0 → FineV x
  eq : f = 0 → p = x.toPl
  sane : p.sane
  nz : Pls.nz p.list
theorem put4_lies {w : World} {P : Nat} {l : List Pl} {A : Option Addr} (hP : w.heap[P]? = some (.cells #[.int .i64 0, .int .i64 0, .string ⟨#[]⟩, .slice none 0 0] 31 (0, 0))) (hz : Pls.nz l) (h : Pls.lies w w.heap.size l A) (x0 x1 x2 x3 : Value) : Pls.lies (put4 w P x0 x1 x2 x3) (put4 w P x0 x1 x2 x3).heap.size l A := by
  have hs : (put4 w P x0 x1 x2 x3).heap.size = w.heap.size := by unfold put4; rw [size_set, size_set, size_set, size_set]
  refine Pls.lies.keepZ (by omega) (stay4_row (g := P) (T := 31) (z := (0, 0)) (z' := (0, 0)) (xs := []) (ys := [x0, x1, x2, x3]) (n := 1) .nil hP (blk_set (blk_set (blk_set (blk_set hP 0 x0) 1 x1) 2 x2) 3 x3) (fun b _ hne => ?_)) l A hz h
  rw [Below.heap_setCell _ _ _ _ (by exact hne), Below.heap_setCell _ _ _ _ (by exact hne), Below.heap_setCell _ _ _ _ (by exact hne), Below.heap_setCell _ _ _ _ (by exact hne)]
theorem fresh_op (op : ByteArray) (ps : List Pl) (A : Option Addr) (c : Nat) (w : World) (hlen : ps.length * 56 ≤ 140737488351232) (hl : Pls.lies w w.heap.size ps A) (hcaps : CapsAt w ps A) : ∃ p f x, FreshOp op ps A c w p f x := by
  have hg := goodR_lWork op ps (plies_fine hl)
  refine ⟨(toR (lWork op ps)).2, (lWork op ps).1, (lWork op ps).2, ?_, ?_, ?_, hg, fun h0 => by unfold toR; rw [if_pos h0], ?_, ?_⟩
  · intro w' hb
    refine (ref11_Work op ps A c w' hlen (hl.below hb hb.size) (hcaps.below hl hb)).mono ?_
    rintro e w'' ⟨A2, c2, rfl, h1, h2⟩
    exact ⟨A2, c2, rfl, h1, h2⟩
  · intro h0 w' hb
    refine (list_Work op ps A c w' hlen (hl.below hb hb.size)).mono ?_
    rintro e w'' ⟨v, rfl, h1, _, h2⟩
    obtain ⟨t, y, rfl⟩ := (h1 h0).iface
    rw [h0]
    exact ⟨t, y, rfl, h1 h0, h2⟩
  · intro w' hb
    exact list_works op ps A c w' hlen (hl.below hb hb.size) (hcaps.below hl hb)
  · by_cases h0 : (lWork op ps).1 = 0
    · obtain ⟨h1, h2, _⟩ := hg h0
      have : (toR (lWork op ps)).2 = (lWork op ps).2.toPl := by unfold toR; rw [if_pos h0]
      rw [this]
      exact toPl_saneL h1 (by omega)
    · have : (toR (lWork op ps)).2 = zPl := by unfold toR; rw [if_neg h0]
      rw [this]
      exact ⟨by rfl, by rfl, by show (0 : Nat) ≤ _; omega, by show (0 : Nat) * 56 ≤ _; omega⟩
  · unfold toR
    by_cases h0 : (lWork op ps).1 = 0
    · rw [if_pos h0]; exact Pl.nz_list (Vl.toPl_nz _)
    · rw [if_neg h0]; show Pls.nz []; unfold Pls.nz; trivial
set_option maxRecDepth 100000 in
set_option maxHeartbeats 8000000 in
theorem law_ListFresh (n : Nat) (A : Option Addr) (c : Nat) (w : World) (hA : 0 < n → ∃ b o, A = some ⟨b, o, none⟩ ∧ ∀ k, k < n → ∃ op ps A c, CallAt w b (o + k * 2) op ps A c ∧ CapsAt w ps A) :
    Calls Tryz.prog 6 #[.slice A n c] w (Bel (.bool true) w) := by
  obtain ⟨i0, hi, hz0, hz1, hz2⟩ := info_plain_parts
  obtain ⟨i1, hj, hy0, hy1, hy2⟩ := info_parts info_value
  have HA := Lib.hid hA
  clear hA
  go_enter Tryz.func6, Tryz.ntmps6
  go_wp2_with fail
  refine (law11_begun w).mono ?_
  rintro e w1 ⟨rfl, hb1⟩
  have HB1 := Lib.hid hb1
  clear hb1
  go_wp2
  go_loopw [5, 3, 4] (fun s5 s3 s4 wr => ∃ (k : Nat) (xs : List Vl) (us : List Value) (ts : List PlAt), k ≤ n ∧ s5 = .int .i64 (k : Int) ∧ xs.length ≤ k ∧ xs.length ≤ 30 ∧ (∀ x ∈ xs, FineV x) ∧ QuietI w.heap.size wr s3 s4 xs us ∧ WantI w.heap.size wr s3 s4 xs ts ∧ Below w.heap.size w wr) (fun s5 _ _ _ => n - (intOf s5).toNat)
  case atStart => exact ⟨0, [], [], [], Nat.zero_le _, rfl, Nat.le_refl _, by simp, fun x h => absurd h (by simp), QuietI.nil _ _ _, WantI.nil _ _, HB1.out⟩
  case round =>
    obtain ⟨k, xs, us, ts, hk, rfl, hxk, hx30, hfv, hQ, hW, hbel⟩ := hrel
    have HB := Lib.hid hbel
    have HQ := Lib.hid hQ
    have HW := Lib.hid hW
    have HF := Lib.hid hfv
    have HXK := Lib.hid hxk
    have HX30 := Lib.hid hx30
    clear hbel hQ hW hfv hxk hx30
    by_cases hlt : k < n
    · by_cases h2k : k < 30
      · obtain ⟨b, o, rfl, hcalls⟩ := HA.out (by omega)
        obtain ⟨op, ps, A', c', hcall, hcp⟩ := hcalls k hlt
        have HC0 := Lib.hid hcall
        have HC := Lib.hid (hcall.below HB.out)
        obtain ⟨p, f, x, hop⟩ := fresh_op op ps A' c' w hcall.len hcall.lies hcp
        have HOP := Lib.hid hop
        have KL := Lib.hid (law11_light ps A' c' wr HC.out.len HC.out.lies)
        have e0 := HC.out.op_
        have e1 := HC.out.args
        clear hcalls hcall hcp hop
        go_wp2_with fail
        refine KL.out.mono ?_
        rintro e w1 ⟨q, rfl, _, hb1⟩
        have HL1 := Lib.hid hb1
        have HG1 := Lib.hid (HB.out.trans (hb1.mono HB.out.size))
        clear hb1 KL e0 e1 HC
        cases q
        · go_wp2
          go_roundw
          case rel => exact ⟨k + 1, xs, us, ts, by omega, by go_num, by have := HXK.out; omega, HX30.out, HF.out, HQ.out.next HL1.out, HW.out.next HL1.out, HG1.out⟩
          case measure => simp [intOf]; omega
        have HC1 := Lib.hid (HC0.out.below HG1.out)
        have g0 := HC1.out.op_
        have g1 := HC1.out.args
        have hbl : b < w1.heap.size := World.block_lt_of_cell? _ _ g0
        go_upto_region 9 with fail
        go_cut [6, 7, 8] from 19 to 99 (fun s6 s7 s8 wx => ∃ P A2 c2, s6 = .pointer (some ⟨P, 0, none⟩) ∧ s7 = .int .i64 f ∧ s8 = .string ⟨#[]⟩ ∧ wx.heap[P]? = some (.cells #[.int .i64 p.kind, .int .i64 p.num, .string p.text, .slice A2 p.list.length c2] 31 (0, 0)) ∧ w1.heap.size ≤ P ∧ Pls.lies wx wx.heap.size p.list A2 ∧ Below w1.heap.size w1 wx)
        case first =>
          have HN : NewHeld w1 w1.drew := Lib.hid (Below.refl _ _).drew
          go_region_held3 (fun w' => w'.cell? ⟨b, o + k * 2, none⟩ = some (.string op) ∧ w'.cell? ⟨b, o + k * 2 + 1, none⟩ = some (.slice A' ps.length c') ∧ NewHeld w1 w')
            ((refine NewHeld.cells ?_ hbl g0 g1; first | exact HN | exact HN.alloc _ | exact HN4 | exact HN4.alloc _ | exact HN4.set4 _ _ _ _))
            (first
              | ((go_at_call 17; refine (HOP.out.ref _ (HG1.out.trans (HN.out.mono HG1.out.size))).mono ?_; rintro e w4 ⟨A2, c2, rfl, hl4, hb4⟩; have HN4 := HN.next hb4; have HL4 := Lib.hid hl4; clear hb4 hl4))
              | ((go_at_call 17; refine (HOP.out.ref _ (HG1.out.trans ((HN.alloc _).out.mono HG1.out.size))).mono ?_; rintro e w4 ⟨A2, c2, rfl, hl4, hb4⟩; have HN4 := (HN.alloc _).next hb4; have hx4 := NewHeld.box hb4; have hc4 := blk11_cells hx4; have hf4 := blk11_free hx4; have HX4 := Lib.hid hx4; have HL4 := Lib.hid hl4; clear hx4 hb4 hl4)))
          · have HX5 := Lib.hid (heap_alloc_new w4 (.cells #[.int .i64 p.kind, .int .i64 p.num, .string p.text, .slice A2 p.list.length c2] 31))
            have HN5 := HN4.alloc (.cells #[.int .i64 p.kind, .int .i64 p.num, .string p.text, .slice A2 p.list.length c2] 31)
            have HL5 := Lib.hid (HL4.out.below ((Below.refl w4.heap.size w4).alloc (Nat.le_refl _) (.cells #[.int .i64 p.kind, .int .i64 p.num, .string p.text, .slice A2 p.list.length c2] 31)) ((Below.refl w4.heap.size w4).alloc (Nat.le_refl _) (.cells #[.int .i64 p.kind, .int .i64 p.num, .string p.text, .slice A2 p.list.length c2] 31)).size)
            go_wp2_with fail
            go_meet
            exact ⟨_, A2, c2, rfl, rfl, rfl, HX5.out, HN4.size, HL5.out, HN5.out⟩
          · have HN5 := HN4.set4 (.int .i64 p.kind) (.int .i64 p.num) (.string p.text) (.slice A2 p.list.length c2)
            have HX5 := Lib.hid (blk_set (blk_set (blk_set (blk_set HX4.out 0 (.int .i64 p.kind)) 1 (.int .i64 p.num)) 2 (.string p.text)) 3 (.slice A2 p.list.length c2))
            have HL5 := Lib.hid (put4_lies HX4.out HOP.out.nz HL4.out (.int .i64 p.kind) (.int .i64 p.num) (.string p.text) (.slice A2 p.list.length c2))
            unfold put4 at HL5
            go_wp2_with fail
            go_meet
            exact ⟨_, A2, c2, rfl, rfl, rfl, HX5.out, Nat.le_refl _, HL5.out, HN5.out⟩
        case rest =>
        obtain ⟨P, A2, c2, rfl, rfl, rfl, hP, hPl, hpl, hb2⟩ := hcut
        have HP2 := Lib.hid hP
        have HPL2 := Lib.hid hpl
        have HPN : Hid (wr.heap.size ≤ P) := Lib.hid (Nat.le_trans HL1.out.size hPl)
        have HL2 := Lib.hid (HL1.out.trans (hb2.mono HL1.out.size))
        have HG2 := Lib.hid (HG1.out.trans (hb2.mono HG1.out.size))
        clear hP hPl hpl hb2 g0 g1 hbl HC1 HL1 HG1
        generalize wc = w2 at *
        by_cases hf : f = 0
        · subst hf
          have HC2 := Lib.hid (HC0.out.below HG2.out)
          have g0 := HC2.out.op_
          have g1 := HC2.out.args
          have hbl : b < w2.heap.size := World.block_lt_of_cell? _ _ g0
          go_upto_region 11 with fail
          go_cut [9, 10, 11] from 19 to 99 (fun s9 s10 s11 wx => ∃ t y, s9 = .iface t y ∧ s10 = .int .i64 0 ∧ s11 = .string ⟨#[]⟩ ∧ x.sep wx (fresh w2 wx) (.iface t y) ∧ Below w2.heap.size w2 wx)
          case first =>
            have HN : NewHeld w2 w2.drew := Lib.hid (Below.refl _ _).drew
            go_region_held3 (fun w' => w'.cell? ⟨b, o + k * 2, none⟩ = some (.string op) ∧ w'.cell? ⟨b, o + k * 2 + 1, none⟩ = some (.slice A' ps.length c') ∧ NewHeld w2 w')
              ((refine NewHeld.cells ?_ hbl g0 g1; first | exact HN | exact HN4))
              (first
                | ((go_at_call 12; refine (HOP.out.work rfl _ (HG2.out.trans (HN.out.mono HG2.out.size))).mono ?_; rintro e w4 ⟨ta, ya, rfl, hs4, hb4⟩; have HN4 := HN.next hb4; have HS4 := Lib.hid hs4; clear hb4 hs4)))
            all_goals
              go_wp2_with fail
              go_meet
              exact ⟨ta, ya, rfl, rfl, rfl, HS4.out, HN4.out⟩
          case rest =>
          obtain ⟨ta, ya, rfl, rfl, rfl, hsa, hb3⟩ := hcut
          have HSA := Lib.hid hsa
          have HB23 := Lib.hid hb3
          have HG3 := Lib.hid (HG2.out.trans (hb3.mono HG2.out.size))
          clear hsa hb3 g0 g1 hbl HC2
          generalize wc = w3 at *
          have HC3 := Lib.hid (HC0.out.below HG3.out)
          have g0 := HC3.out.op_
          have g1 := HC3.out.args
          have hbl : b < w3.heap.size := World.block_lt_of_cell? _ _ g0
          go_upto_region 12 with fail
          go_cut [12, 13, 14] from 19 to 99 (fun s9 s10 s11 wx => ∃ t y, s9 = .iface t y ∧ s10 = .int .i64 0 ∧ s11 = .string ⟨#[]⟩ ∧ x.sep wx (fresh w3 wx) (.iface t y) ∧ Below w3.heap.size w3 wx)
          case first =>
            have HN : NewHeld w3 w3.drew := Lib.hid (Below.refl _ _).drew
            go_region_held3 (fun w' => w'.cell? ⟨b, o + k * 2, none⟩ = some (.string op) ∧ w'.cell? ⟨b, o + k * 2 + 1, none⟩ = some (.slice A' ps.length c') ∧ NewHeld w3 w')
              ((refine NewHeld.cells ?_ hbl g0 g1; first | exact HN | exact HN4))
              (first
                | ((go_at_call 12; refine (HOP.out.work rfl _ (HG3.out.trans (HN.out.mono HG3.out.size))).mono ?_; rintro e w4 ⟨tb, yb, rfl, hs4, hb4⟩; have HN4 := HN.next hb4; have HS4 := Lib.hid hs4; clear hb4 hs4)))
            all_goals
              go_wp2_with fail
              go_meet
              exact ⟨tb, yb, rfl, rfl, rfl, HS4.out, HN4.out⟩
          case rest =>
          obtain ⟨tb, yb, rfl, rfl, rfl, hsb, hb4⟩ := hcut
          have HSB := Lib.hid hsb
          have HB34 := Lib.hid hb4
          clear hsb hb4 g0 g1 hbl HC3 HG3
          generalize wc = w4 at *
          have hs23 := HB23.out.size
          have hs34 := HB34.out.size
          have KF := Lib.hid (full_all x (fresh w2 w3) (.iface ta ya) (-3) w4 (HSA.out.below HB34.out (fun b hb => hb.2)) (fun b hb => Nat.lt_of_lt_of_le hb.2 hs34) (HOP.out.fine rfl).2.1)
          go_wp2_with fail
          refine KF.out.mono ?_
          rintro e w5 ⟨rfl, hsv⟩
          have HB25 := Lib.hid (HB23.out.trans ((HB34.out.mono hs23).trans (hsv.below (Nat.le_trans hs23 hs34) (fun b hb => hb.1))))
          have HL5 := Lib.hid (HL2.out.trans (HB25.out.mono HL2.out.size))
          have HG5 := Lib.hid (HG2.out.trans (HB25.out.mono HG2.out.size))
          have HQ5 := Lib.hid (HQ.out.next HL5.out)
          have HW5 := Lib.hid (HW.out.next HL5.out)
          have HX5 := Lib.hid (hsv.sep HSB.out (fun b hb => ⟨hb.2, fun h => by have := hb.1; have := h.2; omega⟩)).is
          have hsz5 : w4.heap.size ≤ w5.heap.size := hsv.size
          have hws : w.heap.size ≤ w5.heap.size := HG5.out.size
          have hw25 := HB25.out.size
          have hw2 := HL2.out.size
          have hPlt := lt_of_block HP2.out
          have HP5 : Hid (w5.heap[P]? = _) := Lib.hid ((HB25.out.block P hPlt).trans HP2.out)
          have HPL5 := Lib.hid (HPL2.out.below HB25.out hw25)
          have hqlt : ∀ g, u3.ownBlock = some g → g < wr.heap.size := fun g e => (HQ.out.own.lt g e).2
          have htlt : ∀ g, u4.ownBlock = some g → g < wr.heap.size := fun g e => (HW.out.own.lt g e).2
          have HK5 : Hid (x.is w5 (Kx w5 u3 u4) (.iface tb yb)) := Lib.hid (HX5.out.keep (fun b o h => rfl) (fun b h => ⟨Nat.lt_of_lt_of_le h.2 hsz5, fun e => by have := hqlt b e; have := h.1; omega, fun e => by have := htlt b e; have := h.1; omega⟩))
          have HPQ : Hid (u3.ownBlock ≠ some P) := Lib.hid (fun e => by have := hqlt P e; have := HPN.out; omega)
          have hul : us.length ≤ 30 := by have := HQ.out.len; have := HX30.out; omega
          have htl : ts.length ≤ 30 := by have := congrArg List.length HW.out.eqs; rw [List.length_map, List.length_map] at this; have := HX30.out; omega
          have HXL := Lib.hid (show xs.length < 30 by have := HXK.out; omega)
          have HOZ := Lib.hid (HQ5.out.own.keep (w' := w5.alloc (.cells #[.iface tb yb] 35)) (fun g hg => Below.heap_alloc _ _ _ (HQ5.out.own.lt g hg).2))
          clear HQ HW hsv KF HSA HSB HB23 HB34 HX5 hs23 hs34 hsz5 hqlt htlt HL2 HG2 HP2 HPL2 hPlt
          go_wp2_with (at_builtin; refine wpList_append_Z rfl _ _ 46 rfl w.heap.size 35 i1 .nilIface [.nilIface] 16 Tryz.underlying46 hj hy0 hy1 hy2 rfl (by decide) _ us.length us rfl HOZ.out ⟨w5.heap.size, 0, none⟩ 1 1 [.iface tb yb] rfl (by decide) rfl (World.news_of_block (heap_alloc_new _ _)) (by intro u hu; simp at hu; subst hu; rfl) (by unfold maxLen; omega) (by omega) (by rw [size_alloc]; omega) ?_)
          intro v' w6 hown6 hgr6 hat6
          obtain ⟨hQ6, hW6, hb56, hst6⟩ := quiet_append HQ5.out HW5.out HK5.out ((Below.refl w5.heap.size w5).alloc (Nat.le_refl _) _) hws hgr6 hown6 (by rw [size_alloc]; exact hat6)
          have HQ6 := Lib.hid hQ6
          have HW6 := Lib.hid hW6
          have HG6 := Lib.hid (HG5.out.trans hb56)
          have hsz6 := hgr6.size
          rw [size_alloc] at hsz6
          have hx6 := (hgr6.block P (by rw [size_alloc]; have := lt_of_block HP5.out; omega) (Ne.symm HPQ.out)).trans ((Below.heap_alloc _ _ _ (lt_of_block HP5.out)).trans HP5.out)
          have HPL6 := Lib.hid (Pls.lies.keepZ (by omega : w5.heap.size ≤ w6.heap.size) hst6 _ _ HOP.out.nz HPL5.out)
          have HX6 := Lib.hid hx6
          have c6 := blk11_cells hx6
          have HOZ6 := Lib.hid (HW6.out.own.keep (w' := w6.alloc (.cells #[.int .i64 p.kind, .int .i64 p.num, .string p.text, .slice A2 p.list.length c2] 31)) (fun g hg => Below.heap_alloc _ _ _ (HW6.out.own.lt g hg).2))
          clear hQ6 hW6 hb56 hst6 hown6 hgr6 hat6 hx6 HQ5 HW5 HK5 HOZ HP5 HPL5 HPQ HB25 HL5
          go_wp2_with (at_builtin; refine wpList_append_Z rfl _ _ 25 rfl w.heap.size 31 i0 _ z4 56 Tryz.underlying25 hi hz0 hz1 hz2 rfl (by decide) _ ts.length (ts.flatMap PlAt.cells) rfl HOZ6.out ⟨w6.heap.size, 0, none⟩ 1 1 (p.cells4 A2 c2) rfl (by decide) rfl (World.news_of_block (heap_alloc_new _ _)) (by intro u hu; unfold Pl.cells4 at hu; simp at hu; rcases hu with rfl | rfl | rfl | rfl <;> rfl) (by unfold maxLen; omega) (by omega) (by rw [size_alloc]; omega) ?_)
          intro u' w7 hown7 hgr7 hat7
          obtain ⟨hQ7, hW7, hb67⟩ := want_append (t := ⟨p, A2, c2⟩) HQ6.out HW6.out (HOP.out.eq rfl) HOP.out.sane HPL6.out ((Below.refl w6.heap.size w6).alloc (Nat.le_refl _) _) (by omega) hgr7 hown7 (by rw [size_alloc]; exact hat7)
          have HQ7 := Lib.hid hQ7
          have HW7 := Lib.hid hW7
          have HG7 := Lib.hid (HG6.out.trans hb67)
          clear hQ7 hW7 hb67 hown7 hgr7 hat7 c6 HX6 HPL6 HOZ6 HQ6 HW6
          have HC7 := Lib.hid (HC0.out.below HG7.out)
          have g0 := HC7.out.op_
          have g1 := HC7.out.args
          have KW := Lib.hid (HOP.out.works w7 HG7.out)
          go_wp2_with fail
          refine KW.out.mono ?_
          rintro e w8 ⟨rfl, hb8⟩
          have HB8 := Lib.hid hb8
          clear hb8 KW g0 g1
          go_wp2
          go_roundw
          case rel => exact ⟨k + 1, xs ++ [x], us ++ [.iface tb yb], ts ++ [(⟨p, A2, c2⟩ : PlAt)], by omega, by go_num, by rw [List.length_append]; have := HXK.out; simpa using this, by rw [List.length_append]; have := HXL.out; simp; omega, fun y hy => (List.mem_append.1 hy).elim (HF.out y) (fun h => by rw [List.mem_singleton.1 h]; exact HOP.out.fine rfl), HQ7.out.next HB8.out, HW7.out.next HB8.out, HG7.out.trans (HB8.out.mono HG7.out.size)⟩
          case measure => simp [intOf]; omega
        · have hf' : (f == 0) = false := by simp [hf]
          go_wp2
          go_roundw
          case rel => exact ⟨k + 1, xs, us, ts, by omega, by go_num, by have := HXK.out; omega, HX30.out, HF.out, HQ.out.next HL2.out, HW.out.next HL2.out, HG2.out⟩
          case measure => simp [intOf]; omega
      · have h2k' : decide ((k : Int) < 30) = false := by simp; omega
        obtain ⟨A3, c3, hv3⟩ := own_form HQ.out.own.own
        obtain ⟨A4, c4, hv4⟩ := own_form HW.out.own.own
        subst hv3 hv4
        have hul : us.length = xs.length := HQ.out.len
        have hx30b : xs.length ≤ 30 := HX30.out
        go_wp2
        go_loopw [16] (fun s16 wx => ∃ j : Nat, j ≤ xs.length ∧ s16 = .int .i64 (j : Int) ∧ Below wr.heap.size wr wx) (fun s16 _ => xs.length - (intOf s16).toNat)
        case atStart => exact ⟨0, Nat.zero_le _, rfl, Below.refl _ _⟩
        case round =>
          obtain ⟨j, hjl, rfl, hb2⟩ := hrel
          rename_i wo
          have HBX := Lib.hid hb2
          clear hb2
          by_cases hlt2 : j < xs.length
          · have hju : j < us.length := by omega
            have hjt : j < ts.length := by have := HW.out.len; omega
            obtain ⟨g3, rfl, hc3⟩ := own_at HQ.out.own.own (by omega)
            obtain ⟨g4, rfl, hc4⟩ := HW.out.slice (by omega)
            have hIs := (HQ.out.els j hlt2 hju)
            have hts := HW.out.els ts[j] (List.getElem_mem hjt)
            have htp := HW.out.eq j hlt2 hjt
            have hfx := HF.out xs[j] (List.getElem_mem hlt2)
            have d0 := (HBX.out.cell (p := ⟨g4, j * 4, none⟩) (World.block_lt_of_cell? _ _ (hc4 j hjt 0 _ rfl))).trans (hc4 j hjt 0 _ rfl)
            have d1 := (HBX.out.cell (p := ⟨g4, j * 4 + 1, none⟩) (World.block_lt_of_cell? _ _ (hc4 j hjt 1 _ rfl))).trans (hc4 j hjt 1 _ rfl)
            have d2 := (HBX.out.cell (p := ⟨g4, j * 4 + 2, none⟩) (World.block_lt_of_cell? _ _ (hc4 j hjt 2 _ rfl))).trans (hc4 j hjt 2 _ rfl)
            have d3 := (HBX.out.cell (p := ⟨g4, j * 4 + 3, none⟩) (World.block_lt_of_cell? _ _ (hc4 j hjt 3 _ rfl))).trans (hc4 j hjt 3 _ rfl)
            have d4 := (HBX.out.cell (p := ⟨g3, j, none⟩) (World.block_lt_of_cell? _ _ (hc3 j hju))).trans (hc3 j hju)
            have htl : ts.length = xs.length := HW.out.len
            generalize ts[j] = t at *
            obtain ⟨p, At, ct⟩ := t
            simp only at htp hts d0 d1 d2 d3
            generalize us[j] = v at *
            generalize xs[j] = x at *
            subst htp
            obtain ⟨tv, yv, rfl⟩ := hIs.iface
            have KI := Lib.hid (fun y : Ext wr => law2_Is x (.iface tv yv) _ y.now (hIs.keep (fun b o hs => (y.ok.cell (p := ⟨b, o, none⟩) (Nat.lt_of_lt_of_le hs.1 HBX.out.size)).trans (HBX.out.cell (p := ⟨b, o, none⟩) hs.1)) (fun b hs => hs)) (fun b hs => Nat.lt_of_lt_of_le hs.1 (Nat.le_trans HBX.out.size y.ok.size)) hfx.1 (by have := hfx.2.1; omega) (by have := hfx.2.2; omega) At ct ((hts.2.below HBX.out HBX.out.size).below y.ok y.ok.size))
            unfold Pl.arg at KI
            have D0 := Ext.cell (w := wr) d0
            have D1 := Ext.cell (w := wr) d1
            have D2 := Ext.cell (w := wr) d2
            have D3 := Ext.cell (w := wr) d3
            have D4 := Ext.cell (w := wr) d4
            clear d0 d1 d2 d3 d4 hc3 hc4 hIs hts hfx
            go_upto_region 22 with fail
            refine wp_region_ext (by kernel_rfl) (by kernel_rfl) ?_
            go_big_quiet_step (fail)
            go_big_quiet_step (fail)
            go_big_quiet_step (fail)
            go_big_quiet_step (fail)
            go_big_quiet_step (fail)
            go_big_quiet_step (fail)
            go_big_quiet_step (fail)
            go_big_quiet_step (fail)
            go_big_quiet_step ((go_at_call 15; exact Calls.ext_of (KI.out _)))
            go_big_quiet_step (fail)
            refine wpQuiet_nil ?_
            rintro _ ⟨z, rfl⟩
            have HB7 := Lib.hid (HBX.out.trans (z.ok.mono HBX.out.size))
            clear D0 D1 D2 D3 D4 KI
            generalize z.now = w7 at *
            go_wp2
            go_roundw
            case rel => exact ⟨j + 1, by omega, by go_num, HB7.out⟩
            case measure => simp [intOf]; omega
          · go_wp2
            go_ret
            exact ⟨rfl, HB.out.trans (HBX.out.mono HB.out.size)⟩
    · obtain ⟨A3, c3, hv3⟩ := own_form HQ.out.own.own
      obtain ⟨A4, c4, hv4⟩ := own_form HW.out.own.own
      subst hv3 hv4
      have hul : us.length = xs.length := HQ.out.len
      have hx30b : xs.length ≤ 30 := HX30.out
      go_wp2
      go_loopw [16] (fun s16 wx => ∃ j : Nat, j ≤ xs.length ∧ s16 = .int .i64 (j : Int) ∧ Below wr.heap.size wr wx) (fun s16 _ => xs.length - (intOf s16).toNat)
      case atStart => exact ⟨0, Nat.zero_le _, rfl, Below.refl _ _⟩
      case round =>
        obtain ⟨j, hjl, rfl, hb2⟩ := hrel
        rename_i wo
        have HBX := Lib.hid hb2
        clear hb2
        by_cases hlt2 : j < xs.length
        · have hju : j < us.length := by omega
          have hjt : j < ts.length := by have := HW.out.len; omega
          obtain ⟨g3, rfl, hc3⟩ := own_at HQ.out.own.own (by omega)
          obtain ⟨g4, rfl, hc4⟩ := HW.out.slice (by omega)
          have hIs := (HQ.out.els j hlt2 hju)
          have hts := HW.out.els ts[j] (List.getElem_mem hjt)
          have htp := HW.out.eq j hlt2 hjt
          have hfx := HF.out xs[j] (List.getElem_mem hlt2)
          have d0 := (HBX.out.cell (p := ⟨g4, j * 4, none⟩) (World.block_lt_of_cell? _ _ (hc4 j hjt 0 _ rfl))).trans (hc4 j hjt 0 _ rfl)
          have d1 := (HBX.out.cell (p := ⟨g4, j * 4 + 1, none⟩) (World.block_lt_of_cell? _ _ (hc4 j hjt 1 _ rfl))).trans (hc4 j hjt 1 _ rfl)
          have d2 := (HBX.out.cell (p := ⟨g4, j * 4 + 2, none⟩) (World.block_lt_of_cell? _ _ (hc4 j hjt 2 _ rfl))).trans (hc4 j hjt 2 _ rfl)
          have d3 := (HBX.out.cell (p := ⟨g4, j * 4 + 3, none⟩) (World.block_lt_of_cell? _ _ (hc4 j hjt 3 _ rfl))).trans (hc4 j hjt 3 _ rfl)
          have d4 := (HBX.out.cell (p := ⟨g3, j, none⟩) (World.block_lt_of_cell? _ _ (hc3 j hju))).trans (hc3 j hju)
          have htl : ts.length = xs.length := HW.out.len
          generalize ts[j] = t at *
          obtain ⟨p, At, ct⟩ := t
          simp only at htp hts d0 d1 d2 d3
          generalize us[j] = v at *
          generalize xs[j] = x at *
          subst htp
          obtain ⟨tv, yv, rfl⟩ := hIs.iface
          have KI := Lib.hid (fun y : Ext wr => law2_Is x (.iface tv yv) _ y.now (hIs.keep (fun b o hs => (y.ok.cell (p := ⟨b, o, none⟩) (Nat.lt_of_lt_of_le hs.1 HBX.out.size)).trans (HBX.out.cell (p := ⟨b, o, none⟩) hs.1)) (fun b hs => hs)) (fun b hs => Nat.lt_of_lt_of_le hs.1 (Nat.le_trans HBX.out.size y.ok.size)) hfx.1 (by have := hfx.2.1; omega) (by have := hfx.2.2; omega) At ct ((hts.2.below HBX.out HBX.out.size).below y.ok y.ok.size))
          unfold Pl.arg at KI
          have D0 := Ext.cell (w := wr) d0
          have D1 := Ext.cell (w := wr) d1
          have D2 := Ext.cell (w := wr) d2
          have D3 := Ext.cell (w := wr) d3
          have D4 := Ext.cell (w := wr) d4
          clear d0 d1 d2 d3 d4 hc3 hc4 hIs hts hfx
          go_upto_region 22 with fail
          refine wp_region_ext (by kernel_rfl) (by kernel_rfl) ?_
          go_big_quiet_step (fail)
          go_big_quiet_step (fail)
          go_big_quiet_step (fail)
          go_big_quiet_step (fail)
          go_big_quiet_step (fail)
          go_big_quiet_step (fail)
          go_big_quiet_step (fail)
          go_big_quiet_step (fail)
          go_big_quiet_step ((go_at_call 15; exact Calls.ext_of (KI.out _)))
          go_big_quiet_step (fail)
          refine wpQuiet_nil ?_
          rintro _ ⟨z, rfl⟩
          have HB7 := Lib.hid (HBX.out.trans (z.ok.mono HBX.out.size))
          clear D0 D1 D2 D3 D4 KI
          generalize z.now = w7 at *
          go_wp2
          go_roundw
          case rel => exact ⟨j + 1, by omega, by go_num, HB7.out⟩
          case measure => simp [intOf]; omega
        · go_wp2
          go_ret
          exact ⟨rfl, HB.out.trans (HBX.out.mono HB.out.size)⟩
end Go.Proofs.YtcldbjgikkfnbaaGreatDoor
