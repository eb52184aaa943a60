/-
  espalierlaw8.Twins, Untouched: walks, for any plain values. Written by a program of mine (gen_pack.py). Conditions: they lie in memory.
-/
import Derived.Test.YthjpphojddbbmaaGreatDoorCPlFits
import Derived.Deep.CutRange
namespace Go.Proofs.YthjpphojddbbmaaGreatDoor
open Go.RowKit
set_option linter.unusedVariables false

def TwinsPost (ps : List Pl) (w : World) (e : Ending) (w' : World) : Prop := ∃ v us, e = .returned v ∧ us.map PlAt.p = ps ∧ TwOwn w.heap.size w' v us ∧ Below w.heap.size w w'
set_option maxRecDepth 100000 in
set_option maxHeartbeats 4000000 in
theorem law_Twins (ps : List Pl) (A : Option Addr) (c : Nat) (w : World) (hlen : ps.length * 56 ≤ 140737488351232) (hl : Pls.lies w w.heap.size ps A) :
    Calls Tryz.prog 9 #[.slice A ps.length c] w (TwinsPost ps w) := by
  obtain ⟨i0, hi, hz0, hz1, hz2⟩ := info_plain_parts
  have HL := Lib.hid hl
  clear hl
  go_enter Tryz.func9, Tryz.ntmps9
  go_wp2
  go_loopw [3, 4] (fun s3 s4 wr => ∃ (k : Nat) (us : List PlAt), k ≤ ps.length ∧ s4 = .int .i64 (k : Int) ∧ us.map PlAt.p = ps.take k ∧ TwOwn w.heap.size wr s3 us ∧ Below w.heap.size w wr) (fun _ s4 _ => ps.length - (intOf s4).toNat)
  case atStart => exact ⟨0, [], Nat.zero_le _, rfl, by simp, TwOwn.nil _ _, Below.refl _ _⟩
  case round =>
    obtain ⟨k, us, hk, rfl, hus, hown, hbel⟩ := hrel
    have HU := Lib.hid hus
    have HO := Lib.hid hown
    have HB := Lib.hid hbel
    have hws : w.heap.size ≤ wr.heap.size := hbel.size
    clear hus hown hbel
    by_cases hlt : k < ps.length
    · have hul : us.length = k := by have := congrArg List.length HU.out; simpa [Nat.min_eq_left hk] using this
      subst hul
      obtain ⟨b', o', rfl⟩ := HL.out.head (by omega)
      have hlies := (HL.out.below HB.out (by omega : w.heap.size ≤ wr.heap.size)).at_ us.length hlt
      have hlw := Lib.hid (HL.out.at_ us.length hlt).parts
      have hsn := Lib.hid hlies.sane
      obtain ⟨hbb, e0, e1, e2, hlen2, A', c', e3, hll⟩ := hlies.parts
      have hl0 : Hid (Pls.lies w w.heap.size ps[us.length].list A') := Lib.hid (by
        obtain ⟨hb0, _, _, _, _, A2, c2, f3, hl2⟩ := hlw.out
        have := (HB.out.cell (p := ⟨b', o' + us.length * 4 + 3, none⟩) hb0).trans f3
        rw [e3] at this
        injection this with this
        injection this with h1 _ _
        subst h1
        exact hl2)
      have HU3 := Lib.hid (fun A1 c1 => show (us ++ [(⟨ps[us.length], A1, c1⟩ : PlAt)]).map PlAt.p = ps.take (us.length + 1) by rw [List.map_append, HU.out, List.take_succ_eq_append_getElem hlt]; rfl)
      generalize hp : ps[us.length] = p at *
      clear hlies hp hlw
      generalize hX : Obj.cells #[.int .i64 p.kind, .int .i64 p.num, .string p.text, .slice A' p.list.length c'] 34 = X
      have HX := Lib.hid hX
      have HBX := Lib.hid ((Below.refl wr.heap.size wr).alloc (Nat.le_refl _) X)
      have KL := Lib.hid (law2_Light p A' c' (wr.alloc X) hsn.out.2.2.1 hsn.out.2.2.2 (hll.below HBX.out HBX.out.size))
      unfold Pl.arg at KL
      clear hll hX
      go_wp2_with fail
      rw [HX.out]
      refine KL.out.mono ?_
      rintro e w1 ⟨rfl, hb1⟩
      have HB1 := Lib.hid (HBX.out.trans (hb1.mono HBX.out.size))
      have hx1 := (hb1.block wr.heap.size (by simp)).trans (heap_alloc_new wr X)
      have hz1w := lt_of_block hx1
      have HX1 := Lib.hid hx1
      rw [← HX.out] at hx1
      have f0 : ∀ j, w1.cell? ⟨wr.heap.size, j, none⟩ = (#[.int .i64 p.kind, .int .i64 p.num, .string p.text, .slice A' p.list.length c'] : Array Value)[j]? := fun j => by simp [World.cell?, hx1]
      have g0 : ∀ j, w1.frozen? ⟨wr.heap.size, j, none⟩ = false := fun j => by simp [World.frozen?, hx1]
      clear hb1 hx1 e0 e1 e2 e3 KL
      cases hlt2 : p.isLight
      · have HT := Lib.hid (show TwEl w.heap.size w1 (fresh wr w1) ⟨p, A', c'⟩ from ⟨hsn.out, fun h => absurd (hlt2.symm.trans h) (by decide), fun _ => hl0.out.keep (fun b o hb => (HB1.out.cell (p := ⟨b, o, none⟩) (Nat.lt_of_lt_of_le hb hws)).trans (HB.out.cell (p := ⟨b, o, none⟩) hb)) (Nat.le_refl _)⟩)
        have hown2 := Lib.hid (own_below HO.out.own HB1.out |>.alloc (.cells (p.cells4 A' c').toArray 34))
        unfold Pl.cells4 at hown2
        go_wp2_with (at_builtin; refine wpList_append_lies _ rfl _ _ 24 rfl w.heap.size 34 i0 _ 4 56 Tryz.underlying24 hi hz0 hz1 hz2 rfl (by decide) _ us.length (us.flatMap PlAt.cells) rfl hown2.out ⟨w1.heap.size, 0, none⟩ 1 1 (p.cells4 A' c') rfl rfl (World.news_of_block (by exact heap_alloc_new w1 _)) (by intro u hu; unfold Pl.cells4 at hu; simp at hu; rcases hu with rfl | rfl | rfl | rfl <;> rfl) (by decide) (by unfold maxLen; omega) (by omega) (by have := HB1.out.size; simp; omega) (w1.heap.size + 1) (by simp) ?_)
        intro g cap w3 hown3 hgr3 hat hlt3
        have HO3 := Lib.hid (HO.out.step ⟨p, A', c'⟩ hws HB1.out HT.out hgr3 hat hown3)
        have HB3 := Lib.hid ((((HB.out.trans (HB1.out.mono hws)).alloc (by have := HB1.out.size; omega) _).grown hgr3 (by have := HB1.out.size; rw [size_alloc]; omega) (fun q e => (HO.out.own.lt q e).1)))
        clear hown3 hgr3 hown2 hat
        go_wp2
        go_roundw
        case rel => exact ⟨us.length + 1, us ++ [(⟨p, A', c'⟩ : PlAt)], by omega, by go_num, HU3.out _ _, HO3.out, HB3.out⟩
        case measure => simp [intOf]; omega
      · have KT := Lib.hid (law2_Twin p A' c' w1 hsn.out (hl0.out.keep (fun b o hb => (HB1.out.cell (p := ⟨b, o, none⟩) (Nat.lt_of_lt_of_le hb hws)).trans (HB.out.cell (p := ⟨b, o, none⟩) hb)) (by have := HB1.out.size; omega)))
        unfold Pl.arg at KT
        go_wp2_with fail
        refine KT.out.mono ?_
        rintro e w2 ⟨A1, c1, rfl, hm, hb2⟩
        have hx2 := (hb2.block wr.heap.size hz1w).trans HX1.out
        have HX2 := Lib.hid hx2
        rw [← HX.out] at hx2
        have f2 : ∀ j, w2.cell? ⟨wr.heap.size, j, none⟩ = (#[.int .i64 p.kind, .int .i64 p.num, .string p.text, .slice A' p.list.length c'] : Array Value)[j]? := fun j => by simp [World.cell?, hx2]
        have g2 : ∀ j, w2.frozen? ⟨wr.heap.size, j, none⟩ = false := fun j => by simp [World.frozen?, hx2]
        have HB2 := Lib.hid (HB1.out.trans (hb2.mono HB1.out.size))
        have HM := Lib.hid hm
        have hs2 := hb2.size
        clear f0 g0 hb2 hm hx2 KT
        unfold Pl.arg
        have hW4 : ∃ w4, w4 = (((w2.setCell ⟨wr.heap.size, 0, none⟩ (.int .i64 p.kind)).setCell ⟨wr.heap.size, 1, none⟩ (.int .i64 p.num)).setCell ⟨wr.heap.size, 2, none⟩ (.string p.text)).setCell ⟨wr.heap.size, 3, none⟩ (.slice A1 p.list.length c1) := ⟨_, rfl⟩
        obtain ⟨w4, hw4⟩ := hW4
        have HB4 : Hid (Below wr.heap.size wr w4) := Lib.hid (by
          rw [hw4]
          exact (((HB2.out.setCell (p := ⟨wr.heap.size, 0, none⟩) (Nat.le_refl _) _).setCell (p := ⟨wr.heap.size, 1, none⟩) (Nat.le_refl _) _).setCell (p := ⟨wr.heap.size, 2, none⟩) (Nat.le_refl _) _).setCell (p := ⟨wr.heap.size, 3, none⟩) (Nat.le_refl _) _)
        have hz4 : w4.heap.size = w2.heap.size := by rw [hw4, size_set, size_set, size_set, size_set]
        have hx4 : w4.heap[wr.heap.size]? = some (.cells #[.int .i64 p.kind, .int .i64 p.num, .string p.text, .slice A1 p.list.length c1] 34 (0, 0)) := by
          rw [hw4]
          exact blk_set (blk_set (blk_set (blk_set (HX2.out.trans (by rw [← HX.out])) 0 (.int .i64 p.kind)) 1 (.int .i64 p.num)) 2 (.string p.text)) 3 (.slice A1 p.list.length c1)
        have HT4 : Hid (TwEl w.heap.size w4 (fresh wr w4) ⟨p, A1, c1⟩) := Lib.hid ⟨hsn.out, fun _ => HM.out.keep (fun b o hs => by
            have h1 : b ≠ wr.heap.size := by have := hs.1; omega
            rw [hw4, cell_far _ _ (p := ⟨wr.heap.size, 3, none⟩) h1, cell_far _ _ (p := ⟨wr.heap.size, 2, none⟩) h1, cell_far _ _ (p := ⟨wr.heap.size, 1, none⟩) h1, cell_far _ _ (p := ⟨wr.heap.size, 0, none⟩) h1]) (fun b hs => ⟨by have := hs.1; omega, by have := hs.2; omega⟩), fun h => absurd (hlt2.symm.trans h) (by decide)⟩
        have hown2 := Lib.hid (own_below HO.out.own HB4.out |>.alloc (.cells (p.cells4 A1 c1).toArray 34))
        have HW4 := Lib.hid hw4
        clear hw4
        unfold Pl.cells4 at hown2
        go_upto_region 8 with fail
        rw [← HW4.out]
        have f4 : ∀ j, w4.cell? ⟨wr.heap.size, j, none⟩ = (#[.int .i64 p.kind, .int .i64 p.num, .string p.text, .slice A1 p.list.length c1] : Array Value)[j]? := fun j => by simp [World.cell?, hx4]
        have hz4' := Lib.hid hz4
        clear f2 g2 hx4 hz4
        go_wp2_with (at_builtin; refine wpList_append_lies _ rfl _ _ 24 rfl w.heap.size 34 i0 _ 4 56 Tryz.underlying24 hi hz0 hz1 hz2 rfl (by decide) _ us.length (us.flatMap PlAt.cells) rfl hown2.out ⟨w4.heap.size, 0, none⟩ 1 1 (p.cells4 A1 c1) rfl rfl (World.news_of_block (by exact heap_alloc_new w4 _)) (by intro u hu; unfold Pl.cells4 at hu; simp at hu; rcases hu with rfl | rfl | rfl | rfl <;> rfl) (by decide) (by unfold maxLen; omega) (by omega) (by have := HB4.out.size; simp; omega) (w4.heap.size + 1) (by simp) ?_)
        intro g cap w3 hown3 hgr3 hat hlt3
        have HO3 := Lib.hid (HO.out.step ⟨p, A1, c1⟩ hws HB4.out HT4.out hgr3 hat hown3)
        have HB3 := Lib.hid ((((HB.out.trans (HB4.out.mono hws)).alloc (by have := HB4.out.size; omega) _).grown hgr3 (by have := HB4.out.size; rw [size_alloc]; omega) (fun q e => (HO.out.own.lt q e).1)))
        clear hown3 hgr3 hown2 hat
        go_wp2
        go_roundw
        case rel => exact ⟨us.length + 1, us ++ [(⟨p, A1, c1⟩ : PlAt)], by omega, by go_num, HU3.out _ _, HO3.out, HB3.out⟩
        case measure => simp [intOf]; omega
    · have hps := Lib.hid (show us.map PlAt.p = ps by rw [HU.out, List.take_of_length_le (by omega)])
      go_wp2
      go_ret
      exact ⟨_, us, rfl, hps.out, HO.out, HB.out⟩
set_option maxRecDepth 100000 in
set_option maxHeartbeats 8000000 in
theorem law_Untouched (us : List PlAt) (w0 : Nat) (v : Value) (A B : Option Addr) (c d : Nat) (w : World) (hlen : us.length * 56 ≤ 140737488351232) (h0 : w0 ≤ w.heap.size) (ho : TwOwn w0 w v us) (hv : v = .slice A us.length c) (hl : Pls.lies w w.heap.size (us.map PlAt.p) B) :
    Calls Tryz.prog 13 #[.slice A us.length c, .slice B us.length d] w (Bel (.bool true) w) := by
  have HO := Lib.hid ho
  have HL := Lib.hid hl
  have HV := Lib.hid hv
  clear ho hl hv
  go_enter Tryz.func13, Tryz.ntmps13
  go_wp2
  go_loopw [5] (fun s5 wr => ∃ (k : Nat), k ≤ us.length ∧ s5 = .int .i64 (k : Int) ∧ Below w.heap.size w wr) (fun s5 _ => us.length - (intOf s5).toNat)
  case atStart => exact ⟨0, Nat.zero_le _, rfl, Below.refl _ _⟩
  case round =>
    obtain ⟨k, hk, rfl, hbel⟩ := hrel
    have HB := Lib.hid hbel
    clear hbel
    by_cases hlt : k < us.length
    · have ho := HO.out.below HB.out h0
      obtain ⟨A', c', e', hx⟩ := ho.slice
      have hve := HV.out
      rw [e'] at hve
      injection hve with hA _ hc
      subst hA hc
      obtain ⟨g, rfl, hg, hcs⟩ := hx (by omega)
      have hl := HL.out.below HB.out HB.out.size
      obtain ⟨b', o', rfl⟩ := hl.head (by simp; omega)
      have hlies := hl.at_ k (by simpa using hlt)
      rw [List.getElem_map] at hlies
      have hsn := Lib.hid hlies.sane
      obtain ⟨hbb, e0, e1, e2, hlen2, A2, c2, e3, hll⟩ := hlies.parts
      have hel := Lib.hid (ho.els us[k] (List.getElem_mem hlt))
      have d0 : wr.cell? ⟨g, k * 4, none⟩ = some (.int .i64 us[k].p.kind) := hcs k hlt 0 _ rfl
      have d1 : wr.cell? ⟨g, k * 4 + 1, none⟩ = some (.int .i64 us[k].p.num) := hcs k hlt 1 _ rfl
      have d2 : wr.cell? ⟨g, k * 4 + 2, none⟩ = some (.string us[k].p.text) := hcs k hlt 2 _ rfl
      have d3 : wr.cell? ⟨g, k * 4 + 3, none⟩ = some (.slice us[k].A us[k].p.list.length us[k].c) := hcs k hlt 3 _ rfl
      generalize us[k] = x at *
      have KL := Lib.hid (fun y : Ext wr => law2_Light x.p A2 c2 y.now hsn.out.2.2.1 hsn.out.2.2.2 (hll.below y.ok y.ok.size))
      have KK := Lib.hid (fun (hi : x.p.isLight = true) (y : Ext wr) => law2_Kept x.p x.A A2 x.c c2 y.now hsn.out ((hel.out.2.1 hi).keep (fun b o hs => y.ok.cell (p := ⟨b, o, none⟩) hs.2.1) (fun b hs => Nat.lt_of_lt_of_le hs.2.1 y.ok.size)) (hll.below y.ok y.ok.size))
      unfold Pl.arg at KL KK
      have E0 := Ext.cell (w := wr) e0
      have E1 := Ext.cell (w := wr) e1
      have E2 := Ext.cell (w := wr) e2
      have E3 := Ext.cell (w := wr) e3
      have D0 := Ext.cell (w := wr) d0
      have D1 := Ext.cell (w := wr) d1
      have D2 := Ext.cell (w := wr) d2
      have D3 := Ext.cell (w := wr) d3
      clear e0 e1 e2 e3 d0 d1 d2 d3 hlies hl hll hcs hx ho hel
      cases hi : x.p.isLight
      · rw [hi] at KL
        go_upto_region 4 with fail
        refine wp_region_ext (by kernel_rfl) (by kernel_rfl) ?_
        go_big_quiet_step (fail)
        go_big_quiet_step (fail)
        go_big_quiet_step (fail)
        go_big_quiet_step (fail)
        go_big_quiet_step ((go_at_call 22; exact Calls.ext_of (KL.out _)))
        go_big_quiet_step (fail)
        go_big_quiet_step (fail)
        go_big_quiet_step (fail)
        go_big_quiet_step (fail)
        go_big_quiet_step (fail)
        go_big_quiet_step (fail)
        go_big_quiet_step (fail)
        go_big_quiet_step (fail)
        go_big_quiet_step (fail)
        go_big_quiet_step (fail)
        go_big_quiet_step (fail)
        go_big_quiet_step (fail)
        refine wpQuiet_nil ?_
        rintro _ ⟨z, rfl⟩
        have HB2 := Lib.hid (HB.out.trans (z.ok.mono HB.out.size))
        clear D0 D1 D2 D3 E0 E1 E2 E3 KL KK
        generalize z.now = w2 at *
        go_wp2
        go_roundw
        case rel => exact ⟨k + 1, by omega, by go_num, HB2.out⟩
        case measure => simp [intOf]; omega
      · rw [hi] at KL
        have KK2 := Lib.hid (KK.out hi)
        clear KK
        go_upto_region 4 with fail
        refine wp_region_ext (by kernel_rfl) (by kernel_rfl) ?_
        go_big_quiet_step (fail)
        go_big_quiet_step (fail)
        go_big_quiet_step (fail)
        go_big_quiet_step (fail)
        go_big_quiet_step ((go_at_call 22; exact Calls.ext_of (KL.out _)))
        go_big_quiet_step (fail)
        go_big_quiet_step (fail)
        go_big_quiet_step (fail)
        go_big_quiet_step (fail)
        go_big_quiet_step (fail)
        go_big_quiet_step (fail)
        go_big_quiet_step (fail)
        go_big_quiet_step (fail)
        go_big_quiet_step (fail)
        go_big_quiet_step ((go_at_call 32; exact Calls.ext_of (KK2.out _)))
        go_big_quiet_step (fail)
        go_big_quiet_step (fail)
        refine wpQuiet_nil ?_
        rintro _ ⟨z, rfl⟩
        have HB2 := Lib.hid (HB.out.trans (z.ok.mono HB.out.size))
        clear D0 D1 D2 D3 E0 E1 E2 E3 KL KK2
        generalize z.now = w2 at *
        go_wp2
        go_roundw
        case rel => exact ⟨k + 1, by omega, by go_num, HB2.out⟩
        case measure => simp [intOf]; omega
    · go_wp2
      go_ret
      exact ⟨rfl, HB.out⟩
end Go.Proofs.YthjpphojddbbmaaGreatDoor
