/-
  espalierref11.Work at 'list.of', 'list.turn', 'list.cut', 'list.join', 'list.add': walks. Written by a program of mine (gen_refgood11b.py). Conditions: the plain values lie in memory.
-/
import Derived.Test.YtcldbjgikkfnbaaGreatDoorCRefNo11
namespace Go.Proofs.YtcldbjgikkfnbaaGreatDoor
open Go.RowKit
set_option linter.unusedVariables false

set_option maxRecDepth 100000 in
set_option maxHeartbeats 8000000 in
theorem ref11_good_of (ps : List Pl) (hall : ps.all Pl.mayB = true) (A : Option Addr) (c : Nat) (w : World) (hlen : ps.length * 56 ≤ 140737488351232) (hl : Pls.lies w w.heap.size ps A) :
    Calls Tryz.prog 17 #[.string ⟨#[108, 105, 115, 116, 46, 111, 102]⟩, .slice A ps.length c] w (ROut (rWhole ps) w) := by
  obtain ⟨i0, hi, hz0, hz1, hz2⟩ := info_plain_parts
  have HB := Lib.hid ((Below.refl w.heap.size w).alloc (Nat.le_refl _) (.cells #[.int .i64 0, .int .i64 0, .string ⟨#[]⟩, .slice none 0 0] 31))
  have KM := Lib.hid (ref11_may ln_of ps A c _ hlen (hl.below HB.out HB.out.size))
  rw [may_of, if_pos hall] at KM
  unfold ln_of at KM
  obtain ⟨us, hus⟩ := ats_in hl
  have HU := Lib.hid hus
  have hul := hus.len
  clear hl hall hus
  go_enter Tryz.func17, Tryz.ntmps17
  go_wp2_with fail
  refine KM.out.mono ?_
  rintro e w1 ⟨rfl, hb1⟩
  have HX1 := Lib.hid ((hb1.block w.heap.size (by simp)).trans (heap_alloc_new w _))
  have HB1 := Lib.hid (HB.out.trans (hb1.mono HB.out.size))
  clear hb1 KM
  go_wp2_with fail
  refine (kinds_of (.slice A ps.length c) w1).mono ?_
  rintro e w2 ⟨rfl, hb2⟩
  have HB2 := Lib.hid (HB1.out.trans (hb2.mono HB1.out.size))
  have hs2 := HB2.out.size
  have hx := (hb2.block w.heap.size (lt_of_block HX1.out)).trans HX1.out
  have HX := Lib.hid hx
  have f0 : ∀ j, w2.cell? ⟨w.heap.size, j, none⟩ = (#[.int .i64 0, .int .i64 0, .string ⟨#[]⟩, .slice none 0 0] : Array Value)[j]? := fun j => by simp [World.cell?, hx]
  have g0 : ∀ j, w2.frozen? ⟨w.heap.size, j, none⟩ = false := fun j => by simp [World.frozen?, hx]
  clear hx
  have hxl := lt_of_block HX.out
  clear hb2
  go_wp2_with (at_builtin; refine wpList_append_any rfl _ _ 25 rfl (w.heap.size + 1) 31 i0 _ 4 56 Tryz.underlying25 hi hz0 hz1 hz2 rfl (by decide) _ _ _ rfl (World.ownsRow_nil _ _ _ _) A ps.length c (us.flatMap PlAt.cells) rfl (by rw [plat_len, hul]) HU.out.2.2.1 (HU.out.later HB2.out) (plat_one us) (by unfold maxLen; omega) (by omega) (by omega) ?_)
  intro v3 w3 hown3 hgr3 _
  have HX3 := Lib.hid ((hgr3.block _ hxl (by simp [Value.ownBlock])).trans HX.out)
  replace hown3 : w3.ownsRow (w.heap.size + 1) 31 4 v3 ps.length (us.flatMap PlAt.cells) := by simpa using hown3
  obtain ⟨A3, c3, rfl⟩ := own_form hown3
  have HO3 := Lib.hid hown3
  have HB3 := Lib.hid (HB2.out.grown hgr3 hs2 (by simp [Value.ownBlock]))
  have HE3 := Lib.hid (ats_below HU.out.2.1 HB3.out)
  clear hown3 hgr3
  have hsz3 := HB3.out.size
  have KW := Lib.hid (ref11_whole (ps) A3 (ps.length) c3 w3 (by rfl) (by have h9 := lies_row HO3.out HE3.out hsz3; rw [HU.out.1] at h9; exact h9) (by exact hlen))
  go_wp2_with fail
  refine KW.out.mono ?_
  rintro e w4 ⟨hor, hb4⟩
  have HB4 := Lib.hid (HB3.out.trans (hb4.mono hsz3))
  have HC4 := Lib.hid hb4
  have hx4 := (hb4.block _ (lt_of_block HX3.out)).trans HX3.out
  try clear f0 g0
  try clear HX
  have hx := hx4
  have HX := Lib.hid hx
  have f0 : ∀ j, w4.cell? ⟨w.heap.size, j, none⟩ = (#[.int .i64 0, .int .i64 0, .string ⟨#[]⟩, .slice none 0 0] : Array Value)[j]? := fun j => by simp [World.cell?, hx]
  have g0 : ∀ j, w4.frozen? ⟨w.heap.size, j, none⟩ = false := fun j => by simp [World.frozen?, hx]
  clear hx
  clear hb4 hx4 KW
  rcases hor with ⟨hm, rfl⟩ | ⟨hm, rfl⟩
  · have hr := Lib.hid (show rWhole (ps) = (0, lPl (ps)) by unfold rWhole; rw [if_pos hm])
    clear hm
    go_wp2
    refine bodyPost_ret (fn := Tryz.f17) (v := .tuple #[.agg #[.int .i64 5, .int .i64 0, .string ⟨#[]⟩, .slice A3 (ps.length) c3], .int .i64 0, .string ⟨#[]⟩]) (res3 (p := 4) (q := 5) (r := 6) (ty := 31) (a := ⟨w.heap.size, 0, none⟩) Tryz.results17 rfl (run_loadVar_row (P := Tryz.prog) _ _ _ 31 _ _ _ (blk_set (blk_set (blk_set (blk_set HX.out 0 (.int .i64 5)) 1 (.int .i64 0)) 2 (.string ⟨#[]⟩)) 3 (.slice A3 (ps.length) c3)) Tryz.underlying31 rfl (by kernel_rfl)) rfl rfl) rfl ?_
    rw [hr.out]
    refine ⟨A3, c3, by rw [whole_out (ps) A3 (ps.length) c3 (by rfl)], ?_, below_set4 HB4.out _ _ _ _⟩
    have h9 := lies_row4 HO3.out HE3.out (Nat.lt_succ_self _) hsz3 HC4.out (.int .i64 5) (.int .i64 0) (.string ⟨#[]⟩) (.slice A3 (ps.length) c3)
    rw [HU.out.1] at h9
    exact h9
  · have hr := Lib.hid (show rWhole (ps) = rBad 2 by unfold rWhole; rw [hm]; rfl)
    clear hm
    go_wp2
    refine bodyPost_ret (fn := Tryz.f17) (v := .tuple #[.agg #[.int .i64 0, .int .i64 0, .string ⟨#[]⟩, .slice none 0 0], .int .i64 2, .string ⟨#[]⟩]) (res3 (p := 4) (q := 5) (r := 6) (ty := 31) (a := ⟨w.heap.size, 0, none⟩) Tryz.results17 rfl (run_loadVar_row (P := Tryz.prog) _ _ _ 31 _ _ _ (blk_set (blk_set (blk_set (blk_set HX.out 0 (.int .i64 0)) 1 (.int .i64 0)) 2 (.string ⟨#[]⟩)) 3 (.slice none 0 0)) Tryz.underlying31 rfl (by kernel_rfl)) rfl rfl) rfl ?_
    rw [hr.out]
    exact ⟨none, 0, rfl, by unfold rBad zPl Pl.list Pls.lies; trivial, below_set4 HB4.out _ _ _ _⟩
theorem drop_rev {l : List Pl} {k : Nat} (h : k < l.length) : (l.drop k).reverse = (l.drop (k + 1)).reverse ++ [l[k]] := by
  rw [List.drop_eq_getElem_cons h, List.reverse_cons]
set_option maxRecDepth 100000 in
set_option maxHeartbeats 8000000 in
theorem ref11_good_turn (p : Pl) (hall : [p].all Pl.mayB = true) (hq0 : p.kind = 5) (A : Option Addr) (c : Nat) (w : World) (hl : Pls.lies w w.heap.size [p] A) :
    Calls Tryz.prog 17 #[.string ⟨#[108, 105, 115, 116, 46, 116, 117, 114, 110]⟩, .slice A 1 c] w (ROut (rWhole p.list.reverse) w) := by
  obtain ⟨i0, hi, hz0, hz1, hz2⟩ := info_plain_parts
  have HB := Lib.hid ((Below.refl w.heap.size w).alloc (Nat.le_refl _) (.cells #[.int .i64 0, .int .i64 0, .string ⟨#[]⟩, .slice none 0 0] 31))
  have KM := Lib.hid (ref11_may ln_turn [p] A c _ (by show 1 * 56 ≤ _; omega) (hl.below HB.out HB.out.size))
  rw [may_turn, if_pos (show [p].length = 1 from rfl), if_pos hall] at KM
  simp only [List.length_cons, List.length_nil, Nat.zero_add] at KM
  unfold ln_turn at KM
  have HL := Lib.hid hl
  obtain ⟨b, o, rfl⟩ := hl.head (by simp)
  clear hl hall
  go_enter Tryz.func17, Tryz.ntmps17
  go_wp2_with fail
  refine KM.out.mono ?_
  rintro e w1 ⟨rfl, hb1⟩
  have HX1 := Lib.hid ((hb1.block w.heap.size (by simp)).trans (heap_alloc_new w _))
  have HB1 := Lib.hid (HB.out.trans (hb1.mono HB.out.size))
  have HL1 := Lib.hid (HL.out.below HB1.out (Nat.le_refl _))
  have hk0 := (show p.lies w1 w.heap.size b o by simpa using HL1.out.at_ 0 (by simp)).parts.2.1
  have KK := Lib.hid (kinds_turn b o c p.kind w1 hk0 true (by simp [hq0]))
  clear hb1 KM hk0
  go_wp2_with fail
  refine KK.out.mono ?_
  rintro e w2 ⟨rfl, hb2⟩
  have HB2 := Lib.hid (HB1.out.trans (hb2.mono HB1.out.size))
  have HL2 := Lib.hid (HL.out.below HB2.out (Nat.le_refl _))
  have hs2 := HB2.out.size
  have hx := (hb2.block w.heap.size (lt_of_block HX1.out)).trans HX1.out
  have HX := Lib.hid hx
  have f0 : ∀ j, w2.cell? ⟨w.heap.size, j, none⟩ = (#[.int .i64 0, .int .i64 0, .string ⟨#[]⟩, .slice none 0 0] : Array Value)[j]? := fun j => by simp [World.cell?, hx]
  have g0 : ∀ j, w2.frozen? ⟨w.heap.size, j, none⟩ = false := fun j => by simp [World.frozen?, hx]
  clear hx
  have hxl := lt_of_block HX.out
  have hsn0 := Lib.hid (show p.lies w2 w.heap.size b o by simpa using HL2.out.at_ 0 (by simp)).sane
  obtain ⟨hbb0, a00, a01, a02, hlen0, A0, c0, a03, hll0⟩ := (show p.lies w2 w.heap.size b o by simpa using HL2.out.at_ 0 (by simp)).parts
  clear hb2 KK
  have HLL := Lib.hid hll0
  have hl0 := hsn0.out.2.2.2
  clear hsn0 hll0
  generalize p.list = l at *
  go_wp2
  go_loopw [13, 12] (fun s13 s12 wr => ∃ (j : Nat) (us : List PlAt), j ≤ l.length ∧ s13 = .int .i64 ((j : Int) - 1) ∧ (∃ A c, s12 = .slice A us.length c) ∧ us.map PlAt.p = (l.drop j).reverse ∧ (∀ x ∈ us, x.p.sane ∧ Pls.lies wr w.heap.size x.p.list x.A) ∧ wr.ownsRow (w.heap.size + 1) 31 4 s12 us.length (us.flatMap PlAt.cells) ∧ wr.heap[w.heap.size]? = some (.cells #[.int .i64 0, .int .i64 0, .string ⟨#[]⟩, .slice none 0 0] 31) ∧ Below w.heap.size w wr) (fun s13 _ _ => (intOf s13 + 1).toNat)
  case atStart => exact ⟨l.length, [], Nat.le_refl _, rfl, ⟨none, 0, rfl⟩, by simp, fun x h => absurd h List.not_mem_nil, World.ownsRow_nil _ _ _ _, HX.out, HB2.out⟩
  case round =>
    obtain ⟨j, us, hj, rfl, ⟨A, c, rfl⟩, hmap, hels, hown, hx, hbel⟩ := hrel
    have HM := Lib.hid hmap
    have HEL := Lib.hid hels
    have HO := Lib.hid hown
    have HXR := Lib.hid hx
    have HBL := Lib.hid hbel
    have hsz := hbel.size
    have hxl2 := lt_of_block hx
    have HUL := Lib.hid (show us.length = l.length - j by have := congrArg List.length hmap; simpa using this)
    have hub : us.length ≤ l.length := by have := HUL.out; omega
    clear hmap hels hown hx hbel f0 g0
    by_cases h0 : 0 < j
    · obtain ⟨k, rfl⟩ : ∃ k, j = k + 1 := ⟨j - 1, by omega⟩
      have hk : k < l.length := by omega
      have hd : decide ((0 : Int) ≤ ((k + 1 : Nat) : Int) - 1) = true := by simp
      have hcast : ((k + 1 : Nat) : Int) - 1 = (k : Int) := by omega
      obtain ⟨b2, o2, rfl⟩ := HLL.out.head (by omega)
      have hll := (HLL.out.keep (w' := wr) (fun b o hb => (HBL.out.cell (p := ⟨b, o, none⟩) hb).trans (HB2.out.cell (p := ⟨b, o, none⟩) hb).symm) (Nat.le_refl _)).at_ k hk
      have hsn := Lib.hid hll.sane
      obtain ⟨hbb, x0, x1, x2, hlenx, Ax, cx, x3, hllx⟩ := hll.parts
      have HLX := Lib.hid hllx
      have HR := Lib.hid (drop_rev hk)
      rw [hcast]
      clear hll hllx hd hcast h0
      generalize l[k] = y at *
      go_wp2_with (at_builtin; refine wpList_append_lies _ rfl _ _ 25 rfl (w.heap.size + 1) 31 i0 _ 4 56 Tryz.underlying25 hi hz0 hz1 hz2 rfl (by decide) _ us.length (us.flatMap PlAt.cells) rfl (HO.out.alloc _) ⟨wr.heap.size, 0, none⟩ 1 1 (y.cells4 Ax cx) rfl rfl (World.news_of_block (heap_alloc_new wr _)) (by intro u hu; unfold Pl.cells4 at hu; simp at hu; rcases hu with rfl | rfl | rfl | rfl <;> rfl) (by decide) (by unfold maxLen; omega) (by omega) (by simp; omega) _ rfl ?_)
      intro g cap w3 hown3 hgr3 hat hlt3
      have HO3 : Hid (w3.ownsRow (w.heap.size + 1) 31 4 (.slice (some ⟨g, 0, none⟩) (us.length + 1) cap) (us.length + 1) ((us ++ [(⟨y, Ax, cx⟩ : PlAt)]).flatMap PlAt.cells)) := Lib.hid (by rw [List.flatMap_append]; exact hown3)
      have HX3 : Hid (w3.heap[w.heap.size]? = some (.cells #[.int .i64 0, .int .i64 0, .string ⟨#[]⟩, .slice none 0 0] 31)) := Lib.hid ((hgr3.block _ (by rw [size_alloc]; omega) (fun e => by have := (HO.out.lt _ e.symm).1; omega)).trans ((Below.heap_alloc _ _ _ hxl2).trans HXR.out))
      have hold : ∀ b o, b < w.heap.size → w3.cell? ⟨b, o, none⟩ = wr.cell? ⟨b, o, none⟩ := fun b o hb => by
        rw [World.cell?_of_block (a := ⟨b, o, none⟩) (hgr3.block b (by rw [size_alloc]; omega) (fun e => by have := (HO.out.lt _ e.symm).1; omega)), World.cell?_alloc_lt _ _ _ (by show b < _; omega)]
      have HE3 : Hid (∀ x ∈ us ++ [(⟨y, Ax, cx⟩ : PlAt)], x.p.sane ∧ Pls.lies w3 w.heap.size x.p.list x.A) := Lib.hid (fun x hx => by
        rcases List.mem_append.1 hx with h | h
        · exact ⟨(HEL.out x h).1, (HEL.out x h).2.keep hold (Nat.le_refl _)⟩
        · rw [List.mem_singleton] at h
          subst h
          exact ⟨hsn.out, HLX.out.keep hold (Nat.le_refl _)⟩)
      have HB3 := Lib.hid ((HBL.out.alloc hsz _).grown hgr3 (by rw [size_alloc]; omega) (fun q e => by have := (HO.out.lt q e).1; omega))
      clear hown3 hgr3 hat hold
      go_wp2
      go_roundw
      case rel => exact ⟨k, us ++ [(⟨y, Ax, cx⟩ : PlAt)], by omega, rfl, ⟨some ⟨g, 0, none⟩, cap, by rw [List.length_append]; rfl⟩, by rw [List.map_append, HM.out, HR.out]; rfl, HE3.out, by rw [List.length_append]; exact HO3.out, HX3.out, HB3.out⟩
      case measure => simp [intOf]
    · obtain rfl : j = 0 := by omega
      rw [List.drop_zero] at HM
      have hcast : (((0 : Nat) : Int) - 1) = -1 := by rfl
      rw [hcast]
      have HB3 := HBL
      have HX3 := HXR
      have HE3 := HEL
      have HU2 := Lib.hid (show us.length = l.reverse.length by have := HUL.out; simp; omega)
      obtain ⟨A3, hA3⟩ : ∃ A3, A3 = A := ⟨A, rfl⟩
      obtain ⟨c3, hc3⟩ : ∃ c3, c3 = c := ⟨c, rfl⟩
      rw [← hA3, ← hc3] at HO ⊢
      clear hA3 hc3
      have HO3 := HO
      clear h0 hcast HO HXR HEL
      have hsz3 := HB3.out.size
      have KW := Lib.hid (ref11_whole (l.reverse) A3 (us.length) c3 wr (by exact HU2.out) (by have h9 := lies_row HO3.out HE3.out hsz3; rw [HM.out] at h9; exact h9) (by rw [← HU2.out]; omega))
      go_wp2_with fail
      refine KW.out.mono ?_
      rintro e w4 ⟨hor, hb4⟩
      have HB4 := Lib.hid (HB3.out.trans (hb4.mono hsz3))
      have HC4 := Lib.hid hb4
      have hx4 := (hb4.block _ (lt_of_block HX3.out)).trans HX3.out
      try clear f0 g0
      try clear HX
      have hx := hx4
      have HX := Lib.hid hx
      have f0 : ∀ j, w4.cell? ⟨w.heap.size, j, none⟩ = (#[.int .i64 0, .int .i64 0, .string ⟨#[]⟩, .slice none 0 0] : Array Value)[j]? := fun j => by simp [World.cell?, hx]
      have g0 : ∀ j, w4.frozen? ⟨w.heap.size, j, none⟩ = false := fun j => by simp [World.frozen?, hx]
      clear hx
      clear hb4 hx4 KW
      rcases hor with ⟨hm, rfl⟩ | ⟨hm, rfl⟩
      · have hr := Lib.hid (show rWhole (l.reverse) = (0, lPl (l.reverse)) by unfold rWhole; rw [if_pos hm])
        clear hm
        go_wp2
        refine bodyPost_ret (fn := Tryz.f17) (v := .tuple #[.agg #[.int .i64 5, .int .i64 0, .string ⟨#[]⟩, .slice A3 (us.length) c3], .int .i64 0, .string ⟨#[]⟩]) (res3 (p := 4) (q := 5) (r := 6) (ty := 31) (a := ⟨w.heap.size, 0, none⟩) Tryz.results17 rfl (run_loadVar_row (P := Tryz.prog) _ _ _ 31 _ _ _ (blk_set (blk_set (blk_set (blk_set HX.out 0 (.int .i64 5)) 1 (.int .i64 0)) 2 (.string ⟨#[]⟩)) 3 (.slice A3 (us.length) c3)) Tryz.underlying31 rfl (by kernel_rfl)) rfl rfl) rfl ?_
        rw [hr.out]
        refine ⟨A3, c3, by rw [whole_out (l.reverse) A3 (us.length) c3 (by exact HU2.out)], ?_, below_set4 HB4.out _ _ _ _⟩
        have h9 := lies_row4 HO3.out HE3.out (Nat.lt_succ_self _) hsz3 HC4.out (.int .i64 5) (.int .i64 0) (.string ⟨#[]⟩) (.slice A3 (us.length) c3)
        rw [HM.out] at h9
        exact h9
      · have hr := Lib.hid (show rWhole (l.reverse) = rBad 2 by unfold rWhole; rw [hm]; rfl)
        clear hm
        go_wp2
        refine bodyPost_ret (fn := Tryz.f17) (v := .tuple #[.agg #[.int .i64 0, .int .i64 0, .string ⟨#[]⟩, .slice none 0 0], .int .i64 2, .string ⟨#[]⟩]) (res3 (p := 4) (q := 5) (r := 6) (ty := 31) (a := ⟨w.heap.size, 0, none⟩) Tryz.results17 rfl (run_loadVar_row (P := Tryz.prog) _ _ _ 31 _ _ _ (blk_set (blk_set (blk_set (blk_set HX.out 0 (.int .i64 0)) 1 (.int .i64 0)) 2 (.string ⟨#[]⟩)) 3 (.slice none 0 0)) Tryz.underlying31 rfl (by kernel_rfl)) rfl rfl) rfl ?_
        rw [hr.out]
        exact ⟨none, 0, rfl, by unfold rBad zPl Pl.list Pls.lies; trivial, below_set4 HB4.out _ _ _ _⟩
end Go.Proofs.YtcldbjgikkfnbaaGreatDoor
