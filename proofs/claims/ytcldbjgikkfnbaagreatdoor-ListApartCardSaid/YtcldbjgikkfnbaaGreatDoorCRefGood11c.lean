/-
  espalierref11.Work at 'list.cut': a walk. Written by a program of mine (gen_refgood11c.py). Conditions: the plain values lie in memory.
-/
import Derived.Test.YtcldbjgikkfnbaaGreatDoorCRefGood11b
namespace Go.Proofs.YtcldbjgikkfnbaaGreatDoor
open Go.RowKit
set_option linter.unusedVariables false

def rCutN (l : List Pl) (a b : Int) : Int × Pl := if 0 ≤ a ∧ a ≤ b ∧ b ≤ l.length then rWhole ((l.take b.toNat).drop a.toNat) else rBad 23
theorem flat_take : ∀ (us : List PlAt) (b : Nat), (us.take b).flatMap PlAt.cells = (us.flatMap PlAt.cells).take (b * 4)
  | [], b => by simp
  | x :: xs, 0 => by simp
  | x :: xs, b + 1 => by
    have h4 : x.cells.length = 4 := rfl
    have e : (b + 1) * 4 = x.cells.length + b * 4 := by omega
    rw [List.take_succ_cons, List.flatMap_cons, List.flatMap_cons, flat_take xs b, e, List.take_length_add_append]
theorem flat_drop : ∀ (us : List PlAt) (a : Nat), (us.drop a).flatMap PlAt.cells = (us.flatMap PlAt.cells).drop (a * 4)
  | [], a => by simp
  | x :: xs, 0 => by simp
  | x :: xs, a + 1 => by
    have h4 : x.cells.length = 4 := rfl
    have e : (a + 1) * 4 = x.cells.length + a * 4 := by omega
    rw [List.drop_succ_cons, List.flatMap_cons, flat_drop xs a, e, List.drop_length_add_append]
/-- The lists among a row's plain values have no less room than length. -/
def CapsAt (w : World) (ps : List Pl) (A : Option Addr) : Prop := ∀ b o, A = some ⟨b, o, none⟩ → ∀ j, j < ps.length → ∀ A' n c, w.cell? ⟨b, o + j * 4 + 3, none⟩ = some (.slice A' n c) → n ≤ c
theorem CapsAt.below {w w' : World} {ps : List Pl} {A : Option Addr} (h : CapsAt w ps A) (hl : Pls.lies w w.heap.size ps A) (hb : Below w.heap.size w w') : CapsAt w' ps A := fun b o hA j hj A' n c hc => by
  subst hA
  have hlt := (hl.at_ j hj).parts.1
  exact h b o rfl j hj A' n c (((hb.cell (p := ⟨b, o + j * 4 + 3, none⟩) hlt).symm).trans hc)
/-- A piece's cells. -/
theorem piece_cells {us : List PlAt} {a b j : Nat} {u : Value} (h : (((us.take b).drop a).flatMap PlAt.cells)[j]? = some u) : (us.flatMap PlAt.cells)[a * 4 + j]? = some u := by
  rw [flat_drop, flat_take, List.getElem?_drop] at h
  have hlt : a * 4 + j < b * 4 := by
    rcases Nat.lt_or_ge (a * 4 + j) (b * 4) with h1 | h1
    · exact h1
    · rw [List.getElem?_eq_none (by rw [List.length_take]; omega)] at h; cases h
  rw [List.getElem?_take_of_lt hlt] at h
  exact h
set_option maxRecDepth 100000 in
set_option maxHeartbeats 8000000 in
theorem ref11_good_cut (p q r : Pl) (hall : [p, q, r].all Pl.mayB = true) (hq0 : p.kind = 5) (hq1 : q.kind = 3) (hq2 : r.kind = 3) (A : Option Addr) (c : Nat) (w : World) (hl : Pls.lies w w.heap.size [p, q, r] A) (hcaps : CapsAt w [p, q, r] A) :
    Calls Tryz.prog 17 #[.string ⟨#[108, 105, 115, 116, 46, 99, 117, 116]⟩, .slice A 3 c] w (ROut (rCutN p.list q.num r.num) w) := by
  obtain ⟨i0, hi, hz0, hz1, hz2⟩ := info_plain_parts
  have HB := Lib.hid ((Below.refl w.heap.size w).alloc (Nat.le_refl _) (.cells #[.int .i64 0, .int .i64 0, .string ⟨#[]⟩, .slice none 0 0] 31))
  have KM := Lib.hid (ref11_may ln_cut [p, q, r] A c _ (by show 3 * 56 ≤ _; omega) (hl.below HB.out HB.out.size))
  rw [may_cut, if_pos (show [p, q, r].length = 3 from rfl), if_pos hall] at KM
  simp only [List.length_cons, List.length_nil, Nat.zero_add, Nat.reduceAdd] at KM
  unfold ln_cut at KM
  have HL := Lib.hid hl
  obtain ⟨b, o, rfl⟩ := hl.head (by simp)
  clear hl hall
  go_enter Tryz.func17, Tryz.ntmps17
  go_wp2_with fail
  refine KM.out.mono ?_
  rintro e w1 ⟨rfl, hb1⟩
  have HX1 := Lib.hid ((hb1.block w.heap.size (by simp)).trans (heap_alloc_new w _))
  have HB1 := Lib.hid (HB.out.trans (hb1.mono HB.out.size))
  have HL1 := Lib.hid (HL.out.below HB1.out (Nat.le_refl _))
  have hk0 := (show p.lies w1 w.heap.size b o by simpa using HL1.out.at_ 0 (by simp)).parts.2.1
  have hk1 := (show q.lies w1 w.heap.size b (o + 4) by simpa using HL1.out.at_ 1 (by simp)).parts.2.1
  have hk2 := (show r.lies w1 w.heap.size b (o + 8) by simpa using HL1.out.at_ 2 (by simp)).parts.2.1
  have KK := Lib.hid (kinds_cut b o c p.kind q.kind r.kind w1 hk0 hk1 hk2 true (by simp [hq0, hq1, hq2]))
  clear hb1 KM hk0 hk1 hk2
  go_wp2_with fail
  refine KK.out.mono ?_
  rintro e w2 ⟨rfl, hb2⟩
  have HB2 := Lib.hid (HB1.out.trans (hb2.mono HB1.out.size))
  have HL2 := Lib.hid (HL.out.below HB2.out (Nat.le_refl _))
  have hs2 := HB2.out.size
  have hx := (hb2.block w.heap.size (lt_of_block HX1.out)).trans HX1.out
  have HX := Lib.hid hx
  have f0 : ∀ j, w2.cell? ⟨w.heap.size, j, none⟩ = (#[.int .i64 0, .int .i64 0, .string ⟨#[]⟩, .slice none 0 0] : Array Value)[j]? := fun j => by simp [World.cell?, hx]
  have g0 : ∀ j, w2.frozen? ⟨w.heap.size, j, none⟩ = false := fun j => by simp [World.frozen?, hx]
  clear hx
  have hxl := lt_of_block HX.out
  have hsn0 := Lib.hid (show p.lies w2 w.heap.size b o by simpa using HL2.out.at_ 0 (by simp)).sane
  obtain ⟨hbb0, a00, a01, a02, hlen0, A0, c0, a03, hll0⟩ := (show p.lies w2 w.heap.size b o by simpa using HL2.out.at_ 0 (by simp)).parts
  have hsn1 := Lib.hid (show q.lies w2 w.heap.size b (o + 4) by simpa using HL2.out.at_ 1 (by simp)).sane
  obtain ⟨hbb1, a10, a11, a12, hlen1, A1, c1, a13, hll1⟩ := (show q.lies w2 w.heap.size b (o + 4) by simpa using HL2.out.at_ 1 (by simp)).parts
  have hsn2 := Lib.hid (show r.lies w2 w.heap.size b (o + 8) by simpa using HL2.out.at_ 2 (by simp)).sane
  obtain ⟨hbb2, a20, a21, a22, hlen2, A2, c2, a23, hll2⟩ := (show r.lies w2 w.heap.size b (o + 8) by simpa using HL2.out.at_ 2 (by simp)).parts
  clear hb2 KK
  have hl0 := hsn0.out.2.2.2
  have HLL := Lib.hid hll0
  have hcap := (hcaps.below HL.out HB2.out) b o rfl 0 (by simp) A0 p.list.length c0 (by simpa using a03)
  clear hsn0 hsn1 hsn2 hll0 hll1 hll2 hcaps
  generalize p.list = l at *
  generalize q.num = x at *
  generalize r.num = y at *
  go_wp2
  go_quiet (fail)
  have HBq := Lib.hid (below_drewN HB2.out nq)
  have HXq := Lib.hid (show (w2.drewN nq).heap[w.heap.size]? = _ from HX.out)
  have HUq := Lib.hid (pls_ats (HLL.out.keep (w' := w2.drewN nq) (fun b o _ => show (w2.drewN nq).cell? ⟨b, o, none⟩ = w2.cell? ⟨b, o, none⟩ from rfl) (Nat.le_refl _)))
  have hsq : w.heap.size ≤ (w2.drewN nq).heap.size := hs2
  have hxq : w.heap.size < (w2.drewN nq).heap.size := hxl
  clear f0 g0 HX HLL a00 a01 a02 a03 a10 a11 a12 a13 a20 a21 a22 a23 HB2 hs2 hxl HL2 HX1 HB1 HL1 HL HB
  generalize w2.drewN nq = w3 at *
  have hx := HXq.out
  have HX := Lib.hid hx
  have f0 : ∀ j, w3.cell? ⟨w.heap.size, j, none⟩ = (#[.int .i64 0, .int .i64 0, .string ⟨#[]⟩, .slice none 0 0] : Array Value)[j]? := fun j => by simp [World.cell?, hx]
  have g0 : ∀ j, w3.frozen? ⟨w.heap.size, j, none⟩ = false := fun j => by simp [World.frozen?, hx]
  clear hx
  by_cases hok : 0 ≤ x ∧ x ≤ y ∧ y ≤ l.length
  · obtain ⟨h1, h2, h3⟩ := hok
    obtain ⟨a, rfl⟩ := Int.eq_ofNat_of_zero_le h1
    obtain ⟨m, rfl⟩ := Int.eq_ofNat_of_zero_le (show 0 ≤ y by omega)
    have ham : a ≤ m := by omega
    have hml : m ≤ l.length := by omega
    have hrr := Lib.hid (show rCutN l (a : Int) (m : Int) = rWhole ((l.take m).drop a) by unfold rCutN; rw [if_pos ⟨h1, h2, h3⟩, Int.toNat_natCast, Int.toNat_natCast])
    obtain ⟨us, hm1, hm2, hm3⟩ := HUq.out
    have hul : us.length = l.length := by rw [← hm1, List.length_map]
    have HUL : Hid (((us.take m).drop a).length = m - a) := Lib.hid (by simp; omega)
    have HLL2 : Hid (((l.take m).drop a).length = m - a) := Lib.hid (by simp; omega)
    have HMP : Hid (((us.take m).drop a).map PlAt.p = (l.take m).drop a) := Lib.hid (by rw [List.map_drop, List.map_take, hm1])
    have ats3 : ∀ w4 : World, Below w.heap.size w w4 → ∀ x ∈ (us.take m).drop a, x.p.sane ∧ Pls.lies w4 w.heap.size x.p.list x.A := fun w4 hb4 x hx => by
      have hx2 := hm2 x (List.mem_of_mem_take (List.mem_of_mem_drop hx))
      exact ⟨hx2.1, hx2.2.keep (fun b o hb => (hb4.cell (p := ⟨b, o, none⟩) hb).trans (HBq.out.cell (p := ⟨b, o, none⟩) hb).symm) (Nat.le_refl _)⟩
    by_cases hl1 : l = []
    · subst hl1
      have hm0 : m = 0 := by simpa using hml
      subst hm0
      have ha0 : a = 0 := by omega
      subst ha0
      have hrr2 := Lib.hid (show rCutN ([] : List Pl) ((0 : Nat) : Int) ((0 : Nat) : Int) = rWhole [] from hrr.out)
      clear hm3 h1 h2 h3 ham hml hcap ats3 hm2 hm1 HUL HLL2 HMP hul hrr hl0
      cases A0 with
      | none =>
        go_wp2_with (at_builtin; refine wpList_append_any rfl _ _ 25 rfl (w.heap.size + 1) 31 i0 _ 4 56 Tryz.underlying25 hi hz0 hz1 hz2 rfl (by decide) _ _ _ rfl (World.ownsRow_nil _ _ _ _) _ 0 _ [] rfl rfl (fun _ => rfl) (fun ad hA j u hj => by simp at hj) (by simp) (by unfold maxLen; omega) (by omega) (by omega) ?_)
        intro v4 w9 hown4 hgr4 _
        have HX3 := Lib.hid ((hgr4.block _ hxq (by simp [Value.ownBlock])).trans HXq.out)
        replace hown4 : w9.ownsRow (w.heap.size + 1) 31 4 v4 0 (([] : List PlAt).flatMap PlAt.cells) := by simpa using hown4
        obtain ⟨A3, c3, rfl⟩ := own_form hown4
        have HO3 := Lib.hid hown4
        have HB3 := Lib.hid (HBq.out.grown hgr4 hsq (by simp [Value.ownBlock]))
        have HE3 : Hid (∀ x ∈ ([] : List PlAt), x.p.sane ∧ Pls.lies w9 w.heap.size x.p.list x.A) := Lib.hid (fun x hx => absurd hx List.not_mem_nil)
        have HMP0 : Hid (([] : List PlAt).map PlAt.p = ([] : List Pl)) := Lib.hid rfl
        clear hown4 hgr4
        have hsz3 := HB3.out.size
        have KW := Lib.hid (ref11_whole (([] : List Pl)) A3 (0) c3 w9 (by rfl) (by have h9 := lies_row HO3.out HE3.out hsz3; rw [HMP0.out] at h9; exact h9) (by simp))
        go_wp2_with fail
        refine KW.out.mono ?_
        rintro e w4 ⟨hor, hb4⟩
        have HB4 := Lib.hid (HB3.out.trans (hb4.mono hsz3))
        have HC4 := Lib.hid hb4
        have hx4 := (hb4.block _ (lt_of_block HX3.out)).trans HX3.out
        try clear f0 g0
        try clear HX
        have hx := hx4
        have HX := Lib.hid hx
        have f0 : ∀ j, w4.cell? ⟨w.heap.size, j, none⟩ = (#[.int .i64 0, .int .i64 0, .string ⟨#[]⟩, .slice none 0 0] : Array Value)[j]? := fun j => by simp [World.cell?, hx]
        have g0 : ∀ j, w4.frozen? ⟨w.heap.size, j, none⟩ = false := fun j => by simp [World.frozen?, hx]
        clear hx
        clear hb4 hx4 KW
        rcases hor with ⟨hm, rfl⟩ | ⟨hm, rfl⟩
        · have hr := Lib.hid (show rWhole (([] : List Pl)) = (0, lPl (([] : List Pl))) by unfold rWhole; rw [if_pos hm])
          clear hm
          go_wp2
          refine bodyPost_ret (fn := Tryz.f17) (v := .tuple #[.agg #[.int .i64 5, .int .i64 0, .string ⟨#[]⟩, .slice A3 (0) c3], .int .i64 0, .string ⟨#[]⟩]) (res3 (p := 4) (q := 5) (r := 6) (ty := 31) (a := ⟨w.heap.size, 0, none⟩) Tryz.results17 rfl (run_loadVar_row (P := Tryz.prog) _ _ _ 31 _ _ _ (blk_set (blk_set (blk_set (blk_set HX.out 0 (.int .i64 5)) 1 (.int .i64 0)) 2 (.string ⟨#[]⟩)) 3 (.slice A3 (0) c3)) Tryz.underlying31 rfl (by kernel_rfl)) rfl rfl) rfl ?_
          rw [hrr2.out, hr.out]
          refine ⟨A3, c3, by rw [whole_out (([] : List Pl)) A3 (0) c3 (by rfl)], ?_, below_set4 HB4.out _ _ _ _⟩
          have h9 := lies_row4 HO3.out HE3.out (Nat.lt_succ_self _) hsz3 HC4.out (.int .i64 5) (.int .i64 0) (.string ⟨#[]⟩) (.slice A3 (0) c3)
          rw [HMP0.out] at h9
          exact h9
        · have hr := Lib.hid (show rWhole (([] : List Pl)) = rBad 2 by unfold rWhole; rw [hm]; rfl)
          clear hm
          go_wp2
          refine bodyPost_ret (fn := Tryz.f17) (v := .tuple #[.agg #[.int .i64 0, .int .i64 0, .string ⟨#[]⟩, .slice none 0 0], .int .i64 2, .string ⟨#[]⟩]) (res3 (p := 4) (q := 5) (r := 6) (ty := 31) (a := ⟨w.heap.size, 0, none⟩) Tryz.results17 rfl (run_loadVar_row (P := Tryz.prog) _ _ _ 31 _ _ _ (blk_set (blk_set (blk_set (blk_set HX.out 0 (.int .i64 0)) 1 (.int .i64 0)) 2 (.string ⟨#[]⟩)) 3 (.slice none 0 0)) Tryz.underlying31 rfl (by kernel_rfl)) rfl rfl) rfl ?_
          rw [hrr2.out, hr.out]
          exact ⟨none, 0, rfl, by unfold rBad zPl Pl.list Pls.lies; trivial, below_set4 HB4.out _ _ _ _⟩
      | some ad0 =>
        by_cases hac : c0 = 0
        · subst hac
          go_wp2_with (at_builtin; refine wpList_append_any rfl _ _ 25 rfl (w.heap.size + 1) 31 i0 _ 4 56 Tryz.underlying25 hi hz0 hz1 hz2 rfl (by decide) _ _ _ rfl (World.ownsRow_nil _ _ _ _) _ 0 _ [] rfl rfl (fun _ => rfl) (fun ad hA j u hj => by simp at hj) (by simp) (by unfold maxLen; omega) (by omega) (by omega) ?_)
          intro v4 w9 hown4 hgr4 _
          have HX3 := Lib.hid ((hgr4.block _ hxq (by simp [Value.ownBlock])).trans HXq.out)
          replace hown4 : w9.ownsRow (w.heap.size + 1) 31 4 v4 0 (([] : List PlAt).flatMap PlAt.cells) := by simpa using hown4
          obtain ⟨A3, c3, rfl⟩ := own_form hown4
          have HO3 := Lib.hid hown4
          have HB3 := Lib.hid (HBq.out.grown hgr4 hsq (by simp [Value.ownBlock]))
          have HE3 : Hid (∀ x ∈ ([] : List PlAt), x.p.sane ∧ Pls.lies w9 w.heap.size x.p.list x.A) := Lib.hid (fun x hx => absurd hx List.not_mem_nil)
          have HMP0 : Hid (([] : List PlAt).map PlAt.p = ([] : List Pl)) := Lib.hid rfl
          clear hown4 hgr4
          have hsz3 := HB3.out.size
          have KW := Lib.hid (ref11_whole (([] : List Pl)) A3 (0) c3 w9 (by rfl) (by have h9 := lies_row HO3.out HE3.out hsz3; rw [HMP0.out] at h9; exact h9) (by simp))
          go_wp2_with fail
          refine KW.out.mono ?_
          rintro e w4 ⟨hor, hb4⟩
          have HB4 := Lib.hid (HB3.out.trans (hb4.mono hsz3))
          have HC4 := Lib.hid hb4
          have hx4 := (hb4.block _ (lt_of_block HX3.out)).trans HX3.out
          try clear f0 g0
          try clear HX
          have hx := hx4
          have HX := Lib.hid hx
          have f0 : ∀ j, w4.cell? ⟨w.heap.size, j, none⟩ = (#[.int .i64 0, .int .i64 0, .string ⟨#[]⟩, .slice none 0 0] : Array Value)[j]? := fun j => by simp [World.cell?, hx]
          have g0 : ∀ j, w4.frozen? ⟨w.heap.size, j, none⟩ = false := fun j => by simp [World.frozen?, hx]
          clear hx
          clear hb4 hx4 KW
          rcases hor with ⟨hm, rfl⟩ | ⟨hm, rfl⟩
          · have hr := Lib.hid (show rWhole (([] : List Pl)) = (0, lPl (([] : List Pl))) by unfold rWhole; rw [if_pos hm])
            clear hm
            go_wp2
            refine bodyPost_ret (fn := Tryz.f17) (v := .tuple #[.agg #[.int .i64 5, .int .i64 0, .string ⟨#[]⟩, .slice A3 (0) c3], .int .i64 0, .string ⟨#[]⟩]) (res3 (p := 4) (q := 5) (r := 6) (ty := 31) (a := ⟨w.heap.size, 0, none⟩) Tryz.results17 rfl (run_loadVar_row (P := Tryz.prog) _ _ _ 31 _ _ _ (blk_set (blk_set (blk_set (blk_set HX.out 0 (.int .i64 5)) 1 (.int .i64 0)) 2 (.string ⟨#[]⟩)) 3 (.slice A3 (0) c3)) Tryz.underlying31 rfl (by kernel_rfl)) rfl rfl) rfl ?_
            rw [hrr2.out, hr.out]
            refine ⟨A3, c3, by rw [whole_out (([] : List Pl)) A3 (0) c3 (by rfl)], ?_, below_set4 HB4.out _ _ _ _⟩
            have h9 := lies_row4 HO3.out HE3.out (Nat.lt_succ_self _) hsz3 HC4.out (.int .i64 5) (.int .i64 0) (.string ⟨#[]⟩) (.slice A3 (0) c3)
            rw [HMP0.out] at h9
            exact h9
          · have hr := Lib.hid (show rWhole (([] : List Pl)) = rBad 2 by unfold rWhole; rw [hm]; rfl)
            clear hm
            go_wp2
            refine bodyPost_ret (fn := Tryz.f17) (v := .tuple #[.agg #[.int .i64 0, .int .i64 0, .string ⟨#[]⟩, .slice none 0 0], .int .i64 2, .string ⟨#[]⟩]) (res3 (p := 4) (q := 5) (r := 6) (ty := 31) (a := ⟨w.heap.size, 0, none⟩) Tryz.results17 rfl (run_loadVar_row (P := Tryz.prog) _ _ _ 31 _ _ _ (blk_set (blk_set (blk_set (blk_set HX.out 0 (.int .i64 0)) 1 (.int .i64 0)) 2 (.string ⟨#[]⟩)) 3 (.slice none 0 0)) Tryz.underlying31 rfl (by kernel_rfl)) rfl rfl) rfl ?_
            rw [hrr2.out, hr.out]
            exact ⟨none, 0, rfl, by unfold rBad zPl Pl.list Pls.lies; trivial, below_set4 HB4.out _ _ _ _⟩
        · have hac2 : ¬ 0 = c0 := fun e => hac e.symm
          go_wp2_with (at_builtin; refine wpList_append_any rfl _ _ 25 rfl (w.heap.size + 1) 31 i0 _ 4 56 Tryz.underlying25 hi hz0 hz1 hz2 rfl (by decide) _ _ _ rfl (World.ownsRow_nil _ _ _ _) _ 0 _ [] rfl rfl (fun _ => rfl) (fun ad hA j u hj => by simp at hj) (by simp) (by unfold maxLen; omega) (by omega) (by omega) ?_)
          intro v4 w9 hown4 hgr4 _
          have HX3 := Lib.hid ((hgr4.block _ hxq (by simp [Value.ownBlock])).trans HXq.out)
          replace hown4 : w9.ownsRow (w.heap.size + 1) 31 4 v4 0 (([] : List PlAt).flatMap PlAt.cells) := by simpa using hown4
          obtain ⟨A3, c3, rfl⟩ := own_form hown4
          have HO3 := Lib.hid hown4
          have HB3 := Lib.hid (HBq.out.grown hgr4 hsq (by simp [Value.ownBlock]))
          have HE3 : Hid (∀ x ∈ ([] : List PlAt), x.p.sane ∧ Pls.lies w9 w.heap.size x.p.list x.A) := Lib.hid (fun x hx => absurd hx List.not_mem_nil)
          have HMP0 : Hid (([] : List PlAt).map PlAt.p = ([] : List Pl)) := Lib.hid rfl
          clear hown4 hgr4
          have hsz3 := HB3.out.size
          have KW := Lib.hid (ref11_whole (([] : List Pl)) A3 (0) c3 w9 (by rfl) (by have h9 := lies_row HO3.out HE3.out hsz3; rw [HMP0.out] at h9; exact h9) (by simp))
          go_wp2_with fail
          refine KW.out.mono ?_
          rintro e w4 ⟨hor, hb4⟩
          have HB4 := Lib.hid (HB3.out.trans (hb4.mono hsz3))
          have HC4 := Lib.hid hb4
          have hx4 := (hb4.block _ (lt_of_block HX3.out)).trans HX3.out
          try clear f0 g0
          try clear HX
          have hx := hx4
          have HX := Lib.hid hx
          have f0 : ∀ j, w4.cell? ⟨w.heap.size, j, none⟩ = (#[.int .i64 0, .int .i64 0, .string ⟨#[]⟩, .slice none 0 0] : Array Value)[j]? := fun j => by simp [World.cell?, hx]
          have g0 : ∀ j, w4.frozen? ⟨w.heap.size, j, none⟩ = false := fun j => by simp [World.frozen?, hx]
          clear hx
          clear hb4 hx4 KW
          rcases hor with ⟨hm, rfl⟩ | ⟨hm, rfl⟩
          · have hr := Lib.hid (show rWhole (([] : List Pl)) = (0, lPl (([] : List Pl))) by unfold rWhole; rw [if_pos hm])
            clear hm
            go_wp2
            refine bodyPost_ret (fn := Tryz.f17) (v := .tuple #[.agg #[.int .i64 5, .int .i64 0, .string ⟨#[]⟩, .slice A3 (0) c3], .int .i64 0, .string ⟨#[]⟩]) (res3 (p := 4) (q := 5) (r := 6) (ty := 31) (a := ⟨w.heap.size, 0, none⟩) Tryz.results17 rfl (run_loadVar_row (P := Tryz.prog) _ _ _ 31 _ _ _ (blk_set (blk_set (blk_set (blk_set HX.out 0 (.int .i64 5)) 1 (.int .i64 0)) 2 (.string ⟨#[]⟩)) 3 (.slice A3 (0) c3)) Tryz.underlying31 rfl (by kernel_rfl)) rfl rfl) rfl ?_
            rw [hrr2.out, hr.out]
            refine ⟨A3, c3, by rw [whole_out (([] : List Pl)) A3 (0) c3 (by rfl)], ?_, below_set4 HB4.out _ _ _ _⟩
            have h9 := lies_row4 HO3.out HE3.out (Nat.lt_succ_self _) hsz3 HC4.out (.int .i64 5) (.int .i64 0) (.string ⟨#[]⟩) (.slice A3 (0) c3)
            rw [HMP0.out] at h9
            exact h9
          · have hr := Lib.hid (show rWhole (([] : List Pl)) = rBad 2 by unfold rWhole; rw [hm]; rfl)
            clear hm
            go_wp2
            refine bodyPost_ret (fn := Tryz.f17) (v := .tuple #[.agg #[.int .i64 0, .int .i64 0, .string ⟨#[]⟩, .slice none 0 0], .int .i64 2, .string ⟨#[]⟩]) (res3 (p := 4) (q := 5) (r := 6) (ty := 31) (a := ⟨w.heap.size, 0, none⟩) Tryz.results17 rfl (run_loadVar_row (P := Tryz.prog) _ _ _ 31 _ _ _ (blk_set (blk_set (blk_set (blk_set HX.out 0 (.int .i64 0)) 1 (.int .i64 0)) 2 (.string ⟨#[]⟩)) 3 (.slice none 0 0)) Tryz.underlying31 rfl (by kernel_rfl)) rfl rfl) rfl ?_
            rw [hrr2.out, hr.out]
            exact ⟨none, 0, rfl, by unfold rBad zPl Pl.list Pls.lies; trivial, below_set4 HB4.out _ _ _ _⟩
    · obtain ⟨b2, o2, rfl, hbb2, hcs⟩ := hm3 hl1
      have HCS := Lib.hid hcs
      clear h1 h2 h3 hm3 hcs hl1 hm1 hm2
      by_cases hac : a = c0
      · have hma : m = a := by omega
        have hnil := Lib.hid (show (l.take m).drop a = [] from List.eq_nil_of_length_eq_zero (by have := HLL2.out; omega))
        go_wp2_with (at_builtin; refine wpList_append_any rfl _ _ 25 rfl (w.heap.size + 1) 31 i0 _ 4 56 Tryz.underlying25 hi hz0 hz1 hz2 rfl (by decide) _ _ _ rfl (World.ownsRow_nil _ _ _ _) _ 0 _ [] rfl rfl (fun _ => rfl) (fun ad hA j u hj => by simp at hj) (by simp) (by unfold maxLen; omega) (by omega) (by omega) ?_)
        intro v4 w9 hown4 hgr4 _
        have HX3 := Lib.hid ((hgr4.block _ hxq (by simp [Value.ownBlock])).trans HXq.out)
        replace hown4 : w9.ownsRow (w.heap.size + 1) 31 4 v4 0 (([] : List PlAt).flatMap PlAt.cells) := by simpa using hown4
        obtain ⟨A3, c3, rfl⟩ := own_form hown4
        have HO3 := Lib.hid hown4
        have HB3 := Lib.hid (HBq.out.grown hgr4 hsq (by simp [Value.ownBlock]))
        have HE3 : Hid (∀ x ∈ ([] : List PlAt), x.p.sane ∧ Pls.lies w9 w.heap.size x.p.list x.A) := Lib.hid (fun x hx => absurd hx List.not_mem_nil)
        have HMP0 : Hid (([] : List PlAt).map PlAt.p = ([] : List Pl)) := Lib.hid rfl
        clear hown4 hgr4
        have hsz3 := HB3.out.size
        have KW := Lib.hid (ref11_whole (([] : List Pl)) A3 (0) c3 w9 (by rfl) (by have h9 := lies_row HO3.out HE3.out hsz3; rw [HMP0.out] at h9; exact h9) (by simp))
        go_wp2_with fail
        refine KW.out.mono ?_
        rintro e w4 ⟨hor, hb4⟩
        have HB4 := Lib.hid (HB3.out.trans (hb4.mono hsz3))
        have HC4 := Lib.hid hb4
        have hx4 := (hb4.block _ (lt_of_block HX3.out)).trans HX3.out
        try clear f0 g0
        try clear HX
        have hx := hx4
        have HX := Lib.hid hx
        have f0 : ∀ j, w4.cell? ⟨w.heap.size, j, none⟩ = (#[.int .i64 0, .int .i64 0, .string ⟨#[]⟩, .slice none 0 0] : Array Value)[j]? := fun j => by simp [World.cell?, hx]
        have g0 : ∀ j, w4.frozen? ⟨w.heap.size, j, none⟩ = false := fun j => by simp [World.frozen?, hx]
        clear hx
        clear hb4 hx4 KW
        rcases hor with ⟨hm, rfl⟩ | ⟨hm, rfl⟩
        · have hr := Lib.hid (show rWhole (([] : List Pl)) = (0, lPl (([] : List Pl))) by unfold rWhole; rw [if_pos hm])
          clear hm
          go_wp2
          refine bodyPost_ret (fn := Tryz.f17) (v := .tuple #[.agg #[.int .i64 5, .int .i64 0, .string ⟨#[]⟩, .slice A3 (0) c3], .int .i64 0, .string ⟨#[]⟩]) (res3 (p := 4) (q := 5) (r := 6) (ty := 31) (a := ⟨w.heap.size, 0, none⟩) Tryz.results17 rfl (run_loadVar_row (P := Tryz.prog) _ _ _ 31 _ _ _ (blk_set (blk_set (blk_set (blk_set HX.out 0 (.int .i64 5)) 1 (.int .i64 0)) 2 (.string ⟨#[]⟩)) 3 (.slice A3 (0) c3)) Tryz.underlying31 rfl (by kernel_rfl)) rfl rfl) rfl ?_
          rw [hrr.out, hnil.out, hr.out]
          refine ⟨A3, c3, by rw [whole_out (([] : List Pl)) A3 (0) c3 (by rfl)], ?_, below_set4 HB4.out _ _ _ _⟩
          have h9 := lies_row4 HO3.out HE3.out (Nat.lt_succ_self _) hsz3 HC4.out (.int .i64 5) (.int .i64 0) (.string ⟨#[]⟩) (.slice A3 (0) c3)
          rw [HMP0.out] at h9
          exact h9
        · have hr := Lib.hid (show rWhole (([] : List Pl)) = rBad 2 by unfold rWhole; rw [hm]; rfl)
          clear hm
          go_wp2
          refine bodyPost_ret (fn := Tryz.f17) (v := .tuple #[.agg #[.int .i64 0, .int .i64 0, .string ⟨#[]⟩, .slice none 0 0], .int .i64 2, .string ⟨#[]⟩]) (res3 (p := 4) (q := 5) (r := 6) (ty := 31) (a := ⟨w.heap.size, 0, none⟩) Tryz.results17 rfl (run_loadVar_row (P := Tryz.prog) _ _ _ 31 _ _ _ (blk_set (blk_set (blk_set (blk_set HX.out 0 (.int .i64 0)) 1 (.int .i64 0)) 2 (.string ⟨#[]⟩)) 3 (.slice none 0 0)) Tryz.underlying31 rfl (by kernel_rfl)) rfl rfl) rfl ?_
          rw [hrr.out, hnil.out, hr.out]
          exact ⟨none, 0, rfl, by unfold rBad zPl Pl.list Pls.lies; trivial, below_set4 HB4.out _ _ _ _⟩
      · have hca : c0 ≠ a := fun e => hac e.symm
        go_wp2_with (at_builtin; refine wpList_append_any rfl _ _ 25 rfl (w.heap.size + 1) 31 i0 _ 4 56 Tryz.underlying25 hi hz0 hz1 hz2 rfl (by decide) _ _ _ rfl (World.ownsRow_nil _ _ _ _) (some ⟨b2, o2 + a * 4, none⟩) (m - a) (c0 - a) (((us.take m).drop a).flatMap PlAt.cells) rfl (by rw [plat_len, HUL.out]) (fun h => by cases h) (fun ad hA j u hj => by injection hA with hA; subst hA; rw [Addr.add_lit, Nat.add_assoc]; exact HCS.out _ u (piece_cells hj)) (plat_one _) (by unfold maxLen; omega) (by omega) (by omega) ?_)
        intro v4 w9 hown4 hgr4 _
        have HX3 := Lib.hid ((hgr4.block _ hxq (by simp [Value.ownBlock])).trans HXq.out)
        replace hown4 : w9.ownsRow (w.heap.size + 1) 31 4 v4 ((m - a)) (((us.take m).drop a).flatMap PlAt.cells) := by simpa using hown4
        obtain ⟨A3, c3, rfl⟩ := own_form hown4
        have HO3 := Lib.hid hown4
        have HB3 := Lib.hid (HBq.out.grown hgr4 hsq (by simp [Value.ownBlock]))
        have HE3 := Lib.hid (fun x hx => ats3 w9 HB3.out x hx)
        clear hown4 hgr4
        have hsz3 := HB3.out.size
        have KW := Lib.hid (ref11_whole ((l.take m).drop a) A3 (m - a) c3 w9 (by exact HLL2.out.symm) (by have h9 := lies_row HO3.out HE3.out hsz3; rw [HMP.out] at h9; exact h9) (by rw [HLL2.out]; omega))
        go_wp2_with fail
        refine KW.out.mono ?_
        rintro e w4 ⟨hor, hb4⟩
        have HB4 := Lib.hid (HB3.out.trans (hb4.mono hsz3))
        have HC4 := Lib.hid hb4
        have hx4 := (hb4.block _ (lt_of_block HX3.out)).trans HX3.out
        try clear f0 g0
        try clear HX
        have hx := hx4
        have HX := Lib.hid hx
        have f0 : ∀ j, w4.cell? ⟨w.heap.size, j, none⟩ = (#[.int .i64 0, .int .i64 0, .string ⟨#[]⟩, .slice none 0 0] : Array Value)[j]? := fun j => by simp [World.cell?, hx]
        have g0 : ∀ j, w4.frozen? ⟨w.heap.size, j, none⟩ = false := fun j => by simp [World.frozen?, hx]
        clear hx
        clear hb4 hx4 KW
        rcases hor with ⟨hm, rfl⟩ | ⟨hm, rfl⟩
        · have hr := Lib.hid (show rWhole ((l.take m).drop a) = (0, lPl ((l.take m).drop a)) by unfold rWhole; rw [if_pos hm])
          clear hm
          go_wp2
          refine bodyPost_ret (fn := Tryz.f17) (v := .tuple #[.agg #[.int .i64 5, .int .i64 0, .string ⟨#[]⟩, .slice A3 (m - a) c3], .int .i64 0, .string ⟨#[]⟩]) (res3 (p := 4) (q := 5) (r := 6) (ty := 31) (a := ⟨w.heap.size, 0, none⟩) Tryz.results17 rfl (run_loadVar_row (P := Tryz.prog) _ _ _ 31 _ _ _ (blk_set (blk_set (blk_set (blk_set HX.out 0 (.int .i64 5)) 1 (.int .i64 0)) 2 (.string ⟨#[]⟩)) 3 (.slice A3 (m - a) c3)) Tryz.underlying31 rfl (by kernel_rfl)) rfl rfl) rfl ?_
          rw [hrr.out, hr.out]
          refine ⟨A3, c3, by rw [whole_out ((l.take m).drop a) A3 (m - a) c3 (by exact HLL2.out.symm)], ?_, below_set4 HB4.out _ _ _ _⟩
          have h9 := lies_row4 HO3.out HE3.out (Nat.lt_succ_self _) hsz3 HC4.out (.int .i64 5) (.int .i64 0) (.string ⟨#[]⟩) (.slice A3 (m - a) c3)
          rw [HMP.out] at h9
          exact h9
        · have hr := Lib.hid (show rWhole ((l.take m).drop a) = rBad 2 by unfold rWhole; rw [hm]; rfl)
          clear hm
          go_wp2
          refine bodyPost_ret (fn := Tryz.f17) (v := .tuple #[.agg #[.int .i64 0, .int .i64 0, .string ⟨#[]⟩, .slice none 0 0], .int .i64 2, .string ⟨#[]⟩]) (res3 (p := 4) (q := 5) (r := 6) (ty := 31) (a := ⟨w.heap.size, 0, none⟩) Tryz.results17 rfl (run_loadVar_row (P := Tryz.prog) _ _ _ 31 _ _ _ (blk_set (blk_set (blk_set (blk_set HX.out 0 (.int .i64 0)) 1 (.int .i64 0)) 2 (.string ⟨#[]⟩)) 3 (.slice none 0 0)) Tryz.underlying31 rfl (by kernel_rfl)) rfl rfl) rfl ?_
          rw [hrr.out, hr.out]
          exact ⟨none, 0, rfl, by unfold rBad zPl Pl.list Pls.lies; trivial, below_set4 HB4.out _ _ _ _⟩
  · have hrr := Lib.hid (show rCutN l x y = rBad 23 by unfold rCutN; rw [if_neg hok])
    by_cases h1 : x < 0
    · have t1 : decide (x < 0) = true := by simpa using h1
      clear hok
      go_wp2
      refine bodyPost_ret (fn := Tryz.f17) (v := .tuple #[.agg #[.int .i64 0, .int .i64 0, .string ⟨#[]⟩, .slice none 0 0], .int .i64 23, .string ⟨#[]⟩]) (res3 (p := 4) (q := 5) (r := 6) (ty := 31) (a := ⟨w.heap.size, 0, none⟩) Tryz.results17 rfl (run_loadVar_row (P := Tryz.prog) _ _ _ 31 _ _ _ (blk_set (blk_set (blk_set (blk_set HX.out 0 (.int .i64 0)) 1 (.int .i64 0)) 2 (.string ⟨#[]⟩)) 3 (.slice none 0 0)) Tryz.underlying31 rfl (by kernel_rfl)) rfl rfl) rfl ?_
      rw [hrr.out]
      exact ⟨none, 0, rfl, by unfold rBad zPl Pl.list Pls.lies; trivial, below_set4 HBq.out _ _ _ _⟩
    · have t1 : decide (x < 0) = false := by simpa using h1
      by_cases h2 : y < x
      · have t2 : decide (y < x) = true := by simpa using h2
        clear hok
        go_wp2
        refine bodyPost_ret (fn := Tryz.f17) (v := .tuple #[.agg #[.int .i64 0, .int .i64 0, .string ⟨#[]⟩, .slice none 0 0], .int .i64 23, .string ⟨#[]⟩]) (res3 (p := 4) (q := 5) (r := 6) (ty := 31) (a := ⟨w.heap.size, 0, none⟩) Tryz.results17 rfl (run_loadVar_row (P := Tryz.prog) _ _ _ 31 _ _ _ (blk_set (blk_set (blk_set (blk_set HX.out 0 (.int .i64 0)) 1 (.int .i64 0)) 2 (.string ⟨#[]⟩)) 3 (.slice none 0 0)) Tryz.underlying31 rfl (by kernel_rfl)) rfl rfl) rfl ?_
        rw [hrr.out]
        exact ⟨none, 0, rfl, by unfold rBad zPl Pl.list Pls.lies; trivial, below_set4 HBq.out _ _ _ _⟩
      · have t2 : decide (y < x) = false := by simpa using h2
        have t3 : decide ((l.length : Int) < y) = true := by simp; omega
        clear hok h1 h2
        go_wp2
        refine bodyPost_ret (fn := Tryz.f17) (v := .tuple #[.agg #[.int .i64 0, .int .i64 0, .string ⟨#[]⟩, .slice none 0 0], .int .i64 23, .string ⟨#[]⟩]) (res3 (p := 4) (q := 5) (r := 6) (ty := 31) (a := ⟨w.heap.size, 0, none⟩) Tryz.results17 rfl (run_loadVar_row (P := Tryz.prog) _ _ _ 31 _ _ _ (blk_set (blk_set (blk_set (blk_set HX.out 0 (.int .i64 0)) 1 (.int .i64 0)) 2 (.string ⟨#[]⟩)) 3 (.slice none 0 0)) Tryz.underlying31 rfl (by kernel_rfl)) rfl rfl) rfl ?_
        rw [hrr.out]
        exact ⟨none, 0, rfl, by unfold rBad zPl Pl.list Pls.lies; trivial, below_set4 HBq.out _ _ _ _⟩
end Go.Proofs.YtcldbjgikkfnbaaGreatDoor
