/-
  Texts of a proof in one: RefNo11, RefGood11. Conditions: each names its own.
-/
import Derived.Test.YtcldbjgikkfnbaaGreatDoorCRefOps11
import Derived.Test.YtcldbjgikkfnbaaGreatDoorCListOps
import Derived.Deep.RegionLaw
/-
  espalierref11.Work: what is refused: walks. Written by a program of mine (gen_refwork11.py). Conditions: the plain values lie in memory.
-/
namespace Go.Proofs.YtcldbjgikkfnbaaGreatDoor
open Go.RowKit
set_option linter.unusedVariables false

theorem toList_sameL {a b : ByteArray} (h : (a.toList == b.toList) = true) : a = b := by
  have h1 : a.toList = b.toList := by simpa using h
  rw [Lib.toList_data, Lib.toList_data] at h1
  obtain ⟨⟨x⟩⟩ := a
  obtain ⟨⟨y⟩⟩ := b
  simp at h1
  rw [h1]
theorem may_of (ps : List Pl) : mayV ln_of ps listRows = if ps.all Pl.mayB = true then 0 else 1 := by
  unfold listRows mayV
  rw [if_pos ⟨by kernel_rfl, by kernel_rfl⟩]
  rw [if_neg (by rintro (h | h); exact absurd (show (ps.length : Int) < 0 from h) (by omega); exact h.1 rfl)]
theorem may_size (ps : List Pl) : mayV ln_size ps listRows = if ps.length = 1 then (if ps.all Pl.mayB = true then 0 else 1) else 11 := by
  unfold listRows mayV
  rw [if_neg (fun h => absurd h.1 (by rw [Bool.not_eq_true]; kernel_rfl))]
  unfold mayV
  rw [if_pos ⟨by kernel_rfl, by kernel_rfl⟩]
  by_cases h : ps.length = 1
  · rw [if_pos h, if_neg (by simp [h])]
  · rw [if_neg h, if_pos (by simp; omega)]
theorem may_at (ps : List Pl) : mayV ln_at ps listRows = if ps.length = 2 then (if ps.all Pl.mayB = true then 0 else 1) else 11 := by
  unfold listRows mayV
  rw [if_neg (fun h => absurd h.1 (by rw [Bool.not_eq_true]; kernel_rfl))]
  unfold mayV
  rw [if_neg (fun h => absurd h.1 (by rw [Bool.not_eq_true]; kernel_rfl))]
  unfold mayV
  rw [if_pos ⟨by kernel_rfl, by kernel_rfl⟩]
  by_cases h : ps.length = 2
  · rw [if_pos h, if_neg (by simp [h])]
  · rw [if_neg h, if_pos (by simp; omega)]
theorem may_join (ps : List Pl) : mayV ln_join ps listRows = if ps.length = 2 then (if ps.all Pl.mayB = true then 0 else 1) else 11 := by
  unfold listRows mayV
  rw [if_neg (fun h => absurd h.1 (by rw [Bool.not_eq_true]; kernel_rfl))]
  unfold mayV
  rw [if_neg (fun h => absurd h.1 (by rw [Bool.not_eq_true]; kernel_rfl))]
  unfold mayV
  rw [if_neg (fun h => absurd h.1 (by rw [Bool.not_eq_true]; kernel_rfl))]
  unfold mayV
  rw [if_pos ⟨by kernel_rfl, by kernel_rfl⟩]
  by_cases h : ps.length = 2
  · rw [if_pos h, if_neg (by simp [h])]
  · rw [if_neg h, if_pos (by simp; omega)]
theorem may_add (ps : List Pl) : mayV ln_add ps listRows = if ps.length = 2 then (if ps.all Pl.mayB = true then 0 else 1) else 11 := by
  unfold listRows mayV
  rw [if_neg (fun h => absurd h.1 (by rw [Bool.not_eq_true]; kernel_rfl))]
  unfold mayV
  rw [if_neg (fun h => absurd h.1 (by rw [Bool.not_eq_true]; kernel_rfl))]
  unfold mayV
  rw [if_neg (fun h => absurd h.1 (by rw [Bool.not_eq_true]; kernel_rfl))]
  unfold mayV
  rw [if_neg (fun h => absurd h.1 (by rw [Bool.not_eq_true]; kernel_rfl))]
  unfold mayV
  rw [if_pos ⟨by kernel_rfl, by kernel_rfl⟩]
  by_cases h : ps.length = 2
  · rw [if_pos h, if_neg (by simp [h])]
  · rw [if_neg h, if_pos (by simp; omega)]
theorem may_cut (ps : List Pl) : mayV ln_cut ps listRows = if ps.length = 3 then (if ps.all Pl.mayB = true then 0 else 1) else 11 := by
  unfold listRows mayV
  rw [if_neg (fun h => absurd h.1 (by rw [Bool.not_eq_true]; kernel_rfl))]
  unfold mayV
  rw [if_neg (fun h => absurd h.1 (by rw [Bool.not_eq_true]; kernel_rfl))]
  unfold mayV
  rw [if_neg (fun h => absurd h.1 (by rw [Bool.not_eq_true]; kernel_rfl))]
  unfold mayV
  rw [if_neg (fun h => absurd h.1 (by rw [Bool.not_eq_true]; kernel_rfl))]
  unfold mayV
  rw [if_neg (fun h => absurd h.1 (by rw [Bool.not_eq_true]; kernel_rfl))]
  unfold mayV
  rw [if_pos ⟨by kernel_rfl, by kernel_rfl⟩]
  by_cases h : ps.length = 3
  · rw [if_pos h, if_neg (by simp [h])]
  · rw [if_neg h, if_pos (by simp; omega)]
theorem may_turn (ps : List Pl) : mayV ln_turn ps listRows = if ps.length = 1 then (if ps.all Pl.mayB = true then 0 else 1) else 11 := by
  unfold listRows mayV
  rw [if_neg (fun h => absurd h.1 (by rw [Bool.not_eq_true]; kernel_rfl))]
  unfold mayV
  rw [if_neg (fun h => absurd h.1 (by rw [Bool.not_eq_true]; kernel_rfl))]
  unfold mayV
  rw [if_neg (fun h => absurd h.1 (by rw [Bool.not_eq_true]; kernel_rfl))]
  unfold mayV
  rw [if_neg (fun h => absurd h.1 (by rw [Bool.not_eq_true]; kernel_rfl))]
  unfold mayV
  rw [if_neg (fun h => absurd h.1 (by rw [Bool.not_eq_true]; kernel_rfl))]
  unfold mayV
  rw [if_neg (fun h => absurd h.1 (by rw [Bool.not_eq_true]; kernel_rfl))]
  unfold mayV
  rw [if_pos ⟨by kernel_rfl, by kernel_rfl⟩]
  by_cases h : ps.length = 1
  · rw [if_pos h, if_neg (by simp [h])]
  · rw [if_neg h, if_pos (by simp; omega)]
theorem may_count (ps : List Pl) : mayV ln_count ps listRows = if ps.length = 1 then (if ps.all Pl.mayB = true then 0 else 1) else 11 := by
  unfold listRows mayV
  rw [if_neg (fun h => absurd h.1 (by rw [Bool.not_eq_true]; kernel_rfl))]
  unfold mayV
  rw [if_neg (fun h => absurd h.1 (by rw [Bool.not_eq_true]; kernel_rfl))]
  unfold mayV
  rw [if_neg (fun h => absurd h.1 (by rw [Bool.not_eq_true]; kernel_rfl))]
  unfold mayV
  rw [if_neg (fun h => absurd h.1 (by rw [Bool.not_eq_true]; kernel_rfl))]
  unfold mayV
  rw [if_neg (fun h => absurd h.1 (by rw [Bool.not_eq_true]; kernel_rfl))]
  unfold mayV
  rw [if_neg (fun h => absurd h.1 (by rw [Bool.not_eq_true]; kernel_rfl))]
  unfold mayV
  rw [if_neg (fun h => absurd h.1 (by rw [Bool.not_eq_true]; kernel_rfl))]
  unfold mayV
  rw [if_pos ⟨by kernel_rfl, by kernel_rfl⟩]
  by_cases h : ps.length = 1
  · rw [if_pos h, if_neg (by simp [h])]
  · rw [if_neg h, if_pos (by simp; omega)]
theorem may_otherL {op : ByteArray} {ps : List Pl} (h0 : op ≠ ln_of) (h1 : op ≠ ln_size) (h2 : op ≠ ln_at) (h3 : op ≠ ln_join) (h4 : op ≠ ln_add) (h5 : op ≠ ln_cut) (h6 : op ≠ ln_turn) (h7 : op ≠ ln_count) : mayV op ps listRows = 1 := by
  have e0 : ¬ ((ln_of.toList == op.toList) = true) := fun h => h0 (toList_sameL h).symm
  have e1 : ¬ ((ln_size.toList == op.toList) = true) := fun h => h1 (toList_sameL h).symm
  have e2 : ¬ ((ln_at.toList == op.toList) = true) := fun h => h2 (toList_sameL h).symm
  have e3 : ¬ ((ln_join.toList == op.toList) = true) := fun h => h3 (toList_sameL h).symm
  have e4 : ¬ ((ln_add.toList == op.toList) = true) := fun h => h4 (toList_sameL h).symm
  have e5 : ¬ ((ln_cut.toList == op.toList) = true) := fun h => h5 (toList_sameL h).symm
  have e6 : ¬ ((ln_turn.toList == op.toList) = true) := fun h => h6 (toList_sameL h).symm
  have e7 : ¬ ((ln_count.toList == op.toList) = true) := fun h => h7 (toList_sameL h).symm
  unfold listRows mayV
  rw [if_neg (fun h => e0 h.1)]
  unfold mayV
  rw [if_neg (fun h => e1 h.1)]
  unfold mayV
  rw [if_neg (fun h => e2 h.1)]
  unfold mayV
  rw [if_neg (fun h => e3 h.1)]
  unfold mayV
  rw [if_neg (fun h => e4 h.1)]
  unfold mayV
  rw [if_neg (fun h => e5 h.1)]
  unfold mayV
  rw [if_neg (fun h => e6 h.1)]
  unfold mayV
  rw [if_neg (fun h => e7 h.1)]
  unfold mayV
  rw [if_neg (fun h => absurd h.2 (by rw [Bool.not_eq_true]; kernel_rfl))]
  unfold mayV
  rw [if_neg (fun h => absurd h.2 (by rw [Bool.not_eq_true]; kernel_rfl))]
  unfold mayV
  rfl
set_option maxRecDepth 100000 in
set_option maxHeartbeats 4000000 in
theorem ref11_Work_no (op : ByteArray) (ps : List Pl) (n : Int) (hn : mayV op ps listRows = n) (h0 : n ≠ 0) (A : Option Addr) (c : Nat) (w : World) (hlen : ps.length * 56 ≤ 140737488351232) (hl : Pls.lies w w.heap.size ps A) :
    Calls Tryz.prog 17 #[.string op, .slice A ps.length c] w (ROut (rBad n) w) := by
  have HB := Lib.hid ((Below.refl w.heap.size w).alloc (Nat.le_refl _) (.cells #[.int .i64 0, .int .i64 0, .string ⟨#[]⟩, .slice none 0 0] 31))
  have KM := Lib.hid (ref11_may op ps A c _ hlen (hl.below HB.out HB.out.size))
  rw [hn] at KM
  have hnb : (n == 0) = false := by simpa using h0
  clear hl
  go_enter Tryz.func17, Tryz.ntmps17
  go_wp2_with fail
  refine KM.out.mono ?_
  rintro e w1 ⟨rfl, hb1⟩
  have hx := (hb1.block w.heap.size (by simp)).trans (heap_alloc_new w _)
  have HX := Lib.hid hx
  have f0 : ∀ j, w1.cell? ⟨w.heap.size, j, none⟩ = (#[.int .i64 0, .int .i64 0, .string ⟨#[]⟩, .slice none 0 0] : Array Value)[j]? := fun j => by simp [World.cell?, hx]
  have g0 : ∀ j, w1.frozen? ⟨w.heap.size, j, none⟩ = false := fun j => by simp [World.frozen?, hx]
  have HB1 := Lib.hid (HB.out.trans (hb1.mono HB.out.size))
  clear hb1 hx KM
  go_wp2
  exact bodyPost_ret (fn := Tryz.f17) (v := .tuple #[.agg #[.int .i64 0, .int .i64 0, .string ⟨#[]⟩, .slice none 0 0], .int .i64 n, .string ⟨#[]⟩]) (res3 (p := 4) (q := 5) (r := 6) (ty := 31) (a := ⟨w.heap.size, 0, none⟩) Tryz.results17 rfl (run_loadVar_row (P := Tryz.prog) _ _ _ 31 _ _ _ (blk_set (blk_set (blk_set (blk_set HX.out 0 (.int .i64 0)) 1 (.int .i64 0)) 2 (.string ⟨#[]⟩)) 3 (.slice none 0 0)) Tryz.underlying31 rfl (by kernel_rfl)) rfl rfl) rfl ⟨none, 0, rfl, by unfold rBad zPl Pl.list Pls.lies; trivial, below_set4 HB1.out _ _ _ _⟩
set_option maxRecDepth 100000 in
set_option maxHeartbeats 4000000 in
/-- Values of other kinds. -/
theorem ref11_Work_kind (op : ByteArray) (ps : List Pl) (hn : mayV op ps listRows = 0) (A : Option Addr) (c : Nat) (w : World) (hlen : ps.length * 56 ≤ 140737488351232) (hl : Pls.lies w w.heap.size ps A)
    (hk : ∀ w', Pls.lies w' w'.heap.size ps A → Calls Tryz.prog 32 #[.string op, .slice A ps.length c] w' (Bel (.bool false) w')) :
    Calls Tryz.prog 17 #[.string op, .slice A ps.length c] w (ROut (rBad 20) w) := by
  have HB := Lib.hid ((Below.refl w.heap.size w).alloc (Nat.le_refl _) (.cells #[.int .i64 0, .int .i64 0, .string ⟨#[]⟩, .slice none 0 0] 31))
  have KM := Lib.hid (ref11_may op ps A c _ hlen (hl.below HB.out HB.out.size))
  have HK := Lib.hid hk
  have HL := Lib.hid hl
  rw [hn] at KM
  clear hl hk
  go_enter Tryz.func17, Tryz.ntmps17
  go_wp2_with fail
  refine KM.out.mono ?_
  rintro e w1 ⟨rfl, hb1⟩
  have HX1 := Lib.hid ((hb1.block w.heap.size (by simp)).trans (heap_alloc_new w _))
  have HB1 := Lib.hid (HB.out.trans (hb1.mono HB.out.size))
  clear hb1 KM
  go_wp2_with fail
  refine (HK.out w1 (HL.out.below HB1.out HB1.out.size)).mono ?_
  rintro e w2 ⟨rfl, hb2⟩
  have hx := (hb2.block w.heap.size (lt_of_block HX1.out)).trans HX1.out
  have HX := Lib.hid hx
  have f0 : ∀ j, w2.cell? ⟨w.heap.size, j, none⟩ = (#[.int .i64 0, .int .i64 0, .string ⟨#[]⟩, .slice none 0 0] : Array Value)[j]? := fun j => by simp [World.cell?, hx]
  have g0 : ∀ j, w2.frozen? ⟨w.heap.size, j, none⟩ = false := fun j => by simp [World.frozen?, hx]
  have HB2 := Lib.hid (HB1.out.trans (hb2.mono HB1.out.size))
  clear hb2 hx
  go_wp2
  exact bodyPost_ret (fn := Tryz.f17) (v := .tuple #[.agg #[.int .i64 0, .int .i64 0, .string ⟨#[]⟩, .slice none 0 0], .int .i64 20, .string ⟨#[]⟩]) (res3 (p := 4) (q := 5) (r := 6) (ty := 31) (a := ⟨w.heap.size, 0, none⟩) Tryz.results17 rfl (run_loadVar_row (P := Tryz.prog) _ _ _ 31 _ _ _ (blk_set (blk_set (blk_set (blk_set HX.out 0 (.int .i64 0)) 1 (.int .i64 0)) 2 (.string ⟨#[]⟩)) 3 (.slice none 0 0)) Tryz.underlying31 rfl (by kernel_rfl)) rfl rfl) rfl ⟨none, 0, rfl, by unfold rBad zPl Pl.list Pls.lies; trivial, below_set4 HB2.out _ _ _ _⟩
end Go.Proofs.YtcldbjgikkfnbaaGreatDoor

/-
  espalierref11.Work at its operations, where the values are of the kinds that are asked: walks. Written by a program of mine (gen_refgood11.py). Conditions: the plain values lie in memory.
-/
namespace Go.Proofs.YtcldbjgikkfnbaaGreatDoor
open Go.RowKit
set_option linter.unusedVariables false

theorem lies_set4 {w w2 : World} {l : List Pl} {A : Option Addr} (h : Pls.lies w2 w.heap.size l A) (hs : w.heap.size ≤ w2.heap.size) (x0 x1 x2 x3 : Value) : Pls.lies ((((w2.setCell ⟨w.heap.size, 0, none⟩ x0).setCell ⟨w.heap.size, 1, none⟩ x1).setCell ⟨w.heap.size, 2, none⟩ x2).setCell ⟨w.heap.size, 3, none⟩ x3) ((((w2.setCell ⟨w.heap.size, 0, none⟩ x0).setCell ⟨w.heap.size, 1, none⟩ x1).setCell ⟨w.heap.size, 2, none⟩ x2).setCell ⟨w.heap.size, 3, none⟩ x3).heap.size l A := by
  refine h.keep (fun b o hb => ?_) (by rw [size_set, size_set, size_set, size_set]; exact hs)
  have hne : b ≠ w.heap.size := by omega
  rw [cell_far _ _ (p := ⟨w.heap.size, 3, none⟩) hne, cell_far _ _ (p := ⟨w.heap.size, 2, none⟩) hne, cell_far _ _ (p := ⟨w.heap.size, 1, none⟩) hne, cell_far _ _ (p := ⟨w.heap.size, 0, none⟩) hne]
/-- A list in a row of the call's own, its values in old memory, behind the store of the result. -/
theorem lies_row4 {w w1 w2 : World} {base n c : Nat} {A : Option Addr} {us : List PlAt} (h : w1.ownsRow base 31 4 (.slice A n c) n (us.flatMap PlAt.cells)) (hs : ∀ x ∈ us, x.p.sane ∧ Pls.lies w1 w.heap.size x.p.list x.A) (hb : w.heap.size < base) (hs1 : w.heap.size ≤ w1.heap.size) (hbel : Below w1.heap.size w1 w2) (x0 x1 x2 x3 : Value) :
    Pls.lies ((((w2.setCell ⟨w.heap.size, 0, none⟩ x0).setCell ⟨w.heap.size, 1, none⟩ x1).setCell ⟨w.heap.size, 2, none⟩ x2).setCell ⟨w.heap.size, 3, none⟩ x3) ((((w2.setCell ⟨w.heap.size, 0, none⟩ x0).setCell ⟨w.heap.size, 1, none⟩ x1).setCell ⟨w.heap.size, 2, none⟩ x2).setCell ⟨w.heap.size, 3, none⟩ x3).heap.size (us.map PlAt.p) A := by
  have hsit := (sits_own (B := w.heap.size) h hs).keep (w' := w2) (fun b o hb' => hbel.cell (p := ⟨b, o, none⟩) (by rcases hb' with h1 | h1; exact Nat.lt_of_lt_of_le h1 hs1; exact (h.lt b h1).2)) (fun _ h => h)
  refine Pls.sits.lies (S := fun b => b < w.heap.size ∨ (Value.slice A n c).ownBlock = some b) (fun b hb' => ?_) _ _ (hsit.keep (fun b o hb' => ?_) (fun _ h => h))
  · rw [size_set, size_set, size_set, size_set]
    have := hbel.size
    rcases hb' with h1 | h1
    · omega
    · have := (h.lt b h1).2; omega
  · have hne : b ≠ w.heap.size := by
      rcases hb' with h1 | h1
      · omega
      · have := (h.lt b h1).1; omega
    rw [cell_far _ _ (p := ⟨w.heap.size, 3, none⟩) hne, cell_far _ _ (p := ⟨w.heap.size, 2, none⟩) hne, cell_far _ _ (p := ⟨w.heap.size, 1, none⟩) hne, cell_far _ _ (p := ⟨w.heap.size, 0, none⟩) hne]
/-- The same of a row's values, that all lie in w2 where they lay in w1. -/
theorem lies_row {w w1 : World} {base n c : Nat} {A : Option Addr} {us : List PlAt} (h : w1.ownsRow base 31 4 (.slice A n c) n (us.flatMap PlAt.cells)) (hs : ∀ x ∈ us, x.p.sane ∧ Pls.lies w1 w.heap.size x.p.list x.A) (hs1 : w.heap.size ≤ w1.heap.size) : Pls.lies w1 w1.heap.size (us.map PlAt.p) A :=
  (sits_own (B := w.heap.size) h hs).lies (fun b hb' => by rcases hb' with h1 | h1; exact Nat.lt_of_lt_of_le h1 hs1; exact (h.lt b h1).2)
theorem ats_below {w w' : World} {us : List PlAt} (h : ∀ x ∈ us, x.p.sane ∧ Pls.lies w w.heap.size x.p.list x.A) (hb : Below w.heap.size w w') : ∀ x ∈ us, x.p.sane ∧ Pls.lies w' w.heap.size x.p.list x.A := fun x hx => ⟨(h x hx).1, (h x hx).2.below hb (Nat.le_refl _)⟩
/-- Where a list's cells lie. -/
def AtsIn (w : World) (l : List Pl) (A : Option Addr) (us : List PlAt) : Prop := us.map PlAt.p = l ∧ (∀ x ∈ us, x.p.sane ∧ Pls.lies w w.heap.size x.p.list x.A) ∧ (A = none → l.length = 0) ∧ ∀ ad, A = some ad → ∀ j u, (us.flatMap PlAt.cells)[j]? = some u → w.cell? (ad.add j) = some u ∧ ad.block < w.heap.size
theorem ats_in {w : World} {l : List Pl} {A : Option Addr} (h : Pls.lies w w.heap.size l A) : ∃ us, AtsIn w l A us := by
  obtain ⟨us, h1, h2, h3⟩ := pls_ats h
  refine ⟨us, h1, h2, fun hA => ?_, fun ad hA j u hj => ?_⟩
  · cases l with
    | nil => rfl
    | cons p ps => obtain ⟨b, o, e, _⟩ := h3 (by simp); rw [hA] at e; cases e
  · have hne : l ≠ [] := by
      rintro rfl
      have : us = [] := by simpa using h1
      subst this
      simp at hj
    obtain ⟨b, o, e, hb, hc⟩ := h3 hne
    rw [hA] at e
    injection e with e
    subst e
    exact ⟨by rw [Addr.add_lit]; exact hc j u hj, hb⟩
theorem AtsIn.later {w w' : World} {l : List Pl} {A : Option Addr} {us : List PlAt} (h : AtsIn w l A us) (hb : Below w.heap.size w w') : ∀ ad, A = some ad → ∀ j u, (us.flatMap PlAt.cells)[j]? = some u → w'.cell? (ad.add j) = some u := fun ad hA j u hj => by
  obtain ⟨h1, h2⟩ := h.2.2.2 ad hA j u hj
  exact (hb.cell (World.block_lt_of_cell? _ _ h1)).trans h1
theorem AtsIn.len {w : World} {l : List Pl} {A : Option Addr} {us : List PlAt} (h : AtsIn w l A us) : us.length = l.length := by rw [← h.1, List.length_map]
theorem whole_out (l : List Pl) (A : Option Addr) (n c : Nat) (hn : n = l.length) : (lPl l).arg A c = .agg #[.int .i64 5, .int .i64 0, .string ⟨#[]⟩, .slice A n c] := by rw [hn]; rfl
set_option maxRecDepth 100000 in
set_option maxHeartbeats 8000000 in
theorem ref11_good_size (p : Pl) (hall : [p].all Pl.mayB = true) (hq0 : p.kind = 5) (A : Option Addr) (c : Nat) (w : World) (hl : Pls.lies w w.heap.size [p] A) :
    Calls Tryz.prog 17 #[.string ⟨#[108, 105, 115, 116, 46, 115, 105, 122, 101]⟩, .slice A 1 c] w (ROut (0, nPl (p.list.length : Int)) w) := by
  have HB := Lib.hid ((Below.refl w.heap.size w).alloc (Nat.le_refl _) (.cells #[.int .i64 0, .int .i64 0, .string ⟨#[]⟩, .slice none 0 0] 31))
  have KM := Lib.hid (ref11_may ln_size [p] A c _ (by show 1 * 56 ≤ _; omega) (hl.below HB.out HB.out.size))
  rw [may_size, if_pos (show [p].length = 1 from rfl), if_pos hall] at KM
  simp only [List.length_cons, List.length_nil, Nat.zero_add] at KM
  unfold ln_size at KM
  have HL := Lib.hid hl
  obtain ⟨b, o, rfl⟩ := hl.head (by simp)
  clear hl hall
  go_enter Tryz.func17, Tryz.ntmps17
  go_wp2_with fail
  refine KM.out.mono ?_
  rintro e w1 ⟨rfl, hb1⟩
  have HX1 := Lib.hid ((hb1.block w.heap.size (by simp)).trans (heap_alloc_new w _))
  have HB1 := Lib.hid (HB.out.trans (hb1.mono HB.out.size))
  have HL1 := Lib.hid (HL.out.below HB1.out (Nat.le_refl _))
  have hk0 := (show p.lies w1 w.heap.size b o by simpa using HL1.out.at_ 0 (by simp)).parts.2.1
  have KK := Lib.hid (kinds_size b o c p.kind w1 hk0 true (by simp [hq0]))
  clear hb1 KM hk0
  go_wp2_with fail
  refine KK.out.mono ?_
  rintro e w2 ⟨rfl, hb2⟩
  have HB2 := Lib.hid (HB1.out.trans (hb2.mono HB1.out.size))
  have HL2 := Lib.hid (HL.out.below HB2.out (Nat.le_refl _))
  have hs2 := HB2.out.size
  have hx := (hb2.block w.heap.size (lt_of_block HX1.out)).trans HX1.out
  have HX := Lib.hid hx
  have f0 : ∀ j, w2.cell? ⟨w.heap.size, j, none⟩ = (#[.int .i64 0, .int .i64 0, .string ⟨#[]⟩, .slice none 0 0] : Array Value)[j]? := fun j => by simp [World.cell?, hx]
  have g0 : ∀ j, w2.frozen? ⟨w.heap.size, j, none⟩ = false := fun j => by simp [World.frozen?, hx]
  clear hx
  have hxl := lt_of_block HX.out
  have hsn0 := Lib.hid (show p.lies w2 w.heap.size b o by simpa using HL2.out.at_ 0 (by simp)).sane
  obtain ⟨hbb0, a00, a01, a02, hlen0, A0, c0, a03, hll0⟩ := (show p.lies w2 w.heap.size b o by simpa using HL2.out.at_ 0 (by simp)).parts
  clear hb2 KK
  have hl0 := hsn0.out.2.2.2
  go_wp2
  exact bodyPost_ret (fn := Tryz.f17) (v := .tuple #[.agg #[.int .i64 3, .int .i64 (p.list.length : Int), .string ⟨#[]⟩, .slice none 0 0], .int .i64 0, .string ⟨#[]⟩]) (res3 (p := 4) (q := 5) (r := 6) (ty := 31) (a := ⟨w.heap.size, 0, none⟩) Tryz.results17 rfl (run_loadVar_row (P := Tryz.prog) _ _ _ 31 _ _ _ (blk_set (blk_set (blk_set (blk_set HX.out 0 (.int .i64 3)) 1 (.int .i64 (p.list.length : Int))) 2 (.string ⟨#[]⟩)) 3 (.slice none 0 0)) Tryz.underlying31 rfl (by kernel_rfl)) rfl rfl) rfl ⟨none, 0, rfl, by unfold nPl Pl.list Pls.lies; trivial, below_set4 HB2.out _ _ _ _⟩
def rAtN (l : List Pl) (n : Int) : Int × Pl := if 0 ≤ n then (match l[n.toNat]? with | some y => (0, y) | none => rBad 23) else rBad 23
set_option maxRecDepth 100000 in
set_option maxHeartbeats 8000000 in
theorem ref11_good_at (p q : Pl) (hall : [p, q].all Pl.mayB = true) (hq0 : p.kind = 5) (hq1 : q.kind = 3) (A : Option Addr) (c : Nat) (w : World) (hl : Pls.lies w w.heap.size [p, q] A) :
    Calls Tryz.prog 17 #[.string ⟨#[108, 105, 115, 116, 46, 97, 116]⟩, .slice A 2 c] w (ROut (rAtN p.list q.num) w) := by
  have HB := Lib.hid ((Below.refl w.heap.size w).alloc (Nat.le_refl _) (.cells #[.int .i64 0, .int .i64 0, .string ⟨#[]⟩, .slice none 0 0] 31))
  have KM := Lib.hid (ref11_may ln_at [p, q] A c _ (by show 2 * 56 ≤ _; omega) (hl.below HB.out HB.out.size))
  rw [may_at, if_pos (show [p, q].length = 2 from rfl), if_pos hall] at KM
  simp only [List.length_cons, List.length_nil, Nat.zero_add, Nat.reduceAdd] at KM
  unfold ln_at at KM
  have HL := Lib.hid hl
  obtain ⟨b, o, rfl⟩ := hl.head (by simp)
  clear hl hall
  go_enter Tryz.func17, Tryz.ntmps17
  go_wp2_with fail
  refine KM.out.mono ?_
  rintro e w1 ⟨rfl, hb1⟩
  have HX1 := Lib.hid ((hb1.block w.heap.size (by simp)).trans (heap_alloc_new w _))
  have HB1 := Lib.hid (HB.out.trans (hb1.mono HB.out.size))
  have HL1 := Lib.hid (HL.out.below HB1.out (Nat.le_refl _))
  have hk0 := (show p.lies w1 w.heap.size b o by simpa using HL1.out.at_ 0 (by simp)).parts.2.1
  have hk1 := (show q.lies w1 w.heap.size b (o + 4) by simpa using HL1.out.at_ 1 (by simp)).parts.2.1
  have KK := Lib.hid (kinds_at b o c p.kind q.kind w1 hk0 hk1 true (by simp [hq0, hq1]))
  clear hb1 KM hk0 hk1
  go_wp2_with fail
  refine KK.out.mono ?_
  rintro e w2 ⟨rfl, hb2⟩
  have HB2 := Lib.hid (HB1.out.trans (hb2.mono HB1.out.size))
  have HL2 := Lib.hid (HL.out.below HB2.out (Nat.le_refl _))
  have hs2 := HB2.out.size
  have hx := (hb2.block w.heap.size (lt_of_block HX1.out)).trans HX1.out
  have HX := Lib.hid hx
  have f0 : ∀ j, w2.cell? ⟨w.heap.size, j, none⟩ = (#[.int .i64 0, .int .i64 0, .string ⟨#[]⟩, .slice none 0 0] : Array Value)[j]? := fun j => by simp [World.cell?, hx]
  have g0 : ∀ j, w2.frozen? ⟨w.heap.size, j, none⟩ = false := fun j => by simp [World.frozen?, hx]
  clear hx
  have hxl := lt_of_block HX.out
  have hsn0 := Lib.hid (show p.lies w2 w.heap.size b o by simpa using HL2.out.at_ 0 (by simp)).sane
  obtain ⟨hbb0, a00, a01, a02, hlen0, A0, c0, a03, hll0⟩ := (show p.lies w2 w.heap.size b o by simpa using HL2.out.at_ 0 (by simp)).parts
  have hsn1 := Lib.hid (show q.lies w2 w.heap.size b (o + 4) by simpa using HL2.out.at_ 1 (by simp)).sane
  obtain ⟨hbb1, a10, a11, a12, hlen1, A1, c1, a13, hll1⟩ := (show q.lies w2 w.heap.size b (o + 4) by simpa using HL2.out.at_ 1 (by simp)).parts
  clear hb2 KK
  have hl0 := hsn0.out.2.2.2
  generalize q.num = n at *
  by_cases hn : n < 0
  · have hr := Lib.hid (show rAtN p.list n = rBad 23 by unfold rAtN; rw [if_neg (by omega)])
    have d1 : decide (n < 0) = true := by simpa using hn
    clear hn
    go_wp2
    refine bodyPost_ret (fn := Tryz.f17) (v := .tuple #[.agg #[.int .i64 0, .int .i64 0, .string ⟨#[]⟩, .slice none 0 0], .int .i64 23, .string ⟨#[]⟩]) (res3 (p := 4) (q := 5) (r := 6) (ty := 31) (a := ⟨w.heap.size, 0, none⟩) Tryz.results17 rfl (run_loadVar_row (P := Tryz.prog) _ _ _ 31 _ _ _ (blk_set (blk_set (blk_set (blk_set HX.out 0 (.int .i64 0)) 1 (.int .i64 0)) 2 (.string ⟨#[]⟩)) 3 (.slice none 0 0)) Tryz.underlying31 rfl (by kernel_rfl)) rfl rfl) rfl ?_
    rw [hr.out]
    exact ⟨none, 0, rfl, by unfold rBad zPl Pl.list Pls.lies; trivial, below_set4 HB2.out _ _ _ _⟩
  · obtain ⟨k, rfl⟩ := Int.eq_ofNat_of_zero_le (show 0 ≤ n by omega)
    by_cases hk : p.list.length ≤ k
    · have hr := Lib.hid (show rAtN p.list (k : Int) = rBad 23 by unfold rAtN; rw [if_pos (by omega), Int.toNat_natCast, List.getElem?_eq_none hk])
      have d2 : decide (p.list.length ≤ k) = true := by simpa using hk
      clear hn hk
      go_wp2
      refine bodyPost_ret (fn := Tryz.f17) (v := .tuple #[.agg #[.int .i64 0, .int .i64 0, .string ⟨#[]⟩, .slice none 0 0], .int .i64 23, .string ⟨#[]⟩]) (res3 (p := 4) (q := 5) (r := 6) (ty := 31) (a := ⟨w.heap.size, 0, none⟩) Tryz.results17 rfl (run_loadVar_row (P := Tryz.prog) _ _ _ 31 _ _ _ (blk_set (blk_set (blk_set (blk_set HX.out 0 (.int .i64 0)) 1 (.int .i64 0)) 2 (.string ⟨#[]⟩)) 3 (.slice none 0 0)) Tryz.underlying31 rfl (by kernel_rfl)) rfl rfl) rfl ?_
      rw [hr.out]
      exact ⟨none, 0, rfl, by unfold rBad zPl Pl.list Pls.lies; trivial, below_set4 HB2.out _ _ _ _⟩
    · have hk2 : k < p.list.length := by omega
      have hr := Lib.hid (show rAtN p.list (k : Int) = (0, p.list[k]) by unfold rAtN; rw [if_pos (by omega), Int.toNat_natCast, List.getElem?_eq_getElem hk2])
      have d2 : decide (p.list.length ≤ k) = false := by simpa using hk
      obtain ⟨b2, o2, rfl⟩ := hll0.head (by omega)
      obtain ⟨hbb, x0, x1, x2, hlenx, Ax, cx, x3, hllx⟩ := (hll0.at_ k hk2).parts
      have HLX := Lib.hid hllx
      clear hn hk hll0 hll1 hllx
      generalize p.list[k] = y at *
      go_wp2
      refine bodyPost_ret (fn := Tryz.f17) (v := .tuple #[.agg #[.int .i64 y.kind, .int .i64 y.num, .string y.text, .slice Ax y.list.length cx], .int .i64 0, .string ⟨#[]⟩]) (res3 (p := 4) (q := 5) (r := 6) (ty := 31) (a := ⟨w.heap.size, 0, none⟩) Tryz.results17 rfl (run_loadVar_row (P := Tryz.prog) _ _ _ 31 _ _ _ (blk_set (blk_set (blk_set (blk_set HX.out 0 (.int .i64 y.kind)) 1 (.int .i64 y.num)) 2 (.string y.text)) 3 (.slice Ax y.list.length cx)) Tryz.underlying31 rfl (by kernel_rfl)) rfl rfl) rfl ?_
      rw [hr.out]
      exact ⟨Ax, cx, rfl, lies_set4 HLX.out hs2 _ _ _ _, below_set4 HB2.out _ _ _ _⟩
set_option maxRecDepth 100000 in
set_option maxHeartbeats 8000000 in
theorem ref11_good_count (p : Pl) (hall : [p].all Pl.mayB = true) (hq0 : p.kind = 3) (A : Option Addr) (c : Nat) (w : World) (hl : Pls.lies w w.heap.size [p] A) :
    Calls Tryz.prog 17 #[.string ⟨#[108, 105, 115, 116, 46, 99, 111, 117, 110, 116]⟩, .slice A 1 c] w (ROut (rCountN p.num) w) := by
  have HB := Lib.hid ((Below.refl w.heap.size w).alloc (Nat.le_refl _) (.cells #[.int .i64 0, .int .i64 0, .string ⟨#[]⟩, .slice none 0 0] 31))
  have KM := Lib.hid (ref11_may ln_count [p] A c _ (by show 1 * 56 ≤ _; omega) (hl.below HB.out HB.out.size))
  rw [may_count, if_pos (show [p].length = 1 from rfl), if_pos hall] at KM
  simp only [List.length_cons, List.length_nil, Nat.zero_add] at KM
  unfold ln_count at KM
  have HL := Lib.hid hl
  obtain ⟨b, o, rfl⟩ := hl.head (by simp)
  clear hl hall
  go_enter Tryz.func17, Tryz.ntmps17
  go_wp2_with fail
  refine KM.out.mono ?_
  rintro e w1 ⟨rfl, hb1⟩
  have HX1 := Lib.hid ((hb1.block w.heap.size (by simp)).trans (heap_alloc_new w _))
  have HB1 := Lib.hid (HB.out.trans (hb1.mono HB.out.size))
  have HL1 := Lib.hid (HL.out.below HB1.out (Nat.le_refl _))
  have hk0 := (show p.lies w1 w.heap.size b o by simpa using HL1.out.at_ 0 (by simp)).parts.2.1
  have KK := Lib.hid (kinds_count b o c p.kind w1 hk0 true (by simp [hq0]))
  clear hb1 KM hk0
  go_wp2_with fail
  refine KK.out.mono ?_
  rintro e w2 ⟨rfl, hb2⟩
  have HB2 := Lib.hid (HB1.out.trans (hb2.mono HB1.out.size))
  have HL2 := Lib.hid (HL.out.below HB2.out (Nat.le_refl _))
  have hs2 := HB2.out.size
  have hx := (hb2.block w.heap.size (lt_of_block HX1.out)).trans HX1.out
  have HX := Lib.hid hx
  have f0 : ∀ j, w2.cell? ⟨w.heap.size, j, none⟩ = (#[.int .i64 0, .int .i64 0, .string ⟨#[]⟩, .slice none 0 0] : Array Value)[j]? := fun j => by simp [World.cell?, hx]
  have g0 : ∀ j, w2.frozen? ⟨w.heap.size, j, none⟩ = false := fun j => by simp [World.frozen?, hx]
  clear hx
  have hxl := lt_of_block HX.out
  have hsn0 := Lib.hid (show p.lies w2 w.heap.size b o by simpa using HL2.out.at_ 0 (by simp)).sane
  obtain ⟨hbb0, a00, a01, a02, hlen0, A0, c0, a03, hll0⟩ := (show p.lies w2 w.heap.size b o by simpa using HL2.out.at_ 0 (by simp)).parts
  clear hb2 KK
  generalize p.num = n at *
  have KC := Lib.hid (ref11_count n w2)
  clear hll0 hsn0
  go_wp2_with fail
  refine KC.out.mono ?_
  rintro e w3 ⟨A3, c3, rfl, hsit, hb3⟩
  have HS3 := Lib.hid hsit
  have HB3 := Lib.hid (HB2.out.trans (hb3.mono hs2))
  have hs3 := hb3.size
  have hx3 := (hb3.block w.heap.size hxl).trans HX.out
  clear HX f0 g0
  have hx := hx3
  have HX := Lib.hid hx
  have f0 : ∀ j, w3.cell? ⟨w.heap.size, j, none⟩ = (#[.int .i64 0, .int .i64 0, .string ⟨#[]⟩, .slice none 0 0] : Array Value)[j]? := fun j => by simp [World.cell?, hx]
  have g0 : ∀ j, w3.frozen? ⟨w.heap.size, j, none⟩ = false := fun j => by simp [World.frozen?, hx]
  clear hx
  clear hb3 hx3 hsit KC
  unfold Pl.arg
  go_wp2
  refine bodyPost_ret (fn := Tryz.f17) (v := .tuple #[.agg #[.int .i64 (rCountN n).2.kind, .int .i64 (rCountN n).2.num, .string (rCountN n).2.text, .slice A3 (rCountN n).2.list.length c3], .int .i64 (rCountN n).1, .string ⟨#[]⟩]) (res3 (p := 4) (q := 5) (r := 6) (ty := 31) (a := ⟨w.heap.size, 0, none⟩) Tryz.results17 rfl (run_loadVar_row (P := Tryz.prog) _ _ _ 31 _ _ _ (blk_set (blk_set (blk_set (blk_set HX.out 0 (.int .i64 (rCountN n).2.kind)) 1 (.int .i64 (rCountN n).2.num)) 2 (.string (rCountN n).2.text)) 3 (.slice A3 (rCountN n).2.list.length c3)) Tryz.underlying31 rfl (by kernel_rfl)) rfl rfl) rfl ⟨A3, c3, rfl, ?_, below_set4 HB3.out _ _ _ _⟩
  refine Pls.sits.lies (S := fresh w2 w3) (fun b hb => by rw [size_set, size_set, size_set, size_set]; exact hb.2) _ _ (HS3.out.keep (fun b o hb => ?_) (fun _ h => h))
  have hne : b ≠ w.heap.size := by have := hb.1; omega
  rw [cell_far _ _ (p := ⟨w.heap.size, 3, none⟩) hne, cell_far _ _ (p := ⟨w.heap.size, 2, none⟩) hne, cell_far _ _ (p := ⟨w.heap.size, 1, none⟩) hne, cell_far _ _ (p := ⟨w.heap.size, 0, none⟩) hne]
end Go.Proofs.YtcldbjgikkfnbaaGreatDoor
