/-
  espalierref15.Work: a walk, for any operation and any plain values: it answers as guard.Work. Conditions: they lie in memory.
-/
import Derived.Test.YtjdpnljaichdmaaGreatDoorRefMay15
import Derived.Test.YtjdpnljaichdmaaGreatDoorGuardWork
import Derived.Test.YtjdpnljaichdmaaGreatDoorPlSame
import Derived.Deep.RegionHeld3
namespace Go.Proofs.YtjdpnljaichdmaaGreatDoor
open Go.RowKit
set_option linter.unusedVariables false

/-- What the reference gives: a plain value, a code, what is raised. -/
def refOut (r : Int × ByteArray) : Value := .tuple #[.agg #[.int .i64 (if r.1 = 0 then 1 else 0), .int .i64 0, .string ⟨#[]⟩, .slice none 0 0], .int .i64 r.1, .string r.2]
theorem toList_same {a b : ByteArray} (h : (a.toList == b.toList) = true) : a = b := by
  have h1 : a.toList = b.toList := by simpa using h
  rw [Lib.toList_data, Lib.toList_data] at h1
  obtain ⟨⟨x⟩⟩ := a
  obtain ⟨⟨y⟩⟩ := b
  simp at h1
  rw [h1]
theorem may_other {op : ByteArray} {ps : List Pl} (h1 : op ≠ gRaise) (h2 : op ≠ gCheck) : mayV op ps guardRows = 1 := by
  have e1 : ¬ ((gRaise.toList == op.toList) = true) := fun h => h1 (toList_same h).symm
  have e2 : ¬ ((gCheck.toList == op.toList) = true) := fun h => h2 (toList_same h).symm
  unfold guardRows mayV
  rw [if_neg (fun h => e1 h.1)]
  unfold mayV
  rw [if_neg (fun h => e2 h.1)]
  unfold mayV
  rw [if_neg (fun h => absurd h.2 (by rw [Bool.not_eq_true]; kernel_rfl))]
  unfold mayV
  rw [if_neg (fun h => absurd h.2 (by rw [Bool.not_eq_true]; kernel_rfl))]
  unfold mayV
  rfl
theorem may_raise (ps : List Pl) : mayV gRaise ps guardRows = if ps.length = 1 then (if ps.all Pl.mayB = true then 0 else 1) else 11 := by
  unfold guardRows mayV
  rw [if_pos ⟨by kernel_rfl, by kernel_rfl⟩]
  by_cases h : ps.length = 1
  · rw [if_pos h, if_neg (by simp [h])]
  · rw [if_neg h, if_pos (by simp; omega)]
theorem may_check (ps : List Pl) : mayV gCheck ps guardRows = if ps.length = 2 then (if ps.all Pl.mayB = true then 0 else 1) else 11 := by
  unfold guardRows mayV
  rw [if_neg (fun h => absurd h.1 (by rw [Bool.not_eq_true]; kernel_rfl))]
  unfold mayV
  rw [if_pos ⟨by kernel_rfl, by kernel_rfl⟩]
  by_cases h : ps.length = 2
  · rw [if_pos h, if_neg (by simp [h])]
  · rw [if_neg h, if_pos (by simp; omega)]
theorem ref15_res {P : Program} {fn : Func} {p q r : Tmp} {ty : TypeId} (h : fn.results = #[.cell p ty, .tmp q, .tmp r]) {tmps : Array Value} {a : Addr} (ht : tmps.getD p undef = .pointer (some a)) {w : World} {v u x : Value} (hl : (loadVar ty a).run P w = .ok v w) (hu : tmps.getD q undef = u) (hx : tmps.getD r undef = x) :
    (results fn tmps).run P w = .ok (.tuple #[v, u, x]) w := by
  unfold results
  simp only [h]
  have ht' : tmps[p]?.getD undef = .pointer (some a) := by simpa using ht
  have hu' : tmps[q]?.getD undef = u := by simpa using hu
  have hx' : tmps[r]?.getD undef = x := by simpa using hx
  simp [ht', hu', hx', asAddr, hl]
theorem below15_set4 {w w' : World} (h : Below w.heap.size w w') (x0 x1 x2 x3 : Value) : Below w.heap.size w ((((w'.setCell ⟨w.heap.size, 0, none⟩ x0).setCell ⟨w.heap.size, 1, none⟩ x1).setCell ⟨w.heap.size, 2, none⟩ x2).setCell ⟨w.heap.size, 3, none⟩ x3) :=
  (((h.setCell (p := ⟨w.heap.size, 0, none⟩) (Nat.le_refl _) _).setCell (p := ⟨w.heap.size, 1, none⟩) (Nat.le_refl _) _).setCell (p := ⟨w.heap.size, 2, none⟩) (Nat.le_refl _) _).setCell (p := ⟨w.heap.size, 3, none⟩) (Nat.le_refl _) _
set_option maxRecDepth 100000 in
set_option maxHeartbeats 4000000 in
theorem ref15_Work_no (op : ByteArray) (ps : List Pl) (n : Int) (hn : mayV op ps guardRows = n) (h0 : n ≠ 0) (A : Option Addr) (c : Nat) (w : World) (hlen : ps.length * 56 ≤ 140737488351232) (hl : Pls.lies w w.heap.size ps A) :
    Calls Tryz.prog 30 #[.string op, .slice A ps.length c] w (Bel (refOut (n, ⟨#[]⟩)) w) := by
  have HB := Lib.hid ((Below.refl w.heap.size w).alloc (Nat.le_refl _) (.cells #[.int .i64 0, .int .i64 0, .string ⟨#[]⟩, .slice none 0 0] 34))
  have KM := Lib.hid (ref15_may op ps A c _ hlen (hl.below HB.out HB.out.size))
  rw [hn] at KM
  have hr := Lib.hid (show refOut (n, ⟨#[]⟩) = .tuple #[.agg #[.int .i64 0, .int .i64 0, .string ⟨#[]⟩, .slice none 0 0], .int .i64 n, .string ⟨#[]⟩] by unfold refOut; simp only [if_neg h0])
  have hnb : (n == 0) = false := by simpa using h0
  clear hl
  go_enter Tryz.func30, Tryz.ntmps30
  go_wp2_with fail
  refine KM.out.mono ?_
  rintro e w1 ⟨rfl, hb1⟩
  have hx1 := (hb1.block w.heap.size (by simp)).trans (heap_alloc_new w _)
  have HX1 := Lib.hid hx1
  have f0 : ∀ j, w1.cell? ⟨w.heap.size, j, none⟩ = (#[.int .i64 0, .int .i64 0, .string ⟨#[]⟩, .slice none 0 0] : Array Value)[j]? := fun j => by simp [World.cell?, hx1]
  have g0 : ∀ j, w1.frozen? ⟨w.heap.size, j, none⟩ = false := fun j => by simp [World.frozen?, hx1]
  have HB1 := Lib.hid (HB.out.trans (hb1.mono HB.out.size))
  clear hb1 hx1 KM
  go_wp2
  exact bodyPost_ret (fn := Tryz.f30) (v := .tuple #[.agg #[.int .i64 0, .int .i64 0, .string ⟨#[]⟩, .slice none 0 0], .int .i64 n, .string ⟨#[]⟩]) (ref15_res (p := 4) (q := 5) (r := 6) (ty := 34) (a := ⟨w.heap.size, 0, none⟩) Tryz.results30 rfl (run_loadVar_row (P := Tryz.prog) _ _ _ 34 _ _ _ (blk_set (blk_set (blk_set (blk_set HX1.out 0 (.int .i64 0)) 1 (.int .i64 0)) 2 (.string ⟨#[]⟩)) 3 (.slice none 0 0)) Tryz.underlying34 rfl (by kernel_rfl)) rfl rfl) rfl ⟨by rw [hr.out], below15_set4 HB1.out _ _ _ _⟩
theorem asText_kind (p : Pl) : p.toVl.asText = if p.kind = 4 then some p.text else none := by
  obtain ⟨k, n, t, l⟩ := p
  show (Pl.mk k n t l).toVl.asText = if k = 4 then some t else none
  unfold Pl.toVl
  by_cases h2 : k = 2
  · subst h2; rfl
  by_cases h3 : k = 3
  · subst h3; rfl
  by_cases h4 : k = 4
  · subst h4; rfl
  by_cases h5 : k = 5
  · subst h5; rfl
  · rw [if_neg h2, if_neg h3, if_neg h4, if_neg h5, if_neg h4]; rfl
set_option maxRecDepth 100000 in
set_option maxHeartbeats 4000000 in
theorem ref15_Work_raise1 (p : Pl) (hn : p.mayB = true) (A : Option Addr) (c : Nat) (w : World) (hl : Pls.lies w w.heap.size [p] A) :
    Calls Tryz.prog 30 #[.string gRaise, .slice A 1 c] w (Bel (refOut (gDo1 p.toVl)) w) := by
  have HB := Lib.hid ((Below.refl w.heap.size w).alloc (Nat.le_refl _) (.cells #[.int .i64 0, .int .i64 0, .string ⟨#[]⟩, .slice none 0 0] 34))
  have KM := Lib.hid (ref15_may gRaise [p] A c _ (by simp) (hl.below HB.out HB.out.size))
  rw [may_raise, if_pos (show [p].length = 1 from rfl), if_pos (show [p].all Pl.mayB = true by simp [hn])] at KM
  have HL := Lib.hid hl
  clear hl
  unfold gRaise at KM ⊢
  simp only [List.length_cons, List.length_nil, Nat.zero_add] at KM
  go_enter Tryz.func30, Tryz.ntmps30
  go_wp2_with fail
  refine KM.out.mono ?_
  rintro e w1 ⟨rfl, hb1⟩
  have hx1 := (hb1.block w.heap.size (by simp)).trans (heap_alloc_new w _)
  have HX1 := Lib.hid hx1
  have f0 : ∀ j, w1.cell? ⟨w.heap.size, j, none⟩ = (#[.int .i64 0, .int .i64 0, .string ⟨#[]⟩, .slice none 0 0] : Array Value)[j]? := fun j => by simp [World.cell?, hx1]
  have g0 : ∀ j, w1.frozen? ⟨w.heap.size, j, none⟩ = false := fun j => by simp [World.frozen?, hx1]
  have HB1 := Lib.hid (HB.out.trans (hb1.mono HB.out.size))
  clear hb1 hx1 KM
  obtain ⟨b', o', rfl⟩ := HL.out.head (by simp)
  have hlies := (HL.out.below HB1.out HB1.out.size).at_ 0 (by simp)
  obtain ⟨hbb, e0, e1, e2, hlen2, A', c', e3, hll⟩ := hlies.parts
  simp only [List.getElem_cons_zero, Nat.zero_mul, Nat.add_zero] at e0 e1 e2
  clear hll e3 hlies hlen2
  by_cases h4 : p.kind = 4
  · have hr := Lib.hid (show refOut (gDo1 p.toVl) = .tuple #[.agg #[.int .i64 0, .int .i64 0, .string ⟨#[]⟩, .slice none 0 0], .int .i64 25, .string p.text] by unfold gDo1; rw [asText_kind, if_pos h4]; rfl)
    have hbw : b' < w.heap.size := (HL.out.at_ 0 (by simp)).parts.1
    have hne : b' ≠ w.heap.size := by omega
    have hkb : (p.kind == 4) = true := by simpa using h4
    have HB2 := Lib.hid (below15_set4 HB1.out (.int .i64 0) (.int .i64 0) (.string ⟨#[]⟩) (.slice none 0 0))
    have hdr : ∀ (W : World) (a : Addr), W.drew.cell? a = W.cell? a := fun _ _ => rfl
    clear h4
    go_upto_region 7 with fail
    go_region_held3 (fun w' => w'.cell? ⟨b', o' + 2, none⟩ = some (.string p.text))
      ((first | exact e2 | (rw [hdr, cell_far _ _ (p := ⟨w.heap.size, 3, none⟩) hne, cell_far _ _ (p := ⟨w.heap.size, 2, none⟩) hne, cell_far _ _ (p := ⟨w.heap.size, 1, none⟩) hne, cell_far _ _ (p := ⟨w.heap.size, 0, none⟩) hne]; exact e2)))
      (fail)
    go_wp2
    exact bodyPost_ret (fn := Tryz.f30) (v := .tuple #[.agg #[.int .i64 0, .int .i64 0, .string ⟨#[]⟩, .slice none 0 0], .int .i64 25, .string p.text]) (ref15_res (p := 4) (q := 5) (r := 6) (ty := 34) (a := ⟨w.heap.size, 0, none⟩) Tryz.results30 rfl (run_loadVar_row (P := Tryz.prog) _ _ _ 34 _ _ _ (blk_set (blk_set (blk_set (blk_set HX1.out 0 (.int .i64 0)) 1 (.int .i64 0)) 2 (.string ⟨#[]⟩)) 3 (.slice none 0 0)) Tryz.underlying34 rfl (by kernel_rfl)) rfl rfl) rfl ⟨by rw [hr.out], HB2.out.drew⟩
  · have hr := Lib.hid (show refOut (gDo1 p.toVl) = .tuple #[.agg #[.int .i64 0, .int .i64 0, .string ⟨#[]⟩, .slice none 0 0], .int .i64 20, .string ⟨#[]⟩] by unfold gDo1; rw [asText_kind, if_neg h4]; rfl)
    have hkb : (p.kind == 4) = false := by simpa using h4
    go_wp2
    exact bodyPost_ret (fn := Tryz.f30) (v := .tuple #[.agg #[.int .i64 0, .int .i64 0, .string ⟨#[]⟩, .slice none 0 0], .int .i64 20, .string ⟨#[]⟩]) (ref15_res (p := 4) (q := 5) (r := 6) (ty := 34) (a := ⟨w.heap.size, 0, none⟩) Tryz.results30 rfl (run_loadVar_row (P := Tryz.prog) _ _ _ 34 _ _ _ (blk_set (blk_set (blk_set (blk_set HX1.out 0 (.int .i64 0)) 1 (.int .i64 0)) 2 (.string ⟨#[]⟩)) 3 (.slice none 0 0)) Tryz.underlying34 rfl (by kernel_rfl)) rfl rfl) rfl ⟨by rw [hr.out], below15_set4 HB1.out _ _ _ _⟩
theorem asTruth_kind (p : Pl) : p.toVl.asTruth = if p.kind = 2 then some (decide (p.num = 1)) else none := by
  obtain ⟨k, n, t, l⟩ := p
  show (Pl.mk k n t l).toVl.asTruth = if k = 2 then some (decide (n = 1)) else none
  unfold Pl.toVl
  by_cases h2 : k = 2
  · subst h2; rfl
  by_cases h3 : k = 3
  · subst h3; rfl
  by_cases h4 : k = 4
  · subst h4; rfl
  by_cases h5 : k = 5
  · subst h5; rfl
  · rw [if_neg h2, if_neg h3, if_neg h4, if_neg h5, if_neg h2]; rfl
theorem may_norm {p : Pl} (h : p.mayB = true) : p.normB = true := Pl.left_norm p 65536 0 (of_decide_eq_true h)
theorem may_truth {p : Pl} (h : p.mayB = true) (h2 : p.kind = 2) : p.num = 0 ∨ p.num = 1 := by
  have hn := may_norm h
  obtain ⟨k, n, t, l⟩ := p
  simp only [Pl.kind] at h2
  subst h2
  unfold Pl.normB at hn
  simp only [Bool.and_eq_true] at hn
  exact (good_2 hn.1).1
set_option maxRecDepth 100000 in
set_option maxHeartbeats 4000000 in
theorem ref15_Work_check2 (p q : Pl) (hp : p.mayB = true) (hq : q.mayB = true) (A : Option Addr) (c : Nat) (w : World) (hl : Pls.lies w w.heap.size [p, q] A) :
    Calls Tryz.prog 30 #[.string gCheck, .slice A 2 c] w (Bel (refOut (gDo2 p.toVl q.toVl)) w) := by
  have HB := Lib.hid ((Below.refl w.heap.size w).alloc (Nat.le_refl _) (.cells #[.int .i64 0, .int .i64 0, .string ⟨#[]⟩, .slice none 0 0] 34))
  have KM := Lib.hid (ref15_may gCheck [p, q] A c _ (by simp) (hl.below HB.out HB.out.size))
  rw [may_check, if_pos (show [p, q].length = 2 from rfl), if_pos (show [p, q].all Pl.mayB = true by simp [hp, hq])] at KM
  have HL := Lib.hid hl
  have HT := Lib.hid (may_truth hp)
  clear hl hp hq
  unfold gCheck at KM ⊢
  simp only [List.length_cons, List.length_nil, Nat.zero_add, Nat.reduceAdd] at KM
  go_enter Tryz.func30, Tryz.ntmps30
  go_wp2_with fail
  refine KM.out.mono ?_
  rintro e w1 ⟨rfl, hb1⟩
  have hx1 := (hb1.block w.heap.size (by simp)).trans (heap_alloc_new w _)
  have HX1 := Lib.hid hx1
  have f0 : ∀ j, w1.cell? ⟨w.heap.size, j, none⟩ = (#[.int .i64 0, .int .i64 0, .string ⟨#[]⟩, .slice none 0 0] : Array Value)[j]? := fun j => by simp [World.cell?, hx1]
  have g0 : ∀ j, w1.frozen? ⟨w.heap.size, j, none⟩ = false := fun j => by simp [World.frozen?, hx1]
  have HB1 := Lib.hid (HB.out.trans (hb1.mono HB.out.size))
  clear hb1 hx1 KM
  obtain ⟨b', o', rfl⟩ := HL.out.head (by simp)
  have hlies := (HL.out.below HB1.out HB1.out.size).at_ 0 (by simp)
  obtain ⟨hbb, e0, e1, e2, hlen2, A', c', e3, hll⟩ := hlies.parts
  simp only [List.getElem_cons_zero, Nat.zero_mul, Nat.add_zero] at e0 e1 e2
  clear hll e3 hlies hlen2 hbb e2
  have hlies := (HL.out.below HB1.out HB1.out.size).at_ 1 (by simp)
  obtain ⟨hbb, d0, d1, d2, hlen2, A', c', d3, hll⟩ := hlies.parts
  simp only [List.getElem_cons_succ, List.getElem_cons_zero, Nat.one_mul] at d0 d1 d2
  clear hll d3 hlies hlen2 d1
  by_cases h2 : p.kind = 2
  · have hkb : (p.kind == 2) = true := by simpa using h2
    have hkb' : (p.kind != 2) = false := by simpa using h2
    by_cases h4 : q.kind = 4
    · have hkc : (q.kind == 4) = true := by simpa using h4
      have hkc' : (q.kind != 4) = false := by simpa using h4
      by_cases hn : p.num = 0
      · have hr := Lib.hid (show refOut (gDo2 p.toVl q.toVl) = .tuple #[.agg #[.int .i64 0, .int .i64 0, .string ⟨#[]⟩, .slice none 0 0], .int .i64 25, .string q.text] by unfold gDo2; rw [asText_kind, if_pos h4]; simp only [asTruth_kind, if_pos h2, hn]; rfl)
        have hnb : (p.num == 0) = true := by simpa using hn
        have hbw : b' < w.heap.size := (HL.out.at_ 0 (by simp)).parts.1
        have hne : b' ≠ w.heap.size := by omega
        have HB2 := Lib.hid (below15_set4 HB1.out (.int .i64 0) (.int .i64 0) (.string ⟨#[]⟩) (.slice none 0 0))
        have hdr : ∀ (W : World) (a : Addr), W.drew.cell? a = W.cell? a := fun _ _ => rfl
        clear h2 h4 hn
        go_upto_region 11 with fail
        go_region_held3 (fun w' => w'.cell? ⟨b', o' + 4 + 2, none⟩ = some (.string q.text))
          ((first | exact d2 | (rw [hdr, cell_far _ _ (p := ⟨w.heap.size, 3, none⟩) hne, cell_far _ _ (p := ⟨w.heap.size, 2, none⟩) hne, cell_far _ _ (p := ⟨w.heap.size, 1, none⟩) hne, cell_far _ _ (p := ⟨w.heap.size, 0, none⟩) hne]; exact d2)))
          (fail)
        go_wp2
        exact bodyPost_ret (fn := Tryz.f30) (v := .tuple #[.agg #[.int .i64 0, .int .i64 0, .string ⟨#[]⟩, .slice none 0 0], .int .i64 25, .string q.text]) (ref15_res (p := 4) (q := 5) (r := 6) (ty := 34) (a := ⟨w.heap.size, 0, none⟩) Tryz.results30 rfl (run_loadVar_row (P := Tryz.prog) _ _ _ 34 _ _ _ (blk_set (blk_set (blk_set (blk_set HX1.out 0 (.int .i64 0)) 1 (.int .i64 0)) 2 (.string ⟨#[]⟩)) 3 (.slice none 0 0)) Tryz.underlying34 rfl (by kernel_rfl)) rfl rfl) rfl ⟨by rw [hr.out], HB2.out.drew⟩
      · have hr := Lib.hid (show refOut (gDo2 p.toVl q.toVl) = .tuple #[.agg #[.int .i64 1, .int .i64 0, .string ⟨#[]⟩, .slice none 0 0], .int .i64 0, .string ⟨#[]⟩] by unfold gDo2; rw [asText_kind, if_pos h4]; simp only [asTruth_kind, if_pos h2, (HT.out h2).resolve_left hn]; rfl)
        have hnb : (p.num == 0) = false := by simpa using hn
        clear h2 h4 hn
        go_wp2
        exact bodyPost_ret (fn := Tryz.f30) (v := .tuple #[.agg #[.int .i64 1, .int .i64 0, .string ⟨#[]⟩, .slice none 0 0], .int .i64 0, .string ⟨#[]⟩]) (ref15_res (p := 4) (q := 5) (r := 6) (ty := 34) (a := ⟨w.heap.size, 0, none⟩) Tryz.results30 rfl (run_loadVar_row (P := Tryz.prog) _ _ _ 34 _ _ _ (blk_set (blk_set (blk_set (blk_set HX1.out 0 (.int .i64 1)) 1 (.int .i64 0)) 2 (.string ⟨#[]⟩)) 3 (.slice none 0 0)) Tryz.underlying34 rfl (by kernel_rfl)) rfl rfl) rfl ⟨by rw [hr.out], below15_set4 HB1.out _ _ _ _⟩
    · have hkc : (q.kind == 4) = false := by simpa using h4
      have hkc' : (q.kind != 4) = true := by simpa using h4
      have hr := Lib.hid (show refOut (gDo2 p.toVl q.toVl) = .tuple #[.agg #[.int .i64 0, .int .i64 0, .string ⟨#[]⟩, .slice none 0 0], .int .i64 20, .string ⟨#[]⟩] by unfold gDo2; rw [asText_kind, if_neg h4]; rfl)
      clear h2 h4
      go_wp2
      exact bodyPost_ret (fn := Tryz.f30) (v := .tuple #[.agg #[.int .i64 0, .int .i64 0, .string ⟨#[]⟩, .slice none 0 0], .int .i64 20, .string ⟨#[]⟩]) (ref15_res (p := 4) (q := 5) (r := 6) (ty := 34) (a := ⟨w.heap.size, 0, none⟩) Tryz.results30 rfl (run_loadVar_row (P := Tryz.prog) _ _ _ 34 _ _ _ (blk_set (blk_set (blk_set (blk_set HX1.out 0 (.int .i64 0)) 1 (.int .i64 0)) 2 (.string ⟨#[]⟩)) 3 (.slice none 0 0)) Tryz.underlying34 rfl (by kernel_rfl)) rfl rfl) rfl ⟨by rw [hr.out], below15_set4 HB1.out _ _ _ _⟩
  · have hkb : (p.kind == 2) = false := by simpa using h2
    have hkb' : (p.kind != 2) = true := by simpa using h2
    have hr := Lib.hid (show refOut (gDo2 p.toVl q.toVl) = .tuple #[.agg #[.int .i64 0, .int .i64 0, .string ⟨#[]⟩, .slice none 0 0], .int .i64 20, .string ⟨#[]⟩] by
      unfold gDo2
      cases q.toVl.asText
      · rfl
      · simp only [asTruth_kind, if_neg h2]; rfl)
    clear h2
    go_wp2
    exact bodyPost_ret (fn := Tryz.f30) (v := .tuple #[.agg #[.int .i64 0, .int .i64 0, .string ⟨#[]⟩, .slice none 0 0], .int .i64 20, .string ⟨#[]⟩]) (ref15_res (p := 4) (q := 5) (r := 6) (ty := 34) (a := ⟨w.heap.size, 0, none⟩) Tryz.results30 rfl (run_loadVar_row (P := Tryz.prog) _ _ _ 34 _ _ _ (blk_set (blk_set (blk_set (blk_set HX1.out 0 (.int .i64 0)) 1 (.int .i64 0)) 2 (.string ⟨#[]⟩)) 3 (.slice none 0 0)) Tryz.underlying34 rfl (by kernel_rfl)) rfl rfl) rfl ⟨by rw [hr.out], below15_set4 HB1.out _ _ _ _⟩
end Go.Proofs.YtjdpnljaichdmaaGreatDoor
