/-
  espalierref2's reader: value: a walk. Printed by a program of mine (gen_rdvalue.py). Conditions: a text of at most 2^20 bytes.
-/
import Derived.Test.YthjpphojddbbmaaGreatDoorCRdText2
import Derived.Test.YthjpphojddbbmaaGreatDoorCPlainL
namespace Go.Proofs.YthjpphojddbbmaaGreatDoor
open Go.RowKit
set_option linter.unusedVariables false
set_option linter.unusedSimpArgs false

def RdvPost (s : ByteArray) (p : Nat) (b : Nat) (w : World) (e : Ending) (w' : World) : Prop :=
  ∃ (pl : Pl) (A : Option Addr) (c : Nat) (p' : Nat) (bad' err' : Int), e = .returned (pl.arg A c) ∧ RdTo w w' b s p p' bad' err' ∧ rng err' = true ∧ pl.sane ∧ Pls.sits w' (fresh w w') pl.list A ∧ (err' = 0 → p < p') ∧
    ((pk s p = 45 ∨ (48 ≤ pk s p ∧ pk s p ≤ 57)) → NumTo s p pl p' err' ∧ A = none ∧ c = 0) ∧ (¬ (pk s p = 45 ∨ (48 ≤ pk s p ∧ pk s p ≤ 57)) → pl.kind ≠ 3)
def RdvAt (d : Int) : Prop := ∀ (s : ByteArray) (_ : s.size ≤ 1048576) (p : Nat) (bad : Int) (_ : rng bad = true) (b : Nat) (w : World), Rdr w b s p bad 0 → p ≤ s.size → Calls Tryz.prog 84 #[.pointer (some ⟨b, 0, none⟩), .int .i64 d] w (RdvPost s p b w)
theorem rdN_pos {l : List UInt8} {v : Int} {k : Nat} (h : rdN l = some (v, k)) : 0 < k := by
  unfold rdN at h
  simp only at h
  generalize hds : ((if decide (l.head? = some 45) = true then l.tail else l).takeWhile digB) = ds at h
  generalize decide (l.head? = some 45) = neg at h
  by_cases h1 : ds = [] ∨ (ds.head? = some 48 ∧ (neg = true ∨ 1 < ds.length))
  · rw [if_pos h1] at h; cases h
  · rw [if_neg h1] at h
    by_cases h2 : (if neg = true then 9223372036854775808 else 9223372036854775807) < digVal ds
    · rw [if_pos h2] at h; cases h
    · rw [if_neg h2] at h
      injection h with h
      injection h with _ h
      have : 0 < ds.length := List.length_pos_iff.2 (fun e => h1 (.inl e))
      omega
/-- What the list's loop carries. -/
structure LsI (w : World) (b P : Nat) (s : ByteArray) (p : Nat) (v : Value) (q : Nat) (bad err : Int) (us : List PlAt) (wr : World) : Prop where
  rdr : Rdr wr b s q bad err
  gr : w.grownBy wr (some b)
  box : wr.heap[w.heap.size]? = some (.cells #[.int .i64 0, .int .i64 0, .string ⟨#[]⟩, .slice none 0 0] 34 (0, 0))
  pbox : wr.heap[P]? = some (.cells #[.int .i64 5, .int .i64 0, .string ⟨#[]⟩, v] 34 (0, 0))
  own : PlOwn (P + 1) wr v us
  le : p < q
  size : q ≤ s.size
  len : us.length + p ≤ q
  len0 : err = 0 → us.length + p < q
  rb : rng bad = true
  re : rng err = true
theorem list_sits {w W : World} {b P : Nat} {s : ByteArray} {p q : Nat} {bad err : Int} {v : Value} {us : List PlAt} {A : Option Addr} {c : Nat} (h : LsI w b P s p v q bad err us W) (hv : v = .slice A us.length c) (hP : w.heap.size < P) (x0 x1 x2 x3 : Value) :
    Pls.sits ((((W.setCell ⟨w.heap.size, 0, none⟩ x0).setCell ⟨w.heap.size, 1, none⟩ x1).setCell ⟨w.heap.size, 2, none⟩ x2).setCell ⟨w.heap.size, 3, none⟩ x3) (fresh w ((((W.setCell ⟨w.heap.size, 0, none⟩ x0).setCell ⟨w.heap.size, 1, none⟩ x1).setCell ⟨w.heap.size, 2, none⟩ x2).setCell ⟨w.heap.size, 3, none⟩ x3)) (us.map PlAt.p) A := by
  obtain ⟨A', c', hv', hs⟩ := h.own.slice
  rw [hv] at hv'
  injection hv' with hA _ _
  subst hA
  refine hs.keep (fun x o hx => ?_) (fun x hx => ⟨by have := hx.1; omega, by rw [size_set, size_set, size_set, size_set]; exact hx.2⟩)
  have hne : x ≠ w.heap.size := by have := hx.1; omega
  rw [cell_far _ _ (p := ⟨w.heap.size, 3, none⟩) hne, cell_far _ _ (p := ⟨w.heap.size, 2, none⟩) hne, cell_far _ _ (p := ⟨w.heap.size, 1, none⟩) hne, cell_far _ _ (p := ⟨w.heap.size, 0, none⟩) hne]
set_option maxRecDepth 100000 in
set_option maxHeartbeats 8000000 in
theorem rdv_step (d : Int) (h0 : 0 ≤ d) (h1 : d ≤ 64) (ih : d < 64 → RdvAt (d + 1)) : RdvAt d := by
  intro s hs p bad hb b w h hp
  obtain ⟨i0, hi, hz0, hz1, hz2⟩ := info_plain_parts
  have hs' : s.size ≤ 140737488351232 := by omega
  obtain ⟨c0, f0, hbl⟩ := h.cells
  have HB := Lib.hid hb
  have IH := Lib.hid ih
  have HR0 := Lib.hid (h.far (.cells #[.int .i64 0, .int .i64 0, .string ⟨#[]⟩, .slice none 0 0] 34))
  have HG0 := Lib.hid (grown_alloc9 (grown_refl w b) (.cells #[.int .i64 0, .int .i64 0, .string ⟨#[]⟩, .slice none 0 0] 34))
  have HX0 := Lib.hid (heap_alloc_new w (.cells #[.int .i64 0, .int .i64 0, .string ⟨#[]⟩, .slice none 0 0] 34))
  have KP := Lib.hid (rd_peek s hs' p bad 0 b _ HR0.out hp)
  clear h hb ih c0 f0
  go_enter Tryz.func84, Tryz.ntmps84
  go_wp2_with fail
  refine KP.out.mono ?_
  rintro e w1 ⟨rfl, hb1⟩
  have HR1 := Lib.hid (HR0.out.below hb1)
  have HG1 := Lib.hid (grown_bel HG0.out hb1)
  have HX1 := Lib.hid ((hb1.block _ (lt_of_block HX0.out)).trans HX0.out)
  obtain ⟨c1, f1, l1⟩ := HR1.out.cells
  clear hb1 KP HR0 HG0 HX0
  by_cases h117 : pk s p = 117
  · have KW := Lib.hid (rd_word s hs' ⟨#[117, 110, 105, 116]⟩ (by decide) (by decide) p bad HB.out b w1 HR1.out hp)
    go_wp2_with fail
    refine KW.out.mono ?_
    rintro e w2 ⟨rfl, p2, bad2, err2, hto, hre, hpp⟩
    have HT := Lib.hid hto
    have HRE := Lib.hid hre
    have HPP := Lib.hid hpp
    have HX2 := Lib.hid ((hto.gr.block _ (lt_of_block HX1.out) (fun e => by injection e with e; omega)).trans HX1.out)
    have k1 := blk_cells9 HX2.out
    have g1 := hto.le
    have g2 := hto.size
    have HC := Lib.hid h117
    clear hto hre hpp KW h117
    go_wp2
    refine bodyPost_ret (fn := Tryz.f84) (v := (Pl.mk 1 0 ⟨#[]⟩ []).arg none 0) (results_cell (p := 4) (ty := 34) (a := ⟨w.heap.size, 0, none⟩) Tryz.results84 rfl (run_loadVar_row (P := Tryz.prog) _ _ _ 34 _ _ _ (blk_set (blk_set (blk_set (blk_set HX2.out 0 (.int .i64 1)) 1 (.int .i64 0)) 2 (.string ⟨#[]⟩)) 3 (.slice none 0 0)) Tryz.underlying34 rfl (by kernel_rfl))) rfl ?_
    exact ⟨.mk 1 0 ⟨#[]⟩ [], none, 0, p2, bad2, err2, rfl, rdto_set4 HT.out.rdr (grown_trans_ HG1.out HT.out.gr) hbl g1 g2 HT.out.rb _ _ _ _, HRE.out, ⟨by rfl, by rfl, by show (0 : Nat) ≤ _; omega, by show (0 : Nat) * 56 ≤ _; omega⟩, (by unfold Pl.list Pls.sits; trivial), HPP.out, fun h => by rw [HC.out] at h; omega, fun _ => by show (1 : Int) ≠ 3; decide⟩
  have d117 : (pk s p == 117) = false := by simp [h117]
  by_cases h121 : pk s p = 121
  · have KW := Lib.hid (rd_word s hs' ⟨#[121, 101, 115]⟩ (by decide) (by decide) p bad HB.out b w1 HR1.out hp)
    go_wp2_with fail
    refine KW.out.mono ?_
    rintro e w2 ⟨rfl, p2, bad2, err2, hto, hre, hpp⟩
    have HT := Lib.hid hto
    have HRE := Lib.hid hre
    have HPP := Lib.hid hpp
    have HX2 := Lib.hid ((hto.gr.block _ (lt_of_block HX1.out) (fun e => by injection e with e; omega)).trans HX1.out)
    have k1 := blk_cells9 HX2.out
    have g1 := hto.le
    have g2 := hto.size
    have HC := Lib.hid h121
    clear hto hre hpp KW h121
    go_wp2
    refine bodyPost_ret (fn := Tryz.f84) (v := (Pl.mk 2 1 ⟨#[]⟩ []).arg none 0) (results_cell (p := 4) (ty := 34) (a := ⟨w.heap.size, 0, none⟩) Tryz.results84 rfl (run_loadVar_row (P := Tryz.prog) _ _ _ 34 _ _ _ (blk_set (blk_set (blk_set (blk_set HX2.out 0 (.int .i64 2)) 1 (.int .i64 1)) 2 (.string ⟨#[]⟩)) 3 (.slice none 0 0)) Tryz.underlying34 rfl (by kernel_rfl))) rfl ?_
    exact ⟨.mk 2 1 ⟨#[]⟩ [], none, 0, p2, bad2, err2, rfl, rdto_set4 HT.out.rdr (grown_trans_ HG1.out HT.out.gr) hbl g1 g2 HT.out.rb _ _ _ _, HRE.out, ⟨by rfl, by rfl, by show (0 : Nat) ≤ _; omega, by show (0 : Nat) * 56 ≤ _; omega⟩, (by unfold Pl.list Pls.sits; trivial), HPP.out, fun h => by rw [HC.out] at h; omega, fun _ => by show (2 : Int) ≠ 3; decide⟩
  have d121 : (pk s p == 121) = false := by simp [h121]
  by_cases h110 : pk s p = 110
  · have KW := Lib.hid (rd_word s hs' ⟨#[110, 111]⟩ (by decide) (by decide) p bad HB.out b w1 HR1.out hp)
    go_wp2_with fail
    refine KW.out.mono ?_
    rintro e w2 ⟨rfl, p2, bad2, err2, hto, hre, hpp⟩
    have HT := Lib.hid hto
    have HRE := Lib.hid hre
    have HPP := Lib.hid hpp
    have HX2 := Lib.hid ((hto.gr.block _ (lt_of_block HX1.out) (fun e => by injection e with e; omega)).trans HX1.out)
    have k1 := blk_cells9 HX2.out
    have g1 := hto.le
    have g2 := hto.size
    have HC := Lib.hid h110
    clear hto hre hpp KW h110
    go_wp2
    refine bodyPost_ret (fn := Tryz.f84) (v := (Pl.mk 2 0 ⟨#[]⟩ []).arg none 0) (results_cell (p := 4) (ty := 34) (a := ⟨w.heap.size, 0, none⟩) Tryz.results84 rfl (run_loadVar_row (P := Tryz.prog) _ _ _ 34 _ _ _ (blk_set (blk_set (blk_set (blk_set HX2.out 0 (.int .i64 2)) 1 (.int .i64 0)) 2 (.string ⟨#[]⟩)) 3 (.slice none 0 0)) Tryz.underlying34 rfl (by kernel_rfl))) rfl ?_
    exact ⟨.mk 2 0 ⟨#[]⟩ [], none, 0, p2, bad2, err2, rfl, rdto_set4 HT.out.rdr (grown_trans_ HG1.out HT.out.gr) hbl g1 g2 HT.out.rb _ _ _ _, HRE.out, ⟨by rfl, by rfl, by show (0 : Nat) ≤ _; omega, by show (0 : Nat) * 56 ≤ _; omega⟩, (by unfold Pl.list Pls.sits; trivial), HPP.out, fun h => by rw [HC.out] at h; omega, fun _ => by show (2 : Int) ≠ 3; decide⟩
  have d110 : (pk s p == 110) = false := by simp [h110]
  by_cases hdg : pk s p = 45 ∨ (48 ≤ pk s p ∧ pk s p ≤ 57)
  · have hps : p < s.size := pk_lt (by omega)
    have KN := Lib.hid (rd_number s hs' p bad HB.out b w1 HR1.out hps)
    have HDG := Lib.hid hdg
    have dd : Hid ((pk s p == 45) = true ∨ ((pk s p == 45) = false ∧ decide (48 ≤ pk s p) = true ∧ decide (pk s p ≤ 57) = true)) := Lib.hid (by
      rcases hdg with h | ⟨h1, h2⟩
      · exact .inl (by simp [h])
      · by_cases h : pk s p = 45
        · exact .inl (by simp [h])
        · exact .inr ⟨by simp [h], by simpa using h1, by simpa using h2⟩)
    clear hdg
    rcases dd.out with d1 | ⟨d1, d2, d3⟩
    all_goals
      go_wp2_with fail
      refine KN.out.mono ?_
      rintro e w2 ⟨pl, p2, bad2, err2, rfl, hto, hre, hnt⟩
      have HT := Lib.hid hto
      have HRE := Lib.hid hre
      have HX2 := Lib.hid ((hto.gr.block _ (lt_of_block HX1.out) (fun e => by injection e with e; omega)).trans HX1.out)
      have g1 := hto.le
      have g2 := hto.size
      have HNT := Lib.hid hnt
      have hpl : (∃ v, pl = .mk 3 v ⟨#[]⟩ [] ∧ rng v = true ∧ (err2 = 0 → p < p2)) ∨ (pl = .mk 0 0 ⟨#[]⟩ [] ∧ (err2 = 0 → p < p2)) := by
        unfold NumTo at hnt
        cases hr : rdN (s.data.toList.drop p) with
        | none => rw [hr] at hnt; exact .inr ⟨hnt.2, fun h => absurd h hnt.1⟩
        | some vk =>
          obtain ⟨v, k⟩ := vk
          rw [hr] at hnt
          have hk := rdN_pos hr
          exact .inl ⟨v, hnt.2.2.1, hnt.2.2.2, fun _ => by have := hnt.2.1; omega⟩
      clear hto hre hnt KN
      rcases hpl with ⟨v, rfl, hv, hpp⟩ | ⟨rfl, hpp⟩
      · have HV := Lib.hid hv
        have HPP := Lib.hid hpp
        clear hv hpp
        have k1 := blk_cells9 HX2.out
        unfold Pl.arg Pl.kind Pl.num Pl.text Pl.list
        go_wp2
        refine bodyPost_ret (fn := Tryz.f84) (v := (Pl.mk 3 v ⟨#[]⟩ []).arg none 0) (results_cell (p := 4) (ty := 34) (a := ⟨w.heap.size, 0, none⟩) Tryz.results84 rfl (run_loadVar_row (P := Tryz.prog) _ _ _ 34 _ _ _ (blk_set (blk_set (blk_set (blk_set HX2.out 0 (.int .i64 3)) 1 (.int .i64 v)) 2 (.string ⟨#[]⟩)) 3 (.slice none 0 0)) Tryz.underlying34 rfl (by kernel_rfl))) rfl ?_
        exact ⟨.mk 3 v ⟨#[]⟩ [], none, 0, p2, bad2, err2, rfl, rdto_set4 HT.out.rdr (grown_trans_ HG1.out HT.out.gr) hbl g1 g2 HT.out.rb _ _ _ _, HRE.out, ⟨by rfl, HV.out, by show (0 : Nat) ≤ _; omega, by show (0 : Nat) * 56 ≤ _; omega⟩, (by unfold Pl.list Pls.sits; trivial), HPP.out, fun _ => ⟨HNT.out, rfl, rfl⟩, fun h => absurd HDG.out h⟩
      · have HPP := Lib.hid hpp
        clear hpp
        have k1 := blk_cells9 HX2.out
        unfold Pl.arg Pl.kind Pl.num Pl.text Pl.list
        go_wp2
        refine bodyPost_ret (fn := Tryz.f84) (v := (Pl.mk 0 0 ⟨#[]⟩ []).arg none 0) (results_cell (p := 4) (ty := 34) (a := ⟨w.heap.size, 0, none⟩) Tryz.results84 rfl (run_loadVar_row (P := Tryz.prog) _ _ _ 34 _ _ _ (blk_set (blk_set (blk_set (blk_set HX2.out 0 (.int .i64 0)) 1 (.int .i64 0)) 2 (.string ⟨#[]⟩)) 3 (.slice none 0 0)) Tryz.underlying34 rfl (by kernel_rfl))) rfl ?_
        exact ⟨.mk 0 0 ⟨#[]⟩ [], none, 0, p2, bad2, err2, rfl, rdto_set4 HT.out.rdr (grown_trans_ HG1.out HT.out.gr) hbl g1 g2 HT.out.rb _ _ _ _, HRE.out, ⟨by rfl, by rfl, by show (0 : Nat) ≤ _; omega, by show (0 : Nat) * 56 ≤ _; omega⟩, (by unfold Pl.list Pls.sits; trivial), HPP.out, fun _ => ⟨HNT.out, rfl, rfl⟩, fun h => absurd HDG.out h⟩
  have HND := Lib.hid hdg
  have d1 : (pk s p == 45) = false := by simp; omega
  have dd : Hid (decide (48 ≤ pk s p) = false ∨ (decide (48 ≤ pk s p) = true ∧ decide (pk s p ≤ 57) = false)) := Lib.hid (by
    by_cases h : 48 ≤ pk s p
    · exact .inr ⟨by simpa using h, by simp; omega⟩
    · exact .inl (by simpa using h))
  clear hdg
  by_cases h34 : pk s p = 34
  · have hps : p < s.size := pk_lt (by omega)
    have KN := Lib.hid (rd_text s hs' p bad HB.out b w1 HR1.out hps)
    clear d117 d121 d110 d1 dd
    go_wp2_with fail
    refine KN.out.mono ?_
    rintro e w2 ⟨pl, p2, bad2, err2, rfl, hto, hre, hl, hsn, hk, hpp⟩
    obtain ⟨kk, nn, tt, ll⟩ := pl
    have hl' : ll = [] := hl
    subst hl'
    have HT := Lib.hid hto
    have HRE := Lib.hid hre
    have HX2 := Lib.hid ((hto.gr.block _ (lt_of_block HX1.out) (fun e => by injection e with e; omega)).trans HX1.out)
    have g1 := hto.le
    have g2 := hto.size
    have HSN := Lib.hid hsn
    have HK := Lib.hid hk
    have HPP := Lib.hid hpp
    have k1 := blk_cells9 HX2.out
    clear hto hre hl hsn hk hpp KN h34
    unfold Pl.arg Pl.kind Pl.num Pl.text Pl.list
    go_wp2
    refine bodyPost_ret (fn := Tryz.f84) (v := (Pl.mk kk nn tt []).arg none 0) (results_cell (p := 4) (ty := 34) (a := ⟨w.heap.size, 0, none⟩) Tryz.results84 rfl (run_loadVar_row (P := Tryz.prog) _ _ _ 34 _ _ _ (blk_set (blk_set (blk_set (blk_set HX2.out 0 (.int .i64 kk)) 1 (.int .i64 nn)) 2 (.string tt)) 3 (.slice none 0 0)) Tryz.underlying34 rfl (by kernel_rfl))) rfl ?_
    exact ⟨.mk kk nn tt [], none, 0, p2, bad2, err2, rfl, rdto_set4 HT.out.rdr (grown_trans_ HG1.out HT.out.gr) hbl g1 g2 HT.out.rb _ _ _ _, HRE.out, HSN.out, (by unfold Pl.list Pls.sits; trivial), HPP.out, fun h => absurd h HND.out, fun _ => HK.out⟩
  have d34 : (pk s p == 34) = false := by simp [h34]
  by_cases h91 : pk s p = 91
  · have d91 : (pk s p == 91) = true := by simp [h91]
    rcases dd.out with d2 | ⟨d2, d3⟩
    all_goals
      by_cases hd : d = 64
      · have q0 : (d == 64) = true := by simp [hd]
        clear hd IH
        go_wp2_with fail
        refine (rd_fail s _ bad 2 _ b w1 HR1.out).mono ?_
        rintro e w9 ⟨rfl, hr9, hg9⟩
        have HR9 := Lib.hid hr9
        have HG9 := Lib.hid (grown_trans_ HG1.out hg9)
        have HX9 := Lib.hid ((hg9.block _ (lt_of_block HX1.out) (fun e => by injection e with e; omega)).trans HX1.out)
        have k1 := blk_cells9 HX9.out
        clear hr9 hg9
        go_wp2
        refine bodyPost_ret (fn := Tryz.f84) (v := (Pl.mk 0 0 ⟨#[]⟩ []).arg none 0) (results_cell (p := 4) (ty := 34) (a := ⟨w.heap.size, 0, none⟩) Tryz.results84 rfl (run_loadVar_row (P := Tryz.prog) _ _ _ 34 _ _ _ (blk_set (blk_set (blk_set (blk_set HX9.out 0 (.int .i64 0)) 1 (.int .i64 0)) 2 (.string ⟨#[]⟩)) 3 (.slice none 0 0)) Tryz.underlying34 rfl (by kernel_rfl))) rfl ?_
        exact ⟨.mk 0 0 ⟨#[]⟩ [], none, 0, p, _, 2, rfl, rdto_set4 HR9.out HG9.out hbl (Nat.le_refl _) hp (rng_iff.2 (by omega)) _ _ _ _, by decide, ⟨by rfl, by rfl, by show (0 : Nat) ≤ _; omega, by show (0 : Nat) * 56 ≤ _; omega⟩, (by unfold Pl.list Pls.sits; trivial), fun h => absurd h (by decide), fun h => absurd h HND.out, fun _ => by show (0 : Int) ≠ 3; decide⟩
      have q0 : (d == 64) = false := by simp [hd]
      have HD := Lib.hid (IH.out (by omega))
      have hps : p < s.size := pk_lt (by omega)
      have HC := Lib.hid h91
      clear hd IH h91
      have HR2 := Lib.hid (show Rdr (w1.setCell ⟨b, 1, none⟩ (.int .i64 ((p : Int) + 1))) b s ((p + 1 : Nat) : Int) bad 0 by rw [show (((p + 1 : Nat)) : Int) = (p : Int) + 1 by omega]; exact HR1.out.step _)
      have HG2 := Lib.hid (grown_put HG1.out 1 (.int .i64 ((p : Int) + 1)))
      have HX2 := Lib.hid (blk_far HX1.out (p := ⟨b, 1, none⟩) (by show w.heap.size ≠ b; omega) (.int .i64 ((p : Int) + 1)))
      have hxl := lt_of_block HX1.out
      have hp3 := heap_alloc_new (w1.setCell ⟨b, 1, none⟩ (.int .i64 ((p : Int) + 1))) (.cells #[.int .i64 5, .int .i64 0, .string ⟨#[]⟩, .slice none 0 0] 34)
      rw [size_set] at hp3
      have HP3 := Lib.hid hp3
      have HR3 := Lib.hid (HR2.out.far (.cells #[.int .i64 5, .int .i64 0, .string ⟨#[]⟩, .slice none 0 0] 34))
      have HG3 := Lib.hid (grown_alloc9 HG2.out (.cells #[.int .i64 5, .int .i64 0, .string ⟨#[]⟩, .slice none 0 0] 34))
      have HX3 := Lib.hid ((Below.heap_alloc (w1.setCell ⟨b, 1, none⟩ (.int .i64 ((p : Int) + 1))) (.cells #[.int .i64 5, .int .i64 0, .string ⟨#[]⟩, .slice none 0 0] 34) _ (by rw [size_set]; exact hxl)).trans HX2.out)
      have KP := Lib.hid (rd_peek s hs' (p + 1) bad 0 b _ HR3.out hps)
      have HPW : Hid (w.heap.size < w1.heap.size) := Lib.hid hxl
      clear hp3 HR2 HG2 HX2
      go_wp2_with fail
      refine KP.out.mono ?_
      rintro e w4 ⟨rfl, hb4⟩
      have HR4 := Lib.hid (HR3.out.below hb4)
      have HG4 := Lib.hid (grown_bel HG3.out hb4)
      have HX4 := Lib.hid ((hb4.block _ (lt_of_block HX3.out)).trans HX3.out)
      have HP4 := Lib.hid ((hb4.block _ (lt_of_block HP3.out)).trans HP3.out)
      clear hb4 KP HR3 HG3 HX3 HP3 c1 f1
      generalize w1.heap.size = P at *
      obtain ⟨c4, f4, l4⟩ := HR4.out.cells
      by_cases h93 : pk s (p + 1) = 93
      · have q1 : (pk s (p + 1) == 93) = true := by simp [h93]
        have hps2 : p + 1 < s.size := pk_lt (by omega)
        have HR5 := Lib.hid (show Rdr (w4.setCell ⟨b, 1, none⟩ (.int .i64 ((p : Int) + 1 + 1))) b s ((p + 2 : Nat) : Int) bad 0 by rw [show (((p + 2 : Nat)) : Int) = (p : Int) + 1 + 1 by omega]; exact HR4.out.step _)
        have HG5 := Lib.hid (grown_put HG4.out 1 (.int .i64 ((p : Int) + 1 + 1)))
        have HX5 := Lib.hid (blk_far HX4.out (p := ⟨b, 1, none⟩) (by show w.heap.size ≠ b; omega) (.int .i64 ((p : Int) + 1 + 1)))
        have HP5 := Lib.hid (blk_far HP4.out (p := ⟨b, 1, none⟩) (by show P ≠ b; omega) (.int .i64 ((p : Int) + 1 + 1)))
        have k1 := blk_cells9 HX5.out
        have k2 := blk_cells9 HP5.out
        obtain ⟨k1, k1'⟩ := k1
        obtain ⟨k2, k2'⟩ := k2
        clear h93
        go_wp2
        refine bodyPost_ret (fn := Tryz.f84) (v := (Pl.mk 5 0 ⟨#[]⟩ []).arg none 0) (results_cell (p := 4) (ty := 34) (a := ⟨w.heap.size, 0, none⟩) Tryz.results84 rfl (run_loadVar_row (P := Tryz.prog) _ _ _ 34 _ _ _ (blk_set (blk_set (blk_set (blk_set HX5.out 0 (.int .i64 5)) 1 (.int .i64 0)) 2 (.string ⟨#[]⟩)) 3 (.slice none 0 0)) Tryz.underlying34 rfl (by kernel_rfl))) rfl ?_
        exact ⟨.mk 5 0 ⟨#[]⟩ [], none, 0, p + 2, bad, 0, rfl, rdto_set4 HR5.out HG5.out hbl (by omega) hps2 HB.out _ _ _ _, by decide, ⟨by rfl, by rfl, by show (0 : Nat) ≤ _; omega, by show (0 : Nat) * 56 ≤ _; omega⟩, (by unfold Pl.list Pls.sits; trivial), fun _ => by omega, fun h => absurd h HND.out, fun _ => by show (5 : Int) ≠ 3; decide⟩
      have q1 : (pk s (p + 1) == 93) = false := by simp [h93]
      have HL0 : Hid (LsI w b P s p (.slice none 0 0) (p + 1) bad 0 [] w4) := Lib.hid ⟨HR4.out, HG4.out, HX4.out, HP4.out, PlOwn.nil _ _, Nat.lt_succ_self _, hps, by simp, fun _ => by simp, HB.out, by decide⟩
      clear h93 HR4 HG4 HX4 HP4
      go_wp2
      clear c4 f4 q1
      go_loopw [7] (fun s7 wr => ∃ (q : Nat) (bad err : Int) (us : List PlAt) (v : Value), LsI w b P s p v q bad err us wr) (fun _ wr => rdM s b wr)
      case atStart => exact ⟨p + 1, bad, 0, [], _, HL0.out⟩
      case round =>
        clear HL0
        obtain ⟨q, bad, err, us, v, hI⟩ := hrel
        have HI := Lib.hid hI
        obtain ⟨c1, f1, l5⟩ := hI.rdr.cells
        have hq := hI.size
        have hpq := hI.le
        have hlq := hI.len
        clear hI
        by_cases he : err = 0
        · subst he
          have KV := Lib.hid (HD.out s hs q bad HI.out.rb b wr HI.out.rdr hq)
          go_wp2_with fail
          refine KV.out.mono ?_
          rintro e w2 ⟨pl, A1, cc1, q2, bad2, err2, rfl, hto, hre, hsn, hsit, hpp, _, _⟩
          have HT := Lib.hid hto
          have HRE := Lib.hid hre
          have HSN := Lib.hid hsn
          have HSI := Lib.hid hsit
          have HPP := Lib.hid hpp
          have g1 := hto.le
          have g2 := hto.size
          have hP2 := (hto.gr.block P (lt_of_block HI.out.pbox) (fun e => by injection e with e; have := HPW.out; omega)).trans HI.out.pbox
          have HP2 := Lib.hid hP2
          have HX2 := Lib.hid ((hto.gr.block _ (lt_of_block HI.out.box) (fun e => by injection e with e; omega)).trans HI.out.box)
          have HG2 := Lib.hid (grown_trans_ HI.out.gr hto.gr)
          have g0 := fun j => alloc_cells_ (o := (.cells #[.int .i64 pl.kind, .int .i64 pl.num, .string pl.text, .slice A1 pl.list.length cc1] 34)) hP2 j
          have hPl := lt_of_block hP2
          have hs2 : wr.heap.size ≤ w2.heap.size := hto.gr.size
          have hkeep : ∀ b', P + 1 ≤ b' → b' < wr.heap.size → w2.heap[b']? = wr.heap[b']? := fun b' h1 h2 => hto.gr.block b' h2 (fun e => by injection e with e; have := HPW.out; omega)
          have HK := Lib.hid hkeep
          have HO2 := Lib.hid (HI.out.own.keep hs2 hkeep)
          have hown2 := Lib.hid ((HO2.out.own.alloc (.cells #[.int .i64 pl.kind, .int .i64 pl.num, .string pl.text, .slice A1 pl.list.length cc1] 34)).alloc (.cells (pl.cells4 A1 cc1).toArray 34))
          obtain ⟨As, cs, hss, _⟩ := HI.out.own.slice
          unfold Pl.cells4 at hown2
          subst hss
          clear hto hre hsn hsit hpp KV hP2 hkeep c1 f1
          unfold Pl.arg
          go_wp2_with (at_builtin; refine wpList_append_lies _ rfl _ _ 24 rfl (P + 1) 34 i0 _ 4 56 Tryz.underlying24 hi hz0 hz1 hz2 rfl (by decide) _ us.length (us.flatMap PlAt.cells) rfl hown2.out ⟨w2.heap.size + 1, 0, none⟩ 1 1 (pl.cells4 A1 cc1) rfl rfl (World.news_of_block (by exact (heap_alloc2 w2 _ _).2)) (by intro u hu; unfold Pl.cells4 at hu; simp at hu; rcases hu with rfl | rfl | rfl | rfl <;> rfl) (by decide) (by unfold maxLen; omega) (by omega) (by simp; omega) (w2.heap.size + 2) (by simp) ?_)
          intro g cap w7 hown7 hgr7 hat hlt7
          have hs7 := hgr7.size
          rw [size_alloc, size_alloc] at hs7
          have hob : ∀ x, (Value.slice As us.length cs).ownBlock = some x → P + 1 ≤ x := fun x e => (HI.out.own.own.lt x e).1
          have hold : ∀ x, x < w2.heap.size → x < P + 1 → w7.heap[x]? = w2.heap[x]? := fun x h1 h2 => (hgr7.block x (by rw [size_alloc, size_alloc]; omega) (fun e => by have := hob x e.symm; omega)).trans ((Below.heap_alloc _ _ _ (by rw [size_alloc]; omega)).trans (Below.heap_alloc _ _ _ h1))
          have hwP := HPW.out
          have hP7 := (hold P hPl (by omega)).trans HP2.out
          have HP7 := Lib.hid hP7
          have p0 := blkp_cells hP7
          have p1 := blkp_free hP7
          have HO7 := Lib.hid (PlOwn.step HI.out.own ⟨pl, A1, cc1⟩ (by have := lt_of_block HI.out.pbox; omega) (w6 := w2.alloc (.cells #[.int .i64 pl.kind, .int .i64 pl.num, .string pl.text, .slice A1 pl.list.length cc1] 34)) (by rw [size_alloc]; omega)
            (fun x h1 h2 => (Below.heap_alloc _ _ _ (by omega)).trans (HK.out x h1 h2))
            ⟨HSN.out, HSI.out.keep (fun x o hs => World.cell?_alloc_lt _ _ _ hs.2) (fun x hs => ⟨hs.1, by rw [size_alloc]; have := hs.2; omega⟩)⟩ hgr7 (by rw [size_alloc]; exact hat) hown7)
          have HG7 := Lib.hid (grown_below_ (grown_alloc_ (grown_alloc_ HG2.out (.cells #[.int .i64 pl.kind, .int .i64 pl.num, .string pl.text, .slice A1 pl.list.length cc1] 34)) (.cells (pl.cells4 A1 cc1).toArray 34)) hgr7 (fun x e => by have := hob x e; omega))
          have HR7 : Hid (Rdr w7 b s q2 bad2 err2) := Lib.hid ((hold b (by have := lt_of_block HX2.out; omega) (by omega)).trans HT.out.rdr)
          have HX7 := Lib.hid ((hold w.heap.size (lt_of_block HX2.out) (by omega)).trans HX2.out)
          have hPl7 := lt_of_block hP7
          clear hown7 hgr7 hat hold hob hown2 g0 hP7
          have HI8 : Hid (LsI w b P s p (.slice (some ⟨g, 0, none⟩) (us.length + 1) cap) q2 bad2 err2 (us ++ [(⟨pl, A1, cc1⟩ : PlAt)]) (w7.setCell ⟨P, 3, none⟩ (.slice (some ⟨g, 0, none⟩) (us.length + 1) cap))) := Lib.hid
            ⟨blk_far HR7.out (by show b ≠ P; omega) _, grown_set_ HG7.out _ (by show w.heap.size ≤ P; omega) _, blk_far HX7.out (by show w.heap.size ≠ P; omega) _, blk_set HP7.out 3 _, HO7.out.keep (by rw [size_set]; omega) (fun x h1 h2 => Below.heap_setCell _ _ _ _ (by show x ≠ P; omega)), by omega, g2, by rw [List.length_append]; have := HI.out.len0 rfl; simp; omega, fun h => by rw [List.length_append]; have := HI.out.len0 rfl; have := HPP.out h; simp; omega, HT.out.rb, HRE.out⟩
          clear HX2 HP2 HO2 HO7 HR7 HX7 HG7 HP7 HK HSI HSN hPl hPl7 hlt7 hs7 hs2
          go_upto_region 29 with fail
          generalize w7.setCell ⟨P, 3, none⟩ (.slice (some ⟨g, 0, none⟩) (us.length + 1) cap) = w8 at *
          generalize us ++ [(⟨pl, A1, cc1⟩ : PlAt)] = us2 at *
          generalize Value.slice (some ⟨g, 0, none⟩) (us.length + 1) cap = v8 at *
          clear p0 p1
          obtain ⟨c8, f8, l8⟩ := HI8.out.rdr.cells
          have HPQ : Hid (err2 = 0 → q < q2) := HPP
          by_cases he2 : err2 = 0
          · subst he2
            have KP := Lib.hid (rd_peek s hs' q2 bad2 0 b w8 HI8.out.rdr g2)
            go_wp2_with fail
            refine KP.out.mono ?_
            rintro e w9 ⟨rfl, hb9⟩
            have HI9 : Hid (LsI w b P s p v8 q2 bad2 0 us2 w9) := Lib.hid ⟨HI8.out.rdr.below hb9, grown_bel HI8.out.gr hb9, (hb9.block _ (lt_of_block HI8.out.box)).trans HI8.out.box, (hb9.block _ (lt_of_block HI8.out.pbox)).trans HI8.out.pbox, HI8.out.own.keep hb9.size (fun x _ h2 => hb9.block x h2), HI8.out.le, g2, HI8.out.len, HI8.out.len0, HI8.out.rb, by decide⟩
            obtain ⟨c9, f9, l9⟩ := HI9.out.rdr.cells
            clear hb9 KP HI8 c8 f8
            by_cases h93b : pk s q2 = 93
            · have z1 : (pk s q2 == 93) = true := by simp [h93b]
              have hqs2 : q2 < s.size := pk_lt (by omega)
              clear h93b
              have HI10 : Hid (LsI w b P s p v8 (q2 + 1) bad2 0 us2 (w9.setCell ⟨b, 1, none⟩ (.int .i64 ((q2 : Int) + 1)))) := Lib.hid ⟨by rw [show (((q2 + 1 : Nat)) : Int) = (q2 : Int) + 1 by omega]; exact HI9.out.rdr.step _, grown_put HI9.out.gr 1 _, blk_far HI9.out.box (by show w.heap.size ≠ b; omega) _, blk_far HI9.out.pbox (by show P ≠ b; have := HPW.out; omega) _, HI9.out.own.keep (by rw [size_set]; omega) (fun x h1 _ => Below.heap_setCell _ _ _ _ (by show x ≠ b; have := HPW.out; omega)), by have := HI9.out.le; omega, hqs2, by have := HI9.out.len; omega, fun _ => by have := HI9.out.len; omega, HI9.out.rb, by decide⟩
              obtain ⟨As9, cs9, hv9, _⟩ := HI10.out.own.slice
              have HV9 := Lib.hid hv9
              have hx9 := blk_cells9 HI10.out.box
              have hq9 := blk_cells9 HI10.out.pbox
              rw [hv9] at hq9
              obtain ⟨hx9, hx9'⟩ := hx9
              obtain ⟨hq9, hq9'⟩ := hq9
              have hul9 : us2.length ≤ 1048576 := by have := HI10.out.len; have := HI10.out.size; omega
              clear hv9
              go_wp2
              refine bodyPost_ret (fn := Tryz.f84) (v := .agg #[.int .i64 5, .int .i64 0, .string ⟨#[]⟩, .slice As9 us2.length cs9]) (results_cell (p := 4) (ty := 34) (a := ⟨w.heap.size, 0, none⟩) Tryz.results84 rfl (run_loadVar_row (P := Tryz.prog) _ _ _ 34 _ _ _ (blk_set (blk_set (blk_set (blk_set HI10.out.box 0 (.int .i64 5)) 1 (.int .i64 0)) 2 (.string ⟨#[]⟩)) 3 (.slice As9 us2.length cs9)) Tryz.underlying34 rfl (by kernel_rfl))) rfl ?_
              exact ⟨.mk 5 0 ⟨#[]⟩ (us2.map PlAt.p), As9, cs9, q2 + 1, bad2, 0, by unfold Pl.arg Pl.kind Pl.num Pl.text Pl.list; rw [List.length_map], rdto_set4 HI10.out.rdr HI10.out.gr hbl (by have := HI10.out.le; omega) HI10.out.size HI10.out.rb _ _ _ _, HI10.out.re, ⟨by rfl, by rfl, by show (0 : Nat) ≤ _; omega, by show (us2.map PlAt.p).length * 56 ≤ _; rw [List.length_map]; omega⟩, list_sits HI10.out HV9.out HPW.out _ _ _ _, fun _ => by have := HI10.out.le; omega, fun h => absurd h HND.out, fun _ => by show (5 : Int) ≠ 3; decide⟩
            · have z1 : (pk s q2 == 93) = false := by simp [h93b]
              have KW := Lib.hid (rd_word s hs' ⟨#[44, 32]⟩ (by decide) (by decide) q2 bad2 HI9.out.rb b w9 HI9.out.rdr g2)
              clear h93b
              go_wp2_with fail
              refine KW.out.mono ?_
              rintro e w10 ⟨rfl, q3, bad3, err3, hto, hre, hpp⟩
              have k1 := hto.le
              have k2 := hto.size
              have HI10 : Hid (LsI w b P s p v8 q3 bad3 err3 us2 w10) := Lib.hid ⟨hto.rdr, grown_trans_ HI9.out.gr hto.gr, (hto.gr.block _ (lt_of_block HI9.out.box) (fun e => by injection e with e; omega)).trans HI9.out.box, (hto.gr.block _ (lt_of_block HI9.out.pbox) (fun e => by injection e with e; have := HPW.out; omega)).trans HI9.out.pbox, HI9.out.own.keep hto.gr.size (fun x h1 h2 => hto.gr.block x h2 (fun e => by injection e with e; have := HPW.out; omega)), by omega, k2, by have := HI9.out.len; omega, fun _ => by have := HI9.out.len0 rfl; omega, hto.rb, hre⟩
              clear hto hre hpp KW c9 f9
              go_wp2
              go_roundw
              case rel => exact ⟨q3, bad3, err3, us2, v8, HI10.out⟩
              case measure =>
                rw [rdM_eq HI10.out.rdr, rdM_eq HI.out.rdr]
                have := HPQ.out (by first | rfl | trivial)
                split <;> simp <;> omega
          · have z0 : (err2 == 0) = false := by simpa using he2
            have HE2 := Lib.hid he2
            clear he2
            go_wp2
            go_roundw
            case rel => exact ⟨q2, bad2, err2, us2, v8, HI8.out⟩
            case measure =>
              rw [rdM_eq HI8.out.rdr, rdM_eq HI.out.rdr, if_neg HE2.out]
              simp
              omega
        · have z0 : (err == 0) = false := by simpa using he
          have HE := Lib.hid he
          clear he
          obtain ⟨As9, cs9, hv9, _⟩ := HI.out.own.slice
          have HV9 := Lib.hid hv9
          have hx9 := blk_cells9 HI.out.box
          have hq9 := blk_cells9 HI.out.pbox
          rw [hv9] at hq9
          obtain ⟨hx9, hx9'⟩ := hx9
          obtain ⟨hq9, hq9'⟩ := hq9
          have hul9 : us.length ≤ 1048576 := by have := HI.out.len; have := HI.out.size; omega
          clear hv9
          go_wp2
          refine bodyPost_ret (fn := Tryz.f84) (v := .agg #[.int .i64 5, .int .i64 0, .string ⟨#[]⟩, .slice As9 us.length cs9]) (results_cell (p := 4) (ty := 34) (a := ⟨w.heap.size, 0, none⟩) Tryz.results84 rfl (run_loadVar_row (P := Tryz.prog) _ _ _ 34 _ _ _ (blk_set (blk_set (blk_set (blk_set HI.out.box 0 (.int .i64 5)) 1 (.int .i64 0)) 2 (.string ⟨#[]⟩)) 3 (.slice As9 us.length cs9)) Tryz.underlying34 rfl (by kernel_rfl))) rfl ?_
          exact ⟨.mk 5 0 ⟨#[]⟩ (us.map PlAt.p), As9, cs9, q, bad, err, by unfold Pl.arg Pl.kind Pl.num Pl.text Pl.list; rw [List.length_map], rdto_set4 HI.out.rdr HI.out.gr hbl (by have := HI.out.le; omega) HI.out.size HI.out.rb _ _ _ _, HI.out.re, ⟨by rfl, by rfl, by show (0 : Nat) ≤ _; omega, by show (us.map PlAt.p).length * 56 ≤ _; rw [List.length_map]; omega⟩, list_sits HI.out HV9.out HPW.out _ _ _ _, fun h => absurd h HE.out, fun h => absurd h HND.out, fun _ => by show (5 : Int) ≠ 3; decide⟩
  have d91 : (pk s p == 91) = false := by simp [h91]
  rcases dd.out with d2 | ⟨d2, d3⟩
  all_goals
    go_wp2_with fail
    refine (rd_fail s _ bad 5 _ b w1 HR1.out).mono ?_
    rintro e w9 ⟨rfl, hr9, hg9⟩
    have HR9 := Lib.hid hr9
    have HG9 := Lib.hid (grown_trans_ HG1.out hg9)
    have HX9 := Lib.hid ((hg9.block _ (lt_of_block HX1.out) (fun e => by injection e with e; omega)).trans HX1.out)
    have k1 := blk_cells9 HX9.out
    clear hr9 hg9
    go_wp2
    refine bodyPost_ret (fn := Tryz.f84) (v := (Pl.mk 0 0 ⟨#[]⟩ []).arg none 0) (results_cell (p := 4) (ty := 34) (a := ⟨w.heap.size, 0, none⟩) Tryz.results84 rfl (run_loadVar_row (P := Tryz.prog) _ _ _ 34 _ _ _ (blk_set (blk_set (blk_set (blk_set HX9.out 0 (.int .i64 0)) 1 (.int .i64 0)) 2 (.string ⟨#[]⟩)) 3 (.slice none 0 0)) Tryz.underlying34 rfl (by kernel_rfl))) rfl ?_
    exact ⟨.mk 0 0 ⟨#[]⟩ [], none, 0, p, _, 5, rfl, rdto_set4 HR9.out HG9.out hbl (Nat.le_refl _) hp (rng_iff.2 (by omega)) _ _ _ _, by decide, ⟨by rfl, by rfl, by show (0 : Nat) ≤ _; omega, by show (0 : Nat) * 56 ≤ _; omega⟩, (by unfold Pl.list Pls.sits; trivial), fun h => absurd h (by decide), fun h => absurd h HND.out, fun _ => by show (0 : Int) ≠ 3; decide⟩
theorem rdv_all : ∀ (n : Nat) (d : Int), 0 ≤ d → d + n = 64 → RdvAt d
  | 0, d, h0, h1 => rdv_step d h0 (by omega) (fun h => absurd h (by omega))
  | n + 1, d, h0, h1 => rdv_step d h0 (by omega) (fun _ => rdv_all n (d + 1) (by omega) (by omega))
end Go.Proofs.YthjpphojddbbmaaGreatDoor
