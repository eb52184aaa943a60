/-
  espalierref2.Read of any text: a walk. Conditions: none.
-/
import Derived.Test.YthjpphojddbbmaaGreatDoorCRdValue
import Derived.Test.YthjpphojddbbmaaGreatDoorCPlLeft
import Derived.Lib.ItoaLen
import Derived.RegionTactic
namespace Go.Proofs.YthjpphojddbbmaaGreatDoor
open Go.RowKit
set_option linter.unusedVariables false
set_option linter.unusedSimpArgs false

/-- The number whose one text this is. -/
def IsNum (s : ByteArray) (n : Int) : Prop := rng n = true ∧ s.data.toList = Lib.itoa n
def ReadPost (s : ByteArray) (w : World) (e : Ending) (w' : World) : Prop :=
  ∃ (pl : Pl) (A : Option Addr) (c : Nat) (q err : Int), e = .returned (.tuple #[pl.arg A c, .int .i64 q, .int .i64 err]) ∧ Below w.heap.size w w' ∧ (∀ n, IsNum s n → err = 0 ∧ pl = .mk 3 n ⟨#[]⟩ [] ∧ A = none ∧ c = 0) ∧ ((∀ n, ¬ IsNum s n) → err = 0 → pl.kind ≠ 3)
theorem isNum_first {s : ByteArray} {n : Int} (h : IsNum s n) : pk s 0 = 45 ∨ (48 ≤ pk s 0 ∧ pk s 0 ≤ 57) := by
  have hd : ∀ u : Nat, ∃ c r, Lib.decDigits u = c :: r ∧ digB c = true := fun u => by
    have h1 := (dec_all u).1
    cases hn : Lib.decDigits u with
    | nil => exact absurd hn (dec_nil u)
    | cons c r => rw [hn] at h1; simp at h1; exact ⟨c, r, rfl, h1.1⟩
  unfold pk
  rw [h.2]
  unfold Lib.itoa
  by_cases hn : n < 0
  · rw [if_pos hn]; left; rfl
  · rw [if_neg hn]
    obtain ⟨c, r, e, hc⟩ := hd n.natAbs
    right
    first
      | (rw [e]; simp only [List.getElem?_cons_zero]; simp [digB] at hc; omega)
      | (have e2 : n.toNat = n.natAbs := by omega
         rw [e2, e]; simp only [List.getElem?_cons_zero]; simp [digB] at hc; omega)
theorem isNum_size {s : ByteArray} {n : Int} (h : IsNum s n) : s.size ≤ 21 := by
  obtain ⟨h1, h2⟩ := h
  rw [rng_iff] at h1
  have hl : s.size = (Lib.itoa n).length := by rw [← h2]; exact Lib.size_eq s
  have := Lib.itoa_length_le n (by omega) (by omega)
  omega
theorem isNum_of {s : ByteArray} {v : Int} {k : Nat} (h : rdN (s.data.toList.drop 0) = some (v, k)) (hk : k = s.size) : IsNum s v := by
  rw [List.drop_zero] at h
  have hl : s.data.toList.length = k := by rw [hk]; exact (Lib.size_eq s).symm
  rw [← hl] at h
  obtain ⟨h1, h2, h3⟩ := rdN_back h
  exact ⟨rng_iff.2 ⟨by omega, by omega⟩, h1.symm⟩
theorem isNum_rd {s : ByteArray} {n : Int} (h : IsNum s n) : rdN (s.data.toList.drop 0) = some (n, s.size) := by
  obtain ⟨h1, h2⟩ := h
  rw [rng_iff] at h1
  rw [List.drop_zero]
  have hl : s.size = (Lib.itoa n).length := by rw [← h2]; exact Lib.size_eq s
  rw [h2, rdN_itoa (by omega) (by omega), hl]
/-- The text that is read tells whether it is a number's. -/
theorem read_facts {s : ByteArray} {pl : Pl} {q : Nat} {err : Int} (h1 : (pk s 0 = 45 ∨ (48 ≤ pk s 0 ∧ pk s 0 ≤ 57)) → NumTo s 0 pl q err) (h2 : ¬ (pk s 0 = 45 ∨ (48 ≤ pk s 0 ∧ pk s 0 ≤ 57)) → pl.kind ≠ 3) :
    (∀ n, IsNum s n → err = 0 ∧ pl = .mk 3 n ⟨#[]⟩ [] ∧ q = s.size) ∧ ((∀ n, ¬ IsNum s n) → err = 0 → s.size ≤ q → q ≤ s.size → pl.kind ≠ 3) := by
  refine ⟨fun n hn => ?_, fun hn he hq hq2 => ?_⟩
  · have h := h1 (isNum_first hn)
    unfold NumTo at h
    rw [isNum_rd hn] at h
    exact ⟨h.1, h.2.2.1, by omega⟩
  · by_cases hd : pk s 0 = 45 ∨ (48 ≤ pk s 0 ∧ pk s 0 ≤ 57)
    · have h := h1 hd
      unfold NumTo at h
      cases hr : rdN (s.data.toList.drop 0) with
      | none => rw [hr] at h; exact absurd he h.1
      | some vk =>
        obtain ⟨v, k⟩ := vk
        rw [hr] at h
        exact absurd (isNum_of hr (by omega)) (hn v)
    · exact h2 hd
theorem res_cell_t2 {P : Program} {fn : Func} {p q r : Tmp} {ty : TypeId} (h : fn.results = #[.cell p ty, .tmp q, .tmp r]) {tmps : Array Value} {a : Addr} (ht : tmps.getD p undef = .pointer (some a)) {w : World} {v u x : Value} (hl : (loadVar ty a).run P w = .ok v w) (hu : tmps.getD q undef = u) (hx : tmps.getD r undef = x) :
    (results fn tmps).run P w = .ok (.tuple #[v, u, x]) w := by
  unfold results
  simp only [h]
  have ht' : tmps[p]?.getD undef = .pointer (some a) := by simpa using ht
  have hu' : tmps[q]?.getD undef = u := by simpa using hu
  have hx' : tmps[r]?.getD undef = x := by simpa using hx
  simp [ht', hu', hx', asAddr, hl]
theorem below_put4 {w W : World} (h : Below w.heap.size w W) (x0 x1 x2 x3 : Value) : Below w.heap.size w ((((W.setCell ⟨w.heap.size, 0, none⟩ x0).setCell ⟨w.heap.size, 1, none⟩ x1).setCell ⟨w.heap.size, 2, none⟩ x2).setCell ⟨w.heap.size, 3, none⟩ x3) :=
  (((h.setCell (p := ⟨w.heap.size, 0, none⟩) (Nat.le_refl _) _).setCell (p := ⟨w.heap.size, 1, none⟩) (Nat.le_refl _) _).setCell (p := ⟨w.heap.size, 2, none⟩) (Nat.le_refl _) _).setCell (p := ⟨w.heap.size, 3, none⟩) (Nat.le_refl _) _
theorem below_grown {w w1 W : World} {b : Nat} (h : Below w.heap.size w w1) (hb : w.heap.size ≤ b) (hg : w1.grownBy W (some b)) : Below w.heap.size w W :=
  h.trans ⟨hg.os, hg.tape, hg.output, hg.size, fun k hk => hg.block k (Nat.lt_of_lt_of_le hk h.size) (fun e => by injection e with e; omega)⟩
theorem may_num (n : Int) : decide (0 ≤ (Pl.mk 3 n ⟨#[]⟩ []).left 65536 0) = true := by
  unfold Pl.left
  first
    | rfl
    | (simp; done)
    | decide
set_option maxRecDepth 100000 in
set_option maxHeartbeats 8000000 in
theorem ref2_Read (s : ByteArray) (hs : s.size ≤ 140737488351232) (w : World) : Calls Tryz.prog 64 #[.string s] w (ReadPost s w) := by
  by_cases hbig : 1048576 < s.size
  · have q0 : decide ((1048576 : Int) < (s.size : Int)) = true := by simp; omega
    have HX0 := Lib.hid (heap_alloc_new w (.cells #[.int .i64 0, .int .i64 0, .string ⟨#[]⟩, .slice none 0 0] 34))
    have HN := Lib.hid (fun n (hn : IsNum s n) => by have := isNum_size hn; omega : ∀ n, IsNum s n → False)
    clear hbig
    go_enter Tryz.func64, Tryz.ntmps64
    go_wp2
    refine bodyPost_ret (fn := Tryz.f64) (v := .tuple #[(Pl.mk 0 0 ⟨#[]⟩ []).arg none 0, .int .i64 0, .int .i64 2]) (res_cell_t2 (p := 2) (q := 3) (r := 4) (ty := 34) (a := ⟨w.heap.size, 0, none⟩) Tryz.results64 rfl (run_loadVar_row (P := Tryz.prog) _ _ _ 34 _ _ _ HX0.out Tryz.underlying34 rfl (by kernel_rfl)) rfl rfl) rfl ?_
    exact ⟨.mk 0 0 ⟨#[]⟩ [], none, 0, 0, 2, rfl, (Below.refl _ _).alloc (Nat.le_refl _) _, fun n hn => (HN.out n hn).elim, fun _ h => absurd h (by decide)⟩
  · have q0 : decide ((1048576 : Int) < (s.size : Int)) = false := by simp; omega
    have HX0 := Lib.hid (heap_alloc_new w (.cells #[.int .i64 0, .int .i64 0, .string ⟨#[]⟩, .slice none 0 0] 34))
    have HX1 := Lib.hid ((Below.heap_alloc (w.alloc (.cells #[.int .i64 0, .int .i64 0, .string ⟨#[]⟩, .slice none 0 0] 34)) (.cells #[.string s, .int .i64 0, .int .i64 0, .int .i64 0] 165) w.heap.size (by simp)).trans HX0.out)
    have hr1 := heap_alloc_new (w.alloc (.cells #[.int .i64 0, .int .i64 0, .string ⟨#[]⟩, .slice none 0 0] 34)) (.cells #[.string s, .int .i64 0, .int .i64 0, .int .i64 0] 165)
    rw [size_alloc] at hr1
    have HR1 : Hid (Rdr ((w.alloc (.cells #[.int .i64 0, .int .i64 0, .string ⟨#[]⟩, .slice none 0 0] 34)).alloc (.cells #[.string s, .int .i64 0, .int .i64 0, .int .i64 0] 165)) (w.heap.size + 1) s ((0 : Nat) : Int) 0 0) := Lib.hid hr1
    have HB1 := Lib.hid (((Below.refl w.heap.size w).alloc (Nat.le_refl _) (.cells #[.int .i64 0, .int .i64 0, .string ⟨#[]⟩, .slice none 0 0] 34)).alloc (by simp) (.cells #[.string s, .int .i64 0, .int .i64 0, .int .i64 0] 165))
    have KV := Lib.hid (rdv_all 64 0 (by decide) (by decide) s (by omega) 0 0 (by decide) _ _ HR1.out (Nat.zero_le _))
    clear hbig hr1 HX0
    go_enter Tryz.func64, Tryz.ntmps64
    go_wp2_with fail
    refine KV.out.mono ?_
    rintro e w2 ⟨pl, A, c, q, bad, err, rfl, hto, hre, hsn, hsit, _, hn1, hn2⟩
    have HF := Lib.hid (read_facts (fun h => (hn1 h).1) hn2)
    have HAC := Lib.hid (fun n (hn : IsNum s n) => (hn1 (isNum_first hn)).2 : ∀ n, IsNum s n → A = none ∧ c = 0)
    have HSN := Lib.hid hsn
    have HX2 := Lib.hid ((hto.gr.block _ (lt_of_block HX1.out) (fun e => by injection e with e; omega)).trans HX1.out)
    have HB2 := Lib.hid (below_grown HB1.out (by omega) hto.gr)
    have HS2 := Lib.hid (Pls.sits.lies (B := w2.heap.size) (fun b hb => hb.2) _ _ hsit)
    have HXX := Lib.hid (heap_alloc_new w2 (.cells #[.int .i64 pl.kind, .int .i64 pl.num, .string pl.text, .slice A pl.list.length c] 34))
    have HR2 : Hid (Rdr (w2.alloc (.cells #[.int .i64 pl.kind, .int .i64 pl.num, .string pl.text, .slice A pl.list.length c] 34)) (w.heap.size + 1) s q bad err) := Lib.hid (hto.rdr.far _)
    have HX3 := Lib.hid ((Below.heap_alloc w2 (.cells #[.int .i64 pl.kind, .int .i64 pl.num, .string pl.text, .slice A pl.list.length c] 34) _ (lt_of_block HX2.out)).trans HX2.out)
    have HB3 := Lib.hid (HB2.out.alloc HB2.out.size (.cells #[.int .i64 pl.kind, .int .i64 pl.num, .string pl.text, .slice A pl.list.length c] 34))
    have HS3 := Lib.hid (HS2.out.below ((Below.refl w2.heap.size w2).alloc (Nat.le_refl _) (.cells #[.int .i64 pl.kind, .int .i64 pl.num, .string pl.text, .slice A pl.list.length c] 34)) (by simp : w2.heap.size ≤ (w2.alloc (.cells #[.int .i64 pl.kind, .int .i64 pl.num, .string pl.text, .slice A pl.list.length c] 34)).heap.size))
    have hq := hto.size
    have HRB := Lib.hid hto.rb
    clear hto hre hsn hsit hn1 hn2 KV HX1 HR1 HB1 HX2 HB2 HS2
    unfold Pl.arg
    go_upto_region 5 with fail
    generalize w2.heap.size = P2 at *
    generalize w2.alloc (.cells #[.int .i64 pl.kind, .int .i64 pl.num, .string pl.text, .slice A pl.list.length c] 34) = w3 at *
    obtain ⟨c3, f3, l3⟩ := HR2.out.cells
    by_cases he : err = 0
    · subst he
      by_cases hlt : q < s.size
      · have z1 : decide (q < s.size) = true := by simpa using hlt
        have HLT := Lib.hid hlt
        clear hlt
        go_wp2_with fail
        refine (rd_fail s _ bad 5 _ _ w3 HR2.out).mono ?_
        rintro e w4 ⟨rfl, hr4, hg4⟩
        have HR4 := Lib.hid hr4
        have HX4 := Lib.hid ((hg4.block _ (lt_of_block HX3.out) (fun e => by injection e with e; omega)).trans HX3.out)
        have HB4 := Lib.hid (below_grown HB3.out (by omega) hg4)
        obtain ⟨c4, f4, l4⟩ := hr4.cells
        clear hr4 hg4 c3 f3 l3
        have k1 := blk_cells9 HX4.out
        obtain ⟨k1, k1'⟩ := k1
        go_wp2_with fail
        go_region
        go_wp2
        refine bodyPost_ret (fn := Tryz.f64) (v := .tuple #[(Pl.mk 0 0 ⟨#[]⟩ []).arg none 0, .int .i64 (q : Int), .int .i64 5]) (res_cell_t2 (p := 2) (q := 3) (r := 4) (ty := 34) (a := ⟨w.heap.size, 0, none⟩) Tryz.results64 rfl (run_loadVar_row (P := Tryz.prog) _ _ _ 34 _ _ _ (blk_set (blk_set (blk_set (blk_set HX4.out 0 (.int .i64 0)) 1 (.int .i64 0)) 2 (.string ⟨#[]⟩)) 3 (.slice none 0 0)) Tryz.underlying34 rfl (by kernel_rfl)) rfl rfl) rfl ?_
        exact ⟨.mk 0 0 ⟨#[]⟩ [], none, 0, (q : Int), 5, rfl, (below_put4 HB4.out _ _ _ _).drew, fun n hn => by (have := (HF.out.1 n hn).2.2; have := HLT.out; omega), fun _ h => absurd h (by decide)⟩
      · have z1 : decide (q < s.size) = false := by simpa using hlt
        have hqs : q = s.size := by omega
        have HQS := Lib.hid hqs
        have KM := Lib.hid (ref2_May pl A c w3 HSN.out HS3.out)
        have kx := blk_cells9 HXX.out
        obtain ⟨kx, kx'⟩ := kx
        clear hlt hqs
        unfold Pl.arg at KM
        cases hm : decide (0 ≤ pl.left 65536 0)
        · rw [hm] at KM
          have HM := Lib.hid hm
          clear hm
          go_wp2_with fail
          refine KM.out.mono ?_
          rintro e w5 ⟨rfl, hb5⟩
          have HR5 := Lib.hid (HR2.out.below hb5)
          have HX5 := Lib.hid ((hb5.block _ (lt_of_block HX3.out)).trans HX3.out)
          have HB5 := Lib.hid (HB3.out.trans (hb5.mono HB3.out.size))
          clear hb5 KM c3 f3 l3 kx kx'
          obtain ⟨c3, f3, l3⟩ := HR5.out.cells
          go_wp2_with fail
          refine (rd_fail s _ bad 2 _ _ w5 HR5.out).mono ?_
          rintro e w4 ⟨rfl, hr4, hg4⟩
          have HR4 := Lib.hid hr4
          have HX4 := Lib.hid ((hg4.block _ (lt_of_block HX5.out) (fun e => by injection e with e; omega)).trans HX5.out)
          have HB4 := Lib.hid (below_grown HB5.out (by omega) hg4)
          obtain ⟨c4, f4, l4⟩ := hr4.cells
          clear hr4 hg4 c3 f3 l3
          have k1 := blk_cells9 HX4.out
          obtain ⟨k1, k1'⟩ := k1
          go_wp2_with fail
          go_region
          go_wp2
          refine bodyPost_ret (fn := Tryz.f64) (v := .tuple #[(Pl.mk 0 0 ⟨#[]⟩ []).arg none 0, .int .i64 (s.size : Int), .int .i64 2]) (res_cell_t2 (p := 2) (q := 3) (r := 4) (ty := 34) (a := ⟨w.heap.size, 0, none⟩) Tryz.results64 rfl (run_loadVar_row (P := Tryz.prog) _ _ _ 34 _ _ _ (blk_set (blk_set (blk_set (blk_set HX4.out 0 (.int .i64 0)) 1 (.int .i64 0)) 2 (.string ⟨#[]⟩)) 3 (.slice none 0 0)) Tryz.underlying34 rfl (by kernel_rfl)) rfl rfl) rfl ?_
          exact ⟨.mk 0 0 ⟨#[]⟩ [], none, 0, (s.size : Int), 2, rfl, (below_put4 HB4.out _ _ _ _).drew, fun n hn => (by have h9 := HM.out; rw [(HF.out.1 n hn).2.1, may_num] at h9; cases h9), fun _ h => absurd h (by decide)⟩
        · rw [hm] at KM
          clear hm
          go_wp2_with fail
          refine KM.out.mono ?_
          rintro e w5 ⟨rfl, hb5⟩
          have HR5 := Lib.hid (HR2.out.below hb5)
          have HX5 := Lib.hid ((hb5.block _ (lt_of_block HX3.out)).trans HX3.out)
          have HXX5 := Lib.hid ((hb5.block _ (lt_of_block HXX.out)).trans HXX.out)
          have HB5 := Lib.hid (HB3.out.trans (hb5.mono HB3.out.size))
          clear hb5 KM c3 f3 l3 kx kx'
          obtain ⟨c3, f3, l3⟩ := HR5.out.cells
          have k1 := blk_cells9 HX5.out
          have kx := blk_cells9 HXX5.out
          obtain ⟨k1, k1'⟩ := k1
          obtain ⟨kx, kx'⟩ := kx
          go_wp2
          refine bodyPost_ret (fn := Tryz.f64) (v := .tuple #[pl.arg A c, .int .i64 0, .int .i64 0]) (res_cell_t2 (p := 2) (q := 3) (r := 4) (ty := 34) (a := ⟨w.heap.size, 0, none⟩) Tryz.results64 rfl (run_loadVar_row (P := Tryz.prog) _ _ _ 34 _ _ _ (blk_set (blk_set (blk_set (blk_set HX5.out 0 (.int .i64 pl.kind)) 1 (.int .i64 pl.num)) 2 (.string pl.text)) 3 (.slice A pl.list.length c)) Tryz.underlying34 rfl (by kernel_rfl)) rfl rfl) rfl ?_
          exact ⟨pl, A, c, 0, 0, rfl, below_put4 HB5.out _ _ _ _, fun n hn => ⟨rfl, (HF.out.1 n hn).2.1, HAC.out n hn⟩, fun hn _ => HF.out.2 hn (by first | rfl | trivial) (by have := HQS.out; omega) hq⟩
    · have z0 : (err == 0) = false := by simpa using he
      have HE := Lib.hid he
      clear he
      have k1 := blk_cells9 HX3.out
      obtain ⟨k1, k1'⟩ := k1
      go_wp2_with fail
      go_region
      go_wp2
      refine bodyPost_ret (fn := Tryz.f64) (v := .tuple #[(Pl.mk 0 0 ⟨#[]⟩ []).arg none 0, .int .i64 bad, .int .i64 err]) (res_cell_t2 (p := 2) (q := 3) (r := 4) (ty := 34) (a := ⟨w.heap.size, 0, none⟩) Tryz.results64 rfl (run_loadVar_row (P := Tryz.prog) _ _ _ 34 _ _ _ (blk_set (blk_set (blk_set (blk_set HX3.out 0 (.int .i64 0)) 1 (.int .i64 0)) 2 (.string ⟨#[]⟩)) 3 (.slice none 0 0)) Tryz.underlying34 rfl (by kernel_rfl)) rfl rfl) rfl ?_
      exact ⟨.mk 0 0 ⟨#[]⟩ [], none, 0, bad, err, rfl, (below_put4 HB3.out _ _ _ _).drew, fun n hn => absurd (HF.out.1 n hn).1 HE.out, fun _ h => absurd h HE.out⟩
end Go.Proofs.YthjpphojddbbmaaGreatDoor
