/-
  espalierref2's reader: text: a walk. Printed by a program of mine (gen_rdtext2.py). Conditions: a text within a row's reach.
-/
import Derived.Test.YthjpphojddbbmaaGreatDoorCRdText
namespace Go.Proofs.YthjpphojddbbmaaGreatDoor
open Go.RowKit
set_option linter.unusedVariables false
set_option linter.unusedSimpArgs false

theorem own_blk {w w' : World} {base size n : Nat} {e : TypeId} {v : Value} {xs : List Value} (h : w.ownsRow base e size v n xs) (hb : ∀ g, v.ownBlock = some g → w'.heap[g]? = w.heap[g]?) : w'.ownsRow base e size v n xs := by
  refine ⟨h.1, ?_⟩
  rcases h.2 with h2 | ⟨g, cap, cur, e1, h3, h4, h5⟩
  · exact .inl h2
  · exact .inr ⟨g, cap, cur, e1, h3, (hb g (by rw [e1]; rfl)).trans h4, h5⟩
/-- What a text's reading leaves. -/
def TextPost (s : ByteArray) (p : Nat) (b : Nat) (w : World) (e : Ending) (w' : World) : Prop :=
  ∃ (pl : Pl) (p' : Nat) (bad' err' : Int), e = .returned (pl.arg none 0) ∧ RdTo w w' b s p p' bad' err' ∧ rng err' = true ∧ pl.list = [] ∧ pl.sane ∧ pl.kind ≠ 3 ∧ (err' = 0 → p < p')
def rdM (s : ByteArray) (b : Nat) (w : World) : Nat := match w.cell? ⟨b, 1, none⟩, w.cell? ⟨b, 3, none⟩ with
  | some (.int _ q), some (.int _ e) => 2 * (s.size - q.toNat) + (if e = 0 then 1 else 0)
  | _, _ => 0
theorem rdM_eq {s : ByteArray} {b q : Nat} {bad err : Int} {w : World} (h : Rdr w b s q bad err) : rdM s b w = 2 * (s.size - q) + (if err = 0 then 1 else 0) := by
  obtain ⟨hc, _, _⟩ := h.cells
  unfold rdM
  rw [hc 1, hc 3]
  simp
/-- What the text's loop carries. -/
structure TxI (w : World) (b X : Nat) (s : ByteArray) (p : Nat) (v : Value) (q : Nat) (bad err : Int) (l : List UInt8) (wr : World) : Prop where
  rdr : Rdr wr b s q bad err
  gr : w.grownBy wr (some b)
  box : wr.heap[X]? = some (.cells #[.int .i64 0, .int .i64 0, .string ⟨#[]⟩, .slice none 0 0] 34 (0, 0))
  own : wr.ownsRow (X + 1) 5 1 v l.length (Lib.byteCells l)
  le : p < q
  size : q ≤ s.size
  len : p + l.length ≤ q
  rb : rng bad = true
  re : rng err = true
theorem bc_snoc (l : List UInt8) {n : Int} (h0 : 0 ≤ n) (h1 : n < 256) : Lib.byteCells (l ++ [UInt8.ofNat n.toNat]) = Lib.byteCells l ++ [.int .u8 n] := by
  have : ((UInt8.ofNat n.toNat).toNat : Int) = n := by
    rw [UInt8.toNat_ofNat']
    omega
  simp only [Lib.byteCells, List.map_append, List.map_cons, List.map_nil, this]
theorem conv_own {w : World} {B : Nat} {v : Value} {l : List UInt8} (h : w.ownsRow B 5 1 v l.length (Lib.byteCells l)) : (convert 160 9 v).run Tryz.prog w = .ok (.string ⟨l.toArray⟩) w := by
  rcases h.2 with ⟨e, h0⟩ | ⟨g, cap, cur, e, _⟩
  · have hl : l = [] := List.eq_nil_of_length_eq_zero h0
    subst e hl
    exact Lib.run_convert_nil_bytes w _ _ 5 0 Tryz.underlying160 Tryz.underlying5 Tryz.underlying9
  · subst e
    exact run_convert_bytes_back w _ _ 5 ⟨g, 0, none⟩ cap l Tryz.underlying160 Tryz.underlying5 Tryz.underlying9 (fun j hj => h.cells (g := g) rfl j _ (by simp [Lib.byteCells, hj]))
theorem rdto_set4 {w W : World} {b : Nat} {s : ByteArray} {p q : Nat} {bad err : Int} (hR : Rdr W b s q bad err) (hG : w.grownBy W (some b)) (hb : b < w.heap.size) (h1 : p ≤ q) (h2 : q ≤ s.size) (h3 : rng bad = true) (x0 x1 x2 x3 : Value) :
    RdTo w ((((W.setCell ⟨w.heap.size, 0, none⟩ x0).setCell ⟨w.heap.size, 1, none⟩ x1).setCell ⟨w.heap.size, 2, none⟩ x2).setCell ⟨w.heap.size, 3, none⟩ x3) b s p q bad err :=
  ⟨blk_far (blk_far (blk_far (blk_far hR (by show b ≠ w.heap.size; omega) _) (by show b ≠ w.heap.size; omega) _) (by show b ≠ w.heap.size; omega) _) (by show b ≠ w.heap.size; omega) _, grown_set9 (grown_set9 (grown_set9 (grown_set9 hG _ (Nat.le_refl _) _) _ (Nat.le_refl _) _) _ (Nat.le_refl _) _) _ (Nat.le_refl _) _, h1, h2, h3⟩
theorem info_byte : (Tryz.prog.info? 5).map (fun i => (i.zero, i.size, i.bytes)) = some (some (.int .u8 0), 1, 1) := by kernel_rfl
set_option maxRecDepth 100000 in
set_option maxHeartbeats 8000000 in
theorem rd_text (s : ByteArray) (hs : s.size ≤ 140737488351232) (p : Nat) (bad : Int) (hb : rng bad = true) (b : Nat) (w : World) (h : Rdr w b s p bad 0) (hp : p < s.size) :
    Calls Tryz.prog 114 #[.pointer (some ⟨b, 0, none⟩)] w (TextPost s p b w) := by
  obtain ⟨i0, hi, hz0, hz1, hz2⟩ := info_parts info_byte
  obtain ⟨c0, f0, hbl⟩ := h.cells
  have HB := Lib.hid hb
  have HX0 : Hid (((w.setCell ⟨b, 1, none⟩ (.int .i64 ((p : Int) + 1))).alloc (.cells #[.int .i64 0, .int .i64 0, .string ⟨#[]⟩, .slice none 0 0] 34)).heap[w.heap.size]? = some (.cells #[.int .i64 0, .int .i64 0, .string ⟨#[]⟩, .slice none 0 0] 34 (0, 0))) := Lib.hid (by have := heap_alloc_new (w.setCell ⟨b, 1, none⟩ (.int .i64 ((p : Int) + 1))) (.cells #[.int .i64 0, .int .i64 0, .string ⟨#[]⟩, .slice none 0 0] 34); rwa [size_set] at this)
  have hst := h.step ((p + 1 : Nat) : Int)
  rw [show (((p + 1 : Nat)) : Int) = (p : Int) + 1 by omega] at hst
  have HS : Hid (TxI w b w.heap.size s p (.slice none 0 0) (p + 1) bad 0 [] ((w.setCell ⟨b, 1, none⟩ (.int .i64 ((p : Int) + 1))).alloc (.cells #[.int .i64 0, .int .i64 0, .string ⟨#[]⟩, .slice none 0 0] 34))) := Lib.hid
    ⟨by rw [show (((p + 1 : Nat)) : Int) = (p : Int) + 1 by omega]; exact hst.far _, grown_alloc9 (grown_put (grown_refl w b) 1 _) _, HX0.out, World.ownsRow_nil _ _ _ _, Nat.lt_succ_self _, hp, Nat.le_succ _, hb, by decide⟩
  clear h hb HX0 hst
  go_enter Tryz.func114, Tryz.ntmps114
  go_wp2
  clear c0 f0
  go_loopw [3, 4] (fun s3 s4 wr => ∃ (q : Nat) (bad err : Int) (l : List UInt8), TxI w b w.heap.size s p s3 q bad err l wr) (fun _ _ wr => rdM s b wr)
  case atStart => exact ⟨p + 1, bad, 0, [], HS.out⟩
  case round =>
    clear HS
    obtain ⟨q, bad, err, l, hI⟩ := hrel
    have HI := Lib.hid hI
    obtain ⟨c1, f1, l1⟩ := hI.rdr.cells
    have hq := hI.size
    have hpq := hI.le
    have hlq := hI.len
    clear hI
    by_cases he : err = 0
    · subst he
      have KP := Lib.hid (rd_peek s hs q bad 0 b wr HI.out.rdr hq)
      go_wp2_with fail
      refine KP.out.mono ?_
      rintro e w2 ⟨rfl, hb2⟩
      have HR2 := Lib.hid (HI.out.rdr.below hb2)
      have HG2 := Lib.hid (grown_bel HI.out.gr hb2)
      have HX2 := Lib.hid ((hb2.block _ (lt_of_block HI.out.box)).trans HI.out.box)
      have HO2 := Lib.hid (own_blk HI.out.own (fun g hg => hb2.block g (HI.out.own.lt g hg).2))
      obtain ⟨c2, f2, l2⟩ := HR2.out.cells
      clear hb2 KP c1 f1 l1
      have hlt : pk s q ≠ 256 → q < s.size := pk_lt
      by_cases h34 : pk s q = 34
      · have d1 : (pk s q == 34) = true := by simp [h34]
        have hqs : q < s.size := hlt (by omega)
        have HR3 := Lib.hid (show Rdr (w2.setCell ⟨b, 1, none⟩ (.int .i64 ((q : Int) + 1))) b s ((q + 1 : Nat) : Int) bad 0 by rw [show (((q + 1 : Nat)) : Int) = (q : Int) + 1 by omega]; exact HR2.out.step _)
        have HG3 := Lib.hid (grown_put HG2.out 1 (.int .i64 ((q : Int) + 1)))
        have HX3 := Lib.hid (blk_far HX2.out (p := ⟨b, 1, none⟩) (by show w.heap.size ≠ b; omega) (.int .i64 ((q : Int) + 1)))
        have HO3 := Lib.hid (own_blk HO2.out (w' := w2.setCell ⟨b, 1, none⟩ (.int .i64 ((q : Int) + 1))) (fun g hg => Below.heap_setCell _ _ _ _ (by have := (HO2.out.lt g hg).1; show g ≠ b; omega)))
        have hcv := conv_own HO3.out
        have k1 := blk_cells9 HX3.out
        clear h34 hlt
        go_wp2
        refine bodyPost_ret (fn := Tryz.f114) (v := (Pl.mk 4 0 ⟨l.toArray⟩ []).arg none 0) (results_cell (p := 2) (ty := 34) (a := ⟨w.heap.size, 0, none⟩) Tryz.results114 rfl (run_loadVar_row (P := Tryz.prog) _ _ _ 34 _ _ _ (blk_set (blk_set (blk_set (blk_set HX3.out 0 (.int .i64 4)) 1 (.int .i64 0)) 2 (.string ⟨l.toArray⟩)) 3 (.slice none 0 0)) Tryz.underlying34 rfl (by kernel_rfl))) rfl ?_
        exact ⟨.mk 4 0 ⟨l.toArray⟩ [], q + 1, bad, 0, rfl, rdto_set4 HR3.out HG3.out hbl (by omega) hqs HI.out.rb _ _ _ _, by decide, rfl, ⟨by rfl, by rfl, by show l.length ≤ _; omega, by show (0 : Nat) * 56 ≤ _; omega⟩, by show (4 : Int) ≠ 3; decide, fun _ => by omega⟩
      · have d1 : (pk s q == 34) = false := by simp [h34]
        by_cases h92 : pk s q = 92
        · have d2 : (pk s q == 92) = true := by simp [h92]
          have hqs : q < s.size := hlt (by omega)
          have HR3 := Lib.hid (show Rdr (w2.setCell ⟨b, 1, none⟩ (.int .i64 ((q : Int) + 1))) b s ((q + 1 : Nat) : Int) bad 0 by rw [show (((q + 1 : Nat)) : Int) = (q : Int) + 1 by omega]; exact HR2.out.step _)
          have HG3 := Lib.hid (grown_put HG2.out 1 (.int .i64 ((q : Int) + 1)))
          have HX3 := Lib.hid (blk_far HX2.out (p := ⟨b, 1, none⟩) (by show w.heap.size ≠ b; omega) (.int .i64 ((q : Int) + 1)))
          have HO3 := Lib.hid (own_blk HO2.out (w' := w2.setCell ⟨b, 1, none⟩ (.int .i64 ((q : Int) + 1))) (fun g hg => Below.heap_setCell _ _ _ _ (by have := (HO2.out.lt g hg).1; show g ≠ b; omega)))
          have KE := Lib.hid (rd_escape s hs (q + 1) bad HI.out.rb b _ HR3.out hqs)
          clear h34 h92 hlt
          go_wp2_with fail
          refine KE.out.mono ?_
          rintro e w5 ⟨n, p5, bad5, err5, rfl, hn0, hn1, hto, hre⟩
          have HT := Lib.hid hto
          have HRE := Lib.hid hre
          have HX5 := Lib.hid ((hto.gr.block _ (lt_of_block HX3.out) (fun e => by injection e with e; omega)).trans HX3.out)
          have HO5 := Lib.hid (own_blk HO3.out (w' := w5) (fun g hg => hto.gr.block g (HO3.out.lt g hg).2 (fun e => by injection e with e; have := (HO3.out.lt g hg).1; omega)))
          have HG5 := Lib.hid (grown_trans_ HG3.out hto.gr)
          have h5 := hto.le
          have h6 := hto.size
          have HN0 : Hid (0 ≤ n ∧ n < 256) := Lib.hid ⟨hn0, hn1⟩
          clear hto hre KE c2 f2 l2 d1 d2 hn0 hn1
          go_wp2_with (at_builtin; refine wpList_append_own_at _ rfl _ _ 160 rfl (w.heap.size + 1) 5 i0 (.int .u8 0) 1 1 Tryz.underlying160 hi hz0 hz1 hz2 rfl (by decide) _ l.length (Lib.byteCells l) rfl (HO5.out.alloc (.cells #[.int .u8 n] 5)) ⟨(w5).heap.size, 0, none⟩ 1 1 [.int .u8 n] rfl rfl (World.news_of_block (heap_alloc_new _ _)) (by intro u hu; simp at hu; subst hu; rfl) (by unfold maxLen; omega) (by omega) (by have := lt_of_block HX5.out; simp at this ⊢; omega) ?_)
          intro v' w6 hown6 hgr6 _ hat6
          have HI6 : Hid (TxI w b w.heap.size s p v' p5 bad5 err5 (l ++ [UInt8.ofNat (n).toNat]) w6) := Lib.hid (by
            have hne : ∀ k, k ≤ w.heap.size → k < (w5).heap.size → w6.heap[k]? = (w5).heap[k]? := fun k hk hk5 => (hgr6.block k (by rw [size_alloc]; omega) (fun e => by have := (HO5.out.lt k e.symm).1; omega)).trans (Below.heap_alloc _ _ _ hk5)
            have hsz := hgr6.size
            rw [size_alloc] at hsz
            refine ⟨(hne b (by omega) (lt_of_block HT.out.rdr)).trans HT.out.rdr, ⟨hgr6.os.trans HG5.out.os, hgr6.tape.trans HG5.out.tape, hgr6.output.trans HG5.out.output, by have := HG5.out.size; omega, fun k hk hkb => (hne k (by omega) (by have := HG5.out.size; omega)).trans (HG5.out.block k hk hkb)⟩, (hne _ (Nat.le_refl _) (lt_of_block HX5.out)).trans HX5.out, ?_, by omega, h6, by rw [List.length_append]; simp; omega, HT.out.rb, HRE.out⟩
            rw [List.length_append, bc_snoc l HN0.out.1 HN0.out.2]
            exact hown6)
          clear hown6 hgr6 hat6
          go_wp2
          go_roundw
          case rel => exact ⟨p5, bad5, err5, _, HI6.out⟩
          case measure =>
            rw [rdM_eq HI6.out.rdr, rdM_eq HI.out.rdr]
            have := h5
            split <;> simp <;> omega
        · have d2 : (pk s q == 92) = false := by simp [h92]
          have hpb := pk_bound s q
          by_cases hin : 32 ≤ pk s q ∧ pk s q ≤ 126
          · have d3 : decide (pk s q < 32) = false := by simp; omega
            have d4 : decide (126 < pk s q) = false := by simp; omega
            have hqs : q < s.size := hlt (by omega)
            have HR3 := Lib.hid (show Rdr (w2.setCell ⟨b, 1, none⟩ (.int .i64 ((q : Int) + 1))) b s ((q + 1 : Nat) : Int) bad 0 by rw [show (((q + 1 : Nat)) : Int) = (q : Int) + 1 by omega]; exact HR2.out.step _)
            have HG3 := Lib.hid (grown_put HG2.out 1 (.int .i64 ((q : Int) + 1)))
            have HX3 := Lib.hid (blk_far HX2.out (p := ⟨b, 1, none⟩) (by show w.heap.size ≠ b; omega) (.int .i64 ((q : Int) + 1)))
            have HO3 := Lib.hid (own_blk HO2.out (w' := w2.setCell ⟨b, 1, none⟩ (.int .i64 ((q : Int) + 1))) (fun g hg => Below.heap_setCell _ _ _ _ (by have := (HO2.out.lt g hg).1; show g ≠ b; omega)))
            have hmod : pk s q % 256 = pk s q := by omega
            have HN0 : Hid (0 ≤ pk s q ∧ pk s q < 256) := Lib.hid (by omega)
            have hnw := heap_alloc_new (w2.setCell ⟨b, 1, none⟩ (.int .i64 ((q : Int) + 1))) (.cells #[.int .u8 (pk s q)] 5)
            rw [size_set] at hnw
            have HNW := Lib.hid hnw
            clear hnw
            clear h34 h92 hlt hin hpb
            go_wp2_with (at_builtin; refine wpList_append_own_at _ rfl _ _ 160 rfl (w.heap.size + 1) 5 i0 (.int .u8 0) 1 1 Tryz.underlying160 hi hz0 hz1 hz2 rfl (by decide) _ l.length (Lib.byteCells l) rfl (HO3.out.alloc (.cells #[.int .u8 (pk s q)] 5)) ⟨(w2).heap.size, 0, none⟩ 1 1 [.int .u8 (pk s q)] rfl rfl (World.news_of_block HNW.out) (by intro u hu; simp at hu; subst hu; rfl) (by unfold maxLen; omega) (by omega) (by have := lt_of_block HX3.out; simp at this ⊢; omega) ?_)
            intro v' w6 hown6 hgr6 _ hat6
            have HI6 : Hid (TxI w b w.heap.size s p v' (q + 1) bad 0 (l ++ [UInt8.ofNat (pk s q).toNat]) w6) := Lib.hid (by
              have hne : ∀ k, k ≤ w.heap.size → k < (w2.setCell ⟨b, 1, none⟩ (.int .i64 ((q : Int) + 1))).heap.size → w6.heap[k]? = (w2.setCell ⟨b, 1, none⟩ (.int .i64 ((q : Int) + 1))).heap[k]? := fun k hk hk5 => (hgr6.block k (by rw [size_alloc]; omega) (fun e => by have := (HO3.out.lt k e.symm).1; omega)).trans (Below.heap_alloc _ _ _ hk5)
              have hsz := hgr6.size
              rw [size_alloc] at hsz
              refine ⟨(hne b (by omega) (lt_of_block HR3.out)).trans HR3.out, ⟨hgr6.os.trans HG3.out.os, hgr6.tape.trans HG3.out.tape, hgr6.output.trans HG3.out.output, by have := HG3.out.size; omega, fun k hk hkb => (hne k (by omega) (by have := HG3.out.size; omega)).trans (HG3.out.block k hk hkb)⟩, (hne _ (Nat.le_refl _) (lt_of_block HX3.out)).trans HX3.out, ?_, by omega, hqs, by rw [List.length_append]; simp; omega, HI.out.rb, (by decide)⟩
              rw [List.length_append, bc_snoc l HN0.out.1 HN0.out.2]
              exact hown6)
            clear hown6 hgr6 hat6
            go_wp2
            go_roundw
            case rel => exact ⟨q + 1, bad, 0, _, HI6.out⟩
            case measure =>
              rw [rdM_eq HI6.out.rdr, rdM_eq HI.out.rdr]
              simp
              omega
          · have d34 : (decide (pk s q < 32) || decide (126 < pk s q)) = true := by simp; omega
            have HQ : Hid (pk s q < 32 ∨ 126 < pk s q) := Lib.hid (by omega)
            clear h34 h92 hlt hin hpb
            rcases HQ.out with h3 | h3
            · have d3 : decide (pk s q < 32) = true := by simpa using h3
              clear h3
              go_wp2_with fail
              refine (rd_fail s _ bad 5 _ b w2 HR2.out).mono ?_
              rintro e w9 ⟨rfl, hr9, hg9⟩
              have HR9 := Lib.hid hr9
              have HI9 : Hid (TxI w b w.heap.size s p u3 q q 5 l w9) := Lib.hid ⟨hr9, grown_trans_ HG2.out hg9, (hg9.block _ (lt_of_block HX2.out) (fun e => by injection e with e; omega)).trans HX2.out, own_blk HO2.out (fun g hg => hg9.block g (HO2.out.lt g hg).2 (fun e => by injection e with e; have := (HO2.out.lt g hg).1; omega)), hpq, hq, hlq, rng_iff.2 (by omega), by decide⟩
              clear hr9 hg9
              go_wp2
              go_roundw
              case rel => exact ⟨q, q, 5, l, HI9.out⟩
              case measure =>
                rw [rdM_eq HI9.out.rdr, rdM_eq HI.out.rdr]
                simp
            · have d3 : decide (pk s q < 32) = false := by simp; omega
              have d4 : decide (126 < pk s q) = true := by simpa using h3
              clear h3
              go_wp2_with fail
              refine (rd_fail s _ bad 5 _ b w2 HR2.out).mono ?_
              rintro e w9 ⟨rfl, hr9, hg9⟩
              have HR9 := Lib.hid hr9
              have HI9 : Hid (TxI w b w.heap.size s p u3 q q 5 l w9) := Lib.hid ⟨hr9, grown_trans_ HG2.out hg9, (hg9.block _ (lt_of_block HX2.out) (fun e => by injection e with e; omega)).trans HX2.out, own_blk HO2.out (fun g hg => hg9.block g (HO2.out.lt g hg).2 (fun e => by injection e with e; have := (HO2.out.lt g hg).1; omega)), hpq, hq, hlq, rng_iff.2 (by omega), by decide⟩
              clear hr9 hg9
              go_wp2
              go_roundw
              case rel => exact ⟨q, q, 5, l, HI9.out⟩
              case measure =>
                rw [rdM_eq HI9.out.rdr, rdM_eq HI.out.rdr]
                simp
    · have q0 : (err == 0) = false := by simpa using he
      have HE := Lib.hid he
      have k1 := blk_cells9 HI.out.box
      clear he
      go_wp2
      refine bodyPost_ret (fn := Tryz.f114) (v := (Pl.mk 0 0 ⟨#[]⟩ []).arg none 0) (results_cell (p := 2) (ty := 34) (a := ⟨w.heap.size, 0, none⟩) Tryz.results114 rfl (run_loadVar_row (P := Tryz.prog) _ _ _ 34 _ _ _ (blk_set (blk_set (blk_set (blk_set HI.out.box 0 (.int .i64 0)) 1 (.int .i64 0)) 2 (.string ⟨#[]⟩)) 3 (.slice none 0 0)) Tryz.underlying34 rfl (by kernel_rfl))) rfl ?_
      exact ⟨.mk 0 0 ⟨#[]⟩ [], q, bad, err, rfl, rdto_set4 HI.out.rdr HI.out.gr hbl (by omega) hq HI.out.rb _ _ _ _, HI.out.re, rfl, ⟨by rfl, by rfl, by show (0 : Nat) ≤ _; omega, by show (0 : Nat) * 56 ≤ _; omega⟩, by show (0 : Int) ≠ 3; decide, fun h => absurd h HE.out⟩
end Go.Proofs.YthjpphojddbbmaaGreatDoor
