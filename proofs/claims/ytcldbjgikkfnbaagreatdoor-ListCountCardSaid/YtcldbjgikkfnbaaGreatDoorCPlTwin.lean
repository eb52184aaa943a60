/-
  espalierlaw2.Twin: a walk, for every plain value. Conditions: it lies in memory.
-/
import Derived.Test.YtcldbjgikkfnbaaGreatDoorCPlMarks
import Derived.Test.YtcldbjgikkfnbaaGreatDoorProg
import Derived.Deep.AppendLies
import Derived.OwnWalk
import Derived.Lib.Strings
namespace Go.Proofs.YtcldbjgikkfnbaaGreatDoor
open Go.RowKit
set_option linter.unusedVariables false

theorem info_plainT : (Tryz.prog.info? 31).map (fun i => (i.zero, i.size, i.bytes)) = some (some (.agg #[.int .i64 0, .int .i64 0, .string ByteArray.empty, .slice none 0 0]), 4, 56) := by kernel_rfl
theorem info_plain_parts : ∃ i, Tryz.prog.info? 31 = some i ∧ i.zero = some (.agg #[.int .i64 0, .int .i64 0, .string ByteArray.empty, .slice none 0 0]) ∧ i.size = 4 ∧ i.bytes = 56 := by
  have h := info_plainT
  cases hh : Tryz.prog.info? 31 with
  | none => rw [hh] at h; cases h
  | some i =>
    rw [hh] at h
    simp only [Option.map_some, Option.some.injEq, Prod.mk.injEq] at h
    exact ⟨i, rfl, h.1, h.2.1, h.2.2⟩
/-- A plain value in new memory, marks behind its lists. -/
def TwinPost (p : Pl) (w : World) (e : Ending) (w' : World) : Prop := ∃ A c, e = .returned (p.arg A c) ∧ Marked w' (fresh w w') p.list A c ∧ Below w.heap.size w w'
theorem plat_step {wr w2 w3 : World} {G : Nat} {us : List PlAt} {x : PlAt} {X Y : Obj} (hG : G < wr.heap.size) (hel : ∀ y ∈ us, y.p.sane ∧ Marked wr (fun b => G < b ∧ b < wr.heap.size) y.p.list y.A y.c)
    (hb2 : Below wr.heap.size wr w2) (hx : x.p.sane) (hm : Marked w2 (fresh wr w2) x.p.list x.A x.c) (hgr : ((w2.alloc X).alloc Y).grownBy w3 (some G)) :
    ∀ y ∈ us ++ [x], y.p.sane ∧ Marked w3 (fun b => G < b ∧ b < w3.heap.size) y.p.list y.A y.c := by
  have hs2 := hb2.size
  have hs3 := hgr.size
  simp only [size_alloc] at hs3
  have hlate : ∀ b o, b < w2.heap.size → G ≠ b → w3.cell? ⟨b, o, none⟩ = w2.cell? ⟨b, o, none⟩ := fun b o h2 h3 => World.cell?_of_block (a := ⟨b, o, none⟩) (by
    show w3.heap[b]? = w2.heap[b]?
    rw [hgr.block b (by simp; omega) (fun e => h3 (by injection e with e; omega)), Below.heap_alloc _ _ _ (by simp; omega), Below.heap_alloc _ _ _ h2])
  intro y hy
  rcases List.mem_append.1 hy with hy | hy
  · obtain ⟨h1, h2⟩ := hel y hy
    refine ⟨h1, h2.keep (fun b o hs => ?_) (fun b hs => ⟨hs.1, by have := hs.2; omega⟩)⟩
    rw [hlate b o (by have := hs.2; omega) (by have := hs.1; omega)]
    exact hb2.cell (p := ⟨b, o, none⟩) hs.2
  · rw [List.mem_singleton] at hy
    subst hy
    refine ⟨hx, hm.keep (fun b o hs => hlate b o hs.2 (by have := hs.1; omega)) (fun b hs => ⟨by have := hs.1; omega, by have := hs.2; omega⟩)⟩
theorem plat_block {wr w2 w3 : World} {G b : Nat} {X Y o : Obj} (hb2 : Below wr.heap.size wr w2) (hgr : ((w2.alloc X).alloc Y).grownBy w3 (some G)) (h : wr.heap[b]? = some o) (hb : G ≠ b) : w3.heap[b]? = some o := by
  have hlt : b < wr.heap.size := by
    rcases Nat.lt_or_ge b wr.heap.size with h' | h'
    · exact h'
    · rw [Array.getElem?_eq_none h'] at h; cases h
  have hs2 := hb2.size
  rw [hgr.block b (by simp; omega) (fun e => hb (by injection e with e; omega)), Below.heap_alloc _ _ _ (by simp; omega), Below.heap_alloc _ _ _ (by omega), hb2.block b hlt, h]
theorem plat_below {w wr w2 w3 : World} {G : Nat} {X Y : Obj} (h : Below w.heap.size w wr) (hG : w.heap.size ≤ G) (hb2 : Below wr.heap.size wr w2) (hgr : ((w2.alloc X).alloc Y).grownBy w3 (some G)) : Below w.heap.size w w3 := by
  have h2 := h.trans (hb2.mono h.size)
  have hs := h2.size
  exact ((h2.alloc hs X).alloc (by simp; omega) Y).grown hgr (by simp; omega) (by intro k hk; injection hk with hk; omega)
theorem mtail_eq {w : World} {S : Nat → Prop} {l l' : List Pl} {b o : Nat} (h : l = l') (hm : Pls.mtail w S l b o) : Pls.mtail w S l' b o := h ▸ hm
set_option maxRecDepth 100000 in
set_option maxHeartbeats 4000000 in
theorem twin_step (k n : Int) (t : ByteArray) (l : List Pl)
    (ih : ∀ (j : Nat) (h : j < l.length) (A : Option Addr) (c : Nat) (w : World), l[j].sane → Pls.lies w w.heap.size l[j].list A → Calls Tryz.prog 23 #[l[j].arg A c] w (TwinPost l[j] w))
    (A : Option Addr) (c : Nat) (w : World) (hs : (Pl.mk k n t l).sane) (hl : Pls.lies w w.heap.size l A) :
    Calls Tryz.prog 23 #[.agg #[.int .i64 k, .int .i64 n, .string t, .slice A l.length c]] w (TwinPost (.mk k n t l) w) := by
  have IH := Lib.hid ih
  have HL := Lib.hid hl
  have HS := Lib.hid hs
  clear ih
  cases A with
  | none =>
    have hl0 : Hid (l = []) := Lib.hid (by
      cases l with
      | nil => rfl
      | cons p ps => unfold Pls.lies at hl; obtain ⟨b, o, e, _⟩ := hl; cases e)
    clear hl hs
    have he : ∀ w : World, (binOp .eql 25 (.slice none l.length c) (.slice none 0 0)).run Tryz.prog w = .ok (.bool true) w := fun _ => rfl
    go_enter Tryz.func23, Tryz.ntmps23
    go_wp2
    refine bodyPost_ret (fn := Tryz.f23) (v := (Pl.mk k n t l).arg none c) ?_ rfl ⟨none, c, rfl, .inl ⟨rfl, hl0.out⟩, ((Below.refl _ _).alloc (Nat.le_refl _) _).alloc (by simp) _⟩
    refine results_cell (p := 2) (ty := 31) (a := ⟨w.heap.size + 1, 0, none⟩) Tryz.results23 rfl ?_
    exact run_loadVar_row (P := Tryz.prog) _ _ _ 31 _ _ _ (heap_alloc2 w _ _).2 Tryz.underlying31 rfl (by kernel_rfl)
  | some ad =>
    obtain ⟨i0, hi, hz0, hz1, hz2⟩ := info_plain_parts
    have hlen : l.length * 56 ≤ 140737488351232 := hs.2.2.2
    clear hl hs
    have he : ∀ w : World, (binOp .eql 25 (.slice (some ad) l.length c) (.slice none 0 0)).run Tryz.prog w = .ok (.bool false) w := fun _ => rfl
    go_enter Tryz.func23, Tryz.ntmps23
    go_wp2_with (refine wpList_make_own _ rfl _ _ 25 rfl (w.heap.size + 2) 31 i0 (.agg #[.int .i64 0, .int .i64 0, .string ByteArray.empty, .slice none 0 0]) 4 Tryz.underlying25 hi hz0 hz1 _ _ _ (l.length + 1) rfl rfl (by omega) (by rw [hz2]; omega) (by unfold maxLen; omega) (by simp) ?_; intro w1 hown hgr)
    generalize hX1 : Obj.cells #[.int .i64 k, .int .i64 n, .string t, .slice (some ad) l.length c] 31 = X1 at *
    generalize hX2 : Obj.cells #[.int .i64 0, .int .i64 0, .string ⟨#[]⟩, .slice none 0 0] 31 = X2 at *
    have HX1 := Lib.hid hX1
    have HX2 := Lib.hid hX2
    have hsz : w.heap.size + 2 < w1.heap.size := by
      have := own_lt hown
      simp only [size_alloc] at this
      omega
    have B1 := Lib.hid ((hgr.block w.heap.size (by simp; omega) (by simp)).trans (heap_alloc2 w X1 X2).1)
    have B2 := Lib.hid ((hgr.block (w.heap.size + 1) (by simp) (by simp)).trans (heap_alloc2 w X1 X2).2)
    have HB1 := Lib.hid ((((Below.refl w.heap.size w).alloc (Nat.le_refl _) X1).alloc (by simp) X2).grown hgr (by simp; omega) (by simp))
    have HO := Lib.hid (show w1.ownsRow (w.heap.size + 2) 31 4 (.slice (some ⟨w.heap.size + 2, 0, none⟩) 0 (l.length + 1)) 0 [] by simpa using hown)
    clear hown hgr hX1 hX2
    go_loopw [3, 4] (fun s3 s4 wr => ∃ (j : Nat) (us : List PlAt), j ≤ l.length ∧ s4 = .int .i64 (j : Int) ∧ s3 = .slice (some ⟨w.heap.size + 2, 0, none⟩) j (l.length + 1) ∧ us.map PlAt.p = l.take j ∧
      wr.ownsRow (w.heap.size + 2) 31 4 (.slice (some ⟨w.heap.size + 2, 0, none⟩) j (l.length + 1)) j (us.flatMap PlAt.cells) ∧
      (∀ x ∈ us, x.p.sane ∧ Marked wr (fun b => w.heap.size + 2 < b ∧ b < wr.heap.size) x.p.list x.A x.c) ∧ wr.heap[w.heap.size]? = some X1 ∧ wr.heap[w.heap.size + 1]? = some X2 ∧ Below w.heap.size w wr) (fun _ s4 _ => l.length - (intOf s4).toNat)
    case atStart => exact ⟨0, [], Nat.zero_le _, rfl, rfl, by simp, HO.out, (fun x hx => absurd hx (List.not_mem_nil)), B1.out, B2.out, HB1.out⟩
    case round =>
      clear hsz HO HB1 B1 B2
      obtain ⟨j, us, hj, rfl, rfl, hus, hown, hel, hb1, hb2, hbel⟩ := hrel
      have hsz : w.heap.size + 2 < wr.heap.size := own_lt hown
      have HU := Lib.hid hus
      have HO := Lib.hid hown
      have HE := Lib.hid hel
      have HB := Lib.hid hbel
      have B1 := Lib.hid hb1
      have B2 := Lib.hid hb2
      clear hus hown hel hbel hb1 hb2
      have c3 : wr.cell? ⟨w.heap.size, 3, none⟩ = some (.slice (some ad) l.length c) := cell_of_row _ _ 3 _ _ _ (by rw [B1.out, ← HX1.out])
      by_cases hlt : j < l.length
      · obtain ⟨b', o', had⟩ := HL.out.head (by omega)
        injection had with had
        subst had
        have hlies := (HL.out.below HB.out (Nat.le_of_lt (by omega : w.heap.size < wr.heap.size))).at_ j hlt
        have hsn := Lib.hid hlies.sane
        obtain ⟨hbb, e0, e1, e2, hlen2, A', c', e3, hll⟩ := hlies.parts
        have HLL := Lib.hid (IH.out j hlt A' c' wr hsn.out hll)
        unfold Pl.arg at HLL
        clear hll hlies
        go_wp2_with fail
        refine HLL.out.mono ?_
        rintro e w2 ⟨A1, c1, rfl, hm, hb2⟩
        have HM := Lib.hid hm
        have HB2 := Lib.hid hb2
        have hs2 := hb2.size
        have hown2 := Lib.hid ((own_below HO.out hb2).alloc (.cells (l[j].cells4 A1 c1).toArray 31) |>.alloc (.cells (l[j].cells4 A1 c1).toArray 31))
        clear hm hb2 e0 e1 e2 e3 c3 HLL
        unfold Pl.arg
        unfold Pl.cells4 at hown2
        go_wp2_with (at_builtin; refine wpList_append_fits _ rfl _ _ 25 rfl (w.heap.size + 2) 31 i0 4 Tryz.underlying25 hi hz1 (w.heap.size + 2) j (l.length + 1) (us.flatMap PlAt.cells) rfl hown2.out ⟨w2.heap.size + 1, 0, none⟩ 1 1 (l[j].cells4 A1 c1) rfl rfl (World.news_of_block (by exact (heap_alloc2 w2 _ _).2)) (by intro u hu; unfold Pl.cells4 at hu; simp at hu; rcases hu with rfl | rfl | rfl | rfl <;> rfl) (by omega) ?_)
        intro w3 hown3 hgr3
        have HE3 := Lib.hid (plat_step (x := ⟨l[j], A1, c1⟩) hsz HE.out HB2.out hsn.out HM.out hgr3)
        have B13 := Lib.hid (plat_block HB2.out hgr3 B1.out (by omega))
        have B23 := Lib.hid (plat_block HB2.out hgr3 B2.out (by omega))
        have HB3 := Lib.hid (plat_below HB.out (by omega) HB2.out hgr3)
        have HU3 := Lib.hid (show (us ++ [(⟨l[j], A1, c1⟩ : PlAt)]).map PlAt.p = l.take (j + 1) by rw [List.map_append, HU.out, List.take_succ_eq_append_getElem hlt]; rfl)
        have HO3 := Lib.hid (show w3.ownsRow (w.heap.size + 2) 31 4 (.slice (some ⟨w.heap.size + 2, 0, none⟩) (j + 1) (l.length + 1)) (j + 1) ((us ++ [(⟨l[j], A1, c1⟩ : PlAt)]).flatMap PlAt.cells) by
          rw [List.flatMap_append, List.flatMap_singleton]; exact hown3)
        clear hown3 hgr3 hown2
        go_wp2
        go_roundw
        case rel => exact ⟨j + 1, us ++ [(⟨l[j], A1, c1⟩ : PlAt)], by omega, by go_num, rfl, HU3.out, HO3.out, HE3.out, B13.out, B23.out, HB3.out⟩
        case measure => simp [intOf]; omega
      · obtain rfl : j = l.length := by omega
        have hown2 := Lib.hid (HO.out.alloc (.cells #[.int .i64 (-7), .int .i64 0, .string ⟨#[]⟩, .slice none 0 0] 31))
        go_wp2_with (at_builtin; refine wpList_append_fits _ rfl _ _ 25 rfl (w.heap.size + 2) 31 i0 4 Tryz.underlying25 hi hz1 (w.heap.size + 2) l.length (l.length + 1) (us.flatMap PlAt.cells) rfl hown2.out ⟨wr.heap.size, 0, none⟩ 1 1 [.int .i64 (-7), .int .i64 0, .string ⟨#[]⟩, .slice none 0 0] rfl rfl (World.news_of_block (by exact heap_alloc_new wr _)) (by intro u hu; simp at hu; rcases hu with rfl | rfl | rfl | rfl <;> rfl) (by omega) ?_)
        intro w3 hown3 hgr3
        have D1 := Lib.hid (show w3.heap[w.heap.size]? = some X1 by rw [hgr3.block _ (by simp; omega) (fun e => by injection e; omega), Below.heap_alloc _ _ _ (by omega), B1.out])
        have D2 := Lib.hid (show w3.heap[w.heap.size + 1]? = some X2 by rw [hgr3.block _ (by simp; omega) (fun e => by injection e; omega), Below.heap_alloc _ _ _ (by omega), B2.out])
        have f1 : ∀ j, w3.cell? ⟨w.heap.size, j, none⟩ = (#[.int .i64 k, .int .i64 n, .string t, .slice (some ad) l.length c] : Array Value)[j]? := fun j => by simp [World.cell?, D1.out, ← HX1.out]
        have g1 : ∀ j, w3.frozen? ⟨w.heap.size, j, none⟩ = false := fun j => by simp [World.frozen?, D1.out, ← HX1.out]
        have f2 : ∀ j, w3.cell? ⟨w.heap.size + 1, j, none⟩ = (#[.int .i64 0, .int .i64 0, .string ⟨#[]⟩, .slice none 0 0] : Array Value)[j]? := fun j => by simp [World.cell?, D2.out, ← HX2.out]
        have g2 : ∀ j, w3.frozen? ⟨w.heap.size + 1, j, none⟩ = false := fun j => by simp [World.frozen?, D2.out, ← HX2.out]
        have HO3 := Lib.hid hown3
        have HG3 := Lib.hid hgr3
        have hs3 := hgr3.size
        rw [size_alloc] at hs3
        clear c3 hown3 hgr3
        go_wp2
        clear f1 g1 f2 g2
        have hres := run_loadVar_row (P := Tryz.prog) _ _ _ 31 _ _ _ (blk_set (blk_set (blk_set (blk_set (blk_far (D2.out.trans (by rw [← HX2.out])) (p := ⟨w.heap.size, 3, none⟩) (by simp) (.slice (some ⟨w.heap.size + 2, 0, none⟩) l.length (l.length + 1))) 0 (.int .i64 k)) 1 (.int .i64 n)) 2 (.string t)) 3 (.slice (some ⟨w.heap.size + 2, 0, none⟩) l.length (l.length + 1))) Tryz.underlying31 rfl (by kernel_rfl)
        refine bodyPost_ret (fn := Tryz.f23) (v := (Pl.mk k n t l).arg (some ⟨w.heap.size + 2, 0, none⟩) (l.length + 1)) ?_ rfl ⟨some ⟨w.heap.size + 2, 0, none⟩, l.length + 1, rfl, ?_, ?_⟩
        · exact results_cell (p := 2) (ty := 31) (a := ⟨w.heap.size + 1, 0, none⟩) Tryz.results23 rfl hres
        · clear hres
          have hfin : ∀ b o, b ≠ w.heap.size → b ≠ w.heap.size + 1 → (((((w3.setCell ⟨w.heap.size, 3, none⟩ (.slice (some ⟨w.heap.size + 2, 0, none⟩) l.length (l.length + 1))).setCell ⟨w.heap.size + 1, 0, none⟩ (.int .i64 k)).setCell ⟨w.heap.size + 1, 1, none⟩ (.int .i64 n)).setCell ⟨w.heap.size + 1, 2, none⟩ (.string t)).setCell ⟨w.heap.size + 1, 3, none⟩ (.slice (some ⟨w.heap.size + 2, 0, none⟩) l.length (l.length + 1))).cell? ⟨b, o, none⟩ = w3.cell? ⟨b, o, none⟩ := fun b o h1 h2 => by
            rw [cell_far _ _ (p := ⟨w.heap.size + 1, 3, none⟩) h2, cell_far _ _ (p := ⟨w.heap.size + 1, 2, none⟩) h2, cell_far _ _ (p := ⟨w.heap.size + 1, 1, none⟩) h2, cell_far _ _ (p := ⟨w.heap.size + 1, 0, none⟩) h2, cell_far _ _ (p := ⟨w.heap.size, 3, none⟩) h1]
          have hfs : (((((w3.setCell ⟨w.heap.size, 3, none⟩ (.slice (some ⟨w.heap.size + 2, 0, none⟩) l.length (l.length + 1))).setCell ⟨w.heap.size + 1, 0, none⟩ (.int .i64 k)).setCell ⟨w.heap.size + 1, 1, none⟩ (.int .i64 n)).setCell ⟨w.heap.size + 1, 2, none⟩ (.string t)).setCell ⟨w.heap.size + 1, 3, none⟩ (.slice (some ⟨w.heap.size + 2, 0, none⟩) l.length (l.length + 1))).heap.size = w3.heap.size := by
            rw [size_set, size_set, size_set, size_set, size_set]
          refine .inr ⟨w.heap.size + 2, 0, rfl, Nat.lt_succ_self _, ?_⟩
          have hup : us.map PlAt.p = l := by rw [HU.out, List.take_length]
          have hul : us.length = l.length := by rw [← hup, List.length_map]
          refine mtail_eq hup ?_
          refine mtail_of ⟨by omega, by rw [hfs]; omega⟩ us 0 (fun j u hj => ?_) (fun y hy => ?_) ?_
          · have hjl : j < us.length * 4 := by
              rcases Nat.lt_or_ge j (us.flatMap PlAt.cells).length with h | h
              · rwa [plat_len] at h
              · rw [List.getElem?_eq_none h] at hj; cases hj
            rw [hfin _ _ (by omega) (by omega), Nat.zero_add, HO3.out.cellAt j (by omega), List.getElem?_append_left (by rw [plat_len]; exact hjl)]
            exact hj
          · obtain ⟨h1, h2⟩ := HE.out y hy
            refine ⟨h1, h2.keep (fun b o hs => ?_) (fun b hs => ⟨by have := hs.1; omega, by rw [hfs]; have := hs.2; omega⟩)⟩
            have hb1 := hs.1
            have hb2 := hs.2
            rw [hfin _ _ (by omega) (by omega)]
            refine World.cell?_of_block (a := ⟨b, o, none⟩) ?_
            show w3.heap[b]? = wr.heap[b]?
            rw [HG3.out.block b (by simp; omega) (fun e => by injection e; omega), Below.heap_alloc _ _ _ hb2]
          · rw [hfin _ _ (by omega) (by omega), Nat.zero_add, HO3.out.cellAt _ (by omega), List.getElem?_append_right (by rw [plat_len]; exact Nat.le_refl _), plat_len, Nat.sub_self]; rfl
        · exact ((((((HB.out.alloc HB.out.size _).grown HG3.out (by have := HB.out.size; simp; omega) (by intro k hk; injection hk with hk; omega)).setCell (p := ⟨w.heap.size, 3, none⟩) (Nat.le_refl _) _).setCell (p := ⟨w.heap.size + 1, 0, none⟩) (Nat.le_succ _) _).setCell (p := ⟨w.heap.size + 1, 1, none⟩) (Nat.le_succ _) _).setCell (p := ⟨w.heap.size + 1, 2, none⟩) (Nat.le_succ _) _).setCell (p := ⟨w.heap.size + 1, 3, none⟩) (Nat.le_succ _) _
theorem twin_all : ∀ (z : Nat) (p : Pl), SizeOf.sizeOf p ≤ z → ∀ (A : Option Addr) (c : Nat) (w : World), p.sane → Pls.lies w w.heap.size p.list A → Calls Tryz.prog 23 #[p.arg A c] w (TwinPost p w) := by
  intro z
  induction z with
  | zero => intro p h; cases p; simp at h
  | succ z ih =>
    intro p hp A c w h0 h1
    obtain ⟨k, n, t, l⟩ := p
    exact twin_step k n t l (fun j hj => ih l[j] (by have := Pl.size_lt (k := k) (n := n) (t := t) hj; omega)) A c w h0 h1
/-- espalierlaw2.Twin. -/
theorem law2_Twin (p : Pl) (A : Option Addr) (c : Nat) (w : World) (h0 : p.sane) (h1 : Pls.lies w w.heap.size p.list A) : Calls Tryz.prog 23 #[p.arg A c] w (TwinPost p w) := twin_all _ p (Nat.le_refl _) A c w h0 h1
end Go.Proofs.YtcldbjgikkfnbaaGreatDoor
