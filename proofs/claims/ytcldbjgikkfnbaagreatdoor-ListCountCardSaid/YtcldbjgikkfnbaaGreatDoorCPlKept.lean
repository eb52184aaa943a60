/-
  espalierlaw2.Eq of a plain value with itself, marks, Kept: walks. Conditions: both lie in memory.
-/
import Derived.Test.YtcldbjgikkfnbaaGreatDoorCPlTwin
namespace Go.Proofs.YtcldbjgikkfnbaaGreatDoor
open Go.RowKit
set_option linter.unusedVariables false

set_option maxRecDepth 100000 in
set_option maxHeartbeats 4000000 in
theorem eq_step (k n : Int) (t : ByteArray) (l : List Pl)
    (ih : ∀ (j : Nat) (h : j < l.length) (A A' : Option Addr) (c c' : Nat) (w : World), l[j].sane → Pls.lies w w.heap.size l[j].list A → Pls.lies w w.heap.size l[j].list A' → Calls Tryz.prog 16 #[l[j].arg A c, l[j].arg A' c'] w (Bel (.bool true) w))
    (A A' : Option Addr) (c c' : Nat) (w : World) (hs : (Pl.mk k n t l).sane) (hl : Pls.lies w w.heap.size l A) (hl' : Pls.lies w w.heap.size l A') :
    Calls Tryz.prog 16 #[.agg #[.int .i64 k, .int .i64 n, .string t, .slice A l.length c], .agg #[.int .i64 k, .int .i64 n, .string t, .slice A' l.length c']] w (Bel (.bool true) w) := by
  have IH := Lib.hid ih
  have HL := Lib.hid hl
  have HL' := Lib.hid hl'
  have hlen : l.length * 56 ≤ 140737488351232 := hs.2.2.2
  clear ih hl hl' hs
  go_enter Tryz.func16, Tryz.ntmps16
  go_wp2
  generalize hX : Obj.cells #[.int .i64 k, .int .i64 n, .string t, .slice A l.length c] 31 = X at *
  generalize hX' : Obj.cells #[.int .i64 k, .int .i64 n, .string t, .slice A' l.length c'] 31 = X' at *
  have HX := Lib.hid hX
  have HX' := Lib.hid hX'
  have HB0 := Lib.hid (((Below.refl w.heap.size w).alloc (Nat.le_refl _) X).alloc (by simp) X')
  have D1 := Lib.hid (heap_alloc2 w X X').1
  have D2 := Lib.hid (heap_alloc2 w X X').2
  clear hX hX'
  go_loopw [5] (fun s5 wr => ∃ (j : Nat), j ≤ l.length ∧ s5 = .int .i64 (j : Int) ∧ wr.heap[w.heap.size]? = some X ∧ wr.heap[w.heap.size + 1]? = some X' ∧ Below w.heap.size w wr) (fun s5 _ => l.length - (intOf s5).toNat)
  case atStart => exact ⟨0, Nat.zero_le _, rfl, D1.out, D2.out, HB0.out⟩
  case round =>
    obtain ⟨j, hj, rfl, hb1, hb2, hbel⟩ := hrel
    have B1 := Lib.hid hb1
    have B2 := Lib.hid hb2
    have HB := Lib.hid hbel
    have hsz : w.heap.size + 1 < wr.heap.size := lt_of_block hb2
    clear hb1 hb2 hbel
    have c3 : wr.cell? ⟨w.heap.size, 3, none⟩ = some (.slice A l.length c) := cell_of_row _ _ 3 _ _ _ (by rw [B1.out, ← HX.out])
    by_cases hlt : j < l.length
    · obtain ⟨b1, o1, rfl⟩ := HL.out.head (by omega)
      obtain ⟨b2, o2, rfl⟩ := HL'.out.head (by omega)
      have hl1 := (HL.out.below HB.out (by omega : w.heap.size ≤ wr.heap.size)).at_ j hlt
      have hl2 := (HL'.out.below HB.out (by omega : w.heap.size ≤ wr.heap.size)).at_ j hlt
      have hsn := Lib.hid hl1.sane
      obtain ⟨_, d0, d1, d2, _, A1, c1, d3, hll1⟩ := hl1.parts
      obtain ⟨_, e0, e1, e2, _, A2, c2, e3, hll2⟩ := hl2.parts
      have KE := Lib.hid (fun x : Ext wr => IH.out j hlt A1 A2 c1 c2 x.now hsn.out (hll1.below x.ok x.ok.size) (hll2.below x.ok x.ok.size))
      unfold Pl.arg at KE
      have D0 := Ext.cell (w := wr) d0
      have D1 := Ext.cell (w := wr) d1
      have D2 := Ext.cell (w := wr) d2
      have D3 := Ext.cell (w := wr) d3
      have E0 := Ext.cell (w := wr) e0
      have E1 := Ext.cell (w := wr) e1
      have E2 := Ext.cell (w := wr) e2
      have E3 := Ext.cell (w := wr) e3
      have F1 := Ext.cell (w := wr) (p := ⟨w.heap.size, 3, none⟩) c3
      have F2 := Ext.cell (w := wr) (p := ⟨w.heap.size + 1, 3, none⟩) (v := .slice (some ⟨b2, o2, none⟩) l.length c') (cell_of_row _ _ 3 _ _ _ (by show wr.heap[w.heap.size + 1]? = _; rw [B2.out, ← HX'.out]))
      clear d0 d1 d2 d3 e0 e1 e2 e3 hl1 hl2 hll1 hll2
      go_wp2
      refine wp_region_ext (by kernel_rfl) (by kernel_rfl) ?_
      go_big_quiet_step (fail)
      go_big_quiet_step (fail)
      go_big_quiet_step (fail)
      go_big_quiet_step (fail)
      go_big_quiet_step (fail)
      go_big_quiet_step (fail)
      go_big_quiet_step (fail)
      go_big_quiet_step (fail)
      go_big_quiet_step (fail)
      go_big_quiet_step (fail)
      go_big_quiet_step ((go_at_call 16; exact Calls.ext_of (KE.out _)))
      go_big_quiet_step (fail)
      refine wpQuiet_nil ?_
      rintro _ ⟨z, rfl⟩
      have hz := z.ok
      have hb1 := Lib.hid ((hz.block w.heap.size (by omega)).trans B1.out)
      have hb2 := Lib.hid ((hz.block (w.heap.size + 1) (by omega)).trans B2.out)
      have HB2 := Lib.hid (HB.out.trans (hz.mono HB.out.size))
      clear hz D0 D1 D2 D3 E0 E1 E2 E3 F1 F2 KE c3
      generalize z.now = w2 at *
      go_wp2
      go_roundw
      case rel => exact ⟨j + 1, by omega, by go_num, hb1.out, hb2.out, HB2.out⟩
      case measure => simp [intOf]; omega
    · go_wp2
      go_ret
      exact ⟨rfl, HB.out⟩
theorem eq_all : ∀ (z : Nat) (p : Pl), SizeOf.sizeOf p ≤ z → ∀ (A A' : Option Addr) (c c' : Nat) (w : World), p.sane → Pls.lies w w.heap.size p.list A → Pls.lies w w.heap.size p.list A' → Calls Tryz.prog 16 #[p.arg A c, p.arg A' c'] w (Bel (.bool true) w) := by
  intro z
  induction z with
  | zero => intro p h; cases p; simp at h
  | succ z ih =>
    intro p hp A A' c c' w h0 h1 h2
    obtain ⟨k, n, t, l⟩ := p
    exact eq_step k n t l (fun j hj => ih l[j] (by have := Pl.size_lt (k := k) (n := n) (t := t) hj; omega)) A A' c c' w h0 h1 h2
/-- espalierlaw2.Eq of the same. -/
theorem law2_Eq (p : Pl) (A A' : Option Addr) (c c' : Nat) (w : World) (h0 : p.sane) (h1 : Pls.lies w w.heap.size p.list A) (h2 : Pls.lies w w.heap.size p.list A') : Calls Tryz.prog 16 #[p.arg A c, p.arg A' c'] w (Bel (.bool true) w) :=
  eq_all _ p (Nat.le_refl _) A A' c c' w h0 h1 h2
theorem Marked.next {w w' : World} {l : List Pl} {A : Option Addr} {c : Nat} (h : Marked w (· < w.heap.size) l A c) (hb : Below w.heap.size w w') : Marked w' (· < w'.heap.size) l A c :=
  h.keep (fun b o hs => hb.cell (p := ⟨b, o, none⟩) hs) (fun b hs => Nat.lt_of_lt_of_le hs hb.size)
set_option maxRecDepth 100000 in
set_option maxHeartbeats 4000000 in
theorem marks_step (k n : Int) (t : ByteArray) (l : List Pl)
    (ih : ∀ (j : Nat) (h : j < l.length) (A : Option Addr) (c : Nat) (w : World), l[j].sane → Marked w (· < w.heap.size) l[j].list A c → Calls Tryz.prog 41 #[l[j].arg A c] w (Bel (.bool true) w))
    (A : Option Addr) (c : Nat) (w : World) (hs : (Pl.mk k n t l).sane) (hl : Marked w (· < w.heap.size) l A c) :
    Calls Tryz.prog 41 #[.agg #[.int .i64 k, .int .i64 n, .string t, .slice A l.length c]] w (Bel (.bool true) w) := by
  have IH := Lib.hid ih
  have HL := Lib.hid hl
  have hlen : l.length * 56 ≤ 140737488351232 := hs.2.2.2
  generalize hX : Obj.cells #[.int .i64 k, .int .i64 n, .string t, .slice A l.length c] 31 = X
  have HX := Lib.hid hX
  have HB0 := Lib.hid ((Below.refl w.heap.size w).alloc (Nat.le_refl _) X)
  have D1 := Lib.hid (heap_alloc_new w X)
  clear ih hs
  rcases hl with ⟨rfl, rfl⟩ | ⟨b, o, rfl, hc, hm⟩
  · go_enter Tryz.func41, Tryz.ntmps41
    go_wp2
    go_loopw [4] (fun s4 wr => s4 = .int .i64 0 ∧ Below w.heap.size w wr) (fun s4 _ => 0)
    case atStart => exact ⟨rfl, by have h := HB0.out; rw [← HX.out] at h; exact h⟩
    case round =>
      obtain ⟨rfl, hbel⟩ := hrel
      have HB := Lib.hid hbel
      clear hbel
      go_wp2
      go_ret
      exact ⟨rfl, HB.out⟩
  · have HM := Lib.hid (Pls.mtail.keep (S' := (· < (w.alloc X).heap.size)) (fun b o hs => HB0.out.cell (p := ⟨b, o, none⟩) hs) (fun b hs => Nat.lt_of_lt_of_le hs HB0.out.size) l b o hm)
    have hmk := (Pls.mtail.mark HM.out).2
    rw [← hX] at hmk
    have hcI : (l.length : Int) + 1 ≤ (c : Int) := by omega
    have hcb : decide (c ≤ l.length) = false := by simp; omega
    clear hm hX
    go_enter Tryz.func41, Tryz.ntmps41
    go_wp2
    clear hmk hcI hcb
    rw [HX.out]
    go_loopw [4] (fun s4 wr => ∃ (j : Nat), j ≤ l.length ∧ s4 = .int .i64 (j : Int) ∧ wr.heap[w.heap.size]? = some X ∧ Below w.heap.size w wr) (fun s4 _ => l.length - (intOf s4).toNat)
    case atStart => exact ⟨0, Nat.zero_le _, rfl, D1.out, HB0.out⟩
    case round =>
      obtain ⟨j, hj, rfl, hb1, hbel⟩ := hrel
      have B1 := Lib.hid hb1
      have HB := Lib.hid hbel
      have hsz : w.heap.size < wr.heap.size := lt_of_block hb1
      clear hb1 hbel
      have c3 : wr.cell? ⟨w.heap.size, 3, none⟩ = some (.slice (some ⟨b, o, none⟩) l.length c) := cell_of_row _ _ 3 _ _ _ (by rw [B1.out, ← HX.out])
      by_cases hlt : j < l.length
      · have hm2 : Marked wr (· < wr.heap.size) l (some ⟨b, o, none⟩) c := Marked.next HL.out HB.out
        have hm3 : Pls.mtail wr (· < wr.heap.size) l b o := by
          rcases hm2 with ⟨h, _⟩ | ⟨b', o', h, _, h'⟩
          · cases h
          · injection h with h
            injection h with h1 h2 _
            subst h1 h2
            exact h'
        obtain ⟨_, hsn, A1, c1, hcs, hm4⟩ := Pl.mlies_iff.1 (hm3.at_ j hlt)
        have e0 : wr.cell? ⟨b, o + j * 4, none⟩ = some (.int .i64 l[j].kind) := hcs 0 _ rfl
        have e1 : wr.cell? ⟨b, o + j * 4 + 1, none⟩ = some (.int .i64 l[j].num) := hcs 1 _ rfl
        have e2 : wr.cell? ⟨b, o + j * 4 + 2, none⟩ = some (.string l[j].text) := hcs 2 _ rfl
        have e3 : wr.cell? ⟨b, o + j * 4 + 3, none⟩ = some (.slice A1 l[j].list.length c1) := hcs 3 _ rfl
        have KM := Lib.hid (IH.out j hlt A1 c1 wr hsn hm4)
        unfold Pl.arg at KM
        clear hm2 hm3 hcs hm4 hsn
        go_wp2_with fail
        refine KM.out.mono ?_
        rintro e w2 ⟨rfl, hb2⟩
        have B2 := Lib.hid ((hb2.block w.heap.size hsz).trans B1.out)
        have HB2 := Lib.hid (HB.out.trans (hb2.mono HB.out.size))
        clear hb2 e0 e1 e2 e3 c3 KM
        go_wp2
        go_roundw
        case rel => exact ⟨j + 1, by omega, by go_num, B2.out, HB2.out⟩
        case measure => simp [intOf]; omega
      · go_wp2
        go_ret
        exact ⟨rfl, HB.out⟩
theorem marks_all : ∀ (z : Nat) (p : Pl), SizeOf.sizeOf p ≤ z → ∀ (A : Option Addr) (c : Nat) (w : World), p.sane → Marked w (· < w.heap.size) p.list A c → Calls Tryz.prog 41 #[p.arg A c] w (Bel (.bool true) w) := by
  intro z
  induction z with
  | zero => intro p h; cases p; simp at h
  | succ z ih =>
    intro p hp A c w h0 h1
    obtain ⟨k, n, t, l⟩ := p
    exact marks_step k n t l (fun j hj => ih l[j] (by have := Pl.size_lt (k := k) (n := n) (t := t) hj; omega)) A c w h0 h1
set_option maxRecDepth 100000 in
set_option maxHeartbeats 4000000 in
/-- espalierlaw2.Kept: of a twin. -/
theorem law2_Kept (p : Pl) (A A' : Option Addr) (c c' : Nat) (w : World) (h0 : p.sane) (h1 : Marked w (· < w.heap.size) p.list A c) (h2 : Pls.lies w w.heap.size p.list A') : Calls Tryz.prog 25 #[p.arg A c, p.arg A' c'] w (Bel (.bool true) w) := by
  generalize hX : Obj.cells #[.int .i64 p.kind, .int .i64 p.num, .string p.text, .slice A p.list.length c] 31 = X
  generalize hX' : Obj.cells #[.int .i64 p.kind, .int .i64 p.num, .string p.text, .slice A' p.list.length c'] 31 = X'
  have HX := Lib.hid hX
  have HX' := Lib.hid hX'
  have HB0 := Lib.hid (((Below.refl w.heap.size w).alloc (Nat.le_refl _) X).alloc (by simp) X')
  have D1 := Lib.hid (heap_alloc2 w X X').1
  have D2 := Lib.hid (heap_alloc2 w X X').2
  have KE := Lib.hid (law2_Eq p A A' c c' ((w.alloc X).alloc X') h0 ((h1.lies (fun b h => h)).below HB0.out HB0.out.size) (h2.below HB0.out HB0.out.size))
  have KM := Lib.hid (fun w9 (hb : Below w.heap.size w w9) => marks_all _ p (Nat.le_refl _) A c w9 h0 (h1.next hb))
  unfold Pl.arg at KE KM ⊢
  clear hX hX' h1 h2
  go_enter Tryz.func25, Tryz.ntmps25
  go_wp2_with fail
  rw [HX.out, HX'.out]
  refine KE.out.mono ?_
  rintro e w1 ⟨rfl, hb⟩
  have HB1 := Lib.hid (HB0.out.trans (hb.mono HB0.out.size))
  have E1 := (hb.block w.heap.size (by simp; omega)).trans D1.out
  have KM1 := Lib.hid (KM.out w1 HB1.out)
  rw [← HX.out] at E1
  have f1 : ∀ j, w1.cell? ⟨w.heap.size, j, none⟩ = (#[.int .i64 p.kind, .int .i64 p.num, .string p.text, .slice A p.list.length c] : Array Value)[j]? := fun j => by simp [World.cell?, E1]
  clear hb E1 KE KM
  go_wp2_with fail
  refine KM1.out.mono ?_
  rintro e w2 ⟨rfl, hb⟩
  have HB2 := Lib.hid (HB1.out.trans (hb.mono HB1.out.size))
  clear hb
  go_wp2
  go_ret
  exact ⟨rfl, HB2.out⟩
end Go.Proofs.YtcldbjgikkfnbaaGreatDoor
