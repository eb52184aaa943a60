/-
  Kit.Row: a walk. Conditions: the kit lies in memory.
-/
import Derived.Test.YthjpphojddbbmaaGreatDoorKitOf
namespace Go.Proofs.YthjpphojddbbmaaGreatDoor
open Go.RowKit
set_option linter.unusedVariables false

theorem results_cell_tmp {P : Program} {fn : Func} {p q : Tmp} {ty : TypeId} (h : fn.results = #[.cell p ty, .tmp q]) {tmps : Array Value} {a : Addr} (ht : tmps.getD p undef = .pointer (some a)) {w : World} {v u : Value} (hl : (loadVar ty a).run P w = .ok v w) (hu : tmps.getD q undef = u) :
    (results fn tmps).run P w = .ok (.tuple #[v, u]) w := by
  unfold results
  simp only [h]
  have ht' : tmps[p]?.getD undef = .pointer (some a) := by simpa using ht
  have hu' : tmps[q]?.getD undef = u := by simpa using hu
  simp [ht', hu', asAddr, hl]

/-- A row that is told: of the call's own making. -/
def RowPost (r : RowD) (w : World) (e : Ending) (w' : World) : Prop := ∃ A c, e = .returned (.tuple #[r.val A c, .bool true]) ∧ NamesIn w' (· < w'.heap.size) r.abil A ∧ Below w.heap.size w w'
set_option maxRecDepth 100000 in
set_option maxHeartbeats 4000000 in
theorem kit_Row {w : World} {M KB : Nat} {name : ByteArray} {m v : Value} {ts : List RowAt} (h : KitIn w M KB name m v ts) (hlen : ts.length ≤ 1000000) (k : Nat) (hk : k < ts.length) (hab : 0 < ts[k].row.abil.length ∧ ts[k].row.abil.length ≤ 140737488351) (hdis : ∀ j (h : j < k), (ts[j]'(by omega)).row.kind ≠ ts[k].row.kind) :
    Calls Tryz.prog 34 #[.pointer (some ⟨KB, 0, none⟩), .string ts[k].row.kind] w (RowPost ts[k].row w) := by
  have hKB := h.kit_lt
  have hc1 : w.cell? ⟨KB, 1, none⟩ = some v := by simp [World.cell?, h.kit]
  have hc2 : w.cell? ⟨KB, 2, none⟩ = some (.map (some M)) := by simp [World.cell?, h.kit]
  have hfs := find_some (ts.map RowAt.row) ts[k].row.kind k (by simpa using hk) (by simp) (fun j hj => by simpa using hdis j hj) 0 0
  rw [Nat.zero_add] at hfs
  obtain ⟨A0, c0, hv, hlies⟩ : ∃ A c, v = .slice A ts.length c ∧ RowsIn w (· < w.heap.size) ts A := by
    obtain ⟨A, c, e, hl⟩ := (RowsOwn.mk h.own h.names).lies
    exact ⟨A, c, e, hl.keep (fun _ _ _ => rfl) (fun b hb => hb.2)⟩
  subst hv
  obtain ⟨b, o, rfl, hbb, hrows⟩ := hlies (by omega)
  obtain ⟨hcells, hnames⟩ := hrows k hk
  have hbx : Hid (Below w.heap.size w (w.alloc (.cells #[.string ⟨#[]⟩, .int .i64 0, .int .i64 0, .bool false, .int .i64 0, .slice none 0 0] 81))) := (Below.refl _ _).alloc (Nat.le_refl _) _
  generalize hw1 : w.alloc (.cells #[.string ⟨#[]⟩, .int .i64 0, .int .i64 0, .bool false, .int .i64 0, .slice none 0 0] 81) = w1 at hbx
  have hlook : (Instr.lookup 91 (.map (some M)) (.string ts[k].row.kind) true).run Tryz.prog w1 = .ok (.tuple #[.int .i64 (k : Int), .bool true]) w1 :=
    run_lookup_hit (T := 91) (K := 9) (E := 3) (by kernel_rfl) (by kernel_rfl) ((hbx.out.block _ h.map_lt).trans h.map) (by have := hfs; simpa using this)
  have hc : ∀ j, j < 6 → w.cell? ⟨b, o + k * 6 + j, none⟩ = ts[k].cells[j]? := hcells
  have e0 : w.cell? ⟨b, o + k * 6, none⟩ = some (.string ts[k].row.kind) := hc 0 (by omega)
  have e1 : w.cell? ⟨b, o + k * 6 + 1, none⟩ = some (.int .i64 ts[k].row.min) := hc 1 (by omega)
  have e2 : w.cell? ⟨b, o + k * 6 + 2, none⟩ = some (.int .i64 ts[k].row.max) := hc 2 (by omega)
  have e3 : w.cell? ⟨b, o + k * 6 + 3, none⟩ = some (.bool ts[k].row.num) := hc 3 (by omega)
  have e4 : w.cell? ⟨b, o + k * 6 + 4, none⟩ = some (.int .i64 ts[k].row.text) := hc 4 (by omega)
  have e5 : w.cell? ⟨b, o + k * 6 + 5, none⟩ = some (.slice ts[k].at_ ts[k].row.abil.length ts[k].cap) := hc 5 (by omega)
  have hs1 := hbx.out.size
  have hcp := Lib.hid (kit_copied ts[k].row hab.1 hab.2 ts[k].at_ ts[k].cap w1 ((hnames.below hbx.out).keep (fun _ _ _ => rfl) (fun b hb => Nat.lt_of_lt_of_le hb hs1)))
  have hw1' := Lib.hid hw1
  subst hw1
  clear hc hcells hnames hrows hfs hlies hdis
  have hkn := Lib.hid h
  clear h
  go_enter Tryz.func34, Tryz.ntmps34
  go_wp2_with fail
  unfold RowD.val at hcp
  refine hcp.out.mono ?_
  rintro e w2 ⟨A1, c1, rfl, hA1, hb2⟩
  have hb1 := hb2.block w.heap.size (by simp)
  have b1 := hb1.trans (heap_alloc_new w _)
  have f0 : ∀ j, w2.cell? ⟨w.heap.size, j, none⟩ = (#[.string ⟨#[]⟩, .int .i64 0, .int .i64 0, .bool false, .int .i64 0, .slice none 0 0] : Array Value)[j]? := fun j => by simp [World.cell?, b1]
  have g1 : ∀ j, w2.frozen? ⟨w.heap.size, j, none⟩ = false := fun j => by simp [World.frozen?, b1]
  have B1 := Lib.hid b1
  have HA1 := Lib.hid hA1
  have HB2 := Lib.hid (hbx.out.trans (hb2.mono (by simp)))
  have hs2 := hb2.size
  rw [size_alloc] at hs2
  have hbig : ∀ b, fresh (w.alloc (.cells #[.string ⟨#[]⟩, .int .i64 0, .int .i64 0, .bool false, .int .i64 0, .slice none 0 0] 81)) w2 b → b ≠ w.heap.size ∧ b < w2.heap.size := fun b hb => ⟨by have := hb.1; rw [size_alloc] at this; omega, hb.2⟩
  have HG := Lib.hid hbig
  clear hb1 b1 hA1 hb2 hbig hlook
  unfold RowD.val
  go_wp2
  have hres := run_loadVar_row (P := Tryz.prog) _ _ _ 81 _ _ _ (blk_set (blk_set (blk_set (blk_set (blk_set (blk_set B1.out 0 (.string ts[k].row.kind)) 1 (.int .i64 ts[k].row.min)) 2 (.int .i64 ts[k].row.max)) 3 (.bool ts[k].row.num)) 4 (.int .i64 ts[k].row.text)) 5 (.slice A1 ts[k].row.abil.length c1)) Tryz.underlying81 rfl (by kernel_rfl)
  refine bodyPost_ret (fn := Tryz.f34) (v := .tuple #[ts[k].row.val A1 c1, .bool true]) ?_ ?_ ?_
  · refine results_cell_tmp (p := 4) (q := 5) (ty := 81) (a := ⟨w.heap.size, 0, none⟩) Tryz.results34 ?_ ?_ ?_
    · rfl
    · exact hres
    · rfl
  · rfl
  have hsz : ((((((w2.setCell ⟨w.heap.size, 0, none⟩ (.string ts[k].row.kind)).setCell ⟨w.heap.size, 1, none⟩ (.int .i64 ts[k].row.min)).setCell ⟨w.heap.size, 2, none⟩ (.int .i64 ts[k].row.max)).setCell ⟨w.heap.size, 3, none⟩ (.bool ts[k].row.num)).setCell ⟨w.heap.size, 4, none⟩ (.int .i64 ts[k].row.text)).setCell ⟨w.heap.size, 5, none⟩ (.slice A1 ts[k].row.abil.length c1)).heap.size = w2.heap.size := by
    rw [size_set, size_set, size_set, size_set, size_set, size_set]
  refine ⟨A1, c1, rfl, HA1.out.keep (fun b o hb => ?_) (fun b hb => by rw [hsz]; exact (HG.out b hb).2), ?_⟩
  · have n1 := (HG.out b hb).1
    rw [cell_far _ _ (p := ⟨w.heap.size, 5, none⟩) n1, cell_far _ _ (p := ⟨w.heap.size, 4, none⟩) n1, cell_far _ _ (p := ⟨w.heap.size, 3, none⟩) n1, cell_far _ _ (p := ⟨w.heap.size, 2, none⟩) n1, cell_far _ _ (p := ⟨w.heap.size, 1, none⟩) n1, cell_far _ _ (p := ⟨w.heap.size, 0, none⟩) n1]
  · exact ((((((HB2.out.setCell (p := ⟨w.heap.size, 0, none⟩) (Nat.le_refl _) _).setCell (p := ⟨w.heap.size, 1, none⟩) (Nat.le_refl _) _).setCell (p := ⟨w.heap.size, 2, none⟩) (Nat.le_refl _) _).setCell (p := ⟨w.heap.size, 3, none⟩) (Nat.le_refl _) _).setCell (p := ⟨w.heap.size, 4, none⟩) (Nat.le_refl _) _).setCell (p := ⟨w.heap.size, 5, none⟩) (Nat.le_refl _) _)
end Go.Proofs.YthjpphojddbbmaaGreatDoor
