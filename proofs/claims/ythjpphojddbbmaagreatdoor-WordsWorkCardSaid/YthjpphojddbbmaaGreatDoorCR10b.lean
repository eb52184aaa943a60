/-
  espalierref10.sorts at each operation; num, text, truth: walks. Printed by a program of mine (gen_r10b.py). Conditions: the values lie in memory.
-/
import Derived.Test.YthjpphojddbbmaaGreatDoorCR10a
namespace Go.Proofs.YthjpphojddbbmaaGreatDoor
open Go.RowKit
set_option linter.unusedVariables false
set_option linter.unusedSimpArgs false

set_option maxRecDepth 100000 in
theorem r_sorts_join (ps : List Pl) (hn : ps.length = 2) (b o c : Nat) (w : World) (hps : ∀ j (h : j < ps.length), w.cell? ⟨b, o + j * 4, none⟩ = some (.int .i64 ps[j].kind)) :
    Calls Tryz.prog 29 #[.string ⟨#[119, 111, 114, 100, 115, 46, 106, 111, 105, 110]⟩, .slice (some ⟨b, o, none⟩) 2 c] w (Bel (.bool (kindsB ps [4, 4])) w) := by
  have HB := Lib.hid ((Below.refl w.heap.size w).alloc (Nat.le_refl _) (.cells #[.int .i64 4, .int .i64 4] 3))
  have KK := Lib.hid (r_kinds ps [4, 4] b o c w.heap.size 2 (w.alloc (.cells #[.int .i64 4, .int .i64 4] 3)) (by omega) (by rw [hn]; decide) (fun j h => alloc_cell _ (hps j h)) (fun j h => by
    have hj : (w.alloc (.cells #[.int .i64 4, .int .i64 4] 3)).cell? ⟨w.heap.size, j, none⟩ = (#[.int .i64 4, .int .i64 4] : Array Value)[j]? := World.cell?_alloc_new _ _ _ _
    rw [hj]
    have h' : j < 2 := h
    match j, h' with
    | 0, _ => rfl
    | 1, _ => rfl))
  rw [hn] at KK
  simp only [List.length_cons, List.length_nil, Nat.zero_add, Nat.reduceAdd] at KK
  generalize kindsB ps [4, 4] = q at *
  clear hps hn
  go_enter Tryz.func29, Tryz.ntmps29
  go_wp2_with fail
  refine KK.out.mono ?_
  rintro e w1 ⟨rfl, hb⟩
  have HZ := Lib.hid (HB.out.trans (hb.mono HB.out.size))
  clear hb
  go_wp2
  go_ret
  exact ⟨rfl, HZ.out⟩
set_option maxRecDepth 100000 in
theorem r_sorts_size (ps : List Pl) (hn : ps.length = 1) (b o c : Nat) (w : World) (hps : ∀ j (h : j < ps.length), w.cell? ⟨b, o + j * 4, none⟩ = some (.int .i64 ps[j].kind)) :
    Calls Tryz.prog 29 #[.string ⟨#[119, 111, 114, 100, 115, 46, 115, 105, 122, 101]⟩, .slice (some ⟨b, o, none⟩) 1 c] w (Bel (.bool (kindsB ps [4])) w) := by
  have HB := Lib.hid ((Below.refl w.heap.size w).alloc (Nat.le_refl _) (.cells #[.int .i64 4] 3))
  have KK := Lib.hid (r_kinds ps [4] b o c w.heap.size 1 (w.alloc (.cells #[.int .i64 4] 3)) (by omega) (by rw [hn]; decide) (fun j h => alloc_cell _ (hps j h)) (fun j h => by
    have hj : (w.alloc (.cells #[.int .i64 4] 3)).cell? ⟨w.heap.size, j, none⟩ = (#[.int .i64 4] : Array Value)[j]? := World.cell?_alloc_new _ _ _ _
    rw [hj]
    have h' : j < 1 := h
    match j, h' with
    | 0, _ => rfl))
  rw [hn] at KK
  simp only [List.length_cons, List.length_nil, Nat.zero_add, Nat.reduceAdd] at KK
  generalize kindsB ps [4] = q at *
  clear hps hn
  go_enter Tryz.func29, Tryz.ntmps29
  go_wp2_with fail
  refine KK.out.mono ?_
  rintro e w1 ⟨rfl, hb⟩
  have HZ := Lib.hid (HB.out.trans (hb.mono HB.out.size))
  clear hb
  go_wp2
  go_ret
  exact ⟨rfl, HZ.out⟩
set_option maxRecDepth 100000 in
theorem r_sorts_cut (ps : List Pl) (hn : ps.length = 3) (b o c : Nat) (w : World) (hps : ∀ j (h : j < ps.length), w.cell? ⟨b, o + j * 4, none⟩ = some (.int .i64 ps[j].kind)) :
    Calls Tryz.prog 29 #[.string ⟨#[119, 111, 114, 100, 115, 46, 99, 117, 116]⟩, .slice (some ⟨b, o, none⟩) 3 c] w (Bel (.bool (kindsB ps [4, 3, 3])) w) := by
  have HB := Lib.hid ((Below.refl w.heap.size w).alloc (Nat.le_refl _) (.cells #[.int .i64 4, .int .i64 3, .int .i64 3] 3))
  have KK := Lib.hid (r_kinds ps [4, 3, 3] b o c w.heap.size 3 (w.alloc (.cells #[.int .i64 4, .int .i64 3, .int .i64 3] 3)) (by omega) (by rw [hn]; decide) (fun j h => alloc_cell _ (hps j h)) (fun j h => by
    have hj : (w.alloc (.cells #[.int .i64 4, .int .i64 3, .int .i64 3] 3)).cell? ⟨w.heap.size, j, none⟩ = (#[.int .i64 4, .int .i64 3, .int .i64 3] : Array Value)[j]? := World.cell?_alloc_new _ _ _ _
    rw [hj]
    have h' : j < 3 := h
    match j, h' with
    | 0, _ => rfl
    | 1, _ => rfl
    | 2, _ => rfl))
  rw [hn] at KK
  simp only [List.length_cons, List.length_nil, Nat.zero_add, Nat.reduceAdd] at KK
  generalize kindsB ps [4, 3, 3] = q at *
  clear hps hn
  go_enter Tryz.func29, Tryz.ntmps29
  go_wp2_with fail
  refine KK.out.mono ?_
  rintro e w1 ⟨rfl, hb⟩
  have HZ := Lib.hid (HB.out.trans (hb.mono HB.out.size))
  clear hb
  go_wp2
  go_ret
  exact ⟨rfl, HZ.out⟩
set_option maxRecDepth 100000 in
theorem r_sorts_find (ps : List Pl) (hn : ps.length = 2) (b o c : Nat) (w : World) (hps : ∀ j (h : j < ps.length), w.cell? ⟨b, o + j * 4, none⟩ = some (.int .i64 ps[j].kind)) :
    Calls Tryz.prog 29 #[.string ⟨#[119, 111, 114, 100, 115, 46, 102, 105, 110, 100]⟩, .slice (some ⟨b, o, none⟩) 2 c] w (Bel (.bool (kindsB ps [4, 4])) w) := by
  have HB := Lib.hid ((Below.refl w.heap.size w).alloc (Nat.le_refl _) (.cells #[.int .i64 4, .int .i64 4] 3))
  have KK := Lib.hid (r_kinds ps [4, 4] b o c w.heap.size 2 (w.alloc (.cells #[.int .i64 4, .int .i64 4] 3)) (by omega) (by rw [hn]; decide) (fun j h => alloc_cell _ (hps j h)) (fun j h => by
    have hj : (w.alloc (.cells #[.int .i64 4, .int .i64 4] 3)).cell? ⟨w.heap.size, j, none⟩ = (#[.int .i64 4, .int .i64 4] : Array Value)[j]? := World.cell?_alloc_new _ _ _ _
    rw [hj]
    have h' : j < 2 := h
    match j, h' with
    | 0, _ => rfl
    | 1, _ => rfl))
  rw [hn] at KK
  simp only [List.length_cons, List.length_nil, Nat.zero_add, Nat.reduceAdd] at KK
  generalize kindsB ps [4, 4] = q at *
  clear hps hn
  go_enter Tryz.func29, Tryz.ntmps29
  go_wp2_with fail
  refine KK.out.mono ?_
  rintro e w1 ⟨rfl, hb⟩
  have HZ := Lib.hid (HB.out.trans (hb.mono HB.out.size))
  clear hb
  go_wp2
  go_ret
  exact ⟨rfl, HZ.out⟩
set_option maxRecDepth 100000 in
theorem r_sorts_rep (ps : List Pl) (hn : ps.length = 2) (b o c : Nat) (w : World) (hps : ∀ j (h : j < ps.length), w.cell? ⟨b, o + j * 4, none⟩ = some (.int .i64 ps[j].kind)) :
    Calls Tryz.prog 29 #[.string ⟨#[119, 111, 114, 100, 115, 46, 114, 101, 112]⟩, .slice (some ⟨b, o, none⟩) 2 c] w (Bel (.bool (kindsB ps [4, 3])) w) := by
  have HB := Lib.hid ((Below.refl w.heap.size w).alloc (Nat.le_refl _) (.cells #[.int .i64 4, .int .i64 3] 3))
  have KK := Lib.hid (r_kinds ps [4, 3] b o c w.heap.size 2 (w.alloc (.cells #[.int .i64 4, .int .i64 3] 3)) (by omega) (by rw [hn]; decide) (fun j h => alloc_cell _ (hps j h)) (fun j h => by
    have hj : (w.alloc (.cells #[.int .i64 4, .int .i64 3] 3)).cell? ⟨w.heap.size, j, none⟩ = (#[.int .i64 4, .int .i64 3] : Array Value)[j]? := World.cell?_alloc_new _ _ _ _
    rw [hj]
    have h' : j < 2 := h
    match j, h' with
    | 0, _ => rfl
    | 1, _ => rfl))
  rw [hn] at KK
  simp only [List.length_cons, List.length_nil, Nat.zero_add, Nat.reduceAdd] at KK
  generalize kindsB ps [4, 3] = q at *
  clear hps hn
  go_enter Tryz.func29, Tryz.ntmps29
  go_wp2_with fail
  refine KK.out.mono ?_
  rintro e w1 ⟨rfl, hb⟩
  have HZ := Lib.hid (HB.out.trans (hb.mono HB.out.size))
  clear hb
  go_wp2
  go_ret
  exact ⟨rfl, HZ.out⟩
set_option maxRecDepth 100000 in
theorem r_sorts_less (ps : List Pl) (hn : ps.length = 2) (b o c : Nat) (w : World) (hps : ∀ j (h : j < ps.length), w.cell? ⟨b, o + j * 4, none⟩ = some (.int .i64 ps[j].kind)) :
    Calls Tryz.prog 29 #[.string ⟨#[119, 111, 114, 100, 115, 46, 108, 101, 115, 115]⟩, .slice (some ⟨b, o, none⟩) 2 c] w (Bel (.bool (kindsB ps [4, 4])) w) := by
  have HB := Lib.hid ((Below.refl w.heap.size w).alloc (Nat.le_refl _) (.cells #[.int .i64 4, .int .i64 4] 3))
  have KK := Lib.hid (r_kinds ps [4, 4] b o c w.heap.size 2 (w.alloc (.cells #[.int .i64 4, .int .i64 4] 3)) (by omega) (by rw [hn]; decide) (fun j h => alloc_cell _ (hps j h)) (fun j h => by
    have hj : (w.alloc (.cells #[.int .i64 4, .int .i64 4] 3)).cell? ⟨w.heap.size, j, none⟩ = (#[.int .i64 4, .int .i64 4] : Array Value)[j]? := World.cell?_alloc_new _ _ _ _
    rw [hj]
    have h' : j < 2 := h
    match j, h' with
    | 0, _ => rfl
    | 1, _ => rfl))
  rw [hn] at KK
  simp only [List.length_cons, List.length_nil, Nat.zero_add, Nat.reduceAdd] at KK
  generalize kindsB ps [4, 4] = q at *
  clear hps hn
  go_enter Tryz.func29, Tryz.ntmps29
  go_wp2_with fail
  refine KK.out.mono ?_
  rintro e w1 ⟨rfl, hb⟩
  have HZ := Lib.hid (HB.out.trans (hb.mono HB.out.size))
  clear hb
  go_wp2
  go_ret
  exact ⟨rfl, HZ.out⟩
set_option maxRecDepth 100000 in
theorem r_sorts_of (ps : List Pl) (hn : ps.length = 1) (b o c : Nat) (w : World) (hps : ∀ j (h : j < ps.length), w.cell? ⟨b, o + j * 4, none⟩ = some (.int .i64 ps[j].kind)) :
    Calls Tryz.prog 29 #[.string ⟨#[119, 111, 114, 100, 115, 46, 111, 102]⟩, .slice (some ⟨b, o, none⟩) 1 c] w (Bel (.bool (kindsB ps [3])) w) := by
  have HB := Lib.hid ((Below.refl w.heap.size w).alloc (Nat.le_refl _) (.cells #[.int .i64 3] 3))
  have KK := Lib.hid (r_kinds ps [3] b o c w.heap.size 1 (w.alloc (.cells #[.int .i64 3] 3)) (by omega) (by rw [hn]; decide) (fun j h => alloc_cell _ (hps j h)) (fun j h => by
    have hj : (w.alloc (.cells #[.int .i64 3] 3)).cell? ⟨w.heap.size, j, none⟩ = (#[.int .i64 3] : Array Value)[j]? := World.cell?_alloc_new _ _ _ _
    rw [hj]
    have h' : j < 1 := h
    match j, h' with
    | 0, _ => rfl))
  rw [hn] at KK
  simp only [List.length_cons, List.length_nil, Nat.zero_add, Nat.reduceAdd] at KK
  generalize kindsB ps [3] = q at *
  clear hps hn
  go_enter Tryz.func29, Tryz.ntmps29
  go_wp2_with fail
  refine KK.out.mono ?_
  rintro e w1 ⟨rfl, hb⟩
  have HZ := Lib.hid (HB.out.trans (hb.mono HB.out.size))
  clear hb
  go_wp2
  go_ret
  exact ⟨rfl, HZ.out⟩
set_option maxRecDepth 100000 in
theorem r_sorts_num (ps : List Pl) (hn : ps.length = 1) (b o c : Nat) (w : World) (hps : ∀ j (h : j < ps.length), w.cell? ⟨b, o + j * 4, none⟩ = some (.int .i64 ps[j].kind)) :
    Calls Tryz.prog 29 #[.string ⟨#[119, 111, 114, 100, 115, 46, 110, 117, 109]⟩, .slice (some ⟨b, o, none⟩) 1 c] w (Bel (.bool (kindsB ps [4])) w) := by
  have HB := Lib.hid ((Below.refl w.heap.size w).alloc (Nat.le_refl _) (.cells #[.int .i64 4] 3))
  have KK := Lib.hid (r_kinds ps [4] b o c w.heap.size 1 (w.alloc (.cells #[.int .i64 4] 3)) (by omega) (by rw [hn]; decide) (fun j h => alloc_cell _ (hps j h)) (fun j h => by
    have hj : (w.alloc (.cells #[.int .i64 4] 3)).cell? ⟨w.heap.size, j, none⟩ = (#[.int .i64 4] : Array Value)[j]? := World.cell?_alloc_new _ _ _ _
    rw [hj]
    have h' : j < 1 := h
    match j, h' with
    | 0, _ => rfl))
  rw [hn] at KK
  simp only [List.length_cons, List.length_nil, Nat.zero_add, Nat.reduceAdd] at KK
  generalize kindsB ps [4] = q at *
  clear hps hn
  go_enter Tryz.func29, Tryz.ntmps29
  go_wp2_with fail
  refine KK.out.mono ?_
  rintro e w1 ⟨rfl, hb⟩
  have HZ := Lib.hid (HB.out.trans (hb.mono HB.out.size))
  clear hb
  go_wp2
  go_ret
  exact ⟨rfl, HZ.out⟩
theorem r_num (n : Int) (w : World) : Calls Tryz.prog 59 #[.int .i64 n] w (Bel (.agg #[.int .i64 3, .int .i64 n, .string ⟨#[]⟩, .slice none 0 0]) w) := by
  go_enter Tryz.func59, Tryz.ntmps59
  go_wp2
  exact bodyPost_ret (fn := Tryz.f59) (v := .agg #[.int .i64 3, .int .i64 n, .string ⟨#[]⟩, .slice none 0 0]) (results_cell (p := 2) (ty := 34) (a := ⟨w.heap.size, 0, none⟩) Tryz.results59 rfl (run_loadVar_row (P := Tryz.prog) _ _ _ 34 _ _ _ (heap_alloc_new _ _) Tryz.underlying34 rfl (by kernel_rfl))) rfl ⟨rfl, (Below.refl _ _).alloc (Nat.le_refl _) _⟩
theorem r_text (s : ByteArray) (w : World) : Calls Tryz.prog 58 #[.string s] w (Bel (.agg #[.int .i64 4, .int .i64 0, .string s, .slice none 0 0]) w) := by
  go_enter Tryz.func58, Tryz.ntmps58
  go_wp2
  exact bodyPost_ret (fn := Tryz.f58) (v := .agg #[.int .i64 4, .int .i64 0, .string s, .slice none 0 0]) (results_cell (p := 2) (ty := 34) (a := ⟨w.heap.size, 0, none⟩) Tryz.results58 rfl (run_loadVar_row (P := Tryz.prog) _ _ _ 34 _ _ _ (heap_alloc_new _ _) Tryz.underlying34 rfl (by kernel_rfl))) rfl ⟨rfl, (Below.refl _ _).alloc (Nat.le_refl _) _⟩
end Go.Proofs.YthjpphojddbbmaaGreatDoor
