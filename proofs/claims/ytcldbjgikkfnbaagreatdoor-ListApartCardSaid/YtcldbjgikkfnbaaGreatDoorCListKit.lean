/-
  list.row, list.rows, list.Kit: walks. Written by a program of mine (gen_listkit.py). Conditions: none.
-/
import Derived.Test.YtcldbjgikkfnbaaGreatDoorCKitNew
namespace Go.Proofs.YtcldbjgikkfnbaaGreatDoor
open Go.RowKit
set_option linter.unusedVariables false

def listRows : List RowD := [⟨⟨#[108, 105, 115, 116, 46, 111, 102]⟩, 0, (-1), false, 0, [⟨#[83, 116, 114, 105, 99, 116]⟩, ⟨#[80, 117, 114, 101]⟩, ⟨#[83, 111, 114, 116, 101, 100]⟩]⟩, ⟨⟨#[108, 105, 115, 116, 46, 115, 105, 122, 101]⟩, 1, 1, false, 0, [⟨#[83, 116, 114, 105, 99, 116]⟩, ⟨#[80, 117, 114, 101]⟩, ⟨#[84, 111, 116, 97, 108]⟩, ⟨#[83, 111, 114, 116, 101, 100]⟩]⟩, ⟨⟨#[108, 105, 115, 116, 46, 97, 116]⟩, 2, 2, false, 0, [⟨#[83, 116, 114, 105, 99, 116]⟩, ⟨#[80, 117, 114, 101]⟩, ⟨#[83, 111, 114, 116, 101, 100]⟩]⟩, ⟨⟨#[108, 105, 115, 116, 46, 106, 111, 105, 110]⟩, 2, 2, false, 0, [⟨#[83, 116, 114, 105, 99, 116]⟩, ⟨#[80, 117, 114, 101]⟩, ⟨#[83, 111, 114, 116, 101, 100]⟩]⟩, ⟨⟨#[108, 105, 115, 116, 46, 97, 100, 100]⟩, 2, 2, false, 0, [⟨#[83, 116, 114, 105, 99, 116]⟩, ⟨#[80, 117, 114, 101]⟩, ⟨#[83, 111, 114, 116, 101, 100]⟩]⟩, ⟨⟨#[108, 105, 115, 116, 46, 99, 117, 116]⟩, 3, 3, false, 0, [⟨#[83, 116, 114, 105, 99, 116]⟩, ⟨#[80, 117, 114, 101]⟩, ⟨#[83, 111, 114, 116, 101, 100]⟩]⟩, ⟨⟨#[108, 105, 115, 116, 46, 116, 117, 114, 110]⟩, 1, 1, false, 0, [⟨#[83, 116, 114, 105, 99, 116]⟩, ⟨#[80, 117, 114, 101]⟩, ⟨#[84, 111, 116, 97, 108]⟩, ⟨#[83, 111, 114, 116, 101, 100]⟩]⟩, ⟨⟨#[108, 105, 115, 116, 46, 99, 111, 117, 110, 116]⟩, 1, 1, false, 0, [⟨#[83, 116, 114, 105, 99, 116]⟩, ⟨#[80, 117, 114, 101]⟩, ⟨#[83, 111, 114, 116, 101, 100]⟩]⟩, ⟨⟨#[108, 105, 115, 116, 46, 109, 97, 112]⟩, 2, 2, false, 2, [⟨#[76, 97, 122, 121]⟩, ⟨#[66, 105, 110, 100, 101, 114]⟩, ⟨#[80, 117, 114, 101]⟩, ⟨#[83, 111, 114, 116, 101, 100]⟩]⟩, ⟨⟨#[108, 105, 115, 116, 46, 107, 101, 101, 112]⟩, 2, 2, false, 2, [⟨#[76, 97, 122, 121]⟩, ⟨#[66, 105, 110, 100, 101, 114]⟩, ⟨#[80, 117, 114, 101]⟩, ⟨#[84, 111, 116, 97, 108]⟩, ⟨#[83, 111, 114, 116, 101, 100]⟩]⟩]
theorem list_kitB : kitB ⟨#[108, 105, 115, 116]⟩ listRows = true := by kernel_rfl
def RowsNew (rs : List RowD) (w : World) (e : Ending) (w' : World) : Prop := ∃ A c ts, e = .returned (.slice A rs.length c) ∧ ts.map RowAt.row = rs ∧ RowsIn w' (fresh w w') ts A ∧ Below w.heap.size w w'
theorem list_row (t : ByteArray) (mn mx tx : Int) (A : Option Addr) (n c : Nat) (w : World) : Calls Tryz.prog 66 #[.string t, .int .i64 mn, .int .i64 mx, .int .i64 tx, .slice A n c] w (Bel (.agg #[.string t, .int .i64 mn, .int .i64 mx, .bool false, .int .i64 tx, .slice A n c]) w) := by
  have H1 := Lib.hid ((Below.refl w.heap.size w).alloc (Nat.le_refl _) (.cells #[.string t, .int .i64 mn, .int .i64 mx, .bool false, .int .i64 tx, .slice A n c] 123))
  have HX := Lib.hid (heap_alloc_new w (.cells #[.string t, .int .i64 mn, .int .i64 mx, .bool false, .int .i64 tx, .slice A n c] 123))
  go_enter Tryz.func66, Tryz.ntmps66
  go_wp2
  exact bodyPost_ret (fn := Tryz.f66) (v := .agg #[.string t, .int .i64 mn, .int .i64 mx, .bool false, .int .i64 tx, .slice A n c]) (results_cell (p := 10) (ty := 123) (a := ⟨w.heap.size, 0, none⟩) Tryz.results66 rfl (run_loadVar_row (P := Tryz.prog) _ _ _ 123 _ _ _ HX.out Tryz.underlying123 rfl (by kernel_rfl))) rfl ⟨rfl, H1.out⟩
theorem names_lit (w w' : World) (l : List ByteArray) (n : Nat) (hn : w.heap.size = n) (hb : Below (w.alloc (.cells (l.map Value.string).toArray 9)).heap.size (w.alloc (.cells (l.map Value.string).toArray 9)) w') : NamesIn w' (fresh w w') l (some ⟨n, 0, none⟩) := by
  subst hn
  intro _
  have hs := hb.size
  rw [size_alloc] at hs
  refine ⟨_, 0, rfl, ⟨Nat.le_refl _, by omega⟩, fun j hj => ?_⟩
  exact cells_string l _ ((hb.block w.heap.size (by rw [size_alloc]; omega)).trans (heap_alloc_new w _)) j hj
set_option maxRecDepth 100000 in
set_option maxHeartbeats 8000000 in
theorem list_rows (w : World) : Calls Tryz.prog 36 #[] w (RowsNew listRows w) := by
  go_enter Tryz.func36, Tryz.ntmps36
  go_wp2_with fail
  refine (list_row _ _ _ _ _ _ _ _).mono ?_
  rintro e w1 ⟨rfl, hb⟩
  have HN1 := Lib.hid (names_lit w w1 [⟨#[83, 116, 114, 105, 99, 116]⟩, ⟨#[80, 117, 114, 101]⟩, ⟨#[83, 111, 114, 116, 101, 100]⟩] _ rfl hb)
  have HC1 := Lib.hid (((Below.refl w.heap.size w).alloc (Nat.le_refl _) _).trans (hb.mono (by simp)))
  have HB1 := HC1
  clear hb
  go_wp2_with fail
  refine (list_row _ _ _ _ _ _ _ _).mono ?_
  rintro e w2 ⟨rfl, hb⟩
  have HN2 := Lib.hid (names_lit w1 w2 [⟨#[83, 116, 114, 105, 99, 116]⟩, ⟨#[80, 117, 114, 101]⟩, ⟨#[84, 111, 116, 97, 108]⟩, ⟨#[83, 111, 114, 116, 101, 100]⟩] _ rfl hb)
  have HC2 := Lib.hid (((Below.refl w1.heap.size w1).alloc (Nat.le_refl _) _).trans (hb.mono (by simp)))
  have HB2 := Lib.hid (HB1.out.trans (HC2.out.mono HB1.out.size))
  clear hb
  go_wp2_with fail
  refine (list_row _ _ _ _ _ _ _ _).mono ?_
  rintro e w3 ⟨rfl, hb⟩
  have HN3 := Lib.hid (names_lit w2 w3 [⟨#[83, 116, 114, 105, 99, 116]⟩, ⟨#[80, 117, 114, 101]⟩, ⟨#[83, 111, 114, 116, 101, 100]⟩] _ rfl hb)
  have HC3 := Lib.hid (((Below.refl w2.heap.size w2).alloc (Nat.le_refl _) _).trans (hb.mono (by simp)))
  have HB3 := Lib.hid (HB2.out.trans (HC3.out.mono HB2.out.size))
  clear hb
  go_wp2_with fail
  refine (list_row _ _ _ _ _ _ _ _).mono ?_
  rintro e w4 ⟨rfl, hb⟩
  have HN4 := Lib.hid (names_lit w3 w4 [⟨#[83, 116, 114, 105, 99, 116]⟩, ⟨#[80, 117, 114, 101]⟩, ⟨#[83, 111, 114, 116, 101, 100]⟩] _ rfl hb)
  have HC4 := Lib.hid (((Below.refl w3.heap.size w3).alloc (Nat.le_refl _) _).trans (hb.mono (by simp)))
  have HB4 := Lib.hid (HB3.out.trans (HC4.out.mono HB3.out.size))
  clear hb
  go_wp2_with fail
  refine (list_row _ _ _ _ _ _ _ _).mono ?_
  rintro e w5 ⟨rfl, hb⟩
  have HN5 := Lib.hid (names_lit w4 w5 [⟨#[83, 116, 114, 105, 99, 116]⟩, ⟨#[80, 117, 114, 101]⟩, ⟨#[83, 111, 114, 116, 101, 100]⟩] _ rfl hb)
  have HC5 := Lib.hid (((Below.refl w4.heap.size w4).alloc (Nat.le_refl _) _).trans (hb.mono (by simp)))
  have HB5 := Lib.hid (HB4.out.trans (HC5.out.mono HB4.out.size))
  clear hb
  go_wp2_with fail
  refine (list_row _ _ _ _ _ _ _ _).mono ?_
  rintro e w6 ⟨rfl, hb⟩
  have HN6 := Lib.hid (names_lit w5 w6 [⟨#[83, 116, 114, 105, 99, 116]⟩, ⟨#[80, 117, 114, 101]⟩, ⟨#[83, 111, 114, 116, 101, 100]⟩] _ rfl hb)
  have HC6 := Lib.hid (((Below.refl w5.heap.size w5).alloc (Nat.le_refl _) _).trans (hb.mono (by simp)))
  have HB6 := Lib.hid (HB5.out.trans (HC6.out.mono HB5.out.size))
  clear hb
  go_wp2_with fail
  refine (list_row _ _ _ _ _ _ _ _).mono ?_
  rintro e w7 ⟨rfl, hb⟩
  have HN7 := Lib.hid (names_lit w6 w7 [⟨#[83, 116, 114, 105, 99, 116]⟩, ⟨#[80, 117, 114, 101]⟩, ⟨#[84, 111, 116, 97, 108]⟩, ⟨#[83, 111, 114, 116, 101, 100]⟩] _ rfl hb)
  have HC7 := Lib.hid (((Below.refl w6.heap.size w6).alloc (Nat.le_refl _) _).trans (hb.mono (by simp)))
  have HB7 := Lib.hid (HB6.out.trans (HC7.out.mono HB6.out.size))
  clear hb
  go_wp2_with fail
  refine (list_row _ _ _ _ _ _ _ _).mono ?_
  rintro e w8 ⟨rfl, hb⟩
  have HN8 := Lib.hid (names_lit w7 w8 [⟨#[83, 116, 114, 105, 99, 116]⟩, ⟨#[80, 117, 114, 101]⟩, ⟨#[83, 111, 114, 116, 101, 100]⟩] _ rfl hb)
  have HC8 := Lib.hid (((Below.refl w7.heap.size w7).alloc (Nat.le_refl _) _).trans (hb.mono (by simp)))
  have HB8 := Lib.hid (HB7.out.trans (HC8.out.mono HB7.out.size))
  clear hb
  go_wp2_with fail
  refine (list_row _ _ _ _ _ _ _ _).mono ?_
  rintro e w9 ⟨rfl, hb⟩
  have HN9 := Lib.hid (names_lit w8 w9 [⟨#[76, 97, 122, 121]⟩, ⟨#[66, 105, 110, 100, 101, 114]⟩, ⟨#[80, 117, 114, 101]⟩, ⟨#[83, 111, 114, 116, 101, 100]⟩] _ rfl hb)
  have HC9 := Lib.hid (((Below.refl w8.heap.size w8).alloc (Nat.le_refl _) _).trans (hb.mono (by simp)))
  have HB9 := Lib.hid (HB8.out.trans (HC9.out.mono HB8.out.size))
  clear hb
  go_wp2_with fail
  refine (list_row _ _ _ _ _ _ _ _).mono ?_
  rintro e w10 ⟨rfl, hb⟩
  have HN10 := Lib.hid (names_lit w9 w10 [⟨#[76, 97, 122, 121]⟩, ⟨#[66, 105, 110, 100, 101, 114]⟩, ⟨#[80, 117, 114, 101]⟩, ⟨#[84, 111, 116, 97, 108]⟩, ⟨#[83, 111, 114, 116, 101, 100]⟩] _ rfl hb)
  have HC10 := Lib.hid (((Below.refl w9.heap.size w9).alloc (Nat.le_refl _) _).trans (hb.mono (by simp)))
  have HB10 := Lib.hid (HB9.out.trans (HC10.out.mono HB9.out.size))
  clear hb
  have HE := Lib.hid ((Below.refl w10.heap.size w10).alloc (Nat.le_refl _) (.cells (([⟨⟨⟨#[108, 105, 115, 116, 46, 111, 102]⟩, 0, (-1), false, 0, [⟨#[83, 116, 114, 105, 99, 116]⟩, ⟨#[80, 117, 114, 101]⟩, ⟨#[83, 111, 114, 116, 101, 100]⟩]⟩, some ⟨w.heap.size, 0, none⟩, 3⟩, ⟨⟨⟨#[108, 105, 115, 116, 46, 115, 105, 122, 101]⟩, 1, 1, false, 0, [⟨#[83, 116, 114, 105, 99, 116]⟩, ⟨#[80, 117, 114, 101]⟩, ⟨#[84, 111, 116, 97, 108]⟩, ⟨#[83, 111, 114, 116, 101, 100]⟩]⟩, some ⟨w1.heap.size, 0, none⟩, 4⟩, ⟨⟨⟨#[108, 105, 115, 116, 46, 97, 116]⟩, 2, 2, false, 0, [⟨#[83, 116, 114, 105, 99, 116]⟩, ⟨#[80, 117, 114, 101]⟩, ⟨#[83, 111, 114, 116, 101, 100]⟩]⟩, some ⟨w2.heap.size, 0, none⟩, 3⟩, ⟨⟨⟨#[108, 105, 115, 116, 46, 106, 111, 105, 110]⟩, 2, 2, false, 0, [⟨#[83, 116, 114, 105, 99, 116]⟩, ⟨#[80, 117, 114, 101]⟩, ⟨#[83, 111, 114, 116, 101, 100]⟩]⟩, some ⟨w3.heap.size, 0, none⟩, 3⟩, ⟨⟨⟨#[108, 105, 115, 116, 46, 97, 100, 100]⟩, 2, 2, false, 0, [⟨#[83, 116, 114, 105, 99, 116]⟩, ⟨#[80, 117, 114, 101]⟩, ⟨#[83, 111, 114, 116, 101, 100]⟩]⟩, some ⟨w4.heap.size, 0, none⟩, 3⟩, ⟨⟨⟨#[108, 105, 115, 116, 46, 99, 117, 116]⟩, 3, 3, false, 0, [⟨#[83, 116, 114, 105, 99, 116]⟩, ⟨#[80, 117, 114, 101]⟩, ⟨#[83, 111, 114, 116, 101, 100]⟩]⟩, some ⟨w5.heap.size, 0, none⟩, 3⟩, ⟨⟨⟨#[108, 105, 115, 116, 46, 116, 117, 114, 110]⟩, 1, 1, false, 0, [⟨#[83, 116, 114, 105, 99, 116]⟩, ⟨#[80, 117, 114, 101]⟩, ⟨#[84, 111, 116, 97, 108]⟩, ⟨#[83, 111, 114, 116, 101, 100]⟩]⟩, some ⟨w6.heap.size, 0, none⟩, 4⟩, ⟨⟨⟨#[108, 105, 115, 116, 46, 99, 111, 117, 110, 116]⟩, 1, 1, false, 0, [⟨#[83, 116, 114, 105, 99, 116]⟩, ⟨#[80, 117, 114, 101]⟩, ⟨#[83, 111, 114, 116, 101, 100]⟩]⟩, some ⟨w7.heap.size, 0, none⟩, 3⟩, ⟨⟨⟨#[108, 105, 115, 116, 46, 109, 97, 112]⟩, 2, 2, false, 2, [⟨#[76, 97, 122, 121]⟩, ⟨#[66, 105, 110, 100, 101, 114]⟩, ⟨#[80, 117, 114, 101]⟩, ⟨#[83, 111, 114, 116, 101, 100]⟩]⟩, some ⟨w8.heap.size, 0, none⟩, 4⟩, ⟨⟨⟨#[108, 105, 115, 116, 46, 107, 101, 101, 112]⟩, 2, 2, false, 2, [⟨#[76, 97, 122, 121]⟩, ⟨#[66, 105, 110, 100, 101, 114]⟩, ⟨#[80, 117, 114, 101]⟩, ⟨#[84, 111, 116, 97, 108]⟩, ⟨#[83, 111, 114, 116, 101, 100]⟩]⟩, some ⟨w9.heap.size, 0, none⟩, 5⟩] : List RowAt).flatMap RowAt.cells).toArray 123))
  go_wp2
  go_ret
  refine ⟨_, 10, [⟨⟨⟨#[108, 105, 115, 116, 46, 111, 102]⟩, 0, (-1), false, 0, [⟨#[83, 116, 114, 105, 99, 116]⟩, ⟨#[80, 117, 114, 101]⟩, ⟨#[83, 111, 114, 116, 101, 100]⟩]⟩, some ⟨w.heap.size, 0, none⟩, 3⟩, ⟨⟨⟨#[108, 105, 115, 116, 46, 115, 105, 122, 101]⟩, 1, 1, false, 0, [⟨#[83, 116, 114, 105, 99, 116]⟩, ⟨#[80, 117, 114, 101]⟩, ⟨#[84, 111, 116, 97, 108]⟩, ⟨#[83, 111, 114, 116, 101, 100]⟩]⟩, some ⟨w1.heap.size, 0, none⟩, 4⟩, ⟨⟨⟨#[108, 105, 115, 116, 46, 97, 116]⟩, 2, 2, false, 0, [⟨#[83, 116, 114, 105, 99, 116]⟩, ⟨#[80, 117, 114, 101]⟩, ⟨#[83, 111, 114, 116, 101, 100]⟩]⟩, some ⟨w2.heap.size, 0, none⟩, 3⟩, ⟨⟨⟨#[108, 105, 115, 116, 46, 106, 111, 105, 110]⟩, 2, 2, false, 0, [⟨#[83, 116, 114, 105, 99, 116]⟩, ⟨#[80, 117, 114, 101]⟩, ⟨#[83, 111, 114, 116, 101, 100]⟩]⟩, some ⟨w3.heap.size, 0, none⟩, 3⟩, ⟨⟨⟨#[108, 105, 115, 116, 46, 97, 100, 100]⟩, 2, 2, false, 0, [⟨#[83, 116, 114, 105, 99, 116]⟩, ⟨#[80, 117, 114, 101]⟩, ⟨#[83, 111, 114, 116, 101, 100]⟩]⟩, some ⟨w4.heap.size, 0, none⟩, 3⟩, ⟨⟨⟨#[108, 105, 115, 116, 46, 99, 117, 116]⟩, 3, 3, false, 0, [⟨#[83, 116, 114, 105, 99, 116]⟩, ⟨#[80, 117, 114, 101]⟩, ⟨#[83, 111, 114, 116, 101, 100]⟩]⟩, some ⟨w5.heap.size, 0, none⟩, 3⟩, ⟨⟨⟨#[108, 105, 115, 116, 46, 116, 117, 114, 110]⟩, 1, 1, false, 0, [⟨#[83, 116, 114, 105, 99, 116]⟩, ⟨#[80, 117, 114, 101]⟩, ⟨#[84, 111, 116, 97, 108]⟩, ⟨#[83, 111, 114, 116, 101, 100]⟩]⟩, some ⟨w6.heap.size, 0, none⟩, 4⟩, ⟨⟨⟨#[108, 105, 115, 116, 46, 99, 111, 117, 110, 116]⟩, 1, 1, false, 0, [⟨#[83, 116, 114, 105, 99, 116]⟩, ⟨#[80, 117, 114, 101]⟩, ⟨#[83, 111, 114, 116, 101, 100]⟩]⟩, some ⟨w7.heap.size, 0, none⟩, 3⟩, ⟨⟨⟨#[108, 105, 115, 116, 46, 109, 97, 112]⟩, 2, 2, false, 2, [⟨#[76, 97, 122, 121]⟩, ⟨#[66, 105, 110, 100, 101, 114]⟩, ⟨#[80, 117, 114, 101]⟩, ⟨#[83, 111, 114, 116, 101, 100]⟩]⟩, some ⟨w8.heap.size, 0, none⟩, 4⟩, ⟨⟨⟨#[108, 105, 115, 116, 46, 107, 101, 101, 112]⟩, 2, 2, false, 2, [⟨#[76, 97, 122, 121]⟩, ⟨#[66, 105, 110, 100, 101, 114]⟩, ⟨#[80, 117, 114, 101]⟩, ⟨#[84, 111, 116, 97, 108]⟩, ⟨#[83, 111, 114, 116, 101, 100]⟩]⟩, some ⟨w9.heap.size, 0, none⟩, 5⟩], rfl, rfl, ?_, HB10.out.trans (HE.out.mono HB10.out.size)⟩
  have h5 := HB10.out.size
  refine rows_at w10 _ (S := fresh w _) ⟨h5, by rw [size_alloc]; omega⟩ ?_
  simp only [List.forall_mem_cons]
  refine ⟨HN1.out.step (Nat.le_refl _) (HC2.out.trans ((HC3.out.trans ((HC4.out.trans ((HC5.out.trans ((HC6.out.trans ((HC7.out.trans ((HC8.out.trans ((HC9.out.trans ((HC10.out.trans (HE.out.mono HC10.out.size)).mono HC9.out.size)).mono HC8.out.size)).mono HC7.out.size)).mono HC6.out.size)).mono HC5.out.size)).mono HC4.out.size)).mono HC3.out.size)).mono HC2.out.size)),
    HN2.out.step (HB1.out.size) (HC3.out.trans ((HC4.out.trans ((HC5.out.trans ((HC6.out.trans ((HC7.out.trans ((HC8.out.trans ((HC9.out.trans ((HC10.out.trans (HE.out.mono HC10.out.size)).mono HC9.out.size)).mono HC8.out.size)).mono HC7.out.size)).mono HC6.out.size)).mono HC5.out.size)).mono HC4.out.size)).mono HC3.out.size)),
    HN3.out.step (HB2.out.size) (HC4.out.trans ((HC5.out.trans ((HC6.out.trans ((HC7.out.trans ((HC8.out.trans ((HC9.out.trans ((HC10.out.trans (HE.out.mono HC10.out.size)).mono HC9.out.size)).mono HC8.out.size)).mono HC7.out.size)).mono HC6.out.size)).mono HC5.out.size)).mono HC4.out.size)),
    HN4.out.step (HB3.out.size) (HC5.out.trans ((HC6.out.trans ((HC7.out.trans ((HC8.out.trans ((HC9.out.trans ((HC10.out.trans (HE.out.mono HC10.out.size)).mono HC9.out.size)).mono HC8.out.size)).mono HC7.out.size)).mono HC6.out.size)).mono HC5.out.size)),
    HN5.out.step (HB4.out.size) (HC6.out.trans ((HC7.out.trans ((HC8.out.trans ((HC9.out.trans ((HC10.out.trans (HE.out.mono HC10.out.size)).mono HC9.out.size)).mono HC8.out.size)).mono HC7.out.size)).mono HC6.out.size)),
    HN6.out.step (HB5.out.size) (HC7.out.trans ((HC8.out.trans ((HC9.out.trans ((HC10.out.trans (HE.out.mono HC10.out.size)).mono HC9.out.size)).mono HC8.out.size)).mono HC7.out.size)),
    HN7.out.step (HB6.out.size) (HC8.out.trans ((HC9.out.trans ((HC10.out.trans (HE.out.mono HC10.out.size)).mono HC9.out.size)).mono HC8.out.size)),
    HN8.out.step (HB7.out.size) (HC9.out.trans ((HC10.out.trans (HE.out.mono HC10.out.size)).mono HC9.out.size)),
    HN9.out.step (HB8.out.size) (HC10.out.trans (HE.out.mono HC10.out.size)),
    HN10.out.step (HB9.out.size) HE.out, fun t h => absurd h List.not_mem_nil⟩
theorem list_Kit (w : World) : Calls Tryz.prog 21 #[] w (KitPost ⟨#[108, 105, 115, 116]⟩ 37 listRows w) := by
  go_enter Tryz.func21, Tryz.ntmps21
  go_wp2_with fail
  refine (list_rows w).mono ?_
  rintro e w1 ⟨A, c, ts, rfl, hts, hA, hb⟩
  have HB := Lib.hid hb
  have KN := Lib.hid (kit_new_of list_kitB 37 ts hts A c w1 (hA.keep (fun _ _ _ => rfl) (fun b hb => hb.2)))
  rw [show ts.length = listRows.length by rw [← hts, List.length_map]] at KN
  clear hts hA hb
  go_wp2_with fail
  refine KN.out.mono ?_
  rintro e w2 ⟨M, v, us, hM, rfl, hK, hu, hb2⟩
  have H1 := Lib.hid hK
  have H2 := Lib.hid hu
  have H3 := Lib.hid (HB.out.trans (hb2.mono HB.out.size))
  have H4 := Lib.hid (Nat.le_trans HB.out.size hM)
  clear hM hK hu hb2
  go_wp2
  go_ret
  exact ⟨M, v, us, H4.out, rfl, H1.out, H2.out, H3.out⟩
end Go.Proofs.YtcldbjgikkfnbaaGreatDoor
