/-
  espalierref10.Rows: a walk. Conditions: none.
-/
import Derived.Test.YthjpphojddbbmaaGreatDoorCKitTold
import Derived.Test.YthjpphojddbbmaaGreatDoorCWordsKit
import Derived.Laws.ResultCell
namespace Go.Proofs.YthjpphojddbbmaaGreatDoor
open Go.RowKit
set_option linter.unusedVariables false

/-- Rows whose names lie in new blocks. -/
def Lain (w v : World) (ts : List RowAt) : Prop := Below w.heap.size w v ∧ ∀ k (h : k < ts.length), NamesIn v (fun b => w.heap.size ≤ b ∧ b < v.heap.size) ts[k].row.abil ts[k].at_
theorem Lain.nil (w : World) : Lain w w [] := ⟨Below.refl _ _, fun k h => absurd h (by simp)⟩
theorem Lain.step {w v v' : World} {ts : List RowAt} (h : Lain w v ts) (r : RowD) (n : Nat) (cs : Array Value) (hcs : cs = (r.abil.map Value.string).toArray) (hb : Below (v.alloc (.cells cs 9)).heap.size (v.alloc (.cells cs 9)) v') :
    Lain w v' (ts ++ [⟨r, some ⟨v.heap.size, 0, none⟩, n⟩]) := by
  have hs := h.1.size
  have hs' := hb.size
  rw [size_alloc] at hs'
  have hbv : Below v.heap.size v v' := ((Below.refl _ _).alloc (Nat.le_refl _) _).trans (hb.mono (by simp))
  refine ⟨h.1.trans (hbv.mono hs), fun k hk => ?_⟩
  by_cases hkt : k < ts.length
  · rw [List.getElem_append_left hkt]
    exact (h.2 k hkt).keep (fun b o hs => hbv.cell (p := ⟨b, o, none⟩) hs.2) (fun b hs => ⟨hs.1, by have := hs.2; omega⟩)
  · have hkk : k = ts.length := by simp at hk; omega
    have : (ts ++ [RowAt.mk r (some ⟨v.heap.size, 0, none⟩) n])[k]'(by simp; omega) = ⟨r, some ⟨v.heap.size, 0, none⟩, n⟩ := by subst hkk; simp
    rw [this]
    refine (names_new v r.abil cs hcs).keep (fun b o hs => hb.cell (p := ⟨b, o, none⟩) hs.2) (fun b hs => ⟨by have := hs.1; omega, by have := hs.2; rw [size_alloc] at this; omega⟩)
theorem Lain.rows {w v : World} {ts : List RowAt} (h : Lain w v ts) (t : TypeId) : RowsIn (v.alloc (.cells (ts.flatMap RowAt.cells).toArray t)) (· < (v.alloc (.cells (ts.flatMap RowAt.cells).toArray t)).heap.size) ts (some ⟨v.heap.size, 0, none⟩) := fun hl =>
  ⟨v.heap.size, 0, rfl, by simp, fun k hk => ⟨fun j hj => by rw [Nat.zero_add, World.cell?_alloc_new]; have := flat_at ts k hk j hj; simpa using this,
    (h.2 k hk).keep (fun b o hs => World.cell?_alloc_lt _ _ ⟨b, o, none⟩ hs.2) (fun b hs => by rw [size_alloc]; have := hs.2; omega)⟩⟩

theorem ref_row (k : ByteArray) (mn mx tx : Int) (A : Option Addr) (n c : Nat) (w : World) : Calls Tryz.prog 38 #[.string k, .int .i64 mn, .int .i64 mx, .int .i64 tx, .slice A n c] w (Bel (.agg #[.string k, .int .i64 mn, .int .i64 mx, .bool false, .int .i64 tx, .slice A n c]) w) := by
  have hb2 : Hid (Below w.heap.size w (w.alloc (.cells #[.string k, .int .i64 mn, .int .i64 mx, .bool false, .int .i64 tx, .slice A n c] 81))) := (Below.refl _ _).alloc (Nat.le_refl _) _
  go_enter Tryz.func38, Tryz.ntmps38
  go_wp2
  have hres := run_loadVar_row (P := Tryz.prog) _ _ _ 81 _ _ _ (heap_alloc_new w (.cells #[.string k, .int .i64 mn, .int .i64 mx, .bool false, .int .i64 tx, .slice A n c] 81)) Tryz.underlying81 rfl (by kernel_rfl)
  refine bodyPost_ret (fn := Tryz.f38) (v := .agg #[.string k, .int .i64 mn, .int .i64 mx, .bool false, .int .i64 tx, .slice A n c]) ?_ ?_ ?_
  · refine results_cell (p := 10) (ty := 81) (a := ⟨w.heap.size, 0, none⟩) Tryz.results38 ?_ ?_
    · rfl
    · exact hres
  · rfl
  · exact ⟨rfl, hb2.out⟩

theorem wpList_rows {ops : Array Oper} {rest : List Oper} {o : Oper} {a : Act} {Q : Exit → Act → World → Prop} (w : World) (d : Nat) (_hd : o.dst = some d) (hgd : o.guard = none) (ts : List RowAt) (n : Nat) (hn : ts.length = n)
    (h : (execOp a.eval o).run Tryz.prog w = .ok (.value (.slice (some ⟨w.heap.size, 0, none⟩) n n)) (w.alloc (.cells (ts.flatMap RowAt.cells).toArray 81)))
    (k : wpList Tryz.prog ops Q rest (a.put o.dst (.slice (some ⟨w.heap.size, 0, none⟩) n n)) (w.alloc (.cells (ts.flatMap RowAt.cells).toArray 81))) : wpList Tryz.prog ops Q (o :: rest) a w :=
  wpList_plain hgd fun _ hK => by unfold Oper.wp; rw [h]; exact hK _ _ k

/-- Rows that are made at one stroke. -/
def RefPost (rs : List RowD) (w : World) (e : Ending) (w' : World) : Prop := ∃ A c ts, e = .returned (.slice A ts.length c) ∧ RowsIn w' (· < w'.heap.size) ts A ∧ ts.map RowAt.row = rs ∧ Below w.heap.size w w'
set_option maxRecDepth 100000 in
set_option maxHeartbeats 4000000 in
theorem ref_rows (w : World) : Calls Tryz.prog 20 #[] w (RefPost wordsRows w) := by
  have H0 := Lib.hid (Lain.nil w)
  go_enter Tryz.func20, Tryz.ntmps20
  go_wp2_with fail
  refine (ref_row _ _ _ _ _ _ _ _).mono ?_
  rintro e v1 ⟨rfl, hb⟩
  have H1 := Lib.hid (H0.out.step ⟨⟨#[119, 111, 114, 100, 115, 46, 106, 111, 105, 110]⟩, 2, 2, false, 0, [⟨#[83, 116, 114, 105, 99, 116]⟩, ⟨#[80, 117, 114, 101]⟩, ⟨#[83, 111, 114, 116, 101, 100]⟩]⟩ 3 _ rfl hb)
  clear hb H0
  go_wp2_with fail
  refine (ref_row _ _ _ _ _ _ _ _).mono ?_
  rintro e v2 ⟨rfl, hb⟩
  have H2 := Lib.hid (H1.out.step ⟨⟨#[119, 111, 114, 100, 115, 46, 115, 105, 122, 101]⟩, 1, 1, false, 0, [⟨#[83, 116, 114, 105, 99, 116]⟩, ⟨#[80, 117, 114, 101]⟩, ⟨#[84, 111, 116, 97, 108]⟩, ⟨#[83, 111, 114, 116, 101, 100]⟩]⟩ 4 _ rfl hb)
  clear hb H1
  go_wp2_with fail
  refine (ref_row _ _ _ _ _ _ _ _).mono ?_
  rintro e v3 ⟨rfl, hb⟩
  have H3 := Lib.hid (H2.out.step ⟨⟨#[119, 111, 114, 100, 115, 46, 99, 117, 116]⟩, 3, 3, false, 0, [⟨#[83, 116, 114, 105, 99, 116]⟩, ⟨#[80, 117, 114, 101]⟩, ⟨#[83, 111, 114, 116, 101, 100]⟩]⟩ 3 _ rfl hb)
  clear hb H2
  go_wp2_with fail
  refine (ref_row _ _ _ _ _ _ _ _).mono ?_
  rintro e v4 ⟨rfl, hb⟩
  have H4 := Lib.hid (H3.out.step ⟨⟨#[119, 111, 114, 100, 115, 46, 102, 105, 110, 100]⟩, 2, 2, false, 0, [⟨#[83, 116, 114, 105, 99, 116]⟩, ⟨#[80, 117, 114, 101]⟩, ⟨#[84, 111, 116, 97, 108]⟩, ⟨#[83, 111, 114, 116, 101, 100]⟩]⟩ 4 _ rfl hb)
  clear hb H3
  go_wp2_with fail
  refine (ref_row _ _ _ _ _ _ _ _).mono ?_
  rintro e v5 ⟨rfl, hb⟩
  have H5 := Lib.hid (H4.out.step ⟨⟨#[119, 111, 114, 100, 115, 46, 114, 101, 112]⟩, 2, 2, false, 0, [⟨#[83, 116, 114, 105, 99, 116]⟩, ⟨#[80, 117, 114, 101]⟩, ⟨#[83, 111, 114, 116, 101, 100]⟩]⟩ 3 _ rfl hb)
  clear hb H4
  go_wp2_with fail
  refine (ref_row _ _ _ _ _ _ _ _).mono ?_
  rintro e v6 ⟨rfl, hb⟩
  have H6 := Lib.hid (H5.out.step ⟨⟨#[119, 111, 114, 100, 115, 46, 108, 101, 115, 115]⟩, 2, 2, false, 0, [⟨#[83, 116, 114, 105, 99, 116]⟩, ⟨#[80, 117, 114, 101]⟩, ⟨#[84, 111, 116, 97, 108]⟩, ⟨#[83, 111, 114, 116, 101, 100]⟩]⟩ 4 _ rfl hb)
  clear hb H5
  go_wp2_with fail
  refine (ref_row _ _ _ _ _ _ _ _).mono ?_
  rintro e v7 ⟨rfl, hb⟩
  have H7 := Lib.hid (H6.out.step ⟨⟨#[119, 111, 114, 100, 115, 46, 111, 102]⟩, 1, 1, false, 0, [⟨#[83, 116, 114, 105, 99, 116]⟩, ⟨#[80, 117, 114, 101]⟩, ⟨#[84, 111, 116, 97, 108]⟩, ⟨#[83, 111, 114, 116, 101, 100]⟩]⟩ 4 _ rfl hb)
  clear hb H6
  go_wp2_with fail
  refine (ref_row _ _ _ _ _ _ _ _).mono ?_
  rintro e v8 ⟨rfl, hb⟩
  have H8 := Lib.hid (H7.out.step ⟨⟨#[119, 111, 114, 100, 115, 46, 110, 117, 109]⟩, 1, 1, false, 0, [⟨#[83, 116, 114, 105, 99, 116]⟩, ⟨#[80, 117, 114, 101]⟩, ⟨#[83, 111, 114, 116, 101, 100]⟩]⟩ 3 _ rfl hb)
  clear hb H7
  go_wp2_with fail
  refine (ref_row _ _ _ _ _ _ _ _).mono ?_
  rintro e v9 ⟨rfl, hb⟩
  have H9 := Lib.hid (H8.out.step ⟨⟨#[119, 111, 114, 100, 115, 46, 97, 108, 108]⟩, 0, -1, false, 0, [⟨#[80, 117, 114, 101]⟩, ⟨#[83, 111, 114, 116, 101, 100]⟩, ⟨#[83, 117, 103, 97, 114]⟩]⟩ 3 _ rfl hb)
  clear hb H8
  go_wp2_with (refine wpList_rows _ 19 rfl rfl [⟨⟨⟨#[119, 111, 114, 100, 115, 46, 106, 111, 105, 110]⟩, 2, 2, false, 0, [⟨#[83, 116, 114, 105, 99, 116]⟩, ⟨#[80, 117, 114, 101]⟩, ⟨#[83, 111, 114, 116, 101, 100]⟩]⟩, some ⟨w.heap.size, 0, none⟩, 3⟩, ⟨⟨⟨#[119, 111, 114, 100, 115, 46, 115, 105, 122, 101]⟩, 1, 1, false, 0, [⟨#[83, 116, 114, 105, 99, 116]⟩, ⟨#[80, 117, 114, 101]⟩, ⟨#[84, 111, 116, 97, 108]⟩, ⟨#[83, 111, 114, 116, 101, 100]⟩]⟩, some ⟨v1.heap.size, 0, none⟩, 4⟩, ⟨⟨⟨#[119, 111, 114, 100, 115, 46, 99, 117, 116]⟩, 3, 3, false, 0, [⟨#[83, 116, 114, 105, 99, 116]⟩, ⟨#[80, 117, 114, 101]⟩, ⟨#[83, 111, 114, 116, 101, 100]⟩]⟩, some ⟨v2.heap.size, 0, none⟩, 3⟩, ⟨⟨⟨#[119, 111, 114, 100, 115, 46, 102, 105, 110, 100]⟩, 2, 2, false, 0, [⟨#[83, 116, 114, 105, 99, 116]⟩, ⟨#[80, 117, 114, 101]⟩, ⟨#[84, 111, 116, 97, 108]⟩, ⟨#[83, 111, 114, 116, 101, 100]⟩]⟩, some ⟨v3.heap.size, 0, none⟩, 4⟩, ⟨⟨⟨#[119, 111, 114, 100, 115, 46, 114, 101, 112]⟩, 2, 2, false, 0, [⟨#[83, 116, 114, 105, 99, 116]⟩, ⟨#[80, 117, 114, 101]⟩, ⟨#[83, 111, 114, 116, 101, 100]⟩]⟩, some ⟨v4.heap.size, 0, none⟩, 3⟩, ⟨⟨⟨#[119, 111, 114, 100, 115, 46, 108, 101, 115, 115]⟩, 2, 2, false, 0, [⟨#[83, 116, 114, 105, 99, 116]⟩, ⟨#[80, 117, 114, 101]⟩, ⟨#[84, 111, 116, 97, 108]⟩, ⟨#[83, 111, 114, 116, 101, 100]⟩]⟩, some ⟨v5.heap.size, 0, none⟩, 4⟩, ⟨⟨⟨#[119, 111, 114, 100, 115, 46, 111, 102]⟩, 1, 1, false, 0, [⟨#[83, 116, 114, 105, 99, 116]⟩, ⟨#[80, 117, 114, 101]⟩, ⟨#[84, 111, 116, 97, 108]⟩, ⟨#[83, 111, 114, 116, 101, 100]⟩]⟩, some ⟨v6.heap.size, 0, none⟩, 4⟩, ⟨⟨⟨#[119, 111, 114, 100, 115, 46, 110, 117, 109]⟩, 1, 1, false, 0, [⟨#[83, 116, 114, 105, 99, 116]⟩, ⟨#[80, 117, 114, 101]⟩, ⟨#[83, 111, 114, 116, 101, 100]⟩]⟩, some ⟨v7.heap.size, 0, none⟩, 3⟩, ⟨⟨⟨#[119, 111, 114, 100, 115, 46, 97, 108, 108]⟩, 0, -1, false, 0, [⟨#[80, 117, 114, 101]⟩, ⟨#[83, 111, 114, 116, 101, 100]⟩, ⟨#[83, 117, 103, 97, 114]⟩]⟩, some ⟨v8.heap.size, 0, none⟩, 3⟩] 9 rfl (by kernel_rfl) ?_)
  have HR := Lib.hid (H9.out.rows 81)
  have HB := Lib.hid (H9.out.1.alloc H9.out.1.size (.cells (List.flatMap RowAt.cells [⟨⟨⟨#[119, 111, 114, 100, 115, 46, 106, 111, 105, 110]⟩, 2, 2, false, 0, [⟨#[83, 116, 114, 105, 99, 116]⟩, ⟨#[80, 117, 114, 101]⟩, ⟨#[83, 111, 114, 116, 101, 100]⟩]⟩, some ⟨w.heap.size, 0, none⟩, 3⟩, ⟨⟨⟨#[119, 111, 114, 100, 115, 46, 115, 105, 122, 101]⟩, 1, 1, false, 0, [⟨#[83, 116, 114, 105, 99, 116]⟩, ⟨#[80, 117, 114, 101]⟩, ⟨#[84, 111, 116, 97, 108]⟩, ⟨#[83, 111, 114, 116, 101, 100]⟩]⟩, some ⟨v1.heap.size, 0, none⟩, 4⟩, ⟨⟨⟨#[119, 111, 114, 100, 115, 46, 99, 117, 116]⟩, 3, 3, false, 0, [⟨#[83, 116, 114, 105, 99, 116]⟩, ⟨#[80, 117, 114, 101]⟩, ⟨#[83, 111, 114, 116, 101, 100]⟩]⟩, some ⟨v2.heap.size, 0, none⟩, 3⟩, ⟨⟨⟨#[119, 111, 114, 100, 115, 46, 102, 105, 110, 100]⟩, 2, 2, false, 0, [⟨#[83, 116, 114, 105, 99, 116]⟩, ⟨#[80, 117, 114, 101]⟩, ⟨#[84, 111, 116, 97, 108]⟩, ⟨#[83, 111, 114, 116, 101, 100]⟩]⟩, some ⟨v3.heap.size, 0, none⟩, 4⟩, ⟨⟨⟨#[119, 111, 114, 100, 115, 46, 114, 101, 112]⟩, 2, 2, false, 0, [⟨#[83, 116, 114, 105, 99, 116]⟩, ⟨#[80, 117, 114, 101]⟩, ⟨#[83, 111, 114, 116, 101, 100]⟩]⟩, some ⟨v4.heap.size, 0, none⟩, 3⟩, ⟨⟨⟨#[119, 111, 114, 100, 115, 46, 108, 101, 115, 115]⟩, 2, 2, false, 0, [⟨#[83, 116, 114, 105, 99, 116]⟩, ⟨#[80, 117, 114, 101]⟩, ⟨#[84, 111, 116, 97, 108]⟩, ⟨#[83, 111, 114, 116, 101, 100]⟩]⟩, some ⟨v5.heap.size, 0, none⟩, 4⟩, ⟨⟨⟨#[119, 111, 114, 100, 115, 46, 111, 102]⟩, 1, 1, false, 0, [⟨#[83, 116, 114, 105, 99, 116]⟩, ⟨#[80, 117, 114, 101]⟩, ⟨#[84, 111, 116, 97, 108]⟩, ⟨#[83, 111, 114, 116, 101, 100]⟩]⟩, some ⟨v6.heap.size, 0, none⟩, 4⟩, ⟨⟨⟨#[119, 111, 114, 100, 115, 46, 110, 117, 109]⟩, 1, 1, false, 0, [⟨#[83, 116, 114, 105, 99, 116]⟩, ⟨#[80, 117, 114, 101]⟩, ⟨#[83, 111, 114, 116, 101, 100]⟩]⟩, some ⟨v7.heap.size, 0, none⟩, 3⟩, ⟨⟨⟨#[119, 111, 114, 100, 115, 46, 97, 108, 108]⟩, 0, -1, false, 0, [⟨#[80, 117, 114, 101]⟩, ⟨#[83, 111, 114, 116, 101, 100]⟩, ⟨#[83, 117, 103, 97, 114]⟩]⟩, some ⟨v8.heap.size, 0, none⟩, 3⟩]).toArray 81))
  go_wp2
  go_ret
  exact ⟨_, 9, _, rfl, HR.out, by kernel_rfl, HB.out⟩
end Go.Proofs.YthjpphojddbbmaaGreatDoor
