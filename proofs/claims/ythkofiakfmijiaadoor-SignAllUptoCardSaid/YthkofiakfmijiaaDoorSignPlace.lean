/-
  sign.ReadPlace: a walk, for every text. Conditions: a text within a row's reach.
-/
import Derived.Test.YthkofiakfmijiaaDoorSignRead
import Derived.Test.YthkofiakfmijiaaDoorFresh
namespace Go.Proofs.YthkofiakfmijiaaDoor
open Go.RowKit
set_option linter.unusedVariables false

/-- What a text is read as: a place. -/
def readPl (s : ByteArray) : Option (ByteArray × List Int) :=
  if (cutV s 58).2.2 then (match readP (cutV s 58).2.1.data.toList with
    | some l => if nameB (cutV s 58).1 then some ((cutV s 58).1, l) else none
    | none => none)
  else match readP s.data.toList with
    | some l => some (⟨#[]⟩, l)
    | none => none
def placeV (f : ByteArray) (A : Option Addr) (n c : Nat) : Value := .agg #[.string f, .slice A n c]
def RPl (r : Option (ByteArray × List Int)) (w : World) (e : Ending) (w' : World) : Prop := Below w.heap.size w w' ∧ match r with
  | none => e = .returned (.tuple #[placeV ⟨#[]⟩ none 0 0, .int .i64 5])
  | some p => ∃ A c, e = .returned (.tuple #[placeV p.1 A p.2.length c, .int .i64 0]) ∧ w'.ownsRow w.heap.size 3 1 (.slice A p.2.length c) p.2.length (p.2.map vI)
theorem own_less {w : World} {base base' : Nat} {e : TypeId} {size n : Nat} {v : Value} {xs : List Value} (h : w.ownsRow base e size v n xs) (hb : base' ≤ base) : w.ownsRow base' e size v n xs := by
  obtain ⟨h1, h2⟩ := h
  refine ⟨h1, ?_⟩
  rcases h2 with h | ⟨g, cap, cur, a, b, c⟩
  · exact .inl h
  · exact .inr ⟨g, cap, cur, a, Nat.le_trans hb b, c⟩
/-- Two results, of which the first lies in a variable. -/
theorem results_cell_tmp2 {P : Program} {fn : Func} {p q : Tmp} {ty : TypeId} (h : fn.results = #[.cell p ty, .tmp q]) {tmps : Array Value} {a : Addr} (ht : tmps.getD p undef = .pointer (some a)) {w : World} {v u : Value} (hl : (loadVar ty a).run P w = .ok v w)
    (hq : tmps.getD q undef = u) : (results fn tmps).run P w = .ok (.tuple #[v, u]) w := by
  unfold results
  simp only [h]
  have ht' : tmps[p]?.getD undef = .pointer (some a) := by simpa using ht
  have hq' : tmps[q]?.getD undef = u := by simpa using hq
  simp [ht', asAddr, hl, hq']
/-- The result's block, written over. -/
theorem place_out {w w2 : World} {A : Option Addr} {n c : Nat} {f : ByteArray} {xs : List Value} (hb : Below w.heap.size w w2) (hx : w2.heap[w.heap.size]? = some (.cells #[.string ⟨#[]⟩, .slice none 0 0] 27 (0, 0))) {B : Nat} (hB : w.heap.size < B)
    (ho : w2.ownsRow B 3 1 (.slice A n c) n xs) :
    (loadVar 27 ⟨w.heap.size, 0, none⟩).run Tryd.prog ((w2.setCell ⟨w.heap.size, 0, none⟩ (.string f)).setCell ⟨w.heap.size, 1, none⟩ (.slice A n c)) = .ok (placeV f A n c) ((w2.setCell ⟨w.heap.size, 0, none⟩ (.string f)).setCell ⟨w.heap.size, 1, none⟩ (.slice A n c)) ∧
    Below w.heap.size w ((w2.setCell ⟨w.heap.size, 0, none⟩ (.string f)).setCell ⟨w.heap.size, 1, none⟩ (.slice A n c)) ∧
    ((w2.setCell ⟨w.heap.size, 0, none⟩ (.string f)).setCell ⟨w.heap.size, 1, none⟩ (.slice A n c)).ownsRow w.heap.size 3 1 (.slice A n c) n xs := by
  refine ⟨run_loadVar_row (P := Tryd.prog) _ _ _ 27 _ _ _ (blk_set (blk_set hx 0 (.string f)) 1 (.slice A n c)) Tryd.underlying27 rfl (by kernel_rfl), (hb.setCell (p := ⟨w.heap.size, 0, none⟩) (Nat.le_refl _) _).setCell (p := ⟨w.heap.size, 1, none⟩) (Nat.le_refl _) _, ?_⟩
  exact own_less (ownsRow_setCell_below (ownsRow_setCell_below ho hB _) hB _) (by omega)
set_option maxHeartbeats 2000000 in
theorem sign_ReadPlace (s : ByteArray) (w : World) (hs : s.size ≤ 140737488351232) : Calls Tryd.prog 11 #[.string s] w (RPl (readPl s) w) := by
  have HB0 := Lib.hid (show Below w.heap.size w (w.alloc (.cells #[.string ⟨#[]⟩, .slice none 0 0] 27)) from (Below.refl _ _).alloc (Nat.le_refl _) _)
  have HC := Lib.hid (str_cut s 58 (w.alloc (.cells #[.string ⟨#[]⟩, .slice none 0 0] 27)) hs)
  have hsz := cut_size s 58
  have hrp : Hid (readPl s = if (cutV s 58).2.2 then (match readP (cutV s 58).2.1.data.toList with
    | some l => if nameB (cutV s 58).1 then some ((cutV s 58).1, l) else none
    | none => none)
  else match readP s.data.toList with
    | some l => some (⟨#[]⟩, l)
    | none => none) := Lib.hid rfl
  generalize cutV s 58 = r at *
  obtain ⟨f, t, there⟩ := r
  simp only at hsz
  obtain ⟨hf, ht⟩ := hsz
  cases there
  · have HR : Hid (∀ w1, Calls Tryd.prog 20 #[.string s] w1 (RP (readP s.data.toList) w1)) := Lib.hid fun w1 => sign_ReadPath s w1 hs
    go_enter Tryd.func11, Tryd.ntmps11
    go_wp2_with fail
    refine HC.out.mono ?_
    rintro e w1 ⟨rfl, hb1⟩
    have HB1 := Lib.hid (HB0.out.trans (hb1.mono HB0.out.size))
    have HX1 := Lib.hid ((hb1.block w.heap.size (by simp)).trans (heap_alloc_new w _))
    have hz1 : w.heap.size < w1.heap.size := by have := hb1.size; simp at this; omega
    clear hb1
    unfold cutT
    go_wp2_with fail
    refine (HR.out _).mono ?_
    rintro e w2 ⟨hb2, hc⟩
    have HB2 := Lib.hid (HB1.out.trans (hb2.mono HB1.out.size))
    have HX2 := Lib.hid ((hb2.block w.heap.size hz1).trans HX1.out)
    have hz2 : w.heap.size < w2.heap.size := by have := hb2.size; omega
    clear hb2
    have f0 : ∀ j, w2.cell? ⟨w.heap.size, j, none⟩ = (#[.string ⟨#[]⟩, .slice none 0 0] : Array Value)[j]? := fun j => by simp [World.cell?, HX2.out]
    have g1 : ∀ j, w2.frozen? ⟨w.heap.size, j, none⟩ = false := fun j => by simp [World.frozen?, HX2.out]
    cases hr : readP s.data.toList with
    | none =>
      rw [hr] at hc
      simp only at hc
      subst hc
      have hx := Lib.hid (show readPl s = none by rw [hrp.out, hr]; rfl)
      clear hr
      go_wp2
      obtain ⟨h1, h2, h3⟩ := place_out (f := ⟨#[]⟩) (A := none) (n := 0) (c := 0) (B := w2.heap.size) HB2.out HX2.out hz2 (World.ownsRow_nil _ _ _ _)
      refine bodyPost_ret (fn := Tryd.f11) (results_cell_tmp2 (p := 2) (q := 3) (ty := 27) Tryd.results11 rfl h1 rfl) rfl ?_
      rw [hx.out]
      exact ⟨h2, rfl⟩
    | some l =>
      rw [hr] at hc
      obtain ⟨A, c, rfl, hown⟩ := hc
      have HO := Lib.hid hown
      have hx := Lib.hid (show readPl s = some (⟨#[]⟩, l) by rw [hrp.out, hr]; rfl)
      clear hr hown
      go_wp2
      obtain ⟨h1, h2, h3⟩ := place_out (f := ⟨#[]⟩) HB2.out HX2.out hz1 HO.out
      refine bodyPost_ret (fn := Tryd.f11) (results_cell_tmp2 (p := 2) (q := 3) (ty := 27) Tryd.results11 rfl h1 rfl) rfl ?_
      rw [hx.out]
      exact ⟨h2, A, c, rfl, h3⟩
  · have HR : Hid (∀ w1, Calls Tryd.prog 20 #[.string t] w1 (RP (readP t.data.toList) w1)) := Lib.hid fun w1 => sign_ReadPath t w1 (by omega)
    have HN : Hid (∀ w1, Calls Tryd.prog 16 #[.string f] w1 (Bel (.bool (nameB f)) w1)) := Lib.hid fun w1 => sign_Name f w1 (by omega)
    go_enter Tryd.func11, Tryd.ntmps11
    go_wp2_with fail
    refine HC.out.mono ?_
    rintro e w1 ⟨rfl, hb1⟩
    have HB1 := Lib.hid (HB0.out.trans (hb1.mono HB0.out.size))
    have HX1 := Lib.hid ((hb1.block w.heap.size (by simp)).trans (heap_alloc_new w _))
    have hz1 : w.heap.size < w1.heap.size := by have := hb1.size; simp at this; omega
    clear hb1
    unfold cutT
    go_wp2_with fail
    refine (HR.out _).mono ?_
    rintro e w2 ⟨hb2, hc⟩
    have HB2 := Lib.hid (HB1.out.trans (hb2.mono HB1.out.size))
    have HX2 := Lib.hid ((hb2.block w.heap.size hz1).trans HX1.out)
    have hz2 : w.heap.size < w2.heap.size := by have := hb2.size; omega
    clear hb2
    cases hr : readP t.data.toList with
    | none =>
      have f0 : ∀ j, w2.cell? ⟨w.heap.size, j, none⟩ = (#[.string ⟨#[]⟩, .slice none 0 0] : Array Value)[j]? := fun j => by simp [World.cell?, HX2.out]
      have g1 : ∀ j, w2.frozen? ⟨w.heap.size, j, none⟩ = false := fun j => by simp [World.frozen?, HX2.out]
      rw [hr] at hc
      simp only at hc
      subst hc
      have hx := Lib.hid (show readPl s = none by rw [hrp.out, hr]; rfl)
      clear hr
      go_wp2
      obtain ⟨h1, h2, h3⟩ := place_out (f := ⟨#[]⟩) (A := none) (n := 0) (c := 0) (B := w2.heap.size) HB2.out HX2.out hz2 (World.ownsRow_nil _ _ _ _)
      refine bodyPost_ret (fn := Tryd.f11) (results_cell_tmp2 (p := 2) (q := 3) (ty := 27) Tryd.results11 rfl h1 rfl) rfl ?_
      rw [hx.out]
      exact ⟨h2, rfl⟩
    | some l =>
      rw [hr] at hc
      obtain ⟨A, c, rfl, hown⟩ := hc
      have HO := Lib.hid hown
      cases hnm : nameB f
      · have hx := Lib.hid (show readPl s = none by rw [hrp.out, hr]; simp [hnm])
        clear hr hown
        go_wp2_with fail
        refine (HN.out _).mono ?_
        rintro e w3 ⟨rfl, hb3⟩
        rw [hnm]
        have HB3 := Lib.hid (HB2.out.trans (hb3.mono HB2.out.size))
        have HX3 := Lib.hid ((hb3.block w.heap.size hz2).trans HX2.out)
        have hz3 : w.heap.size < w3.heap.size := by have := hb3.size; omega
        clear hb3 hnm
        have f0 : ∀ j, w3.cell? ⟨w.heap.size, j, none⟩ = (#[.string ⟨#[]⟩, .slice none 0 0] : Array Value)[j]? := fun j => by simp [World.cell?, HX3.out]
        have g1 : ∀ j, w3.frozen? ⟨w.heap.size, j, none⟩ = false := fun j => by simp [World.frozen?, HX3.out]
        go_wp2
        obtain ⟨h1, h2, h3⟩ := place_out (f := ⟨#[]⟩) (A := none) (n := 0) (c := 0) (B := w3.heap.size) HB3.out HX3.out hz3 (World.ownsRow_nil _ _ _ _)
        refine bodyPost_ret (fn := Tryd.f11) (results_cell_tmp2 (p := 2) (q := 3) (ty := 27) Tryd.results11 rfl h1 rfl) rfl ?_
        rw [hx.out]
        exact ⟨h2, rfl⟩
      · have hx := Lib.hid (show readPl s = some (f, l) by rw [hrp.out, hr]; simp [hnm])
        clear hr hown
        go_wp2_with fail
        refine (HN.out _).mono ?_
        rintro e w3 ⟨rfl, hb3⟩
        rw [hnm]
        have HB3 := Lib.hid (HB2.out.trans (hb3.mono HB2.out.size))
        have HX3 := Lib.hid ((hb3.block w.heap.size hz2).trans HX2.out)
        have HO3 := Lib.hid (own_below HO.out hb3)
        clear hb3 hnm
        have f0 : ∀ j, w3.cell? ⟨w.heap.size, j, none⟩ = (#[.string ⟨#[]⟩, .slice none 0 0] : Array Value)[j]? := fun j => by simp [World.cell?, HX3.out]
        have g1 : ∀ j, w3.frozen? ⟨w.heap.size, j, none⟩ = false := fun j => by simp [World.frozen?, HX3.out]
        go_wp2
        obtain ⟨h1, h2, h3⟩ := place_out (f := f) HB3.out HX3.out hz1 HO3.out
        refine bodyPost_ret (fn := Tryd.f11) (results_cell_tmp2 (p := 2) (q := 3) (ty := 27) Tryd.results11 rfl h1 rfl) rfl ?_
        rw [hx.out]
        exact ⟨h2, A, c, rfl, h3⟩
end Go.Proofs.YthkofiakfmijiaaDoor
