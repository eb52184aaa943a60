/-
  call.made at 'call.to': a walk. Written by a program of mine (gen_maker2.py). Conditions: the kids lie in memory.
-/
import Derived.Test.YtjdpnljaichdmaaGreatDoorRegMk2
namespace Go.Proofs.YtjdpnljaichdmaaGreatDoor
open Go.RowKit
set_option linter.unusedVariables false

set_option maxRecDepth 100000 in
set_option maxHeartbeats 8000000 in
theorem mk_call_to (s : ByteArray) (ks : List Kd) (hks : ks.length ≤ 1000) : Makes 39 ⟨#[99, 97, 108, 108, 46, 116, 111]⟩ s ks 127 := by
  intro A c w hk
  have HK := Lib.hid hk
  clear hk
  go_enter Tryz.func39, Tryz.ntmps39
  go_wp2
  have HX0 := Lib.hid (heap_alloc_new w (.cells #[.string ⟨#[99, 97, 108, 108, 46, 116, 111]⟩, .int .i64 0, .string s, .slice none 0 0] 59))
  have HB0 := Lib.hid ((Below.refl w.heap.size w).alloc (Nat.le_refl _) (.cells #[.string ⟨#[99, 97, 108, 108, 46, 116, 111]⟩, .int .i64 0, .string s, .slice none 0 0] 59))
  have hz0 : w.heap.size < (w.alloc (.cells #[.string ⟨#[99, 97, 108, 108, 46, 116, 111]⟩, .int .i64 0, .string s, .slice none 0 0] 59)).heap.size := by simp
  generalize w.alloc (.cells #[.string ⟨#[99, 97, 108, 108, 46, 116, 111]⟩, .int .i64 0, .string s, .slice none 0 0] 59) = w1 at *
  have KL : ∀ wr, Below w1.drew.heap.size w1.drew wr → Calls Tryz.prog 61 #[.agg #[.string ⟨#[99, 97, 108, 108, 46, 116, 111]⟩, .int .i64 0, .string s, .slice none 0 0], .slice A ks.length c] wr (LayPost ⟨#[99, 97, 108, 108, 46, 116, 111]⟩ 0 s (ks.map Kd.n) wr) := fun wr hb => node_Lay _ 0 s _ ks A c wr ⟨_, _, _, rfl⟩ (by omega) ((HK.out.below HB0.out).below ((Below.refl w1.heap.size w1).drew.trans hb))
  refine wp_region_inva (fun a0 L a wr => ∃ X Y Ay k, MkL { B0 := w1.drew.heap.size, W0 := w1.drew, a0 := a0, D := [7, 8, 9, 10, 11, 13, 12, 5, 6], d0 := 7, d1 := 8, d2 := 9, d3 := 10, d4 := 11, d5 := 13, d6 := 12, sX := 5, sY := 6, v0 := .agg #[.string ⟨#[99, 97, 108, 108, 46, 116, 111]⟩, .int .i64 0, .string s, .slice none 0 0], v1 := .slice A ks.length c, v3 := .pointer (some ⟨w.heap.size, 2, none⟩), v4 := .string s, kind := ⟨#[99, 97, 108, 108, 46, 116, 111]⟩, text := s, vs := ks.map Kd.n, TY := 125, zY := #[.string ⟨#[]⟩], ok := fun _ => True } X Y Ay k #[.string s] (fun i => L.getD i false = true) a wr) (by kernel_rfl) ?_ ?_ ?_
  · refine ⟨0, 0, none, 0, { agree := Agree.refl _ _, bel := Below.refl _ _, f0 := fun h => (start_no h).elim, f1 := fun h => (start_no h).elim, f2 := fun h => (start_no h).elim, g2 := fun h => (start_no h).elim, f3 := fun h => (start_no h).elim, f4 := fun h => (start_no h).elim, f6 := fun h => (start_no h).elim, f7 := fun h => (start_no h).elim, g7 := fun h => (start_no h).elim, z7 := fun h => (start_no h).elim, x7 := fun h => (start_no h).elim, f8 := fun h => (start_no h).elim, g8 := fun h => (start_no h).elim, z8 := fun h => (start_no h).elim, x8 := fun h => (start_no h).elim, xy := fun h => (start_no h).elim, d9 := fun h => (start_no h).elim, d10 := fun h => (start_no h).elim }⟩
  · rintro L a wr i o hs ⟨X, Y, Ay, k, h⟩ ho hl hd
    have hi : i < 10 := (Array.getElem?_eq_some_iff.1 ho).1
    have hs' : i < L.size := by rw [hs]; exact hi
    have hp := not_yet hs' hl
    have hB := h.bel.size
    have hxz : wr.heap[w.heap.size]? = _ := (h.bel.block w.heap.size hz0).trans HX0.out
    rw [set_fun hs']
    have hcases : i = 0 ∨ i = 1 ∨ i = 2 ∨ i = 3 ∨ i = 4 ∨ i = 5 ∨ i = 6 ∨ i = 7 ∨ i = 8 ∨ i = 9 := by omega
    refine ⟨?_, ?_⟩
    · rcases hcases with rfl | rfl | rfl | rfl | rfl | rfl | rfl | rfl | rfl | rfl <;> (cases ho; rfl)
    have hS : ∀ a0 : Act, a0.tmps.size = 31 → MkS { B0 := w1.drew.heap.size, W0 := w1.drew, a0 := a0, D := [7, 8, 9, 10, 11, 13, 12, 5, 6], d0 := 7, d1 := 8, d2 := 9, d3 := 10, d4 := 11, d5 := 13, d6 := 12, sX := 5, sY := 6, v0 := .agg #[.string ⟨#[99, 97, 108, 108, 46, 116, 111]⟩, .int .i64 0, .string s, .slice none 0 0], v1 := .slice A ks.length c, v3 := .pointer (some ⟨w.heap.size, 2, none⟩), v4 := .string s, kind := ⟨#[99, 97, 108, 108, 46, 116, 111]⟩, text := s, vs := ks.map Kd.n, TY := 125, zY := #[.string ⟨#[]⟩], ok := fun _ => True } := fun a0 h0 => ⟨fun i hi => by
      simp only [List.mem_cons, List.not_mem_nil, or_false] at hi
      rcases hi with rfl | rfl | rfl | rfl | rfl | rfl | rfl | rfl | rfl <;> exact ⟨by simp, by rw [h0]; decide⟩, by show List.Nodup [7, 8, 9, 10, 11, 13, 12, 5, 6]; decide⟩
    rcases hcases with rfl | rfl | rfl | rfl | rfl | rfl | rfl | rfl | rfl | rfl
    · cases ho
      exact wp_load1 rfl ((h.agree.same 2 (by simp)).trans rfl) (run_loadVar_row (P := Tryz.prog) _ _ _ 59 _ _ _ hxz Tryz.underlying59 rfl (by kernel_rfl)) ⟨X, Y, Ay, k, h.s0 (hS _ (by rfl)) hp (grown_refl wr) h.bel hB rfl⟩
    · cases ho
      exact wp_move1 rfl ((h.agree.same 1 (by simp)).trans rfl) ⟨X, Y, Ay, k, h.s1 (hS _ (by rfl)) hp (grown_refl wr) h.bel hB rfl⟩
    · cases ho
      have e0 := h.f0 (hd { on := 0, ground := .data } (by simp) (by rfl))
      have e1 := h.f1 (hd { on := 1, ground := .data } (by simp) (by rfl))
      refine wp_call1 (vs := #[.agg #[.string ⟨#[99, 97, 108, 108, 46, 116, 111]⟩, .int .i64 0, .string s, .slice none 0 0], .slice A ks.length c]) rfl ?_ (by kernel_rfl) ((KL wr h.bel).mono ?_)
      · simp only [List.map_toArray, List.map_cons, List.map_nil, Act.eval]
        rw [e0, e1]
      · rintro e w' ⟨A', k', rfl, hv, hb⟩
        exact ⟨_, rfl, X, Y, A', k', h.s2 (hS _ (by rfl)) hp (grown_below hb) (h.bel.trans (hb.mono hB)) hB (by simp [MkC.lay]) hv⟩
    · cases ho
      exact wp_field rfl ((h.agree.same 2 (by simp)).trans rfl) (by go_simp) ⟨X, Y, Ay, k, h.s3 (hS _ (by rfl)) hp (grown_refl wr) h.bel hB rfl⟩
    · cases ho
      have e3 := h.f3 (hd { on := 3, ground := .data } (by simp) (by rfl))
      have hc : wr.cell? ⟨w.heap.size, 2, none⟩ = some (.string s) := by simp [World.cell?, hxz]
      exact wp_load1 rfl e3 (by go_simp) ⟨X, Y, Ay, k, h.s4 (hS _ (by rfl)) hp (grown_refl wr) h.bel hB rfl⟩
    · cases ho
      have e4 := h.f4 (hd { on := 4, ground := .data } (by simp) (by rfl))
      have hbt : Tryz.prog.built 125 ((#[((0 : Nat), Operand.tmp 11)].map fun (i, x) => (i, a.eval x)).toList) = some #[.string s] := by
        simp only [List.map_toArray, List.map_cons, List.map_nil, Act.eval]
        rw [e4]
        kernel_rfl
      exact wp_build 125 #[(0, .tmp 11)] rfl (by rw [hbt]; rfl) (by rw [hbt]; exact ⟨X, Y, Ay, k, h.s5 (hS _ (by rfl)) hp (grown_refl wr) h.bel hB rfl⟩)
    · cases ho
      exact wp_alloc_run rfl (by kernel_rfl) ⟨wr.heap.size, Y, Ay, k, h.s6 (hS _ (by rfl)) hp (grown_below ((Below.refl wr.heap.size wr).alloc (Nat.le_refl _) _)) (h.bel.alloc hB _) hB rfl (heap_alloc_new wr (.cells zBase 122))⟩
    · cases ho
      exact wp_alloc_run rfl (by kernel_rfl) ⟨X, wr.heap.size, Ay, k, h.s7 (hS _ (by rfl)) hp (grown_below ((Below.refl wr.heap.size wr).alloc (Nat.le_refl _) _)) (h.bel.alloc hB _) hB rfl (heap_alloc_new wr (.cells #[.string ⟨#[]⟩] 125))⟩
    · cases ho
      have d7 := hd { on := 6, ground := .data } (by simp) (by rfl)
      have d2 := hd { on := 2, ground := .data } (by simp) (by rfl)
      have hz := h.z7 d7 hp
      exact wp_store_row 122 (.tmp 5) (.tmp 9) rfl X _ (h.f7 d7) (h.f2 d2) 122 _ hz (by kernel_rfl) rfl (by simp [MkC.lay, Value.oneCell']) ⟨X, Y, Ay, k, h.s8 (hS _ (by rfl)) hp (grown_row wr X _) (h.bel.grown (grown_row wr X _) hB (fun q e => by injection e with e; subst e; exact (h.g7 d7).1)) hB d2 d7 (setRow_heap _ _ _ _ _ _ hz)⟩
    · cases ho
      have d8 := hd { on := 7, ground := .data } (by simp) (by rfl)
      have d6 := hd { on := 5, ground := .data } (by simp) (by rfl)
      have hz := h.z8 d8 hp
      exact wp_store_row 125 (.tmp 6) (.tmp 12) rfl Y _ (h.f8 d8) (h.f6 d6) 125 _ hz (by kernel_rfl) rfl (by simp [Value.oneCell']) ⟨X, Y, Ay, k, h.s9 (hS _ (by rfl)) hp (grown_row wr Y _) (h.bel.grown (grown_row wr Y _) hB (fun q e => by injection e with e; subst e; exact (h.g8 d8).1)) hB d6 d8 (setRow_heap _ _ _ _ _ _ hz)⟩
  · rintro L a w2 hs ⟨X, Y, Ay, k, h⟩ hr
    have hall := ready_all (by kernel_rfl) hs hr
    have hx := h.x7 (hall 8 (by decide))
    have hy := h.x8 (hall 9 (by decide))
    have h5 := h.f7 (hall 6 (by decide))
    have h6 := h.f8 (hall 7 (by decide))
    have hv := h.g2 (hall 2 (by decide))
    have hwz : w2.heap[w.heap.size]? = _ := (h.bel.block w.heap.size hz0).trans HX0.out
    have HB2 := Lib.hid (HB0.out.trans (((Below.refl w1.heap.size w1).drew.trans h.bel).mono HB0.out.size))
    have HV : Hid (ValsIn w2 (fresh w w2) (ks.map Kd.n) Ay) := Lib.hid (hv.keep (fun _ _ _ => rfl) (fun b hb => ⟨by have h1 : w1.heap.size ≤ b := hb.1; have := HB0.out.size; omega, hb.2.1⟩))
    have e := h.agree.eq
    rw [e]
    simp only [List.foldr_cons, List.foldr_nil, h5, h6]
    generalize a.tmps.getD 7 undef = q7
    generalize a.tmps.getD 8 undef = q8
    generalize a.tmps.getD 9 undef = q9
    generalize a.tmps.getD 10 undef = q10
    generalize a.tmps.getD 11 undef = q11
    generalize a.tmps.getD 13 undef = q13
    generalize a.tmps.getD 12 undef = q12
    have hxl := lt_of_block hx
    have hyl := lt_of_block hy
    have hzl := lt_of_block hwz
    have xc := fun j => show w2.cell? ⟨X, j, none⟩ = (#[.string ⟨#[99, 97, 108, 108, 46, 116, 111]⟩, .int .i64 0, .string s, .slice Ay (ks.map Kd.n).length k] : Array Value)[j]? by simp [World.cell?, hx, MkC.lay]
    have yc := fun j => show w2.cell? ⟨Y, j, none⟩ = (#[.string s] : Array Value)[j]? by simp [World.cell?, hy]
    have zc := fun j => show w2.cell? ⟨w.heap.size, j, none⟩ = (#[.string ⟨#[99, 97, 108, 108, 46, 116, 111]⟩, .int .i64 0, .string s, .slice none 0 0] : Array Value)[j]? by simp [World.cell?, hwz]
    clear hx hy hv hwz e h hall h5 h6 hr hs KL
    have HE := Lib.hid (fun (w3 : World) (nb : Nat) (X : Obj) (T : TypeId) (h23 : Below w2.heap.size w2 w3) (hn : w2.heap.size ≤ nb) (n : Nat) => mk_end (X := X) (n := n) (kind := ⟨#[99, 97, 108, 108, 46, 116, 111]⟩) (s := s) (k := k) (T := T) (nb := nb) (w3 := w3) HB2.out h23 HV.out hn)
    rw [List.length_map] at xc HE
    go_wp2_with fail
    refine (node_Of _ _ _).mono ?_
    rintro e w3 ⟨rfl, rfl⟩
    go_wp2
    go_ret
    exact HE.out _ _ _ _ (Below.alloc (Below.refl _ _) (Nat.le_refl _) _) (Nat.le_refl _) _ (size_alloc _ _) (heap_alloc_new _ _) ⟨_, _, rfl⟩
end Go.Proofs.YtjdpnljaichdmaaGreatDoor
