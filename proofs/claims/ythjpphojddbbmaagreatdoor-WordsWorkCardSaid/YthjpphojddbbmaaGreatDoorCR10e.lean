/-
  espalierref2.Digits: a walk. Printed by a program of mine (gen_r10e.py). Conditions: none.
-/
import Derived.Test.YthjpphojddbbmaaGreatDoorCR10d
namespace Go.Proofs.YthjpphojddbbmaaGreatDoor
open Go.RowKit
set_option linter.unusedVariables false
set_option linter.unusedSimpArgs false

theorem dg_arr (b B : Nat) (h : B < 21) (w : World) : (Instr.sliceAt 161 (.pointer (some ⟨b, 0, none⟩)) (some (.int .i64 (B : Int))) none none).run Tryz.prog w = .ok (.slice (some ⟨b, B, none⟩) (21 - B) (21 - B)) w := by
  have ha : Tryz.prog.arrayLen 161 = 21 := by kernel_rfl
  have ht : Tryz.prog.underlying 161 = some (.array (Tryz.prog.arrayLen 161) (Tryz.prog.elem 161)) := by kernel_rfl
  have hs : ∀ w : World, (sizeOf (Tryz.prog.elem 161)).run Tryz.prog w = .ok 1 w := fun w => by kernel_rfl
  rw [run_sliceAt_array_l (P := Tryz.prog) w 161 ⟨b, 0, none⟩ ht .i64 (B : Int) (by omega) (by rw [ha]; omega), hs]
  have hne : ¬ 21 = B := by omega
  simp [slicedAt, ha, hne, Addr.add_lit]
/-- The array's last cells. -/
def DgC (wr : World) (b B : Nat) (acc : List UInt8) : Prop := ∃ cs : Array Value, wr.heap[b]? = some (.cells cs 161 (0, 0)) ∧ cs.size = 21 ∧ ∀ j (h : j < acc.length), cs[B + j]? = some (.int .u8 (acc[j].toNat : Int))
/-- What the digits' loop carries. -/
def DgI (wr : World) (b : Nat) (U u B : Nat) (acc : List UInt8) : Prop :=
  B + 1 + acc.length = 21 ∧ Lib.decDigits U = Lib.decDigits u ++ acc ∧ acc.length + Lib.nDigits u ≤ 19 ∧ u ≤ U ∧ DgC wr b (B + 1) acc
theorem dg_19 {U : Nat} (h : U ≤ 9223372036854775808) : Lib.nDigits U ≤ 19 := by
  rcases Nat.lt_or_ge U (10 ^ 18) with h1 | h1
  · have h2 : ∀ (k U : Nat), U < 10 ^ (k + 1) → Lib.nDigits U ≤ k + 1 := by
      intro k
      induction k with
      | zero => intro U h; rw [Lib.nDigits_small (by omega)]; omega
      | succ k ih =>
        intro U h
        by_cases hs : U < 10
        · rw [Lib.nDigits_small hs]; omega
        · rw [Lib.nDigits_big hs]
          have := ih (U / 10) (by rw [Nat.pow_succ] at h; omega)
          omega
    have := h2 17 U h1
    omega
  · rw [Lib.nDigits_unique 18 U h1 (by omega)]
    omega
theorem dg_room {B k : Nat} {u : Nat} (h1 : B + 1 + k = 21) (h3 : k + Lib.nDigits u ≤ 19) : 2 ≤ B := by
  have := Lib.nDigits_pos u
  omega
theorem dg_put {wr : World} {b B u : Nat} {acc : List UInt8} (h : DgC wr b (B + 1) acc) (hB : B < 21) : DgC (wr.setCell ⟨b, B, none⟩ (.int .u8 (48 + (u : Int) % 10))) b B (UInt8.ofNat (48 + u % 10) :: acc) := by
  obtain ⟨cs, h1, h2, h3⟩ := h
  refine ⟨_, blk_set h1 B _, by simp [h2], fun j hj => ?_⟩
  match j with
  | 0 =>
    have e : ((UInt8.ofNat (48 + u % 10)).toNat : Int) = 48 + (u : Int) % 10 := by
      rw [UInt8.toNat_ofNat']
      omega
    simp only [List.getElem_cons_zero, e]
    simp [h2, hB]
  | j + 1 =>
    have hj' : j < acc.length := by simpa using hj
    have := h3 j hj'
    rw [Array.getElem?_setIfInBounds_ne (by omega)]
    rw [show B + (j + 1) = B + 1 + j by omega, this]
    rfl
theorem dg_dec {u : Nat} (h : ¬ u < 10) : Lib.decDigits u = Lib.decDigits (u / 10) ++ [UInt8.ofNat (48 + u % 10)] := by
  rw [Lib.decDigits, dif_neg h]
theorem dg_next {wr : World} {b U u B : Nat} {acc : List UInt8} (h : DgI wr b U u B acc) (hu : ¬ u < 10) : DgI (wr.setCell ⟨b, B, none⟩ (.int .u8 (48 + (u : Int) % 10))) b U (u / 10) (B - 1) (UInt8.ofNat (48 + u % 10) :: acc) ∧ 2 ≤ B := by
  obtain ⟨h1, h2, h3, h4, h5⟩ := h
  have hB := dg_room h1 h3
  rw [Lib.nDigits_big hu] at h3
  refine ⟨⟨by simp only [List.length_cons]; omega, ?_, by simp only [List.length_cons]; omega, by omega, ?_⟩, hB⟩
  · rw [h2, dg_dec hu]; simp
  · rw [show B - 1 + 1 = B by omega]; exact dg_put h5 (by omega)
theorem dg_last {wr : World} {b U u B : Nat} {acc : List UInt8} (h : DgI wr b U u B acc) (hu : u < 10) : B + (UInt8.ofNat (48 + u % 10) :: acc).length = 21 ∧ Lib.decDigits U = (UInt8.ofNat (48 + u % 10) :: acc) ∧ True ∧ True ∧ DgC (wr.setCell ⟨b, B, none⟩ (.int .u8 (48 + (u : Int) % 10))) b B (UInt8.ofNat (48 + u % 10) :: acc) := by
  obtain ⟨h1, h2, h3, h4, h5⟩ := h
  refine ⟨by simp only [List.length_cons]; omega, ?_, trivial, trivial, dg_put h5 (by omega)⟩
  rw [h2, Lib.decDigits_one hu, Nat.mod_eq_of_lt hu]; rfl
theorem dg_minus {wr : World} {b B : Nat} {cs : Array Value} {acc : List UInt8} (h1 : wr.heap[b]? = some (.cells cs 161 (0, 0))) (h2 : cs.size = 21) (hB : B + 1 + acc.length = 21) (h3 : ∀ j (h : j < acc.length), cs[B + 1 + j]? = some (.int .u8 (acc[j].toNat : Int))) : DgC (wr.setCell ⟨b, B, none⟩ (.int .u8 45)) b B (45 :: acc) := by
  refine ⟨_, blk_set h1 B _, by simp [h2], fun j hj => ?_⟩
  match j with
  | 0 => simp [h2, show B < 21 by omega]
  | j + 1 =>
    have hj' : j < acc.length := by simpa using hj
    rw [Array.getElem?_setIfInBounds_ne (by omega)]
    rw [show B + (j + 1) = B + 1 + j by omega, h3 j hj']
    rfl
theorem dg_conv {W : World} {b B : Nat} {l : List UInt8} (h : DgC W b B l) (hl : B + l.length = 21) (_h0 : 0 ≤ B) : (convert 160 9 (.slice (some ⟨b, B, none⟩) (21 - B) (21 - B))).run Tryz.prog W = .ok (.string ⟨l.toArray⟩) W := by
  obtain ⟨cs, h1, h2, h3⟩ := h
  have e : 21 - B = l.length := by omega
  rw [e]
  exact run_convert_bytes_back W _ _ 5 ⟨b, B, none⟩ l.length l Tryz.underlying160 Tryz.underlying5 Tryz.underlying9 (fun j hj => by
    rw [Addr.add_lit]
    simp only [World.cell?, h1]
    simpa using h3 j hj)
set_option maxRecDepth 100000 in
set_option maxHeartbeats 8000000 in
theorem r_digits (n : Int) (hn : rng n = true) (w : World) : Calls Tryz.prog 63 #[.int .i64 n] w (Bel (.string ⟨(Lib.itoa n).toArray⟩) w) := by
  by_cases h0 : n < 0
  · have d0 : decide (n < 0) = true := by simpa using h0
    obtain ⟨U, hUn⟩ : ∃ U, n.natAbs = U := ⟨_, rfl⟩
    have hU : (U : Int) ≤ 9223372036854775808 := by have := (rng_iff.1 hn).1; omega
    have hnU : n = -(U : Int) := by omega
    have HNU := Lib.hid hnU
    have hw1 : IntKind.u64.wrap n = 18446744073709551616 - (U : Int) := by rw [hnU]; unfold IntKind.wrap; simp [IntKind.bits, IntKind.signed]; omega
    have hw2 : IntKind.u64.wrap (-(18446744073709551616 - (U : Int))) = (U : Int) := by unfold IntKind.wrap; simp [IntKind.bits, IntKind.signed]; omega
    have hU0 : 0 < U := by omega
    clear hn hnU
    have HX0 := Lib.hid (heap_alloc_new w (.cells #[.int .u8 0, .int .u8 0, .int .u8 0, .int .u8 0, .int .u8 0, .int .u8 0, .int .u8 0, .int .u8 0, .int .u8 0, .int .u8 0, .int .u8 0, .int .u8 0, .int .u8 0, .int .u8 0, .int .u8 0, .int .u8 0, .int .u8 0, .int .u8 0, .int .u8 0, .int .u8 0, .int .u8 0] 161))
    have HB0 := Lib.hid ((Below.refl w.heap.size w).alloc (Nat.le_refl _) (.cells #[.int .u8 0, .int .u8 0, .int .u8 0, .int .u8 0, .int .u8 0, .int .u8 0, .int .u8 0, .int .u8 0, .int .u8 0, .int .u8 0, .int .u8 0, .int .u8 0, .int .u8 0, .int .u8 0, .int .u8 0, .int .u8 0, .int .u8 0, .int .u8 0, .int .u8 0, .int .u8 0, .int .u8 0] 161))
    have hnd : Lib.nDigits U ≤ 19 := dg_19 (by omega)
    have HS : Hid (DgI (w.alloc (.cells #[.int .u8 0, .int .u8 0, .int .u8 0, .int .u8 0, .int .u8 0, .int .u8 0, .int .u8 0, .int .u8 0, .int .u8 0, .int .u8 0, .int .u8 0, .int .u8 0, .int .u8 0, .int .u8 0, .int .u8 0, .int .u8 0, .int .u8 0, .int .u8 0, .int .u8 0, .int .u8 0, .int .u8 0] 161)) w.heap.size U U 20 []) := Lib.hid ⟨rfl, by simp, by simpa using hnd, Nat.le_refl _, _, HX0.out, rfl, fun j h => absurd h (by simp)⟩
    clear hnd
    go_enter Tryz.func63, Tryz.ntmps63
    go_wp2
    go_loopw [4, 5] (fun s4 s5 wr => ∃ (u B : Nat) (acc : List UInt8), s4 = .int .i64 ((B : Int) + 1) ∧ s5 = .int .u64 (u : Int) ∧ Hid (DgI wr w.heap.size U u B acc) ∧ Below w.heap.size w wr) (fun _ s5 _ => (intOf s5).toNat)
    case atStart => exact ⟨U, 20, [], rfl, by go_num, HS, HB0.out⟩
    case round =>
      obtain ⟨u, B, acc, rfl, rfl, HD, hb⟩ := hrel
      have HB := Lib.hid hb
      clear hb HS HX0 HB0
      have hD := HD.out
      obtain ⟨h1, h2, h3, h4, cs, hcs, hsz, hac⟩ := hD
      have hB : B < 21 := by omega
      have HLE := Lib.hid (dg_room h1 h3)
      obtain ⟨x, hx⟩ : ∃ x, wr.cell? ⟨w.heap.size, B, none⟩ = some x := ⟨cs[B]'(by omega), by simp [World.cell?, hcs, show B < cs.size by omega]⟩
      have hf : wr.frozen? ⟨w.heap.size, B, none⟩ = false := by simp [World.frozen?, hcs]
      have HBN := Lib.hid (HB.out.setCell (p := ⟨w.heap.size, B, none⟩) (Nat.le_refl _) (.int .u8 (48 + (u : Int) % 10)))
      have hsl := fun W => dg_arr w.heap.size B hB W
      by_cases hu : u < 10
      · have q0 : ((u : Int) / 10 == 0) = true := by simp; omega
        have HN := Lib.hid (dg_last HD.out hu)
        have HFIN : Hid (Lib.itoa n = 45 :: (UInt8.ofNat (48 + u % 10) :: acc)) := Lib.hid (by
          unfold Lib.itoa
          rw [if_pos h0, hUn]
          rw [HN.out.2.1])
        clear h1 h2 h3 hcs hsz hac hu HD
        generalize UInt8.ofNat (48 + u % 10) :: acc = l9 at *
        obtain ⟨B', rfl⟩ : ∃ B', B = B' + 1 := ⟨B - 1, by have := HN.out.1; have := HLE.out; omega⟩
        have hN := HN.out
        obtain ⟨g1, _, _, _, cs2, hcs2, hsz2, hac2⟩ := hN
        have HNB := Lib.hid (dg_minus (b := w.heap.size) (B := B') hcs2 hsz2 (by omega) hac2)
        have hsl2 := fun W => dg_arr w.heap.size B' (by omega) W
        have hcv := dg_conv HNB.out (by rw [List.length_cons]; omega) (by simp)
        have HBM := Lib.hid (HBN.out.setCell (p := ⟨w.heap.size, B', none⟩) (Nat.le_refl _) (.int .u8 45))
        obtain ⟨x2, hx2⟩ : ∃ x2, (wr.setCell ⟨w.heap.size, B' + 1, none⟩ (.int .u8 (48 + (u : Int) % 10))).cell? ⟨w.heap.size, B', none⟩ = some x2 := ⟨cs2[B']'(by omega), by simp [World.cell?, hcs2, show B' < cs2.size by omega]⟩
        have hf2 : (wr.setCell ⟨w.heap.size, B' + 1, none⟩ (.int .u8 (48 + (u : Int) % 10))).frozen? ⟨w.heap.size, B', none⟩ = false := by simp [World.frozen?, hcs2]
        clear hcs2 hsz2 hac2 g1
        go_wp2
        go_ret
        exact ⟨by rw [HFIN.out]; rfl, HBM.out⟩
      · have q0 : ((u : Int) / 10 == 0) = false := by simp; omega
        have HN := Lib.hid (dg_next HD.out (by omega))
        obtain ⟨B', rfl⟩ : ∃ B', B = B' + 1 := ⟨B - 1, by have := HN.out.2; omega⟩
        clear h1 h2 h3 hcs hsz hac HD
        generalize UInt8.ofNat (48 + u % 10) :: acc = l9 at *
        go_wp2
        refine ⟨⟨u / 10, B', l9, by go_num, by go_num, Lib.hid (by simpa using HN.out.1), HBN.out⟩, by simp [intOf]; omega⟩
  · obtain ⟨U, rfl⟩ := Int.eq_ofNat_of_zero_le (show 0 ≤ n by omega)
    have d0 : decide ((U : Int) < 0) = false := by simp
    have hU : (U : Int) ≤ 9223372036854775807 := (rng_iff.1 hn).2
    clear hn h0
    have HX0 := Lib.hid (heap_alloc_new w (.cells #[.int .u8 0, .int .u8 0, .int .u8 0, .int .u8 0, .int .u8 0, .int .u8 0, .int .u8 0, .int .u8 0, .int .u8 0, .int .u8 0, .int .u8 0, .int .u8 0, .int .u8 0, .int .u8 0, .int .u8 0, .int .u8 0, .int .u8 0, .int .u8 0, .int .u8 0, .int .u8 0, .int .u8 0] 161))
    have HB0 := Lib.hid ((Below.refl w.heap.size w).alloc (Nat.le_refl _) (.cells #[.int .u8 0, .int .u8 0, .int .u8 0, .int .u8 0, .int .u8 0, .int .u8 0, .int .u8 0, .int .u8 0, .int .u8 0, .int .u8 0, .int .u8 0, .int .u8 0, .int .u8 0, .int .u8 0, .int .u8 0, .int .u8 0, .int .u8 0, .int .u8 0, .int .u8 0, .int .u8 0, .int .u8 0] 161))
    have hnd : Lib.nDigits U ≤ 19 := dg_19 (by omega)
    have HS : Hid (DgI (w.alloc (.cells #[.int .u8 0, .int .u8 0, .int .u8 0, .int .u8 0, .int .u8 0, .int .u8 0, .int .u8 0, .int .u8 0, .int .u8 0, .int .u8 0, .int .u8 0, .int .u8 0, .int .u8 0, .int .u8 0, .int .u8 0, .int .u8 0, .int .u8 0, .int .u8 0, .int .u8 0, .int .u8 0, .int .u8 0] 161)) w.heap.size U U 20 []) := Lib.hid ⟨rfl, by simp, by simpa using hnd, Nat.le_refl _, _, HX0.out, rfl, fun j h => absurd h (by simp)⟩
    clear hnd
    go_enter Tryz.func63, Tryz.ntmps63
    go_wp2
    go_loopw [4, 5] (fun s4 s5 wr => ∃ (u B : Nat) (acc : List UInt8), s4 = .int .i64 ((B : Int) + 1) ∧ s5 = .int .u64 (u : Int) ∧ Hid (DgI wr w.heap.size U u B acc) ∧ Below w.heap.size w wr) (fun _ s5 _ => (intOf s5).toNat)
    case atStart => exact ⟨U, 20, [], rfl, rfl, HS, HB0.out⟩
    case round =>
      obtain ⟨u, B, acc, rfl, rfl, HD, hb⟩ := hrel
      have HB := Lib.hid hb
      clear hb HS HX0 HB0
      have hD := HD.out
      obtain ⟨h1, h2, h3, h4, cs, hcs, hsz, hac⟩ := hD
      have hB : B < 21 := by omega
      have HLE := Lib.hid (dg_room h1 h3)
      obtain ⟨x, hx⟩ : ∃ x, wr.cell? ⟨w.heap.size, B, none⟩ = some x := ⟨cs[B]'(by omega), by simp [World.cell?, hcs, show B < cs.size by omega]⟩
      have hf : wr.frozen? ⟨w.heap.size, B, none⟩ = false := by simp [World.frozen?, hcs]
      have HBN := Lib.hid (HB.out.setCell (p := ⟨w.heap.size, B, none⟩) (Nat.le_refl _) (.int .u8 (48 + (u : Int) % 10)))
      have hsl := fun W => dg_arr w.heap.size B hB W
      by_cases hu : u < 10
      · have q0 : ((u : Int) / 10 == 0) = true := by simp; omega
        have HN := Lib.hid (dg_last HD.out hu)
        have HFIN : Hid (Lib.itoa (U : Int) = (UInt8.ofNat (48 + u % 10) :: acc)) := Lib.hid (by
          unfold Lib.itoa
          rw [if_neg (by omega), Int.toNat_natCast]
          rw [HN.out.2.1])
        clear h1 h2 h3 hcs hsz hac hu HD
        generalize UInt8.ofNat (48 + u % 10) :: acc = l9 at *
        have hcv := dg_conv (HN.out.2.2.2.2) HN.out.1 (by simp)
        go_wp2
        go_ret
        exact ⟨by rw [HFIN.out]; rfl, HBN.out⟩
      · have q0 : ((u : Int) / 10 == 0) = false := by simp; omega
        have HN := Lib.hid (dg_next HD.out (by omega))
        obtain ⟨B', rfl⟩ : ∃ B', B = B' + 1 := ⟨B - 1, by have := HN.out.2; omega⟩
        clear h1 h2 h3 hcs hsz hac HD
        generalize UInt8.ofNat (48 + u % 10) :: acc = l9 at *
        go_wp2
        refine ⟨⟨u / 10, B', l9, by go_num, by go_num, Lib.hid (by simpa using HN.out.1), HBN.out⟩, by simp [intOf]; omega⟩
end Go.Proofs.YthjpphojddbbmaaGreatDoor
