/-
  espalierref2's reader: fail, peek, word, digit: walks. Conditions: a text within a row's reach.
-/
import Derived.Test.YthjpphojddbbmaaGreatDoorCPlFits
import Derived.Test.YthjpphojddbbmaaGreatDoorCSgNum
namespace Go.Proofs.YthjpphojddbbmaaGreatDoor
open Go.RowKit
set_option linter.unusedVariables false
set_option linter.unusedSimpArgs false

/-- A reader's cells. -/
def Rdr (w : World) (b : Nat) (s : ByteArray) (p bad err : Int) : Prop := w.heap[b]? = some (.cells #[.string s, .int .i64 p, .int .i64 bad, .int .i64 err] 165 (0, 0))
theorem Rdr.cells {w : World} {b : Nat} {s : ByteArray} {p bad err : Int} (h : Rdr w b s p bad err) : (∀ j, w.cell? ⟨b, j, none⟩ = (#[.string s, .int .i64 p, .int .i64 bad, .int .i64 err] : Array Value)[j]?) ∧ (∀ j, w.frozen? ⟨b, j, none⟩ = false) ∧ b < w.heap.size := by
  unfold Rdr at h
  exact ⟨fun j => by simp [World.cell?, h], fun j => by simp [World.frozen?, h], lt_of_block h⟩
theorem Rdr.below {w w' : World} {b : Nat} {s : ByteArray} {p bad err : Int} (h : Rdr w b s p bad err) (hb : Below w.heap.size w w') : Rdr w' b s p bad err := (hb.block b (lt_of_block h)).trans h
theorem Rdr.far {w : World} {b : Nat} {s : ByteArray} {p bad err : Int} (h : Rdr w b s p bad err) (o : Obj) : Rdr (w.alloc o) b s p bad err := (Below.heap_alloc _ _ _ (lt_of_block h)).trans h
theorem Rdr.step {w : World} {b : Nat} {s : ByteArray} {p bad err : Int} (h : Rdr w b s p bad err) (q : Int) : Rdr (w.setCell ⟨b, 1, none⟩ (.int .i64 q)) b s q bad err := blk_set h 1 _
theorem grown_bel {w w1 w2 : World} {b : Nat} (h : w.grownBy w1 (some b)) (h' : Below w1.heap.size w1 w2) : w.grownBy w2 (some b) :=
  ⟨h'.os.trans h.os, h'.tape.trans h.tape, h'.output.trans h.output, Nat.le_trans h.size h'.size, fun k hk hne => (h'.block k (Nat.lt_of_lt_of_le hk h.size)).trans (h.block k hk hne)⟩
theorem grown_trans_ {w w1 w2 : World} {b : Nat} (h : w.grownBy w1 (some b)) (h' : w1.grownBy w2 (some b)) : w.grownBy w2 (some b) := grown_on h h'
theorem grown_refl (w : World) (b : Nat) : w.grownBy w (some b) := ⟨rfl, rfl, rfl, Nat.le_refl _, fun _ _ _ => rfl⟩
theorem grown_put {w w1 : World} {b : Nat} (h : w.grownBy w1 (some b)) (j : Nat) (u : Value) : w.grownBy (w1.setCell ⟨b, j, none⟩ u) (some b) :=
  ⟨h.os, h.tape, h.output, by rw [size_set]; exact h.size, fun k hk hne => (Below.heap_setCell _ _ _ _ (fun e => hne (by rw [e]))).trans (h.block k hk hne)⟩
/-- The next byte; 256 at the end. -/
def pk (s : ByteArray) (p : Nat) : Int := match s.data.toList[p]? with
  | some c => (c.toNat : Int)
  | none => 256
theorem pk_end {s : ByteArray} {p : Nat} (h : s.size ≤ p) : pk s p = 256 := by
  unfold pk
  rw [List.getElem?_eq_none (by rw [← Lib.size_eq]; exact h)]
theorem pk_at {s : ByteArray} {p : Nat} (h : p < s.size) : pk s p = ((s[p]'h).toNat : Int) := by
  unfold pk
  rw [List.getElem?_eq_getElem (by rw [← Lib.size_eq]; exact h)]
  rfl
theorem pk_bound (s : ByteArray) (p : Nat) : 0 ≤ pk s p ∧ pk s p ≤ 256 := by
  unfold pk
  split
  · rename_i c _
    have := c.toNat_lt
    omega
  · omega
theorem pk_lt {s : ByteArray} {p : Nat} (h : pk s p ≠ 256) : p < s.size := by
  rcases Nat.lt_or_ge p s.size with h1 | h1
  · exact h1
  · exact absurd (pk_end h1) h
/-- What a reader's step leaves. -/
structure RdTo (w w' : World) (b : Nat) (s : ByteArray) (p : Nat) (p' : Nat) (bad' err' : Int) : Prop where
  rdr : Rdr w' b s p' bad' err'
  gr : w.grownBy w' (some b)
  le : p ≤ p'
  size : p' ≤ s.size
  rb : rng bad' = true
theorem wr_u8 (c : UInt8) : wrap64 (c.toNat : Int) = (c.toNat : Int) := by have := c.toNat_lt; exact wrap_rng (rng_iff.2 (by omega))
theorem rd_fail (s : ByteArray) (p bad e q : Int) (b : Nat) (w : World) (h : Rdr w b s p bad 0) :
    Calls Tryz.prog 85 #[.pointer (some ⟨b, 0, none⟩), .int .i64 e, .int .i64 q] w (fun E w' => E = .returned (.tuple #[]) ∧ Rdr w' b s p q e ∧ w.grownBy w' (some b)) := by
  obtain ⟨hc, hf, hlt⟩ := h.cells
  have H := Lib.hid h
  clear h
  go_enter Tryz.func85, Tryz.ntmps85
  go_wp2
  go_end0
  exact ⟨rfl, blk_set (blk_set H.out 3 _) 2 _, grown_put (grown_put (grown_refl _ _) _ _) _ _⟩
theorem rd_peek (s : ByteArray) (hs : s.size ≤ 140737488351232) (p : Nat) (bad err : Int) (b : Nat) (w : World) (h : Rdr w b s p bad err) (hp : p ≤ s.size) :
    Calls Tryz.prog 111 #[.pointer (some ⟨b, 0, none⟩)] w (Bel (.int .i64 (pk s p)) w) := by
  obtain ⟨hc, hf, hlt⟩ := h.cells
  clear h
  by_cases hq : p = s.size
  · have hx := Lib.hid (pk_end (s := s) (p := p) (by omega))
    have hd : ((p : Int) == (s.size : Int)) = true := by simp [hq]
    clear hq
    go_enter Tryz.func111, Tryz.ntmps111
    go_wp2
    go_quiet (fail)
    go_wp2
    go_ret
    exact ⟨by rw [hx.out]; rfl, below_drewN (Below.refl _ _) _⟩
  · have hq2 : p < s.size := by omega
    have hx := Lib.hid (pk_at hq2)
    have hd : ((p : Int) == (s.size : Int)) = false := by simp; omega
    clear hq
    go_enter Tryz.func111, Tryz.ntmps111
    go_wp2
    go_quiet (fail)
    go_wp2
    go_quiet (fail)
    go_wp2
    go_ret
    exact ⟨by rw [hx.out]; exact congrArg (fun q => Ending.returned (Value.int .i64 q)) (wr_u8 _), below_drewN (below_drewN (Below.refl _ _) _) _⟩
theorem rd_digit (c : Int) (w : World) : Calls Tryz.prog 148 #[.int .i64 c] w (fun e w' => ∃ d : Int, e = .returned (.int .i64 d) ∧ -1 ≤ d ∧ d ≤ 15 ∧ w = w') := by
  go_enter Tryz.func148, Tryz.ntmps148
  go_wp2
  go_loop [3] (fun i => ∃ k : Nat, k ≤ 16 ∧ i = .int .i64 k) (fun i => 16 - (intOf i).toNat)
  case atStart => exact ⟨0, Nat.zero_le _, rfl⟩
  case round =>
    obtain ⟨k, hk, rfl⟩ := hrel
    by_cases hlt : k < 16
    · go_wp2
      · go_ret
        exact ⟨k, rfl, by omega, by omega, rfl⟩
      · exact ⟨⟨k + 1, by omega, by go_num⟩, by simp [intOf]; omega⟩
    · obtain rfl : k = 16 := by omega
      go_wp2
      go_ret
      exact ⟨-1, rfl, by omega, by omega, rfl⟩
set_option maxRecDepth 100000 in
set_option maxHeartbeats 2000000 in
theorem rd_word (s : ByteArray) (hs : s.size ≤ 140737488351232) (t : ByteArray) (ht : t.size ≤ 140737488351232) (h0 : 0 < t.size) (p : Nat) (bad : Int) (hb : rng bad = true) (b : Nat) (w : World) (h : Rdr w b s p bad 0) (hp : p ≤ s.size) :
    Calls Tryz.prog 112 #[.pointer (some ⟨b, 0, none⟩), .string t] w (fun e w' => e = .returned (.tuple #[]) ∧ ∃ p' bad' err', RdTo w w' b s p p' bad' err' ∧ rng err' = true ∧ (err' = 0 → p < p')) := by
  have H := Lib.hid h
  have HB := Lib.hid hb
  clear h hb
  go_enter Tryz.func112, Tryz.ntmps112
  go_wp2
  go_loopw [4] (fun i wr => ∃ k : Nat, k ≤ t.size ∧ p + k ≤ s.size ∧ i = .int .i64 k ∧ Rdr wr b s (p + k : Nat) bad 0 ∧ w.grownBy wr (some b)) (fun i _ => t.size - (intOf i).toNat)
  case atStart => exact ⟨0, Nat.zero_le _, by omega, rfl, H.out, grown_refl _ _⟩
  case round =>
    obtain ⟨k, hk, hpk, rfl, hr, hg⟩ := hrel
    have HR := Lib.hid hr
    have HG := Lib.hid hg
    by_cases hlt : k < t.size
    · have KP := Lib.hid (fun x : Ext wr => rd_peek s hs (p + k) bad 0 b x.now (HR.out.below x.ok) hpk)
      clear hr hg
      cases hd : (pk s (p + k) != wrap64 ((t[k]'hlt).toNat : Int))
      · go_wp2
        refine wp_region_ext (by kernel_rfl) (by kernel_rfl) ?_
        go_big_quiet_step (fail)
        go_big_quiet_step ((go_at_call 111; exact Calls.ext_of (KP.out _)))
        go_big_quiet_step (fail)
        go_big_quiet_step (fail)
        go_big_quiet_step (fail)
        go_big_quiet_step (fail)
        go_big_quiet_step (fail)
        refine wpQuiet_nil ?_
        rintro _ ⟨x, rfl⟩
        have hb1 := x.ok
        clear KP
        generalize x.now = w1 at *
        have HR1 := Lib.hid (HR.out.below hb1)
        have HG1 := Lib.hid (grown_bel HG.out hb1)
        obtain ⟨c1, f1, l1⟩ := HR1.out.cells
        have hq : p + k < s.size := pk_lt (by have := (t[k]'hlt).toNat_lt; rw [wr_u8] at hd; simp at hd; omega)
        clear hb1
        go_wp2
        go_roundw
        case rel => exact ⟨k + 1, by omega, by omega, by go_num, by rw [show (((p + (k + 1) : Nat) : Int)) = ((p + k : Nat) : Int) + 1 by omega]; exact HR1.out.step _, grown_put HG1.out _ _⟩
        case measure => simp [intOf]; omega
      · go_wp2
        refine wp_region_ext (by kernel_rfl) (by kernel_rfl) ?_
        go_big_quiet_step (fail)
        go_big_quiet_step ((go_at_call 111; exact Calls.ext_of (KP.out _)))
        go_big_quiet_step (fail)
        go_big_quiet_step (fail)
        go_big_quiet_step (fail)
        go_big_quiet_step (fail)
        go_big_quiet_step (fail)
        refine wpQuiet_nil ?_
        rintro _ ⟨x, rfl⟩
        have hb1 := x.ok
        clear KP
        generalize x.now = w1 at *
        have HR1 := Lib.hid (HR.out.below hb1)
        have HG1 := Lib.hid (grown_bel HG.out hb1)
        obtain ⟨c1, f1, l1⟩ := HR1.out.cells
        clear hb1
        go_wp2_with fail
        refine (rd_fail s _ bad 5 _ b w1 HR1.out).mono ?_
        rintro e w2 ⟨rfl, hr2, hg2⟩
        have HR2 := Lib.hid hr2
        have HG2 := Lib.hid (grown_trans_ HG1.out hg2)
        clear hr2 hg2
        go_wp2
        refine bodyPost_ret (results_none rfl _ _ _) rfl ?_
        exact ⟨rfl, p + k, _, _, ⟨HR2.out, HG2.out, by omega, hpk, rng_iff.2 (by omega)⟩, by decide, fun e => by omega⟩
    · obtain rfl : k = t.size := by omega
      clear hr hg
      go_wp2
      go_end0
      exact ⟨rfl, p + t.size, bad, 0, ⟨HR.out, HG.out, by omega, hpk, HB.out⟩, by decide, fun _ => by omega⟩
end Go.Proofs.YthjpphojddbbmaaGreatDoor
