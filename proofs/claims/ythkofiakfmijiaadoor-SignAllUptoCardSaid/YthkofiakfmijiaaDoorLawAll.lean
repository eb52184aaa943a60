/-
  espalierlaw3.SignAll: a walk, for any list of operations whose texts and lists are within a bound. Conditions: that; the library's variables are laid.
-/
import Derived.Test.YthkofiakfmijiaaDoorLawPlays
import Derived.Test.YthkofiakfmijiaaDoorLaw3Begun
namespace Go.Proofs.YthkofiakfmijiaaDoor
open Go.RowKit
set_option linter.unusedVariables false

/-- What one operation holds. -/
structure OpD where
  k : Int
  s : ByteArray
  f : ByteArray
  f2 : ByteArray
  A : Option Addr
  A2 : Option Addr
  l : List Int
  l2 : List Int
  c : Nat
  c2 : Nat
def OpD.cells (x : OpD) : Array Value := opCells x.k x.s x.f x.f2 x.A x.A2 x.l.length x.l2.length x.c x.c2
structure OpD.Ok (x : OpD) (w : World) (B : Nat) : Prop where
  hs : x.s.size ≤ 1048576
  hf : x.f.size ≤ 1048576
  hf2 : x.f2.size ≤ 1048576
  hl : x.l.length ≤ 1048576
  hl2 : x.l2.length ≤ 1048576
  nil : x.A = none → x.l = [] ∧ x.c = 0
  r1 : RdI w B x.A x.l
  r2 : RdI w B x.A2 x.l2
theorem OpD.Ok.next {x : OpD} {w w' : World} (h : x.Ok w w.heap.size) (hb : Below w.heap.size w w') : x.Ok w' w'.heap.size :=
  ⟨h.hs, h.hf, h.hf2, h.hl, h.hl2, h.nil, Rd.next h.r1 hb, Rd.next h.r2 hb⟩
/-- A slice of operations. -/
def OpsRd (w : World) (A : Option Addr) (n : Nat) : Prop :=
  0 < n → ∃ b o, A = some ⟨b, o, none⟩ ∧ b < w.heap.size ∧ ∀ i, i < n → ∃ x : OpD, x.Ok w w.heap.size ∧ ∀ j, j < 6 → w.cell? ⟨b, o + i * 6 + j, none⟩ = x.cells[j]?
theorem OpsRd.next {A : Option Addr} {n : Nat} {w w' : World} (h : OpsRd w A n) (hb : Below w.heap.size w w') : OpsRd w' A n := fun hn => by
  obtain ⟨b, o, e, hlt, hx⟩ := h hn
  refine ⟨b, o, e, Nat.lt_of_lt_of_le hlt hb.size, fun i hi => ?_⟩
  obtain ⟨x, hk, hc⟩ := hx i hi
  exact ⟨x, hk.next hb, fun j hj => (hb.cell (p := ⟨b, o + i * 6 + j, none⟩) hlt).trans (hc j hj)⟩
set_option maxRecDepth 100000 in
set_option maxHeartbeats 8000000 in
theorem law_SignAll (A : Option Addr) (n c : Nat) (w : World) (hn : n ≤ 1048576) (hR : OpsRd w A n) (hS : Sg w) :
    Calls Tryd.prog 3 #[.slice A n c] w (Bel (.bool true) w) := by
  have HR := Lib.hid hR
  have HS := Lib.hid hS
  have kb := Lib.hid (law3_begun w hS)
  clear hR hS
  go_enter Tryd.func3, Tryd.ntmps3
  go_wp2_with fail
  refine kb.out.mono ?_
  rintro e w1 ⟨rfl, hb⟩
  have HB1 := Lib.hid hb
  clear hb kb
  go_wp2
  go_loopw [3] (fun i wr => ∃ (k : Nat), k ≤ n ∧ i = .int .i64 k ∧ Below w.heap.size w wr) (fun i wr => n - (intOf i).toNat)
  case atStart => exact ⟨0, Nat.zero_le _, rfl, HB1.out⟩
  case round =>
    obtain ⟨k, hk, rfl, hbel⟩ := hrel
    have HB := Lib.hid hbel
    clear hbel
    by_cases hlt : k < n
    · obtain ⟨b, o, rfl, hbb, hx⟩ := HR.out.next HB.out (by omega)
      obtain ⟨x, hk6, hc⟩ := hx k hlt
      have KP := Lib.hid (law_plays x.k x.s x.f x.f2 x.A x.A2 x.l x.l2 x.c x.c2 wr hk6.hs hk6.hf hk6.hf2 hk6.hl hk6.hl2 hk6.nil hk6.r1 hk6.r2 (HS.out.below HB.out))
      have e0 : wr.cell? ⟨b, o + k * 6, none⟩ = some (.int .i64 x.k) := hc 0 (by omega)
      have e1 : wr.cell? ⟨b, o + k * 6 + 1, none⟩ = some (.string x.s) := hc 1 (by omega)
      have e2 : wr.cell? ⟨b, o + k * 6 + 2, none⟩ = some (.string x.f) := hc 2 (by omega)
      have e3 : wr.cell? ⟨b, o + k * 6 + 3, none⟩ = some (.slice x.A x.l.length x.c) := hc 3 (by omega)
      have e4 : wr.cell? ⟨b, o + k * 6 + 4, none⟩ = some (.string x.f2) := hc 4 (by omega)
      have e5 : wr.cell? ⟨b, o + k * 6 + 5, none⟩ = some (.slice x.A2 x.l2.length x.c2) := hc 5 (by omega)
      unfold opCells at KP
      clear hc hx hk6
      go_wp2_with fail
      refine KP.out.mono ?_
      rintro e w2 ⟨rfl, hb⟩
      have HB2 := Lib.hid (HB.out.trans (hb.mono HB.out.size))
      clear hb KP
      go_wp2
      go_roundw
      case rel => exact ⟨k + 1, by omega, by go_num, HB2.out⟩
      case measure => simp [intOf]; omega
    · go_wp2
      go_ret
      exact ⟨rfl, HB.out⟩
end Go.Proofs.YthkofiakfmijiaaDoor
