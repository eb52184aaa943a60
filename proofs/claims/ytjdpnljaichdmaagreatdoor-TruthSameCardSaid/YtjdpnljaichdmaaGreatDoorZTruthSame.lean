/-
  The last texts of a proof in one: PlOpen, PlRow, OpRow, LawLight9, LawWorks9, OpAts, LawMade, LawMade9, SignsTruth, MkTruthIf, NodeLooks, TyTruthIf, TruthKit, TruthsOf, Law9Begun, LawOps9, RefMay9, RefWork9a, RefWork9n, RefSame, RefWork9, TruthWorkC, TruthSameC, PTruthSame. Conditions: each text names its own.
-/
import Derived.Test.YtjdpnljaichdmaaGreatDoorPlTwin
import Derived.Deep.Slices
import Derived.ChangeSame
import Derived.ProofKit
import Derived.OpenShut
import Derived.Carry
import Derived.SizedLaws
import Derived.Test.YtjdpnljaichdmaaGreatDoorCards
import Derived.Test.YtjdpnljaichdmaaGreatDoorTie
import Derived.Deep.DeepHandedRow
import Derived.Stop.LaidErr
import Derived.Lib.SmallJoins
import Derived.SevenTiedAt
import Derived.Test.YtjdpnljaichdmaaGreatDoorTwOwn
import Derived.Test.YtjdpnljaichdmaaGreatDoorPlFits
import Derived.Deep.CutRange
import Derived.BigQuiet
import Derived.Test.YtjdpnljaichdmaaGreatDoorKitMake
import Derived.Test.YtjdpnljaichdmaaGreatDoorRegMk
import Derived.Test.YtjdpnljaichdmaaGreatDoorNodeBase
import Derived.Stop.Asserts
import Derived.Test.YtjdpnljaichdmaaGreatDoorGuardKit
import Derived.Test.YtjdpnljaichdmaaGreatDoorTruthWork
import Derived.Test.YtjdpnljaichdmaaGreatDoorWorthVal
import Derived.Test.YtjdpnljaichdmaaGreatDoorRefOrder
import Derived.Deep.RegionHeld3
/-
  Plain values, and rows of them, opened out of a row's datum: how they lie in memory. Conditions: none.
-/
namespace Go.Proofs.YtjdpnljaichdmaaGreatDoor
open Go.RowKit Go.WideShapes Go.ChangeShapes Go.ChangeAt
set_option linter.unusedVariables false

theorem size_data (s : ByteArray) : s.data.toList.length = s.size := by
  exact s.data.length_toList
theorem spot_none {w : World} {b o : Nat} {sp : Option Nat} {v : Value} (h : w.cell? ⟨b, o, sp⟩ = some v) : sp = none := by
  cases sp with
  | none => rfl
  | some x =>
    unfold World.cell? at h
    split at h <;> simp at h
theorem weightsAll_mem {H : Type} {P : Program} {e : TypeId} : ∀ {l : List (DataW H)} {d : DataW H}, d ∈ l → ∀ n ∈ d.weights P e, n ∈ DataW.weightsAll P e l
  | x :: l, d, h, n, hn => by
    simp only [DataW.weightsAll, List.mem_append]
    rcases List.mem_cons.1 h with rfl | h
    · exact Or.inl hn
    · exact Or.inr (weightsAll_mem h n hn)
/-- All that a datum weighs is within reach. -/
def Fit {H : Type} (t : TypeId) (d : DataW H) : Prop := ∀ n ∈ d.weights Tryz.prog t, n ≤ 140737488351232
theorem lies_build {w : World} {B b : Nat} : ∀ (n o : Nat), (∀ i, i < n → ∃ p : Pl, p.lies w B b (o + i * 4)) → ∃ l : List Pl, l.length = n ∧ Pls.lies w B l (some ⟨b, o, none⟩)
  | 0, o, h => ⟨[], rfl, by unfold Pls.lies; trivial⟩
  | n + 1, o, h => by
    obtain ⟨p, hp⟩ := h 0 (by omega)
    obtain ⟨l, hl, hs⟩ := lies_build n (o + 4) (fun i hi => by
      obtain ⟨q, hq⟩ := h (i + 1) (by omega)
      exact ⟨q, by rw [show o + 4 + i * 4 = o + (i + 1) * 4 by omega]; exact hq⟩)
    refine ⟨p :: l, by simp [hl], ?_⟩
    unfold Pls.lies
    exact ⟨b, o, rfl, by simpa using hp, hs⟩
theorem add_add_none (b o i j : Nat) : ((⟨b, o, none⟩ : Addr).add i).add j = ⟨b, o + i + j, none⟩ := by
  rw [Deep.add_add]
  unfold Addr.add
  split
  · simp_all
  · simp [Nat.add_assoc]
theorem op_c4 : Tryz.prog.cellsOf 34 = 4 := by kernel_rfl
theorem op_b4 : Tryz.prog.bytesOf 34 = 56 := by kernel_rfl
theorem op_c1 : Tryz.prog.cellsOf 3 = 1 := by kernel_rfl
theorem op_c1' : Tryz.prog.cellsOf 2 = 1 := by kernel_rfl
theorem op_c1s : Tryz.prog.cellsOf 9 = 1 := by kernel_rfl
theorem op_c1l : Tryz.prog.cellsOf 25 = 1 := by kernel_rfl
theorem len4 {α : Type} {l : List α} (h : l.length = 4) : ∃ a b c d, l = [a, b, c, d] := by
  match l, h with
  | [a, b, c, d], _ => exact ⟨a, b, c, d, rfl⟩
theorem rng_of_wf {n : Int} (h : (Lit.int .i64 n).wf = true) : rng n = true := by
  have h' : IntKind.i64.min ≤ n ∧ n ≤ 9223372036854775807 := by simpa [Lit.wf] using h
  exact rng_iff.mpr ⟨h'.1, h'.2⟩

theorem open_plain {H : Type} {enc : TypeId × Value → H} {w : World} {spare : Nat → Bool} {held : Bool} : ∀ (z fuel : Nat) (cs : List Value) (x : DataW H × List MemPlace), fuel ≤ z →
    DataW.trod enc Tryz.prog w 0 spare held fuel 34 cs = some x → (∀ p ∈ x.2, p.block < w.heap.size) → Fit 34 x.1 →
    ∃ (p : Pl) (A : Option Addr) (c : Nat), cs = [.int .i64 p.kind, .int .i64 p.num, .string p.text, .slice A p.list.length c] ∧ p.sane ∧ Pls.lies w w.heap.size p.list A := by
  intro z
  induction z with
  | zero =>
    intro fuel cs x hz h _ _
    obtain rfl : fuel = 0 := by omega
    simp [DataW.trod] at h
  | succ z ih =>
    intro fuel cs x hz h hlt hfit
    obtain ⟨xs, n, hfu, rfl, hl, hlen, hf⟩ := DataW.trod_struct Tryz.underlying34 h
    rw [op_c4] at hl
    obtain ⟨v0, v1, v2, v3, rfl⟩ := len4 hl
    obtain ⟨x0, x1, x2, x3, rfl⟩ := len4 hlen
    have h0 : DataW.trod enc Tryz.prog w 0 spare held n 3 [v0] = some x0 := by
      have := hf 0 _ rfl
      simpa [op_c1] using this
    have h1 : DataW.trod enc Tryz.prog w 0 spare held n 2 [v1] = some x1 := by
      have := hf 1 _ rfl
      simpa [op_c1'] using this
    have h2 : DataW.trod enc Tryz.prog w 0 spare held n 9 [v2] = some x2 := by
      have := hf 2 _ rfl
      simpa [op_c1s] using this
    have h3 : DataW.trod enc Tryz.prog w 0 spare held n 25 [v3] = some x3 := by
      have := hf 3 _ rfl
      simpa [op_c1l] using this
    obtain ⟨k, e0, rfl, g0⟩ := DataW.trod_int Tryz.underlying3 h0
    obtain ⟨m, e1, rfl, g1⟩ := DataW.trod_int Tryz.underlying2 h1
    obtain ⟨s, e2, rfl, _⟩ := DataW.trod_string Tryz.underlying9 h2
    simp only [List.cons.injEq, and_true] at e0 e1 e2
    subst e0 e1 e2
    have m3 : ∀ p ∈ x3.2, p.block < w.heap.size := fun p hp => hlt p (List.mem_flatMap.2 ⟨x3, by simp, hp⟩)
    have hw : ∀ q ∈ s.data.toList.length :: x3.1.weights Tryz.prog 25, q ≤ 140737488351232 := fun q hq => hfit q (by
      simp only [List.map_cons, List.map_nil, DataW.weights, Tryz.underlying34, DataW.weightsEach, List.nil_append, List.append_nil, List.cons_append]
      exact hq)
    have hs : s.size ≤ 140737488351232 := by
      have := hw _ (List.mem_cons_self ..)
      exact (size_data s) ▸ this
    rcases DataW.trod_slice Tryz.underlying25 h3 with ⟨hcs, rfl⟩ | ⟨a, len, cap, elems, rest, n2, hn2, hcs, rfl, _, hle, hmx, hel, hx, _, _⟩
    · simp only [List.cons.injEq, and_true] at hcs
      subst hcs
      exact ⟨.mk k m s [], none, 0, rfl, ⟨rng_of_wf g0, rng_of_wf g1, hs, by simp [Pl.list]⟩, by unfold Pl.list Pls.lies; trivial⟩
    · simp only [List.cons.injEq, and_true] at hcs
      subst hcs
      have hsl : elems.length * 56 ≤ 140737488351232 := by
        have := hw ((elems.length + rest.length) * 56) (List.mem_cons_of_mem _ (by simp [DataW.weights, Tryz.underlying25, op_b4]))
        omega
      rcases Nat.eq_zero_or_pos len with hz0 | hpos
      · subst hz0
        exact ⟨.mk k m s [], some a, cap, rfl, ⟨rng_of_wf g0, rng_of_wf g1, hs, by simp [Pl.list]⟩, by unfold Pl.list Pls.lies; trivial⟩
      · have hone : ∀ i, i < len → ∃ p : Pl, ∃ A c, p.sane ∧ Pls.lies w w.heap.size p.list A ∧ ∀ j, j < 4 → w.cell? ((a.add (i * 4)).add j) = [Value.int .i64 p.kind, .int .i64 p.num, .string p.text, .slice A p.list.length c][j]? := by
          intro i hi
          have key := hx i hi
          rw [List.getElem?_eq_getElem (by omega), op_c4] at key
          obtain ⟨cs', c1, c2⟩ := Option.bind_eq_some_iff.1 key
          obtain ⟨_, hcl, hcc⟩ := World.cells?_some c1
          have hmem : elems[i]'(by omega) ∈ elems := List.getElem_mem _
          obtain ⟨p, A, c, rfl, hps, hpl⟩ := ih n2 cs' _ (by omega) c2 (fun q hq => m3 q (List.mem_append_right _ (List.mem_flatMap.2 ⟨_, List.mem_append_left _ hmem, hq⟩)))
            (fun q hq => hw q (List.mem_cons_of_mem _ (by
              simp only [DataW.weights, Tryz.underlying25]
              exact List.mem_cons_of_mem _ (List.mem_append_left _ (weightsAll_mem (List.mem_map.2 ⟨_, hmem, rfl⟩) q hq)))))
          exact ⟨p, A, c, hps, hpl, fun j hj => by rw [hcc j hj]⟩
        obtain ⟨p0, A0, c0, _, _, hy0⟩ := hone 0 hpos
        have h00 := hy0 0 (by omega)
        rw [show (a.add (0 * 4)).add 0 = a by simp [Addr.add]] at h00
        obtain ⟨b, o, sp⟩ := a
        have hsp := spot_none (h00.trans (show _ = some (.int .i64 p0.kind) from rfl))
        subst hsp
        have hbl : b < w.heap.size := World.block_lt_of_cell? _ _ (h00.trans (show _ = some (.int .i64 p0.kind) from rfl))
        obtain ⟨l, hll, hlies⟩ := lies_build (w := w) (B := w.heap.size) (b := b) len o (fun i hi => by
          obtain ⟨p, A, c, hps, hpl, hc⟩ := hone i hi
          simp only [add_add_none] at hc
          refine ⟨p, ?_⟩
          obtain ⟨pk, pn, pt, pl⟩ := p
          unfold Pl.lies
          exact ⟨hbl, hc 0 (by omega), hc 1 (by omega), hc 2 (by omega), hps.1, hps.2.1, hps.2.2.1, hps.2.2.2, A, c, hc 3 (by omega), hpl⟩)
        refine ⟨.mk k m s l, some ⟨b, o, none⟩, cap, ?_, ⟨rng_of_wf g0, rng_of_wf g1, hs, ?_⟩, hlies⟩
        · simp [Pl.kind, Pl.num, Pl.text, Pl.list, hll]
        · simp only [Pl.list, hll]
          omega
/-- A slice of plain values, opened. -/
theorem open_plains {H : Type} {enc : TypeId × Value → H} {w : World} {spare : Nat → Bool} {held : Bool} {fuel : Nat} {v : Value} {x : DataW H × List MemPlace}
    (h : DataW.trod enc Tryz.prog w 0 spare held fuel 25 [v] = some x) (hlt : ∀ p ∈ x.2, p.block < w.heap.size) (hfit : Fit 25 x.1) :
    ∃ (l : List Pl) (A : Option Addr) (c : Nat), v = .slice A l.length c ∧ l.length * 56 ≤ 140737488351232 ∧ Pls.lies w w.heap.size l A := by
  rcases DataW.trod_slice Tryz.underlying25 h with ⟨hcs, rfl⟩ | ⟨a, len, cap, elems, rest, n2, hn2, hcs, rfl, _, hle, hmx, hel, hx, _, _⟩
  · simp only [List.cons.injEq, and_true] at hcs
    subst hcs
    exact ⟨[], none, 0, rfl, by simp, by unfold Pls.lies; trivial⟩
  · simp only [List.cons.injEq, and_true] at hcs
    subst hcs
    have hsl : elems.length * 56 ≤ 140737488351232 := by
      have := hfit ((elems.length + rest.length) * 56) (by simp [DataW.weights, Tryz.underlying25, op_b4])
      omega
    rcases Nat.eq_zero_or_pos len with hz0 | hpos
    · subst hz0
      exact ⟨[], some a, cap, rfl, by simp, by unfold Pls.lies; trivial⟩
    · have hone : ∀ i, i < len → ∃ p : Pl, ∃ A c, p.sane ∧ Pls.lies w w.heap.size p.list A ∧ ∀ j, j < 4 → w.cell? ((a.add (i * 4)).add j) = [Value.int .i64 p.kind, .int .i64 p.num, .string p.text, .slice A p.list.length c][j]? := by
        intro i hi
        have key := hx i hi
        rw [List.getElem?_eq_getElem (by omega), op_c4] at key
        obtain ⟨cs', c1, c2⟩ := Option.bind_eq_some_iff.1 key
        obtain ⟨_, hcl, hcc⟩ := World.cells?_some c1
        have hmem : elems[i]'(by omega) ∈ elems := List.getElem_mem _
        obtain ⟨p, A, c, rfl, hps, hpl⟩ := open_plain _ n2 cs' _ (Nat.le_refl _) c2 (fun q hq => hlt q (List.mem_append_right _ (List.mem_flatMap.2 ⟨_, List.mem_append_left _ hmem, hq⟩)))
          (fun q hq => hfit q (by
            simp only [DataW.weights, Tryz.underlying25]
            exact List.mem_cons_of_mem _ (List.mem_append_left _ (weightsAll_mem (List.mem_map.2 ⟨_, hmem, rfl⟩) q hq))))
        exact ⟨p, A, c, hps, hpl, fun j hj => by rw [hcc j hj]⟩
      obtain ⟨p0, A0, c0, _, _, hy0⟩ := hone 0 hpos
      have h00 := hy0 0 (by omega)
      rw [show (a.add (0 * 4)).add 0 = a by simp [Addr.add]] at h00
      obtain ⟨b, o, sp⟩ := a
      have hsp := spot_none (h00.trans (show _ = some (.int .i64 p0.kind) from rfl))
      subst hsp
      have hbl : b < w.heap.size := World.block_lt_of_cell? _ _ (h00.trans (show _ = some (.int .i64 p0.kind) from rfl))
      obtain ⟨l, hll, hlies⟩ := lies_build (w := w) (B := w.heap.size) (b := b) len o (fun i hi => by
        obtain ⟨p, A, c, hps, hpl, hc⟩ := hone i hi
        simp only [add_add_none] at hc
        refine ⟨p, ?_⟩
        obtain ⟨pk, pn, pt, pl⟩ := p
        unfold Pl.lies
        exact ⟨hbl, hc 0 (by omega), hc 1 (by omega), hc 2 (by omega), hps.1, hps.2.1, hps.2.2.1, hps.2.2.2, A, c, hc 3 (by omega), hpl⟩)
      exact ⟨l, some ⟨b, o, none⟩, cap, by rw [hll], by omega, hlies⟩
end Go.Proofs.YtjdpnljaichdmaaGreatDoor

/-
  A row's last lines: arguments read again behind new memory. Conditions: none.
-/
namespace Go.Proofs.YtjdpnljaichdmaaGreatDoor
open Go.RowKit Go.WideShapes Go.ChangeShapes Go.ChangeAt
set_option linter.unusedVariables false

section
variable {H : Type} {enc : TypeId × Value → H} {P : Program}
theorem trodAll_keeps (hl : laidOutB P = true) {W W' : World} {sp : Nat → Bool} (hb : Below W.heap.size W W') : ∀ {ts : List TypeId} {vs : List Value} {ds : List (DataW H)} {ps : List MemPlace},
    ts.all (fun t => P.readableRec t && decide (t < P.types.size)) = true → DataW.TrodAll enc P W 0 (fun _ => true) true ts vs ds ps → (∀ p ∈ ps, p.block < W.heap.size) → (∀ p ∈ ps, sp p.block = true) → DataW.TrodAll enc P W' 0 sp true ts vs ds ps
  | [], vs, ds, ps, _, h, _, _ => by
    obtain ⟨rfl, rfl, rfl⟩ := trodAll_nil h
    exact trodAll_mk0
  | t :: ts, vs, ds, ps, hr, h, hlt, hsp => by
    obtain ⟨v, vs', d, ds', p, q, rfl, rfl, rfl, hd, hds⟩ := trodAll_cons h
    simp only [List.all_cons, Bool.and_eq_true, decide_eq_true_eq] at hr
    refine trodAll_cons_mk (WideElems.Trod_stays hl hr.1.1 hr.1.2 hd (fun x hx => hb.same (hlt x (by simp [hx]))) (fun x hx => hsp x (by simp [hx]))) (trodAll_keeps hl hb hr.2 hds (fun x hx => hlt x (by simp [hx])) (fun x hx => hsp x (by simp [hx])))
end
theorem plLaid : laidOutB Tryz.prog = true := by kernel_rfl
theorem len2 {α : Type} {l : List α} (h : l.length = 2) : ∃ a b, l = [a, b] := by
  match l, h with
  | [a, b], _ => exact ⟨a, b, rfl⟩
theorem add_add_two (b o i j : Nat) : ((⟨b, o, none⟩ : Addr).add i).add j = ⟨b, o + i + j, none⟩ := add_add_none b o i j
end Go.Proofs.YtjdpnljaichdmaaGreatDoor

/-
  What the rows over operations share: a world for the witness, in which the listed tables lie. Conditions: none.
-/
namespace Go.Proofs.YtjdpnljaichdmaaGreatDoor
open Go.ChangeShapes Go.WideShapes Go.ChangeAt Go.RowKit Go.Joins
set_option linter.unusedVariables false
theorem opOwn : ownKnob Tryz.prog.godebug = none := by kernel_rfl
/-- A datum's cells. -/
def opLitV : DataW Unit → Value
  | .lit (.int k n) => .int k n
  | _ => undef
def opFlat1 : DataW Unit → List Value
  | .agg ds => ds.map opLitV
  | d => [opLitV d]
def opFlat2 : DataW Unit → List Value
  | .agg ds => ds.flatMap opFlat1
  | d => [opLitV d]
def opLay (cs : List Value) : Obj → Obj
  | .cells _ t frozen => .cells cs.toArray t frozen
  | o => o
noncomputable def opWorld (os : Os) : World :=
  { World.holding Tryz.prog os ⟨#[], #[], []⟩ with heap := ((World.holding Tryz.prog os ⟨#[], #[], []⟩).heap.modify 2 (opLay (opFlat2 Rows.laid_unicode_utf8_acceptRanges))).modify 1 (opLay (opFlat2 Rows.laid_unicode_utf8_first)) }
def opWit : Array Value := #[.slice none 0 0]
end Go.Proofs.YtjdpnljaichdmaaGreatDoor

/-
  espalierlaw9.light: a walk. Printed by a program of mine (gen_works.py). Conditions: the values lie in memory.
-/
namespace Go.Proofs.YtjdpnljaichdmaaGreatDoor
open Go.RowKit
set_option linter.unusedVariables false

def LightPost9 (ps : List Pl) (w : World) (e : Ending) (w' : World) : Prop := ∃ q, e = .returned (.bool q) ∧ (q = true → ps.length ≤ 2000 ∧ ∀ p ∈ ps, p.isLight = true) ∧ Below w.heap.size w w'
set_option maxRecDepth 100000 in
set_option maxHeartbeats 4000000 in
theorem law9_light (ps : List Pl) (A : Option Addr) (c : Nat) (w : World) (hlen : ps.length * 56 ≤ 140737488351232) (hl : Pls.lies w w.heap.size ps A) :
    Calls Tryz.prog 16 #[.slice A ps.length c] w (LightPost9 ps w) := by
  have HL := Lib.hid hl
  clear hl
  go_enter Tryz.func16, Tryz.ntmps16
  go_wp2
  go_loopw [3, 4] (fun s3 s4 wr => ∃ (k : Nat), k ≤ ps.length ∧ s3 = .int .i64 (k : Int) ∧ s4 = .int .i64 (k : Int) ∧ k ≤ 2000 ∧ (∀ p ∈ ps.take k, p.isLight = true) ∧ Below w.heap.size w wr) (fun _ s4 _ => ps.length - (intOf s4).toNat)
  case atStart => exact ⟨0, Nat.zero_le _, rfl, rfl, by omega, by simp, Below.refl _ _⟩
  case round =>
    obtain ⟨k, hk, rfl, rfl, hk2, hlt1, hbel⟩ := hrel
    have HT := Lib.hid hlt1
    have HB := Lib.hid hbel
    have hws : w.heap.size ≤ wr.heap.size := hbel.size
    clear hlt1 hbel
    by_cases hlt : k < ps.length
    · obtain ⟨b', o', rfl⟩ := HL.out.head (by omega)
      have hlies := (HL.out.below HB.out (by omega : w.heap.size ≤ wr.heap.size)).at_ k hlt
      have hsn := Lib.hid hlies.sane
      obtain ⟨hbb, e0, e1, e2, hlen2, A', c', e3, hll⟩ := hlies.parts
      have KL := Lib.hid (law2_Light ps[k] A' c' wr hsn.out.2.2.1 hsn.out.2.2.2 (hll.below (Below.refl _ _) (Nat.le_refl _)))
      have HT3 := Lib.hid (fun (h : ps[k].isLight = true) => show ∀ p ∈ ps.take (k + 1), p.isLight = true by
        rw [List.take_succ_eq_append_getElem hlt]
        intro p hp
        rcases List.mem_append.1 hp with h1 | h1
        · exact HT.out p h1
        · rw [List.mem_singleton.1 h1]; exact h)
      generalize hp : ps[k] = p at *
      clear hlies hp hll
      unfold Pl.arg at KL
      cases hi : p.isLight
      · rw [hi] at KL
        go_wp2_with fail
        refine KL.out.mono ?_
        rintro e w1 ⟨rfl, hb1⟩
        have HB1 := Lib.hid (HB.out.trans (hb1.mono hws))
        clear hb1 e0 e1 e2 e3 KL
        go_wp2
        go_ret
        exact ⟨false, rfl, by simp, HB1.out⟩
      · rw [hi] at KL
        have HT4 := Lib.hid (HT3.out hi)
        go_wp2_with fail
        refine KL.out.mono ?_
        rintro e w1 ⟨rfl, hb1⟩
        have HB1 := Lib.hid (HB.out.trans (hb1.mono hws))
        clear hb1 e0 e1 e2 e3 KL
        by_cases h2k : k + 1 ≤ 2000
        · have h2k' : decide ((2000 : Int) < (k : Int) + 1) = false := by simp; omega
          go_wp2
          go_roundw
          case rel => exact ⟨k + 1, by omega, by go_num, by go_num, h2k, HT4.out, HB1.out⟩
          case measure => simp [intOf]; omega
        · have h2k' : decide ((2000 : Int) < (k : Int) + 1) = true := by simp; omega
          go_wp2
          go_ret
          exact ⟨false, rfl, by simp, HB1.out⟩
    · have hkl : k = ps.length := by omega
      go_wp2
      go_ret
      refine ⟨true, rfl, fun _ => ⟨by omega, fun p hp => HT.out p ?_⟩, HB.out⟩
      rw [hkl, List.take_length]
      exact hp
end Go.Proofs.YtjdpnljaichdmaaGreatDoor

/-
  espalierlaw9.works: a walk, given what the operation, its reference and Fits come to. Printed by a program of mine (gen_works.py). Conditions: the values lie in memory.
-/
namespace Go.Proofs.YtjdpnljaichdmaaGreatDoor
open Go.RowKit
set_option linter.unusedVariables false

theorem blk9_cells {w : World} {b : Nat} {cs : Array Value} {T : TypeId} {z : Nat × Nat} (h : w.heap[b]? = some (.cells cs T z)) (j : Nat) : w.cell? ⟨b, j, none⟩ = cs[j]? := by simp [World.cell?, h]
theorem blk9_new {w : World} {o : Obj} {n : Nat} (h : w.heap.size = n) : (w.alloc o).heap[n]? = some o := h ▸ heap_alloc_new w o
theorem blk9_free {w : World} {b : Nat} {cs : Array Value} {T : TypeId} (h : w.heap[b]? = some (.cells cs T (0, 0))) (j : Nat) : w.frozen? ⟨b, j, none⟩ = false := by simp [World.frozen?, h]
set_option maxRecDepth 100000 in
set_option maxHeartbeats 8000000 in
theorem law9_works (op : ByteArray) (ps : List Pl) (A : Option Addr) (c : Nat) (w : World) (hlen : ps.length * 56 ≤ 140737488351232) (hl : Pls.lies w w.heap.size ps A)
    {R : Value → Int → ByteArray → World → Prop} {R' : Pl → Option Addr → Nat → Int → ByteArray → World → Prop}
    (HW : (∀ p ∈ ps, p.isLight = true) → ∀ (A : Option Addr) (c : Nat) (w : World), Pls.lies w w.heap.size ps A → Calls Tryz.prog 17 #[.string op, .slice A ps.length c] w (fun e w' => ∃ v n s, e = .returned (.tuple #[v, .int .i64 n, .string s]) ∧ R v n s w' ∧ Below w.heap.size w w'))
    (HR : (∀ p ∈ ps, p.isLight = true) → ∀ (A : Option Addr) (c : Nat) (w : World), Pls.lies w w.heap.size ps A → Calls Tryz.prog 36 #[.string op, .slice A ps.length c] w (fun e w' => ∃ p A' c' n s, e = .returned (.tuple #[p.arg A' c', .int .i64 n, .string s]) ∧ R' p A' c' n s w' ∧ Below w.heap.size w w'))
    (HF : ∀ v n s p A' c' n' s' w1 w2 w3, R v n s w1 → Below w1.heap.size w1 w2 → R' p A' c' n' s' w2 → Below w2.heap.size w2 w3 → s = s' ∧ Calls Tryz.prog 26 #[v, .int .i64 n, p.arg A' c', .int .i64 n'] w3 (Bel (.bool true) w3)) :
    Calls Tryz.prog 15 #[.agg #[.string op, .slice A ps.length c]] w (Bel (.bool true) w) := by
  obtain ⟨i0, hi, hz0, hz1, hz2⟩ := info_plain_parts
  have HL := Lib.hid hl
  have GW := Lib.hid HW
  have GR := Lib.hid HR
  have GF := Lib.hid HF
  clear hl HW HR HF
  have HB0 := Lib.hid ((Below.refl w.heap.size w).alloc (Nat.le_refl _) (.cells #[.string op, .slice A ps.length c] 46))
  have KL0 := Lib.hid (law9_light ps A c _ hlen (HL.out.below HB0.out HB0.out.size))
  have HX0 := Lib.hid (heap_alloc_new w (.cells #[.string op, .slice A ps.length c] 46))
  go_enter Tryz.func15, Tryz.ntmps15
  go_wp2_with fail
  refine KL0.out.mono ?_
  rintro e w1 ⟨q, rfl, hq, hb⟩
  have HB1 := Lib.hid (HB0.out.trans (hb.mono HB0.out.size))
  have HX1 := Lib.hid ((hb.block w.heap.size (by simp)).trans HX0.out)
  clear hb HX0 KL0
  cases q
  · go_wp2
    go_ret
    exact ⟨rfl, HB1.out⟩
  obtain ⟨h2k, hall⟩ := hq rfl
  have HA := Lib.hid hall
  clear hq hall
  go_wp2
  go_loopw [4, 3] (fun s4 s3 wr => ∃ (k : Nat) (us : List PlAt), k ≤ ps.length ∧ s4 = .int .i64 (k : Int) ∧ us.map PlAt.p = ps.take k ∧ TwOwn (w.heap.size + 1) wr s3 us ∧ wr.heap[w.heap.size]? = some (.cells #[.string op, .slice A ps.length c] 46) ∧ Below w.heap.size w wr) (fun s4 _ _ => ps.length - (intOf s4).toNat)
  case atStart => exact ⟨0, [], Nat.zero_le _, rfl, by simp, TwOwn.nil _ _, HX1.out, HB1.out⟩
  case round =>
    obtain ⟨k, us, hk, rfl, hus, hown, hx, hbel⟩ := hrel
    have HU := Lib.hid hus
    have HO := Lib.hid hown
    have HB := Lib.hid hbel
    have HX := Lib.hid hx
    have hxl := lt_of_block hx
    have hws : w.heap.size ≤ wr.heap.size := hbel.size
    have bx := blk9_cells hx
    clear hus hown hbel HX1 HB1 hx
    by_cases hlt : k < ps.length
    · have hul : us.length = k := by have := congrArg List.length HU.out; simpa [Nat.min_eq_left hk] using this
      subst hul
      obtain ⟨b', o', rfl⟩ := HL.out.head (by omega)
      have hlies := (HL.out.below HB.out (by omega : w.heap.size ≤ wr.heap.size)).at_ us.length hlt
      have hsn := Lib.hid hlies.sane
      obtain ⟨hbb, e0, e1, e2, hlen2, A', c', e3, hll⟩ := hlies.parts
      have hli := Lib.hid (HA.out ps[us.length] (List.getElem_mem hlt))
      have HU3 := Lib.hid (fun A1 c1 => show (us ++ [(⟨ps[us.length], A1, c1⟩ : PlAt)]).map PlAt.p = ps.take (us.length + 1) by rw [List.map_append, HU.out, List.take_succ_eq_append_getElem hlt]; rfl)
      have KT := Lib.hid (law2_Twin ps[us.length] A' c' wr hsn.out (hll.below (Below.refl _ _) (Nat.le_refl _)))
      generalize hp : ps[us.length] = p at *
      clear hlies hp hll
      unfold Pl.arg at KT
      go_wp2_with fail
      refine KT.out.mono ?_
      rintro e w2 ⟨A1, c1, rfl, hm, hb2⟩
      have HM := Lib.hid hm
      have HB2 := Lib.hid hb2
      have hs2 := hb2.size
      have HX2 := Lib.hid ((hb2.block _ hxl).trans HX.out)
      clear hm hb2 KT e0 e1 e2 e3 bx
      unfold Pl.arg
      have HB4 := Lib.hid (HB2.out.alloc HB2.out.size (.cells #[.int .i64 p.kind, .int .i64 p.num, .string p.text, .slice A1 p.list.length c1] 34))
      have HT4 : Hid (TwEl (w.heap.size + 1) (w2.alloc (.cells #[.int .i64 p.kind, .int .i64 p.num, .string p.text, .slice A1 p.list.length c1] 34)) (fresh wr (w2.alloc (.cells #[.int .i64 p.kind, .int .i64 p.num, .string p.text, .slice A1 p.list.length c1] 34))) ⟨p, A1, c1⟩) := Lib.hid ⟨hsn.out, fun _ => HM.out.keep (fun b o hs => World.cell?_alloc_lt _ _ _ hs.2) (fun b hs => ⟨hs.1, by rw [size_alloc]; have := hs.2; omega⟩), fun h => absurd (hli.out.symm.trans h) (by decide)⟩
      have hown2 := Lib.hid (own_below HO.out.own HB4.out |>.alloc (.cells (p.cells4 A1 c1).toArray 34))
      have hz4 := Lib.hid (size_alloc w2 (.cells #[.int .i64 p.kind, .int .i64 p.num, .string p.text, .slice A1 p.list.length c1] 34))
      unfold Pl.cells4 at hown2
      go_wp2_with (at_builtin; refine wpList_append_lies _ rfl _ _ 25 rfl (w.heap.size + 1) 34 i0 _ 4 56 Tryz.underlying25 hi hz0 hz1 hz2 rfl (by decide) _ us.length (us.flatMap PlAt.cells) rfl hown2.out ⟨w2.heap.size + 1, 0, none⟩ 1 1 (p.cells4 A1 c1) rfl rfl (World.news_of_block (by exact blk9_new (size_alloc _ _))) (by intro u hu; unfold Pl.cells4 at hu; simp at hu; rcases hu with rfl | rfl | rfl | rfl <;> rfl) (by decide) (by unfold maxLen; omega) (by omega) (by simp; omega) (w2.heap.size + 2) (by simp) ?_)
      intro g cap w3 hown3 hgr3 hat hlt3
      have HO3 := Lib.hid (HO.out.step ⟨p, A1, c1⟩ (by omega) HB4.out HT4.out hgr3 (by rw [hz4.out]; exact hat) hown3)
      have HX3 : Hid (w3.heap[w.heap.size]? = _) := Lib.hid ((hgr3.block _ (by rw [size_alloc, size_alloc]; omega) (fun e => by have := (HO.out.own.lt _ e.symm).1; omega)).trans ((Below.heap_alloc _ _ _ (by rw [size_alloc]; omega)).trans ((Below.heap_alloc _ _ _ (by omega)).trans HX2.out)))
      have HB3 := Lib.hid (((HB.out.trans (HB4.out.mono hws)).alloc (by rw [size_alloc]; omega) _).grown hgr3 (by rw [size_alloc, size_alloc]; omega) (fun q e => by have := (HO.out.own.lt q e).1; omega))
      clear hown3 hgr3 hown2 hat
      go_wp2
      go_roundw
      case rel => exact ⟨us.length + 1, us ++ [(⟨p, A1, c1⟩ : PlAt)], by omega, by go_num, HU3.out _ _, HO3.out, HX3.out, HB3.out⟩
      case measure => simp [intOf]; omega
    · have hps : us.map PlAt.p = ps := by rw [HU.out, List.take_of_length_le (by omega)]
      have hul : us.length = ps.length := by have := congrArg List.length hps; simpa using this
      have hkl : k = ps.length := by omega
      obtain ⟨A2, c2, hv, _⟩ := HO.out.slice
      have HV := Lib.hid hv
      have HL2 := HO.out.lies (by omega) hv
      rw [hps] at HL2
      have KW := Lib.hid (GW.out HA.out A2 c2 wr HL2)
      rw [hul] at hv
      subst hv
      subst hkl
      have HPS := Lib.hid hps
      clear hps HL2 HU hk hlt
      go_wp2_with fail
      refine KW.out.mono ?_
      rintro e w2 ⟨v, n, s, rfl, hR, hb2⟩
      have HB2 := Lib.hid hb2
      have HRR := Lib.hid hR
      have hs2 := hb2.size
      have hx2 := (hb2.block _ hxl).trans HX.out
      have HX2 := Lib.hid hx2
      have bx2 := blk9_cells hx2
      have KR := Lib.hid (GR.out HA.out A c w2 (HL.out.below (HB.out.trans (hb2.mono hws)) (by omega)))
      clear hR hb2 hx2 bx KW GW GR
      go_wp2_with fail
      refine KR.out.mono ?_
      rintro e w3 ⟨p, A', c', n', s', rfl, hR', hb3⟩
      have HB3 := Lib.hid hb3
      have hs3 := hb3.size
      have HX3 := Lib.hid ((hb3.block _ (by omega)).trans HX2.out)
      have HB4 := Lib.hid ((Below.refl w3.heap.size w3).alloc (Nat.le_refl _) (.cells #[.int .i64 p.kind, .int .i64 p.num, .string p.text, .slice A' p.list.length c'] 34))
      obtain ⟨hse, hf⟩ := GF.out v n s p A' c' n' s' w2 w3 _ HRR.out HB3.out hR' HB4.out
      have KF := Lib.hid hf
      subst hse
      clear hR' hb3 bx2 hf KR GF
      unfold Pl.arg at KF ⊢
      go_wp2_with fail
      refine KF.out.mono ?_
      rintro e w5 ⟨rfl, hb5⟩
      have HB5 := Lib.hid (HB3.out.trans ((HB4.out.trans (hb5.mono HB4.out.size)).mono HB3.out.size))
      have HX5 := Lib.hid ((hb5.block _ (by rw [size_alloc]; omega)).trans ((HB4.out.block _ (by omega)).trans HX3.out))
      have hs5 : w2.heap.size ≤ w5.heap.size := HB5.out.size
      have HBW := Lib.hid (HB.out.trans ((HB2.out.trans (HB5.out.mono HB2.out.size)).mono hws))
      have HO5 := Lib.hid ((HO.out.below HB2.out (by omega)).below HB5.out (by omega))
      have hss : (s.toList == s.toList) = true := by simp
      clear hb5 KF HX HO HB HRR HX2 HX3 HB3 HB4 HB5 HB2
      go_wp2
      go_loopw [13, 12] (fun s13 s12 wr => ∃ (k : Nat), k ≤ ps.length ∧ s13 = .int .i64 (k : Int) ∧ s12 = .bool true ∧ Below w5.heap.size w5 wr) (fun s13 _ _ => ps.length - (intOf s13).toNat)
      case atStart => exact ⟨0, Nat.zero_le _, rfl, rfl, Below.refl _ _⟩
      case round =>
      obtain ⟨k, hk, rfl, rfl, hbel⟩ := hrel
      have HB6 := Lib.hid hbel
      have hs6 := hbel.size
      clear hbel
      by_cases hlt : k < ps.length
      · have hu : k < us.length := by omega
        have ho := HO5.out.below HB6.out (by omega)
        have hxw := (HB6.out.block _ (lt_of_block HX5.out)).trans HX5.out
        have bx := blk9_cells hxw
        obtain ⟨A3, c3, e3, hx⟩ := ho.slice
        injection e3 with hA3 hlq hc3
        clear hlq
        subst hA3 hc3
        obtain ⟨g, rfl, hg, hcs⟩ := hx (by omega)
        have hl := HL.out.below (HBW.out.trans (HB6.out.mono HBW.out.size)) (Nat.le_trans HBW.out.size HB6.out.size)
        obtain ⟨b', o', rfl⟩ := hl.head (by omega)
        have hlies := hl.at_ k hlt
        have hlx := Lib.hid (HA.out ps[k] (List.getElem_mem hlt))
        have hpe : ps[k] = us[k].p := by
          have e := HPS.out
          have h1 : (us.map PlAt.p)[k]? = ps[k]? := by rw [e]
          rw [List.getElem?_map, List.getElem?_eq_getElem hu, List.getElem?_eq_getElem hlt] at h1
          exact (Option.some.inj h1).symm
        rw [hpe] at hlies hlx
        clear hpe
        have hsn := Lib.hid hlies.sane
        obtain ⟨hbb, e0, e1, e2, hlen2, A4, c4, e3, hll⟩ := hlies.parts
        have hel := Lib.hid (ho.els us[k] (List.getElem_mem hu))
        have d0 : wr.cell? ⟨g, k * 4, none⟩ = some (.int .i64 us[k].p.kind) := hcs k hu 0 _ rfl
        have d1 : wr.cell? ⟨g, k * 4 + 1, none⟩ = some (.int .i64 us[k].p.num) := hcs k hu 1 _ rfl
        have d2 : wr.cell? ⟨g, k * 4 + 2, none⟩ = some (.string us[k].p.text) := hcs k hu 2 _ rfl
        have d3 : wr.cell? ⟨g, k * 4 + 3, none⟩ = some (.slice us[k].A us[k].p.list.length us[k].c) := hcs k hu 3 _ rfl
        have b1 : wr.cell? ⟨w.heap.size, 1, none⟩ = some (.slice (some ⟨b', o', none⟩) ps.length c) := bx 1
        generalize us[k] = x at *
        have KK := Lib.hid (fun y : Ext wr => law2_Kept x.p x.A A4 x.c c4 y.now hsn.out ((hel.out.2.1 hlx.out).keep (fun b o hs => y.ok.cell (p := ⟨b, o, none⟩) hs.2.1) (fun b hs => Nat.lt_of_lt_of_le hs.2.1 y.ok.size)) (hll.below y.ok y.ok.size))
        unfold Pl.arg at KK
        have E0 := Ext.cell (w := wr) e0
        have E1 := Ext.cell (w := wr) e1
        have E2 := Ext.cell (w := wr) e2
        have E3 := Ext.cell (w := wr) e3
        have D0 := Ext.cell (w := wr) d0
        have D1 := Ext.cell (w := wr) d1
        have D2 := Ext.cell (w := wr) d2
        have D3 := Ext.cell (w := wr) d3
        have B1 := Ext.cell (w := wr) b1
        clear e0 e1 e2 e3 d0 d1 d2 d3 b1 bx hlies hl hll hcs hx ho hel hxw
        go_upto_region 15 with fail
        refine wp_region_ext (by kernel_rfl) (by kernel_rfl) ?_
        go_big_quiet_step (fail)
        go_big_quiet_step (fail)
        go_big_quiet_step (fail)
        go_big_quiet_step (fail)
        go_big_quiet_step (fail)
        go_big_quiet_step (fail)
        go_big_quiet_step (fail)
        go_big_quiet_step (fail)
        go_big_quiet_step (fail)
        go_big_quiet_step ((go_at_call 27; exact Calls.ext_of (KK.out _)))
        go_big_quiet_step (fail)
        refine wpQuiet_nil ?_
        rintro _ ⟨z, rfl⟩
        have HB7 := Lib.hid (HB6.out.trans (z.ok.mono HB6.out.size))
        clear D0 D1 D2 D3 E0 E1 E2 E3 B1 KK
        generalize z.now = w7 at *
        go_wp2
        go_roundw
        case rel => exact ⟨k + 1, by omega, by go_num, rfl, HB7.out⟩
        case measure => simp [intOf]; omega
      · go_wp2
        go_ret
        exact ⟨rfl, HBW.out.trans (HB6.out.mono HBW.out.size)⟩
end Go.Proofs.YtjdpnljaichdmaaGreatDoor

/-
  A call (an operation's name, plain values), as it lies in memory. Plain. Conditions: none.
-/
namespace Go.Proofs.YtjdpnljaichdmaaGreatDoor
open Go.RowKit
set_option linter.unusedVariables false

/-- A call, as it lies in memory. -/
structure CallAt (w : World) (b o : Nat) (op : ByteArray) (ps : List Pl) (A : Option Addr) (c : Nat) : Prop where
  op_ : w.cell? ⟨b, o, none⟩ = some (.string op)
  args : w.cell? ⟨b, o + 1, none⟩ = some (.slice A ps.length c)
  len : ps.length * 56 ≤ 140737488351232
  lies : Pls.lies w w.heap.size ps A
theorem CallAt.below {w w' : World} {b o : Nat} {op : ByteArray} {ps : List Pl} {A : Option Addr} {c : Nat} (h : CallAt w b o op ps A c) (hb : Below w.heap.size w w') : CallAt w' b o op ps A c :=
  ⟨(hb.cell (p := ⟨b, o, none⟩) (World.block_lt_of_cell? _ _ h.op_)).trans h.op_, (hb.cell (p := ⟨b, o + 1, none⟩) (World.block_lt_of_cell? _ _ h.args)).trans h.args, h.len, h.lies.below hb hb.size⟩
end Go.Proofs.YtjdpnljaichdmaaGreatDoor

/-
  What a law's 'made' keeps: handles of literals in a row of its own. Plain. Conditions: none.
-/
namespace Go.Proofs.YtjdpnljaichdmaaGreatDoor
open Go.RowKit
set_option linter.unusedVariables false

/-- Handles of literals, in a row that a call owns. -/
structure KidRow (w : World) (base : Nat) (v : Value) (ks : List Kd) : Prop where
  own : w.ownsRow base 97 1 v ks.length (ks.map Kd.ptr)
  kids : ∀ k ∈ ks, k.at_ w ∧ IsLit k.n
  nil_ : ks = [] → v = .slice none 0 0
theorem KidRow.nil (w : World) (base : Nat) : KidRow w base (.slice none 0 0) [] := ⟨World.ownsRow_nil _ _ _ _, fun k hk => absurd hk List.not_mem_nil, fun _ => rfl⟩
theorem KidRow.below {w w' : World} {base : Nat} {v : Value} {ks : List Kd} (h : KidRow w base v ks) (hb : Below w.heap.size w w') : KidRow w' base v ks := ⟨own_below h.own hb, fun k hk => ⟨(h.kids k hk).1.below hb, (h.kids k hk).2⟩, h.nil_⟩
theorem KidRow.other {w : World} {base : Nat} {v : Value} {ks : List Kd} (h : KidRow w base v ks) {b : Nat} (hb : b < base) : some b ≠ v.ownBlock := fun e => by have := (h.own.lt b e.symm).1; omega
theorem KidRow.push {w w' : World} {base : Nat} {v : Value} {ks : List Kd} (h : KidRow w base v ks) {k : Kd} (hk : k.at_ w) (hl : IsLit k.n) {Y : Obj} (hgr : (w.alloc Y).grownBy w' v.ownBlock) {g cap : Nat}
    (hown : w'.ownsRow base 97 1 (.slice (some ⟨g, 0, none⟩) (ks.length + 1) cap) (ks.length + 1) (ks.map Kd.ptr ++ [k.ptr])) : KidRow w' base (.slice (some ⟨g, 0, none⟩) (ks.length + 1) cap) (ks ++ [k]) := by
  have hne : ∀ q : Kd, q.at_ w → v.ownBlock ≠ some q.blk := fun q hq e => by
    rcases h.own.2 with ⟨e2, _⟩ | ⟨g', cap', cur, e1, e2, e3, _⟩
    · rw [e2] at e; cases e
    · rw [e1] at e
      have e5 : g' = q.blk := by simpa [Value.ownBlock] using e
      rw [e5, hq.1] at e3
      injection e3 with e3
      injection e3 with _ e6 _
      exact absurd e6 (by decide)
  have hat : ∀ q : Kd, q.at_ w → q.at_ w' := fun q hq => ⟨by rw [hgr.block q.blk (by rw [size_alloc]; have := hq.lt; omega) (Ne.symm (hne q hq)), Below.heap_alloc _ _ _ hq.lt]; exact hq.1, hq.2⟩
  refine ⟨by simpa using hown, fun q hq => ?_, fun e => absurd e (by simp)⟩
  rcases List.mem_append.1 hq with h1 | h1
  · exact ⟨hat q (h.kids q h1).1, (h.kids q h1).2⟩
  · rw [List.mem_singleton.1 h1]; exact ⟨hat k hk, hl⟩
theorem KidRow.kidsIn {w : World} {base : Nat} {v : Value} {ks : List Kd} (h : KidRow w base v ks) : ∃ A c, v = .slice A ks.length c ∧ KidsIn w ks A ∧ (ks = [] → A = none ∧ c = 0) := by
  obtain ⟨A, c, e, hv⟩ := own_vals h.own (by simp)
  refine ⟨A, c, e, ⟨hv.keep (fun _ _ _ => rfl) (fun b hb => hb.2), fun k hk => (h.kids k hk).1⟩, fun e0 => ?_⟩
  have := h.nil_ e0
  rw [e] at this
  injection this with h1 h2 h3
  exact ⟨h1, h3⟩
/-- What 'made' gives: a node, in memory. -/
def MadePost (kind text : ByteArray) (n : Nat) (T : TypeId) (w : World) (e : Ending) (w' : World) : Prop :=
  ∃ (nb : Nat) (vs : List Value), vs.length = n ∧ e = .returned (.iface T (.pointer (some ⟨nb, 0, none⟩))) ∧ NodeAt w' (· < w'.heap.size) nb kind text vs (extra T text) ∧ Below w.heap.size w w'
end Go.Proofs.YtjdpnljaichdmaaGreatDoor

/-
  espalierlaw9.made: a node of a kit's kind over some literals: a walk. Printed by a program of mine (gen_made.py). Conditions: the kit lies in memory, its maker gives what the row says.
-/
namespace Go.Proofs.YtjdpnljaichdmaaGreatDoor
open Go.RowKit
set_option linter.unusedVariables false

set_option maxRecDepth 100000 in
set_option maxHeartbeats 8000000 in
theorem law9_made {w : World} {M KB : Nat} {name : ByteArray} {vv : Value} {ts : List RowAt} {f : FuncId} (h : KitIn w M KB name (.func (.func f) #[] #[]) vv ts) (hlen : ts.length ≤ 1000000) (k : Nat) (hk : k < ts.length) (hdis : ∀ j (h : j < k), (ts[j]'(by omega)).row.kind ≠ ts[k].row.kind)
    {s : ByteArray} {T : TypeId} {B : Nat → Bool} (n : Nat) (hn : n ≤ 1000) (hm : ∀ ks : List Kd, ks.length = n → (∀ k ∈ ks, SameKid k) → MakeOk ts[k].row s ks f T B) :
    Calls Tryz.prog 35 #[.pointer (some ⟨KB, 0, none⟩), .agg #[.string ts[k].row.kind, .int .i64 0, .string s, .slice none 0 0], .int .i64 (n : Int)] w (MadePost ts[k].row.kind s n T w) := by
  obtain ⟨i0, hi, hz0, hz1, hz2⟩ := info_handle
  have HR := Lib.hid (fun (w' : World) (hb : Below w.heap.size w w') (ks : List Kd) (e : ks.length = n) (hs : ∀ k ∈ ks, SameKid k) (A : Option Addr) (c : Nat) (h0 : ks = [] → A = none ∧ c = 0) (hk' : KidsIn w' ks A) => kit_Make (v := ByteArray.empty) (h.below hb) hlen k hk hdis (hm ks e hs) (.slice none 0 0) ⟨_, _, _, rfl⟩ A c h0 hk')
  clear h hlen hdis hm
  generalize ts[k].row.kind = kind at *
  go_enter Tryz.func35, Tryz.ntmps35
  go_wp2
  have HX0 := heap_alloc_new w (.cells #[.string kind, .int .i64 0, .string s, .slice none 0 0] 59)
  have HB0 := (Below.refl w.heap.size w).alloc (Nat.le_refl _) (.cells #[.string kind, .int .i64 0, .string s, .slice none 0 0] 59)
  go_loopw [8, 7] (fun s8 s7 wr => ∃ ks : List Kd, ks.length ≤ n ∧ s8 = .int .i64 (ks.length : Int) ∧ KidRow wr (w.heap.size + 1) s7 ks ∧ wr.heap[w.heap.size]? = some (.cells #[.string kind, .int .i64 0, .string s, .slice none 0 0] 59) ∧ Below w.heap.size w wr) (fun s8 _ _ => n - (intOf s8).toNat)
  case atStart => exact ⟨[], Nat.zero_le _, rfl, KidRow.nil _ _, HX0, HB0⟩
  case round =>
    obtain ⟨ks, hle, rfl, hrow, hx, hbel⟩ := hrel
    have HO := Lib.hid hrow
    have HX := Lib.hid hx
    have HB := Lib.hid hbel
    have hxl := lt_of_block hx
    have hws := hbel.size
    clear hrow hx hbel HX0 HB0
    have hlen : Hid (ks.length = ks.length) := Lib.hid rfl
    by_cases hlt : ks.length < n
    · have KM := Lib.hid (node_Make wr)
      unfold yesTree at KM
      go_wp2_with fail
      refine KM.out.mono ?_
      rintro e w2 ⟨kd, rfl, hkb, hka, hlit, hb2⟩
      have HKA := Lib.hid hka
      have HLI := Lib.hid hlit
      have HB2 := Lib.hid (HB.out.trans (hb2.mono hws))
      have HX2 := Lib.hid ((hb2.block _ hxl).trans HX.out)
      have HO2 := Lib.hid (HO.out.below hb2)
      have HN2 := Lib.hid HO2.out.own
      have hs2 : w.heap.size < w2.heap.size := Nat.lt_of_lt_of_le hxl hb2.size
      clear hka hlit hkb hb2 KM HO HX
      unfold Kd.ptr
      go_wp2_with (at_builtin; refine wpList_append_lies _ rfl _ _ 96 rfl (w.heap.size + 1) 97 i0 _ 1 8 Tryz.underlying96 hi hz0 hz1 hz2 rfl (by decide) _ ks.length (ks.map Kd.ptr) rfl (HN2.out.alloc _) ⟨w2.heap.size, 0, none⟩ 1 1 [.pointer (some ⟨kd.blk, 0, none⟩)] rfl rfl (one_new w2 _ _) (by simp [Value.oneCell']) (by decide) (by unfold maxLen; omega) (by omega) (by simp; omega) (w2.heap.size + 1) (by simp) ?_)
      intro g cap w3 hown3 hgr3 hat hlt3
      have HO3 := Lib.hid (HO2.out.push HKA.out HLI.out hgr3 hown3)
      have HX3 : Hid (w3.heap[w.heap.size]? = _) := Lib.hid ((hgr3.block _ (by rw [size_alloc]; omega) (HO2.out.other (Nat.lt_succ_self _))).trans ((Below.heap_alloc _ _ _ hs2).trans HX2.out))
      have HB3 := Lib.hid ((HB2.out.alloc HB2.out.size _).grown hgr3 (by rw [size_alloc]; omega) (fun q e => by have := (HN2.out.lt q e).1; omega))
      clear hown3 hgr3 hat
      go_wp2
      go_roundw
      case rel => exact ⟨ks ++ [kd], by simp; omega, by simp, by simpa using HO3.out, HX3.out, HB3.out⟩
      case measure => simp [intOf]; omega
    · have heq : ks.length = n := by omega
      obtain ⟨A, c, rfl, hki, h0⟩ := HO.out.kidsIn
      have KK := Lib.hid (HR.out wr HB.out ks heq (fun k hk => same_lit (HO.out.kids k hk).2) A c h0 hki)
      have t0 := fun j => show wr.cell? ⟨w.heap.size, j, none⟩ = (#[.string kind, .int .i64 0, .string s, .slice none 0 0] : Array Value)[j]? by simp [World.cell?, HX.out]
      have hl : (ks.map Kd.n).length = n := by simpa using heq
      rw [heq] at KK
      clear hki h0 HO HR
      generalize ks.map Kd.n = vs at *
      go_wp2_with fail
      refine KK.out.mono ?_
      rintro e w2 ⟨kd, nb, rfl, hkb, hkn, hka, hno, hb2⟩
      have KN := Lib.hid (node_Node kd w2 hka)
      rw [hkn] at KN
      have HNO := Lib.hid hno
      have HB2 := Lib.hid (HB.out.trans (hb2.mono hws))
      clear hkb hkn hka hno hb2 KK t0
      generalize kd.blk = kb at *
      go_wp2_with fail
      refine KN.out.mono ?_
      rintro e w3 ⟨rfl, rfl⟩
      go_wp2
      go_ret
      exact ⟨nb, vs, hl, rfl, HNO.out, HB2.out⟩
end Go.Proofs.YtjdpnljaichdmaaGreatDoor

/-
  truth.sort, truth.signs: walks, at some kinds. Written by a program of mine (gen_signs.py). Conditions: none.
-/
namespace Go.Proofs.YtjdpnljaichdmaaGreatDoor
open Go.RowKit
set_option linter.unusedVariables false

theorem truth_sort (s : ByteArray) (w : World) : Calls Tryz.prog 102 #[.string s] w (Bel (.agg #[.string s, .slice none 0 0]) w) := by
  have H0 := Lib.hid ((Below.refl w.heap.size w).alloc (Nat.le_refl _) (.cells #[.string s, .slice none 0 0] 149))
  go_enter Tryz.func102, Tryz.ntmps102
  go_wp2
  refine bodyPost_ret (fn := Tryz.f102) (v := .agg #[.string s, .slice none 0 0]) (results_cell (p := 2) (ty := 149) (a := ⟨w.heap.size, 0, none⟩) Tryz.results102 rfl (run_loadVar_row (P := Tryz.prog) _ _ _ 149 _ _ _ (heap_alloc_new w _) Tryz.underlying149 rfl (by kernel_rfl))) rfl ⟨rfl, H0.out⟩
set_option maxRecDepth 100000 in
set_option maxHeartbeats 4000000 in
theorem truth_signs_if (w : World) : Calls Tryz.prog 80 #[.string ⟨#[116, 114, 117, 116, 104, 46, 105, 102]⟩] w (SigPost w) := by
  have H0 := Lib.hid ((Below.refl w.heap.size w).alloc (Nat.le_refl _) (.cells #[.slice none 0 0, .bool false, .string ⟨#[]⟩, .slice none 0 0, .string ⟨#[]⟩, .slice none 0 0] 151))
  go_enter Tryz.func80, Tryz.ntmps80
  go_wp2_with fail
  refine (truth_sort _ _).mono ?_
  rintro e w1 ⟨rfl, hb1⟩
  have H1 := Lib.hid (H0.out.trans (hb1.mono H0.out.size))
  have hx1 := (hb1.block w.heap.size (by simp)).trans (heap_alloc_new w _)
  have hl1 := lt_of_block hx1
  have HX1 := Lib.hid hx1
  clear hb1 hx1
  go_wp2_with fail
  refine (truth_sort _ _).mono ?_
  rintro e w2 ⟨rfl, hb2⟩
  have H2 := Lib.hid (H1.out.trans (hb2.mono H1.out.size))
  have hx2 := (hb2.block w.heap.size hl1).trans HX1.out
  have hl2 := lt_of_block hx2
  have HX2 := Lib.hid hx2
  have f2 : ∀ j, w2.cell? ⟨w.heap.size, j, none⟩ = (#[.slice none 0 0, .bool false, .string ⟨#[]⟩, .slice none 0 0, .string ⟨#[]⟩, .slice none 0 0] : Array Value)[j]? := fun j => by simp [World.cell?, hx2]
  have g2 : ∀ j, w2.frozen? ⟨w.heap.size, j, none⟩ = false := fun j => by simp [World.frozen?, hx2]
  have hx3 : ∀ (X Y Z : Obj), (((w2.alloc X).alloc Y).alloc Z).heap[w.heap.size]? = some (.cells #[.slice none 0 0, .bool false, .string ⟨#[]⟩, .slice none 0 0, .string ⟨#[]⟩, .slice none 0 0] 151) := fun X Y Z => by
    rw [Below.heap_alloc _ _ _ (by rw [size_alloc, size_alloc]; omega), Below.heap_alloc _ _ _ (by rw [size_alloc]; omega), Below.heap_alloc _ _ _ hl2]; exact hx2
  have f3 : ∀ (X Y Z : Obj) j, (((w2.alloc X).alloc Y).alloc Z).cell? ⟨w.heap.size, j, none⟩ = (#[.slice none 0 0, .bool false, .string ⟨#[]⟩, .slice none 0 0, .string ⟨#[]⟩, .slice none 0 0] : Array Value)[j]? := fun X Y Z j => by simp [World.cell?, hx3]
  have g3 : ∀ (X Y Z : Obj) j, (((w2.alloc X).alloc Y).alloc Z).frozen? ⟨w.heap.size, j, none⟩ = false := fun X Y Z j => by simp [World.frozen?, hx3]
  have HX3 := Lib.hid hx3
  have hs2 := H2.out.size
  clear hb2 hx2 hx3 f2 g2
  go_wp2
  refine bodyPost_ret (fn := Tryz.f80) (v := .agg #[_, _, _, _, _, _]) (results_cell (p := 2) (ty := 151) (a := ⟨w.heap.size, 0, none⟩) Tryz.results80 rfl (run_loadVar_row (P := Tryz.prog) _ _ _ 151 _ _ _ (blk_set (blk_set (blk_set (blk_set (blk_set (blk_set (HX3.out _ _ _) 0 _) 1 _) 2 _) 3 _) 4 _) 5 _) Tryz.underlying151 rfl (by kernel_rfl))) rfl ⟨_, rfl, ⟨_, _, _, _, _, _, _, _, _, _, _, _, rfl⟩, ?_⟩
  exact (((((((((H2.out.alloc (by omega) _).alloc (by rw [size_alloc]; omega) _).alloc (by rw [size_alloc, size_alloc]; omega) _).setCell (p := ⟨w.heap.size, 0, none⟩) (Nat.le_refl _) _).setCell (p := ⟨w.heap.size, 1, none⟩) (Nat.le_refl _) _).setCell (p := ⟨w.heap.size, 2, none⟩) (Nat.le_refl _) _).setCell (p := ⟨w.heap.size, 3, none⟩) (Nat.le_refl _) _).setCell (p := ⟨w.heap.size, 4, none⟩) (Nat.le_refl _) _).setCell (p := ⟨w.heap.size, 5, none⟩) (Nat.le_refl _) _)
end Go.Proofs.YtjdpnljaichdmaaGreatDoor

/-
  truth.made at 'truth.if': a walk. Written by a program of mine (gen_maker.py). Conditions: the kids lie in memory.
-/
namespace Go.Proofs.YtjdpnljaichdmaaGreatDoor
open Go.RowKit
set_option linter.unusedVariables false

set_option maxRecDepth 100000 in
set_option maxHeartbeats 8000000 in
theorem mk_truth_if (s : ByteArray) (ks : List Kd) (hks : ks.length ≤ 1000) : Makes 52 ⟨#[116, 114, 117, 116, 104, 46, 105, 102]⟩ s ks 197 := by
  intro A c w hk
  have HK := Lib.hid hk
  clear hk
  go_enter Tryz.func52, Tryz.ntmps52
  go_wp2
  have HX0 := Lib.hid (heap_alloc_new w (.cells #[.string ⟨#[116, 114, 117, 116, 104, 46, 105, 102]⟩, .int .i64 0, .string s, .slice none 0 0] 59))
  have HB0 := Lib.hid ((Below.refl w.heap.size w).alloc (Nat.le_refl _) (.cells #[.string ⟨#[116, 114, 117, 116, 104, 46, 105, 102]⟩, .int .i64 0, .string s, .slice none 0 0] 59))
  have hz0 : w.heap.size < (w.alloc (.cells #[.string ⟨#[116, 114, 117, 116, 104, 46, 105, 102]⟩, .int .i64 0, .string s, .slice none 0 0] 59)).heap.size := by simp
  generalize w.alloc (.cells #[.string ⟨#[116, 114, 117, 116, 104, 46, 105, 102]⟩, .int .i64 0, .string s, .slice none 0 0] 59) = w1 at *
  have KL : ∀ wr, Below w1.drew.heap.size w1.drew wr → Calls Tryz.prog 61 #[.agg #[.string ⟨#[116, 114, 117, 116, 104, 46, 105, 102]⟩, .int .i64 0, .string s, .slice none 0 0], .slice A ks.length c] wr (LayPost ⟨#[116, 114, 117, 116, 104, 46, 105, 102]⟩ 0 s (ks.map Kd.n) wr) := fun wr hb => node_Lay _ 0 s _ ks A c wr ⟨_, _, _, rfl⟩ (by omega) ((HK.out.below HB0.out).below ((Below.refl w1.heap.size w1).drew.trans hb))
  refine wp_region_inva (fun a0 L a wr => ∃ X Y Ay k cs, MkJ { B0 := w1.drew.heap.size, W0 := w1.drew, a0 := a0, D := [7, 8, 9, 10, 11, 12, 13, 5, 6], d0 := 7, d1 := 8, d2 := 9, d3 := 10, d4 := 11, d5 := 12, d6 := 13, sX := 5, sY := 6, v0 := .agg #[.string ⟨#[116, 114, 117, 116, 104, 46, 105, 102]⟩, .int .i64 0, .string s, .slice none 0 0], v1 := .slice A ks.length c, v3 := .pointer (some ⟨w.heap.size, 0, none⟩), v4 := .string ⟨#[116, 114, 117, 116, 104, 46, 105, 102]⟩, kind := ⟨#[116, 114, 117, 116, 104, 46, 105, 102]⟩, text := s, vs := ks.map Kd.n, TY := 153, zY := #[.slice none 0 0, .bool false, .string ⟨#[]⟩, .slice none 0 0, .string ⟨#[]⟩, .slice none 0 0], ok := SigOk } X Y Ay k cs (fun i => L.getD i false = true) a wr) (by kernel_rfl) ?_ ?_ ?_
  · refine ⟨0, 0, none, 0, #[], { agree := Agree.refl _ _, bel := Below.refl _ _, f0 := fun h => (start_no h).elim, f1 := fun h => (start_no h).elim, f2 := fun h => (start_no h).elim, g2 := fun h => (start_no h).elim, f3 := fun h => (start_no h).elim, f4 := fun h => (start_no h).elim, f5 := fun h => (start_no h).elim, g5 := fun h => (start_no h).elim, f6 := fun h => (start_no h).elim, f7 := fun h => (start_no h).elim, g7 := fun h => (start_no h).elim, z7 := fun h => (start_no h).elim, x7 := fun h => (start_no h).elim, f8 := fun h => (start_no h).elim, g8 := fun h => (start_no h).elim, z8 := fun h => (start_no h).elim, x8 := fun h => (start_no h).elim, xy := fun h => (start_no h).elim, d6_ := fun h => (start_no h).elim, d9 := fun h => (start_no h).elim, d10 := fun h => (start_no h).elim }⟩
  · rintro L a wr i o hs ⟨X, Y, Ay, k, cs, h⟩ ho hl hd
    have hi : i < 11 := (Array.getElem?_eq_some_iff.1 ho).1
    have hs' : i < L.size := by rw [hs]; exact hi
    have hp := not_yet hs' hl
    have hB := h.bel.size
    have hxz : wr.heap[w.heap.size]? = _ := (h.bel.block w.heap.size hz0).trans HX0.out
    rw [set_fun hs']
    have hcases : i = 0 ∨ i = 1 ∨ i = 2 ∨ i = 3 ∨ i = 4 ∨ i = 5 ∨ i = 6 ∨ i = 7 ∨ i = 8 ∨ i = 9 ∨ i = 10 := by omega
    refine ⟨?_, ?_⟩
    · rcases hcases with rfl | rfl | rfl | rfl | rfl | rfl | rfl | rfl | rfl | rfl | rfl <;> (cases ho; rfl)
    have hS : ∀ a0 : Act, a0.tmps.size = 38 → MkS { B0 := w1.drew.heap.size, W0 := w1.drew, a0 := a0, D := [7, 8, 9, 10, 11, 12, 13, 5, 6], d0 := 7, d1 := 8, d2 := 9, d3 := 10, d4 := 11, d5 := 12, d6 := 13, sX := 5, sY := 6, v0 := .agg #[.string ⟨#[116, 114, 117, 116, 104, 46, 105, 102]⟩, .int .i64 0, .string s, .slice none 0 0], v1 := .slice A ks.length c, v3 := .pointer (some ⟨w.heap.size, 0, none⟩), v4 := .string ⟨#[116, 114, 117, 116, 104, 46, 105, 102]⟩, kind := ⟨#[116, 114, 117, 116, 104, 46, 105, 102]⟩, text := s, vs := ks.map Kd.n, TY := 153, zY := #[.slice none 0 0, .bool false, .string ⟨#[]⟩, .slice none 0 0, .string ⟨#[]⟩, .slice none 0 0], ok := SigOk } := fun a0 h0 => ⟨fun i hi => by
      simp only [List.mem_cons, List.not_mem_nil, or_false] at hi
      rcases hi with rfl | rfl | rfl | rfl | rfl | rfl | rfl | rfl | rfl <;> exact ⟨by simp, by rw [h0]; decide⟩, by show List.Nodup [7, 8, 9, 10, 11, 12, 13, 5, 6]; decide⟩
    rcases hcases with rfl | rfl | rfl | rfl | rfl | rfl | rfl | rfl | rfl | rfl | rfl
    · cases ho
      exact wp_load1 rfl ((h.agree.same 2 (by simp)).trans rfl) (run_loadVar_row (P := Tryz.prog) _ _ _ 59 _ _ _ hxz Tryz.underlying59 rfl (by kernel_rfl)) ⟨X, Y, Ay, k, cs, h.s0 (hS _ (by rfl)) hp (grown_refl wr) h.bel hB rfl⟩
    · cases ho
      exact wp_move1 rfl ((h.agree.same 1 (by simp)).trans rfl) ⟨X, Y, Ay, k, cs, h.s1 (hS _ (by rfl)) hp (grown_refl wr) h.bel hB rfl⟩
    · cases ho
      have e0 := h.f0 (hd { on := 0, ground := .data } (by simp) (by rfl))
      have e1 := h.f1 (hd { on := 1, ground := .data } (by simp) (by rfl))
      refine wp_call1 (vs := #[.agg #[.string ⟨#[116, 114, 117, 116, 104, 46, 105, 102]⟩, .int .i64 0, .string s, .slice none 0 0], .slice A ks.length c]) rfl ?_ (by kernel_rfl) ((KL wr h.bel).mono ?_)
      · simp only [List.map_toArray, List.map_cons, List.map_nil, Act.eval]
        rw [e0, e1]
      · rintro e w' ⟨A', k', rfl, hv, hb⟩
        exact ⟨_, rfl, X, Y, A', k', cs, h.s2 (hS _ (by rfl)) hp (grown_below hb) (h.bel.trans (hb.mono hB)) hB (by simp [MkC.lay]) hv⟩
    · cases ho
      exact wp_field rfl ((h.agree.same 2 (by simp)).trans rfl) (by go_simp) ⟨X, Y, Ay, k, cs, h.s3 (hS _ (by rfl)) hp (grown_refl wr) h.bel hB rfl⟩
    · cases ho
      have e3 := h.f3 (hd { on := 3, ground := .data } (by simp) (by rfl))
      have hc : wr.cell? ⟨w.heap.size, 0, none⟩ = some (.string ⟨#[116, 114, 117, 116, 104, 46, 105, 102]⟩) := by simp [World.cell?, hxz]
      exact wp_load1 rfl e3 (by go_simp) ⟨X, Y, Ay, k, cs, h.s4 (hS _ (by rfl)) hp (grown_refl wr) h.bel hB rfl⟩
    · cases ho
      have e4 := h.f4 (hd { on := 4, ground := .data } (by simp) (by rfl))
      refine wp_call1 (vs := #[.string ⟨#[116, 114, 117, 116, 104, 46, 105, 102]⟩]) rfl ?_ (by kernel_rfl) ((truth_signs_if wr).mono ?_)
      · simp only [List.map_toArray, List.map_cons, List.map_nil, Act.eval]
        rw [e4]
      · rintro e w' ⟨cs', rfl, hok, hb⟩
        exact ⟨_, rfl, X, Y, Ay, k, cs', h.s5 (hS _ (by rfl)) hp (grown_below hb) (h.bel.trans (hb.mono hB)) hB rfl hok⟩
    · cases ho
      have d5 := hd { on := 5, ground := .data } (by simp) (by rfl)
      have e5 := h.f5 d5
      obtain ⟨A1, n1, c1, b1, x1, A2, n2, c2, y1, A3, n3, c3, rfl⟩ := h.g5 d5
      have hbt : Tryz.prog.built 153 ((#[((0 : Nat), Operand.tmp 12)].map fun (i, x) => (i, a.eval x)).toList) = some #[.slice A1 n1 c1, .bool b1, .string x1, .slice A2 n2 c2, .string y1, .slice A3 n3 c3] := by
        simp only [List.map_toArray, List.map_cons, List.map_nil, Act.eval]
        rw [e5]
        kernel_rfl
      exact wp_build 153 #[(0, .tmp 12)] rfl (by rw [hbt]; rfl) (by rw [hbt]; exact ⟨X, Y, Ay, k, _, h.s6 (hS _ (by rfl)) hp (grown_refl wr) h.bel hB d5 rfl⟩)
    · cases ho
      exact wp_alloc_run rfl (by kernel_rfl) ⟨wr.heap.size, Y, Ay, k, cs, h.s7 (hS _ (by rfl)) hp (grown_below ((Below.refl wr.heap.size wr).alloc (Nat.le_refl _) _)) (h.bel.alloc hB _) hB rfl (heap_alloc_new wr (.cells zBase 122))⟩
    · cases ho
      exact wp_alloc_run rfl (by kernel_rfl) ⟨X, wr.heap.size, Ay, k, cs, h.s8 (hS _ (by rfl)) hp (grown_below ((Below.refl wr.heap.size wr).alloc (Nat.le_refl _) _)) (h.bel.alloc hB _) hB rfl (heap_alloc_new wr (.cells #[.slice none 0 0, .bool false, .string ⟨#[]⟩, .slice none 0 0, .string ⟨#[]⟩, .slice none 0 0] 153))⟩
    · cases ho
      have d7 := hd { on := 7, ground := .data } (by simp) (by rfl)
      have d2 := hd { on := 2, ground := .data } (by simp) (by rfl)
      have hz := h.z7 d7 hp
      exact wp_store_row 122 (.tmp 5) (.tmp 9) rfl X _ (h.f7 d7) (h.f2 d2) 122 _ hz (by kernel_rfl) rfl (by simp [MkC.lay, Value.oneCell']) ⟨X, Y, Ay, k, cs, h.s9 (hS _ (by rfl)) hp (grown_row wr X _) (h.bel.grown (grown_row wr X _) hB (fun q e => by injection e with e; subst e; exact (h.g7 d7).1)) hB d2 d7 (setRow_heap _ _ _ _ _ _ hz)⟩
    · cases ho
      have d8 := hd { on := 8, ground := .data } (by simp) (by rfl)
      have d6 := hd { on := 6, ground := .data } (by simp) (by rfl)
      have hz := h.z8 d8 hp
      obtain ⟨A1, n1, c1, b1, x1, A2, n2, c2, y1, A3, n3, c3, rfl⟩ := h.g5 (h.d6_ d6)
      exact wp_store_row 153 (.tmp 6) (.tmp 13) rfl Y _ (h.f8 d8) (h.f6 d6) 153 _ hz (by kernel_rfl) rfl (by simp [Value.oneCell']) ⟨X, Y, Ay, k, _, h.s10 (hS _ (by rfl)) hp (grown_row wr Y _) (h.bel.grown (grown_row wr Y _) hB (fun q e => by injection e with e; subst e; exact (h.g8 d8).1)) hB d6 d8 (setRow_heap _ _ _ _ _ _ hz)⟩
  · rintro L a w2 hs ⟨X, Y, Ay, k, cs, h⟩ hr
    have hall := ready_all (by kernel_rfl) hs hr
    have hx := h.x7 (hall 9 (by decide))
    have hy := h.x8 (hall 10 (by decide))
    have h5 := h.f7 (hall 7 (by decide))
    have h6 := h.f8 (hall 8 (by decide))
    obtain ⟨A1, n1, c1, b1, x1, A2, n2, c2, y1, A3, n3, c3, rfl⟩ := h.g5 (hall 5 (by decide))
    have hv := h.g2 (hall 2 (by decide))
    have hwz : w2.heap[w.heap.size]? = _ := (h.bel.block w.heap.size hz0).trans HX0.out
    have HB2 := Lib.hid (HB0.out.trans (((Below.refl w1.heap.size w1).drew.trans h.bel).mono HB0.out.size))
    have HV : Hid (ValsIn w2 (fresh w w2) (ks.map Kd.n) Ay) := Lib.hid (hv.keep (fun _ _ _ => rfl) (fun b hb => ⟨by have h1 : w1.heap.size ≤ b := hb.1; have := HB0.out.size; omega, hb.2.1⟩))
    have e := h.agree.eq
    rw [e]
    simp only [List.foldr_cons, List.foldr_nil, h5, h6]
    generalize a.tmps.getD 7 undef = q7
    generalize a.tmps.getD 8 undef = q8
    generalize a.tmps.getD 9 undef = q9
    generalize a.tmps.getD 10 undef = q10
    generalize a.tmps.getD 11 undef = q11
    generalize a.tmps.getD 12 undef = q12
    generalize a.tmps.getD 13 undef = q13
    have hxl := lt_of_block hx
    have hyl := lt_of_block hy
    have hzl := lt_of_block hwz
    have xc := fun j => show w2.cell? ⟨X, j, none⟩ = (#[.string ⟨#[116, 114, 117, 116, 104, 46, 105, 102]⟩, .int .i64 0, .string s, .slice Ay (ks.map Kd.n).length k] : Array Value)[j]? by simp [World.cell?, hx, MkC.lay]
    have yc := fun j => show w2.cell? ⟨Y, j, none⟩ = (#[.slice A1 n1 c1, .bool b1, .string x1, .slice A2 n2 c2, .string y1, .slice A3 n3 c3] : Array Value)[j]? by simp [World.cell?, hy]
    have zc := fun j => show w2.cell? ⟨w.heap.size, j, none⟩ = (#[.string ⟨#[116, 114, 117, 116, 104, 46, 105, 102]⟩, .int .i64 0, .string s, .slice none 0 0] : Array Value)[j]? by simp [World.cell?, hwz]
    have hmf : ∀ (fn : Fn) (first cap : Array Value) (w : World), (Instr.makeFunc fn first cap).run Tryz.prog w = .ok (.func fn first cap) w := fun _ _ _ _ => rfl
    have hstf : ∀ (a : Addr) (F : FuncId) (cap : Array Value) (w : World), (store a (.func (.func F) #[] cap)).run Tryz.prog w = stored Tryz.prog w a (.func (.func F) #[] cap) .plain := fun a F cap w => run_store Tryz.prog w a _ .plain rfl
    clear hx hy hv hwz e h hall h5 h6 hr hs KL
    have HE := Lib.hid (fun (w3 : World) (nb : Nat) (X : Obj) (T : TypeId) (h23 : Below w2.heap.size w2 w3) (hn : w2.heap.size ≤ nb) (n : Nat) => mk_end (X := X) (n := n) (kind := ⟨#[116, 114, 117, 116, 104, 46, 105, 102]⟩) (s := s) (k := k) (T := T) (nb := nb) (w3 := w3) HB2.out h23 HV.out hn)
    rw [List.length_map] at xc HE
    go_wp2_with fail
    refine (node_Of _ _ _).mono ?_
    rintro e w3 ⟨rfl, rfl⟩
    go_wp2
    go_ret
    exact HE.out _ _ _ _ (Below.alloc (Below.refl _ _) (Nat.le_refl _) _) (Nat.le_refl _) _ (size_alloc _ _) (heap_alloc_new _ _) ⟨_, _, rfl⟩
end Go.Proofs.YtjdpnljaichdmaaGreatDoor

/-
  What the looks of node.ables at a node say: an assertion each: walks. Printed by a program of mine (gen_looks.py). Conditions: none.
-/
namespace Go.Proofs.YtjdpnljaichdmaaGreatDoor
open Go.RowKit
set_option linter.unusedVariables false

/-- Does a type hold an interface's methods? -/
abbrev holds (T I : TypeId) (b : Bool) : Prop := (Tryz.prog.info? T).map (fun i => (lacking (Tryz.prog.methodsAt I) i.methods).isEmpty) = some b
theorem assert_of {T I : TypeId} {b : Bool} (hu : Tryz.prog.underlying I = some (.interface (Tryz.prog.methodsAt I))) (hz : (Tryz.prog.info? I).map (·.zero) = some (some .nilIface)) (h : holds T I b) (v : Value) :
    ∃ x, ∀ (xT : TypeId) (w : World), (Instr.typeAssert (.iface T v) xT I true).run Tryz.prog w = .ok (.tuple #[x, .bool b]) w := by
  cases b
  · exact ⟨.nilIface, fun xT w => run_typeAssert_lacksB hu h hz v xT w⟩
  · exact ⟨.iface T v, fun xT w => run_typeAssert_hasB hu h v xT w⟩
theorem look_Literal {T : TypeId} {b : Bool} (h : holds T 236 b) (v : Value) (w : World) : Calls Tryz.prog 110 #[.iface T v] w fun e w' => e = .returned (.bool b) ∧ w = w' := by
  obtain ⟨x, hx⟩ := assert_of (by kernel_rfl) (by kernel_rfl) h v
  clear h
  go_enter Tryz.func110, Tryz.ntmps110
  go_wp2
  go_ret
  exact ⟨rfl, rfl⟩
theorem look_Strict {T : TypeId} {b : Bool} (h : holds T 84 b) (v : Value) (w : World) : Calls Tryz.prog 112 #[.iface T v] w fun e w' => e = .returned (.bool b) ∧ w = w' := by
  obtain ⟨x, hx⟩ := assert_of (by kernel_rfl) (by kernel_rfl) h v
  clear h
  go_enter Tryz.func112, Tryz.ntmps112
  go_wp2
  go_ret
  exact ⟨rfl, rfl⟩
theorem look_Lazy {T : TypeId} {b : Bool} (h : holds T 72 b) (v : Value) (w : World) : Calls Tryz.prog 114 #[.iface T v] w fun e w' => e = .returned (.bool b) ∧ w = w' := by
  obtain ⟨x, hx⟩ := assert_of (by kernel_rfl) (by kernel_rfl) h v
  clear h
  go_enter Tryz.func114, Tryz.ntmps114
  go_wp2
  go_ret
  exact ⟨rfl, rfl⟩
theorem look_Binder {T : TypeId} {b : Bool} (h : holds T 64 b) (v : Value) (w : World) : Calls Tryz.prog 116 #[.iface T v] w fun e w' => e = .returned (.bool b) ∧ w = w' := by
  obtain ⟨x, hx⟩ := assert_of (by kernel_rfl) (by kernel_rfl) h v
  clear h
  go_enter Tryz.func116, Tryz.ntmps116
  go_wp2
  go_ret
  exact ⟨rfl, rfl⟩
theorem look_User {T : TypeId} {b : Bool} (h : holds T 239 b) (v : Value) (w : World) : Calls Tryz.prog 118 #[.iface T v] w fun e w' => e = .returned (.bool b) ∧ w = w' := by
  obtain ⟨x, hx⟩ := assert_of (by kernel_rfl) (by kernel_rfl) h v
  clear h
  go_enter Tryz.func118, Tryz.ntmps118
  go_wp2
  go_ret
  exact ⟨rfl, rfl⟩
theorem look_Caller {T : TypeId} {b : Bool} (h : holds T 61 b) (v : Value) (w : World) : Calls Tryz.prog 120 #[.iface T v] w fun e w' => e = .returned (.bool b) ∧ w = w' := by
  obtain ⟨x, hx⟩ := assert_of (by kernel_rfl) (by kernel_rfl) h v
  clear h
  go_enter Tryz.func120, Tryz.ntmps120
  go_wp2
  go_ret
  exact ⟨rfl, rfl⟩
theorem look_Pure {T : TypeId} {b : Bool} (h : holds T 75 b) (v : Value) (w : World) : Calls Tryz.prog 122 #[.iface T v] w fun e w' => e = .returned (.bool b) ∧ w = w' := by
  obtain ⟨x, hx⟩ := assert_of (by kernel_rfl) (by kernel_rfl) h v
  clear h
  go_enter Tryz.func122, Tryz.ntmps122
  go_wp2
  go_ret
  exact ⟨rfl, rfl⟩
theorem look_Total {T : TypeId} {b : Bool} (h : holds T 242 b) (v : Value) (w : World) : Calls Tryz.prog 124 #[.iface T v] w fun e w' => e = .returned (.bool b) ∧ w = w' := by
  obtain ⟨x, hx⟩ := assert_of (by kernel_rfl) (by kernel_rfl) h v
  clear h
  go_enter Tryz.func124, Tryz.ntmps124
  go_wp2
  go_ret
  exact ⟨rfl, rfl⟩
theorem look_Sorted {T : TypeId} {b : Bool} (h : holds T 245 b) (v : Value) (w : World) : Calls Tryz.prog 126 #[.iface T v] w fun e w' => e = .returned (.bool b) ∧ w = w' := by
  obtain ⟨x, hx⟩ := assert_of (by kernel_rfl) (by kernel_rfl) h v
  clear h
  go_enter Tryz.func126, Tryz.ntmps126
  go_wp2
  go_ret
  exact ⟨rfl, rfl⟩
theorem look_Sugar {T : TypeId} {b : Bool} (h : holds T 248 b) (v : Value) (w : World) : Calls Tryz.prog 128 #[.iface T v] w fun e w' => e = .returned (.bool b) ∧ w = w' := by
  obtain ⟨x, hx⟩ := assert_of (by kernel_rfl) (by kernel_rfl) h v
  clear h
  go_enter Tryz.func128, Tryz.ntmps128
  go_wp2
  go_ret
  exact ⟨rfl, rfl⟩
theorem look_Framed {T : TypeId} {b : Bool} (h : holds T 251 b) (v : Value) (w : World) : Calls Tryz.prog 130 #[.iface T v] w fun e w' => e = .returned (.bool b) ∧ w = w' := by
  obtain ⟨x, hx⟩ := assert_of (by kernel_rfl) (by kernel_rfl) h v
  clear h
  go_enter Tryz.func130, Tryz.ntmps130
  go_wp2
  go_ret
  exact ⟨rfl, rfl⟩
theorem look_Wrapped {T : TypeId} {b : Bool} (h : holds T 254 b) (v : Value) (w : World) : Calls Tryz.prog 132 #[.iface T v] w fun e w' => e = .returned (.bool b) ∧ w = w' := by
  obtain ⟨x, hx⟩ := assert_of (by kernel_rfl) (by kernel_rfl) h v
  clear h
  go_enter Tryz.func132, Tryz.ntmps132
  go_wp2
  go_ret
  exact ⟨rfl, rfl⟩
theorem look_Origin {T : TypeId} {b : Bool} (h : holds T 257 b) (v : Value) (w : World) : Calls Tryz.prog 134 #[.iface T v] w fun e w' => e = .returned (.bool b) ∧ w = w' := by
  obtain ⟨x, hx⟩ := assert_of (by kernel_rfl) (by kernel_rfl) h v
  clear h
  go_enter Tryz.func134, Tryz.ntmps134
  go_wp2
  go_ret
  exact ⟨rfl, rfl⟩
theorem look_Opaque {T : TypeId} {b : Bool} (h : holds T 260 b) (v : Value) (w : World) : Calls Tryz.prog 136 #[.iface T v] w fun e w' => e = .returned (.bool b) ∧ w = w' := by
  obtain ⟨x, hx⟩ := assert_of (by kernel_rfl) (by kernel_rfl) h v
  clear h
  go_enter Tryz.func136, Tryz.ntmps136
  go_wp2
  go_ret
  exact ⟨rfl, rfl⟩
/-- The fourteen, of one type. -/
def looksB (T : TypeId) (B : Nat → Bool) : Prop := holds T 236 (B 0) ∧ holds T 84 (B 1) ∧ holds T 72 (B 2) ∧ holds T 64 (B 3) ∧ holds T 239 (B 4) ∧ holds T 61 (B 5) ∧ holds T 75 (B 6) ∧ holds T 242 (B 7) ∧ holds T 245 (B 8) ∧ holds T 248 (B 9) ∧ holds T 251 (B 10) ∧ holds T 254 (B 11) ∧ holds T 257 (B 12) ∧ holds T 260 (B 13)
theorem looks_of {T : TypeId} {B : Nat → Bool} (h : looksB T B) (v : Value) : Looks T v B := by
  obtain ⟨h0, h1, h2, h3, h4, h5, h6, h7, h8, h9, h10, h11, h12, h13⟩ := h
  intro j hj w
  match j, hj with
  | 0, _ => exact look_Literal h0 v w
  | 1, _ => exact look_Strict h1 v w
  | 2, _ => exact look_Lazy h2 v w
  | 3, _ => exact look_Binder h3 v w
  | 4, _ => exact look_User h4 v w
  | 5, _ => exact look_Caller h5 v w
  | 6, _ => exact look_Pure h6 v w
  | 7, _ => exact look_Total h7 v w
  | 8, _ => exact look_Sorted h8 v w
  | 9, _ => exact look_Sugar h9 v w
  | 10, _ => exact look_Framed h10 v w
  | 11, _ => exact look_Wrapped h11 v w
  | 12, _ => exact look_Origin h12 v w
  | 13, _ => exact look_Opaque h13 v w
  | n + 14, h => exact absurd h (by omega)
end Go.Proofs.YtjdpnljaichdmaaGreatDoor

/-
  The node type *truth.choice: its methods, what asserts to it. Printed by a program of mine (gen_looks.py). Conditions: none.
-/
namespace Go.Proofs.YtjdpnljaichdmaaGreatDoor
open Go.RowKit
set_option linter.unusedVariables false

def b_TruthIf (j : Nat) : Bool := [false, false, true, false, false, false, true, true, true, false, false, false, false, false].getD j false
theorem disp_TruthIf : Disp 197 := ⟨fun _ _ => by kernel_rfl, fun _ _ => by kernel_rfl, fun _ _ => by kernel_rfl, fun _ _ => by kernel_rfl, fun _ _ => by kernel_rfl⟩
theorem looks_TruthIf (v : Value) : Looks 197 v b_TruthIf := looks_of ⟨by unfold holds; kernel_rfl, by unfold holds; kernel_rfl, by unfold holds; kernel_rfl, by unfold holds; kernel_rfl, by unfold holds; kernel_rfl, by unfold holds; kernel_rfl, by unfold holds; kernel_rfl, by unfold holds; kernel_rfl, by unfold holds; kernel_rfl, by unfold holds; kernel_rfl, by unfold holds; kernel_rfl, by unfold holds; kernel_rfl, by unfold holds; kernel_rfl, by unfold holds; kernel_rfl⟩ v
theorem told_TruthIf : abilTo b_TruthIf 14 = [⟨#[76, 97, 122, 121]⟩, ⟨#[80, 117, 114, 101]⟩, ⟨#[84, 111, 116, 97, 108]⟩, ⟨#[83, 111, 114, 116, 101, 100]⟩] := by rfl
end Go.Proofs.YtjdpnljaichdmaaGreatDoor

/-
  truth.Kit: a walk. Conditions: none.
-/
namespace Go.Proofs.YtjdpnljaichdmaaGreatDoor
open Go.RowKit
set_option linter.unusedVariables false

def truthRows : List RowD := [⟨⟨#[116, 114, 117, 116, 104, 46, 110, 111, 116]⟩, 1, 1, false, 0, [⟨#[83, 116, 114, 105, 99, 116]⟩, ⟨#[80, 117, 114, 101]⟩, ⟨#[84, 111, 116, 97, 108]⟩, ⟨#[83, 111, 114, 116, 101, 100]⟩]⟩, ⟨⟨#[116, 114, 117, 116, 104, 46, 115, 97, 109, 101]⟩, 2, 2, false, 0, [⟨#[83, 116, 114, 105, 99, 116]⟩, ⟨#[80, 117, 114, 101]⟩, ⟨#[84, 111, 116, 97, 108]⟩, ⟨#[83, 111, 114, 116, 101, 100]⟩]⟩, ⟨⟨#[116, 114, 117, 116, 104, 46, 105, 102]⟩, 3, 3, false, 0, [⟨#[76, 97, 122, 121]⟩, ⟨#[80, 117, 114, 101]⟩, ⟨#[84, 111, 116, 97, 108]⟩, ⟨#[83, 111, 114, 116, 101, 100]⟩]⟩, ⟨⟨#[116, 114, 117, 116, 104, 46, 97, 110, 100]⟩, 2, 2, false, 0, [⟨#[76, 97, 122, 121]⟩, ⟨#[80, 117, 114, 101]⟩, ⟨#[84, 111, 116, 97, 108]⟩, ⟨#[83, 111, 114, 116, 101, 100]⟩]⟩, ⟨⟨#[116, 114, 117, 116, 104, 46, 111, 114]⟩, 2, 2, false, 0, [⟨#[76, 97, 122, 121]⟩, ⟨#[80, 117, 114, 101]⟩, ⟨#[84, 111, 116, 97, 108]⟩, ⟨#[83, 111, 114, 116, 101, 100]⟩]⟩]
theorem truth_kitB : kitB ⟨#[116, 114, 117, 116, 104]⟩ truthRows = true := by kernel_rfl
def tNames (x : ByteArray) : List ByteArray := [x, ⟨#[80, 117, 114, 101]⟩, ⟨#[84, 111, 116, 97, 108]⟩, ⟨#[83, 111, 114, 116, 101, 100]⟩]
def TRowPost (t x : ByteArray) (n : Int) (w : World) (e : Ending) (w' : World) : Prop := ∃ a, e = .returned (.agg #[.string t, .int .i64 n, .int .i64 n, .bool false, .int .i64 0, .slice (some ⟨a, 0, none⟩) 4 4]) ∧ NamesIn w' (fresh w w') (tNames x) (some ⟨a, 0, none⟩) ∧ Below w.heap.size w w'
theorem truth_row (s x t : ByteArray) (n : Int) (hs : s.size ≤ 100) (ht : ⟨#[116, 114, 117, 116, 104, 46]⟩ ++ s = t) (w : World) : Calls Tryz.prog 79 #[.string s, .string x, .int .i64 n] w (TRowPost t x n w) := by
  have HT := Lib.hid ht
  have H1 := Lib.hid ((Below.refl w.heap.size w).alloc (Nat.le_refl _) (.cells #[.string t, .int .i64 n, .int .i64 n, .bool false, .int .i64 0, .slice (some ⟨w.heap.size + 1, 0, none⟩) 4 4] 93))
  have HB := Lib.hid (H1.out.alloc (by simp) (.cells ((tNames x).map Value.string).toArray 9))
  have HX := Lib.hid (heap_alloc2 w (.cells #[.string t, .int .i64 n, .int .i64 n, .bool false, .int .i64 0, .slice (some ⟨w.heap.size + 1, 0, none⟩) 4 4] 93) (.cells ((tNames x).map Value.string).toArray 9))
  clear ht
  go_enter Tryz.func79, Tryz.ntmps79
  go_wp2
  rw [HT.out]
  refine bodyPost_ret (fn := Tryz.f79) (v := .agg #[.string t, .int .i64 n, .int .i64 n, .bool false, .int .i64 0, .slice (some ⟨w.heap.size + 1, 0, none⟩) 4 4]) (results_cell (p := 6) (ty := 93) (a := ⟨w.heap.size, 0, none⟩) Tryz.results79 rfl (run_loadVar_row (P := Tryz.prog) _ _ _ 93 _ _ _ HX.out.1 Tryz.underlying93 rfl (by kernel_rfl))) rfl ⟨_, rfl, ?_, HB.out⟩
  intro _
  refine ⟨_, 0, rfl, ⟨by simp, by simp⟩, fun j hj => ?_⟩
  exact cells_string (tNames x) _ HX.out.2 j hj
set_option maxRecDepth 100000 in
set_option maxHeartbeats 4000000 in
theorem truth_rows (w : World) : Calls Tryz.prog 51 #[] w (RowsNew truthRows w) := by
  go_enter Tryz.func51, Tryz.ntmps51
  go_wp2_with fail
  refine (truth_row ⟨#[110, 111, 116]⟩ ⟨#[83, 116, 114, 105, 99, 116]⟩ ⟨#[116, 114, 117, 116, 104, 46, 110, 111, 116]⟩ 1 (by decide) (by rfl) _).mono ?_
  rintro e w1 ⟨a1, rfl, hn, hb⟩
  have HN1 := Lib.hid hn
  have HB1 := Lib.hid hb
  have HC1 := Lib.hid hb
  clear hn hb
  go_wp2_with fail
  refine (truth_row ⟨#[115, 97, 109, 101]⟩ ⟨#[83, 116, 114, 105, 99, 116]⟩ ⟨#[116, 114, 117, 116, 104, 46, 115, 97, 109, 101]⟩ 2 (by decide) (by rfl) _).mono ?_
  rintro e w2 ⟨a2, rfl, hn, hb⟩
  have HN2 := Lib.hid hn
  have HB2 := Lib.hid (HB1.out.trans (hb.mono HB1.out.size))
  have HC2 := Lib.hid hb
  clear hn hb
  go_wp2_with fail
  refine (truth_row ⟨#[105, 102]⟩ ⟨#[76, 97, 122, 121]⟩ ⟨#[116, 114, 117, 116, 104, 46, 105, 102]⟩ 3 (by decide) (by rfl) _).mono ?_
  rintro e w3 ⟨a3, rfl, hn, hb⟩
  have HN3 := Lib.hid hn
  have HB3 := Lib.hid (HB2.out.trans (hb.mono HB2.out.size))
  have HC3 := Lib.hid hb
  clear hn hb
  go_wp2_with fail
  refine (truth_row ⟨#[97, 110, 100]⟩ ⟨#[76, 97, 122, 121]⟩ ⟨#[116, 114, 117, 116, 104, 46, 97, 110, 100]⟩ 2 (by decide) (by rfl) _).mono ?_
  rintro e w4 ⟨a4, rfl, hn, hb⟩
  have HN4 := Lib.hid hn
  have HB4 := Lib.hid (HB3.out.trans (hb.mono HB3.out.size))
  have HC4 := Lib.hid hb
  clear hn hb
  go_wp2_with fail
  refine (truth_row ⟨#[111, 114]⟩ ⟨#[76, 97, 122, 121]⟩ ⟨#[116, 114, 117, 116, 104, 46, 111, 114]⟩ 2 (by decide) (by rfl) _).mono ?_
  rintro e w5 ⟨a5, rfl, hn, hb⟩
  have HN5 := Lib.hid hn
  have HB5 := Lib.hid (HB4.out.trans (hb.mono HB4.out.size))
  have HC5 := Lib.hid hb
  clear hn hb
  have HR := Lib.hid (heap_alloc_new w5 (.cells (([⟨⟨⟨#[116, 114, 117, 116, 104, 46, 110, 111, 116]⟩, 1, 1, false, 0, [⟨#[83, 116, 114, 105, 99, 116]⟩, ⟨#[80, 117, 114, 101]⟩, ⟨#[84, 111, 116, 97, 108]⟩, ⟨#[83, 111, 114, 116, 101, 100]⟩]⟩, some ⟨a1, 0, none⟩, 4⟩, ⟨⟨⟨#[116, 114, 117, 116, 104, 46, 115, 97, 109, 101]⟩, 2, 2, false, 0, [⟨#[83, 116, 114, 105, 99, 116]⟩, ⟨#[80, 117, 114, 101]⟩, ⟨#[84, 111, 116, 97, 108]⟩, ⟨#[83, 111, 114, 116, 101, 100]⟩]⟩, some ⟨a2, 0, none⟩, 4⟩, ⟨⟨⟨#[116, 114, 117, 116, 104, 46, 105, 102]⟩, 3, 3, false, 0, [⟨#[76, 97, 122, 121]⟩, ⟨#[80, 117, 114, 101]⟩, ⟨#[84, 111, 116, 97, 108]⟩, ⟨#[83, 111, 114, 116, 101, 100]⟩]⟩, some ⟨a3, 0, none⟩, 4⟩, ⟨⟨⟨#[116, 114, 117, 116, 104, 46, 97, 110, 100]⟩, 2, 2, false, 0, [⟨#[76, 97, 122, 121]⟩, ⟨#[80, 117, 114, 101]⟩, ⟨#[84, 111, 116, 97, 108]⟩, ⟨#[83, 111, 114, 116, 101, 100]⟩]⟩, some ⟨a4, 0, none⟩, 4⟩, ⟨⟨⟨#[116, 114, 117, 116, 104, 46, 111, 114]⟩, 2, 2, false, 0, [⟨#[76, 97, 122, 121]⟩, ⟨#[80, 117, 114, 101]⟩, ⟨#[84, 111, 116, 97, 108]⟩, ⟨#[83, 111, 114, 116, 101, 100]⟩]⟩, some ⟨a5, 0, none⟩, 4⟩] : List RowAt).flatMap RowAt.cells).toArray 93))
  have HE := Lib.hid ((Below.refl w5.heap.size w5).alloc (Nat.le_refl _) (.cells (([⟨⟨⟨#[116, 114, 117, 116, 104, 46, 110, 111, 116]⟩, 1, 1, false, 0, [⟨#[83, 116, 114, 105, 99, 116]⟩, ⟨#[80, 117, 114, 101]⟩, ⟨#[84, 111, 116, 97, 108]⟩, ⟨#[83, 111, 114, 116, 101, 100]⟩]⟩, some ⟨a1, 0, none⟩, 4⟩, ⟨⟨⟨#[116, 114, 117, 116, 104, 46, 115, 97, 109, 101]⟩, 2, 2, false, 0, [⟨#[83, 116, 114, 105, 99, 116]⟩, ⟨#[80, 117, 114, 101]⟩, ⟨#[84, 111, 116, 97, 108]⟩, ⟨#[83, 111, 114, 116, 101, 100]⟩]⟩, some ⟨a2, 0, none⟩, 4⟩, ⟨⟨⟨#[116, 114, 117, 116, 104, 46, 105, 102]⟩, 3, 3, false, 0, [⟨#[76, 97, 122, 121]⟩, ⟨#[80, 117, 114, 101]⟩, ⟨#[84, 111, 116, 97, 108]⟩, ⟨#[83, 111, 114, 116, 101, 100]⟩]⟩, some ⟨a3, 0, none⟩, 4⟩, ⟨⟨⟨#[116, 114, 117, 116, 104, 46, 97, 110, 100]⟩, 2, 2, false, 0, [⟨#[76, 97, 122, 121]⟩, ⟨#[80, 117, 114, 101]⟩, ⟨#[84, 111, 116, 97, 108]⟩, ⟨#[83, 111, 114, 116, 101, 100]⟩]⟩, some ⟨a4, 0, none⟩, 4⟩, ⟨⟨⟨#[116, 114, 117, 116, 104, 46, 111, 114]⟩, 2, 2, false, 0, [⟨#[76, 97, 122, 121]⟩, ⟨#[80, 117, 114, 101]⟩, ⟨#[84, 111, 116, 97, 108]⟩, ⟨#[83, 111, 114, 116, 101, 100]⟩]⟩, some ⟨a5, 0, none⟩, 4⟩] : List RowAt).flatMap RowAt.cells).toArray 93))
  go_wp2
  go_ret
  refine ⟨_, 5, [⟨⟨⟨#[116, 114, 117, 116, 104, 46, 110, 111, 116]⟩, 1, 1, false, 0, [⟨#[83, 116, 114, 105, 99, 116]⟩, ⟨#[80, 117, 114, 101]⟩, ⟨#[84, 111, 116, 97, 108]⟩, ⟨#[83, 111, 114, 116, 101, 100]⟩]⟩, some ⟨a1, 0, none⟩, 4⟩, ⟨⟨⟨#[116, 114, 117, 116, 104, 46, 115, 97, 109, 101]⟩, 2, 2, false, 0, [⟨#[83, 116, 114, 105, 99, 116]⟩, ⟨#[80, 117, 114, 101]⟩, ⟨#[84, 111, 116, 97, 108]⟩, ⟨#[83, 111, 114, 116, 101, 100]⟩]⟩, some ⟨a2, 0, none⟩, 4⟩, ⟨⟨⟨#[116, 114, 117, 116, 104, 46, 105, 102]⟩, 3, 3, false, 0, [⟨#[76, 97, 122, 121]⟩, ⟨#[80, 117, 114, 101]⟩, ⟨#[84, 111, 116, 97, 108]⟩, ⟨#[83, 111, 114, 116, 101, 100]⟩]⟩, some ⟨a3, 0, none⟩, 4⟩, ⟨⟨⟨#[116, 114, 117, 116, 104, 46, 97, 110, 100]⟩, 2, 2, false, 0, [⟨#[76, 97, 122, 121]⟩, ⟨#[80, 117, 114, 101]⟩, ⟨#[84, 111, 116, 97, 108]⟩, ⟨#[83, 111, 114, 116, 101, 100]⟩]⟩, some ⟨a4, 0, none⟩, 4⟩, ⟨⟨⟨#[116, 114, 117, 116, 104, 46, 111, 114]⟩, 2, 2, false, 0, [⟨#[76, 97, 122, 121]⟩, ⟨#[80, 117, 114, 101]⟩, ⟨#[84, 111, 116, 97, 108]⟩, ⟨#[83, 111, 114, 116, 101, 100]⟩]⟩, some ⟨a5, 0, none⟩, 4⟩], rfl, rfl, ?_, HB5.out.trans (HE.out.mono HB5.out.size)⟩
  have h5 := HB5.out.size
  refine rows_at w5 _ (S := fresh w _) ⟨h5, by rw [size_alloc]; omega⟩ ?_
  simp only [List.forall_mem_cons]
  refine ⟨HN1.out.step (Nat.le_refl _) (HC2.out.trans ((HC3.out.trans ((HC4.out.trans ((HC5.out.trans (HE.out.mono HC5.out.size)).mono HC4.out.size)).mono HC3.out.size)).mono HC2.out.size)),
    HN2.out.step HB1.out.size (HC3.out.trans ((HC4.out.trans ((HC5.out.trans (HE.out.mono HC5.out.size)).mono HC4.out.size)).mono HC3.out.size)),
    HN3.out.step HB2.out.size (HC4.out.trans ((HC5.out.trans (HE.out.mono HC5.out.size)).mono HC4.out.size)),
    HN4.out.step HB3.out.size (HC5.out.trans (HE.out.mono HC5.out.size)),
    HN5.out.step HB4.out.size HE.out, fun t h => absurd h List.not_mem_nil⟩
theorem truth_Kit (w : World) : Calls Tryz.prog 34 #[] w (KitPost ⟨#[116, 114, 117, 116, 104]⟩ 52 truthRows w) := by
  go_enter Tryz.func34, Tryz.ntmps34
  go_wp2_with fail
  refine (truth_rows w).mono ?_
  rintro e w1 ⟨A, c, ts, rfl, hts, hA, hb⟩
  have HB := Lib.hid hb
  have KN := Lib.hid (kit_new_of truth_kitB 52 ts hts A c w1 (hA.keep (fun _ _ _ => rfl) (fun b hb => hb.2)))
  rw [show ts.length = truthRows.length by rw [← hts, List.length_map]] at KN
  clear hts hA hb
  go_wp2_with fail
  refine KN.out.mono ?_
  rintro e w2 ⟨M, v, us, hM, rfl, hK, hu, hb2⟩
  have H1 := Lib.hid hK
  have H2 := Lib.hid hu
  have H3 := Lib.hid (HB.out.trans (hb2.mono HB.out.size))
  have H4 := Lib.hid (Nat.le_trans HB.out.size hM)
  clear hM hK hu hb2
  go_wp2
  go_ret
  exact ⟨M, v, us, H4.out, rfl, H1.out, H2.out, H3.out⟩
end Go.Proofs.YtjdpnljaichdmaaGreatDoor

/-
  espalierlaw9.truths: a walk, for up to 1000 of them. Conditions: they lie in memory.
-/
namespace Go.Proofs.YtjdpnljaichdmaaGreatDoor
open Go.RowKit
set_option linter.unusedVariables false

def tPl (b : Bool) : Pl := .mk 2 (if b then 1 else 0) ⟨#[]⟩ []
def TruthsPost (l : List Bool) (w : World) (e : Ending) (w' : World) : Prop := ∃ A c, e = .returned (.slice A l.length c) ∧ Pls.lies w' w'.heap.size (l.map tPl) A ∧ Below w.heap.size w w'
theorem tru_new {w : World} {o : Obj} {n : Nat} (h : w.heap.size = n) : (w.alloc o).heap[n]? = some o := h ▸ heap_alloc_new w o
theorem tru_el (base : Nat) (w : World) (S : Nat → Prop) (b : Bool) : TwEl base w S ⟨tPl b, none, 0⟩ :=
  ⟨by cases b <;> exact ⟨by rfl, by rfl, by decide, by decide⟩, fun _ => .inl ⟨rfl, rfl⟩, fun h => by unfold tPl Pl.list Pls.lies; trivial⟩
set_option maxRecDepth 100000 in
set_option maxHeartbeats 8000000 in
theorem law9_truths (l : List Bool) (hl : l.length ≤ 1000) (b o c : Nat) (w : World) (hc : ∀ j (h : j < l.length), w.cell? ⟨b, o + j, none⟩ = some (.bool l[j])) :
    Calls Tryz.prog 18 #[.slice (some ⟨b, o, none⟩) l.length c] w (TruthsPost l w) := by
  obtain ⟨i0, hi, hz0, hz1, hz2⟩ := info_plain_parts
  have HC := Lib.hid hc
  clear hc
  go_enter Tryz.func18, Tryz.ntmps18
  go_wp2
  go_loopw [4, 3] (fun s4 s3 wr => ∃ (k : Nat) (us : List PlAt), k ≤ l.length ∧ s4 = .int .i64 (k : Int) ∧ us.map PlAt.p = (l.take k).map tPl ∧ TwOwn w.heap.size wr s3 us ∧ Below w.heap.size w wr) (fun s4 _ _ => l.length - (intOf s4).toNat)
  case atStart => exact ⟨0, [], Nat.zero_le _, rfl, by simp, TwOwn.nil _ _, Below.refl _ _⟩
  case round =>
    obtain ⟨k, us, hk, rfl, hus, hown, hbel⟩ := hrel
    have HU := Lib.hid hus
    have HO := Lib.hid hown
    have HB := Lib.hid hbel
    have hws : w.heap.size ≤ wr.heap.size := hbel.size
    clear hus hown hbel
    by_cases hlt : k < l.length
    · have hul : us.length = k := by have := congrArg List.length HU.out; simpa [Nat.min_eq_left hk] using this
      subst hul
      have hb0 := HC.out us.length hlt
      have r0 : wr.cell? ⟨b, o + us.length, none⟩ = some (.bool l[us.length]) := (HB.out.cell (p := ⟨b, o + us.length, none⟩) (World.block_lt_of_cell? _ _ hb0)).trans hb0
      have HU3 := Lib.hid (show (us ++ [(⟨tPl l[us.length], none, 0⟩ : PlAt)]).map PlAt.p = (l.take (us.length + 1)).map tPl by rw [List.map_append, HU.out, List.take_succ_eq_append_getElem hlt, List.map_append]; rfl)
      clear hb0
      generalize hq : l[us.length] = q at *
      have r1 := alloc_cell (.cells #[.int .i64 2, .int .i64 0, .string ⟨#[]⟩, .slice none 0 0] 34) r0
      have HB4 := Lib.hid ((Below.refl wr.heap.size wr).alloc (Nat.le_refl _) (.cells #[.int .i64 2, .int .i64 (if q then 1 else 0), .string ⟨#[]⟩, .slice none 0 0] 34))
      have HT4 := Lib.hid (tru_el w.heap.size (wr.alloc (.cells #[.int .i64 2, .int .i64 (if q then 1 else 0), .string ⟨#[]⟩, .slice none 0 0] 34)) (fresh wr (wr.alloc (.cells #[.int .i64 2, .int .i64 (if q then 1 else 0), .string ⟨#[]⟩, .slice none 0 0] 34))) q)
      have hown2 := Lib.hid (own_below HO.out.own HB4.out |>.alloc (.cells ((tPl q).cells4 none 0).toArray 34))
      have hz4 := Lib.hid (size_alloc wr (.cells #[.int .i64 2, .int .i64 (if q then 1 else 0), .string ⟨#[]⟩, .slice none 0 0] 34))
      unfold Pl.cells4 tPl at hown2
      cases q
      all_goals
        simp only [Bool.false_eq_true, if_false, if_true, Pl.kind, Pl.num, Pl.text, Pl.list, List.length_nil] at hown2 HB4 HT4 hz4
        go_wp2_with (at_builtin; refine wpList_append_lies _ rfl _ _ 25 rfl w.heap.size 34 i0 _ 4 56 Tryz.underlying25 hi hz0 hz1 hz2 rfl (by decide) _ us.length (us.flatMap PlAt.cells) rfl hown2.out ⟨wr.heap.size + 1, 0, none⟩ 1 1 [.int .i64 2, .int .i64 _, .string ⟨#[]⟩, .slice none 0 0] rfl rfl (World.news_of_block (by exact tru_new (size_alloc _ _))) (by intro u hu; simp at hu; rcases hu with rfl | rfl | rfl | rfl <;> rfl) (by decide) (by unfold maxLen; omega) (by omega) (by simp; omega) (wr.heap.size + 2) (by simp) ?_)
        intro g cap w3 hown3 hgr3 hat hlt3
        have HO3 := Lib.hid (HO.out.step _ hws HB4.out HT4.out hgr3 (by rw [hz4.out]; exact hat) hown3)
        have HB3 := Lib.hid (((HB.out.trans (HB4.out.mono hws)).alloc (by rw [size_alloc]; omega) _).grown hgr3 (by rw [size_alloc, size_alloc]; omega) (fun q e => by have := (HO.out.own.lt q e).1; omega))
        clear hown3 hgr3 hown2 hat r0 r1
        go_wp2
        go_roundw
        case rel => exact ⟨us.length + 1, _, by omega, by go_num, HU3.out, HO3.out, HB3.out⟩
        case measure => simp [intOf]; omega
    · have hps : us.map PlAt.p = l.map tPl := by rw [HU.out, List.take_of_length_le (by omega)]
      have hul : us.length = l.length := by have := congrArg List.length hps; simpa using this
      obtain ⟨A2, c2, hv, _⟩ := HO.out.slice
      have HL2 := HO.out.lies hws hv
      rw [hps] at HL2
      have HL3 := Lib.hid HL2
      rw [hul] at hv
      subst hv
      clear HL2 hps HU
      go_wp2
      go_ret
      exact ⟨_, _, rfl, HL3.out, HB.out⟩
end Go.Proofs.YtjdpnljaichdmaaGreatDoor

/-
  espalierlaw9.begun: a walk. Conditions: none.
-/
namespace Go.Proofs.YtjdpnljaichdmaaGreatDoor
open Go.RowKit
set_option linter.unusedVariables false

theorem made9 {w : World} {M KB : Nat} {name : ByteArray} {vv : Value} {ts : List RowAt} {f : FuncId} {rs : List RowD} (h : KitIn w M KB name (.func (.func f) #[] #[]) vv ts) (hts : ts.map RowAt.row = rs) (hlen : rs.length ≤ 1000) (k : Nat) (hk : k < rs.length) (hdis : ∀ j (h : j < k), (rs[j]'(by omega)).kind ≠ rs[k].kind)
    {s : ByteArray} {T : TypeId} {B : Nat → Bool} (n : Nat) (hn : n ≤ 1000) (hm : ∀ ks : List Kd, ks.length = n → (∀ k ∈ ks, SameKid k) → MakeOk rs[k] s ks f T B) :
    Calls Tryz.prog 35 #[.pointer (some ⟨KB, 0, none⟩), .agg #[.string rs[k].kind, .int .i64 0, .string s, .slice none 0 0], .int .i64 (n : Int)] w (MadePost rs[k].kind s n T w) := by
  subst hts
  simp only [List.getElem_map] at hdis hm ⊢
  rw [List.length_map] at hk hlen
  exact law9_made h (by omega) k hk hdis n hn hm

theorem ok_truth_if (ks : List Kd) (hl : ks.length = 3) (hs : ∀ k ∈ ks, SameKid k) : MakeOk truthRows[2] ⟨#[]⟩ ks 52 197 b_TruthIf where
  row := (rowB_ok (name := ⟨#[116, 114, 117, 116, 104]⟩) (by kernel_rfl)).1
  abil := by decide
  text := by kernel_rfl
  size := by decide
  many := by omega
  min_ := by rw [hl]; decide
  max_ := .inr (by rw [hl]; decide)
  call := fun args w => by kernel_rfl
  makes := mk_truth_if _ ks (by omega)
  disp := disp_TruthIf
  looks := fun nb => looks_TruthIf _
  told := told_TruthIf
  same := hs
def intPl : Pl := .mk 3 0 ⟨#[]⟩ []
theorem int_lies (w : World) : Pls.lies (w.alloc (.cells #[.int .i64 3, .int .i64 0, .string ⟨#[]⟩, .slice none 0 0] 34)) (w.heap.size + 1) [intPl] (some ⟨w.heap.size, 0, none⟩) := by
  have hc := fun j => World.cell?_alloc_new w #[.int .i64 3, .int .i64 0, .string ⟨#[]⟩, .slice none 0 0] 34 j
  unfold Pls.lies intPl
  refine ⟨w.heap.size, 0, rfl, ?_, ?_⟩
  · unfold Pl.lies
    exact ⟨by omega, hc 0, hc 1, hc 2, by decide, by decide, by decide, by decide, none, 0, hc 3, by unfold Pls.lies; trivial⟩
  · unfold Pls.lies; trivial
theorem tnot_out : tOut (tWork1 [tPl true]) = .tuple #[.iface 49 (.bool false), .int .i64 0, .string ⟨#[]⟩] := by rfl
theorem tnot_int : tOut (tWork1 [intPl]) = .tuple #[.nilIface, .int .i64 20, .string ⟨#[]⟩] := by rfl
theorem bool_cells (l : List Bool) (w : World) (T : TypeId) : ∀ j (h : j < l.length), (w.alloc (.cells (l.map Value.bool).toArray T)).cell? ⟨w.heap.size, 0 + j, none⟩ = some (.bool l[j]) := fun j h => by
  rw [World.cell?_alloc_new]; simp [h]
set_option maxRecDepth 100000 in
set_option maxHeartbeats 8000000 in
theorem law9_begun (w : World) : Calls Tryz.prog 14 #[] w (Bel (.bool true) w) := by
  have KT1 := Lib.hid (fun w1 : World => law9_truths [true] (by decide) w1.heap.size 0 1 (w1.alloc (.cells #[.bool true] 4)) (bool_cells [true] w1 4))
  have KT3 := Lib.hid (fun w1 : World => law9_truths [true, true, true] (by decide) w1.heap.size 0 3 (w1.alloc (.cells #[.bool true, .bool true, .bool true] 4)) (bool_cells [true, true, true] w1 4))
  simp only [List.length_cons, List.length_nil, Nat.zero_add, Nat.reduceAdd] at KT1 KT3
  go_enter Tryz.func14, Tryz.ntmps14
  go_wp2_with fail
  refine (truth_Kit w).mono ?_
  rintro e w1 ⟨M, v, ts, hM, rfl, hK, hts, hb⟩
  have HB1 := Lib.hid hb
  have K1 := Lib.hid (made9 hK hts (by decide) 2 (by decide) (by decide) 3 (by omega) ok_truth_if)
  clear hb hK hts hM
  go_wp2_with fail
  refine K1.out.mono ?_
  rintro e w2 ⟨nb1, vs1, hl1, rfl, hn1, hb2⟩
  have HB2 := Lib.hid (HB1.out.trans (hb2.mono HB1.out.size))
  clear hn1 hl1 hb2 K1
  have h1 : ∀ (xT : TypeId) (w : World), (Instr.typeAssert (.iface 197 (.pointer (some ⟨nb1, 0, none⟩))) xT 72 true).run Tryz.prog w = .ok (.tuple #[.iface 197 (.pointer (some ⟨nb1, 0, none⟩)), .bool true]) w := fun xT w => run_typeAssert_hasB (want := Tryz.prog.methodsAt 72) (by kernel_rfl) (by kernel_rfl) _ xT w
  have h3 : ∀ (xT : TypeId) (w : World), (Instr.typeAssert (.iface 197 (.pointer (some ⟨nb1, 0, none⟩))) xT 84 true).run Tryz.prog w = .ok (.tuple #[.nilIface, .bool false]) w := fun xT w => run_typeAssert_lacksB (want := Tryz.prog.methodsAt 84) (by kernel_rfl) (by kernel_rfl) (by kernel_rfl) _ xT w
  go_wp2_with fail
  refine (KT1.out w2).mono ?_
  rintro e w3 ⟨A3, c3, rfl, hl3, hb3⟩
  have HB3 := Lib.hid ((HB2.out.alloc HB2.out.size (.cells #[.bool true] 4)).trans (hb3.mono (by rw [size_alloc]; have := HB2.out.size; omega)))
  have KN := Lib.hid (truth_Work_not [tPl true] A3 c3 w3 (by decide) hl3)
  rw [tnot_out] at KN
  unfold tNot at KN
  simp only [List.length_cons, List.length_nil, Nat.zero_add] at KN
  clear hb3 hl3
  go_wp2_with fail
  refine KN.out.mono ?_
  rintro e w4 ⟨rfl, hb4⟩
  have HB4 := Lib.hid (HB3.out.trans (hb4.mono HB3.out.size))
  clear hb4 KN
  go_wp2_with fail
  refine (KT3.out w4).mono ?_
  rintro e w5 ⟨A5, c5, rfl, hl5, hb5⟩
  have HB5 := Lib.hid ((HB4.out.alloc HB4.out.size (.cells #[.bool true, .bool true, .bool true] 4)).trans (hb5.mono (by rw [size_alloc]; have := HB4.out.size; omega)))
  have KI := Lib.hid (truth_Work_other ⟨#[116, 114, 117, 116, 104, 46, 105, 102]⟩ (by decide) (by decide) (.slice A5 3 c5) w5)
  clear hb5 hl5
  go_wp2_with fail
  refine KI.out.mono ?_
  rintro e w6 ⟨rfl, hb6⟩
  have HB6 := Lib.hid (HB5.out.trans (hb6.mono HB5.out.size))
  have HB7 := Lib.hid (HB6.out.alloc HB6.out.size (.cells #[.int .i64 3, .int .i64 0, .string ⟨#[]⟩, .slice none 0 0] 34))
  have KX := Lib.hid (truth_Work_not [intPl] (some ⟨w6.heap.size, 0, none⟩) 1 (w6.alloc (.cells #[.int .i64 3, .int .i64 0, .string ⟨#[]⟩, .slice none 0 0] 34)) (by decide) (by rw [size_alloc]; exact int_lies w6))
  rw [tnot_int] at KX
  unfold tNot at KX
  simp only [List.length_cons, List.length_nil, Nat.zero_add] at KX
  clear hb6 KI
  unfold tOut
  simp only [Int.reduceEq, if_false]
  go_wp2_with fail
  refine KX.out.mono ?_
  rintro e w8 ⟨rfl, hb8⟩
  have HB8 := Lib.hid (HB7.out.trans (hb8.mono HB7.out.size))
  clear hb8 KX
  have hun : ∀ w, (binOp .eql 37 (.iface 49 (.bool false)) (.iface 49 (.bool false))).run Tryz.prog w = .ok (.bool true) w := fun w => by kernel_rfl
  have hug : ∀ (x y : Operand) (w : World), (eqGuard .eql 37 x y (.iface 49 (.bool false)) (.iface 49 (.bool false))).run Tryz.prog w = .ok () w := fun x y w => by simp [eqGuard, go_sem]
  go_wp2
  go_ret
  exact ⟨rfl, HB8.out⟩
end Go.Proofs.YtjdpnljaichdmaaGreatDoor

/-
  espalierlaw9.TruthWork: a walk, for any operations. Printed by a program of mine (gen_oplaw.py). Conditions: they lie in memory.
-/
namespace Go.Proofs.YtjdpnljaichdmaaGreatDoor
open Go.RowKit
set_option linter.unusedVariables false

set_option maxRecDepth 100000 in
set_option maxHeartbeats 8000000 in
theorem law9_ops (hW : ∀ (op : ByteArray) (ps : List Pl) (A : Option Addr) (c : Nat) (w : World), ps.length * 56 ≤ 140737488351232 → Pls.lies w w.heap.size ps A → Calls Tryz.prog 15 #[.agg #[.string op, .slice A ps.length c]] w (Bel (.bool true) w))
    (n : Nat) (A : Option Addr) (c : Nat) (w : World) (hA : 0 < n → ∃ b o, A = some ⟨b, o, none⟩ ∧ ∀ k, k < n → ∃ op ps A c, CallAt w b (o + k * 2) op ps A c) :
    Calls Tryz.prog 6 #[.slice A n c] w (Bel (.bool true) w) := by
  have HA := Lib.hid hA
  have GW := Lib.hid hW
  clear hA hW
  go_enter Tryz.func6, Tryz.ntmps6
  go_wp2_with fail
  refine (law9_begun w).mono ?_
  rintro e w1 ⟨rfl, hb1⟩
  have HB1 := Lib.hid hb1
  clear hb1
  go_wp2
  go_loopw [3] (fun s3 wr => ∃ (k : Nat), k ≤ n ∧ s3 = .int .i64 (k : Int) ∧ Below w.heap.size w wr) (fun s3 _ => n - (intOf s3).toNat)
  case atStart => exact ⟨0, Nat.zero_le _, rfl, HB1.out⟩
  case round =>
    obtain ⟨k, hk, rfl, hbel⟩ := hrel
    have HB := Lib.hid hbel
    have hws := hbel.size
    clear hbel
    by_cases hlt : k < n
    · by_cases h2k : k < 400
      · obtain ⟨b, o, rfl, hcalls⟩ := HA.out (by omega)
        obtain ⟨op, ps, A', c', hcall⟩ := hcalls k hlt
        have hc := hcall.below HB.out
        have KW := Lib.hid (GW.out op ps A' c' wr hc.len hc.lies)
        have e0 := hc.op_
        have e1 := hc.args
        clear hcalls hcall hc
        go_wp2_with fail
        refine KW.out.mono ?_
        rintro e w2 ⟨rfl, hb2⟩
        have HB2 := Lib.hid (HB.out.trans (hb2.mono hws))
        clear hb2 KW e0 e1
        go_wp2
        go_roundw
        case rel => exact ⟨k + 1, by omega, by go_num, HB2.out⟩
        case measure => simp [intOf]; omega
      · have h2k' : decide ((k : Int) < 400) = false := by simp; omega
        go_wp2
        go_ret
        exact ⟨rfl, HB.out⟩
    · go_wp2
      go_ret
      exact ⟨rfl, HB.out⟩
end Go.Proofs.YtjdpnljaichdmaaGreatDoor

/-
  espalierref9.Rows, may: walks, for any operation and any plain values. Conditions: they lie in memory.
-/
namespace Go.Proofs.YtjdpnljaichdmaaGreatDoor
open Go.RowKit
set_option linter.unusedVariables false

theorem ref9_Rows (w : World) : Calls Tryz.prog 82 #[] w (RowsNew truthRows w) := by
  have HL := Lib.hid (lit_rows w truthRows)
  go_enter Tryz.func82, Tryz.ntmps82
  go_wp2
  go_ret
  exact ⟨_, 5, litRows w.heap.size truthRows, rfl, litRows_row _ _, HL.out.1, HL.out.2⟩
def strictName : ByteArray := ⟨#[83, 116, 114, 105, 99, 116]⟩
theorem strictB_step : ∀ (l : List ByteArray) (m : Nat) (h : m < l.length), (l.take (m + 1)).any (fun s => s.toList == [83, 116, 114, 105, 99, 116]) = ((l.take m).any (fun s => s.toList == [83, 116, 114, 105, 99, 116]) || ((l.getD m ByteArray.empty).toList == [83, 116, 114, 105, 99, 116])) := by
  intro l m h
  rw [List.take_succ_eq_append_getElem h, List.any_append]
  simp [List.getD, h]
def strictB (l : List ByteArray) : Bool := l.any (fun s => s.toList == [83, 116, 114, 105, 99, 116])
/-- What is asked of an operation and its values ahead of all else. -/
def mayV (op : ByteArray) (ps : List Pl) : List RowD → Int
  | [] => 1
  | r :: rs => if (r.kind.toList == op.toList) = true ∧ strictB r.abil = true then (if (ps.length : Int) < r.min ∨ (r.max ≠ -1 ∧ r.max < (ps.length : Int)) then 11 else if ps.all Pl.mayB = true then 0 else 1) else mayV op ps rs
set_option maxRecDepth 100000 in
set_option maxHeartbeats 8000000 in
theorem ref9_may (op : ByteArray) (ps : List Pl) (A : Option Addr) (c : Nat) (w : World) (hlen : ps.length * 56 ≤ 140737488351232) (hl : Pls.lies w w.heap.size ps A) :
    Calls Tryz.prog 53 #[.string op, .slice A ps.length c] w (Bel (.int .i64 (mayV op ps truthRows)) w) := by
  have HL := Lib.hid hl
  clear hl
  go_enter Tryz.func53, Tryz.ntmps53
  go_wp2_with fail
  refine (ref9_Rows w).mono ?_
  rintro e w1 ⟨B, cB, ts, rfl, hts, hB, hb⟩
  have HTS := Lib.hid hts
  have HRI := Lib.hid hB
  have HB1 := Lib.hid hb
  have htl : ts.length = truthRows.length := by rw [← hts, List.length_map]
  clear hts hB hb
  rw [← htl]
  have hl4 : ts.length = 5 := htl
  clear htl
  obtain ⟨bB, oB, rfl, hbB, hrows⟩ := HRI.out (by omega)
  have HR := Lib.hid hrows
  clear hrows
  rw [hl4]
  go_wp2
  go_loopw [6] (fun s6 wr => ∃ (k : Nat), k ≤ 5 ∧ s6 = .int .i64 (k : Int) ∧ mayV op ps truthRows = mayV op ps (truthRows.drop k) ∧ Below w1.heap.size w1 wr) (fun s6 _ => 5 - (intOf s6).toNat)
  case atStart => exact ⟨0, by omega, rfl, rfl, Below.refl _ _⟩
  case round =>
    obtain ⟨k, hk, rfl, hmay, hbel⟩ := hrel
    have HM := Lib.hid hmay
    have HB := Lib.hid hbel
    have hws := hbel.size
    clear hmay hbel
    by_cases hlt : k < 5
    · have hkt : k < ts.length := by omega
      have hcl := (HR.out k hkt).1
      have hnm := (HR.out k hkt).2
      have hrow : truthRows[k]? = some ts[k].row := by
        have e := HTS.out
        rw [← e, List.getElem?_map, List.getElem?_eq_getElem hkt]; rfl
      have hab : ts[k].row.abil.length ≤ 5 ∧ 0 < ts[k].row.abil.length ∧ (0 ≤ ts[k].row.min ∧ ts[k].row.min ≤ 3) ∧ (-1 ≤ ts[k].row.max ∧ ts[k].row.max ≤ 3) := by
        have hm : ts[k].row ∈ truthRows := List.mem_of_getElem? hrow
        have hall : ∀ r ∈ truthRows, r.abil.length ≤ 5 ∧ 0 < r.abil.length ∧ (0 ≤ r.min ∧ r.min ≤ 3) ∧ (-1 ≤ r.max ∧ r.max ≤ 3) := by decide
        exact hall _ hm
      have hdrop : Hid (truthRows.drop k = ts[k].row :: truthRows.drop (k + 1)) := Lib.hid (by
        obtain ⟨hk', e⟩ := List.getElem?_eq_some_iff.1 hrow
        rw [List.drop_eq_getElem_cons hk', e])
      generalize ts[k] = t at *
      have hbw : bB < w1.heap.size := hbB.2
      have r0 : wr.cell? ⟨bB, oB + k * 6, none⟩ = some (.string t.row.kind) := (HB.out.cell (p := ⟨bB, oB + k * 6, none⟩) hbw).trans (hcl 0 (by omega))
      have r1 : wr.cell? ⟨bB, oB + k * 6 + 1, none⟩ = some (.int .i64 t.row.min) := (HB.out.cell (p := ⟨bB, oB + k * 6 + 1, none⟩) hbw).trans (hcl 1 (by omega))
      have r2 : wr.cell? ⟨bB, oB + k * 6 + 2, none⟩ = some (.int .i64 t.row.max) := (HB.out.cell (p := ⟨bB, oB + k * 6 + 2, none⟩) hbw).trans (hcl 2 (by omega))
      have r5 : wr.cell? ⟨bB, oB + k * 6 + 5, none⟩ = some (.slice t.at_ t.row.abil.length t.cap) := (HB.out.cell (p := ⟨bB, oB + k * 6 + 5, none⟩) hbw).trans (hcl 5 (by omega))
      obtain ⟨bN, oN, hat, hbN, hnc⟩ := hnm hab.2.1
      have HN := Lib.hid (fun j (hj : j < t.row.abil.length) => (HB.out.cell (p := ⟨bN, oN + j, none⟩) hbN.2).trans (hnc j hj))
      rw [hat] at r5
      obtain ⟨hab5, hab0, ⟨hmin0, hmin2⟩, hmax0, hmax2⟩ := hab
      clear hcl hnm hrow hnc hat
      go_wp2_with fail
      go_loopw [8, 7] (fun s8 s7 wx => ∃ (m : Nat), m ≤ t.row.abil.length ∧ s8 = .int .i64 (m : Int) ∧ s7 = .bool (strictB (t.row.abil.take m)) ∧ wx = wr) (fun s8 _ _ => t.row.abil.length - (intOf s8).toNat)
      case atStart => exact ⟨0, Nat.zero_le _, rfl, rfl, rfl⟩
      case round =>
        obtain ⟨m, hm, rfl, rfl, rfl⟩ := hrel
        by_cases hmlt : m < t.row.abil.length
        · have n0 := HN.out m hmlt
          have hst : strictB (t.row.abil.take (m + 1)) = (strictB (t.row.abil.take m) || ((t.row.abil.getD m ByteArray.empty).toList == [83, 116, 114, 105, 99, 116])) := strictB_step _ _ hmlt
          have HST := Lib.hid hst
          clear hst
          generalize strictB (t.row.abil.take m) = q at *
          generalize t.row.abil.getD m ByteArray.empty = nm at *
          cases q
          · go_wp2
            go_roundw
            case rel => exact ⟨m + 1, by omega, by go_num, by rw [HST.out, Bool.false_or], trivial⟩
            case measure => simp [intOf]; omega
          · go_wp2
            go_roundw
            case rel => exact ⟨m + 1, by omega, by go_num, by rw [HST.out]; rfl, trivial⟩
            case measure => simp [intOf]; omega
        · have hml : m = t.row.abil.length := by omega
          subst hml
          rw [List.take_length]
          cases hkq : (t.row.kind.toList == op.toList)
          · have hnext := Lib.hid (show mayV op ps truthRows = mayV op ps (truthRows.drop (k + 1)) by rw [HM.out, hdrop.out, mayV, if_neg (by rw [hkq]; simp)])
            go_wp2
            go_roundw
            case rel => exact ⟨k + 1, by omega, by go_num, hnext.out, HB.out⟩
            case measure => simp [intOf]; omega
          · cases hsq : strictB t.row.abil
            · have hnext := Lib.hid (show mayV op ps truthRows = mayV op ps (truthRows.drop (k + 1)) by rw [HM.out, hdrop.out, mayV, if_neg (by rw [hsq]; simp)])
              go_wp2
              go_roundw
              case rel => exact ⟨k + 1, by omega, by go_num, hnext.out, HB.out⟩
              case measure => simp [intOf]; omega
            · have hin := Lib.hid (show mayV op ps truthRows = (if (ps.length : Int) < t.row.min ∨ (t.row.max ≠ -1 ∧ t.row.max < (ps.length : Int)) then 11 else if ps.all Pl.mayB = true then 0 else 1) by rw [HM.out, hdrop.out, mayV, if_pos ⟨hkq, hsq⟩])
              by_cases hmn : (ps.length : Int) < t.row.min
              · have hres := Lib.hid (show mayV op ps truthRows = 11 by rw [hin.out, if_pos (.inl hmn)])
                go_wp2
                go_ret
                exact ⟨by rw [hres.out]; rfl, HB1.out.trans (HB.out.mono HB1.out.size)⟩
              by_cases hmx : t.row.max = -1
              · have hmb : (t.row.max == -1) = true := by simpa using hmx
                have HOUT := Lib.hid (show (ps.all Pl.mayB = true → mayV op ps truthRows = 0) ∧ (ps.all Pl.mayB = false → mayV op ps truthRows = 1) by
                  rw [hin.out, if_neg (by rintro (h | h); exact hmn h; exact h.1 hmx)]
                  exact ⟨fun h => by rw [if_pos h], fun h => by rw [h]; rfl⟩)
                go_wp2
                go_loopw [9] (fun s9 wx => ∃ (m : Nat), m ≤ ps.length ∧ s9 = .int .i64 (m : Int) ∧ (∀ p ∈ ps.take m, p.mayB = true) ∧ Below w1.heap.size w1 wx) (fun s9 _ => ps.length - (intOf s9).toNat)
                case atStart => exact ⟨0, Nat.zero_le _, rfl, by simp, HB.out⟩
                case round =>
                obtain ⟨m, hm, rfl, hmall, hbel3⟩ := hrel
                have HA3 := Lib.hid hmall
                have HB3 := Lib.hid hbel3
                have hs3 := hbel3.size
                clear hmall hbel3
                by_cases hmlt : m < ps.length
                · obtain ⟨b', o', rfl⟩ := HL.out.head (by omega)
                  have HBA := Lib.hid (HB1.out.trans (HB3.out.mono HB1.out.size))
                  have hlies := (HL.out.below HBA.out HBA.out.size).at_ m hmlt
                  have hsn := Lib.hid hlies.sane
                  obtain ⟨hbb, e0, e1, e2, hlen2, A', c', e3, hll⟩ := hlies.parts
                  have KM := Lib.hid (ref2_May ps[m] A' c' wr hsn.out (hll.below (Below.refl _ _) (Nat.le_refl _)))
                  have hmem := Lib.hid (show ∀ p ∈ ps.take (m + 1), p ∈ ps.take m ∨ p = ps[m] by
                    rw [List.take_succ_eq_append_getElem hmlt]
                    intro p hp
                    rcases List.mem_append.1 hp with h | h
                    · exact .inl h
                    · exact .inr (List.mem_singleton.1 h))
                  have hin := Lib.hid (List.getElem_mem hmlt)
                  generalize ps[m] = p at *
                  unfold Pl.arg at KM
                  clear hlies hll
                  go_wp2_with fail
                  refine KM.out.mono ?_
                  rintro e w4 ⟨rfl, hb4⟩
                  have HB4 := Lib.hid (HB3.out.trans (hb4.mono hs3))
                  clear hb4 KM e0 e1 e2 e3
                  cases hp : p.mayB
                  · have hpd : decide (0 ≤ p.left 65536 0) = false := hp
                    have hres := Lib.hid (HOUT.out.2 (by rw [List.all_eq_false]; exact ⟨p, hin.out, by rw [hp]; decide⟩))
                    go_wp2
                    go_ret
                    exact ⟨by rw [hres.out]; rfl, HB1.out.trans (HB4.out.mono HB1.out.size)⟩
                  · have hpd : decide (0 ≤ p.left 65536 0) = true := hp
                    have hnx : ∀ p ∈ ps.take (m + 1), p.mayB = true := fun x hx => by
                      rcases hmem.out x hx with h1 | h1
                      · exact HA3.out x h1
                      · rw [h1]; exact hp
                    have HNX := Lib.hid hnx
                    clear hnx
                    go_wp2
                    go_roundw
                    case rel => exact ⟨m + 1, by omega, by go_num, HNX.out, HB4.out⟩
                    case measure => simp [intOf]; omega
                · have hres := Lib.hid (HOUT.out.1 (by
                    rw [List.all_eq_true]
                    intro p hp
                    exact HA3.out p (by rw [List.take_of_length_le (by omega)]; exact hp)))
                  go_wp2
                  go_ret
                  exact ⟨by rw [hres.out]; rfl, HB1.out.trans (HB3.out.mono HB1.out.size)⟩
              have hmb : (t.row.max == -1) = false := by simpa using hmx
              by_cases hmo : t.row.max < (ps.length : Int)
              · have hres := Lib.hid (show mayV op ps truthRows = 11 by rw [hin.out, if_pos (.inr ⟨hmx, hmo⟩)])
                go_wp2
                go_ret
                exact ⟨by rw [hres.out]; rfl, HB1.out.trans (HB.out.mono HB1.out.size)⟩
              · have HOUT := Lib.hid (show (ps.all Pl.mayB = true → mayV op ps truthRows = 0) ∧ (ps.all Pl.mayB = false → mayV op ps truthRows = 1) by
                  rw [hin.out, if_neg (by rintro (h | h); exact hmn h; exact hmo h.2)]
                  exact ⟨fun h => by rw [if_pos h], fun h => by rw [h]; rfl⟩)
                go_wp2
                go_loopw [9] (fun s9 wx => ∃ (m : Nat), m ≤ ps.length ∧ s9 = .int .i64 (m : Int) ∧ (∀ p ∈ ps.take m, p.mayB = true) ∧ Below w1.heap.size w1 wx) (fun s9 _ => ps.length - (intOf s9).toNat)
                case atStart => exact ⟨0, Nat.zero_le _, rfl, by simp, HB.out⟩
                case round =>
                obtain ⟨m, hm, rfl, hmall, hbel3⟩ := hrel
                have HA3 := Lib.hid hmall
                have HB3 := Lib.hid hbel3
                have hs3 := hbel3.size
                clear hmall hbel3
                by_cases hmlt : m < ps.length
                · obtain ⟨b', o', rfl⟩ := HL.out.head (by omega)
                  have HBA := Lib.hid (HB1.out.trans (HB3.out.mono HB1.out.size))
                  have hlies := (HL.out.below HBA.out HBA.out.size).at_ m hmlt
                  have hsn := Lib.hid hlies.sane
                  obtain ⟨hbb, e0, e1, e2, hlen2, A', c', e3, hll⟩ := hlies.parts
                  have KM := Lib.hid (ref2_May ps[m] A' c' wr hsn.out (hll.below (Below.refl _ _) (Nat.le_refl _)))
                  have hmem := Lib.hid (show ∀ p ∈ ps.take (m + 1), p ∈ ps.take m ∨ p = ps[m] by
                    rw [List.take_succ_eq_append_getElem hmlt]
                    intro p hp
                    rcases List.mem_append.1 hp with h | h
                    · exact .inl h
                    · exact .inr (List.mem_singleton.1 h))
                  have hin := Lib.hid (List.getElem_mem hmlt)
                  generalize ps[m] = p at *
                  unfold Pl.arg at KM
                  clear hlies hll
                  go_wp2_with fail
                  refine KM.out.mono ?_
                  rintro e w4 ⟨rfl, hb4⟩
                  have HB4 := Lib.hid (HB3.out.trans (hb4.mono hs3))
                  clear hb4 KM e0 e1 e2 e3
                  cases hp : p.mayB
                  · have hpd : decide (0 ≤ p.left 65536 0) = false := hp
                    have hres := Lib.hid (HOUT.out.2 (by rw [List.all_eq_false]; exact ⟨p, hin.out, by rw [hp]; decide⟩))
                    go_wp2
                    go_ret
                    exact ⟨by rw [hres.out]; rfl, HB1.out.trans (HB4.out.mono HB1.out.size)⟩
                  · have hpd : decide (0 ≤ p.left 65536 0) = true := hp
                    have hnx : ∀ p ∈ ps.take (m + 1), p.mayB = true := fun x hx => by
                      rcases hmem.out x hx with h1 | h1
                      · exact HA3.out x h1
                      · rw [h1]; exact hp
                    have HNX := Lib.hid hnx
                    clear hnx
                    go_wp2
                    go_roundw
                    case rel => exact ⟨m + 1, by omega, by go_num, HNX.out, HB4.out⟩
                    case measure => simp [intOf]; omega
                · have hres := Lib.hid (HOUT.out.1 (by
                    rw [List.all_eq_true]
                    intro p hp
                    exact HA3.out p (by rw [List.take_of_length_le (by omega)]; exact hp)))
                  go_wp2
                  go_ret
                  exact ⟨by rw [hres.out]; rfl, HB1.out.trans (HB3.out.mono HB1.out.size)⟩
    · have hk4 : k = 5 := by omega
      subst hk4
      have hend : Hid (mayV op ps truthRows = 1) := Lib.hid (by rw [HM.out]; rfl)
      go_wp2
      go_ret
      exact ⟨by rw [hend.out]; rfl, HB1.out.trans (HB.out.mono HB1.out.size)⟩
end Go.Proofs.YtjdpnljaichdmaaGreatDoor

/-
  espalierref9.Work: a walk, for any operation and any plain values: it answers as truth.Work. Printed by a program of mine (gen_truth2.py). Conditions: they lie in memory.
-/
namespace Go.Proofs.YtjdpnljaichdmaaGreatDoor
open Go.RowKit
set_option linter.unusedVariables false

/-- What the reference gives: a plain value, a code. -/
def refOut (r : Int × Bool) : Value := .tuple #[.agg #[.int .i64 (if r.1 = 0 then 2 else 0), .int .i64 (if r.1 = 0 ∧ r.2 = true then 1 else 0), .string ⟨#[]⟩, .slice none 0 0], .int .i64 r.1, .string ⟨#[]⟩]
theorem toList_same {a b : ByteArray} (h : (a.toList == b.toList) = true) : a = b := by
  have h1 : a.toList = b.toList := by simpa using h
  rw [Lib.toList_data, Lib.toList_data] at h1
  obtain ⟨⟨x⟩⟩ := a
  obtain ⟨⟨y⟩⟩ := b
  simp at h1
  rw [h1]
theorem may_other {op : ByteArray} {ps : List Pl} (h1 : op ≠ tNot) (h2 : op ≠ tSame) : mayV op ps truthRows = 1 := by
  have e1 : ¬ ((tNot.toList == op.toList) = true) := fun h => h1 (toList_same h).symm
  have e2 : ¬ ((tSame.toList == op.toList) = true) := fun h => h2 (toList_same h).symm
  unfold truthRows mayV
  rw [if_neg (fun h => e1 h.1)]
  unfold mayV
  rw [if_neg (fun h => e2 h.1)]
  unfold mayV
  rw [if_neg (fun h => absurd h.2 (by rw [Bool.not_eq_true]; kernel_rfl))]
  unfold mayV
  rw [if_neg (fun h => absurd h.2 (by rw [Bool.not_eq_true]; kernel_rfl))]
  unfold mayV
  rw [if_neg (fun h => absurd h.2 (by rw [Bool.not_eq_true]; kernel_rfl))]
  unfold mayV
  rfl
theorem may_not (ps : List Pl) : mayV tNot ps truthRows = if ps.length = 1 then (if ps.all Pl.mayB = true then 0 else 1) else 11 := by
  unfold truthRows mayV
  rw [if_pos ⟨by kernel_rfl, by kernel_rfl⟩]
  by_cases h : ps.length = 1
  · rw [if_pos h, if_neg (by simp [h])]
  · rw [if_neg h, if_pos (by simp; omega)]
theorem may_same (ps : List Pl) : mayV tSame ps truthRows = if ps.length = 2 then (if ps.all Pl.mayB = true then 0 else 1) else 11 := by
  unfold truthRows mayV
  rw [if_neg (fun h => absurd h.1 (by rw [Bool.not_eq_true]; kernel_rfl))]
  unfold mayV
  rw [if_pos ⟨by kernel_rfl, by kernel_rfl⟩]
  by_cases h : ps.length = 2
  · rw [if_pos h, if_neg (by simp [h])]
  · rw [if_neg h, if_pos (by simp; omega)]
theorem ref9_res {P : Program} {fn : Func} {p q r : Tmp} {ty : TypeId} (h : fn.results = #[.cell p ty, .tmp q, .tmp r]) {tmps : Array Value} {a : Addr} (ht : tmps.getD p undef = .pointer (some a)) {w : World} {v u x : Value} (hl : (loadVar ty a).run P w = .ok v w) (hu : tmps.getD q undef = u) (hx : tmps.getD r undef = x) :
    (results fn tmps).run P w = .ok (.tuple #[v, u, x]) w := by
  unfold results
  simp only [h]
  have ht' : tmps[p]?.getD undef = .pointer (some a) := by simpa using ht
  have hu' : tmps[q]?.getD undef = u := by simpa using hu
  have hx' : tmps[r]?.getD undef = x := by simpa using hx
  simp [ht', hu', hx', asAddr, hl]
theorem below15_set4 {w w' : World} (h : Below w.heap.size w w') (x0 x1 x2 x3 : Value) : Below w.heap.size w ((((w'.setCell ⟨w.heap.size, 0, none⟩ x0).setCell ⟨w.heap.size, 1, none⟩ x1).setCell ⟨w.heap.size, 2, none⟩ x2).setCell ⟨w.heap.size, 3, none⟩ x3) :=
  (((h.setCell (p := ⟨w.heap.size, 0, none⟩) (Nat.le_refl _) _).setCell (p := ⟨w.heap.size, 1, none⟩) (Nat.le_refl _) _).setCell (p := ⟨w.heap.size, 2, none⟩) (Nat.le_refl _) _).setCell (p := ⟨w.heap.size, 3, none⟩) (Nat.le_refl _) _
theorem below9_set4 {w w' : World} (h : Below w.heap.size w w') (x0 x1 x2 x3 : Value) : Below w.heap.size w ((((w'.setCell ⟨w.heap.size, 0, none⟩ x0).setCell ⟨w.heap.size, 1, none⟩ x1).setCell ⟨w.heap.size, 2, none⟩ x2).setCell ⟨w.heap.size, 3, none⟩ x3) :=
  (((h.setCell (p := ⟨w.heap.size, 0, none⟩) (Nat.le_refl _) _).setCell (p := ⟨w.heap.size, 1, none⟩) (Nat.le_refl _) _).setCell (p := ⟨w.heap.size, 2, none⟩) (Nat.le_refl _) _).setCell (p := ⟨w.heap.size, 3, none⟩) (Nat.le_refl _) _
set_option maxRecDepth 100000 in
set_option maxHeartbeats 4000000 in
theorem ref9_Work_no (op : ByteArray) (ps : List Pl) (n : Int) (hn : mayV op ps truthRows = n) (h0 : n ≠ 0) (A : Option Addr) (c : Nat) (w : World) (hlen : ps.length * 56 ≤ 140737488351232) (hl : Pls.lies w w.heap.size ps A) :
    Calls Tryz.prog 36 #[.string op, .slice A ps.length c] w (Bel (refOut (n, false)) w) := by
  have HB := Lib.hid ((Below.refl w.heap.size w).alloc (Nat.le_refl _) (.cells #[.int .i64 0, .int .i64 0, .string ⟨#[]⟩, .slice none 0 0] 34))
  have KM := Lib.hid (ref9_may op ps A c _ hlen (hl.below HB.out HB.out.size))
  rw [hn] at KM
  have hr := Lib.hid (show refOut (n, false) = .tuple #[.agg #[.int .i64 0, .int .i64 0, .string ⟨#[]⟩, .slice none 0 0], .int .i64 n, .string ⟨#[]⟩] by unfold refOut; simp [h0])
  have hnb : (n == 0) = false := by simpa using h0
  clear hl
  go_enter Tryz.func36, Tryz.ntmps36
  go_wp2_with fail
  refine KM.out.mono ?_
  rintro e w1 ⟨rfl, hb1⟩
  have hx1 := (hb1.block w.heap.size (by simp)).trans (heap_alloc_new w _)
  have HX1 := Lib.hid hx1
  have f0 : ∀ j, w1.cell? ⟨w.heap.size, j, none⟩ = (#[.int .i64 0, .int .i64 0, .string ⟨#[]⟩, .slice none 0 0] : Array Value)[j]? := fun j => by simp [World.cell?, hx1]
  have g0 : ∀ j, w1.frozen? ⟨w.heap.size, j, none⟩ = false := fun j => by simp [World.frozen?, hx1]
  have HB1 := Lib.hid (HB.out.trans (hb1.mono HB.out.size))
  clear hb1 hx1 KM
  go_wp2
  exact bodyPost_ret (fn := Tryz.f36) (v := .tuple #[.agg #[.int .i64 0, .int .i64 0, .string ⟨#[]⟩, .slice none 0 0], .int .i64 n, .string ⟨#[]⟩]) (ref9_res (p := 4) (q := 5) (r := 6) (ty := 34) (a := ⟨w.heap.size, 0, none⟩) Tryz.results36 rfl (run_loadVar_row (P := Tryz.prog) _ _ _ 34 _ _ _ (blk_set (blk_set (blk_set (blk_set HX1.out 0 (.int .i64 0)) 1 (.int .i64 0)) 2 (.string ⟨#[]⟩)) 3 (.slice none 0 0)) Tryz.underlying34 rfl (by kernel_rfl)) rfl rfl) rfl ⟨by rw [hr.out], below9_set4 HB1.out _ _ _ _⟩
theorem asTruth_kind (p : Pl) : p.toVl.asTruth = if p.kind = 2 then some (decide (p.num = 1)) else none := by
  obtain ⟨k, n, t, l⟩ := p
  show (Pl.mk k n t l).toVl.asTruth = if k = 2 then some (decide (n = 1)) else none
  unfold Pl.toVl
  by_cases h2 : k = 2
  · subst h2; rfl
  by_cases h3 : k = 3
  · subst h3; rfl
  by_cases h4 : k = 4
  · subst h4; rfl
  by_cases h5 : k = 5
  · subst h5; rfl
  · rw [if_neg h2, if_neg h3, if_neg h4, if_neg h5, if_neg h2]; rfl
theorem may_norm {p : Pl} (h : p.mayB = true) : p.normB = true := Pl.left_norm p 65536 0 (of_decide_eq_true h)
theorem may_truth {p : Pl} (h : p.mayB = true) (h2 : p.kind = 2) : p.num = 0 ∨ p.num = 1 := by
  have hn := may_norm h
  obtain ⟨k, n, t, l⟩ := p
  simp only [Pl.kind] at h2
  subst h2
  unfold Pl.normB at hn
  simp only [Bool.and_eq_true] at hn
  exact (good_2 hn.1).1
theorem below9_late {w w' : World} (h : Below w.heap.size w w') {k : Nat} (hk : w.heap.size ≤ k) (o : Nat) (x : Value) : Below w.heap.size w (w'.setCell ⟨k, o, none⟩ x) := h.setCell (p := ⟨k, o, none⟩) hk x
/-- The variable's block behind a further one. -/
theorem blk9 {w w1 : World} {cs ds : Array Value} (h : w1.heap[w.heap.size]? = some (.cells cs 34 (0, 0))) (T : TypeId) : (w1.alloc (.cells ds T)).heap[w.heap.size]? = some (.cells cs 34 (0, 0)) :=
  (Below.heap_alloc _ _ _ (lt_of_block h)).trans h
end Go.Proofs.YtjdpnljaichdmaaGreatDoor

/-
  espalierref9.Work at truth.not: a walk. Conditions: they lie in memory.
-/
namespace Go.Proofs.YtjdpnljaichdmaaGreatDoor
open Go.RowKit
set_option linter.unusedVariables false

set_option maxRecDepth 100000 in
set_option maxHeartbeats 4000000 in
theorem ref9_Work_not1 (p : Pl) (hn : p.mayB = true) (A : Option Addr) (c : Nat) (w : World) (hl : Pls.lies w w.heap.size [p] A) :
    Calls Tryz.prog 36 #[.string tNot, .slice A 1 c] w (Bel (refOut (tDo1 p.toVl)) w) := by
  have HB := Lib.hid ((Below.refl w.heap.size w).alloc (Nat.le_refl _) (.cells #[.int .i64 0, .int .i64 0, .string ⟨#[]⟩, .slice none 0 0] 34))
  have KM := Lib.hid (ref9_may tNot [p] A c _ (by simp) (hl.below HB.out HB.out.size))
  rw [may_not, if_pos (show [p].length = 1 from rfl), if_pos (show [p].all Pl.mayB = true by simp [hn])] at KM
  have HL := Lib.hid hl
  have HT := Lib.hid (may_truth hn)
  clear hn
  clear hl
  unfold tNot at KM ⊢
  simp only [List.length_cons, List.length_nil, Nat.zero_add] at KM
  go_enter Tryz.func36, Tryz.ntmps36
  go_wp2_with fail
  refine KM.out.mono ?_
  rintro e w1 ⟨rfl, hb1⟩
  have hx1 := (hb1.block w.heap.size (by simp)).trans (heap_alloc_new w _)
  have HX1 := Lib.hid hx1
  have f0 : ∀ j, w1.cell? ⟨w.heap.size, j, none⟩ = (#[.int .i64 0, .int .i64 0, .string ⟨#[]⟩, .slice none 0 0] : Array Value)[j]? := fun j => by simp [World.cell?, hx1]
  have g0 : ∀ j, w1.frozen? ⟨w.heap.size, j, none⟩ = false := fun j => by simp [World.frozen?, hx1]
  have HB1 := Lib.hid (HB.out.trans (hb1.mono HB.out.size))
  have hz1 : w.heap.size < w1.heap.size := lt_of_block hx1
  have hz2 : w.heap.size ≠ w1.heap.size := by omega
  clear hb1 hx1 KM
  obtain ⟨b', o', rfl⟩ := HL.out.head (by simp)
  have hlies := (HL.out.below HB1.out HB1.out.size).at_ 0 (by simp)
  obtain ⟨hbb, e0, e1, e2, hlen2, A', c', e3, hll⟩ := hlies.parts
  simp only [List.getElem_cons_zero, Nat.zero_mul, Nat.add_zero] at e0 e1 e2
  clear hll e3 hlies hlen2 e2
  by_cases h2 : p.kind = 2
  · have hkb : (p.kind == 2) = true := by simpa using h2
    have hkb' : (p.kind != 2) = false := by simpa using h2
    by_cases hn : p.num = 0
    · have hr := Lib.hid (show refOut (tDo1 p.toVl) = .tuple #[.agg #[.int .i64 2, .int .i64 1, .string ⟨#[]⟩, .slice none 0 0], .int .i64 0, .string ⟨#[]⟩] by unfold tDo1; simp only [asTruth_kind, if_pos h2, hn]; rfl)
      have hnb : (p.num == 0) = true := by simpa using hn
      clear h2 hn
      go_upto_region 13 with fail
      have hxa := blk9 (ds := #[.int .i64 2, .int .i64 1, .string ⟨#[]⟩, .slice none 0 0]) HX1.out 34
      have hya := heap_alloc_new w1 (.cells #[.int .i64 2, .int .i64 1, .string ⟨#[]⟩, .slice none 0 0] 34)
      have HBa := Lib.hid (HB1.out.alloc (by omega) (.cells #[.int .i64 2, .int .i64 1, .string ⟨#[]⟩, .slice none 0 0] 34))
      have HXa := Lib.hid hxa
      clear f0 g0
      generalize w1.alloc (.cells #[.int .i64 2, .int .i64 1, .string ⟨#[]⟩, .slice none 0 0] 34) = W at *
      have f0 : ∀ j, W.cell? ⟨w.heap.size, j, none⟩ = (#[.int .i64 0, .int .i64 0, .string ⟨#[]⟩, .slice none 0 0] : Array Value)[j]? := fun j => by simp [World.cell?, hxa]
      have g0 : ∀ j, W.frozen? ⟨w.heap.size, j, none⟩ = false := fun j => by simp [World.frozen?, hxa]
      have y0 : ∀ j, W.cell? ⟨w1.heap.size, j, none⟩ = (#[.int .i64 2, .int .i64 1, .string ⟨#[]⟩, .slice none 0 0] : Array Value)[j]? := fun j => by simp [World.cell?, hya]
      clear hxa hya
      generalize w1.heap.size = kk at *
      go_wp2
      exact bodyPost_ret (fn := Tryz.f36) (v := .tuple #[.agg #[.int .i64 2, .int .i64 1, .string ⟨#[]⟩, .slice none 0 0], .int .i64 0, .string ⟨#[]⟩]) (ref9_res (p := 4) (q := 5) (r := 6) (ty := 34) (a := ⟨w.heap.size, 0, none⟩) Tryz.results36 rfl (run_loadVar_row (P := Tryz.prog) _ _ _ 34 _ _ _ (blk_set (blk_set (blk_set (blk_set HXa.out 0 (.int .i64 2)) 1 (.int .i64 1)) 2 (.string ⟨#[]⟩)) 3 (.slice none 0 0)) Tryz.underlying34 rfl (by kernel_rfl)) rfl rfl) rfl ⟨by rw [hr.out], below9_set4 HBa.out _ _ _ _⟩
    · have hr := Lib.hid (show refOut (tDo1 p.toVl) = .tuple #[.agg #[.int .i64 2, .int .i64 0, .string ⟨#[]⟩, .slice none 0 0], .int .i64 0, .string ⟨#[]⟩] by unfold tDo1; simp only [asTruth_kind, if_pos h2, (HT.out h2).resolve_left hn]; rfl)
      have hnb : (p.num == 0) = false := by simpa using hn
      clear h2 hn
      go_upto_region 13 with fail
      have hxa := blk9 (ds := #[.int .i64 2, .int .i64 0, .string ⟨#[]⟩, .slice none 0 0]) HX1.out 34
      have hya := heap_alloc_new w1 (.cells #[.int .i64 2, .int .i64 0, .string ⟨#[]⟩, .slice none 0 0] 34)
      have HBa := Lib.hid (HB1.out.alloc (by omega) (.cells #[.int .i64 2, .int .i64 0, .string ⟨#[]⟩, .slice none 0 0] 34))
      have HXa := Lib.hid hxa
      clear f0 g0
      generalize w1.alloc (.cells #[.int .i64 2, .int .i64 0, .string ⟨#[]⟩, .slice none 0 0] 34) = W at *
      have f0 : ∀ j, W.cell? ⟨w.heap.size, j, none⟩ = (#[.int .i64 0, .int .i64 0, .string ⟨#[]⟩, .slice none 0 0] : Array Value)[j]? := fun j => by simp [World.cell?, hxa]
      have g0 : ∀ j, W.frozen? ⟨w.heap.size, j, none⟩ = false := fun j => by simp [World.frozen?, hxa]
      have y0 : ∀ j, W.cell? ⟨w1.heap.size, j, none⟩ = (#[.int .i64 2, .int .i64 0, .string ⟨#[]⟩, .slice none 0 0] : Array Value)[j]? := fun j => by simp [World.cell?, hya]
      clear hxa hya
      generalize w1.heap.size = kk at *
      go_wp2
      exact bodyPost_ret (fn := Tryz.f36) (v := .tuple #[.agg #[.int .i64 2, .int .i64 0, .string ⟨#[]⟩, .slice none 0 0], .int .i64 0, .string ⟨#[]⟩]) (ref9_res (p := 4) (q := 5) (r := 6) (ty := 34) (a := ⟨w.heap.size, 0, none⟩) Tryz.results36 rfl (run_loadVar_row (P := Tryz.prog) _ _ _ 34 _ _ _ (blk_set (blk_set (blk_set (blk_set HXa.out 0 (.int .i64 2)) 1 (.int .i64 0)) 2 (.string ⟨#[]⟩)) 3 (.slice none 0 0)) Tryz.underlying34 rfl (by kernel_rfl)) rfl rfl) rfl ⟨by rw [hr.out], below9_set4 HBa.out _ _ _ _⟩
  · have hkb : (p.kind == 2) = false := by simpa using h2
    have hkb' : (p.kind != 2) = true := by simpa using h2
    have hr := Lib.hid (show refOut (tDo1 p.toVl) = .tuple #[.agg #[.int .i64 0, .int .i64 0, .string ⟨#[]⟩, .slice none 0 0], .int .i64 20, .string ⟨#[]⟩] by unfold tDo1; simp only [asTruth_kind, if_neg h2]; rfl)
    clear h2
    go_wp2
    exact bodyPost_ret (fn := Tryz.f36) (v := .tuple #[.agg #[.int .i64 0, .int .i64 0, .string ⟨#[]⟩, .slice none 0 0], .int .i64 20, .string ⟨#[]⟩]) (ref9_res (p := 4) (q := 5) (r := 6) (ty := 34) (a := ⟨w.heap.size, 0, none⟩) Tryz.results36 rfl (run_loadVar_row (P := Tryz.prog) _ _ _ 34 _ _ _ (blk_set (blk_set (blk_set (blk_set HX1.out 0 (.int .i64 0)) 1 (.int .i64 0)) 2 (.string ⟨#[]⟩)) 3 (.slice none 0 0)) Tryz.underlying34 rfl (by kernel_rfl)) rfl rfl) rfl ⟨by rw [hr.out], below9_set4 HB1.out _ _ _ _⟩
end Go.Proofs.YtjdpnljaichdmaaGreatDoor

/-
  espalierref2.Same of two that may be: a walk. Conditions: they lie in memory.
-/
namespace Go.Proofs.YtjdpnljaichdmaaGreatDoor
open Go.RowKit
set_option linter.unusedVariables false

theorem two9_cells {w w1 : World} {X X' : Obj} {cs cs' : Array Value} {T : TypeId} (hX : X = .cells cs T) (hX' : X' = .cells cs' T) (h : Below (w.heap.size + 2) ((w.alloc X).alloc X') w1) :
    (∀ j, w1.cell? ⟨w.heap.size, j, none⟩ = cs[j]?) ∧ (∀ j, w1.cell? ⟨w.heap.size + 1, j, none⟩ = cs'[j]?) := by
  subst hX hX'
  have h2 := heap_alloc2 w (.cells cs T) (.cells cs' T)
  have k1 : ∀ {W : World} {b : Nat} {ds : Array Value} (h : W.heap[b]? = some (.cells ds T)) (j : Nat), W.cell? ⟨b, j, none⟩ = ds[j]? := fun h j => by simp [World.cell?, h]
  refine ⟨fun j => ?_, fun j => ?_⟩
  · rw [h.cell (p := ⟨w.heap.size, j, none⟩) (by simp)]; exact k1 h2.1 j
  · rw [h.cell (p := ⟨w.heap.size + 1, j, none⟩) (by simp)]; exact k1 h2.2 j
set_option maxRecDepth 100000 in
set_option maxHeartbeats 4000000 in
theorem ref2_Same (p q : Pl) (A A' : Option Addr) (c c' : Nat) (w : World) (h0 : p.sane) (h0' : q.sane) (h1 : Pls.lies w w.heap.size p.list A) (h2 : Pls.lies w w.heap.size q.list A') (hp : p.mayB = true) (hq : q.mayB = true) :
    Calls Tryz.prog 54 #[p.arg A c, q.arg A' c'] w (Bel (.bool (p.eqB q)) w) := by
  have HB0 := Lib.hid (((Below.refl w.heap.size w).alloc (Nat.le_refl _) (.cells #[.int .i64 p.kind, .int .i64 p.num, .string p.text, .slice A p.list.length c] 34)).alloc (by simp) (.cells #[.int .i64 q.kind, .int .i64 q.num, .string q.text, .slice A' q.list.length c'] 34))
  have HC := Lib.hid (fun w1 h => two9_cells (w := w) (w1 := w1) (X := .cells #[.int .i64 p.kind, .int .i64 p.num, .string p.text, .slice A p.list.length c] 34) (X' := .cells #[.int .i64 q.kind, .int .i64 q.num, .string q.text, .slice A' q.list.length c'] 34) rfl rfl h)
  have KP := Lib.hid (fun (w1 : World) (hb : Below w.heap.size w w1) => ref2_May p A c w1 h0 (h1.below hb hb.size))
  have KQ := Lib.hid (fun (w1 : World) (hb : Below w.heap.size w w1) => ref2_May q A' c' w1 h0' (h2.below hb hb.size))
  have KO := Lib.hid (fun (w1 : World) (hb : Below w.heap.size w w1) => ref2_order p q A A' c c' w1 h0 h0' (h1.below hb hb.size) (h2.below hb hb.size))
  have hp' : decide (0 ≤ p.left 65536 0) = true := hp
  have hq' : decide (0 ≤ q.left 65536 0) = true := hq
  have HZ := Lib.hid (Pl.ord_zero p q)
  rw [hp'] at KP
  rw [hq'] at KQ
  unfold Pl.arg at KP KQ KO ⊢
  clear h0 h0' h1 h2 hp hq hp' hq'
  generalize p.ord q = z at *
  go_enter Tryz.func54, Tryz.ntmps54
  go_wp2_with fail
  refine (KP.out _ HB0.out).mono ?_
  rintro e w1 ⟨rfl, hb1⟩
  have HB1 := Lib.hid (HB0.out.trans (hb1.mono HB0.out.size))
  have HX1 := Lib.hid (hb1.mono (B' := w.heap.size + 2) (by simp))
  obtain ⟨f0, f1⟩ := HC.out w1 HX1.out
  clear hb1
  go_wp2_with fail
  refine (KQ.out w1 HB1.out).mono ?_
  rintro e w2 ⟨rfl, hb2⟩
  have HB2 := Lib.hid (HB1.out.trans (hb2.mono HB1.out.size))
  have HX2 := Lib.hid (HX1.out.trans (hb2.mono (by have := HX1.out.size; simpa using this)))
  obtain ⟨g0, g1⟩ := HC.out w2 HX2.out
  clear hb2 f0 f1
  go_wp2_with fail
  refine (KO.out w2 HB2.out).mono ?_
  rintro e w3 ⟨rfl, hb3⟩
  have HB3 := Lib.hid (HB2.out.trans (hb3.mono HB2.out.size))
  clear hb3
  have hq : (z == 0) = p.eqB q := by
    rw [Bool.eq_iff_iff]; simp only [beq_iff_eq]; exact HZ.out
  have HQ := Lib.hid hq
  clear hq
  go_wp2
  go_ret
  exact ⟨by rw [← HQ.out]; rfl, HB3.out⟩
end Go.Proofs.YtjdpnljaichdmaaGreatDoor

/-
  espalierref9.Work at truth.same: a walk. Conditions: they lie in memory.
-/
namespace Go.Proofs.YtjdpnljaichdmaaGreatDoor
open Go.RowKit
set_option linter.unusedVariables false

set_option maxRecDepth 100000 in
set_option maxHeartbeats 4000000 in
theorem ref9_Work_same2 (p q : Pl) (hp : p.mayB = true) (hq : q.mayB = true) (A : Option Addr) (c : Nat) (w : World) (hl : Pls.lies w w.heap.size [p, q] A) :
    Calls Tryz.prog 36 #[.string tSame, .slice A 2 c] w (Bel (refOut (tDo2 p.toVl q.toVl)) w) := by
  have HB := Lib.hid ((Below.refl w.heap.size w).alloc (Nat.le_refl _) (.cells #[.int .i64 0, .int .i64 0, .string ⟨#[]⟩, .slice none 0 0] 34))
  have KM := Lib.hid (ref9_may tSame [p, q] A c _ (by simp) (hl.below HB.out HB.out.size))
  rw [may_same, if_pos (show [p, q].length = 2 from rfl), if_pos (show [p, q].all Pl.mayB = true by simp [hp, hq])] at KM
  have HL := Lib.hid hl
  have HS := Lib.hid (Pl.same_eq p q (may_norm hp) (may_norm hq))
  have HP := Lib.hid hp
  have HQ := Lib.hid hq
  clear hp hq
  clear hl
  unfold tSame at KM ⊢
  simp only [List.length_cons, List.length_nil, Nat.zero_add, Nat.reduceAdd] at KM
  go_enter Tryz.func36, Tryz.ntmps36
  go_wp2_with fail
  refine KM.out.mono ?_
  rintro e w1 ⟨rfl, hb1⟩
  have hx1 := (hb1.block w.heap.size (by simp)).trans (heap_alloc_new w _)
  have HX1 := Lib.hid hx1
  have f0 : ∀ j, w1.cell? ⟨w.heap.size, j, none⟩ = (#[.int .i64 0, .int .i64 0, .string ⟨#[]⟩, .slice none 0 0] : Array Value)[j]? := fun j => by simp [World.cell?, hx1]
  have g0 : ∀ j, w1.frozen? ⟨w.heap.size, j, none⟩ = false := fun j => by simp [World.frozen?, hx1]
  have HB1 := Lib.hid (HB.out.trans (hb1.mono HB.out.size))
  have hz1 : w.heap.size < w1.heap.size := lt_of_block hx1
  have hz2 : w.heap.size ≠ w1.heap.size := by omega
  clear hb1 hx1 KM
  obtain ⟨b', o', rfl⟩ := HL.out.head (by simp)
  have hlies := (HL.out.below HB1.out HB1.out.size).at_ 0 (by simp)
  have hsn := Lib.hid hlies.sane
  obtain ⟨hbb, e0, e1, e2, hlen2, A0, c0, e3, hll⟩ := hlies.parts
  have hlies' := (HL.out.below HB1.out HB1.out.size).at_ 1 (by simp)
  have hsn' := Lib.hid hlies'.sane
  obtain ⟨hbb', d0, d1, d2, hlen2', A1, c1, d3, hll'⟩ := hlies'.parts
  simp only [List.getElem_cons_zero, List.getElem_cons_succ, Nat.zero_mul, Nat.one_mul, Nat.add_zero] at e0 e1 e2 e3 d0 d1 d2 d3 hll hll' hsn hsn'
  have KS := Lib.hid (fun x : Ext w1 => ref2_Same p q A0 A1 c0 c1 x.now hsn.out hsn'.out (hll.below x.ok x.ok.size) (hll'.below x.ok x.ok.size) HP.out HQ.out)
  unfold Pl.arg at KS
  have E0 := Ext.cell (w := w1) e0
  have E1 := Ext.cell (w := w1) e1
  have E2 := Ext.cell (w := w1) e2
  have E3 := Ext.cell (w := w1) e3
  have D0 := Ext.cell (w := w1) d0
  have D1 := Ext.cell (w := w1) d1
  have D2 := Ext.cell (w := w1) d2
  have D3 := Ext.cell (w := w1) d3
  have hr := Lib.hid (show refOut (tDo2 p.toVl q.toVl) = .tuple #[.agg #[.int .i64 2, .int .i64 (if p.eqB q = true then 1 else 0), .string ⟨#[]⟩, .slice none 0 0], .int .i64 0, .string ⟨#[]⟩] by unfold tDo2 refOut; rw [HS.out]; simp)
  clear e0 e1 e2 e3 d0 d1 d2 d3 hll hll' hlies hlies' hbb hbb' hlen2 hlen2'
  generalize p.eqB q = z at *
  go_upto_region 6 with fail
  refine wp_region_ext (by kernel_rfl) (by kernel_rfl) ?_
  go_big_quiet_step (fail)
  go_big_quiet_step (fail)
  go_big_quiet_step (fail)
  go_big_quiet_step (fail)
  go_big_quiet_step (fail)
  go_big_quiet_step (fail)
  go_big_quiet_step ((go_at_call 54; exact Calls.ext_of (KS.out _)))
  go_big_quiet_step (fail)
  refine wpQuiet_nil ?_
  rintro _ ⟨x, rfl⟩
  have hx2 := (x.ok.block w.heap.size hz1).trans HX1.out
  have HX2 := Lib.hid hx2
  have HB2 := Lib.hid (HB1.out.trans (x.ok.mono HB1.out.size))
  clear f0 g0 E0 E1 E2 E3 D0 D1 D2 D3 KS
  generalize x.now = w2 at *
  have f0 : ∀ j, w2.cell? ⟨w.heap.size, j, none⟩ = (#[.int .i64 0, .int .i64 0, .string ⟨#[]⟩, .slice none 0 0] : Array Value)[j]? := fun j => by simp [World.cell?, hx2]
  have g0 : ∀ j, w2.frozen? ⟨w.heap.size, j, none⟩ = false := fun j => by simp [World.frozen?, hx2]
  have hz3 : w.heap.size < w2.heap.size := lt_of_block hx2
  have hz4 : w.heap.size ≠ w2.heap.size := by omega
  clear hx2
  cases z
  · go_upto_region 13 with fail
    have hxa := blk9 (ds := #[.int .i64 2, .int .i64 0, .string ⟨#[]⟩, .slice none 0 0]) HX2.out 34
    have hya := heap_alloc_new w2 (.cells #[.int .i64 2, .int .i64 0, .string ⟨#[]⟩, .slice none 0 0] 34)
    have HBa := Lib.hid (HB2.out.alloc (by omega) (.cells #[.int .i64 2, .int .i64 0, .string ⟨#[]⟩, .slice none 0 0] 34))
    have HXa := Lib.hid hxa
    clear f0 g0
    generalize w2.alloc (.cells #[.int .i64 2, .int .i64 0, .string ⟨#[]⟩, .slice none 0 0] 34) = W at *
    have f0 : ∀ j, W.cell? ⟨w.heap.size, j, none⟩ = (#[.int .i64 0, .int .i64 0, .string ⟨#[]⟩, .slice none 0 0] : Array Value)[j]? := fun j => by simp [World.cell?, hxa]
    have g0 : ∀ j, W.frozen? ⟨w.heap.size, j, none⟩ = false := fun j => by simp [World.frozen?, hxa]
    have y0 : ∀ j, W.cell? ⟨w2.heap.size, j, none⟩ = (#[.int .i64 2, .int .i64 0, .string ⟨#[]⟩, .slice none 0 0] : Array Value)[j]? := fun j => by simp [World.cell?, hya]
    clear hxa hya
    generalize w2.heap.size = kk at *
    go_wp2
    exact bodyPost_ret (fn := Tryz.f36) (v := .tuple #[.agg #[.int .i64 2, .int .i64 0, .string ⟨#[]⟩, .slice none 0 0], .int .i64 0, .string ⟨#[]⟩]) (ref9_res (p := 4) (q := 5) (r := 6) (ty := 34) (a := ⟨w.heap.size, 0, none⟩) Tryz.results36 rfl (run_loadVar_row (P := Tryz.prog) _ _ _ 34 _ _ _ (blk_set (blk_set (blk_set (blk_set HXa.out 0 (.int .i64 2)) 1 (.int .i64 0)) 2 (.string ⟨#[]⟩)) 3 (.slice none 0 0)) Tryz.underlying34 rfl (by kernel_rfl)) rfl rfl) rfl ⟨by rw [hr.out]; simp, below9_set4 HBa.out _ _ _ _⟩
  · go_upto_region 13 with fail
    have hxa := blk9 (ds := #[.int .i64 2, .int .i64 1, .string ⟨#[]⟩, .slice none 0 0]) HX2.out 34
    have hya := heap_alloc_new w2 (.cells #[.int .i64 2, .int .i64 1, .string ⟨#[]⟩, .slice none 0 0] 34)
    have HBa := Lib.hid (HB2.out.alloc (by omega) (.cells #[.int .i64 2, .int .i64 1, .string ⟨#[]⟩, .slice none 0 0] 34))
    have HXa := Lib.hid hxa
    clear f0 g0
    generalize w2.alloc (.cells #[.int .i64 2, .int .i64 1, .string ⟨#[]⟩, .slice none 0 0] 34) = W at *
    have f0 : ∀ j, W.cell? ⟨w.heap.size, j, none⟩ = (#[.int .i64 0, .int .i64 0, .string ⟨#[]⟩, .slice none 0 0] : Array Value)[j]? := fun j => by simp [World.cell?, hxa]
    have g0 : ∀ j, W.frozen? ⟨w.heap.size, j, none⟩ = false := fun j => by simp [World.frozen?, hxa]
    have y0 : ∀ j, W.cell? ⟨w2.heap.size, j, none⟩ = (#[.int .i64 2, .int .i64 1, .string ⟨#[]⟩, .slice none 0 0] : Array Value)[j]? := fun j => by simp [World.cell?, hya]
    clear hxa hya
    generalize w2.heap.size = kk at *
    go_wp2
    exact bodyPost_ret (fn := Tryz.f36) (v := .tuple #[.agg #[.int .i64 2, .int .i64 1, .string ⟨#[]⟩, .slice none 0 0], .int .i64 0, .string ⟨#[]⟩]) (ref9_res (p := 4) (q := 5) (r := 6) (ty := 34) (a := ⟨w.heap.size, 0, none⟩) Tryz.results36 rfl (run_loadVar_row (P := Tryz.prog) _ _ _ 34 _ _ _ (blk_set (blk_set (blk_set (blk_set HXa.out 0 (.int .i64 2)) 1 (.int .i64 1)) 2 (.string ⟨#[]⟩)) 3 (.slice none 0 0)) Tryz.underlying34 rfl (by kernel_rfl)) rfl rfl) rfl ⟨by rw [hr.out]; simp, below9_set4 HBa.out _ _ _ _⟩
end Go.Proofs.YtjdpnljaichdmaaGreatDoor

/-
  espalierlaw9.works at every operation; TruthWork: walks. Conditions: the values lie in memory.
-/
namespace Go.Proofs.YtjdpnljaichdmaaGreatDoor
open Go.RowKit
set_option linter.unusedVariables false

/-- What truth gives, whatever is asked. -/
def tRes (op : ByteArray) (ps : List Pl) : Int × Bool := if op = tNot then tWork1 ps else if op = tSame then tWork2 ps else (1, false)
theorem truth_Work (op : ByteArray) (ps : List Pl) (A : Option Addr) (c : Nat) (w : World) (hlen : ps.length * 56 ≤ 140737488351232) (hl : Pls.lies w w.heap.size ps A) :
    Calls Tryz.prog 17 #[.string op, .slice A ps.length c] w (Bel (tOut (tRes op ps)) w) := by
  unfold tRes
  by_cases h1 : op = tNot
  · subst h1; rw [if_pos rfl]; exact truth_Work_not ps A c w hlen hl
  · rw [if_neg h1]
    by_cases h2 : op = tSame
    · subst h2; rw [if_pos rfl]; exact truth_Work_same ps A c w hlen hl
    · rw [if_neg h2]; exact truth_Work_other op h1 h2 _ w
theorem ref9_Work (op : ByteArray) (ps : List Pl) (A : Option Addr) (c : Nat) (w : World) (hlen : ps.length * 56 ≤ 140737488351232) (hl : Pls.lies w w.heap.size ps A) :
    Calls Tryz.prog 36 #[.string op, .slice A ps.length c] w (Bel (refOut (tRes op ps)) w) := by
  unfold tRes
  by_cases h1 : op = tNot
  · subst h1
    rw [if_pos rfl]
    have hm := may_not ps
    by_cases hc : ps.length = 1
    · obtain ⟨p, rfl⟩ := List.length_eq_one_iff.1 hc
      rw [if_pos hc] at hm
      cases hp : p.mayB
      · rw [if_neg (by simp [hp])] at hm
        have e : tWork1 [p] = (1, false) := by unfold tWork1; simp [hp]
        rw [e]
        exact ref9_Work_no tNot [p] 1 hm (by decide) A c w hlen hl
      · have e : tWork1 [p] = tDo1 p.toVl := by unfold tWork1; simp [hp]
        rw [e]
        exact ref9_Work_not1 p hp A c w hl
    · rw [if_neg hc] at hm
      have e : tWork1 ps = (11, false) := by
        unfold tWork1
        split
        · exact absurd rfl hc
        · rfl
      rw [e]
      exact ref9_Work_no tNot ps 11 hm (by decide) A c w hlen hl
  rw [if_neg h1]
  by_cases h2 : op = tSame
  · subst h2
    rw [if_pos rfl]
    have hm := may_same ps
    by_cases hc : ps.length = 2
    · obtain ⟨p, q, rfl⟩ : ∃ p q, ps = [p, q] := by
        match ps, hc with
        | [p, q], _ => exact ⟨p, q, rfl⟩
      rw [if_pos hc] at hm
      cases hp : p.mayB && q.mayB
      · rw [if_neg (by simp only [List.all_cons, List.all_nil, Bool.and_true, hp]; decide)] at hm
        have e : tWork2 [p, q] = (1, false) := by unfold tWork2; simp only [hp]; rfl
        rw [e]
        exact ref9_Work_no tSame [p, q] 1 hm (by decide) A c w hlen hl
      · have e : tWork2 [p, q] = tDo2 p.toVl q.toVl := by unfold tWork2; simp only [hp]; rfl
        rw [e]
        simp only [Bool.and_eq_true] at hp
        exact ref9_Work_same2 p q hp.1 hp.2 A c w hl
    · rw [if_neg hc] at hm
      have e : tWork2 ps = (11, false) := by
        unfold tWork2
        split
        · exact absurd rfl hc
        · rfl
      rw [e]
      exact ref9_Work_no tSame ps 11 hm (by decide) A c w hlen hl
  · rw [if_neg h2]
    exact ref9_Work_no op ps 1 (may_other h1 h2) (by decide) A c w hlen hl
theorem truth_works (op : ByteArray) (ps : List Pl) (A : Option Addr) (c : Nat) (w : World) (hlen : ps.length * 56 ≤ 140737488351232) (hl : Pls.lies w w.heap.size ps A) : Calls Tryz.prog 15 #[.agg #[.string op, .slice A ps.length c]] w (Bel (.bool true) w) := by
  generalize hr : tRes op ps = r
  refine law9_works op ps A c w hlen hl (R := fun v n s _ => v = (if r.1 = 0 then .iface 49 (.bool r.2) else .nilIface) ∧ n = r.1 ∧ s = ⟨#[]⟩) (R' := fun p A' c' n s _ => p = .mk (if r.1 = 0 then 2 else 0) (if r.1 = 0 ∧ r.2 = true then 1 else 0) ⟨#[]⟩ [] ∧ A' = none ∧ c' = 0 ∧ n = r.1 ∧ s = ⟨#[]⟩) ?_ ?_ ?_
  · intro _ A c w h
    refine (truth_Work op ps A c w hlen h).mono ?_
    rintro e w' ⟨rfl, hb⟩
    exact ⟨_, _, _, by rw [hr]; rfl, ⟨rfl, rfl, rfl⟩, hb⟩
  · intro _ A c w h
    refine (ref9_Work op ps A c w hlen h).mono ?_
    rintro e w' ⟨rfl, hb⟩
    exact ⟨.mk (if r.1 = 0 then 2 else 0) (if r.1 = 0 ∧ r.2 = true then 1 else 0) ⟨#[]⟩ [], none, 0, _, _, by rw [hr]; rfl, ⟨rfl, rfl, rfl, rfl, rfl⟩, hb⟩
  · rintro v n s p A' c' n' s' w1 w2 w3 ⟨rfl, rfl, rfl⟩ _ ⟨rfl, rfl, rfl, rfl, rfl⟩ _
    refine ⟨rfl, ?_⟩
    by_cases h0 : r.1 = 0
    · have e : (if r.1 = 0 ∧ r.2 = true then 1 else 0 : Int) = if r.2 = true then 1 else 0 := by simp [h0]
      rw [if_pos h0, if_pos h0, h0] at *
      rw [show (if (0 : Int) = 0 ∧ r.2 = true then 1 else 0 : Int) = if r.2 = true then 1 else 0 by simp]
      exact law2_Fits_one (.truth r.2) rfl (by unfold Vl.fine; trivial) _ (fun _ => True) w3 (by unfold Vl.is; rfl) none 0
    · rw [if_neg h0, if_neg h0]
      exact law2_Fits_fault r.1 h0 _ w3 none 0
theorem law_TruthWork (n : Nat) (A : Option Addr) (c : Nat) (w : World) (hA : 0 < n → ∃ b o, A = some ⟨b, o, none⟩ ∧ ∀ k, k < n → ∃ op ps A c, CallAt w b (o + k * 2) op ps A c) :
    Calls Tryz.prog 6 #[.slice A n c] w (Bel (.bool true) w) := law9_ops truth_works n A c w hA
end Go.Proofs.YtjdpnljaichdmaaGreatDoor

/-
  espalierlaw9.TruthSame: a walk. Conditions: the values lie in memory.
-/
namespace Go.Proofs.YtjdpnljaichdmaaGreatDoor
open Go.RowKit
set_option linter.unusedVariables false

/-- Two plain values in a new block. -/
theorem two_lies (p q : Pl) (A A' : Option Addr) (c c' : Nat) (w : World) (T : TypeId) (hp : p.sane) (hq : q.sane) (hl : Pls.lies w w.heap.size p.list A) (hl' : Pls.lies w w.heap.size q.list A') :
    Pls.lies (w.alloc (.cells #[.int .i64 p.kind, .int .i64 p.num, .string p.text, .slice A p.list.length c, .int .i64 q.kind, .int .i64 q.num, .string q.text, .slice A' q.list.length c'] T)) (w.heap.size + 1) [p, q] (some ⟨w.heap.size, 0, none⟩) := by
  have hc := fun j => World.cell?_alloc_new w #[.int .i64 p.kind, .int .i64 p.num, .string p.text, .slice A p.list.length c, .int .i64 q.kind, .int .i64 q.num, .string q.text, .slice A' q.list.length c'] T j
  have hk := hl.keep (w' := w.alloc (.cells #[.int .i64 p.kind, .int .i64 p.num, .string p.text, .slice A p.list.length c, .int .i64 q.kind, .int .i64 q.num, .string q.text, .slice A' q.list.length c'] T)) (B' := w.heap.size + 1) (fun b o hb => World.cell?_alloc_lt _ _ _ hb) (by omega)
  have hk' := hl'.keep (w' := w.alloc (.cells #[.int .i64 p.kind, .int .i64 p.num, .string p.text, .slice A p.list.length c, .int .i64 q.kind, .int .i64 q.num, .string q.text, .slice A' q.list.length c'] T)) (B' := w.heap.size + 1) (fun b o hb => World.cell?_alloc_lt _ _ _ hb) (by omega)
  obtain ⟨k, n, t, l⟩ := p
  obtain ⟨k', n', t', l'⟩ := q
  unfold Pls.lies
  refine ⟨w.heap.size, 0, rfl, ?_, ?_⟩
  · unfold Pl.lies
    exact ⟨by omega, hc 0, hc 1, hc 2, hp.1, hp.2.1, hp.2.2.1, hp.2.2.2, A, c, hc 3, hk⟩
  · unfold Pls.lies
    refine ⟨w.heap.size, 4, rfl, ?_, by unfold Pls.lies; trivial⟩
    unfold Pl.lies
    exact ⟨by omega, hc 4, hc 5, hc 6, hq.1, hq.2.1, hq.2.2.1, hq.2.2.2, A', c', hc 7, hk'⟩
theorem same_case (p q : Pl) : (tOut (tWork2 [p, q]) = .tuple #[.nilIface, .int .i64 1, .string ⟨#[]⟩] ∧ tOut (tWork2 [q, p]) = .tuple #[.nilIface, .int .i64 1, .string ⟨#[]⟩]) ∨
    (tOut (tWork2 [p, q]) = .tuple #[.iface 49 (.bool (p.eqB q)), .int .i64 0, .string ⟨#[]⟩] ∧ tOut (tWork2 [q, p]) = .tuple #[.iface 49 (.bool (p.eqB q)), .int .i64 0, .string ⟨#[]⟩]) := by
  have h1 : tWork2 [p, q] = if p.mayB && q.mayB then tDo2 p.toVl q.toVl else (1, false) := rfl
  have h2 : tWork2 [q, p] = if q.mayB && p.mayB then tDo2 q.toVl p.toVl else (1, false) := rfl
  rw [Bool.and_comm] at h2
  cases hb : p.mayB && q.mayB
  · rw [hb] at h1 h2
    exact .inl ⟨by rw [h1]; rfl, by rw [h2]; rfl⟩
  · rw [hb, if_pos rfl] at h1 h2
    simp only [Bool.and_eq_true] at hb
    refine .inr ⟨?_, ?_⟩
    · rw [h1]; unfold tDo2; rw [Pl.same_eq p q (may_norm hb.1) (may_norm hb.2)]; rfl
    · rw [h2]; unfold tDo2; rw [Pl.same_eq q p (may_norm hb.2) (may_norm hb.1), Pl.eqB_comm]; rfl
theorem not_case (b : Bool) : tOut (tWork1 [tPl b]) = .tuple #[.iface 49 (.bool (!b)), .int .i64 0, .string ⟨#[]⟩] := by cases b <;> rfl
set_option maxRecDepth 100000 in
set_option maxHeartbeats 8000000 in
theorem law_TruthSame (p q : Pl) (A A' : Option Addr) (c c' : Nat) (b : Bool) (w : World) (hp : p.sane) (hq : q.sane) (hl : Pls.lies w w.heap.size p.list A) (hl' : Pls.lies w w.heap.size q.list A') :
    Calls Tryz.prog 7 #[p.arg A c, q.arg A' c', .bool b] w (Bel (.bool true) w) := by
  have hcase := same_case p q
  have HB0 := Lib.hid (((Below.refl w.heap.size w).alloc (Nat.le_refl _) (.cells #[.int .i64 p.kind, .int .i64 p.num, .string p.text, .slice A p.list.length c] 34)).alloc (by simp) (.cells #[.int .i64 q.kind, .int .i64 q.num, .string q.text, .slice A' q.list.length c'] 34))
  have HC := Lib.hid (fun w1 h => two9_cells (w := w) (w1 := w1) (X := .cells #[.int .i64 p.kind, .int .i64 p.num, .string p.text, .slice A p.list.length c] 34) (X' := .cells #[.int .i64 q.kind, .int .i64 q.num, .string q.text, .slice A' q.list.length c'] 34) rfl rfl h)
  have KL := Lib.hid (fun (w1 : World) (hb : Below w.heap.size w w1) => law9_light [p, q] (some ⟨w1.heap.size, 0, none⟩) 2 (w1.alloc (.cells #[.int .i64 p.kind, .int .i64 p.num, .string p.text, .slice A p.list.length c, .int .i64 q.kind, .int .i64 q.num, .string q.text, .slice A' q.list.length c'] 34)) (by simp) (by rw [size_alloc]; exact two_lies p q A A' c c' w1 _ hp hq (hl.below hb hb.size) (hl'.below hb hb.size)))
  have KC := Lib.hid (fun (w1 : World) (hb : Below w.heap.size w w1) => truth_Work_same [p, q] (some ⟨w1.heap.size, 0, none⟩) 2 (w1.alloc (.cells #[.int .i64 p.kind, .int .i64 p.num, .string p.text, .slice A p.list.length c, .int .i64 q.kind, .int .i64 q.num, .string q.text, .slice A' q.list.length c'] 34)) (by simp) (by rw [size_alloc]; exact two_lies p q A A' c c' w1 _ hp hq (hl.below hb hb.size) (hl'.below hb hb.size)))
  have KD := Lib.hid (fun (w1 : World) (hb : Below w.heap.size w w1) => truth_Work_same [q, p] (some ⟨w1.heap.size, 0, none⟩) 2 (w1.alloc (.cells #[.int .i64 q.kind, .int .i64 q.num, .string q.text, .slice A' q.list.length c', .int .i64 p.kind, .int .i64 p.num, .string p.text, .slice A p.list.length c] 34)) (by simp) (by rw [size_alloc]; exact two_lies q p A' A c' c w1 _ hq hp (hl'.below hb hb.size) (hl.below hb hb.size)))
  have KT := Lib.hid (fun w1 : World => law9_truths [b] (by simp) w1.heap.size 0 1 (w1.alloc (.cells #[.bool b] 4)) (bool_cells [b] w1 4))
  have KN := Lib.hid (fun (w1 : World) (A3 : Option Addr) (c3 : Nat) (h : Pls.lies w1 w1.heap.size [tPl b] A3) => truth_Work_not [tPl b] A3 c3 w1 (by simp) h)
  have KE := Lib.hid (fun (w1 : World) (hb : Below w.heap.size w w1) => law2_EqB p q A A' c c' w1 hp hq (hl.below hb hb.size) (hl'.below hb hb.size))
  rw [not_case] at KN
  unfold tSame at KC KD
  unfold tNot at KN
  simp only [List.length_cons, List.length_nil, Nat.zero_add, Nat.reduceAdd] at KL KC KD KT KN
  have hnil : ∀ w, (binOp .eql 37 .nilIface .nilIface).run Tryz.prog w = .ok (.bool true) w := fun _ => rfl
  have hun : ∀ (z : Bool) (w : World), (binOp .neq 37 (.iface 49 (.bool z)) (.iface 49 (.bool z))).run Tryz.prog w = .ok (.bool false) w := fun z w => by cases z <;> kernel_rfl
  have hug : ∀ (z : Bool) (x y : Operand) (w : World), (eqGuard .neq 37 x y (.iface 49 (.bool z)) (.iface 49 (.bool z))).run Tryz.prog w = .ok () w := fun z x y w => by simp [eqGuard, go_sem]
  have hua := fun z => pf_as_Truth (.bool z)
  unfold Pl.arg at KE ⊢
  generalize p.eqB q = z at *
  clear hl hl' hp hq
  rcases hcase with ⟨e1, e2⟩ | ⟨e1, e2⟩
  all_goals
    rw [e1] at KC
    rw [e2] at KD
    clear e1 e2
    go_enter Tryz.func7, Tryz.ntmps7
    go_wp2_with fail
    refine (law9_begun _).mono ?_
    rintro e w1 ⟨rfl, hb1⟩
    have HB1 := Lib.hid (HB0.out.trans (hb1.mono HB0.out.size))
    have HX1 := Lib.hid (hb1.mono (B' := w.heap.size + 2) (by simp))
    obtain ⟨f0, f1⟩ := HC.out w1 HX1.out
    clear hb1
    go_wp2_with fail
    refine (KL.out w1 HB1.out).mono ?_
    rintro e w2 ⟨r, rfl, _, hb2⟩
    have HY2 := Lib.hid ((Below.refl w1.heap.size w1).alloc (Nat.le_refl _) (.cells #[.int .i64 p.kind, .int .i64 p.num, .string p.text, .slice A p.list.length c, .int .i64 q.kind, .int .i64 q.num, .string q.text, .slice A' q.list.length c'] 34) |>.trans (hb2.mono (by rw [size_alloc]; omega)))
    have HB2 := Lib.hid (HB1.out.trans (HY2.out.mono HB1.out.size))
    have HX2 := Lib.hid (HX1.out.trans (HY2.out.mono (by have := HX1.out.size; simpa using this)))
    obtain ⟨g0, g1⟩ := HC.out w2 HX2.out
    clear hb2 f0 f1
    cases r
    · go_wp2
      go_ret
      exact ⟨rfl, HB2.out⟩
    go_wp2_with fail
    refine (KC.out w2 HB2.out).mono ?_
    rintro e w3 ⟨rfl, hb3⟩
    have HY3 := Lib.hid ((Below.refl w2.heap.size w2).alloc (Nat.le_refl _) (.cells #[.int .i64 p.kind, .int .i64 p.num, .string p.text, .slice A p.list.length c, .int .i64 q.kind, .int .i64 q.num, .string q.text, .slice A' q.list.length c'] 34) |>.trans (hb3.mono (by rw [size_alloc]; omega)))
    have HB3 := Lib.hid (HB2.out.trans (HY3.out.mono HB2.out.size))
    have HX3 := Lib.hid (HX2.out.trans (HY3.out.mono (by have := HX2.out.size; simpa using this)))
    obtain ⟨f0, f1⟩ := HC.out w3 HX3.out
    clear hb3 g0 g1
    go_wp2_with fail
    refine (KD.out w3 HB3.out).mono ?_
    rintro e w4 ⟨rfl, hb4⟩
    have HY4 := Lib.hid ((Below.refl w3.heap.size w3).alloc (Nat.le_refl _) (.cells #[.int .i64 q.kind, .int .i64 q.num, .string q.text, .slice A' q.list.length c', .int .i64 p.kind, .int .i64 p.num, .string p.text, .slice A p.list.length c] 34) |>.trans (hb4.mono (by rw [size_alloc]; omega)))
    have HB4 := Lib.hid (HB3.out.trans (HY4.out.mono HB3.out.size))
    have HX4 := Lib.hid (HX3.out.trans (HY4.out.mono (by have := HX3.out.size; simpa using this)))
    obtain ⟨g0, g1⟩ := HC.out w4 HX4.out
    clear hb4 f0 f1
    go_wp2_with fail
    refine (KT.out w4).mono ?_
    rintro e w5 ⟨A5, c5, rfl, hl5, hb5⟩
    have KN5 := Lib.hid (KN.out w5 A5 c5 hl5)
    have HY5 := Lib.hid ((Below.refl w4.heap.size w4).alloc (Nat.le_refl _) (.cells #[.bool b] 4) |>.trans (hb5.mono (by rw [size_alloc]; omega)))
    have HB5 := Lib.hid (HB4.out.trans (HY5.out.mono HB4.out.size))
    have HX5 := Lib.hid (HX4.out.trans (HY5.out.mono (by have := HX4.out.size; simpa using this)))
    clear hb5 hl5 g0 g1
    go_wp2_with fail
    refine KN5.out.mono ?_
    rintro e w6 ⟨rfl, hb6⟩
    have HB6 := Lib.hid (HB5.out.trans (hb6.mono HB5.out.size))
    have HX6 := Lib.hid (HX5.out.trans (hb6.mono (by have := HX5.out.size; simpa using this)))
    obtain ⟨g0, g1⟩ := HC.out w6 HX6.out
    clear hb6
  · cases b
    all_goals
      go_wp2
      go_ret
      exact ⟨rfl, HB6.out⟩
  · cases b
    all_goals
      cases z
      all_goals
        go_wp2_with fail
        refine (KE.out w6 HB6.out).mono ?_
        rintro e w7 ⟨rfl, hb7⟩
        have HB7 := Lib.hid (HB6.out.trans (hb7.mono HB6.out.size))
        clear hb7
        go_wp2
        go_ret
        exact ⟨rfl, HB7.out⟩
end Go.Proofs.YtjdpnljaichdmaaGreatDoor

/-
  What is proved: the card of 'espalierlaw9.TruthSame' (Rows.TruthSameCardSaid): for every input it returns true and changes nothing that was there. Conditions: none beyond the row's own.
-/
namespace Go.Proofs.YtjdpnljaichdmaaGreatDoor.truthSame
open Go.Proofs.YtjdpnljaichdmaaGreatDoor Go.ChangeShapes Go.WideShapes Go.ChangeAt Go.RowKit Go.Joins
set_option linter.unusedVariables false

set_option maxRecDepth 100000 in
theorem contract (H : Type) (enc : TypeId × Value → H) (W : World) (base : Nat) (args : Array Value) (ds gs : List (DataW H)) (before : List MemPlace)
    (hval : ∀ (j : Nat) t v, Tryz.f7.params[j]? = some t → args[j]? = some v → Value.okWide Tryz.prog W .any base t v)
    (hW : DataW.Whole enc Tryz.prog Tryz.f7.params.toList Rows.truthSameSpec.vars false W args.toList ds gs before)
    (hsz : (DataW.weightsEach Tryz.prog (Tryz.f7.params.toList ++ (OpenSpec.ofChange Rows.truthSameSpec).bare.plain.varTypes Tryz.prog) (ds ++ gs)).all (· ≤ reachBytes) = true) :
    Calls Tryz.prog 7 args W fun e W' => ∃ v, e = .returned v ∧ Rows.truthSameSpec.post enc Tryz.prog Tryz.f7 false true false false W args v W' := by
  have hW' := hW
  have hlt : ∀ p ∈ before, p.block < W.heap.size := fun p hp => hW.lt p hp
  obtain ⟨p, q, hA0, hV, rfl, hfz, hnd⟩ := hW
  have hA : DataW.TrodAll enc Tryz.prog W 0 (fun _ => true) true Tryz.f7.params.toList args.toList ds p := hA0
  have hAll := hA
  have hpp : Tryz.f7.params = #[34, 34, 4] := Tryz.params7
  rw [hpp] at hA hval hsz hAll
  obtain ⟨v0, vs0, d0, ds0, p0, q0, hargs, rfl, rfl, h0, r0⟩ := trodAll_cons hA
  obtain ⟨v1, vs1, d1, ds1, p1, q1, rfl, rfl, rfl, h1, r1⟩ := trodAll_cons r0
  obtain ⟨v2, vs2, d2, ds2, p2, q2, rfl, rfl, rfl, h2, r2⟩ := trodAll_cons r1
  obtain ⟨rfl, rfl, rfl⟩ := trodAll_nil r2
  obtain rfl : args = #[v0, v1, v2] := by cases args; simp_all
  obtain ⟨rfl, rfl⟩ := trodVars_none hV
  clear hA0
  simp only [List.append_nil] at hW' hlt hAll
  obtain ⟨cs0, rfl, hsz0⟩ := okWide_struct Tryz.underlying34 (hval 0 34 _ rfl rfl)
  obtain ⟨fuel0, h0⟩ := h0
  obtain ⟨e0, A0, c0, hc0, hs0, hl0⟩ := open_plain _ _ _ (d0, p0) (Nat.le_refl _) (by simpa [Value.cells] using h0) (fun p hp => hlt p (by simp at hp ⊢; simp [hp])) (fun m hm => of_decide_eq_true (List.all_eq_true.1 hsz m (DataW.weights_mem_each (j := 0) rfl rfl m hm)))
  obtain ⟨cs0⟩ := cs0
  simp only at hc0
  subst hc0
  obtain ⟨cs1, rfl, hsz1⟩ := okWide_struct Tryz.underlying34 (hval 1 34 _ rfl rfl)
  obtain ⟨fuel1, h1⟩ := h1
  obtain ⟨e1, A1, c1, hc1, hs1, hl1⟩ := open_plain _ _ _ (d1, p1) (Nat.le_refl _) (by simpa [Value.cells] using h1) (fun p hp => hlt p (by simp at hp ⊢; simp [hp])) (fun m hm => of_decide_eq_true (List.all_eq_true.1 hsz m (DataW.weights_mem_each (j := 1) rfl rfl m hm)))
  obtain ⟨cs1⟩ := cs1
  simp only at hc1
  subst hc1
  obtain ⟨b2, rfl, rfl, rfl⟩ := open_bool Tryz.underlying4 (hval 2 4 _ rfl rfl) h2
  refine (law_TruthSame e0 e1 A0 A1 c0 c1 b2 W hs0 hs1 hl0 hl1).mono fun e W' ⟨he, hg⟩ => ?_
  subst he
  refine ⟨_, rfl, post_of_below (pa := p0 ++ (p1 ++ ([]))) (pv := []) hW' (fun _ _ _ => (trodAll_cons_mk (shut_bool Tryz.underlying4 _) trodAll_mk0)) (fun sp hsp => ?_) (fun _ _ => rfl) (by simp)
    hg (ok_one (by kernel_rfl) rfl (okWide_bool_mk Tryz.underlying4 _))⟩
  rw [hpp]
  exact trodAll_keeps plLaid hg (by kernel_rfl) hAll (fun x hx => hlt x (by simpa using hx)) (fun x hx => hsp x (by simpa using hx))
def wit : Array Value := #[.agg #[.int .i64 0, .int .i64 0, .string ⟨#[]⟩, .slice none 0 0], .agg #[.int .i64 0, .int .i64 0, .string ⟨#[]⟩, .slice none 0 0], .bool false]
theorem laid_met (os : Os) : laidMet Tryz.prog Rows.truthSameRow.laid ((opWorld os).forCall (fun _ _ => 0) ⟨#[], wit, []⟩).memory :=
  laidMet_of_run' 8 (by kernel_rfl) (by kernel_rfl)
theorem reads (os : Os) {H : Type} (enc : TypeId × Value → H) : ∃ places, DataW.whole enc Tryz.prog ((opWorld os).forCall (fun _ _ => 0) ⟨#[], wit, []⟩).memory Tryz.f7.params.toList Rows.truthSameSpec.vars false wit.toList 8 = some ([.agg [.lit (.int .i64 0), .lit (.int .i64 0), .lit (.string []), .nil], .agg [.lit (.int .i64 0), .lit (.int .i64 0), .lit (.string []), .nil], .lit (.bool false)], [], places) :=
  ⟨[], by kernel_rfl⟩
set_option maxRecDepth 100000 in
theorem lifted (os : Os) (started : os.Started) (H : Type) (enc : TypeId × Value → H) (F : Stop.Interp) :
    ReturnsInHanded {} Tryz.checked os 7 .any ((OpenSpec.ofChange Rows.truthSameSpec).preRow enc Tryz.prog Tryz.f7 Rows.truthSameRow.domain false Rows.truthSameRow.laid) (((OpenSpec.ofChange Rows.truthSameSpec).at F).post enc Tryz.prog Tryz.f7 false true false false) := by
  obtain ⟨places, hx⟩ := reads os enc
  refine returnsInHanded_of_row (C := Tryz.checked) (s := OpenSpec.ofChange Rows.truthSameSpec) opOwn started (by kernel_rfl) Tryz.func7
    (witness_row_at (enc := enc) (C := Tryz.checked) false (opWorld os) wit rfl (by kernel_rfl) (by kernel_rfl) (by kernel_rfl)
      (OpenSpec.preRow_of_cond 8 hx (by kernel_rfl) (fun k hk => by cases hk) (by kernel_rfl) (laid_met os))) ?_
  intro W base args ds gs before hval hW _ _ hsz hL hsh _
  exact contract H enc W base args ds gs before hval hW hsz
theorem said : Rows.TruthSameSaid :=
  OpenClaim.holds_of_cond 7 Tryz.f7 rfl rfl rfl rfl rfl rfl rfl ⟨rfl, rfl, rfl, rfl, rfl⟩ rfl rfl rfl rfl rfl (by kernel_rfl) Tryz.func7 (by kernel_rfl)
    (of_decide_eq_true (by kernel_rfl)) (by unfold Func.isWrapper; first | (rw [if_pos (by decide +kernel)]; kernel_rfl) | (rw [if_neg (by decide +kernel)]; exact ⟨rfl, rfl⟩))
    (fun os started H enc _ F => by rw [OpenClaim.pre_eq_preRow]; exact lifted os started H enc F)
theorem plain (f : FuncId) (fn : Func) (hf : Tryz.pinned.checked.prog.funcNamed "espalier/espalierlaw9.TruthSame" = some f) (hfn : Tryz.pinned.checked.prog.funcs[f]? = some fn) :
    true = Tryz.pinned.checked.prog.looks [] ∧ ∀ (j : Nat) t, fn.params[j]? = some t → Tryz.pinned.checked.prog.wantsStandIn t = false := by
  obtain rfl : f = 7 := Option.some.inj ((show Tryz.prog.funcNamed "espalier/espalierlaw9.TruthSame" = some 7 by kernel_rfl).symm.trans hf) |>.symm
  obtain rfl : fn = Tryz.f7 := (Option.some.inj (Tryz.func7.symm.trans hfn)).symm
  refine ⟨by kernel_rfl, fun j t ht => ?_⟩
  rw [Tryz.params7] at ht
  have hm := Array.mem_of_getElem? ht
  simp at hm
  rcases hm with rfl | rfl
  · exact (show Tryz.prog.wantsStandIn 34 = false by kernel_rfl)
  · exact (show Tryz.prog.wantsStandIn 4 = false by kernel_rfl)
/-- ████ THE CARD ████ -/
theorem proved : Rows.TruthSameCardSaid :=
  Claim7.holds_tied_plain_at .later [] _ _ _ _ said (fun _ h => by cases h) (by kernel_rfl) (fun _ h => by cases h) truthSame_row_tie rfl ⟨rfl, rfl⟩ (by kernel_rfl) rfl plain (by kernel_rfl)
end Go.Proofs.YtjdpnljaichdmaaGreatDoor.truthSame
