/-
  Part 8 of 8 of a proof, several texts in a row: PackW, LawNumWork, PlCalls, PNumWork. Conditions: each text names its own.
-/
import Derived.Test.YtcdjnkeomaidaaaGreatM05
import Derived.Test.YtcdjnkeomaidaaaGreatM07
import Derived.Deep.RegionHeld3
import Derived.Test.YtcdjnkeomaidaaaGreatM02
import Derived.Test.YtcdjnkeomaidaaaGreatRows
import Derived.WalkKit
import Derived.ProofKit
import Derived.OpenShut
/-
  espalierlaw8.Worked: a walk, given what Fits comes to. Written by a program of mine (gen_packw.py). Conditions: none.
-/
namespace Go.Proofs.YtcdjnkeomaidaaaGreat
open Go.RowKit
set_option linter.unusedVariables false

set_option maxRecDepth 100000 in
theorem law_Worked (v : Value) (e : Int) (said : ByteArray) (p : Pl) (A : Option Addr) (c : Nat) (w : World)
    (hF : ∀ w', Below w.heap.size w w' → Calls Tryz.prog 24 #[v, .int .i64 e, p.arg A c, .int .i64 e] w' (Bel (.bool true) w')) :
    Calls Tryz.prog 8 #[v, .int .i64 e, .string said, p.arg A c, .int .i64 e, .string said] w (Bel (.bool true) w) := by
  have HB := Lib.hid ((Below.refl w.heap.size w).alloc (Nat.le_refl _) (.cells #[.int .i64 p.kind, .int .i64 p.num, .string p.text, .slice A p.list.length c] 34))
  have K := Lib.hid (hF _ HB.out)
  have hs : (said.toList == said.toList) = true := by simp
  unfold Pl.arg at K ⊢
  clear hF
  go_enter Tryz.func8, Tryz.ntmps8
  go_wp2_with fail
  refine K.out.mono ?_
  rintro e w1 ⟨rfl, hb⟩
  have HB1 := Lib.hid (HB.out.trans (hb.mono (by simp)))
  clear hb
  go_wp2
  go_ret
  exact ⟨rfl, HB1.out⟩
end Go.Proofs.YtcdjnkeomaidaaaGreat

/-
  espalierlaw8.NumWork: a walk, for any calls. Conditions: they lie in memory.
-/
namespace Go.Proofs.YtcdjnkeomaidaaaGreat
open Go.RowKit
set_option linter.unusedVariables false

/-- A call, as it lies in memory. -/
structure CallAt (w : World) (b o : Nat) (op : ByteArray) (ps : List Pl) (A : Option Addr) (c : Nat) : Prop where
  op_ : w.cell? ⟨b, o, none⟩ = some (.string op)
  args : w.cell? ⟨b, o + 1, none⟩ = some (.slice A ps.length c)
  len : ps.length * 56 ≤ 140737488351232
  lies : Pls.lies w w.heap.size ps A
theorem CallAt.below {w w' : World} {b o : Nat} {op : ByteArray} {ps : List Pl} {A : Option Addr} {c : Nat} (h : CallAt w b o op ps A c) (hb : Below w.heap.size w w') : CallAt w' b o op ps A c :=
  ⟨(hb.cell (p := ⟨b, o, none⟩) (World.block_lt_of_cell? _ _ h.op_)).trans h.op_, (hb.cell (p := ⟨b, o + 1, none⟩) (World.block_lt_of_cell? _ _ h.args)).trans h.args, h.len, h.lies.below hb hb.size⟩
theorem Pls.lies.rngs {w : World} {B : Nat} : ∀ {l : List Pl} {A : Option Addr}, Pls.lies w B l A → ∀ p ∈ l, rng p.num = true
  | [], _, _, p, h => by cases h
  | q :: l, A, hl, p, h => by
    unfold Pls.lies at hl
    obtain ⟨b, o, _, h1, h2⟩ := hl
    rcases List.mem_cons.1 h with rfl | h
    · exact h1.nums.2
    · exact Pls.lies.rngs h2 p h

def NewHeld (w w' : World) : Prop := Hid (Below w.heap.size w w')
theorem NewHeld.alloc {w w' : World} (h : NewHeld w w') (o : Obj) : NewHeld w (w'.alloc o) := Lib.hid (h.out.alloc h.out.size o)
theorem NewHeld.next {w w' w2 : World} (h : NewHeld w w') (hb : Below w'.heap.size w' w2) : NewHeld w w2 := Lib.hid (h.out.trans (hb.mono h.out.size))
theorem NewHeld.set {w w' : World} (h : NewHeld w w') {p : Addr} (hp : w.heap.size ≤ p.block) (v : Value) : NewHeld w (w'.setCell p v) := Lib.hid (h.out.setCell hp v)
theorem NewHeld.set4 {w w' : World} (h : NewHeld w w') (x0 x1 x2 x3 : Value) : NewHeld w ((((w'.setCell ⟨w.heap.size, 0, none⟩ x0).setCell ⟨w.heap.size, 1, none⟩ x1).setCell ⟨w.heap.size, 2, none⟩ x2).setCell ⟨w.heap.size, 3, none⟩ x3) :=
  (((h.set (p := ⟨w.heap.size, 0, none⟩) (Nat.le_refl _) _).set (p := ⟨w.heap.size, 1, none⟩) (Nat.le_refl _) _).set (p := ⟨w.heap.size, 2, none⟩) (Nat.le_refl _) _).set (p := ⟨w.heap.size, 3, none⟩) (Nat.le_refl _) _
theorem NewHeld.size {w w' : World} (h : NewHeld w w') : w.heap.size ≤ w'.heap.size := h.out.size
theorem NewHeld.cells {w w' : World} (h : NewHeld w w') {b : Nat} (hb : b < w.heap.size) {o : Nat} {u v : Value} (g0 : w.cell? ⟨b, o, none⟩ = some u) (g1 : w.cell? ⟨b, o + 1, none⟩ = some v) :
    w'.cell? ⟨b, o, none⟩ = some u ∧ w'.cell? ⟨b, o + 1, none⟩ = some v ∧ NewHeld w w' :=
  ⟨(h.out.cell (p := ⟨b, o, none⟩) hb).trans g0, (h.out.cell (p := ⟨b, o + 1, none⟩) hb).trans g1, h⟩
theorem NewHeld.box {w3 w4 : World} {X : Obj} (hb : Below (w3.drew.alloc X).heap.size (w3.drew.alloc X) w4) : w4.heap[w3.heap.size]? = some X :=
  (hb.block w3.heap.size (by rw [size_alloc]; exact Nat.lt_succ_self _)).trans (heap_alloc_new w3.drew X)
theorem cells_of_block {w : World} {b : Nat} {cs : Array Value} {T : TypeId} {z : Nat × Nat} (h : w.heap[b]? = some (.cells cs T z)) (j : Nat) : w.cell? ⟨b, j, none⟩ = cs[j]? := by simp [World.cell?, h]
theorem free_of_block {w : World} {b : Nat} {cs : Array Value} {T : TypeId} (h : w.heap[b]? = some (.cells cs T (0, 0))) (j : Nat) : w.frozen? ⟨b, j, none⟩ = false := by simp [World.frozen?, h]
theorem outV_three (r : Int × Vl) : ∃ v, outV r = .tuple #[v, .int .i64 r.1, .string ⟨#[]⟩] ∧ (r.1 ≠ 0 → v = .nilIface) ∧ (r.1 = 0 → v = r.2.val1) := by
  unfold outV
  split
  · exact ⟨_, by simp_all, fun h => absurd ‹r.1 = 0› h, fun _ => rfl⟩
  · exact ⟨_, rfl, fun _ => rfl, fun h => absurd h ‹¬ r.1 = 0›⟩
theorem outP_three (r : Int × Vl) (h1 : r.1 = 0 → r.2.isList = false) : ∃ p : Pl, outP r = .tuple #[.agg #[.int .i64 p.kind, .int .i64 p.num, .string p.text, .slice none 0 0], .int .i64 r.1, .string ⟨#[]⟩] ∧ p.list = [] ∧ (r.1 = 0 → p = r.2.toPl) := by
  unfold outP
  split
  · rename_i h
    have hl : r.2.toPl.list = [] := toPl_list (h1 h)
    refine ⟨r.2.toPl, ?_, hl, fun _ => rfl⟩
    unfold okP Pl.arg
    rw [hl, h]
    rfl
  · exact ⟨.mk 0 0 ⟨#[]⟩ [], rfl, rfl, fun h => absurd h ‹¬ r.1 = 0›⟩

theorem law_worked_both (r : Int × Vl) (h1 : r.1 = 0 → r.2.isList = false ∧ r.2.fine) (vv : Value) (p : Pl) (hvf : r.1 ≠ 0 → vv = .nilIface) (hvo : r.1 = 0 → vv = r.2.val1) (hpl : p.list = []) (hpe : r.1 = 0 → p = r.2.toPl) (w : World) :
    Calls Tryz.prog 8 #[vv, .int .i64 r.1, .string ⟨#[]⟩, .agg #[.int .i64 p.kind, .int .i64 p.num, .string p.text, .slice none 0 0], .int .i64 r.1, .string ⟨#[]⟩] w (Bel (.bool true) w) := by
  have h := law_Worked vv r.1 ⟨#[]⟩ p none 0 w (fun w' hb => by
    by_cases h0 : r.1 = 0
    · obtain ⟨h2, h3⟩ := h1 h0
      rw [hvo h0, hpe h0, h0]
      exact law2_Fits_one r.2 h2 h3 _ (fun _ => True) w' (Vl.is_val1 h2 _ _) none 0
    · rw [hvf h0]
      exact law2_Fits_fault r.1 h0 p w' none 0)
  unfold Pl.arg at h
  rw [hpl] at h
  exact h
set_option maxRecDepth 100000 in
set_option maxHeartbeats 8000000 in
theorem law_NumWork (n : Nat) (A : Option Addr) (c : Nat) (w : World) (hA : 0 < n → ∃ b o, A = some ⟨b, o, none⟩ ∧ ∀ k, k < n → ∃ op ps A c, CallAt w b (o + k * 2) op ps A c) :
    Calls Tryz.prog 3 #[.slice A n c] w (Bel (.bool true) w) := by
  have HA := Lib.hid hA
  clear hA
  go_enter Tryz.func3, Tryz.ntmps3
  go_wp2_with fail
  refine (law_begun w).mono ?_
  rintro e w1 ⟨rfl, hb1⟩
  have HB1 := Lib.hid hb1
  clear hb1
  go_wp2
  go_loopw [3] (fun s3 wr => ∃ (k : Nat), k ≤ n ∧ s3 = .int .i64 (k : Int) ∧ Below w.heap.size w wr) (fun s3 _ => n - (intOf s3).toNat)
  case atStart => exact ⟨0, Nat.zero_le _, rfl, HB1.out⟩
  case round =>
    obtain ⟨k, hk, rfl, hbel⟩ := hrel
    have HB := Lib.hid hbel
    clear hbel
    by_cases hlt : k < n
    · by_cases h2k : k < 2000
      · obtain ⟨b, o, rfl, hcalls⟩ := HA.out (by omega)
        obtain ⟨op, ps, A', c', hcall⟩ := hcalls k hlt
        have HC := Lib.hid (hcall.below HB.out)
        obtain ⟨r, hboth⟩ := num_both op ps HC.out.lies.rngs
        have HBO := Lib.hid hboth
        clear hcalls hcall hboth
        have e0 := HC.out.op_
        have e1 := HC.out.args
        go_wp2_with fail
        refine (law_Twins ps A' c' wr HC.out.len HC.out.lies).mono ?_
        rintro e w2 ⟨v, us, rfl, hus, hown, hb2⟩
        have HB2 := Lib.hid hb2
        have HU := Lib.hid hus
        have HO := Lib.hid hown
        clear hb2 hus hown
        have hul : us.length = ps.length := by have := congrArg List.length HU.out; simpa using this
        obtain ⟨A2, c2, hv, _⟩ := HO.out.slice
        have HV := Lib.hid hv
        have HL2 := Lib.hid (HO.out.lies HB2.out.size hv)
        rw [HU.out] at HL2
        rw [hul] at hv
        subst hv
        have HC2 := Lib.hid (HC.out.below HB2.out)
        have f0 := HC2.out.op_
        have f1 := HC2.out.args
        clear e0 e1
        go_wp2_with fail
        refine (HBO.out.code A2 c2 w2 HC.out.len HL2.out).mono ?_
        obtain ⟨vv, hvv, hvf, hvo⟩ := outV_three r
        rw [hvv]
        rintro e w3 ⟨rfl, hb3⟩
        have HB3 := Lib.hid hb3
        have HC3 := Lib.hid (HC2.out.below HB3.out)
        have g0 := HC3.out.op_
        have g1 := HC3.out.args
        have HVF := Lib.hid hvf
        have HVO := Lib.hid hvo
        clear hb3 f0 f1 hvv hvf hvo
        go_upto_region 8 with fail
        obtain ⟨p, hp, hpl, hpe⟩ := outP_three r (fun h => (HBO.out.one h).1)
        have KR := Lib.hid (fun w' (h : Below w3.heap.size w3 w') => HBO.out.ref A' c' w' HC.out.len ((HC3.out.below h).lies))
        rw [hp] at KR
        have KW := Lib.hid (fun w' => law_worked_both r HBO.out.one vv p HVF.out HVO.out hpl hpe w')
        clear hp hpl hpe
        have hbl : b < w3.heap.size := World.block_lt_of_cell? _ _ g0
        have HN : NewHeld w3 w3.drew := Lib.hid (Below.refl _ _).drew
        go_region_held3 (fun w' => w'.cell? ⟨b, o + k * 2, none⟩ = some (.string op) ∧ w'.cell? ⟨b, o + k * 2 + 1, none⟩ = some (.slice A' ps.length c') ∧ NewHeld w3 w')
          ((refine NewHeld.cells ?_ hbl g0 g1; first | exact HN | exact HN.alloc _ | exact HN4 | exact HN4.alloc _ | exact HN4.set4 _ _ _ _))
          (first
            | ((go_at_call 7; refine (KR.out _ HN.out).mono ?_; rintro e w4 ⟨rfl, hb4⟩; have HN4 := HN.next hb4; clear hb4))
            | ((go_at_call 7; refine (KR.out _ (HN.alloc _).out).mono ?_; rintro e w4 ⟨rfl, hb4⟩; have HN4 := (HN.alloc _).next hb4; have hx4 := NewHeld.box hb4; have hc4 := cells_of_block hx4; have hf4 := free_of_block hx4; have HX4 := Lib.hid hx4; clear hx4 hb4)))
        · have HN5 := HN4.alloc (Obj.cells #[Value.int IntKind.i64 p.kind, Value.int IntKind.i64 p.num, Value.string p.text, Value.slice none 0 0] 34)
          have hx5 := heap_alloc_new w4 (Obj.cells #[Value.int IntKind.i64 p.kind, Value.int IntKind.i64 p.num, Value.string p.text, Value.slice none 0 0] 34)
          generalize w4.alloc (Obj.cells #[Value.int IntKind.i64 p.kind, Value.int IntKind.i64 p.num, Value.string p.text, Value.slice none 0 0] 34) = w5 at *
          have HC5 := Lib.hid (HC3.out.below HN5.out)
          have KW5 := Lib.hid (KW.out w5)
          have x5 := cells_of_block hx5
          have a1 := HC5.out.args
          clear g0 g1 hx5 
          go_wp2_with fail
          refine KW5.out.mono ?_
          rintro e w6 ⟨rfl, hb6⟩
          have HC6 := Lib.hid (HC5.out.below hb6)
          have HB26 := Lib.hid (HB3.out.trans ((HN5.out.mono HB3.out.size).trans (hb6.mono (Nat.le_trans HB3.out.size HN5.out.size))))
          have HO6 := Lib.hid (HO.out.below HB26.out HB2.out.size)
          have KU := law_Untouched us wr.heap.size _ A2 A' c2 c' w6 (by have := HC.out.len; rw [hul]; exact this) (Nat.le_trans HB2.out.size HB26.out.size) HO6.out HV.out (by rw [HU.out]; exact HC6.out.lies)
          rw [hul] at KU
          have KU6 := Lib.hid KU
          have b1 := HC6.out.args
          clear hb6 KU a1 x5
          go_wp2_with fail
          refine KU6.out.mono ?_
          rintro e w7 ⟨rfl, hb7⟩
          have HB7 := Lib.hid (HB.out.trans (((HB2.out.trans (HB26.out.mono HB2.out.size)).trans (hb7.mono (Nat.le_trans HB2.out.size HB26.out.size))).mono HB.out.size))
          clear hb7 b1
          go_wp2
          go_roundw
          case rel => exact ⟨k + 1, by omega, by go_num, HB7.out⟩
          case measure => simp [intOf]; omega
        · have HN5 := HN4.set4 (.int .i64 p.kind) (.int .i64 p.num) (.string p.text) (.slice none 0 0)
          have hx5 := blk_set (blk_set (blk_set (blk_set HX4.out 0 (.int .i64 p.kind)) 1 (.int .i64 p.num)) 2 (.string p.text)) 3 (.slice none 0 0)
          generalize (((w4.setCell ⟨w3.heap.size, 0, none⟩ (.int .i64 p.kind)).setCell ⟨w3.heap.size, 1, none⟩ (.int .i64 p.num)).setCell ⟨w3.heap.size, 2, none⟩ (.string p.text)).setCell ⟨w3.heap.size, 3, none⟩ (.slice none 0 0) = w5 at *
          have HC5 := Lib.hid (HC3.out.below HN5.out)
          have KW5 := Lib.hid (KW.out w5)
          have x5 := cells_of_block hx5
          have a1 := HC5.out.args
          clear g0 g1 hx5 hc4 hf4
          go_wp2_with fail
          refine KW5.out.mono ?_
          rintro e w6 ⟨rfl, hb6⟩
          have HC6 := Lib.hid (HC5.out.below hb6)
          have HB26 := Lib.hid (HB3.out.trans ((HN5.out.mono HB3.out.size).trans (hb6.mono (Nat.le_trans HB3.out.size HN5.out.size))))
          have HO6 := Lib.hid (HO.out.below HB26.out HB2.out.size)
          have KU := law_Untouched us wr.heap.size _ A2 A' c2 c' w6 (by have := HC.out.len; rw [hul]; exact this) (Nat.le_trans HB2.out.size HB26.out.size) HO6.out HV.out (by rw [HU.out]; exact HC6.out.lies)
          rw [hul] at KU
          have KU6 := Lib.hid KU
          have b1 := HC6.out.args
          clear hb6 KU a1 x5
          go_wp2_with fail
          refine KU6.out.mono ?_
          rintro e w7 ⟨rfl, hb7⟩
          have HB7 := Lib.hid (HB.out.trans (((HB2.out.trans (HB26.out.mono HB2.out.size)).trans (hb7.mono (Nat.le_trans HB2.out.size HB26.out.size))).mono HB.out.size))
          clear hb7 b1
          go_wp2
          go_roundw
          case rel => exact ⟨k + 1, by omega, by go_num, HB7.out⟩
          case measure => simp [intOf]; omega
      · have h2k' : decide ((k : Int) < 2000) = false := by simp; omega
        go_wp2
        go_ret
        exact ⟨rfl, HB.out⟩
    · go_wp2
      go_ret
      exact ⟨rfl, HB.out⟩
end Go.Proofs.YtcdjnkeomaidaaaGreat

/-
  A slice of calls (an operation's name, plain values), opened out of the row's datum. Conditions: none.
-/
namespace Go.Proofs.YtcdjnkeomaidaaaGreat
open Go.RowKit Go.WideShapes Go.ChangeShapes Go.ChangeAt
set_option linter.unusedVariables false

theorem op_c2 : Tryz.prog.cellsOf 27 = 2 := by kernel_rfl
theorem open_call {H : Type} {enc : TypeId × Value → H} {w : World} {spare : Nat → Bool} {held : Bool} {fuel : Nat} {cs : List Value} {x : DataW H × List MemPlace}
    (h : DataW.trod enc Tryz.prog w 0 spare held fuel 27 cs = some x) (hlt : ∀ p ∈ x.2, p.block < w.heap.size) (hfit : Fit 27 x.1) :
    ∃ (op : ByteArray) (ps : List Pl) (A : Option Addr) (c : Nat), cs = [.string op, .slice A ps.length c] ∧ ps.length * 56 ≤ 140737488351232 ∧ Pls.lies w w.heap.size ps A := by
  obtain ⟨xs, n, hfu, rfl, hl, hlen, hf⟩ := DataW.trod_struct Tryz.underlying27 h
  rw [op_c2] at hl
  obtain ⟨v0, v1, rfl⟩ := len2 hl
  obtain ⟨x0, x1, rfl⟩ := len2 hlen
  have h0 : DataW.trod enc Tryz.prog w 0 spare held n 9 [v0] = some x0 := by
    have := hf 0 _ rfl
    simpa [op_c1s] using this
  have h1 : DataW.trod enc Tryz.prog w 0 spare held n 24 [v1] = some x1 := by
    have := hf 1 _ rfl
    simpa [op_c1l] using this
  obtain ⟨s, e0, rfl, _⟩ := DataW.trod_string Tryz.underlying9 h0
  simp only [List.cons.injEq, and_true] at e0
  subst e0
  obtain ⟨ps, A, c, rfl, hp, hpl⟩ := open_plains h1 (fun p hp => hlt p (List.mem_flatMap.2 ⟨x1, by simp, hp⟩)) (fun q hq => hfit q (by
    simp only [List.map_cons, List.map_nil, DataW.weights, Tryz.underlying27, DataW.weightsEach, List.nil_append, List.append_nil, List.cons_append]
    exact List.mem_cons_of_mem _ hq))
  exact ⟨s, ps, A, c, rfl, hp, hpl⟩
theorem open_calls {H : Type} {enc : TypeId × Value → H} {w : World} {spare : Nat → Bool} {held : Bool} {fuel : Nat} {v : Value} {x : DataW H × List MemPlace}
    (h : DataW.trod enc Tryz.prog w 0 spare held fuel 22 [v] = some x) (hlt : ∀ p ∈ x.2, p.block < w.heap.size) (hfit : Fit 22 x.1) :
    ∃ (A : Option Addr) (n c : Nat), v = .slice A n c ∧ (0 < n → ∃ b o, A = some ⟨b, o, none⟩ ∧ ∀ k, k < n → ∃ op ps A c, CallAt w b (o + k * 2) op ps A c) := by
  rcases DataW.trod_slice Tryz.underlying22 h with ⟨hcs, rfl⟩ | ⟨a, len, cap, elems, rest, n2, hn2, hcs, rfl, _, hle, hmx, hel, hx, _, _⟩
  · simp only [List.cons.injEq, and_true] at hcs
    subst hcs
    exact ⟨none, 0, 0, rfl, fun h => absurd h (by omega)⟩
  · simp only [List.cons.injEq, and_true] at hcs
    subst hcs
    refine ⟨some a, len, cap, rfl, fun hpos => ?_⟩
    have hone : ∀ i, i < len → ∃ (op : ByteArray) (ps : List Pl) (A : Option Addr) (c : Nat), ps.length * 56 ≤ 140737488351232 ∧ Pls.lies w w.heap.size ps A ∧ ∀ j, j < 2 → w.cell? ((a.add (i * 2)).add j) = [Value.string op, .slice A ps.length c][j]? := by
      intro i hi
      have key := hx i hi
      rw [List.getElem?_eq_getElem (by omega), op_c2] at key
      obtain ⟨cs', c1, c2⟩ := Option.bind_eq_some_iff.1 key
      obtain ⟨_, hcl, hcc⟩ := World.cells?_some c1
      have hmem : elems[i]'(by omega) ∈ elems := List.getElem_mem _
      obtain ⟨op, ps, A, c, rfl, hps, hpl⟩ := open_call c2 (fun q hq => hlt q (List.mem_append_right _ (List.mem_flatMap.2 ⟨_, List.mem_append_left _ hmem, hq⟩)))
        (fun q hq => hfit q (by
          simp only [DataW.weights, Tryz.underlying22]
          exact List.mem_cons_of_mem _ (List.mem_append_left _ (weightsAll_mem (List.mem_map.2 ⟨_, hmem, rfl⟩) q hq))))
      exact ⟨op, ps, A, c, hps, hpl, fun j hj => by rw [hcc j hj]⟩
    obtain ⟨op0, ps0, A0, c0, _, _, hy0⟩ := hone 0 hpos
    have h00 := hy0 0 (by omega)
    rw [show (a.add (0 * 2)).add 0 = a by simp [Addr.add]] at h00
    obtain ⟨b, o, sp⟩ := a
    have hsp := spot_none (h00.trans (show _ = some (.string op0) from rfl))
    subst hsp
    refine ⟨b, o, rfl, fun k hk => ?_⟩
    obtain ⟨op, ps, A, c, hps, hpl, hc⟩ := hone k hk
    simp only [add_add_none] at hc
    exact ⟨op, ps, A, c, hc 0 (by omega), hc 1 (by omega), hps, hpl⟩
end Go.Proofs.YtcdjnkeomaidaaaGreat

/-
  What is proved: 'espalierlaw8.NumWork' returns true for every input and changes nothing that was there (Rows.NumWorkSaid). Conditions: none.
-/
namespace Go.Proofs.YtcdjnkeomaidaaaGreat.numWork
open Go.Proofs.YtcdjnkeomaidaaaGreat Go.ChangeShapes Go.WideShapes Go.ChangeAt Go.RowKit
set_option linter.unusedVariables false

theorem own : ownKnob Tryz.prog.godebug = none := by kernel_rfl

set_option maxRecDepth 100000 in
theorem lifted (os : Os) (started : os.Started) (H : Type) (enc : TypeId × Value → H) :
    ReturnsInHanded {} Tryz.checked os 3 .any (Rows.numWorkSpec.pre6 enc Tryz.prog Tryz.f3 Rows.numWorkRow.domain false) (Rows.numWorkSpec.post enc Tryz.prog Tryz.f3 false true false false) := by
  refine returnsInHanded_of_change_sized (C := Tryz.checked) own started (by kernel_rfl) Tryz.func3
    (ChangeSpec.witness6 (enc := enc) (C := Tryz.checked) false ⟨#[], #[.slice none 0 0], []⟩ 8 (by kernel_rfl) (by kernel_rfl) (by kernel_rfl) (by kernel_rfl)) ?_
  intro W base args ds gs before hval0 hW hcnd hsz _
  have hW' := hW
  have hlt : ∀ p ∈ before, p.block < W.heap.size := fun p hp => hW.lt p hp
  obtain ⟨p, q, hA0, hV, rfl, hfz, hnd⟩ := hW
  have hA : DataW.TrodAll enc Tryz.prog W 0 (fun _ => true) true Tryz.f3.params.toList args.toList ds p := hA0
  have hAll := hA
  rw [Tryz.params3] at hA
  have hsz' := hsz
  rw [Tryz.params3] at hsz'
  obtain ⟨v0, vs0, d0, ds0, p0, q0, hargs, rfl, rfl, h0, r0⟩ := trodAll_cons hA
  obtain ⟨rfl, rfl, rfl⟩ := trodAll_nil r0
  obtain rfl : args = #[v0] := by cases args; simp_all
  obtain ⟨rfl, rfl⟩ := trodVars_none hV
  simp only [List.append_nil] at hlt hW' hsz'
  rw [List.append_nil] at hAll
  obtain ⟨fuel, h0⟩ := h0
  obtain ⟨a', l', k', rfl⟩ := okWide_slice Tryz.underlying22 (hval0 0 _ v0 (by rw [Tryz.params3]; rfl) rfl)
  obtain ⟨A, n, c, hv, hc⟩ := open_calls (x := (d0, p0)) (by simpa [Value.cells] using h0) (fun p hp => hlt p hp) (fun m hm => by
    have := List.all_eq_true.1 hsz' m (DataW.weights_mem_each (j := 0) rfl rfl m hm)
    exact of_decide_eq_true this)
  injection hv with e1 e2 e3
  subst e1 e2 e3
  refine (law_NumWork _ _ _ W hc).mono fun e W' ⟨he, hg⟩ => ?_
  subst he
  exact ⟨_, rfl, post_of_below (pa := p0) (pv := []) hW' (fun _ _ _ => (trodAll_cons_mk (shut_bool Tryz.underlying4 _) trodAll_mk0)) (fun sp hsp => trodAll_keeps plLaid hg (by kernel_rfl) hAll hlt hsp) (fun _ _ => rfl) (by simp)
    hg (ok_one (by kernel_rfl) rfl (okWide_bool_mk Tryz.underlying4 _))⟩

theorem over : Rows.numWorkRow.holds Tryz.pinned (OpenSpec.ofChange Rows.numWorkSpec) :=
  OpenClaim.holds_of_wide 3 Tryz.f3 rfl rfl rfl rfl rfl rfl rfl ⟨rfl, rfl, rfl, rfl, rfl⟩ rfl rfl rfl rfl rfl (by kernel_rfl) Tryz.func3 (by kernel_rfl)
    (of_decide_eq_true (by kernel_rfl)) (by unfold Func.isWrapper; first | (rw [if_pos (by decide +kernel)]; kernel_rfl) | (rw [if_neg (by decide +kernel)]; exact ⟨rfl, rfl⟩))
    (fun os started H enc _ => lifted os started H enc)

/-- ████ THE STATEMENT ████ -/
theorem proved : Rows.NumWorkSaid :=
  over
end Go.Proofs.YtcdjnkeomaidaaaGreat.numWork
