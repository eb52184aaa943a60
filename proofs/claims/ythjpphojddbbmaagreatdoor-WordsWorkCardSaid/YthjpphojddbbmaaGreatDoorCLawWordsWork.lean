/-
  espalierlaw10.WordsWork: a walk, for any calls. Conditions: they lie in memory.
-/
import Derived.Test.YthjpphojddbbmaaGreatDoorCR10h
import Derived.Test.YthjpphojddbbmaaGreatDoorCLaw10Begun
import Derived.Test.YthjpphojddbbmaaGreatDoorCPlFits
import Derived.Test.YthjpphojddbbmaaGreatDoorCPack
import Derived.Test.YthjpphojddbbmaaGreatDoorCPackW
import Derived.Deep.RegionHeld3
namespace Go.Proofs.YthjpphojddbbmaaGreatDoor
open Go.RowKit
set_option linter.unusedVariables false

/-- A call, as it lies in memory. -/
structure CallAt (w : World) (b o : Nat) (op : ByteArray) (ps : List Pl) (A : Option Addr) (c : Nat) : Prop where
  op_ : w.cell? ⟨b, o, none⟩ = some (.string op)
  args : w.cell? ⟨b, o + 1, none⟩ = some (.slice A ps.length c)
  len : ps.length * 56 ≤ 140737488351232
  lies : Pls.lies w w.heap.size ps A
theorem CallAt.below {w w' : World} {b o : Nat} {op : ByteArray} {ps : List Pl} {A : Option Addr} {c : Nat} (h : CallAt w b o op ps A c) (hb : Below w.heap.size w w') : CallAt w' b o op ps A c :=
  ⟨(hb.cell (p := ⟨b, o, none⟩) (World.block_lt_of_cell? _ _ h.op_)).trans h.op_, (hb.cell (p := ⟨b, o + 1, none⟩) (World.block_lt_of_cell? _ _ h.args)).trans h.args, h.len, h.lies.below hb hb.size⟩
theorem Pls.lies.rngs {w : World} {B : Nat} : ∀ {l : List Pl} {A : Option Addr}, Pls.lies w B l A → ∀ p ∈ l, rng p.num = true
  | [], _, _, p, h => by cases h
  | q :: l, A, hl, p, h => by
    unfold Pls.lies at hl
    obtain ⟨b, o, _, h1, h2⟩ := hl
    rcases List.mem_cons.1 h with rfl | h
    · exact h1.nums.2
    · exact Pls.lies.rngs h2 p h

def NewHeld (w w' : World) : Prop := Hid (Below w.heap.size w w')
theorem NewHeld.alloc {w w' : World} (h : NewHeld w w') (o : Obj) : NewHeld w (w'.alloc o) := Lib.hid (h.out.alloc h.out.size o)
theorem NewHeld.next {w w' w2 : World} (h : NewHeld w w') (hb : Below w'.heap.size w' w2) : NewHeld w w2 := Lib.hid (h.out.trans (hb.mono h.out.size))
theorem NewHeld.set {w w' : World} (h : NewHeld w w') {p : Addr} (hp : w.heap.size ≤ p.block) (v : Value) : NewHeld w (w'.setCell p v) := Lib.hid (h.out.setCell hp v)
theorem NewHeld.set4 {w w' : World} (h : NewHeld w w') (x0 x1 x2 x3 : Value) : NewHeld w ((((w'.setCell ⟨w.heap.size, 0, none⟩ x0).setCell ⟨w.heap.size, 1, none⟩ x1).setCell ⟨w.heap.size, 2, none⟩ x2).setCell ⟨w.heap.size, 3, none⟩ x3) :=
  (((h.set (p := ⟨w.heap.size, 0, none⟩) (Nat.le_refl _) _).set (p := ⟨w.heap.size, 1, none⟩) (Nat.le_refl _) _).set (p := ⟨w.heap.size, 2, none⟩) (Nat.le_refl _) _).set (p := ⟨w.heap.size, 3, none⟩) (Nat.le_refl _) _
theorem NewHeld.size {w w' : World} (h : NewHeld w w') : w.heap.size ≤ w'.heap.size := h.out.size
theorem NewHeld.cells {w w' : World} (h : NewHeld w w') {b : Nat} (hb : b < w.heap.size) {o : Nat} {u v : Value} (g0 : w.cell? ⟨b, o, none⟩ = some u) (g1 : w.cell? ⟨b, o + 1, none⟩ = some v) :
    w'.cell? ⟨b, o, none⟩ = some u ∧ w'.cell? ⟨b, o + 1, none⟩ = some v ∧ NewHeld w w' :=
  ⟨(h.out.cell (p := ⟨b, o, none⟩) hb).trans g0, (h.out.cell (p := ⟨b, o + 1, none⟩) hb).trans g1, h⟩
theorem NewHeld.box {w3 w4 : World} {X : Obj} (hb : Below (w3.drew.alloc X).heap.size (w3.drew.alloc X) w4) : w4.heap[w3.heap.size]? = some X :=
  (hb.block w3.heap.size (by rw [size_alloc]; exact Nat.lt_succ_self _)).trans (heap_alloc_new w3.drew X)
theorem cells_of_block {w : World} {b : Nat} {cs : Array Value} {T : TypeId} {z : Nat × Nat} (h : w.heap[b]? = some (.cells cs T z)) (j : Nat) : w.cell? ⟨b, j, none⟩ = cs[j]? := by simp [World.cell?, h]
theorem free_of_block {w : World} {b : Nat} {cs : Array Value} {T : TypeId} (h : w.heap[b]? = some (.cells cs T (0, 0))) (j : Nat) : w.frozen? ⟨b, j, none⟩ = false := by simp [World.frozen?, h]
theorem outV_three (r : Int × Vl) : ∃ v, outV r = .tuple #[v, .int .i64 r.1, .string ⟨#[]⟩] ∧ (r.1 ≠ 0 → v = .nilIface) ∧ (r.1 = 0 → v = r.2.val1) := by
  unfold outV
  split
  · exact ⟨_, by simp_all, fun h => absurd ‹r.1 = 0› h, fun _ => rfl⟩
  · exact ⟨_, rfl, fun _ => rfl, fun h => absurd h ‹¬ r.1 = 0›⟩
theorem outP_three (r : Int × Vl) (h1 : r.1 = 0 → r.2.isList = false) : ∃ p : Pl, outP r = .tuple #[.agg #[.int .i64 p.kind, .int .i64 p.num, .string p.text, .slice none 0 0], .int .i64 r.1, .string ⟨#[]⟩] ∧ p.list = [] ∧ (r.1 = 0 → p = r.2.toPl) := by
  unfold outP
  split
  · rename_i h
    have hl : r.2.toPl.list = [] := toPl_list (h1 h)
    refine ⟨r.2.toPl, ?_, hl, fun _ => rfl⟩
    unfold okP Pl.arg
    rw [hl, h]
    rfl
  · exact ⟨.mk 0 0 ⟨#[]⟩ [], rfl, rfl, fun h => absurd h ‹¬ r.1 = 0›⟩

theorem law_worked_both (r : Int × Vl) (h1 : r.1 = 0 → r.2.isList = false ∧ r.2.fine) (vv : Value) (p : Pl) (hvf : r.1 ≠ 0 → vv = .nilIface) (hvo : r.1 = 0 → vv = r.2.val1) (hpl : p.list = []) (hpe : r.1 = 0 → p = r.2.toPl) (w : World) :
    Calls Tryz.prog 12 #[vv, .int .i64 r.1, .string ⟨#[]⟩, .agg #[.int .i64 p.kind, .int .i64 p.num, .string p.text, .slice none 0 0], .int .i64 r.1, .string ⟨#[]⟩] w (Bel (.bool true) w) := by
  have h := law_Worked vv r.1 ⟨#[]⟩ p none 0 w (fun w' hb => by
    by_cases h0 : r.1 = 0
    · obtain ⟨h2, h3⟩ := h1 h0
      rw [hvo h0, hpe h0, h0]
      exact law2_Fits_one r.2 h2 h3 _ (fun _ => True) w' (Vl.is_val1 h2 _ _) none 0
    · rw [hvf h0]
      exact law2_Fits_fault r.1 h0 p w' none 0)
  unfold Pl.arg at h
  rw [hpl] at h
  exact h
set_option maxRecDepth 100000 in
set_option maxHeartbeats 8000000 in
theorem law_WordsWork (n : Nat) (A : Option Addr) (c : Nat) (w : World) (hws : Ws w) (hA : 0 < n → ∃ b o, A = some ⟨b, o, none⟩ ∧ ∀ k, k < n → ∃ op ps A c, CallAt w b (o + k * 2) op ps A c) :
    Calls Tryz.prog 3 #[.slice A n c] w (Bel (.bool true) w) := by
  have HA := Lib.hid hA
  have HWs := Lib.hid hws
  clear hA hws
  go_enter Tryz.func3, Tryz.ntmps3
  go_wp2_with fail
  refine (law10_begun w HWs.out).mono ?_
  rintro e w1 ⟨rfl, hb1⟩
  have HB1 := Lib.hid hb1
  clear hb1
  go_wp2
  go_loopw [3] (fun s3 wr => ∃ (k : Nat), k ≤ n ∧ s3 = .int .i64 (k : Int) ∧ Below w.heap.size w wr) (fun s3 _ => n - (intOf s3).toNat)
  case atStart => exact ⟨0, Nat.zero_le _, rfl, HB1.out⟩
  case round =>
    obtain ⟨k, hk, rfl, hbel⟩ := hrel
    have HB := Lib.hid hbel
    clear hbel
    by_cases hlt : k < n
    · by_cases h2k : k < 500
      · obtain ⟨b, o, rfl, hcalls⟩ := HA.out (by omega)
        obtain ⟨op, ps, A', c', hcall⟩ := hcalls k hlt
        have HC := Lib.hid (hcall.below HB.out)
        obtain ⟨r, hboth⟩ := words_both op ps HC.out.lies.rngs
        have HBO := Lib.hid hboth
        clear hcalls hcall hboth
        have e0 := HC.out.op_
        have e1 := HC.out.args
        go_wp2_with fail
        refine (law_Twins ps A' c' wr HC.out.len HC.out.lies).mono ?_
        rintro e w2 ⟨v, us, rfl, hus, hown, hb2⟩
        have HB2 := Lib.hid hb2
        have HU := Lib.hid hus
        have HO := Lib.hid hown
        clear hb2 hus hown
        have hul : us.length = ps.length := by have := congrArg List.length HU.out; simpa using this
        obtain ⟨A2, c2, hv, _⟩ := HO.out.slice
        have HV := Lib.hid hv
        have HL2 := Lib.hid (HO.out.lies HB2.out.size hv)
        rw [HU.out] at HL2
        rw [hul] at hv
        subst hv
        have HC2 := Lib.hid (HC.out.below HB2.out)
        have f0 := HC2.out.op_
        have f1 := HC2.out.args
        clear e0 e1
        go_wp2_with fail
        refine (HBO.out.code A2 c2 w2 HC.out.len HL2.out (HWs.out.below (HB.out.trans (HB2.out.mono HB.out.size)))).mono ?_
        obtain ⟨vv, hvv, hvf, hvo⟩ := outV_three r
        rw [hvv]
        rintro e w3 ⟨rfl, hb3⟩
        have HB3 := Lib.hid hb3
        have HC3 := Lib.hid (HC2.out.below HB3.out)
        have g0 := HC3.out.op_
        have g1 := HC3.out.args
        have HVF := Lib.hid hvf
        have HVO := Lib.hid hvo
        clear hb3 f0 f1 hvv hvf hvo
        go_upto_region 8 with fail
        obtain ⟨p, hp, hpl, hpe⟩ := outP_three r (fun h => (HBO.out.one h).1)
        have KR := Lib.hid (fun w' (h : Below w3.heap.size w3 w') => HBO.out.ref A' c' w' HC.out.len ((HC3.out.below h).lies))
        rw [hp] at KR
        have KW := Lib.hid (fun w' => law_worked_both r HBO.out.one vv p HVF.out HVO.out hpl hpe w')
        clear hp hpl hpe
        have hbl : b < w3.heap.size := World.block_lt_of_cell? _ _ g0
        have HN : NewHeld w3 w3.drew := Lib.hid (Below.refl _ _).drew
        go_region_held3 (fun w' => w'.cell? ⟨b, o + k * 2, none⟩ = some (.string op) ∧ w'.cell? ⟨b, o + k * 2 + 1, none⟩ = some (.slice A' ps.length c') ∧ NewHeld w3 w')
          ((refine NewHeld.cells ?_ hbl g0 g1; first | exact HN | exact HN.alloc _ | exact HN4 | exact HN4.alloc _ | exact HN4.set4 _ _ _ _))
          (first
            | ((go_at_call 11; refine (KR.out _ HN.out).mono ?_; rintro e w4 ⟨rfl, hb4⟩; have HN4 := HN.next hb4; clear hb4))
            | ((go_at_call 11; refine (KR.out _ (HN.alloc _).out).mono ?_; rintro e w4 ⟨rfl, hb4⟩; have HN4 := (HN.alloc _).next hb4; have hx4 := NewHeld.box hb4; have hc4 := cells_of_block hx4; have hf4 := free_of_block hx4; have HX4 := Lib.hid hx4; clear hx4 hb4)))
        · have HN5 := HN4.alloc (Obj.cells #[Value.int IntKind.i64 p.kind, Value.int IntKind.i64 p.num, Value.string p.text, Value.slice none 0 0] 34)
          have hx5 := heap_alloc_new w4 (Obj.cells #[Value.int IntKind.i64 p.kind, Value.int IntKind.i64 p.num, Value.string p.text, Value.slice none 0 0] 34)
          generalize w4.alloc (Obj.cells #[Value.int IntKind.i64 p.kind, Value.int IntKind.i64 p.num, Value.string p.text, Value.slice none 0 0] 34) = w5 at *
          have HC5 := Lib.hid (HC3.out.below HN5.out)
          have KW5 := Lib.hid (KW.out w5)
          have x5 := cells_of_block hx5
          have a1 := HC5.out.args
          clear g0 g1 hx5 
          go_wp2_with fail
          refine KW5.out.mono ?_
          rintro e w6 ⟨rfl, hb6⟩
          have HC6 := Lib.hid (HC5.out.below hb6)
          have HB26 := Lib.hid (HB3.out.trans ((HN5.out.mono HB3.out.size).trans (hb6.mono (Nat.le_trans HB3.out.size HN5.out.size))))
          have HO6 := Lib.hid (HO.out.below HB26.out HB2.out.size)
          have KU := law_Untouched us wr.heap.size _ A2 A' c2 c' w6 (by have := HC.out.len; rw [hul]; exact this) (Nat.le_trans HB2.out.size HB26.out.size) HO6.out HV.out (by rw [HU.out]; exact HC6.out.lies)
          rw [hul] at KU
          have KU6 := Lib.hid KU
          have b1 := HC6.out.args
          clear hb6 KU a1 x5
          go_wp2_with fail
          refine KU6.out.mono ?_
          rintro e w7 ⟨rfl, hb7⟩
          have HB7 := Lib.hid (HB.out.trans (((HB2.out.trans (HB26.out.mono HB2.out.size)).trans (hb7.mono (Nat.le_trans HB2.out.size HB26.out.size))).mono HB.out.size))
          clear hb7 b1
          go_wp2
          go_roundw
          case rel => exact ⟨k + 1, by omega, by go_num, HB7.out⟩
          case measure => simp [intOf]; omega
        · have HN5 := HN4.set4 (.int .i64 p.kind) (.int .i64 p.num) (.string p.text) (.slice none 0 0)
          have hx5 := blk_set (blk_set (blk_set (blk_set HX4.out 0 (.int .i64 p.kind)) 1 (.int .i64 p.num)) 2 (.string p.text)) 3 (.slice none 0 0)
          generalize (((w4.setCell ⟨w3.heap.size, 0, none⟩ (.int .i64 p.kind)).setCell ⟨w3.heap.size, 1, none⟩ (.int .i64 p.num)).setCell ⟨w3.heap.size, 2, none⟩ (.string p.text)).setCell ⟨w3.heap.size, 3, none⟩ (.slice none 0 0) = w5 at *
          have HC5 := Lib.hid (HC3.out.below HN5.out)
          have KW5 := Lib.hid (KW.out w5)
          have x5 := cells_of_block hx5
          have a1 := HC5.out.args
          clear g0 g1 hx5 hc4 hf4
          go_wp2_with fail
          refine KW5.out.mono ?_
          rintro e w6 ⟨rfl, hb6⟩
          have HC6 := Lib.hid (HC5.out.below hb6)
          have HB26 := Lib.hid (HB3.out.trans ((HN5.out.mono HB3.out.size).trans (hb6.mono (Nat.le_trans HB3.out.size HN5.out.size))))
          have HO6 := Lib.hid (HO.out.below HB26.out HB2.out.size)
          have KU := law_Untouched us wr.heap.size _ A2 A' c2 c' w6 (by have := HC.out.len; rw [hul]; exact this) (Nat.le_trans HB2.out.size HB26.out.size) HO6.out HV.out (by rw [HU.out]; exact HC6.out.lies)
          rw [hul] at KU
          have KU6 := Lib.hid KU
          have b1 := HC6.out.args
          clear hb6 KU a1 x5
          go_wp2_with fail
          refine KU6.out.mono ?_
          rintro e w7 ⟨rfl, hb7⟩
          have HB7 := Lib.hid (HB.out.trans (((HB2.out.trans (HB26.out.mono HB2.out.size)).trans (hb7.mono (Nat.le_trans HB2.out.size HB26.out.size))).mono HB.out.size))
          clear hb7 b1
          go_wp2
          go_roundw
          case rel => exact ⟨k + 1, by omega, by go_num, HB7.out⟩
          case measure => simp [intOf]; omega
      · have h2k' : decide ((k : Int) < 500) = false := by simp; omega
        go_wp2
        go_ret
        exact ⟨rfl, HB.out⟩
    · go_wp2
      go_ret
      exact ⟨rfl, HB.out⟩
end Go.Proofs.YthjpphojddbbmaaGreatDoor
