/-
  Texts of a proof in one: NodeLay, NodeExtra. Conditions: each names its own.
-/
import Derived.Test.YtcldbjgikkfnbaaGreatDoorCBase
import Derived.Test.YtcldbjgikkfnbaaGreatDoorProg
import Derived.Deep.AppendLies
import Derived.Deep.RegionHeld3
import Derived.Deep.RegionLaw
import Derived.OwnWalk
import Derived.Laws.ResultCell
/-
  node.Of, Handle.Node, node.Lay: walks. Conditions: the handles lie in memory.
-/
namespace Go.Proofs.YtcldbjgikkfnbaaGreatDoor
open Go.RowKit
set_option linter.unusedVariables false

/-- Values, one a cell, from an address on. -/
def ValsIn (w : World) (S : Nat → Prop) (vs : List Value) (A : Option Addr) : Prop := 0 < vs.length → ∃ b o, A = some ⟨b, o, none⟩ ∧ S b ∧ ∀ j u, vs[j]? = some u → w.cell? ⟨b, o + j, none⟩ = some u
theorem ValsIn.keep {w w' : World} {S S' : Nat → Prop} {vs : List Value} {A : Option Addr} (h : ValsIn w S vs A) (hk : ∀ b o, S b → w'.cell? ⟨b, o, none⟩ = w.cell? ⟨b, o, none⟩) (hS : ∀ b, S b → S' b) : ValsIn w' S' vs A := fun hl => by
  obtain ⟨b, o, e, hs, hc⟩ := h hl
  exact ⟨b, o, e, hS b hs, fun j u hu => (hk b _ hs).trans (hc j u hu)⟩
theorem ValsIn.below {w w' : World} {vs : List Value} {A : Option Addr} (h : ValsIn w (· < w.heap.size) vs A) (hb : Below w.heap.size w w') : ValsIn w' (· < w'.heap.size) vs A :=
  h.keep (fun b o hs => hb.cell (p := ⟨b, o, none⟩) hs) (fun b hs => Nat.lt_of_lt_of_le hs hb.size)
/-- A handle: its block, the node that it holds. -/
structure Kd where
  blk : Nat
  n : Value
def Kd.ptr (k : Kd) : Value := .pointer (some ⟨k.blk, 0, none⟩)
/-- It lies in memory, and holds one. -/
def Kd.at_ (k : Kd) (w : World) : Prop := w.heap[k.blk]? = some (.cells #[k.n] 202) ∧ ∃ T p, k.n = .iface T (.pointer (some p))
theorem Kd.at_.lt {k : Kd} {w : World} (h : k.at_ w) : k.blk < w.heap.size := lt_of_block h.1
theorem Kd.at_.below {k : Kd} {w w' : World} (h : k.at_ w) (hb : Below w.heap.size w w') : k.at_ w' := ⟨(hb.block _ h.lt).trans h.1, h.2⟩
def KidsIn (w : World) (ks : List Kd) (A : Option Addr) : Prop := ValsIn w (· < w.heap.size) (ks.map Kd.ptr) A ∧ ∀ k ∈ ks, k.at_ w
theorem KidsIn.below {w w' : World} {ks : List Kd} {A : Option Addr} (h : KidsIn w ks A) (hb : Below w.heap.size w w') : KidsIn w' ks A := ⟨h.1.below hb, fun k hk => (h.2 k hk).below hb⟩

theorem node_Node (k : Kd) (w : World) (h : k.at_ w) : Calls Tryz.prog 40 #[.pointer (some ⟨k.blk, 0, none⟩)] w fun e w' => e = .returned k.n ∧ w = w' := by
  have hc : w.cell? ⟨k.blk, 0, none⟩ = some k.n := by simp [World.cell?, h.1]
  clear h
  go_enter Tryz.func40, Tryz.ntmps40
  go_wp2
  go_ret
  exact ⟨rfl, rfl⟩
theorem node_Of (T : TypeId) (v : Value) (w : World) : Calls Tryz.prog 70 #[.iface T v] w fun e w' => e = .returned (.pointer (some ⟨w.heap.size, 0, none⟩)) ∧ w.alloc (.cells #[.iface T v] 202) = w' := by
  go_enter Tryz.func70, Tryz.ntmps70
  go_wp2
  go_ret
  exact ⟨rfl, rfl⟩

theorem info_node : (Tryz.prog.info? 61).map (fun i => (i.zero, i.size, i.bytes)) = some (some .nilIface, 1, 16) := by kernel_rfl
theorem info_node_parts : ∃ i, Tryz.prog.info? 61 = some i ∧ i.zero = some .nilIface ∧ i.size = 1 ∧ i.bytes = 16 := by
  have h := info_node
  cases hh : Tryz.prog.info? 61 with
  | none => rw [hh] at h; cases h
  | some i =>
    rw [hh] at h
    simp only [Option.map_some, Option.some.injEq, Prod.mk.injEq] at h
    exact ⟨i, rfl, h.1, h.2.1, h.2.2⟩
structure LayMid (w : World) (L : Nat) (kind : ByteArray) (num : Int) (text : ByteArray) (v : Value) (vs : List Value) : Prop where
  blk : w.heap[L]? = some (.cells #[.string kind, .int .i64 num, .string text, v] 138)
  own : w.ownsRow (L + 1) 61 1 v vs.length vs
theorem LayMid.drew {w : World} {L : Nat} {kind : ByteArray} {num : Int} {text : ByteArray} {v : Value} {vs : List Value} (h : LayMid w L kind num text v vs) : LayMid w.drew L kind num text v vs := ⟨h.blk, own_below h.own (Below.refl _ _).drew⟩
theorem LayMid.step {w5 w7 : World} {L : Nat} {kind : ByteArray} {num : Int} {text : ByteArray} {v : Value} {vs : List Value} (h : LayMid w5 L kind num text v vs) (u : Value) {g cap n : Nat} (hn : vs.length = n) {Y : Obj}
    (hgrow : (w5.alloc Y).grownBy w7 v.ownBlock)
    (hown : w7.ownsRow (L + 1) 61 1 (.slice (some ⟨g, 0, none⟩) (n + 1) cap) (n + 1) (vs ++ [u])) :
    LayMid (w7.setCell ⟨L, 3, none⟩ (.slice (some ⟨g, 0, none⟩) (n + 1) cap)) L kind num text (.slice (some ⟨g, 0, none⟩) (n + 1) cap) (vs ++ [u])   := by
  subst hn
  have hL := lt_of_block h.blk
  have hg : L + 1 ≤ g := (hown.lt g rfl).1
  have hne : v.ownBlock ≠ some L := fun e => by have := (h.own.lt L e).1; omega
  refine ⟨?_, ?_⟩
  · have hb : w7.heap[L]? = w5.heap[L]? := by rw [hgrow.block L (by rw [size_alloc]; omega) (Ne.symm hne), Below.heap_alloc _ _ _ hL]
    have := blk_set (hb.trans h.blk) 3 (.slice (some ⟨g, 0, none⟩) (vs.length + 1) cap)
    simpa using this
  · rw [List.length_append]
    refine ⟨hown.1, ?_⟩
    rcases hown.2 with h2 | ⟨g', cap', cur, e1, e2, e3, e4⟩
    · exact .inl h2
    · exact .inr ⟨g', cap', cur, e1, e2, by rw [Below.heap_setCell _ _ _ _ (show g' ≠ L by omega)]; exact e3, e4⟩
theorem LayMid.store {w5 w7 : World} {L : Nat} {kind : ByteArray} {num : Int} {text : ByteArray} {v : Value} {vs : List Value} (h : LayMid w5 L kind num text v vs) {Y : Obj} (hgrow : (w5.alloc Y).grownBy w7 v.ownBlock) :
    w7.cell? ⟨L, 3, none⟩ = some v ∧ w7.frozen? ⟨L, 3, none⟩ = false ∧ ∀ b, b < w5.heap.size → v.ownBlock ≠ some b → w7.heap[b]? = w5.heap[b]? := by
  have hL := lt_of_block h.blk
  have hne : v.ownBlock ≠ some L := fun e => by have := (h.own.lt L e).1; omega
  have hb : ∀ b, b < w5.heap.size → v.ownBlock ≠ some b → w7.heap[b]? = w5.heap[b]? := fun b hb hne => by rw [hgrow.block b (by rw [size_alloc]; omega) (Ne.symm hne), Below.heap_alloc _ _ _ hb]
  have hx := (hb L hL hne).trans h.blk
  exact ⟨by simp [World.cell?, hx], by simp [World.frozen?, hx], hb⟩
theorem own_vals {w : World} {base : Nat} {v : Value} {e : TypeId} {n : Nat} {vs : List Value} (h : w.ownsRow base e 1 v n vs) (hn : vs.length = n) : ∃ A c, v = .slice A n c ∧ ValsIn w (fun b => base ≤ b ∧ b < w.heap.size) vs A := by
  rcases h.2 with ⟨e, h2⟩ | ⟨g, cap, cur, e, _⟩
  · exact ⟨none, 0, by rw [e, h2], fun hl => absurd hl (by omega)⟩
  · subst e
    refine ⟨_, _, rfl, fun hl => ⟨g, 0, rfl, h.lt g rfl, fun j u hu => ?_⟩⟩
    have hj : j < n := by rw [← hn]; exact (List.getElem?_eq_some_iff.1 hu).1
    rw [Nat.zero_add, h.cellAt j (by omega), hu]
/-- What 'Lay' gives. -/
def LayPost (kind : ByteArray) (num : Int) (text : ByteArray) (vs : List Value) (w : World) (e : Ending) (w' : World) : Prop :=
  ∃ A c, e = .returned (.agg #[.string kind, .int .i64 num, .string text, .slice A vs.length c]) ∧ ValsIn w' (fresh w w') vs A ∧ Below w.heap.size w w'
section
variable {P : Program} {o : Oper} {a : Act} {w : World} {K : Act → World → Prop} {Q : Exit → Act → World → Prop}
/-- A call of a function that leaves the world as it is, as one step of a region. -/
theorem step_call0 {ops : Array Oper} {E : Prop} {f : FuncId} {xs : Array Operand} {ts : Array TypeId} {vs : Array Value} {v : Value} (hg : o.guard = none) (ho : o.op = .call { callee := .value (.func f), args := xs, argTypes := ts }) (hx : xs.map a.eval = vs) (hent : (callFunc f vs).run P w = .ok (.enter f vs) w)
    (h : Calls P f vs w fun e w' => e = .returned v ∧ w = w') (hk : K (a.put o.dst v) w) : if Region.wanted o (yielded ops a.tmps) = true then Oper.wp P o a w K Q else E := by
  have hw : Region.wanted o (yielded ops a.tmps) = true := by simp [Region.wanted, hg]
  rw [if_pos hw]
  have hr : (execOp a.eval o).run P w = .ok (.enter f vs) w := by
    have hx' : Array.map a.eval xs = vs := hx
    unfold execOp
    simp [ho, resolve, go_sem, hx', invoke, hent, Act.eval]
  unfold Oper.wp
  rw [hr, Oper.upon_enter]
  refine h.mono fun e w' hh => ?_
  obtain ⟨rfl, rfl⟩ := hh
  exact hk
end
set_option maxRecDepth 100000 in
set_option maxHeartbeats 4000000 in
theorem node_Lay (kind : ByteArray) (num : Int) (text : ByteArray) (T : Value) (ks : List Kd) (A : Option Addr) (c : Nat) (w : World) (hT : ∃ A0 n0 c0, T = .slice A0 n0 c0) (hlen : ks.length ≤ 100000) (hk : KidsIn w ks A) :
    Calls Tryz.prog 67 #[.agg #[.string kind, .int .i64 num, .string text, T], .slice A ks.length c] w (LayPost kind num text (ks.map Kd.n) w) := by
  obtain ⟨A0, n0, c0, rfl⟩ := hT
  obtain ⟨i0, hi, hz0, hz1, hz2⟩ := info_node_parts
  have HK := Lib.hid hk
  clear hk
  go_enter Tryz.func67, Tryz.ntmps67
  go_wp2
  go_loopw [17, 7] (fun s17 s7 wr => ∃ (k : Nat) (v : Value), k ≤ ks.length ∧ s17 = .int .i64 (k : Int) ∧ LayMid wr (w.heap.size + 1 + 1) kind num text v ((ks.map Kd.n).take k) ∧ wr.heap[w.heap.size + 1]? = some (.cells #[.string ⟨#[]⟩, .int .i64 0, .string ⟨#[]⟩, .slice none 0 0] 138) ∧ Below w.heap.size w wr) (fun s17 _ _ => ks.length - (intOf s17).toNat)
  case atStart =>
    refine ⟨0, .slice none 0 0, Nat.zero_le _, rfl, ⟨?_, by simpa using World.ownsRow_nil _ _ _ _⟩, ?_, ?_⟩
    · have := heap_alloc_new ((w.alloc (.cells #[.string kind, .int .i64 num, .string text, .slice A0 n0 c0] 65)).alloc (.cells #[.string ⟨#[]⟩, .int .i64 0, .string ⟨#[]⟩, .slice none 0 0] 138)) (.cells #[.string kind, .int .i64 num, .string text, .slice none 0 0] 138)
      simpa using this
    · rw [Below.heap_alloc _ _ _ (by simp)]
      have := heap_alloc_new (w.alloc (.cells #[.string kind, .int .i64 num, .string text, .slice A0 n0 c0] 65)) (.cells #[.string ⟨#[]⟩, .int .i64 0, .string ⟨#[]⟩, .slice none 0 0] 138)
      simpa using this
    · exact (((Below.refl _ _).alloc (Nat.le_refl _) _).alloc (by simp) _).alloc (by simp; omega) _
  case round =>
    obtain ⟨k, v, hk, rfl, hmid, hz, hbel⟩ := hrel
    have HM := Lib.hid hmid
    have HZ := Lib.hid hz
    have HB := Lib.hid hbel
    have hws := hbel.size
    have hzlt := lt_of_block hz
    clear hmid hz hbel
    have hL : w.heap.size + 1 + 1 < wr.heap.size := lt_of_block HM.out.blk
    by_cases hlt : k < ks.length
    · have HKW := Lib.hid (HK.out.below HB.out)
      obtain ⟨b, o, rfl, hbb, hc⟩ := HK.out.1 (by simp; omega)
      have e0 : wr.cell? ⟨b, o + k, none⟩ = some (.pointer (some ⟨ks[k].blk, 0, none⟩)) := (HB.out.cell (p := ⟨b, o + k, none⟩) hbb).trans (hc k _ (by simp [hlt, Kd.ptr]))
      have hkd := HKW.out.2 ks[k] (List.getElem_mem hlt)
      obtain ⟨T, p, hn⟩ := hkd.2
      have HN := Lib.hid (fun w' (hb : Below wr.heap.size wr w') => node_Node ks[k] w' (hkd.below hb))
      rw [hn] at HN
      have htk : ((ks.map Kd.n).take k).length = k := by simp; omega
      have hnx := Lib.hid (show (ks.map Kd.n).take k ++ [.iface T (.pointer (some p))] = (ks.map Kd.n).take (k + 1) by rw [List.take_succ_eq_append_getElem (by simpa using hlt), List.getElem_map, hn])
      have m3 : wr.cell? ⟨w.heap.size + 1 + 1, 3, none⟩ = some v := by simp [World.cell?, HM.out.blk]
      have mf : wr.frozen? ⟨w.heap.size + 1 + 1, 3, none⟩ = false := by simp [World.frozen?, HM.out.blk]
      clear hc hkd hn
      generalize ks[k].blk = kb at *
      go_wp2
      have HD : Hid (Below wr.heap.size wr wr.drew) := Lib.hid (Below.refl _ _).drew
      have m3d : wr.drew.cell? ⟨w.heap.size + 1 + 1, 3, none⟩ = some v := m3
      have mfd : wr.drew.frozen? ⟨w.heap.size + 1 + 1, 3, none⟩ = false := mf
      go_region_law (first
        | (refine step_call0 (f := 40) (vs := #[.pointer (some ⟨kb, 0, none⟩)]) rfl rfl (by simp [Act.eval, Act.put]) (by kernel_rfl) (HN.out _ HD.out) ?_)
        | (refine step_append_lies _ rfl _ _ 136 rfl (w.heap.size + 1 + 1 + 1) 61 i0 _ 1 16 Tryz.underlying136 hi hz0 hz1 hz2 rfl (by decide) v k _ rfl (htk ▸ (own_below HM.out.own ((Below.refl wr.heap.size wr).drew.alloc (Nat.le_refl _) _))) ⟨wr.heap.size, 0, none⟩ 1 1 [.iface T (.pointer (some p))] rfl rfl (one_new wr.drew _ _) (by simp [Value.oneCell']) (by decide) (by unfold maxLen; omega) (by omega) (by simp; omega) _ rfl ?_; intro g cap w7 hown hgrow hat hlt'; have hst := HM.out.drew.store hgrow; have st1 := hst.1; have st2 := hst.2.1; have HST := Lib.hid hst.2.2; have HOW := Lib.hid hown; have HGR := Lib.hid hgrow; clear hst hown hgrow hat))
      all_goals
        have hn7 := HM.out.drew.step (.iface T (.pointer (some p))) htk HGR.out HOW.out
        rw [hnx.out] at hn7
        have HM7 := Lib.hid hn7
        have hz7 : (w7.setCell ⟨w.heap.size + 1 + 1, 3, none⟩ (.slice (some ⟨g, 0, none⟩) (k + 1) cap)).heap[w.heap.size + 1]? = some (.cells #[.string ⟨#[]⟩, .int .i64 0, .string ⟨#[]⟩, .slice none 0 0] 138) := by
          rw [Below.heap_setCell _ _ _ _ (show w.heap.size + 1 ≠ w.heap.size + 1 + 1 by omega)]
          exact (HST.out _ hzlt (fun e => by have := (HM.out.own.lt _ e).1; omega)).trans HZ.out
        have HZ7 := Lib.hid hz7
        have HB7 := Lib.hid ((((HB.out.drew).alloc (by show w.heap.size ≤ wr.heap.size; omega) _).grown HGR.out (by rw [size_alloc]; show w.heap.size ≤ wr.heap.size + 1; omega) (fun q e => by have := (HM.out.own.lt q e).1; omega)).setCell (p := ⟨w.heap.size + 1 + 1, 3, none⟩) (by show w.heap.size ≤ w.heap.size + 1 + 1; omega) (.slice (some ⟨g, 0, none⟩) (k + 1) cap))
        clear hn7 hz7 st1 st2 m3 mf m3d mfd e0
        go_wp2
        go_roundw
        case rel => exact ⟨k + 1, _, by omega, by go_num, HM7.out, HZ7.out, HB7.out⟩
        case measure => simp [intOf]; omega
    · have hke : k = ks.length := by omega
      subst hke
      have ho := HM.out
      rw [List.take_of_length_le (by simp)] at ho
      obtain ⟨A1, c1, hv, hvs⟩ := own_vals ho.own rfl
      rw [List.length_map] at hv
      subst hv
      have HV := Lib.hid hvs
      have x0 := fun j => show wr.cell? ⟨w.heap.size + 1 + 1, j, none⟩ = (#[.string kind, .int .i64 num, .string text, .slice A1 ks.length c1] : Array Value)[j]? by simp [World.cell?, ho.blk]
      have z0 := fun j => show wr.cell? ⟨w.heap.size + 1, j, none⟩ = (#[.string ⟨#[]⟩, .int .i64 0, .string ⟨#[]⟩, .slice none 0 0] : Array Value)[j]? by simp [World.cell?, HZ.out]
      have zf := fun j => show wr.frozen? ⟨w.heap.size + 1, j, none⟩ = false by simp [World.frozen?, HZ.out]
      clear ho hvs
      go_wp2
      refine bodyPost_ret (fn := Tryz.f67) (v := .agg #[.string kind, .int .i64 num, .string text, .slice A1 ks.length c1]) (results_cell (p := 4) (ty := 138) (a := ⟨w.heap.size + 1, 0, none⟩) Tryz.results67 rfl (run_loadVar_row (P := Tryz.prog) _ _ _ 138 _ _ _ (blk_set (blk_set (blk_set (blk_set HZ.out 0 (.string kind)) 1 (.int .i64 num)) 2 (.string text)) 3 (.slice A1 ks.length c1)) Tryz.underlying138 rfl (by kernel_rfl))) rfl ⟨A1, c1, by rw [List.length_map], ?_, ?_⟩
      · refine HV.out.keep (fun b o hs => ?_) (fun b hs => ⟨by have := hs.1; omega, by have := hs.2; simpa [size_set] using this⟩)
        have hne : b ≠ w.heap.size + 1 := by have := hs.1; omega
        rw [cell_far _ _ (p := ⟨w.heap.size + 1, 3, none⟩) hne, cell_far _ _ (p := ⟨w.heap.size + 1, 2, none⟩) hne, cell_far _ _ (p := ⟨w.heap.size + 1, 1, none⟩) hne, cell_far _ _ (p := ⟨w.heap.size + 1, 0, none⟩) hne]
      · exact (((HB.out.setCell (p := ⟨w.heap.size + 1, 0, none⟩) (Nat.le_succ _) _).setCell (p := ⟨w.heap.size + 1, 1, none⟩) (Nat.le_succ _) _).setCell (p := ⟨w.heap.size + 1, 2, none⟩) (Nat.le_succ _) _).setCell (p := ⟨w.heap.size + 1, 3, none⟩) (Nat.le_succ _) _
end Go.Proofs.YtcldbjgikkfnbaaGreatDoor

/-
  What lies behind a node's base, by the node's type. Plain. Conditions: none.
-/
namespace Go.Proofs.YtcldbjgikkfnbaaGreatDoor
open Go.RowKit
set_option linter.unusedVariables false
/-- A caller's name. -/
def extra (_T : TypeId) (_text : ByteArray) : List Value := []
end Go.Proofs.YtcldbjgikkfnbaaGreatDoor
