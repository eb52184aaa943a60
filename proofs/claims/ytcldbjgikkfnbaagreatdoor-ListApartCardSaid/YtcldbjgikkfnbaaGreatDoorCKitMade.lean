/-
  Texts of a proof in one: KitMade, KidsClone. Conditions: each names its own.
-/
import Derived.Test.YtcldbjgikkfnbaaGreatDoorCNodeLay
import Derived.Test.YtcldbjgikkfnbaaGreatDoorCKitNewA
import Derived.Defers
import Derived.Recover
import Derived.StillTailTactics
/-
  kit.made: a maker is called, a panic would be caught: a walk. Conditions: the maker gives a handle of a node.
-/
namespace Go.Proofs.YtcldbjgikkfnbaaGreatDoor
open Go.RowKit
set_option linter.unusedVariables false

/-- A node's base lies in memory, in blocks of S. -/
structure NodeAt (w : World) (S : Nat → Prop) (nb : Nat) (kind text : ByteArray) (vs x : List Value) : Prop where
  in_ : S nb
  kind_ : w.cell? ⟨nb, 0, none⟩ = some (.string kind)
  num_ : w.cell? ⟨nb, 1, none⟩ = some (.int .i64 0)
  text_ : w.cell? ⟨nb, 2, none⟩ = some (.string text)
  kids : ∃ A c, w.cell? ⟨nb, 3, none⟩ = some (.slice A vs.length c) ∧ ValsIn w S vs A
  rest : ∀ j u, x[j]? = some u → w.cell? ⟨nb, 4 + j, none⟩ = some u
theorem NodeAt.keep {w w' : World} {S S' : Nat → Prop} {nb : Nat} {kind text : ByteArray} {vs x : List Value} (h : NodeAt w S nb kind text vs x) (hk : ∀ b o, S b → w'.cell? ⟨b, o, none⟩ = w.cell? ⟨b, o, none⟩) (hS : ∀ b, S b → S' b) : NodeAt w' S' nb kind text vs x := by
  obtain ⟨A, c, h1, h2⟩ := h.kids
  exact ⟨hS _ h.in_, (hk _ _ h.in_).trans h.kind_, (hk _ _ h.in_).trans h.num_, (hk _ _ h.in_).trans h.text_, ⟨A, c, (hk _ _ h.in_).trans h1, h2.keep hk hS⟩, fun j u hu => (hk _ _ h.in_).trans (h.rest j u hu)⟩
theorem NodeAt.below {w w' : World} {nb : Nat} {kind text : ByteArray} {vs x : List Value} (h : NodeAt w (· < w.heap.size) nb kind text vs x) (hb : Below w.heap.size w w') : NodeAt w' (· < w'.heap.size) nb kind text vs x :=
  h.keep (fun b o hs => hb.cell (p := ⟨b, o, none⟩) hs) (fun b hs => Nat.lt_of_lt_of_le hs hb.size)
/-- What a maker gives: a new handle, that holds a node of a type, with that base. -/
def MkPost (kind text : ByteArray) (vs : List Value) (T : TypeId) (w : World) (e : Ending) (w' : World) : Prop :=
  ∃ (k : Kd) (nb : Nat), e = .returned (.pointer (some ⟨k.blk, 0, none⟩)) ∧ w.heap.size ≤ k.blk ∧ k.n = .iface T (.pointer (some ⟨nb, 0, none⟩)) ∧ k.at_ w' ∧ NodeAt w' (fresh w w') nb kind text vs (extra T text) ∧ Below w.heap.size w w'
def Makes (f : FuncId) (kind text : ByteArray) (ks : List Kd) (T : TypeId) : Prop :=
  ∀ (A : Option Addr) (c : Nat) (w : World), KidsIn w ks A → Calls Tryz.prog f #[.agg #[.string kind, .int .i64 0, .string text, .slice none 0 0], .slice A ks.length c] w (MkPost kind text (ks.map Kd.n) T w)

theorem made_idle (p : Addr) (w : World) : CallsD Tryz.prog 100 #[.pointer (some p)] .returning w fun e u' w' => e = .returned (.tuple #[]) ∧ u' = .returning ∧ w' = w := by
  refine callsD_of_wpS Tryz.func100 rfl fun c₀ cs hu => ?_
  apply wpS_seq
  apply wpS_region
  simp [wpOpsS, go_sem, recoverD, hu, Tryz.ntmps100, Exit.thenS]
  refine wpS_cond (t := false) (by simp [Act.eval, Array.replicate]) ?_
  simp only [Bool.false_eq_true, if_false]
  refine wpS_of_wp (wp_skip ?_)
  cases c₀
  simp_all [bodyPostS, results, Tryz.results100]

set_option maxRecDepth 100000 in
set_option maxHeartbeats 4000000 in
theorem kit_made {w : World} {KB : Nat} {f : FuncId} {kind text : ByteArray} {ks : List Kd} {T : TypeId} (hc : w.cell? ⟨KB, 3, none⟩ = some (.func (.func f) #[] #[])) (hcall : ∀ (args : Array Value) (w : World), (callFunc f args).run Tryz.prog w = .ok (.enter f args) w)
    (hM : Makes f kind text ks T) (Tk : Value) (hT : ∃ A0 n0 c0, Tk = .slice A0 n0 c0) (A : Option Addr) (c : Nat) (hk : KidsIn w ks A) :
    Calls Tryz.prog 75 #[.pointer (some ⟨KB, 0, none⟩), .agg #[.string kind, .int .i64 0, .string text, Tk], .slice A ks.length c] w (MkPost kind text (ks.map Kd.n) T w) := by
  obtain ⟨A0, n0, c0, rfl⟩ := hT
  have hmf : ∀ (fn : Fn) (first cap : Array Value) (w : World), (Instr.makeFunc fn first cap).run Tryz.prog w = .ok (.func fn first cap) w := fun _ _ _ _ => rfl
  have HM := Lib.hid hM
  have HK := Lib.hid hk
  clear hM hk
  go_enter_defers Tryz.func75, Tryz.ntmps75
  go_wp2
  have HX := heap_alloc2 w (.cells #[.string kind, .int .i64 0, .string text, .slice none 0 0] 65) (.cells #[.pointer none] 101)
  have HB1 := Lib.hid (((Below.refl w.heap.size w).alloc (Nat.le_refl _) (.cells #[.string kind, .int .i64 0, .string text, .slice none 0 0] 65)).alloc (by simp) (.cells #[.pointer none] 101))
  have hs1 : w.heap.size + 2 = ((w.alloc (.cells #[.string kind, .int .i64 0, .string text, .slice none 0 0] 65)).alloc (.cells #[.pointer none] 101)).heap.size := by simp
  generalize (w.alloc (.cells #[.string kind, .int .i64 0, .string text, .slice none 0 0] 65)).alloc (.cells #[.pointer none] 101) = w1 at *
  have hKB := World.block_lt_of_cell? _ _ hc
  have hc1 : w1.cell? ⟨KB, 3, none⟩ = some (.func (.func f) #[] #[]) := (HB1.out.cell (p := ⟨KB, 3, none⟩) hKB).trans hc
  have t1 := fun j => show w1.cell? ⟨w.heap.size, j, none⟩ = (#[.string kind, .int .i64 0, .string text, .slice none 0 0] : Array Value)[j]? by simp [World.cell?, HX.1]
  have HX2 := Lib.hid HX.2
  have KM := Lib.hid (HM.out A c w1.drew ((HK.out.below HB1.out).below (Below.refl w1.heap.size w1).drew))
  clear HX hc
  refine wp_region_still_tail 6 (by kernel_rfl) (by kernel_rfl) ?_
  simp only [List.take_succ_cons, List.take_zero, List.drop_succ_cons, List.drop_zero]
  repeat still_step
  refine wpStill_nil ?_
  change wpList _ _ _ _ _ w1.drew
  go_wp2_with fail
  refine KM.out.mono ?_
  rintro e w2 ⟨k, nb, rfl, hkb, hkn, hka, hnode, hb2⟩
  have hsz : w.heap.size + 2 ≤ k.blk := by rw [hs1]; exact hkb
  have hx := (hb2.block (w.heap.size + 1) (by show w.heap.size + 1 < w1.heap.size; omega)).trans HX2.out
  have hcx : w2.cell? ⟨w.heap.size + 1, 0, none⟩ = some (.pointer none) := by simp [World.cell?, hx]
  have hfx : w2.frozen? ⟨w.heap.size + 1, 0, none⟩ = false := by simp [World.frozen?, hx]
  have HXX := Lib.hid hx
  have HKN := Lib.hid hkn
  have HKA := Lib.hid hka
  have HNO := Lib.hid hnode
  have HB2 := Lib.hid (HB1.out.trans ((show Below w1.heap.size w1 w2 from ⟨hb2.os, hb2.tape, hb2.output, hb2.size, hb2.block⟩).mono HB1.out.size))
  have hs12 : w1.heap.size ≤ w2.heap.size := hb2.size
  clear hx hkn hka hnode hb2 hkb KM HM HK hc1 t1
  go_wp2
  refine leaves_cons (f := 100) (args := #[.pointer (some ⟨w.heap.size + 1, 0, none⟩)]) (by simp) (by simp [go_sem]) ?_
  refine (made_idle _ _).mono ?_
  rintro e u' w'' ⟨rfl, rfl, rfl⟩
  have hc3 : (w2.setCell ⟨w.heap.size + 1, 0, none⟩ (.pointer (some ⟨k.blk, 0, none⟩))).cell? ⟨w.heap.size + 1, 0, none⟩ = some (.pointer (some ⟨k.blk, 0, none⟩)) := by
    have := blk_set HXX.out 0 (.pointer (some ⟨k.blk, 0, none⟩))
    simp [World.cell?, this]
  have hne : ∀ b, w1.heap.size ≤ b → b ≠ w.heap.size + 1 := fun b hb => by omega
  have hK3 : k.at_ (w2.setCell ⟨w.heap.size + 1, 0, none⟩ (.pointer (some ⟨k.blk, 0, none⟩))) := ⟨(Below.heap_setCell _ _ _ _ (hne _ (by rw [← hs1]; exact hsz))).trans HKA.out.1, HKA.out.2⟩
  have hN3 : NodeAt (w2.setCell ⟨w.heap.size + 1, 0, none⟩ (.pointer (some ⟨k.blk, 0, none⟩))) (fresh w (w2.setCell ⟨w.heap.size + 1, 0, none⟩ (.pointer (some ⟨k.blk, 0, none⟩)))) nb kind text (ks.map Kd.n) (extra T text) :=
    HNO.out.keep (fun b o hs => cell_far _ _ (p := ⟨w.heap.size + 1, 0, none⟩) (hne b hs.1) o) (fun b hs => ⟨by have h1 : w1.heap.size ≤ b := hs.1; omega, by rw [size_set]; exact hs.2⟩)
  have hB3 := HB2.out.setCell (p := ⟨w.heap.size + 1, 0, none⟩) (Nat.le_succ _) (.pointer (some ⟨k.blk, 0, none⟩))
  have HK3 := Lib.hid hK3
  have HN3 := Lib.hid hN3
  have HB3 := Lib.hid hB3
  clear hK3 hN3 hB3
  generalize w2.setCell ⟨w.heap.size + 1, 0, none⟩ (.pointer (some ⟨k.blk, 0, none⟩)) = w3 at *
  have hl : (loadVar 101 ⟨w.heap.size + 1, 0, none⟩).run Tryz.prog w3 = .ok (.pointer (some ⟨k.blk, 0, none⟩)) w3 := by go_simp
  exact ⟨_, results_cell (p := 6) (ty := 101) (a := ⟨w.heap.size + 1, 0, none⟩) Tryz.results75 rfl hl, k, nb, rfl, by omega, HKN.out, HK3.out, HN3.out, HB3.out⟩
end Go.Proofs.YtcldbjgikkfnbaaGreatDoor

/-
  slices.Clone of handles: a walk. Conditions: they lie in memory.
-/
namespace Go.Proofs.YtcldbjgikkfnbaaGreatDoor
open Go.RowKit
set_option linter.unusedVariables false

def ClonePost (ks : List Kd) (w : World) (e : Ending) (w' : World) : Prop := ∃ A c, e = .returned (.slice A ks.length c) ∧ KidsIn w' ks A ∧ Below w.heap.size w w'
theorem info_handle : ∃ i, Tryz.prog.info? 101 = some i ∧ i.zero = some (.pointer none) ∧ i.size = 1 ∧ i.bytes = 8 := by
  have h : (Tryz.prog.info? 101).map (fun i => (i.zero, i.size, i.bytes)) = some (some (.pointer none), 1, 8) := by kernel_rfl
  cases hh : Tryz.prog.info? 101 with
  | none => rw [hh] at h; cases h
  | some i =>
    rw [hh] at h
    simp only [Option.map_some, Option.some.injEq, Prod.mk.injEq] at h
    exact ⟨i, rfl, h.1, h.2.1, h.2.2⟩
theorem own_empty (w : World) (T : TypeId) : (w.alloc (.cells #[] T)).ownsRow w.heap.size T 1 (.slice (some ⟨w.heap.size, 0, none⟩) 0 0) 0 [] := by
  refine ⟨rfl, .inr ⟨w.heap.size, 0, #[], rfl, Nat.le_refl _, heap_alloc_new _ _, Nat.le_refl _, Nat.zero_le _, rfl, rfl⟩⟩
theorem kids_news {w : World} {b o : Nat} {l : List Value} {X : Obj} (h : ∀ j u, l[j]? = some u → w.cell? ⟨b, o + j, none⟩ = some u) (hb : b < w.heap.size) : ∀ j u, l[j]? = some u → (w.alloc X).cell? ((⟨b, o, none⟩ : Addr).add j) = some u := fun j u hu => by
  have e : (⟨b, o, none⟩ : Addr).add j = ⟨b, o + j, none⟩ := by unfold Addr.add; split <;> simp_all
  rw [e]
  exact alloc_cell X (h j u hu)
set_option maxRecDepth 100000 in
set_option maxHeartbeats 4000000 in
theorem clone_kids (ks : List Kd) (A : Option Addr) (c : Nat) (w : World) (hlen : ks.length ≤ 100000) (h0 : ks = [] → A = none ∧ c = 0) (hk : KidsIn w ks A) : Calls Tryz.prog 76 #[.slice A ks.length c] w (ClonePost ks w) := by
  obtain ⟨i0, hi, hz0, hz1, hz2⟩ := info_handle
  by_cases hn : ks = []
  · obtain ⟨rfl, rfl⟩ := h0 hn
    subst hn
    have HK := Lib.hid hk
    clear hk
    have hne : ∀ w : World, (binOp .eql 100 (.slice none 0 0) (.slice none 0 0)).run Tryz.prog w = .ok (.bool true) w := fun _ => rfl
    go_enter Tryz.func76, Tryz.ntmps76
    go_wp2
    go_ret
    exact ⟨none, 0, rfl, HK.out, Below.refl _ _⟩
  · have hpos : 0 < ks.length := List.length_pos_iff.2 hn
    obtain ⟨b, o, rfl, hb, hc⟩ := hk.1 (by simpa using hpos)
    have HK := Lib.hid hk
    have HCC := Lib.hid hc
    have hl : (ks.map Kd.ptr).length = ks.length := by simp
    clear hk hc h0 hn
    generalize hnl : ks.length = n at *
    have hne : ∀ w : World, (binOp .eql 100 (.slice (some ⟨b, o, none⟩) n c) (.slice none 0 0)).run Tryz.prog w = .ok (.bool false) w := fun _ => rfl
    go_enter Tryz.func76, Tryz.ntmps76
    go_wp2_with (at_builtin; refine wpList_append_lies _ rfl _ _ 100 rfl w.heap.size 101 i0 _ 1 8 Tryz.underlying100 hi hz0 hz1 hz2 rfl (by decide) _ 0 [] rfl (own_empty w 101) ⟨b, o, none⟩ n c (ks.map Kd.ptr) rfl (by simpa using hl) (kids_news HCC.out hb) (by intro u hu; obtain ⟨x, _, rfl⟩ := List.mem_map.1 hu; rfl) hpos (by unfold maxLen; omega) (by omega) (by simp) (w.heap.size + 1) (by simp) ?_)
    intro g cap w7 hown hgr hat hlt
    have hb7 : Below w.heap.size w w7 := ((Below.refl w.heap.size w).alloc (Nat.le_refl _) _).grown hgr (by rw [size_alloc]; omega) (fun q e => by injection e with e; exact Nat.le_of_eq e)
    have hv : ValsIn w7 (· < w7.heap.size) (ks.map Kd.ptr) (some ⟨g, 0, none⟩) := by
      have h2 : w7.ownsRow w.heap.size 101 1 (.slice (some ⟨g, 0, none⟩) n cap) n (ks.map Kd.ptr) := by simpa using hown
      obtain ⟨A1, c1, e1, h1⟩ := own_vals h2 (by simpa using hl)
      injection e1 with e1
      subst e1
      exact h1.keep (fun _ _ _ => rfl) (fun b hb => hb.2)
    have HKK : Hid (KidsIn w7 ks (some ⟨g, 0, none⟩)) := Lib.hid ⟨hv, fun k hk => (HK.out.2 k hk).below hb7⟩
    have HB7 := Lib.hid hb7
    clear hb7 hv hown hgr hat
    go_wp2
    go_ret
    subst hnl
    exact ⟨_, _, rfl, HKK.out, HB7.out⟩
end Go.Proofs.YtcldbjgikkfnbaaGreatDoor
