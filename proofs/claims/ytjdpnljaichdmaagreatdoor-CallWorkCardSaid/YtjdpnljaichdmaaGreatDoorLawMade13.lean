/-
  espalierlaw13.made: a node of a kit's kind over some literals: a walk. Printed by a program of mine (gen_made.py). Conditions: the kit lies in memory, its maker gives what the row says.
-/
import Derived.Test.YtjdpnljaichdmaaGreatDoorLawMade
namespace Go.Proofs.YtjdpnljaichdmaaGreatDoor
open Go.RowKit
set_option linter.unusedVariables false

set_option maxRecDepth 100000 in
set_option maxHeartbeats 8000000 in
theorem law13_made {w : World} {M KB : Nat} {name : ByteArray} {vv : Value} {ts : List RowAt} {f : FuncId} (h : KitIn w M KB name (.func (.func f) #[] #[]) vv ts) (hlen : ts.length ≤ 1000000) (k : Nat) (hk : k < ts.length) (hdis : ∀ j (h : j < k), (ts[j]'(by omega)).row.kind ≠ ts[k].row.kind)
    {s : ByteArray} {T : TypeId} {B : Nat → Bool} (n : Nat) (hn : n ≤ 1000) (hm : ∀ ks : List Kd, ks.length = n → (∀ k ∈ ks, SameKid k) → MakeOk ts[k].row s ks f T B) :
    Calls Tryz.prog 21 #[.pointer (some ⟨KB, 0, none⟩), .agg #[.string ts[k].row.kind, .int .i64 0, .string s, .slice none 0 0], .int .i64 (n : Int)] w (MadePost ts[k].row.kind s n T w) := by
  obtain ⟨i0, hi, hz0, hz1, hz2⟩ := info_handle
  have HR := Lib.hid (fun (w' : World) (hb : Below w.heap.size w w') (ks : List Kd) (e : ks.length = n) (hs : ∀ k ∈ ks, SameKid k) (A : Option Addr) (c : Nat) (h0 : ks = [] → A = none ∧ c = 0) (hk' : KidsIn w' ks A) => kit_Make (v := ByteArray.empty) (h.below hb) hlen k hk hdis (hm ks e hs) (.slice none 0 0) ⟨_, _, _, rfl⟩ A c h0 hk')
  clear h hlen hdis hm
  generalize ts[k].row.kind = kind at *
  go_enter Tryz.func21, Tryz.ntmps21
  go_wp2
  have HX0 := heap_alloc_new w (.cells #[.string kind, .int .i64 0, .string s, .slice none 0 0] 59)
  have HB0 := (Below.refl w.heap.size w).alloc (Nat.le_refl _) (.cells #[.string kind, .int .i64 0, .string s, .slice none 0 0] 59)
  go_loopw [8, 7] (fun s8 s7 wr => ∃ ks : List Kd, ks.length ≤ n ∧ s8 = .int .i64 (ks.length : Int) ∧ KidRow wr (w.heap.size + 1) s7 ks ∧ wr.heap[w.heap.size]? = some (.cells #[.string kind, .int .i64 0, .string s, .slice none 0 0] 59) ∧ Below w.heap.size w wr) (fun s8 _ _ => n - (intOf s8).toNat)
  case atStart => exact ⟨[], Nat.zero_le _, rfl, KidRow.nil _ _, HX0, HB0⟩
  case round =>
    obtain ⟨ks, hle, rfl, hrow, hx, hbel⟩ := hrel
    have HO := Lib.hid hrow
    have HX := Lib.hid hx
    have HB := Lib.hid hbel
    have hxl := lt_of_block hx
    have hws := hbel.size
    clear hrow hx hbel HX0 HB0
    have hlen : Hid (ks.length = ks.length) := Lib.hid rfl
    by_cases hlt : ks.length < n
    · have KM := Lib.hid (node_Make wr)
      unfold yesTree at KM
      go_wp2_with fail
      refine KM.out.mono ?_
      rintro e w2 ⟨kd, rfl, hkb, hka, hlit, hb2⟩
      have HKA := Lib.hid hka
      have HLI := Lib.hid hlit
      have HB2 := Lib.hid (HB.out.trans (hb2.mono hws))
      have HX2 := Lib.hid ((hb2.block _ hxl).trans HX.out)
      have HO2 := Lib.hid (HO.out.below hb2)
      have HN2 := Lib.hid HO2.out.own
      have hs2 : w.heap.size < w2.heap.size := Nat.lt_of_lt_of_le hxl hb2.size
      clear hka hlit hkb hb2 KM HO HX
      unfold Kd.ptr
      go_wp2_with (at_builtin; refine wpList_append_lies _ rfl _ _ 96 rfl (w.heap.size + 1) 97 i0 _ 1 8 Tryz.underlying96 hi hz0 hz1 hz2 rfl (by decide) _ ks.length (ks.map Kd.ptr) rfl (HN2.out.alloc _) ⟨w2.heap.size, 0, none⟩ 1 1 [.pointer (some ⟨kd.blk, 0, none⟩)] rfl rfl (one_new w2 _ _) (by simp [Value.oneCell']) (by decide) (by unfold maxLen; omega) (by omega) (by simp; omega) (w2.heap.size + 1) (by simp) ?_)
      intro g cap w3 hown3 hgr3 hat hlt3
      have HO3 := Lib.hid (HO2.out.push HKA.out HLI.out hgr3 hown3)
      have HX3 : Hid (w3.heap[w.heap.size]? = _) := Lib.hid ((hgr3.block _ (by rw [size_alloc]; omega) (HO2.out.other (Nat.lt_succ_self _))).trans ((Below.heap_alloc _ _ _ hs2).trans HX2.out))
      have HB3 := Lib.hid ((HB2.out.alloc HB2.out.size _).grown hgr3 (by rw [size_alloc]; omega) (fun q e => by have := (HN2.out.lt q e).1; omega))
      clear hown3 hgr3 hat
      go_wp2
      go_roundw
      case rel => exact ⟨ks ++ [kd], by simp; omega, by simp, by simpa using HO3.out, HX3.out, HB3.out⟩
      case measure => simp [intOf]; omega
    · have heq : ks.length = n := by omega
      obtain ⟨A, c, rfl, hki, h0⟩ := HO.out.kidsIn
      have KK := Lib.hid (HR.out wr HB.out ks heq (fun k hk => same_lit (HO.out.kids k hk).2) A c h0 hki)
      have t0 := fun j => show wr.cell? ⟨w.heap.size, j, none⟩ = (#[.string kind, .int .i64 0, .string s, .slice none 0 0] : Array Value)[j]? by simp [World.cell?, HX.out]
      have hl : (ks.map Kd.n).length = n := by simpa using heq
      rw [heq] at KK
      clear hki h0 HO HR
      generalize ks.map Kd.n = vs at *
      go_wp2_with fail
      refine KK.out.mono ?_
      rintro e w2 ⟨kd, nb, rfl, hkb, hkn, hka, hno, hb2⟩
      have KN := Lib.hid (node_Node kd w2 hka)
      rw [hkn] at KN
      have HNO := Lib.hid hno
      have HB2 := Lib.hid (HB.out.trans (hb2.mono hws))
      clear hkb hkn hka hno hb2 KK t0
      generalize kd.blk = kb at *
      go_wp2_with fail
      refine KN.out.mono ?_
      rintro e w3 ⟨rfl, rfl⟩
      go_wp2
      go_ret
      exact ⟨nb, vs, hl, rfl, HNO.out, HB2.out⟩
end Go.Proofs.YtjdpnljaichdmaaGreatDoor
