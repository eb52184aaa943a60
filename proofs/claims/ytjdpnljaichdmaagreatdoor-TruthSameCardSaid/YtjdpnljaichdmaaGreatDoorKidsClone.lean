/-
  slices.Clone of handles: a walk. Conditions: they lie in memory.
-/
import Derived.Test.YtjdpnljaichdmaaGreatDoorKitMade
namespace Go.Proofs.YtjdpnljaichdmaaGreatDoor
open Go.RowKit
set_option linter.unusedVariables false

def ClonePost (ks : List Kd) (w : World) (e : Ending) (w' : World) : Prop := ∃ A c, e = .returned (.slice A ks.length c) ∧ KidsIn w' ks A ∧ Below w.heap.size w w'
theorem info_handle : ∃ i, Tryz.prog.info? 97 = some i ∧ i.zero = some (.pointer none) ∧ i.size = 1 ∧ i.bytes = 8 := by
  have h : (Tryz.prog.info? 97).map (fun i => (i.zero, i.size, i.bytes)) = some (some (.pointer none), 1, 8) := by kernel_rfl
  cases hh : Tryz.prog.info? 97 with
  | none => rw [hh] at h; cases h
  | some i =>
    rw [hh] at h
    simp only [Option.map_some, Option.some.injEq, Prod.mk.injEq] at h
    exact ⟨i, rfl, h.1, h.2.1, h.2.2⟩
theorem own_empty (w : World) (T : TypeId) : (w.alloc (.cells #[] T)).ownsRow w.heap.size T 1 (.slice (some ⟨w.heap.size, 0, none⟩) 0 0) 0 [] := by
  refine ⟨rfl, .inr ⟨w.heap.size, 0, #[], rfl, Nat.le_refl _, heap_alloc_new _ _, Nat.le_refl _, Nat.zero_le _, rfl, rfl⟩⟩
theorem kids_news {w : World} {b o : Nat} {l : List Value} {X : Obj} (h : ∀ j u, l[j]? = some u → w.cell? ⟨b, o + j, none⟩ = some u) (hb : b < w.heap.size) : ∀ j u, l[j]? = some u → (w.alloc X).cell? ((⟨b, o, none⟩ : Addr).add j) = some u := fun j u hu => by
  have e : (⟨b, o, none⟩ : Addr).add j = ⟨b, o + j, none⟩ := by unfold Addr.add; split <;> simp_all
  rw [e]
  exact alloc_cell X (h j u hu)
set_option maxRecDepth 100000 in
set_option maxHeartbeats 4000000 in
theorem clone_kids (ks : List Kd) (A : Option Addr) (c : Nat) (w : World) (hlen : ks.length ≤ 100000) (h0 : ks = [] → A = none ∧ c = 0) (hk : KidsIn w ks A) : Calls Tryz.prog 68 #[.slice A ks.length c] w (ClonePost ks w) := by
  obtain ⟨i0, hi, hz0, hz1, hz2⟩ := info_handle
  by_cases hn : ks = []
  · obtain ⟨rfl, rfl⟩ := h0 hn
    subst hn
    have HK := Lib.hid hk
    clear hk
    have hne : ∀ w : World, (binOp .eql 96 (.slice none 0 0) (.slice none 0 0)).run Tryz.prog w = .ok (.bool true) w := fun _ => rfl
    go_enter Tryz.func68, Tryz.ntmps68
    go_wp2
    go_ret
    exact ⟨none, 0, rfl, HK.out, Below.refl _ _⟩
  · have hpos : 0 < ks.length := List.length_pos_iff.2 hn
    obtain ⟨b, o, rfl, hb, hc⟩ := hk.1 (by simpa using hpos)
    have HK := Lib.hid hk
    have HCC := Lib.hid hc
    have hl : (ks.map Kd.ptr).length = ks.length := by simp
    clear hk hc h0 hn
    generalize hnl : ks.length = n at *
    have hne : ∀ w : World, (binOp .eql 96 (.slice (some ⟨b, o, none⟩) n c) (.slice none 0 0)).run Tryz.prog w = .ok (.bool false) w := fun _ => rfl
    go_enter Tryz.func68, Tryz.ntmps68
    go_wp2_with (at_builtin; refine wpList_append_lies _ rfl _ _ 96 rfl w.heap.size 97 i0 _ 1 8 Tryz.underlying96 hi hz0 hz1 hz2 rfl (by decide) _ 0 [] rfl (own_empty w 97) ⟨b, o, none⟩ n c (ks.map Kd.ptr) rfl (by simpa using hl) (kids_news HCC.out hb) (by intro u hu; obtain ⟨x, _, rfl⟩ := List.mem_map.1 hu; rfl) hpos (by unfold maxLen; omega) (by omega) (by simp) (w.heap.size + 1) (by simp) ?_)
    intro g cap w7 hown hgr hat hlt
    have hb7 : Below w.heap.size w w7 := ((Below.refl w.heap.size w).alloc (Nat.le_refl _) _).grown hgr (by rw [size_alloc]; omega) (fun q e => by injection e with e; exact Nat.le_of_eq e)
    have hv : ValsIn w7 (· < w7.heap.size) (ks.map Kd.ptr) (some ⟨g, 0, none⟩) := by
      have h2 : w7.ownsRow w.heap.size 97 1 (.slice (some ⟨g, 0, none⟩) n cap) n (ks.map Kd.ptr) := by simpa using hown
      obtain ⟨A1, c1, e1, h1⟩ := own_vals h2 (by simpa using hl)
      injection e1 with e1
      subst e1
      exact h1.keep (fun _ _ _ => rfl) (fun b hb => hb.2)
    have HKK : Hid (KidsIn w7 ks (some ⟨g, 0, none⟩)) := Lib.hid ⟨hv, fun k hk => (HK.out.2 k hk).below hb7⟩
    have HB7 := Lib.hid hb7
    clear hb7 hv hown hgr hat
    go_wp2
    go_ret
    subst hnl
    exact ⟨_, _, rfl, HKK.out, HB7.out⟩
end Go.Proofs.YtjdpnljaichdmaaGreatDoor
