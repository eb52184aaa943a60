/-
  espalierlaw2.Full of any value that was answered: it writes into its own blocks alone. Walks. Conditions: the value lies in rows of its own, has at most 65,536 values.
-/
import Derived.Test.YtcldbjgikkfnbaaGreatDoorCSavW
import Derived.Test.YtcldbjgikkfnbaaGreatDoorCZvalOf
namespace Go.Proofs.YtcldbjgikkfnbaaGreatDoor
open Go.RowKit
set_option linter.unusedVariables false

def FullPost (S : Nat → Prop) (w : World) (e : Ending) (w' : World) : Prop := e = .returned (.tuple #[]) ∧ Sav S w w'
def FullOk (x : Vl) : Prop := ∀ (S : Nat → Prop) (v : Value) (m : Int) (w : World), x.sep w S v → (∀ b, S b → b < w.heap.size) → x.count ≤ 65536 → Calls Tryz.prog 18 #[v, .int .i64 m] w (FullPost S w)
theorem full_miss (T : TypeId) (y : Value) (h : T ≠ 47) (S : Nat → Prop) (m : Int) (w : World) : Calls Tryz.prog 18 #[.iface T y, .int .i64 m] w (FullPost S w) := by
  have a1 := pf_no_List T y h
  go_enter Tryz.func18, Tryz.ntmps18
  go_wp2
  go_end0
  exact ⟨rfl, Sav.refl _ _⟩
theorem full_none (S : Nat → Prop) (m : Int) (w : World) : Calls Tryz.prog 18 #[.iface 47 (.slice none 0 0), .int .i64 m] w (FullPost S w) := by
  have a1 := pf_as_List (.slice none 0 0)
  go_enter Tryz.func18, Tryz.ntmps18
  go_wp2
  refine wp_loop_rounds 1 ?_
  rw [rounds_succ]
  go_wp2
  refine wp_loop_rounds 1 ?_
  rw [rounds_succ]
  go_wp2
  go_end0
  exact ⟨rfl, Sav.refl _ _⟩
def lenV : Value → Nat
  | .slice _ n _ => n
  | _ => 0
set_option maxRecDepth 100000 in
set_option maxHeartbeats 8000000 in
theorem full_row (l : List Vl) (ih : ∀ (j : Nat) (h : j < l.length), FullOk l[j]) (g c : Nat) (us : List Value) (S : Nat → Prop) (m : Int) (w : World) (h0 : FullI S w g c l us 0 w) (hS : ∀ b, S b → b < w.heap.size) (hg : S g) (hc : (Vl.list l).count ≤ 65536) :
    Calls Tryz.prog 18 #[.iface 47 (.slice (some ⟨g, 0, none⟩) l.length c), .int .i64 m] w (FullPost S w) := by
  obtain ⟨i0, hi, hz0, hz1, hz2⟩ := info_parts info_value
  have a1 := pf_as_List (.slice (some ⟨g, 0, none⟩) l.length c)
  have hll := Vls.len_count l
  have hcl : (Vl.list l).count = 1 + Vls.count l := rfl
  have hlen : l.length ≤ 65536 := by omega
  have hcm : c ≤ 9223372036854775807 := by
    obtain ⟨cur, _, _, _, h⟩ := h0.row
    unfold maxLen at h; omega
  have hlc : l.length ≤ c := by
    obtain ⟨cur, _, _, h, _⟩ := h0.row
    exact h
  have IH := Lib.hid ih
  have H0 := Lib.hid h0
  have HS := Lib.hid hS
  have HG := Lib.hid hg
  have HC : Hid (Vls.count l ≤ 65535) := Lib.hid (by omega)
  clear ih h0 hS hg hc hll hcl
  go_enter Tryz.func18, Tryz.ntmps18
  go_wp2
  clear a1
  go_loopw [6] (fun s6 wr => ∃ (k : Nat), k ≤ l.length ∧ s6 = .int .i64 (k : Int) ∧ FullI S w g c l us k wr) (fun s6 _ => l.length - (intOf s6).toNat)
  case atStart => exact ⟨0, Nat.zero_le _, rfl, H0.out⟩
  case round =>
    obtain ⟨k, hk, rfl, hI⟩ := hrel
    have HI := Lib.hid hI
    clear hI
    by_cases hlt : k < l.length
    · obtain ⟨u, S1, hu, hcu, hsep, hS1, hnext⟩ := HI.out.head hlt
      have HN := Lib.hid hnext
      have hcnt := Vls.count_take l k hlt
      have hcle := Vls.count_le l (k + 1)
      have KF := Lib.hid (IH.out k hlt S1 u m wr hsep (fun b hb => Nat.lt_of_lt_of_le (HS.out b (hS1 b hb).1) HI.out.sav.size) (by have := HC.out; omega))
      obtain ⟨vt, vx, rfl⟩ := hsep.iface
      clear hnext hsep hS1 hu hcnt hcle
      go_wp2_with fail
      refine KF.out.mono ?_
      rintro e w2 ⟨rfl, hsv⟩
      obtain ⟨h1, h2, h3⟩ := HN.out w2 hsv HS.out HG.out (.iface 43 (.int .i64 m))
      have HI1 := Lib.hid h1
      clear h1 hsv hcu KF
      go_wp2
      go_roundw
      case rel => exact ⟨k + 1, by omega, by go_num, HI1.out⟩
      case measure => simp [intOf]; omega
    · have hkl : k = l.length := by omega
      subst hkl
      have hsv := Lib.hid HI.out.sav
      obtain ⟨xs0, hx0⟩ := HI.out.row.own
      have HX0 := Lib.hid hx0
      clear hx0
      go_upto_region 7 with fail
      go_cut [7] from 15 to 46 (fun s7 wx => ∃ N : Nat, s7 = .int .i64 (N : Int) ∧ l.length ≤ N ∧ N ≤ c ∧ N ≤ l.length + 70000 ∧ wx = wr)
      case first =>
        go_wp2
        all_goals
          go_meet
          first
            | exact ⟨c, rfl, by omega, by omega, by omega, rfl⟩
            | exact ⟨l.length + 70000, by go_num, by omega, by omega, by omega, rfl⟩
      case rest =>
      obtain ⟨N, rfl, hN0, hN1, hN2, hwx⟩ := hcut
      have HWX := Lib.hid hwx
      clear hwx
      have hsv' : Hid (Sav S w wc) := Lib.hid (by rw [HWX.out]; exact hsv.out)
      have HX1 : Hid (wc.ownsRow 0 35 1 (.slice (some ⟨g, 0, none⟩) l.length c) l.length xs0) := Lib.hid (by rw [HWX.out]; exact HX0.out)
      go_wp2
      go_loopw [4] (fun s4 wr => ∃ (k g' c' : Nat) (xs : List Value), k ≤ N ∧ s4 = .slice (some ⟨g', 0, none⟩) k c' ∧ wr.ownsRow 0 35 1 (.slice (some ⟨g', 0, none⟩) k c') k xs ∧ (S g' ∨ w.heap.size ≤ g') ∧ Sav S w wr) (fun s4 _ => N - lenV s4)
      case atStart => exact ⟨l.length, g, c, xs0, hN0, rfl, HX1.out, .inl HG.out, hsv'.out⟩
      case round =>
        obtain ⟨k, g', c', xs, hk, rfl, hown, hgs, hsr⟩ := hrel
        have HO := Lib.hid hown
        have HGS := Lib.hid hgs
        have HSR := Lib.hid hsr
        clear hown hgs hsr
        by_cases hlt : k < N
        · have hO1 := Lib.hid (HO.out.alloc (.cells #[.iface 43 (.int .i64 m)] 35))
          go_wp2_with (at_builtin; refine wpList_append_own_at _ rfl _ _ 47 rfl 0 35 i0 .nilIface 1 16 Tryz.underlying47 hi hz0 hz1 hz2 rfl (by decide) _ k xs rfl hO1.out ⟨wr.heap.size, 0, none⟩ 1 1 [.iface 43 (.int .i64 m)] rfl rfl (World.news_of_block (heap_alloc_new _ _)) (by intro u hu; simp at hu; subst hu; rfl) (by unfold maxLen; omega) (by omega) (Nat.zero_le _) ?_)
          intro v' w3 hown3 hgr3 _ hat3
          obtain ⟨g3, c3, rfl⟩ := own_some hown3
          have HO3 := Lib.hid hown3
          have HS3 := Lib.hid ((HSR.out.alloc (.cells #[.iface 43 (.int .i64 m)] 35)).grown hgr3 (fun q e => by injection e with e; have e' : g' = q := e; subst e'; exact HGS.out))
          have HG3 : Hid (S g3 ∨ w.heap.size ≤ g3) := Lib.hid (by
            rcases hat3 with e | e
            · injection e with e; have e' : g3 = g' := e; subst e'; exact HGS.out
            · injection e with e; have e' : g3 = wr.heap.size + 1 := e; have := HSR.out.size; exact .inr (by omega))
          clear hown3 hgr3 hat3
          go_wp2
          go_roundw
          case rel => exact ⟨k + 1, g3, c3, _, by omega, rfl, HO3.out, HG3.out, HS3.out⟩
          case measure => simp [lenV]; omega
        · go_wp2
          go_end0
          exact ⟨rfl, HSR.out⟩
theorem full_list (l : List Vl) (ih : ∀ (j : Nat) (h : j < l.length), FullOk l[j]) : FullOk (.list l) := by
  intro S v m w hv hS hc
  unfold Vl.sep at hv
  obtain ⟨A, c, us, rfl, hown, hg, hsep⟩ := hv
  rcases hown.2 with ⟨e, h0⟩ | ⟨g, cap, cur, e, _, hb, hnc, hcm, hsz, htk⟩
  · injection e with e1 e2 e3
    subst e1 e3
    rw [e2]
    exact full_none S m w
  · injection e with e1 e2 e3
    subst e1 e3
    have hgS : S g := hg g rfl
    refine full_row l ih g c us S m w ⟨Sav.refl _ _, row_is hown, fun j _ hj => ?_, ?_⟩ hS hgS hc
    · rw [hown.cellAt j (by omega)]
    · rw [List.drop_zero, List.drop_zero]
      exact hsep.mono (fun b hb => ⟨hb.1, fun e => hb.2 (by rw [e]; rfl)⟩)
mutual
theorem full_all : ∀ x : Vl, FullOk x
  | .unit => fun S v m w hv _ _ => by unfold Vl.sep at hv; subst hv; exact full_miss _ _ (by decide) S m w
  | .truth _ => fun S v m w hv _ _ => by unfold Vl.sep at hv; subst hv; exact full_miss _ _ (by decide) S m w
  | .int _ => fun S v m w hv _ _ => by unfold Vl.sep at hv; subst hv; exact full_miss _ _ (by decide) S m w
  | .text _ => fun S v m w hv _ _ => by unfold Vl.sep at hv; subst hv; exact full_miss _ _ (by decide) S m w
  | .list l => full_list l (full_alls l)
theorem full_alls : ∀ (l : List Vl) (j : Nat) (h : j < l.length), FullOk l[j]
  | [], j, h => absurd h (by simp)
  | x :: xs, 0, _ => full_all x
  | x :: xs, j + 1, h => full_alls xs j (by simpa using h)
end
end Go.Proofs.YtcldbjgikkfnbaaGreatDoor
