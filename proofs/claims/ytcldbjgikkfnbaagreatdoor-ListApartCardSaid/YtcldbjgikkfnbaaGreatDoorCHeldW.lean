/-
  (*espalierlaw11.Book).Held: it is true of a book whose lists bear their marks. A walk. Conditions: at most 10,000,000 lists.
-/
import Derived.Test.YtcldbjgikkfnbaaGreatDoorCBookP
import Derived.Test.YtcldbjgikkfnbaaGreatDoorCListCountC
import Derived.Deep.CutRange
namespace Go.Proofs.YtcldbjgikkfnbaaGreatDoor
open Go.RowKit
set_option linter.unusedVariables false

set_option maxRecDepth 100000 in
set_option maxHeartbeats 8000000 in
theorem book_Held (D : Nat → Prop) (B Q : Nat) (bv : Value) (es : List Ent) (w : World) (hB : BookAt w B Q bv es D) (hes : es.length ≤ 10000000) :
    Calls Tryz.prog 20 #[.pointer (some ⟨Q, 0, none⟩)] w (Bel (.bool true) w) := by
  obtain ⟨A5, c5, hv5⟩ := own_form hB.row.row
  subst hv5
  have q0 : w.cell? ⟨Q, 0, none⟩ = some (.slice A5 es.length c5) := by simp [World.cell?, hB.row.blk]
  have HBK := Lib.hid hB
  clear hB
  go_enter Tryz.func20, Tryz.ntmps20
  go_wp2
  go_loopw [3] (fun s3 wr => ∃ k : Nat, k ≤ es.length ∧ s3 = .int .i64 (k : Int) ∧ Hid (wr = w)) (fun s3 _ => es.length - (intOf s3).toNat)
  case atStart => exact ⟨0, Nat.zero_le _, rfl, Lib.hid rfl⟩
  case round =>
    obtain ⟨k, hk, rfl, hw⟩ := hrel
    have hw' := hw.out
    subst hw'
    clear hw
    by_cases hlt : k < es.length
    · obtain ⟨g5, rfl, hc5⟩ := own_at HBK.out.row.row (by omega)
      have hck := hc5 k (by rw [List.length_map]; exact hlt)
      have hent := HBK.out.marks k es[k] (List.getElem?_eq_getElem hlt)
      rw [List.getElem_map] at hck
      generalize es[k] = e at *
      obtain ⟨A, n, c⟩ := e
      have hsm : n ≤ 65536 := hent.small
      obtain ⟨hnc, hcm⟩ : n ≤ c ∧ c ≤ maxLen := hent.cap
      have hcm' : c ≤ 9223372036854775807 := by unfold maxLen at hcm; omega
      have hfm := hent.form
      clear hent hc5
      replace hck : wr.cell? ⟨g5, k, none⟩ = some (.slice A n c) := hck
      rcases hfm with ⟨rfl, rfl, rfl⟩ | ⟨g, rfl, hD, hcs⟩
      · clear hsm hnc hcm hcm'
        go_wp2
        refine wp_loop_rounds 1 ?_
        rw [rounds_succ]
        go_wp2
        go_roundw
        case rel => exact ⟨k + 1, by omega, by go_num, by first | exact Lib.hid rfl | exact Lib.hid trivial⟩
        case measure => simp [intOf]; omega
      · have HCS := Lib.hid hcs
        clear hcs hD hcm
        go_upto_region 5 with fail
        go_cut [4] from 6 to 43 (fun s4 wx => ∃ N : Nat, s4 = .slice (some ⟨g, 0, none⟩) N c ∧ N ≤ c ∧ N = min c (n + 2000) ∧ Hid (wx = wr))
        case first =>
          go_wp2
          all_goals
            go_meet
            refine ⟨min c (n + 2000), ?_, by omega, rfl, by first | exact Lib.hid rfl | exact Lib.hid trivial⟩
            have hI : ∀ a b : Nat, a = b → Value.slice (some ⟨g, 0, none⟩) a c = .slice (some ⟨g, 0, none⟩) b c := fun a b h => by rw [h]
            refine hI _ _ ?_
            first
              | omega
              | (split <;> omega)
        case rest =>
        obtain ⟨N, rfl, hNc, hN, hwx⟩ := hcut
        have hwx' := hwx.out
        subst hwx'
        have HN := Lib.hid hN
        clear hN hwx
        go_wp2
        go_loopw [5] (fun s5 wx => ∃ i : Nat, i ≤ N ∧ s5 = .int .i64 (i : Int) ∧ Hid (wx = wc)) (fun s5 _ => N - (intOf s5).toNat)
        case atStart => exact ⟨0, Nat.zero_le _, rfl, by first | exact Lib.hid rfl | exact Lib.hid trivial⟩
        case round =>
          obtain ⟨i, hi, rfl, hwx⟩ := hrel
          have hwx' := hwx.out
          subst hwx'
          clear hwx
          by_cases hlt2 : i < N
          · have hci := HCS.out i (by have := HN.out; omega)
            unfold mk_ at hci
            have hq : ∀ w, (binOp .neq 35 (.iface 43 (.int .i64 (-1000001 - (k : Int)))) (.iface 43 (.int .i64 (-1000001 - (k : Int))))).run Tryz.prog w = .ok (.bool false) w := fun w => l_neq_same _ w
            have hg : ∀ (x y : Operand) (w : World), (eqGuard .neq 35 x y (.iface 43 (.int .i64 (-1000001 - (k : Int)))) (.iface 43 (.int .i64 (-1000001 - (k : Int))))).run Tryz.prog w = .ok () w := fun x y w => by simp [eqGuard, go_sem]
            go_wp2
            go_roundw
            case rel => exact ⟨i + 1, by omega, by go_num, by first | exact Lib.hid rfl | exact Lib.hid trivial⟩
            case measure => simp [intOf]; omega
          · go_wp2
            go_roundw
            case rel => exact ⟨k + 1, by omega, by go_num, by first | exact Lib.hid rfl | exact Lib.hid trivial⟩
            case measure => simp [intOf]; omega
    · go_wp2
      go_ret
      exact ⟨rfl, Below.refl _ _⟩
end Go.Proofs.YtcldbjgikkfnbaaGreatDoor
