/-
  espalierref10.kinds, sorts, num, text, truth: walks. Conditions: the values lie in memory.
-/
import Derived.Test.YthjpphojddbbmaaGreatDoorCWordsTab
import Derived.Test.YthjpphojddbbmaaGreatDoorCPlFits
import Derived.BigQuiet
namespace Go.Proofs.YthjpphojddbbmaaGreatDoor
open Go.RowKit
set_option linter.unusedVariables false
set_option linter.unusedSimpArgs false

/-- Are these values of these kinds? -/
def kindsB : List Pl → List Int → Bool
  | _, [] => true
  | [], _ :: _ => false
  | p :: ps, k :: ks => (p.kind == k) && kindsB ps ks
theorem kindsB_step {ps : List Pl} {ks : List Int} {k : Nat} (h : k < ps.length) (h' : k < ks.length) : kindsB (ps.drop k) (ks.drop k) = ((ps[k].kind == ks[k]) && kindsB (ps.drop (k + 1)) (ks.drop (k + 1))) := by
  rw [List.drop_eq_getElem_cons h, List.drop_eq_getElem_cons h', kindsB]
theorem kindsB_end (ps : List Pl) (ks : List Int) : kindsB (ps.drop ks.length) (ks.drop ks.length) = true := by
  rw [List.drop_length]
  cases ps.drop ks.length <;> rfl
set_option maxRecDepth 100000 in
set_option maxHeartbeats 4000000 in
theorem r_kinds (ps : List Pl) (ks : List Int) (b o c g c2 : Nat) (w : World) (hlen : ps.length ≤ 140737488351232) (hk : ks.length ≤ ps.length) (hps : ∀ j (h : j < ps.length), w.cell? ⟨b, o + j * 4, none⟩ = some (.int .i64 ps[j].kind)) (hks : ∀ j (h : j < ks.length), w.cell? ⟨g, j, none⟩ = some (.int .i64 ks[j])) :
    Calls Tryz.prog 57 #[.slice (some ⟨b, o, none⟩) ps.length c, .slice (some ⟨g, 0, none⟩) ks.length c2] w (Bel (.bool (kindsB ps ks)) w) := by
  have HP := Lib.hid hps
  have HK := Lib.hid hks
  have H0 : Hid (kindsB (ps.drop 0) (ks.drop 0) = kindsB ps ks) := Lib.hid (by rw [List.drop_zero, List.drop_zero])
  clear hps hks
  go_enter Tryz.func57, Tryz.ntmps57
  go_wp2
  go_loopw [5] (fun s5 wr => ∃ k : Nat, k ≤ ks.length ∧ s5 = .int .i64 (k : Int) ∧ Hid (kindsB (ps.drop k) (ks.drop k) = kindsB ps ks) ∧ Below w.heap.size w wr) (fun s5 _ => ks.length - (intOf s5).toNat)
  case atStart => exact ⟨0, Nat.zero_le _, rfl, H0, Below.refl _ _⟩
  case round =>
    obtain ⟨k, hk2, rfl, HE, hb⟩ := hrel
    have HB := Lib.hid hb
    clear hb
    by_cases hlt : k < ks.length
    · have hlp : k < ps.length := by omega
      have e0 : wr.cell? ⟨b, o + k * 4, none⟩ = some (.int .i64 ps[k].kind) := (HB.out.cell (p := ⟨b, o + k * 4, none⟩) (World.block_lt_of_cell? _ _ (HP.out k hlp))).trans (HP.out k hlp)
      have e1 : wr.cell? ⟨g, k, none⟩ = some (.int .i64 ks[k]) := (HB.out.cell (p := ⟨g, k, none⟩) (World.block_lt_of_cell? _ _ (HK.out k hlt))).trans (HK.out k hlt)
      have HS := Lib.hid (kindsB_step hlp hlt)
      generalize ps[k].kind = x at *
      generalize ks[k] = y at *
      by_cases hxy : x = y
      · have hn : (x != y) = false := by simp [hxy]
        have hn2 : (x == y) = true := by simp [hxy]
        have HE2 : Hid (kindsB (ps.drop (k + 1)) (ks.drop (k + 1)) = kindsB ps ks) := Lib.hid (by rw [← HE.out, HS.out, hn2]; rfl)
        clear hxy
        go_wp2
        go_quiet (fail)
        go_wp2
        go_roundw
        case rel => exact ⟨k + 1, by omega, by go_num, HE2, below_drewN HB.out _⟩
        case measure => simp [intOf]; omega
      · have hn : (x != y) = true := by simp [hxy]
        have hn2 : (x == y) = false := by simp [hxy]
        have HE2 : Hid (kindsB ps ks = false) := Lib.hid (by rw [← HE.out, HS.out, hn2]; rfl)
        clear hxy
        go_wp2
        go_quiet (fail)
        go_wp2
        go_ret
        exact ⟨by rw [HE2.out]; rfl, below_drewN HB.out _⟩
    · obtain rfl : k = ks.length := by omega
      have HE2 : Hid (kindsB ps ks = true) := Lib.hid (by rw [← HE.out]; exact kindsB_end ps ks)
      go_wp2
      go_ret
      exact ⟨by rw [HE2.out]; rfl, HB.out⟩
end Go.Proofs.YthjpphojddbbmaaGreatDoor
