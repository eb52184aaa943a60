/-
  zval.right: a walk, for every plain value. Conditions: it lies in memory.
-/
import Derived.Test.YtcdjnkeomaidaaaZvalRight2
import Derived.Laws.EntriesVeiled
namespace Go.Proofs.Ytcdjnkeomaidaaa
open Go.RowKit
set_option linter.unusedVariables false

set_option maxHeartbeats 1000000 in
theorem zval_right (p : Pl) (b o : Nat) (w : World) (hp : p.lies w w.heap.size b o) :
    Calls Try.prog 45 #[.pointer (some ⟨b, o, none⟩)] w fun e w' => e = .returned (.bool (p.right 65536 0).1) ∧ Below w.heap.size w w' := by
  have hlies : Hid (∀ v : World, Below w.heap.size w v → p.lies v w.heap.size b o) := fun v hv => hp.below hv (Nat.le_refl _)
  clear hp
  go_enter Try.func45, Try.ntmps45
  go_wp2_with fail
  have hs : w.heap.size ≠ w.heap.size + 1 := by omega
  refine (right1_all (SizeOf.sizeOf p) p (Nat.le_refl _) _ _ _ _ 65536 0 _ w.heap.size (Nat.le_refl _) (Nat.le_succ _) (by omega) (by simp; omega) (by decide) (by decide) (by decide) (by decide) (hlies.out _ ?_) ?_).mono ?_
  · exact ((Below.refl _ _).alloc (Nat.le_refl _) _).alloc (by simp) _
  · exact ⟨(heap_alloc2 _ _ _).1, (heap_alloc2 _ _ _).2⟩
  rintro e w' ⟨rfl, hL, hg⟩
  go_wp2
  go_ret
  exact ⟨rfl, (((Below.refl _ _).alloc (Nat.le_refl _) _).alloc (by simp) _).grown hg (by simp; omega) (fun k hk => by injection hk with hk; omega)⟩
end Go.Proofs.Ytcdjnkeomaidaaa
