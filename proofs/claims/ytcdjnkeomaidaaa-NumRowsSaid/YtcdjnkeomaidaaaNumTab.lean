/-
  The table of package num: the map that 'num.two' makes, and what is found in it: walks. Conditions: none.
-/
import Derived.Test.YtcdjnkeomaidaaaNumTwo
import Derived.Test.YtcdjnkeomaidaaaMapLaws
namespace Go.Proofs.Ytcdjnkeomaidaaa
open Go.RowKit

/-- The table's entries. -/
def numTab : Array MapEntry := #[⟨.string ⟨#[110, 117, 109, 46, 97, 100, 100]⟩, .func (.func 28) #[] #[], 0⟩, ⟨.string ⟨#[110, 117, 109, 46, 115, 117, 98]⟩, .func (.func 31) #[] #[], 1⟩, ⟨.string ⟨#[110, 117, 109, 46, 109, 117, 108]⟩, .func (.func 33) #[] #[], 2⟩, ⟨.string ⟨#[110, 117, 109, 46, 113, 117, 111]⟩, .func (.func 35) #[] #[], 3⟩, ⟨.string ⟨#[110, 117, 109, 46, 109, 111, 100]⟩, .func (.func 36) #[] #[], 4⟩, ⟨.string ⟨#[110, 117, 109, 46, 112, 111, 119]⟩, .func (.func 37) #[] #[], 5⟩, ⟨.string ⟨#[110, 117, 109, 46, 110, 101, 103]⟩, .func (.func 39) #[] #[], 6⟩, ⟨.string ⟨#[110, 117, 109, 46, 97, 98, 115]⟩, .func (.func 40) #[] #[], 7⟩, ⟨.string ⟨#[110, 117, 109, 46, 109, 105, 110]⟩, .func (.func 41) #[] #[], 8⟩, ⟨.string ⟨#[110, 117, 109, 46, 109, 97, 120]⟩, .func (.func 42) #[] #[], 9⟩, ⟨.string ⟨#[110, 117, 109, 46, 108, 101, 115, 115]⟩, .func (.func 43) #[] #[], 10⟩, ⟨.string ⟨#[110, 117, 109, 46, 109, 111, 115, 116]⟩, .func (.func 44) #[] #[], 11⟩]
set_option maxRecDepth 100000 in
theorem num_two (w : World) : Calls Try.prog 17 #[] w fun e w' => e = .returned (.map (some w.heap.size)) ∧ w.alloc (.map numTab 12) = w' := by
  have hmm := @run_makeMap Try.prog
  go_enter Try.func17, Try.ntmps17
  go_wp2_with (refine wpList_insert_new _ rfl 54 9 52 _ _ _ rfl Try.underlying54 Try.underlying9 _ _ _ rfl rfl (by kernel_rfl) ?_)
  go_ret
  exact ⟨rfl, rfl⟩
end Go.Proofs.Ytcdjnkeomaidaaa
