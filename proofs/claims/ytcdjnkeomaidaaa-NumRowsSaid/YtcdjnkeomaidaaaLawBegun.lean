/-
  espalierlaw8's begun: a walk. Conditions: none.
-/
import Derived.Test.YtcdjnkeomaidaaaLawWork
import Derived.Test.YtcdjnkeomaidaaaNumKit
namespace Go.Proofs.Ytcdjnkeomaidaaa
open Go.RowKit
set_option linter.unusedVariables false

theorem law_call2 {op : ByteArray} {V : Int → Int → Value} (h : NumOp op 2 V) (a b : Int) (ha : rng a = true) (hb : rng b = true) (w : World) (r : Int × Int) (hres : IsPair (withText (V a b)) r) :
    Calls Try.prog 8 #[.string op, .slice (some ⟨w.heap.size, 0, none⟩) 2 2] (w.alloc (.cells #[.int .i64 a, .int .i64 b] 2)) fun e w' => e = .returned (.tuple #[.int .i64 r.1, .int .i64 r.2]) ∧ Below w.heap.size w w' :=
  (law_work h (.inr rfl) [a, b] rfl (by intro n hn; simp at hn; rcases hn with rfl | rfl <;> assumption) w.heap.size 0 2 _ (by simp) (fun k hk => by
    rw [Nat.zero_add, World.cell?_alloc_new]
    have hk' : k < 2 := hk
    rcases (show k = 0 ∨ k = 1 by omega) with rfl | rfl <;> rfl) r hres).mono fun _ _ ⟨he, hb⟩ => ⟨he, ((Below.refl _ _).alloc (Nat.le_refl _) _).trans (hb.mono (by simp))⟩
theorem law_call1 {op : ByteArray} {V : Int → Int → Value} (h : NumOp op 1 V) (a : Int) (ha : rng a = true) (w : World) (r : Int × Int) (hres : IsPair (withText (V a 0)) r) :
    Calls Try.prog 8 #[.string op, .slice (some ⟨w.heap.size, 0, none⟩) 1 1] (w.alloc (.cells #[.int .i64 a] 2)) fun e w' => e = .returned (.tuple #[.int .i64 r.1, .int .i64 r.2]) ∧ Below w.heap.size w w' :=
  (law_work h (.inl rfl) [a] rfl (by intro n hn; simp at hn; subst hn; assumption) w.heap.size 0 1 _ (by simp) (fun k hk => by
    rw [Nat.zero_add, World.cell?_alloc_new]
    have hk' : k < 1 := hk
    obtain rfl : k = 0 := by omega
    rfl) r hres).mono fun _ _ ⟨he, hb⟩ => ⟨he, ((Below.refl _ _).alloc (Nat.le_refl _) _).trans (hb.mono (by simp))⟩
theorem law_num2 {op : ByteArray} {V : Int → Int → Value} (h : NumOp op 2 V) (a b : Int) (ha : rng a = true) (hb : rng b = true) (w : World) :
    Calls Try.prog 11 #[.string op, .slice (some ⟨w.heap.size, 0, none⟩) 2 2] (w.alloc (.cells #[.int .i64 3, .int .i64 a, .string ⟨#[]⟩, .slice none 0 0, .int .i64 3, .int .i64 b, .string ⟨#[]⟩, .slice none 0 0] 38)) fun e w' => e = .returned (withText (V a b)) ∧ Below w.heap.size w w' := by
  have hw := num_work h (.inr rfl) ([a, b].map plInt) (some ⟨w.heap.size, 0, none⟩) 2 (w.alloc (.cells #[.int .i64 3, .int .i64 a, .string ⟨#[]⟩, .slice none 0 0, .int .i64 3, .int .i64 b, .string ⟨#[]⟩, .slice none 0 0] 38)) (by simp) (ints_lie (by simp) [a, b] 0 (by intro n hn; simp at hn; rcases hn with rfl | rfl <;> assumption) (fun k hk j hj => by
    rw [Nat.zero_add, World.cell?_alloc_new]
    have hk' : k < 2 := hk
    rcases (show k = 0 ∨ k = 1 by omega) with rfl | rfl <;> rcases (show j = 0 ∨ j = 1 ∨ j = 2 ∨ j = 3 by omega) with rfl | rfl | rfl | rfl <;> rfl))
  refine hw.mono fun _ _ ⟨he, hb⟩ => ⟨?_, ((Below.refl _ _).alloc (Nat.le_refl _) _).trans (hb.mono (by simp))⟩
  rw [he]
  unfold workV
  rw [if_neg (by simp), if_neg (by rw [plInts_ok]; simp), plInts_val]
  rfl
theorem law_kind (a : Int) (ha : rng a = true) (w : World) :
    Calls Try.prog 11 #[.string ⟨#[110, 117, 109, 46, 97, 100, 100]⟩, .slice (some ⟨w.heap.size, 0, none⟩) 2 2] (w.alloc (.cells #[.int .i64 3, .int .i64 a, .string ⟨#[]⟩, .slice none 0 0, .int .i64 1, .int .i64 0, .string ⟨#[]⟩, .slice none 0 0] 38)) fun e w' => e = .returned (bad3 20) ∧ Below w.heap.size w w' := by
  have hl : Pls.lies (w.alloc (.cells #[.int .i64 3, .int .i64 a, .string ⟨#[]⟩, .slice none 0 0, .int .i64 1, .int .i64 0, .string ⟨#[]⟩, .slice none 0 0] 38)) (w.heap.size + 1) [plInt a, .mk 1 0 ⟨#[]⟩ []] (some ⟨w.heap.size, 0, none⟩) := by
    simp only [Pls.lies, Pl.lies, plInt]
    refine ⟨w.heap.size, 0, rfl, ⟨by omega, ?_, ?_, ?_, by decide, ha, by decide, by simp, none, 0, ?_, trivial⟩, w.heap.size, 4, rfl, ⟨by omega, ?_, ?_, ?_, by decide, by decide, by decide, by simp, none, 0, ?_, trivial⟩, trivial⟩
    all_goals rw [World.cell?_alloc_new]; rfl
  have hw := num_work op_add (.inr rfl) [plInt a, .mk 1 0 ⟨#[]⟩ []] (some ⟨w.heap.size, 0, none⟩) 2 _ (by simp) (by rw [size_alloc]; exact hl)
  refine hw.mono fun _ _ ⟨he, hb⟩ => ⟨?_, ((Below.refl _ _).alloc (Nat.le_refl _) _).trans (hb.mono (by simp))⟩
  have h1 : (Pl.mk 1 0 ⟨#[]⟩ []).ok = true := by
    unfold Pl.ok Pl.right Pl.toVl
    simp [Vl.measure]
    rw [if_pos (show (⟨#[]⟩ : ByteArray) = ByteArray.empty from rfl)]
    rfl
  rw [he]
  unfold workV
  rw [if_neg (by simp), if_neg (by simp [plInt_ok, h1])]
  congr 1

theorem c_mod (w : World) : Calls Try.prog 8 #[.string ⟨#[110, 117, 109, 46, 109, 111, 100]⟩, .slice (some ⟨w.heap.size, 0, none⟩) 2 2] (w.alloc (.cells #[.int .i64 (-7), .int .i64 2] 2)) fun e w' => e = .returned (.tuple #[.int .i64 1, .int .i64 0]) ∧ Below w.heap.size w w' :=
  law_call2 op_mod (-7) 2 (by decide) (by decide) w (1, 0) (.inl ⟨by rfl, rfl⟩)
theorem c_quo (w : World) : Calls Try.prog 8 #[.string ⟨#[110, 117, 109, 46, 113, 117, 111]⟩, .slice (some ⟨w.heap.size, 0, none⟩) 2 2] (w.alloc (.cells #[.int .i64 1, .int .i64 0] 2)) fun e w' => e = .returned (.tuple #[.int .i64 0, .int .i64 22]) ∧ Below w.heap.size w w' :=
  law_call2 op_quo 1 0 (by decide) (by decide) w (0, 22) (.inr ⟨by rfl, rfl, by decide⟩)
theorem c_add (w : World) : Calls Try.prog 8 #[.string ⟨#[110, 117, 109, 46, 97, 100, 100]⟩, .slice (some ⟨w.heap.size, 0, none⟩) 2 2] (w.alloc (.cells #[.int .i64 9223372036854775807, .int .i64 1] 2)) fun e w' => e = .returned (.tuple #[.int .i64 0, .int .i64 21]) ∧ Below w.heap.size w w' :=
  law_call2 op_add 9223372036854775807 1 (by decide) (by decide) w (0, 21) (.inr ⟨by rfl, rfl, by decide⟩)
theorem c_pow (w : World) : Calls Try.prog 8 #[.string ⟨#[110, 117, 109, 46, 112, 111, 119]⟩, .slice (some ⟨w.heap.size, 0, none⟩) 2 2] (w.alloc (.cells #[.int .i64 (-2), .int .i64 63] 2)) fun e w' => e = .returned (.tuple #[.int .i64 (-9223372036854775808), .int .i64 0]) ∧ Below w.heap.size w w' :=
  law_call2 op_pow (-2) 63 (by decide) (by decide) w ((-9223372036854775808), 0) (.inl ⟨by rfl, rfl⟩)
theorem c_less (w : World) : Calls Try.prog 11 #[.string ⟨#[110, 117, 109, 46, 108, 101, 115, 115]⟩, .slice (some ⟨w.heap.size, 0, none⟩) 2 2] (w.alloc (.cells #[.int .i64 3, .int .i64 1, .string ⟨#[]⟩, .slice none 0 0, .int .i64 3, .int .i64 2, .string ⟨#[]⟩, .slice none 0 0] 38)) fun e w' => e = .returned (.tuple #[.iface 40 (.bool true), .int .i64 0, .string ⟨#[]⟩]) ∧ Below w.heap.size w w' :=
  law_num2 op_less 1 2 (by decide) (by decide) w
theorem c_sum (v : Value) (w : World) : Calls Try.prog 11 #[.string ⟨#[110, 117, 109, 46, 115, 117, 109]⟩, v] w fun e w' => e = .returned (.tuple #[.nilIface, .int .i64 1, .string ⟨#[]⟩]) ∧ Below w.heap.size w w' :=
  num_work_none (op := ⟨#[110, 117, 109, 46, 115, 117, 109]⟩) (by kernel_rfl) v w
theorem c_kind (w : World) : Calls Try.prog 11 #[.string ⟨#[110, 117, 109, 46, 97, 100, 100]⟩, .slice (some ⟨w.heap.size, 0, none⟩) 2 2] (w.alloc (.cells #[.int .i64 3, .int .i64 1, .string ⟨#[]⟩, .slice none 0 0, .int .i64 1, .int .i64 0, .string ⟨#[]⟩, .slice none 0 0] 38)) fun e w' => e = .returned (.tuple #[.nilIface, .int .i64 20, .string ⟨#[]⟩]) ∧ Below w.heap.size w w' :=
  law_kind 1 (by decide) w
end Go.Proofs.Ytcdjnkeomaidaaa
