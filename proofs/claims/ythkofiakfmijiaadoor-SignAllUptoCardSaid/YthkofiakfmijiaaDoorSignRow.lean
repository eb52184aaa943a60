/-
  What the rows over package sign share: the listed variables' cells, a world for the witness. Conditions: none.
-/
import Derived.Test.YthkofiakfmijiaaDoorCards
import Derived.Test.YthkofiakfmijiaaDoorTie
import Derived.Test.YthkofiakfmijiaaDoorRowFrame
import Derived.Test.YthkofiakfmijiaaDoorShelf
import Derived.SizedLaws
namespace Go.Proofs.YthkofiakfmijiaaDoor
open Go.ChangeShapes Go.WideShapes Go.ChangeAt Go.RowKit Go.Joins
set_option linter.unusedVariables false
theorem sgOwn : ownKnob Tryd.prog.godebug = none := by kernel_rfl
theorem sgLaid : laidOutB Tryd.prog = true := by kernel_rfl
theorem c27 : Tryd.prog.cellsOf 27 = 2 := by kernel_rfl
theorem c3 : Tryd.prog.cellsOf 3 = 1 := by kernel_rfl
theorem b3 : Tryd.prog.bytesOf 3 = 8 := by kernel_rfl
theorem c9 : Tryd.prog.cellsOf 9 = 1 := by kernel_rfl
theorem b9 : Tryd.prog.bytesOf 9 = 16 := by kernel_rfl
def sgList : List (String × DataW Unit) := [("math/bits.deBruijn32tab", Rows.laid_math_bits_deBruijn32tab), ("math/bits.deBruijn64tab", Rows.laid_math_bits_deBruijn64tab), ("internal/strconv.uint64pow10", Rows.laid_internal_strconv_uint64pow10), ("unicode/utf8.acceptRanges", Rows.laid_unicode_utf8_acceptRanges), ("unicode/utf8.first", Rows.laid_unicode_utf8_first)]
theorem sgTab {W : World} (h : laidMetH Tryd.prog sgList W) : Lib.TabIs Tryd.prog W "internal/strconv.uint64pow10" .u64 Lib.pow10Tab := by
  have h1 : laidMet Tryd.prog sgList W := h
  have h3 := h1.tail.tail
  exact Lib.tabIs_of_head (g := 1) (t := 104) (e := 92) (n := 20) (by kernel_rfl) (by kernel_rfl) Tryd.underlying104 Tryd.underlying92 (by kernel_rfl) (by kernel_rfl) h3
theorem sgOf {W : World} (h : laidMetH Tryd.prog sgList W) (hs : W.ShapedOpen Tryd.prog) : Sg W := by
  refine ⟨sgTab h, Tryd.laysM146.s1_3 W hs, ?_⟩
  have ht := sgTab h
  unfold Lib.TabIs World.var? at ht
  rw [show Tryd.prog.globalNamed "internal/strconv.uint64pow10" = some 1 by kernel_rfl] at ht
  rcases Nat.lt_or_ge 1 W.heap.size with h1 | h1
  · exact h1
  · simp only [Option.bind_some] at ht
    rw [Array.getElem?_eq_none h1] at ht
    cases ht
/-- A place among the arguments is within the row's reach. -/
theorem place_sized {H : Type} {ts : List TypeId} {ds : List (DataW H)} (h : (DataW.weightsEach Tryd.prog ts ds).all (· ≤ reachBytes) = true) {j : Nat} (ht : ts[j]? = some 27) {bytes : List UInt8} {d : DataW H} {l : List Int} {sp : List (DataW H)}
    (hd : ds[j]? = some (.agg [.lit (.string bytes), d])) (hy : d = .slice (lits .i64 l) sp ∨ (d = .nil ∧ l = [])) : bytes.length ≤ 140737488351232 ∧ l.length * 8 ≤ 140737488351232 := by
  have h1 := List.all_eq_true.1 h bytes.length (DataW.weights_mem_each ht hd _ (by simp [DataW.weights, DataW.weightsEach, Tryd.underlying27]))
  refine ⟨of_decide_eq_true h1, ?_⟩
  rcases hy with rfl | ⟨_, rfl⟩
  · have h2 := List.all_eq_true.1 h (((lits (H := H) .i64 l).length + sp.length) * 8) (DataW.weights_mem_each ht hd _ (by simp [DataW.weights, DataW.weightsEach, Tryd.underlying27, Tryd.underlying25, b3]))
    have h3 : ((lits (H := H) .i64 l).length + sp.length) * 8 ≤ 140737488351232 := of_decide_eq_true h2
    rw [lits_length] at h3
    omega
  · simp
theorem string_sized {H : Type} {ts : List TypeId} {ds : List (DataW H)} (h : (DataW.weightsEach Tryd.prog ts ds).all (· ≤ reachBytes) = true) {j : Nat} {t : TypeId} (ht : ts[j]? = some t) {bytes : List UInt8} (hd : ds[j]? = some (.lit (.string bytes))) : bytes.length ≤ 140737488351232 := sized_string h ht hd
/-- A datum's cells. -/
def litV : DataW Unit → Value
  | .lit (.int k n) => .int k n
  | _ => undef
def flat1 : DataW Unit → List Value
  | .agg ds => ds.map litV
  | d => [litV d]
def flat2 : DataW Unit → List Value
  | .agg ds => ds.flatMap flat1
  | d => [litV d]
def lay (cs : List Value) : Obj → Obj
  | .cells _ t frozen => .cells cs.toArray t frozen
  | o => o
noncomputable def sgWorld (os : Os) : World :=
  { World.holding Tryd.prog os ⟨#[], #[], []⟩ with heap := (((((World.holding Tryd.prog os ⟨#[], #[], []⟩).heap.modify 4 (lay (flat2 Rows.laid_math_bits_deBruijn32tab))).modify 5 (lay (flat2 Rows.laid_math_bits_deBruijn64tab))).modify
      1 (lay (flat2 Rows.laid_internal_strconv_uint64pow10))).modify 3 (lay (flat2 Rows.laid_unicode_utf8_acceptRanges))).modify 2 (lay (flat2 Rows.laid_unicode_utf8_first)) }
end Go.Proofs.YthkofiakfmijiaaDoor
