/-
  What the rows over package words share: the listed variables' cells, a world for the witness. Conditions: none.
-/
import Derived.Test.YthjpphojddbbmaaGreatDoorCards
import Derived.Test.YthjpphojddbbmaaGreatDoorTie
import Derived.Test.YthjpphojddbbmaaGreatDoorCPlRow
import Derived.Test.YthjpphojddbbmaaGreatDoorCWordsOps
import Derived.Deep.DeepHandedRow
import Derived.Stop.LaidErr
import Derived.Lib.SmallJoins
import Derived.SizedLaws
import Derived.SevenTiedAt
namespace Go.Proofs.YthjpphojddbbmaaGreatDoor
open Go.ChangeShapes Go.WideShapes Go.ChangeAt Go.RowKit Go.Joins
set_option linter.unusedVariables false
theorem wsOwn : ownKnob Tryz.prog.godebug = none := by kernel_rfl
def wsList : List (String × DataW Unit) := [("math/bits.deBruijn32tab", Rows.laid_math_bits_deBruijn32tab), ("math/bits.deBruijn64tab", Rows.laid_math_bits_deBruijn64tab), ("internal/strconv.uint64pow10", Rows.laid_internal_strconv_uint64pow10), ("strconv.ErrRange", Rows.laid_strconv_ErrRange), ("strconv.ErrSyntax", Rows.laid_strconv_ErrSyntax)]
theorem wsTab {W : World} (h : laidMetH Tryz.prog wsList W) : Lib.TabIs Tryz.prog W "internal/strconv.uint64pow10" .u64 Lib.pow10Tab := by
  have h1 : laidMet Tryz.prog wsList W := h
  have h3 := h1.tail.tail
  exact Lib.tabIs_of_head (g := 1) (t := 216) (e := 162) (n := 20) (by kernel_rfl) (by kernel_rfl) Tryz.underlying216 Tryz.underlying162 (by kernel_rfl) (by kernel_rfl) h3
theorem wsStar : "*" ++ "errors.errorString" = "*errors.errorString" := by decide
theorem wsName (u : TypeId) (h : Tryz.prog.typeName? 3 u = some "*errors.errorString") : u = 240 :=
  typeName_ptr_named (nm := "errors.errorString") (by rw [wsStar]; kernel_rfl) (by kernel_rfl) (by decide) u (by rw [wsStar]; exact h)
theorem wsCes : Tryz.prog.cellsOf 242 = 1 := by kernel_rfl
theorem wsCs : Tryz.prog.cellsOf 9 = 1 := by kernel_rfl
theorem wsR {W : World} (h : laidMetH Tryz.prog wsList W) : ∃ tp p, W.cell? ⟨3, 0, none⟩ = some (.iface tp p) := by
  have h1 : laidMet Tryz.prog wsList W := h
  have h3 := h1.tail.tail.tail
  have hg : Tryz.prog.globalNamed "strconv.ErrRange" = some 3 := by kernel_rfl
  obtain ⟨a, s, hv, _, _, _⟩ := laid_sentinel h3 hg (ti := 86) (by kernel_rfl) Tryz.underlying86 wsName Tryz.underlying240 Tryz.underlying242 rfl rfl Tryz.underlying9 wsCes wsCs
  exact ⟨_, _, by simpa using World.var?_cell hg hv 0⟩
theorem wsS {W : World} (h : laidMetH Tryz.prog wsList W) : ∃ tp p, W.cell? ⟨2, 0, none⟩ = some (.iface tp p) := by
  have h1 : laidMet Tryz.prog wsList W := h
  have h3 := h1.tail.tail.tail.tail
  have hg : Tryz.prog.globalNamed "strconv.ErrSyntax" = some 2 := by kernel_rfl
  obtain ⟨a, s, hv, _, _, _⟩ := laid_sentinel h3 hg (ti := 86) (by kernel_rfl) Tryz.underlying86 wsName Tryz.underlying240 Tryz.underlying242 rfl rfl Tryz.underlying9 wsCes wsCs
  exact ⟨_, _, by simpa using World.var?_cell hg hv 0⟩
theorem wsOf {W : World} (h : laidMetH Tryz.prog wsList W) (hs : W.ShapedOpen Tryz.prog) : Ws W := by
  refine ⟨wsTab h, Tryz.laysM143.s1_3 W hs, wsS h, wsR h, ?_⟩
  obtain ⟨tp, p, hc⟩ := wsR h
  have h1 := World.block_lt_of_cell? _ _ hc
  have h2 : 3 < W.heap.size := h1
  omega
/-- A datum's cells. -/
def wsLitV : DataW Unit → Value
  | .lit (.int k n) => .int k n
  | _ => undef
def wsFlat : DataW Unit → List Value
  | .agg ds => ds.map wsLitV
  | d => [wsLitV d]
def wsLay (cs : List Value) : Obj → Obj
  | .cells _ t frozen => .cells cs.toArray t frozen
  | o => o
abbrev wsRangeS : ByteArray := { data := #[118, 97, 108, 117, 101, 32, 111, 117, 116, 32, 111, 102, 32, 114, 97, 110, 103, 101] }
abbrev wsSynS : ByteArray := { data := #[105, 110, 118, 97, 108, 105, 100, 32, 115, 121, 110, 116, 97, 120] }
noncomputable def wsLow : Nat := (World.holding Tryz.prog default ⟨#[], #[], []⟩).heap.size
noncomputable def wsWorld (os : Os) : World :=
  let w0 := World.holding Tryz.prog os ⟨#[.cells #[.string wsRangeS] 242, .cells #[.string wsSynS] 242], #[], []⟩
  { w0 with heap := ((((w0.heap.modify 4 (wsLay (wsFlat Rows.laid_math_bits_deBruijn32tab))).modify 5 (wsLay (wsFlat Rows.laid_math_bits_deBruijn64tab))).modify
      1 (wsLay (wsFlat Rows.laid_internal_strconv_uint64pow10))).modify 3 (wsLay [.iface 240 (.pointer (some ⟨wsLow, 0, none⟩))])).modify 2 (wsLay [.iface 240 (.pointer (some ⟨wsLow + 1, 0, none⟩))]) }
theorem wsSize {H : Type} {ts : List TypeId} {ds : List (DataW H)} (h : (DataW.weightsEach Tryz.prog ts ds).all (· ≤ reachBytes) = true) {j : Nat} {t : TypeId} (ht : ts[j]? = some t) {s : ByteArray} (hd : ds[j]? = some (.lit (.string s.data.toList))) : s.size ≤ 140737488351232 := by
  have h1 := sized_string h ht hd
  have h2 : s.data.toList.length ≤ 140737488351232 := h1
  rw [size_data] at h2
  exact h2
theorem wsRng {n : Int} (h : (Lit.int .i64 n).wf = true) : rng n = true := rng_of_wf h
end Go.Proofs.YthjpphojddbbmaaGreatDoor
