/-
  NARROWER THAN 'FOR EVERY INPUT', by the rows' own cells (each row's printed sentence says how): ListWork: loops, laid · ListParts: loops, laid · ListCount: laid · ListFresh: loops, laid · ListApart: loops, laid.
  DERIVED. THE GIVEN ROWS OF THIS SEAT. 5 by the template 'for every input the law returns true; each argument reads behind the call as it read before'; 0 by the template 'total and deterministic' (their statements: YtcldbjgikkfnbaaGreatDoorTotals.lean).
  GIVEN WITH THE SEED: the statements are not yours to turn. If you find one false, say at which input.
  Laid BY PROGRAM, IN A SANDBOX (cutbox-rows.mjs): the forced cells as the released guide's own fill.sh prints them over the translation ee7db32800b652e3… (all of the seat's roots in one cut). By AI agents, Wed Nov 11 2026. No macro, syntax, notation, axiom, sorry.
-/
import Derived.Test.YtcldbjgikkfnbaaGreatDoorChecked
import GoSem.PinnedTables
import GoSem.Claim
import GoSem.ClaimJoined
import GoSem.ClaimMapViews
import Derived.JoinedTies
import Derived.KernelRfl
namespace Go.Proofs.YtcldbjgikkfnbaaGreatDoor
/- THE CELL 'sum', in the pinned program and in every row, IS THE sha256 OF THE DUMP (.gsa) THAT YtcldbjgikkfnbaaGreatDoorProg.lean LOADS. Nothing in Lean hashes anything: it is a label: what it is worth is what the hold of that sum in a sandbox is worth. -/
noncomputable def Tryz.pinned : Pinned := { name := "ytcldbjgikkfnbaagreatdoor", sum := "ee7db32800b652e32111cbfb1376867f66085799fd8ecc21e8a537b0f640f90d", checked := Tryz.checked }
namespace Rows
def none {H : Type} : Left H := { results := [], args := [] }

/- WHAT THE LISTED PACKAGE-LEVEL VARIABLES READ AS WHEN THE CALL BEGINS. Each datum BY PROGRAM (the guide's laid-datum.mjs) off the statement by which the dump's own 'gosem.cut.vars' lays the variable. In a bare row this is a premise. The card (YtcldbjgikkfnbaaGreatDoorCards.lean) ties it to the program's text. -/
def laid_unicode_utf8_acceptRanges {H : Type} : DataW H := .agg [.agg [.lit (.int .u8 128), .lit (.int .u8 191)], .agg [.lit (.int .u8 160), .lit (.int .u8 191)], .agg [.lit (.int .u8 128), .lit (.int .u8 159)], .agg [.lit (.int .u8 144), .lit (.int .u8 191)], .agg [.lit (.int .u8 128), .lit (.int .u8 143)], .agg [.lit (.int .u8 0), .lit (.int .u8 0)], .agg [.lit (.int .u8 0), .lit (.int .u8 0)], .agg [.lit (.int .u8 0), .lit (.int .u8 0)], .agg [.lit (.int .u8 0), .lit (.int .u8 0)], .agg [.lit (.int .u8 0), .lit (.int .u8 0)], .agg [.lit (.int .u8 0), .lit (.int .u8 0)], .agg [.lit (.int .u8 0), .lit (.int .u8 0)], .agg [.lit (.int .u8 0), .lit (.int .u8 0)], .agg [.lit (.int .u8 0), .lit (.int .u8 0)], .agg [.lit (.int .u8 0), .lit (.int .u8 0)], .agg [.lit (.int .u8 0), .lit (.int .u8 0)]]
/-- One of Go's own tables, pinned by name: the form's constant. -/
def laid_unicode_utf8_first : DataW Unit := Go.Pinned.utf8First

/-- 'espalierlaw11.ListWork': WHATEVER THE INPUT: true; the input reads as it did. -/
def listWorkSpec : ChangeSpec := { name := "listWork", fn := fun _ => fun
  | [d] => { results := [.lit (.bool true)], args := [d] }
  | _ => none }
def listWorkRow : OpenClaim := { program := "ytcldbjgikkfnbaagreatdoor", sum := "ee7db32800b652e32111cbfb1376867f66085799fd8ecc21e8a537b0f640f90d", func := "espalier/espalierlaw11.ListWork", spec := "listWork", inPlace := ["internal/bytealg.IndexByteString", "internal/bytealg.IndexString", "internal/bytealg.CountString"], unfollowed := true, recurses := true, named := ["internal/bytealg.MaxLen", "unicode/utf8.first", "unicode/utf8.acceptRanges"], loops := true, apart := false, laid := [("unicode/utf8.acceptRanges", laid_unicode_utf8_acceptRanges), ("unicode/utf8.first", laid_unicode_utf8_first)] }
def ListWorkSaid : Prop := listWorkRow.holds Tryz.pinned (OpenSpec.ofChange listWorkSpec)

/-- ITS FALSE NEIGHBOUR: 'it returns false'. Refute it at one input. -/
def listWorkWrong : ChangeSpec := { name := "listWork", fn := fun _ => fun
  | [d] => { results := [.lit (.bool false)], args := [d] }
  | _ => none }
def ListWorkWrongFalsely : Prop := listWorkRow.holds Tryz.pinned (OpenSpec.ofChange listWorkWrong)

/-- 'espalierlaw11.ListParts': WHATEVER THE INPUT: true; the input reads as it did. -/
def listPartsSpec : ChangeSpec := { name := "listParts", fn := fun _ => fun
  | [d1, d2] => { results := [.lit (.bool true)], args := [d1, d2] }
  | _ => none }
def listPartsRow : OpenClaim := { program := "ytcldbjgikkfnbaagreatdoor", sum := "ee7db32800b652e32111cbfb1376867f66085799fd8ecc21e8a537b0f640f90d", func := "espalier/espalierlaw11.ListParts", spec := "listParts", inPlace := ["internal/bytealg.IndexByteString", "internal/bytealg.IndexString", "internal/bytealg.CountString"], unfollowed := true, recurses := true, named := ["internal/bytealg.MaxLen", "unicode/utf8.first", "unicode/utf8.acceptRanges"], loops := true, apart := false, laid := [("unicode/utf8.acceptRanges", laid_unicode_utf8_acceptRanges), ("unicode/utf8.first", laid_unicode_utf8_first)] }
def ListPartsSaid : Prop := listPartsRow.holds Tryz.pinned (OpenSpec.ofChange listPartsSpec)

/-- ITS FALSE NEIGHBOUR: 'it returns false'. Refute it at one input. -/
def listPartsWrong : ChangeSpec := { name := "listParts", fn := fun _ => fun
  | [d1, d2] => { results := [.lit (.bool false)], args := [d1, d2] }
  | _ => none }
def ListPartsWrongFalsely : Prop := listPartsRow.holds Tryz.pinned (OpenSpec.ofChange listPartsWrong)

/-- 'espalierlaw11.ListCount': WHATEVER THE INPUT: true; the input reads as it did. -/
def listCountSpec : ChangeSpec := { name := "listCount", fn := fun _ => fun
  | [d] => { results := [.lit (.bool true)], args := [d] }
  | _ => none }
def listCountRow : OpenClaim := { program := "ytcldbjgikkfnbaagreatdoor", sum := "ee7db32800b652e32111cbfb1376867f66085799fd8ecc21e8a537b0f640f90d", func := "espalier/espalierlaw11.ListCount", spec := "listCount", inPlace := ["internal/bytealg.IndexByteString", "internal/bytealg.IndexString", "internal/bytealg.CountString"], unfollowed := true, recurses := true, named := ["internal/bytealg.MaxLen", "unicode/utf8.first", "unicode/utf8.acceptRanges"], apart := false, laid := [("unicode/utf8.acceptRanges", laid_unicode_utf8_acceptRanges), ("unicode/utf8.first", laid_unicode_utf8_first)] }
def ListCountSaid : Prop := listCountRow.holds Tryz.pinned (OpenSpec.ofChange listCountSpec)

/-- ITS FALSE NEIGHBOUR: 'it returns false'. Refute it at one input. -/
def listCountWrong : ChangeSpec := { name := "listCount", fn := fun _ => fun
  | [d] => { results := [.lit (.bool false)], args := [d] }
  | _ => none }
def ListCountWrongFalsely : Prop := listCountRow.holds Tryz.pinned (OpenSpec.ofChange listCountWrong)

/-- 'espalierlaw11.ListFresh': WHATEVER THE INPUT: true; the input reads as it did. -/
def listFreshSpec : ChangeSpec := { name := "listFresh", fn := fun _ => fun
  | [d] => { results := [.lit (.bool true)], args := [d] }
  | _ => none }
def listFreshRow : OpenClaim := { program := "ytcldbjgikkfnbaagreatdoor", sum := "ee7db32800b652e32111cbfb1376867f66085799fd8ecc21e8a537b0f640f90d", func := "espalier/espalierlaw11.ListFresh", spec := "listFresh", inPlace := ["internal/bytealg.IndexByteString", "internal/bytealg.IndexString", "internal/bytealg.CountString"], unfollowed := true, recurses := true, named := ["internal/bytealg.MaxLen", "unicode/utf8.first", "unicode/utf8.acceptRanges"], loops := true, apart := false, laid := [("unicode/utf8.acceptRanges", laid_unicode_utf8_acceptRanges), ("unicode/utf8.first", laid_unicode_utf8_first)] }
def ListFreshSaid : Prop := listFreshRow.holds Tryz.pinned (OpenSpec.ofChange listFreshSpec)

/-- ITS FALSE NEIGHBOUR: 'it returns false'. Refute it at one input. -/
def listFreshWrong : ChangeSpec := { name := "listFresh", fn := fun _ => fun
  | [d] => { results := [.lit (.bool false)], args := [d] }
  | _ => none }
def ListFreshWrongFalsely : Prop := listFreshRow.holds Tryz.pinned (OpenSpec.ofChange listFreshWrong)

/-- 'espalierlaw11.ListApart': WHATEVER THE INPUT: true; the input reads as it did. -/
def listApartSpec : ChangeSpec := { name := "listApart", fn := fun _ => fun
  | [d] => { results := [.lit (.bool true)], args := [d] }
  | _ => none }
def listApartRow : OpenClaim := { program := "ytcldbjgikkfnbaagreatdoor", sum := "ee7db32800b652e32111cbfb1376867f66085799fd8ecc21e8a537b0f640f90d", func := "espalier/espalierlaw11.ListApart", spec := "listApart", inPlace := ["internal/bytealg.IndexByteString", "internal/bytealg.IndexString", "internal/bytealg.CountString"], unfollowed := true, recurses := true, named := ["internal/bytealg.MaxLen", "unicode/utf8.first", "unicode/utf8.acceptRanges"], loops := true, apart := false, laid := [("unicode/utf8.acceptRanges", laid_unicode_utf8_acceptRanges), ("unicode/utf8.first", laid_unicode_utf8_first)] }
def ListApartSaid : Prop := listApartRow.holds Tryz.pinned (OpenSpec.ofChange listApartSpec)

/-- ITS FALSE NEIGHBOUR: 'it returns false'. Refute it at one input. -/
def listApartWrong : ChangeSpec := { name := "listApart", fn := fun _ => fun
  | [d] => { results := [.lit (.bool false)], args := [d] }
  | _ => none }
def ListApartWrongFalsely : Prop := listApartRow.holds Tryz.pinned (OpenSpec.ofChange listApartWrong)

/- THE SECOND FORM. 'bulk': how many values and letters a reading holds, each counted each time it is reached (what is shared counts as often as it is met; a slice's spare places count too). A statement '..UptoSaid' is the law's where the arguments, and the package variables that the reading takes, are together of bulk at most 1048576: NARROWER than '..Said'. Prove '..Said' where nothing that the law and all that it calls make is longer than what came in: it says more and counts as full. Else prove '..UptoSaid'. A law counts once. -/
mutual
def uptoBulk {H : Type} : DataW H → Nat
  | .lit (.string bytes) => bytes.length + 1
  | .lit _ => 1
  | .nil => 1
  | .ptr d => uptoBulk d + 1
  | .slice elems spare => uptoBulkAll elems + uptoBulkAll spare + 1
  | .agg parts => uptoBulkAll parts + 1
  | .iface _ d => uptoBulk d + 1
  | .map entries => uptoBulkEntries entries + 1
  | .held _ => 1
def uptoBulkAll {H : Type} : List (DataW H) → Nat
  | [] => 0
  | d :: r => uptoBulk d + uptoBulkAll r
def uptoBulkEntries {H : Type} : List (Lit × DataW H) → Nat
  | [] => 0
  | x :: r => uptoBulkEntry x + uptoBulkEntries r
def uptoBulkEntry {H : Type} : Lit × DataW H → Nat
  | (.string bytes, d) => bytes.length + uptoBulk d + 1
  | (_, d) => uptoBulk d + 1
 end
def uptoSmall : (H : Type) → List (DataW H) → Bool := fun _ ds => decide (uptoBulkAll ds ≤ 1048576)
def OpenSpec.upto (s : _root_.Go.ChangeSpec) : _root_.Go.OpenSpec := { _root_.Go.OpenSpec.ofChange s with cond := some uptoSmall }

/-- 'espalierlaw11.ListWork', WHERE WHAT IT READS IS OF BULK AT MOST 1048576: true; the input reads as it did. -/
def listWorkUptoRow : OpenClaim := { program := "ytcldbjgikkfnbaagreatdoor", sum := "ee7db32800b652e32111cbfb1376867f66085799fd8ecc21e8a537b0f640f90d", func := "espalier/espalierlaw11.ListWork", spec := "listWork", inPlace := ["internal/bytealg.IndexByteString", "internal/bytealg.IndexString", "internal/bytealg.CountString"], unfollowed := true, recurses := true, named := ["internal/bytealg.MaxLen", "unicode/utf8.first", "unicode/utf8.acceptRanges"], loops := true, apart := false, laid := [("unicode/utf8.acceptRanges", laid_unicode_utf8_acceptRanges), ("unicode/utf8.first", laid_unicode_utf8_first)], narrowed := true }
def ListWorkUptoSaid : Prop := listWorkUptoRow.holds Tryz.pinned (OpenSpec.upto listWorkSpec)

/-- 'espalierlaw11.ListParts', WHERE WHAT IT READS IS OF BULK AT MOST 1048576: true; the input reads as it did. -/
def listPartsUptoRow : OpenClaim := { program := "ytcldbjgikkfnbaagreatdoor", sum := "ee7db32800b652e32111cbfb1376867f66085799fd8ecc21e8a537b0f640f90d", func := "espalier/espalierlaw11.ListParts", spec := "listParts", inPlace := ["internal/bytealg.IndexByteString", "internal/bytealg.IndexString", "internal/bytealg.CountString"], unfollowed := true, recurses := true, named := ["internal/bytealg.MaxLen", "unicode/utf8.first", "unicode/utf8.acceptRanges"], loops := true, apart := false, laid := [("unicode/utf8.acceptRanges", laid_unicode_utf8_acceptRanges), ("unicode/utf8.first", laid_unicode_utf8_first)], narrowed := true }
def ListPartsUptoSaid : Prop := listPartsUptoRow.holds Tryz.pinned (OpenSpec.upto listPartsSpec)

/-- 'espalierlaw11.ListCount', WHERE WHAT IT READS IS OF BULK AT MOST 1048576: true; the input reads as it did. -/
def listCountUptoRow : OpenClaim := { program := "ytcldbjgikkfnbaagreatdoor", sum := "ee7db32800b652e32111cbfb1376867f66085799fd8ecc21e8a537b0f640f90d", func := "espalier/espalierlaw11.ListCount", spec := "listCount", inPlace := ["internal/bytealg.IndexByteString", "internal/bytealg.IndexString", "internal/bytealg.CountString"], unfollowed := true, recurses := true, named := ["internal/bytealg.MaxLen", "unicode/utf8.first", "unicode/utf8.acceptRanges"], apart := false, laid := [("unicode/utf8.acceptRanges", laid_unicode_utf8_acceptRanges), ("unicode/utf8.first", laid_unicode_utf8_first)], narrowed := true }
def ListCountUptoSaid : Prop := listCountUptoRow.holds Tryz.pinned (OpenSpec.upto listCountSpec)

/-- 'espalierlaw11.ListFresh', WHERE WHAT IT READS IS OF BULK AT MOST 1048576: true; the input reads as it did. -/
def listFreshUptoRow : OpenClaim := { program := "ytcldbjgikkfnbaagreatdoor", sum := "ee7db32800b652e32111cbfb1376867f66085799fd8ecc21e8a537b0f640f90d", func := "espalier/espalierlaw11.ListFresh", spec := "listFresh", inPlace := ["internal/bytealg.IndexByteString", "internal/bytealg.IndexString", "internal/bytealg.CountString"], unfollowed := true, recurses := true, named := ["internal/bytealg.MaxLen", "unicode/utf8.first", "unicode/utf8.acceptRanges"], loops := true, apart := false, laid := [("unicode/utf8.acceptRanges", laid_unicode_utf8_acceptRanges), ("unicode/utf8.first", laid_unicode_utf8_first)], narrowed := true }
def ListFreshUptoSaid : Prop := listFreshUptoRow.holds Tryz.pinned (OpenSpec.upto listFreshSpec)

/-- 'espalierlaw11.ListApart', WHERE WHAT IT READS IS OF BULK AT MOST 1048576: true; the input reads as it did. -/
def listApartUptoRow : OpenClaim := { program := "ytcldbjgikkfnbaagreatdoor", sum := "ee7db32800b652e32111cbfb1376867f66085799fd8ecc21e8a537b0f640f90d", func := "espalier/espalierlaw11.ListApart", spec := "listApart", inPlace := ["internal/bytealg.IndexByteString", "internal/bytealg.IndexString", "internal/bytealg.CountString"], unfollowed := true, recurses := true, named := ["internal/bytealg.MaxLen", "unicode/utf8.first", "unicode/utf8.acceptRanges"], loops := true, apart := false, laid := [("unicode/utf8.acceptRanges", laid_unicode_utf8_acceptRanges), ("unicode/utf8.first", laid_unicode_utf8_first)], narrowed := true }
def ListApartUptoSaid : Prop := listApartUptoRow.holds Tryz.pinned (OpenSpec.upto listApartSpec)

end Rows
end Go.Proofs.YtcldbjgikkfnbaaGreatDoor
