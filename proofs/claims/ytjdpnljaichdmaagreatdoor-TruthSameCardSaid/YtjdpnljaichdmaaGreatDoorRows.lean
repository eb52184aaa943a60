/-
  NARROWER THAN 'FOR EVERY INPUT', by the rows' own cells (each row's printed sentence says how): CallWork: loops, laid · GuardWork: loops, laid · GuardChecks: loops, laid · TruthWork: loops, laid · TruthSame: loops, laid.
  DERIVED. THE GIVEN ROWS OF THIS SEAT. 5 by the template 'for every input the law returns true; each argument reads behind the call as it read before'; 0 by the template 'total and deterministic' (their statements: YtjdpnljaichdmaaGreatDoorTotals.lean).
  GIVEN WITH THE SEED: the statements are not yours to turn. If you find one false, say at which input.
  Laid BY PROGRAM, IN A SANDBOX (cutbox-rows.mjs): the forced cells as the released guide's own fill.sh prints them over the translation a970c5114e1c5daf… (all of the seat's roots in one cut). By AI agents, Wed Nov 11 2026. No macro, syntax, notation, axiom, sorry.
-/
import Derived.Test.YtjdpnljaichdmaaGreatDoorChecked
import GoSem.PinnedTables
import GoSem.Claim
import GoSem.ClaimJoined
import GoSem.ClaimMapViews
import Derived.JoinedTies
import Derived.KernelRfl
namespace Go.Proofs.YtjdpnljaichdmaaGreatDoor
/- THE CELL 'sum', in the pinned program and in every row, IS THE sha256 OF THE DUMP (.gsa) THAT YtjdpnljaichdmaaGreatDoorProg.lean LOADS. Nothing in Lean hashes anything: it is a label: what it is worth is what the hold of that sum in a sandbox is worth. -/
noncomputable def Tryz.pinned : Pinned := { name := "ytjdpnljaichdmaagreatdoor", sum := "a970c5114e1c5daf1c58e47a1910d2eacc41e2ff33180adb4a7ef2e1c951c41a", checked := Tryz.checked }
namespace Rows
def none {H : Type} : Left H := { results := [], args := [] }

/- WHAT THE LISTED PACKAGE-LEVEL VARIABLES READ AS WHEN THE CALL BEGINS. Each datum BY PROGRAM (the guide's laid-datum.mjs) off the statement by which the dump's own 'gosem.cut.vars' lays the variable. In a bare row this is a premise. The card (YtjdpnljaichdmaaGreatDoorCards.lean) ties it to the program's text. -/
def laid_unicode_utf8_acceptRanges {H : Type} : DataW H := .agg [.agg [.lit (.int .u8 128), .lit (.int .u8 191)], .agg [.lit (.int .u8 160), .lit (.int .u8 191)], .agg [.lit (.int .u8 128), .lit (.int .u8 159)], .agg [.lit (.int .u8 144), .lit (.int .u8 191)], .agg [.lit (.int .u8 128), .lit (.int .u8 143)], .agg [.lit (.int .u8 0), .lit (.int .u8 0)], .agg [.lit (.int .u8 0), .lit (.int .u8 0)], .agg [.lit (.int .u8 0), .lit (.int .u8 0)], .agg [.lit (.int .u8 0), .lit (.int .u8 0)], .agg [.lit (.int .u8 0), .lit (.int .u8 0)], .agg [.lit (.int .u8 0), .lit (.int .u8 0)], .agg [.lit (.int .u8 0), .lit (.int .u8 0)], .agg [.lit (.int .u8 0), .lit (.int .u8 0)], .agg [.lit (.int .u8 0), .lit (.int .u8 0)], .agg [.lit (.int .u8 0), .lit (.int .u8 0)], .agg [.lit (.int .u8 0), .lit (.int .u8 0)]]
/-- One of Go's own tables, pinned by name: the form's constant. -/
def laid_unicode_utf8_first : DataW Unit := Go.Pinned.utf8First

/-- 'espalierlaw13.CallWork': WHATEVER THE INPUT: true; the input reads as it did. -/
def callWorkSpec : ChangeSpec := { name := "callWork", fn := fun _ => fun
  | [d] => { results := [.lit (.bool true)], args := [d] }
  | _ => none }
def callWorkRow : OpenClaim := { program := "ytjdpnljaichdmaagreatdoor", sum := "a970c5114e1c5daf1c58e47a1910d2eacc41e2ff33180adb4a7ef2e1c951c41a", func := "espalier/espalierlaw13.CallWork", spec := "callWork", inPlace := ["internal/bytealg.IndexByteString", "internal/bytealg.IndexString", "internal/bytealg.CountString"], unfollowed := true, recurses := true, named := ["internal/bytealg.MaxLen", "unicode/utf8.first", "unicode/utf8.acceptRanges"], loops := true, apart := false, laid := [("unicode/utf8.acceptRanges", laid_unicode_utf8_acceptRanges), ("unicode/utf8.first", laid_unicode_utf8_first)] }
def CallWorkSaid : Prop := callWorkRow.holds Tryz.pinned (OpenSpec.ofChange callWorkSpec)

/-- ITS FALSE NEIGHBOUR: 'it returns false'. Refute it at one input. -/
def callWorkWrong : ChangeSpec := { name := "callWork", fn := fun _ => fun
  | [d] => { results := [.lit (.bool false)], args := [d] }
  | _ => none }
def CallWorkWrongFalsely : Prop := callWorkRow.holds Tryz.pinned (OpenSpec.ofChange callWorkWrong)

/-- 'espalierlaw15.GuardWork': WHATEVER THE INPUT: true; the input reads as it did. -/
def guardWorkSpec : ChangeSpec := { name := "guardWork", fn := fun _ => fun
  | [d] => { results := [.lit (.bool true)], args := [d] }
  | _ => none }
def guardWorkRow : OpenClaim := { program := "ytjdpnljaichdmaagreatdoor", sum := "a970c5114e1c5daf1c58e47a1910d2eacc41e2ff33180adb4a7ef2e1c951c41a", func := "espalier/espalierlaw15.GuardWork", spec := "guardWork", inPlace := ["internal/bytealg.IndexByteString", "internal/bytealg.IndexString", "internal/bytealg.CountString"], unfollowed := true, recurses := true, named := ["internal/bytealg.MaxLen", "unicode/utf8.first", "unicode/utf8.acceptRanges"], loops := true, apart := false, laid := [("unicode/utf8.acceptRanges", laid_unicode_utf8_acceptRanges), ("unicode/utf8.first", laid_unicode_utf8_first)] }
def GuardWorkSaid : Prop := guardWorkRow.holds Tryz.pinned (OpenSpec.ofChange guardWorkSpec)

/-- ITS FALSE NEIGHBOUR: 'it returns false'. Refute it at one input. -/
def guardWorkWrong : ChangeSpec := { name := "guardWork", fn := fun _ => fun
  | [d] => { results := [.lit (.bool false)], args := [d] }
  | _ => none }
def GuardWorkWrongFalsely : Prop := guardWorkRow.holds Tryz.pinned (OpenSpec.ofChange guardWorkWrong)

/-- 'espalierlaw15.GuardChecks': WHATEVER THE INPUT: true; the input reads as it did. -/
def guardChecksSpec : ChangeSpec := { name := "guardChecks", fn := fun _ => fun
  | [d1, d2] => { results := [.lit (.bool true)], args := [d1, d2] }
  | _ => none }
def guardChecksRow : OpenClaim := { program := "ytjdpnljaichdmaagreatdoor", sum := "a970c5114e1c5daf1c58e47a1910d2eacc41e2ff33180adb4a7ef2e1c951c41a", func := "espalier/espalierlaw15.GuardChecks", spec := "guardChecks", inPlace := ["internal/bytealg.IndexByteString", "internal/bytealg.IndexString", "internal/bytealg.CountString"], unfollowed := true, recurses := true, named := ["internal/bytealg.MaxLen", "unicode/utf8.first", "unicode/utf8.acceptRanges"], loops := true, apart := false, laid := [("unicode/utf8.acceptRanges", laid_unicode_utf8_acceptRanges), ("unicode/utf8.first", laid_unicode_utf8_first)] }
def GuardChecksSaid : Prop := guardChecksRow.holds Tryz.pinned (OpenSpec.ofChange guardChecksSpec)

/-- ITS FALSE NEIGHBOUR: 'it returns false'. Refute it at one input. -/
def guardChecksWrong : ChangeSpec := { name := "guardChecks", fn := fun _ => fun
  | [d1, d2] => { results := [.lit (.bool false)], args := [d1, d2] }
  | _ => none }
def GuardChecksWrongFalsely : Prop := guardChecksRow.holds Tryz.pinned (OpenSpec.ofChange guardChecksWrong)

/-- 'espalierlaw9.TruthWork': WHATEVER THE INPUT: true; the input reads as it did. -/
def truthWorkSpec : ChangeSpec := { name := "truthWork", fn := fun _ => fun
  | [d] => { results := [.lit (.bool true)], args := [d] }
  | _ => none }
def truthWorkRow : OpenClaim := { program := "ytjdpnljaichdmaagreatdoor", sum := "a970c5114e1c5daf1c58e47a1910d2eacc41e2ff33180adb4a7ef2e1c951c41a", func := "espalier/espalierlaw9.TruthWork", spec := "truthWork", inPlace := ["internal/bytealg.IndexByteString", "internal/bytealg.IndexString", "internal/bytealg.CountString"], unfollowed := true, recurses := true, named := ["internal/bytealg.MaxLen", "unicode/utf8.first", "unicode/utf8.acceptRanges"], loops := true, apart := false, laid := [("unicode/utf8.acceptRanges", laid_unicode_utf8_acceptRanges), ("unicode/utf8.first", laid_unicode_utf8_first)] }
def TruthWorkSaid : Prop := truthWorkRow.holds Tryz.pinned (OpenSpec.ofChange truthWorkSpec)

/-- ITS FALSE NEIGHBOUR: 'it returns false'. Refute it at one input. -/
def truthWorkWrong : ChangeSpec := { name := "truthWork", fn := fun _ => fun
  | [d] => { results := [.lit (.bool false)], args := [d] }
  | _ => none }
def TruthWorkWrongFalsely : Prop := truthWorkRow.holds Tryz.pinned (OpenSpec.ofChange truthWorkWrong)

/-- 'espalierlaw9.TruthSame': WHATEVER THE INPUT: true; the input reads as it did. -/
def truthSameSpec : ChangeSpec := { name := "truthSame", fn := fun _ => fun
  | [d1, d2, d3] => { results := [.lit (.bool true)], args := [d1, d2, d3] }
  | _ => none }
def truthSameRow : OpenClaim := { program := "ytjdpnljaichdmaagreatdoor", sum := "a970c5114e1c5daf1c58e47a1910d2eacc41e2ff33180adb4a7ef2e1c951c41a", func := "espalier/espalierlaw9.TruthSame", spec := "truthSame", inPlace := ["internal/bytealg.IndexByteString", "internal/bytealg.IndexString", "internal/bytealg.CountString"], unfollowed := true, recurses := true, named := ["internal/bytealg.MaxLen", "unicode/utf8.first", "unicode/utf8.acceptRanges"], loops := true, apart := false, laid := [("unicode/utf8.acceptRanges", laid_unicode_utf8_acceptRanges), ("unicode/utf8.first", laid_unicode_utf8_first)] }
def TruthSameSaid : Prop := truthSameRow.holds Tryz.pinned (OpenSpec.ofChange truthSameSpec)

/-- ITS FALSE NEIGHBOUR: 'it returns false'. Refute it at one input. -/
def truthSameWrong : ChangeSpec := { name := "truthSame", fn := fun _ => fun
  | [d1, d2, d3] => { results := [.lit (.bool false)], args := [d1, d2, d3] }
  | _ => none }
def TruthSameWrongFalsely : Prop := truthSameRow.holds Tryz.pinned (OpenSpec.ofChange truthSameWrong)

/- THE SECOND FORM. 'bulk': how many values and letters a reading holds, each counted each time it is reached (what is shared counts as often as it is met; a slice's spare places count too). A statement '..UptoSaid' is the law's where the arguments, and the package variables that the reading takes, are together of bulk at most 1048576: NARROWER than '..Said'. Prove '..Said' where nothing that the law and all that it calls make is longer than what came in: it says more and counts as full. Else prove '..UptoSaid'. A law counts once. -/
mutual
def uptoBulk {H : Type} : DataW H → Nat
  | .lit (.string bytes) => bytes.length + 1
  | .lit _ => 1
  | .nil => 1
  | .ptr d => uptoBulk d + 1
  | .slice elems spare => uptoBulkAll elems + uptoBulkAll spare + 1
  | .agg parts => uptoBulkAll parts + 1
  | .iface _ d => uptoBulk d + 1
  | .map entries => uptoBulkEntries entries + 1
  | .held _ => 1
def uptoBulkAll {H : Type} : List (DataW H) → Nat
  | [] => 0
  | d :: r => uptoBulk d + uptoBulkAll r
def uptoBulkEntries {H : Type} : List (Lit × DataW H) → Nat
  | [] => 0
  | x :: r => uptoBulkEntry x + uptoBulkEntries r
def uptoBulkEntry {H : Type} : Lit × DataW H → Nat
  | (.string bytes, d) => bytes.length + uptoBulk d + 1
  | (_, d) => uptoBulk d + 1
 end
def uptoSmall : (H : Type) → List (DataW H) → Bool := fun _ ds => decide (uptoBulkAll ds ≤ 1048576)
def OpenSpec.upto (s : _root_.Go.ChangeSpec) : _root_.Go.OpenSpec := { _root_.Go.OpenSpec.ofChange s with cond := some uptoSmall }

/-- 'espalierlaw13.CallWork', WHERE WHAT IT READS IS OF BULK AT MOST 1048576: true; the input reads as it did. -/
def callWorkUptoRow : OpenClaim := { program := "ytjdpnljaichdmaagreatdoor", sum := "a970c5114e1c5daf1c58e47a1910d2eacc41e2ff33180adb4a7ef2e1c951c41a", func := "espalier/espalierlaw13.CallWork", spec := "callWork", inPlace := ["internal/bytealg.IndexByteString", "internal/bytealg.IndexString", "internal/bytealg.CountString"], unfollowed := true, recurses := true, named := ["internal/bytealg.MaxLen", "unicode/utf8.first", "unicode/utf8.acceptRanges"], loops := true, apart := false, laid := [("unicode/utf8.acceptRanges", laid_unicode_utf8_acceptRanges), ("unicode/utf8.first", laid_unicode_utf8_first)], narrowed := true }
def CallWorkUptoSaid : Prop := callWorkUptoRow.holds Tryz.pinned (OpenSpec.upto callWorkSpec)

/-- 'espalierlaw15.GuardWork', WHERE WHAT IT READS IS OF BULK AT MOST 1048576: true; the input reads as it did. -/
def guardWorkUptoRow : OpenClaim := { program := "ytjdpnljaichdmaagreatdoor", sum := "a970c5114e1c5daf1c58e47a1910d2eacc41e2ff33180adb4a7ef2e1c951c41a", func := "espalier/espalierlaw15.GuardWork", spec := "guardWork", inPlace := ["internal/bytealg.IndexByteString", "internal/bytealg.IndexString", "internal/bytealg.CountString"], unfollowed := true, recurses := true, named := ["internal/bytealg.MaxLen", "unicode/utf8.first", "unicode/utf8.acceptRanges"], loops := true, apart := false, laid := [("unicode/utf8.acceptRanges", laid_unicode_utf8_acceptRanges), ("unicode/utf8.first", laid_unicode_utf8_first)], narrowed := true }
def GuardWorkUptoSaid : Prop := guardWorkUptoRow.holds Tryz.pinned (OpenSpec.upto guardWorkSpec)

/-- 'espalierlaw15.GuardChecks', WHERE WHAT IT READS IS OF BULK AT MOST 1048576: true; the input reads as it did. -/
def guardChecksUptoRow : OpenClaim := { program := "ytjdpnljaichdmaagreatdoor", sum := "a970c5114e1c5daf1c58e47a1910d2eacc41e2ff33180adb4a7ef2e1c951c41a", func := "espalier/espalierlaw15.GuardChecks", spec := "guardChecks", inPlace := ["internal/bytealg.IndexByteString", "internal/bytealg.IndexString", "internal/bytealg.CountString"], unfollowed := true, recurses := true, named := ["internal/bytealg.MaxLen", "unicode/utf8.first", "unicode/utf8.acceptRanges"], loops := true, apart := false, laid := [("unicode/utf8.acceptRanges", laid_unicode_utf8_acceptRanges), ("unicode/utf8.first", laid_unicode_utf8_first)], narrowed := true }
def GuardChecksUptoSaid : Prop := guardChecksUptoRow.holds Tryz.pinned (OpenSpec.upto guardChecksSpec)

/-- 'espalierlaw9.TruthWork', WHERE WHAT IT READS IS OF BULK AT MOST 1048576: true; the input reads as it did. -/
def truthWorkUptoRow : OpenClaim := { program := "ytjdpnljaichdmaagreatdoor", sum := "a970c5114e1c5daf1c58e47a1910d2eacc41e2ff33180adb4a7ef2e1c951c41a", func := "espalier/espalierlaw9.TruthWork", spec := "truthWork", inPlace := ["internal/bytealg.IndexByteString", "internal/bytealg.IndexString", "internal/bytealg.CountString"], unfollowed := true, recurses := true, named := ["internal/bytealg.MaxLen", "unicode/utf8.first", "unicode/utf8.acceptRanges"], loops := true, apart := false, laid := [("unicode/utf8.acceptRanges", laid_unicode_utf8_acceptRanges), ("unicode/utf8.first", laid_unicode_utf8_first)], narrowed := true }
def TruthWorkUptoSaid : Prop := truthWorkUptoRow.holds Tryz.pinned (OpenSpec.upto truthWorkSpec)

/-- 'espalierlaw9.TruthSame', WHERE WHAT IT READS IS OF BULK AT MOST 1048576: true; the input reads as it did. -/
def truthSameUptoRow : OpenClaim := { program := "ytjdpnljaichdmaagreatdoor", sum := "a970c5114e1c5daf1c58e47a1910d2eacc41e2ff33180adb4a7ef2e1c951c41a", func := "espalier/espalierlaw9.TruthSame", spec := "truthSame", inPlace := ["internal/bytealg.IndexByteString", "internal/bytealg.IndexString", "internal/bytealg.CountString"], unfollowed := true, recurses := true, named := ["internal/bytealg.MaxLen", "unicode/utf8.first", "unicode/utf8.acceptRanges"], loops := true, apart := false, laid := [("unicode/utf8.acceptRanges", laid_unicode_utf8_acceptRanges), ("unicode/utf8.first", laid_unicode_utf8_first)], narrowed := true }
def TruthSameUptoSaid : Prop := truthSameUptoRow.holds Tryz.pinned (OpenSpec.upto truthSameSpec)

end Rows
end Go.Proofs.YtjdpnljaichdmaaGreatDoor
