/-
  DERIVED. GIVEN WITH THE SEED: THE CARDS: each row of YtjdpnljaichdmaaGreatDoorRows.lean that lists a variable, with what it lists TIED to the program's text (the seventh form; the later family's looks); each row that meets fmt, with fmt's text TOLD by the authors' own Lean function (tested against real Go, not proved from fmt's source: count such statements apart). THE CARD IS WHAT COUNTS. Prove the row's statement (the work); the ties are given (YtjdpnljaichdmaaGreatDoorTie.lean); close each card by the builder's one call (the guide's Derived/Test/ToyasCard.lean, 'card_holds'). Laid BY PROGRAM, IN A SANDBOX (cutbox-door.mjs). By AI agents, Wed Nov 11 2026. No macro, syntax, notation, axiom, sorry.
-/
import Derived.Test.YtjdpnljaichdmaaGreatDoorRows
import GoSem.ClaimSeven
namespace Go.Proofs.YtjdpnljaichdmaaGreatDoor
namespace Rows

/-- THE TIED CARD OF 'espalierlaw13.CallWork'. -/
def callWorkCard : Claim7 := { stood := { row := callWorkRow, standIns := [], harness := (true, "5104bf2421109cf354a5d57694633ed78b610a7b9c3563b823889b93cf824e56"), looks := true }, kinds := [], alts := [], laidByText := true, laidKinds := [.data, .pinned], laidTests := true, laidLooks := .later }
def CallWorkCardSaid : Prop := Claim7.holds Tryz.pinned (.plain (OpenSpec.ofChange callWorkSpec)) callWorkCard

/-- THE TIED CARD OF 'espalierlaw15.GuardWork'. -/
def guardWorkCard : Claim7 := { stood := { row := guardWorkRow, standIns := [], harness := (true, "5104bf2421109cf354a5d57694633ed78b610a7b9c3563b823889b93cf824e56"), looks := true }, kinds := [], alts := [], laidByText := true, laidKinds := [.data, .pinned], laidTests := true, laidLooks := .later }
def GuardWorkCardSaid : Prop := Claim7.holds Tryz.pinned (.plain (OpenSpec.ofChange guardWorkSpec)) guardWorkCard

/-- THE TIED CARD OF 'espalierlaw15.GuardChecks'. -/
def guardChecksCard : Claim7 := { stood := { row := guardChecksRow, standIns := [], harness := (true, "5104bf2421109cf354a5d57694633ed78b610a7b9c3563b823889b93cf824e56"), looks := true }, kinds := [], alts := [], laidByText := true, laidKinds := [.data, .pinned], laidTests := true, laidLooks := .later }
def GuardChecksCardSaid : Prop := Claim7.holds Tryz.pinned (.plain (OpenSpec.ofChange guardChecksSpec)) guardChecksCard

/-- THE TIED CARD OF 'espalierlaw9.TruthWork'. -/
def truthWorkCard : Claim7 := { stood := { row := truthWorkRow, standIns := [], harness := (true, "5104bf2421109cf354a5d57694633ed78b610a7b9c3563b823889b93cf824e56"), looks := true }, kinds := [], alts := [], laidByText := true, laidKinds := [.data, .pinned], laidTests := true, laidLooks := .later }
def TruthWorkCardSaid : Prop := Claim7.holds Tryz.pinned (.plain (OpenSpec.ofChange truthWorkSpec)) truthWorkCard

/-- THE TIED CARD OF 'espalierlaw9.TruthSame'. -/
def truthSameCard : Claim7 := { stood := { row := truthSameRow, standIns := [], harness := (true, "5104bf2421109cf354a5d57694633ed78b610a7b9c3563b823889b93cf824e56"), looks := true }, kinds := [], alts := [], laidByText := true, laidKinds := [.data, .pinned], laidTests := true, laidLooks := .later }
def TruthSameCardSaid : Prop := Claim7.holds Tryz.pinned (.plain (OpenSpec.ofChange truthSameSpec)) truthSameCard

/-- THE SECOND FORM's CARD OF 'espalierlaw13.CallWork'. -/
def callWorkUptoCard : Claim7 := { stood := { row := callWorkUptoRow, standIns := [], harness := (true, "5104bf2421109cf354a5d57694633ed78b610a7b9c3563b823889b93cf824e56"), looks := true }, kinds := [], alts := [], laidByText := true, laidKinds := [.data, .pinned], laidTests := true, laidLooks := .later }
def CallWorkUptoCardSaid : Prop := Claim7.holds Tryz.pinned (.plain (OpenSpec.upto callWorkSpec)) callWorkUptoCard

/-- THE SECOND FORM's CARD OF 'espalierlaw15.GuardWork'. -/
def guardWorkUptoCard : Claim7 := { stood := { row := guardWorkUptoRow, standIns := [], harness := (true, "5104bf2421109cf354a5d57694633ed78b610a7b9c3563b823889b93cf824e56"), looks := true }, kinds := [], alts := [], laidByText := true, laidKinds := [.data, .pinned], laidTests := true, laidLooks := .later }
def GuardWorkUptoCardSaid : Prop := Claim7.holds Tryz.pinned (.plain (OpenSpec.upto guardWorkSpec)) guardWorkUptoCard

/-- THE SECOND FORM's CARD OF 'espalierlaw15.GuardChecks'. -/
def guardChecksUptoCard : Claim7 := { stood := { row := guardChecksUptoRow, standIns := [], harness := (true, "5104bf2421109cf354a5d57694633ed78b610a7b9c3563b823889b93cf824e56"), looks := true }, kinds := [], alts := [], laidByText := true, laidKinds := [.data, .pinned], laidTests := true, laidLooks := .later }
def GuardChecksUptoCardSaid : Prop := Claim7.holds Tryz.pinned (.plain (OpenSpec.upto guardChecksSpec)) guardChecksUptoCard

/-- THE SECOND FORM's CARD OF 'espalierlaw9.TruthWork'. -/
def truthWorkUptoCard : Claim7 := { stood := { row := truthWorkUptoRow, standIns := [], harness := (true, "5104bf2421109cf354a5d57694633ed78b610a7b9c3563b823889b93cf824e56"), looks := true }, kinds := [], alts := [], laidByText := true, laidKinds := [.data, .pinned], laidTests := true, laidLooks := .later }
def TruthWorkUptoCardSaid : Prop := Claim7.holds Tryz.pinned (.plain (OpenSpec.upto truthWorkSpec)) truthWorkUptoCard

/-- THE SECOND FORM's CARD OF 'espalierlaw9.TruthSame'. -/
def truthSameUptoCard : Claim7 := { stood := { row := truthSameUptoRow, standIns := [], harness := (true, "5104bf2421109cf354a5d57694633ed78b610a7b9c3563b823889b93cf824e56"), looks := true }, kinds := [], alts := [], laidByText := true, laidKinds := [.data, .pinned], laidTests := true, laidLooks := .later }
def TruthSameUptoCardSaid : Prop := Claim7.holds Tryz.pinned (.plain (OpenSpec.upto truthSameSpec)) truthSameUptoCard
end Rows
end Go.Proofs.YtjdpnljaichdmaaGreatDoor
