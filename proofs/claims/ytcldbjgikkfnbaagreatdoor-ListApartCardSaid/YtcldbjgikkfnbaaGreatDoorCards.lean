/-
  DERIVED. GIVEN WITH THE SEED: THE CARDS: each row of YtcldbjgikkfnbaaGreatDoorRows.lean that lists a variable, with what it lists TIED to the program's text (the seventh form; the later family's looks); each row that meets fmt, with fmt's text TOLD by the authors' own Lean function (tested against real Go, not proved from fmt's source: count such statements apart). THE CARD IS WHAT COUNTS. Prove the row's statement (the work); the ties are given (YtcldbjgikkfnbaaGreatDoorTie.lean); close each card by the builder's one call (the guide's Derived/Test/ToyasCard.lean, 'card_holds'). Laid BY PROGRAM, IN A SANDBOX (cutbox-door.mjs). By AI agents, Wed Nov 11 2026. No macro, syntax, notation, axiom, sorry.
-/
import Derived.Test.YtcldbjgikkfnbaaGreatDoorRows
import GoSem.ClaimSeven
namespace Go.Proofs.YtcldbjgikkfnbaaGreatDoor
namespace Rows

/-- THE TIED CARD OF 'espalierlaw11.ListWork'. -/
def listWorkCard : Claim7 := { stood := { row := listWorkRow, standIns := [], harness := (true, "2a641cb222e855053d6ae1acd8713e07fdcc90d2c29b17b115249d7157a36e75"), looks := true }, kinds := [], alts := [], laidByText := true, laidKinds := [.data, .pinned], laidTests := true, laidLooks := .later }
def ListWorkCardSaid : Prop := Claim7.holds Tryz.pinned (.plain (OpenSpec.ofChange listWorkSpec)) listWorkCard

/-- THE TIED CARD OF 'espalierlaw11.ListParts'. -/
def listPartsCard : Claim7 := { stood := { row := listPartsRow, standIns := [], harness := (true, "2a641cb222e855053d6ae1acd8713e07fdcc90d2c29b17b115249d7157a36e75"), looks := true }, kinds := [], alts := [], laidByText := true, laidKinds := [.data, .pinned], laidTests := true, laidLooks := .later }
def ListPartsCardSaid : Prop := Claim7.holds Tryz.pinned (.plain (OpenSpec.ofChange listPartsSpec)) listPartsCard

/-- THE TIED CARD OF 'espalierlaw11.ListCount'. -/
def listCountCard : Claim7 := { stood := { row := listCountRow, standIns := [], harness := (true, "2a641cb222e855053d6ae1acd8713e07fdcc90d2c29b17b115249d7157a36e75"), looks := true }, kinds := [], alts := [], laidByText := true, laidKinds := [.data, .pinned], laidTests := true, laidLooks := .later }
def ListCountCardSaid : Prop := Claim7.holds Tryz.pinned (.plain (OpenSpec.ofChange listCountSpec)) listCountCard

/-- THE TIED CARD OF 'espalierlaw11.ListFresh'. -/
def listFreshCard : Claim7 := { stood := { row := listFreshRow, standIns := [], harness := (true, "2a641cb222e855053d6ae1acd8713e07fdcc90d2c29b17b115249d7157a36e75"), looks := true }, kinds := [], alts := [], laidByText := true, laidKinds := [.data, .pinned], laidTests := true, laidLooks := .later }
def ListFreshCardSaid : Prop := Claim7.holds Tryz.pinned (.plain (OpenSpec.ofChange listFreshSpec)) listFreshCard

/-- THE TIED CARD OF 'espalierlaw11.ListApart'. -/
def listApartCard : Claim7 := { stood := { row := listApartRow, standIns := [], harness := (true, "2a641cb222e855053d6ae1acd8713e07fdcc90d2c29b17b115249d7157a36e75"), looks := true }, kinds := [], alts := [], laidByText := true, laidKinds := [.data, .pinned], laidTests := true, laidLooks := .later }
def ListApartCardSaid : Prop := Claim7.holds Tryz.pinned (.plain (OpenSpec.ofChange listApartSpec)) listApartCard

/-- THE SECOND FORM's CARD OF 'espalierlaw11.ListWork'. -/
def listWorkUptoCard : Claim7 := { stood := { row := listWorkUptoRow, standIns := [], harness := (true, "2a641cb222e855053d6ae1acd8713e07fdcc90d2c29b17b115249d7157a36e75"), looks := true }, kinds := [], alts := [], laidByText := true, laidKinds := [.data, .pinned], laidTests := true, laidLooks := .later }
def ListWorkUptoCardSaid : Prop := Claim7.holds Tryz.pinned (.plain (OpenSpec.upto listWorkSpec)) listWorkUptoCard

/-- THE SECOND FORM's CARD OF 'espalierlaw11.ListParts'. -/
def listPartsUptoCard : Claim7 := { stood := { row := listPartsUptoRow, standIns := [], harness := (true, "2a641cb222e855053d6ae1acd8713e07fdcc90d2c29b17b115249d7157a36e75"), looks := true }, kinds := [], alts := [], laidByText := true, laidKinds := [.data, .pinned], laidTests := true, laidLooks := .later }
def ListPartsUptoCardSaid : Prop := Claim7.holds Tryz.pinned (.plain (OpenSpec.upto listPartsSpec)) listPartsUptoCard

/-- THE SECOND FORM's CARD OF 'espalierlaw11.ListCount'. -/
def listCountUptoCard : Claim7 := { stood := { row := listCountUptoRow, standIns := [], harness := (true, "2a641cb222e855053d6ae1acd8713e07fdcc90d2c29b17b115249d7157a36e75"), looks := true }, kinds := [], alts := [], laidByText := true, laidKinds := [.data, .pinned], laidTests := true, laidLooks := .later }
def ListCountUptoCardSaid : Prop := Claim7.holds Tryz.pinned (.plain (OpenSpec.upto listCountSpec)) listCountUptoCard

/-- THE SECOND FORM's CARD OF 'espalierlaw11.ListFresh'. -/
def listFreshUptoCard : Claim7 := { stood := { row := listFreshUptoRow, standIns := [], harness := (true, "2a641cb222e855053d6ae1acd8713e07fdcc90d2c29b17b115249d7157a36e75"), looks := true }, kinds := [], alts := [], laidByText := true, laidKinds := [.data, .pinned], laidTests := true, laidLooks := .later }
def ListFreshUptoCardSaid : Prop := Claim7.holds Tryz.pinned (.plain (OpenSpec.upto listFreshSpec)) listFreshUptoCard

/-- THE SECOND FORM's CARD OF 'espalierlaw11.ListApart'. -/
def listApartUptoCard : Claim7 := { stood := { row := listApartUptoRow, standIns := [], harness := (true, "2a641cb222e855053d6ae1acd8713e07fdcc90d2c29b17b115249d7157a36e75"), looks := true }, kinds := [], alts := [], laidByText := true, laidKinds := [.data, .pinned], laidTests := true, laidLooks := .later }
def ListApartUptoCardSaid : Prop := Claim7.holds Tryz.pinned (.plain (OpenSpec.upto listApartSpec)) listApartUptoCard
end Rows
end Go.Proofs.YtcldbjgikkfnbaaGreatDoor
