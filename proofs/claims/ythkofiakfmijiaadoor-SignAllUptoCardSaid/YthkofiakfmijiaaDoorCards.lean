/-
  DERIVED. GIVEN WITH THE SEED: THE CARDS: each row of YthkofiakfmijiaaDoorRows.lean that lists a variable, with what it lists TIED to the program's text (the seventh form; the later family's looks); each row that meets fmt, with fmt's text TOLD by the authors' own Lean function (tested against real Go, not proved from fmt's source: count such statements apart). THE CARD IS WHAT COUNTS. Prove the row's statement (the work); the ties are given (YthkofiakfmijiaaDoorTie.lean); close each card by the builder's one call (the guide's Derived/Test/ToyasCard.lean, 'card_holds'). Laid BY PROGRAM, IN A SANDBOX (cutbox-door.mjs). By AI agents, Wed Nov 11 2026. No macro, syntax, notation, axiom, sorry.
-/
import Derived.Test.YthkofiakfmijiaaDoorRows
import GoSem.ClaimSeven
namespace Go.Proofs.YthkofiakfmijiaaDoor
namespace Rows

/-- THE TIED CARD OF 'espalierlaw3.SignAll'. -/
def signAllCard : Claim7 := { stood := { row := signAllRow, standIns := [], harness := (true, "0db7968ac52a1db34755e18333a759af05b349c445cd92ce9091bce93f8cadb2"), looks := false }, kinds := [], alts := [], laidByText := true, laidKinds := [.data, .data, .data, .data, .pinned], laidTests := true, laidLooks := .later }
def SignAllCardSaid : Prop := Claim7.holds Tryd.pinned (.plain (OpenSpec.ofChange signAllSpec)) signAllCard

/-- THE TIED CARD OF 'espalierlaw3.SignThere'. -/
def signThereCard : Claim7 := { stood := { row := signThereRow, standIns := [], harness := (true, "0db7968ac52a1db34755e18333a759af05b349c445cd92ce9091bce93f8cadb2"), looks := false }, kinds := [], alts := [], laidByText := true, laidKinds := [.data, .data, .data, .data, .pinned], laidTests := true, laidLooks := .later }
def SignThereCardSaid : Prop := Claim7.holds Tryd.pinned (.plain (OpenSpec.ofChange signThereSpec)) signThereCard

/-- THE TIED CARD OF 'espalierlaw3.SignOrder'. -/
def signOrderCard : Claim7 := { stood := { row := signOrderRow, standIns := [], harness := (true, "0db7968ac52a1db34755e18333a759af05b349c445cd92ce9091bce93f8cadb2"), looks := false }, kinds := [], alts := [], laidByText := true, laidKinds := [.data, .data, .data, .data, .pinned], laidTests := true, laidLooks := .later }
def SignOrderCardSaid : Prop := Claim7.holds Tryd.pinned (.plain (OpenSpec.ofChange signOrderSpec)) signOrderCard

/-- THE TIED CARD OF 'espalierlaw3.SignParts'. -/
def signPartsCard : Claim7 := { stood := { row := signPartsRow, standIns := [], harness := (true, "0db7968ac52a1db34755e18333a759af05b349c445cd92ce9091bce93f8cadb2"), looks := false }, kinds := [], alts := [], laidByText := true, laidKinds := [.data, .data, .data, .data, .pinned], laidTests := true, laidLooks := .later }
def SignPartsCardSaid : Prop := Claim7.holds Tryd.pinned (.plain (OpenSpec.ofChange signPartsSpec)) signPartsCard

/-- THE SECOND FORM's CARD OF 'espalierlaw3.SignAll'. -/
def signAllUptoCard : Claim7 := { stood := { row := signAllUptoRow, standIns := [], harness := (true, "0db7968ac52a1db34755e18333a759af05b349c445cd92ce9091bce93f8cadb2"), looks := false }, kinds := [], alts := [], laidByText := true, laidKinds := [.data, .data, .data, .data, .pinned], laidTests := true, laidLooks := .later }
def SignAllUptoCardSaid : Prop := Claim7.holds Tryd.pinned (.plain (OpenSpec.upto signAllSpec)) signAllUptoCard

/-- THE SECOND FORM's CARD OF 'espalierlaw3.SignThere'. -/
def signThereUptoCard : Claim7 := { stood := { row := signThereUptoRow, standIns := [], harness := (true, "0db7968ac52a1db34755e18333a759af05b349c445cd92ce9091bce93f8cadb2"), looks := false }, kinds := [], alts := [], laidByText := true, laidKinds := [.data, .data, .data, .data, .pinned], laidTests := true, laidLooks := .later }
def SignThereUptoCardSaid : Prop := Claim7.holds Tryd.pinned (.plain (OpenSpec.upto signThereSpec)) signThereUptoCard

/-- THE SECOND FORM's CARD OF 'espalierlaw3.SignOrder'. -/
def signOrderUptoCard : Claim7 := { stood := { row := signOrderUptoRow, standIns := [], harness := (true, "0db7968ac52a1db34755e18333a759af05b349c445cd92ce9091bce93f8cadb2"), looks := false }, kinds := [], alts := [], laidByText := true, laidKinds := [.data, .data, .data, .data, .pinned], laidTests := true, laidLooks := .later }
def SignOrderUptoCardSaid : Prop := Claim7.holds Tryd.pinned (.plain (OpenSpec.upto signOrderSpec)) signOrderUptoCard

/-- THE SECOND FORM's CARD OF 'espalierlaw3.SignParts'. -/
def signPartsUptoCard : Claim7 := { stood := { row := signPartsUptoRow, standIns := [], harness := (true, "0db7968ac52a1db34755e18333a759af05b349c445cd92ce9091bce93f8cadb2"), looks := false }, kinds := [], alts := [], laidByText := true, laidKinds := [.data, .data, .data, .data, .pinned], laidTests := true, laidLooks := .later }
def SignPartsUptoCardSaid : Prop := Claim7.holds Tryd.pinned (.plain (OpenSpec.upto signPartsSpec)) signPartsUptoCard
end Rows
end Go.Proofs.YthkofiakfmijiaaDoor
