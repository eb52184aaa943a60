/-
  DERIVED. GIVEN WITH THE SEED: THE CARDS: each row of YthjpphojddbbmaaGreatDoorRows.lean that lists a variable, with what it lists TIED to the program's text (the seventh form; the later family's looks); each row that meets fmt, with fmt's text TOLD by the authors' own Lean function (tested against real Go, not proved from fmt's source: count such statements apart). THE CARD IS WHAT COUNTS. Prove the row's statement (the work); the ties are given (YthjpphojddbbmaaGreatDoorTie.lean); close each card by the builder's one call (the guide's Derived/Test/ToyasCard.lean, 'card_holds'). Laid BY PROGRAM, IN A SANDBOX (cutbox-door.mjs). By AI agents, Wed Nov 11 2026. No macro, syntax, notation, axiom, sorry.
-/
import Derived.Test.YthjpphojddbbmaaGreatDoorRows
import GoSem.ClaimSeven
namespace Go.Proofs.YthjpphojddbbmaaGreatDoor
namespace Rows

/-- THE TIED CARD OF 'espalierlaw10.WordsWork'. -/
def wordsWorkCard : Claim7 := { stood := { row := wordsWorkRow, standIns := [], harness := (true, "3f9910a8acf1ae680d888e04e2b5dcdf9465651f4d79b36606e6b74662ce94ec"), looks := true }, kinds := [], alts := [], laidByText := true, laidKinds := [.data, .data, .data, .sentinel, .sentinel], laidTests := true, laidLooks := .later }
def WordsWorkCardSaid : Prop := Claim7.holds Tryz.pinned (.plain (OpenSpec.ofChange wordsWorkSpec)) wordsWorkCard

/-- THE TIED CARD OF 'espalierlaw10.WordsPieces'. -/
def wordsPiecesCard : Claim7 := { stood := { row := wordsPiecesRow, standIns := [], harness := (true, "3f9910a8acf1ae680d888e04e2b5dcdf9465651f4d79b36606e6b74662ce94ec"), looks := true }, kinds := [], alts := [], laidByText := true, laidKinds := [.data, .data, .data, .sentinel, .sentinel], laidTests := true, laidLooks := .later }
def WordsPiecesCardSaid : Prop := Claim7.holds Tryz.pinned (.plain (OpenSpec.ofChange wordsPiecesSpec)) wordsPiecesCard

/-- THE TIED CARD OF 'espalierlaw10.WordsNumbers'. -/
def wordsNumbersCard : Claim7 := { stood := { row := wordsNumbersRow, standIns := [], harness := (true, "3f9910a8acf1ae680d888e04e2b5dcdf9465651f4d79b36606e6b74662ce94ec"), looks := true }, kinds := [], alts := [], laidByText := true, laidKinds := [.data, .data, .data, .sentinel, .sentinel], laidTests := true, laidLooks := .later }
def WordsNumbersCardSaid : Prop := Claim7.holds Tryz.pinned (.plain (OpenSpec.ofChange wordsNumbersSpec)) wordsNumbersCard

/-- THE TIED CARD OF 'espalierlaw10.WordsRep'. -/
def wordsRepCard : Claim7 := { stood := { row := wordsRepRow, standIns := [], harness := (true, "3f9910a8acf1ae680d888e04e2b5dcdf9465651f4d79b36606e6b74662ce94ec"), looks := true }, kinds := [], alts := [], laidByText := true, laidKinds := [.data, .data, .data, .sentinel, .sentinel], laidTests := true, laidLooks := .later }
def WordsRepCardSaid : Prop := Claim7.holds Tryz.pinned (.plain (OpenSpec.ofChange wordsRepSpec)) wordsRepCard

/-- THE TIED CARD OF 'espalierlaw10.WordsRows'. -/
def wordsRowsCard : Claim7 := { stood := { row := wordsRowsRow, standIns := [], harness := (true, "3f9910a8acf1ae680d888e04e2b5dcdf9465651f4d79b36606e6b74662ce94ec"), looks := true }, kinds := [], alts := [], laidByText := true, laidKinds := [.data, .data, .data, .sentinel, .sentinel], laidTests := true, laidLooks := .later }
def WordsRowsCardSaid : Prop := Claim7.holds Tryz.pinned (.plain (OpenSpec.ofChange wordsRowsSpec)) wordsRowsCard

/-- THE SECOND FORM's CARD OF 'espalierlaw10.WordsWork'. -/
def wordsWorkUptoCard : Claim7 := { stood := { row := wordsWorkUptoRow, standIns := [], harness := (true, "3f9910a8acf1ae680d888e04e2b5dcdf9465651f4d79b36606e6b74662ce94ec"), looks := true }, kinds := [], alts := [], laidByText := true, laidKinds := [.data, .data, .data, .sentinel, .sentinel], laidTests := true, laidLooks := .later }
def WordsWorkUptoCardSaid : Prop := Claim7.holds Tryz.pinned (.plain (OpenSpec.upto wordsWorkSpec)) wordsWorkUptoCard

/-- THE SECOND FORM's CARD OF 'espalierlaw10.WordsPieces'. -/
def wordsPiecesUptoCard : Claim7 := { stood := { row := wordsPiecesUptoRow, standIns := [], harness := (true, "3f9910a8acf1ae680d888e04e2b5dcdf9465651f4d79b36606e6b74662ce94ec"), looks := true }, kinds := [], alts := [], laidByText := true, laidKinds := [.data, .data, .data, .sentinel, .sentinel], laidTests := true, laidLooks := .later }
def WordsPiecesUptoCardSaid : Prop := Claim7.holds Tryz.pinned (.plain (OpenSpec.upto wordsPiecesSpec)) wordsPiecesUptoCard

/-- THE SECOND FORM's CARD OF 'espalierlaw10.WordsNumbers'. -/
def wordsNumbersUptoCard : Claim7 := { stood := { row := wordsNumbersUptoRow, standIns := [], harness := (true, "3f9910a8acf1ae680d888e04e2b5dcdf9465651f4d79b36606e6b74662ce94ec"), looks := true }, kinds := [], alts := [], laidByText := true, laidKinds := [.data, .data, .data, .sentinel, .sentinel], laidTests := true, laidLooks := .later }
def WordsNumbersUptoCardSaid : Prop := Claim7.holds Tryz.pinned (.plain (OpenSpec.upto wordsNumbersSpec)) wordsNumbersUptoCard

/-- THE SECOND FORM's CARD OF 'espalierlaw10.WordsRep'. -/
def wordsRepUptoCard : Claim7 := { stood := { row := wordsRepUptoRow, standIns := [], harness := (true, "3f9910a8acf1ae680d888e04e2b5dcdf9465651f4d79b36606e6b74662ce94ec"), looks := true }, kinds := [], alts := [], laidByText := true, laidKinds := [.data, .data, .data, .sentinel, .sentinel], laidTests := true, laidLooks := .later }
def WordsRepUptoCardSaid : Prop := Claim7.holds Tryz.pinned (.plain (OpenSpec.upto wordsRepSpec)) wordsRepUptoCard

/-- THE SECOND FORM's CARD OF 'espalierlaw10.WordsRows'. -/
def wordsRowsUptoCard : Claim7 := { stood := { row := wordsRowsUptoRow, standIns := [], harness := (true, "3f9910a8acf1ae680d888e04e2b5dcdf9465651f4d79b36606e6b74662ce94ec"), looks := true }, kinds := [], alts := [], laidByText := true, laidKinds := [.data, .data, .data, .sentinel, .sentinel], laidTests := true, laidLooks := .later }
def WordsRowsUptoCardSaid : Prop := Claim7.holds Tryz.pinned (.plain (OpenSpec.upto wordsRowsSpec)) wordsRowsUptoCard
end Rows
end Go.Proofs.YthjpphojddbbmaaGreatDoor
