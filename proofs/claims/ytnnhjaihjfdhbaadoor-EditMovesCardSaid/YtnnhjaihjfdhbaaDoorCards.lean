/-
  DERIVED. GIVEN WITH THE SEED: THE CARDS: each row of YtnnhjaihjfdhbaaDoorRows.lean that lists a variable, with what it lists TIED to the program's text (the seventh form; the later family's looks); each row that meets fmt, with fmt's text TOLD by the authors' own Lean function (tested against real Go, not proved from fmt's source: count such statements apart). THE CARD IS WHAT COUNTS. Prove the row's statement (the work); the ties are given (YtnnhjaihjfdhbaaDoorTie.lean); close each card by the builder's one call (the guide's Derived/Test/ToyasCard.lean, 'card_holds'). Laid BY PROGRAM, IN A SANDBOX (cutbox-door.mjs). By AI agents, Wed Nov 11 2026. No macro, syntax, notation, axiom, sorry.
-/
import Derived.Test.YtnnhjaihjfdhbaaDoorRows
import GoSem.ClaimSeven
namespace Go.Proofs.YtnnhjaihjfdhbaaDoor
namespace Rows

/-- THE TIED CARD OF 'arlinklaw10.EditReplaces'. -/
def editReplacesCard : Claim7 := { stood := { row := editReplacesRow, standIns := [], harness := (true, "2ae304fdc78312eb7bc674a0867e62e4196be0a0385db2bde67d4be5eab70437"), looks := false }, kinds := [], alts := [], laidByText := true, laidKinds := [.funcs], laidTests := true, laidLooks := .later }
def EditReplacesCardSaid : Prop := Claim7.holds Tryd.pinned (.plain (OpenSpec.ofChange editReplacesSpec)) editReplacesCard

/-- THE TIED CARD OF 'arlinklaw10.EditMoves'. -/
def editMovesCard : Claim7 := { stood := { row := editMovesRow, standIns := [], harness := (true, "2ae304fdc78312eb7bc674a0867e62e4196be0a0385db2bde67d4be5eab70437"), looks := false }, kinds := [], alts := [], laidByText := true, laidKinds := [.funcs], laidTests := true, laidLooks := .later }
def EditMovesCardSaid : Prop := Claim7.holds Tryd.pinned (.plain (OpenSpec.ofChange editMovesSpec)) editMovesCard

/-- THE TIED CARD OF 'arlinklaw10.EditInverse'. -/
def editInverseCard : Claim7 := { stood := { row := editInverseRow, standIns := [], harness := (true, "2ae304fdc78312eb7bc674a0867e62e4196be0a0385db2bde67d4be5eab70437"), looks := false }, kinds := [], alts := [], laidByText := true, laidKinds := [.funcs], laidTests := true, laidLooks := .later }
def EditInverseCardSaid : Prop := Claim7.holds Tryd.pinned (.plain (OpenSpec.ofChange editInverseSpec)) editInverseCard

/-- THE TIED CARD OF 'arlinklaw10.EditModel'. -/
def editModelCard : Claim7 := { stood := { row := editModelRow, standIns := [], harness := (true, "2ae304fdc78312eb7bc674a0867e62e4196be0a0385db2bde67d4be5eab70437"), looks := false }, kinds := [], alts := [], laidByText := true, laidKinds := [.funcs], laidTests := true, laidLooks := .later }
def EditModelCardSaid : Prop := Claim7.holds Tryd.pinned (.plain (OpenSpec.ofChange editModelSpec)) editModelCard

/-- THE TIED CARD OF 'arlinklaw10.EditKeeps'. -/
def editKeepsCard : Claim7 := { stood := { row := editKeepsRow, standIns := [], harness := (true, "2ae304fdc78312eb7bc674a0867e62e4196be0a0385db2bde67d4be5eab70437"), looks := false }, kinds := [], alts := [], laidByText := true, laidKinds := [.funcs], laidTests := true, laidLooks := .later }
def EditKeepsCardSaid : Prop := Claim7.holds Tryd.pinned (.plain (OpenSpec.ofChange editKeepsSpec)) editKeepsCard

/-- THE SECOND FORM's CARD OF 'arlinklaw10.EditReplaces'. -/
def editReplacesUptoCard : Claim7 := { stood := { row := editReplacesUptoRow, standIns := [], harness := (true, "2ae304fdc78312eb7bc674a0867e62e4196be0a0385db2bde67d4be5eab70437"), looks := false }, kinds := [], alts := [], laidByText := true, laidKinds := [.funcs], laidTests := true, laidLooks := .later }
def EditReplacesUptoCardSaid : Prop := Claim7.holds Tryd.pinned (.plain (OpenSpec.upto editReplacesSpec)) editReplacesUptoCard

/-- THE SECOND FORM's CARD OF 'arlinklaw10.EditMoves'. -/
def editMovesUptoCard : Claim7 := { stood := { row := editMovesUptoRow, standIns := [], harness := (true, "2ae304fdc78312eb7bc674a0867e62e4196be0a0385db2bde67d4be5eab70437"), looks := false }, kinds := [], alts := [], laidByText := true, laidKinds := [.funcs], laidTests := true, laidLooks := .later }
def EditMovesUptoCardSaid : Prop := Claim7.holds Tryd.pinned (.plain (OpenSpec.upto editMovesSpec)) editMovesUptoCard

/-- THE SECOND FORM's CARD OF 'arlinklaw10.EditInverse'. -/
def editInverseUptoCard : Claim7 := { stood := { row := editInverseUptoRow, standIns := [], harness := (true, "2ae304fdc78312eb7bc674a0867e62e4196be0a0385db2bde67d4be5eab70437"), looks := false }, kinds := [], alts := [], laidByText := true, laidKinds := [.funcs], laidTests := true, laidLooks := .later }
def EditInverseUptoCardSaid : Prop := Claim7.holds Tryd.pinned (.plain (OpenSpec.upto editInverseSpec)) editInverseUptoCard

/-- THE SECOND FORM's CARD OF 'arlinklaw10.EditModel'. -/
def editModelUptoCard : Claim7 := { stood := { row := editModelUptoRow, standIns := [], harness := (true, "2ae304fdc78312eb7bc674a0867e62e4196be0a0385db2bde67d4be5eab70437"), looks := false }, kinds := [], alts := [], laidByText := true, laidKinds := [.funcs], laidTests := true, laidLooks := .later }
def EditModelUptoCardSaid : Prop := Claim7.holds Tryd.pinned (.plain (OpenSpec.upto editModelSpec)) editModelUptoCard

/-- THE SECOND FORM's CARD OF 'arlinklaw10.EditKeeps'. -/
def editKeepsUptoCard : Claim7 := { stood := { row := editKeepsUptoRow, standIns := [], harness := (true, "2ae304fdc78312eb7bc674a0867e62e4196be0a0385db2bde67d4be5eab70437"), looks := false }, kinds := [], alts := [], laidByText := true, laidKinds := [.funcs], laidTests := true, laidLooks := .later }
def EditKeepsUptoCardSaid : Prop := Claim7.holds Tryd.pinned (.plain (OpenSpec.upto editKeepsSpec)) editKeepsUptoCard
end Rows
end Go.Proofs.YtnnhjaihjfdhbaaDoor
