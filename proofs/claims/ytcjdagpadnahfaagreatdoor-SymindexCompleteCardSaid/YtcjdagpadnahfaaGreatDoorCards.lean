/-
  DERIVED. GIVEN WITH THE SEED: THE CARDS: each row of YtcjdagpadnahfaaGreatDoorRows.lean that lists a variable, with what it lists TIED to the program's text (the seventh form; the later family's looks); each row that meets fmt, with fmt's text TOLD by the authors' own Lean function (tested against real Go, not proved from fmt's source: count such statements apart). THE CARD IS WHAT COUNTS. Prove the row's statement (the work); the ties are given (YtcjdagpadnahfaaGreatDoorTie.lean); close each card by the builder's one call (the guide's Derived/Test/ToyasCard.lean, 'card_holds'). Laid BY PROGRAM, IN A SANDBOX (cutbox-door.mjs). By AI agents, Wed Nov 11 2026. No macro, syntax, notation, axiom, sorry.
-/
import Derived.Test.YtcjdagpadnahfaaGreatDoorRows
import GoSem.ClaimSeven
namespace Go.Proofs.YtcjdagpadnahfaaGreatDoor
namespace Rows

/-- THE TIED CARD OF 'arlinklaw08.SymindexMatchesReference'. -/
def symindexMatchesReferenceCard : Claim7 := { stood := { row := symindexMatchesReferenceRow, standIns := [], harness := (true, "f463434037ae9968ceaaf315663d7b7d7b4eaaa1e1fc0c363e0b70917eb6ab0f"), looks := true }, kinds := [], alts := [], laidByText := true, laidKinds := [.data, .data, .data], laidTests := true, laidLooks := .later }
def SymindexMatchesReferenceCardSaid : Prop := Claim7.holds Tryz.pinned (.plain (OpenSpec.ofChange symindexMatchesReferenceSpec)) symindexMatchesReferenceCard

/-- THE TIED CARD OF 'arlinklaw08.SymindexOffsets'. -/
def symindexOffsetsCard : Claim7 := { stood := { row := symindexOffsetsRow, standIns := [], harness := (true, "f463434037ae9968ceaaf315663d7b7d7b4eaaa1e1fc0c363e0b70917eb6ab0f"), looks := true }, kinds := [], alts := [], laidByText := true, laidKinds := [.data, .data, .data], laidTests := true, laidLooks := .later }
def SymindexOffsetsCardSaid : Prop := Claim7.holds Tryz.pinned (.plain (OpenSpec.ofChange symindexOffsetsSpec)) symindexOffsetsCard

/-- THE TIED CARD OF 'arlinklaw08.SymindexKeeps'. -/
def symindexKeepsCard : Claim7 := { stood := { row := symindexKeepsRow, standIns := [], harness := (true, "f463434037ae9968ceaaf315663d7b7d7b4eaaa1e1fc0c363e0b70917eb6ab0f"), looks := true }, kinds := [], alts := [], laidByText := true, laidKinds := [.data, .data, .data], laidTests := true, laidLooks := .later }
def SymindexKeepsCardSaid : Prop := Claim7.holds Tryz.pinned (.plain (OpenSpec.ofChange symindexKeepsSpec)) symindexKeepsCard

/-- THE TIED CARD OF 'arlinklaw08.SymindexNames'. -/
def symindexNamesCard : Claim7 := { stood := { row := symindexNamesRow, standIns := [], harness := (true, "f463434037ae9968ceaaf315663d7b7d7b4eaaa1e1fc0c363e0b70917eb6ab0f"), looks := true }, kinds := [], alts := [], laidByText := true, laidKinds := [.data, .data, .data], laidTests := true, laidLooks := .later }
def SymindexNamesCardSaid : Prop := Claim7.holds Tryz.pinned (.plain (OpenSpec.ofChange symindexNamesSpec)) symindexNamesCard

/-- THE TIED CARD OF 'arlinklaw05.ArwriteRoundTrip'. -/
def arwriteRoundTripCard : Claim7 := { stood := { row := arwriteRoundTripRow, standIns := [], harness := (true, "f463434037ae9968ceaaf315663d7b7d7b4eaaa1e1fc0c363e0b70917eb6ab0f"), looks := true }, kinds := [], alts := [], laidByText := true, laidKinds := [.data, .data, .data, .data, .pinned], laidTests := true, laidLooks := .later }
def ArwriteRoundTripCardSaid : Prop := Claim7.holds Tryz.pinned (.plain (OpenSpec.ofChange arwriteRoundTripSpec)) arwriteRoundTripCard

/-- THE TIED CARD OF 'arlinklaw05.ArwriteCanonical'. -/
def arwriteCanonicalCard : Claim7 := { stood := { row := arwriteCanonicalRow, standIns := [], harness := (true, "f463434037ae9968ceaaf315663d7b7d7b4eaaa1e1fc0c363e0b70917eb6ab0f"), looks := true }, kinds := [], alts := [], laidByText := true, laidKinds := [.data, .data, .data, .data, .pinned], laidTests := true, laidLooks := .later }
def ArwriteCanonicalCardSaid : Prop := Claim7.holds Tryz.pinned (.plain (OpenSpec.ofChange arwriteCanonicalSpec)) arwriteCanonicalCard

/-- THE TIED CARD OF 'arlinklaw08.SymindexComplete'. -/
def symindexCompleteCard : Claim7 := { stood := { row := symindexCompleteRow, standIns := [], harness := (true, "f463434037ae9968ceaaf315663d7b7d7b4eaaa1e1fc0c363e0b70917eb6ab0f"), looks := true }, kinds := [], alts := [], laidByText := true, laidKinds := [.data, .data, .data, .data, .pinned], laidTests := true, laidLooks := .later }
def SymindexCompleteCardSaid : Prop := Claim7.holds Tryz.pinned (.plain (OpenSpec.ofChange symindexCompleteSpec)) symindexCompleteCard

/-- THE SECOND FORM's CARD OF 'arlinklaw08.SymindexMatchesReference'. -/
def symindexMatchesReferenceUptoCard : Claim7 := { stood := { row := symindexMatchesReferenceUptoRow, standIns := [], harness := (true, "f463434037ae9968ceaaf315663d7b7d7b4eaaa1e1fc0c363e0b70917eb6ab0f"), looks := true }, kinds := [], alts := [], laidByText := true, laidKinds := [.data, .data, .data], laidTests := true, laidLooks := .later }
def SymindexMatchesReferenceUptoCardSaid : Prop := Claim7.holds Tryz.pinned (.plain (OpenSpec.upto symindexMatchesReferenceSpec)) symindexMatchesReferenceUptoCard

/-- THE SECOND FORM's CARD OF 'arlinklaw08.SymindexOffsets'. -/
def symindexOffsetsUptoCard : Claim7 := { stood := { row := symindexOffsetsUptoRow, standIns := [], harness := (true, "f463434037ae9968ceaaf315663d7b7d7b4eaaa1e1fc0c363e0b70917eb6ab0f"), looks := true }, kinds := [], alts := [], laidByText := true, laidKinds := [.data, .data, .data], laidTests := true, laidLooks := .later }
def SymindexOffsetsUptoCardSaid : Prop := Claim7.holds Tryz.pinned (.plain (OpenSpec.upto symindexOffsetsSpec)) symindexOffsetsUptoCard

/-- THE SECOND FORM's CARD OF 'arlinklaw08.SymindexKeeps'. -/
def symindexKeepsUptoCard : Claim7 := { stood := { row := symindexKeepsUptoRow, standIns := [], harness := (true, "f463434037ae9968ceaaf315663d7b7d7b4eaaa1e1fc0c363e0b70917eb6ab0f"), looks := true }, kinds := [], alts := [], laidByText := true, laidKinds := [.data, .data, .data], laidTests := true, laidLooks := .later }
def SymindexKeepsUptoCardSaid : Prop := Claim7.holds Tryz.pinned (.plain (OpenSpec.upto symindexKeepsSpec)) symindexKeepsUptoCard

/-- THE SECOND FORM's CARD OF 'arlinklaw08.SymindexNames'. -/
def symindexNamesUptoCard : Claim7 := { stood := { row := symindexNamesUptoRow, standIns := [], harness := (true, "f463434037ae9968ceaaf315663d7b7d7b4eaaa1e1fc0c363e0b70917eb6ab0f"), looks := true }, kinds := [], alts := [], laidByText := true, laidKinds := [.data, .data, .data], laidTests := true, laidLooks := .later }
def SymindexNamesUptoCardSaid : Prop := Claim7.holds Tryz.pinned (.plain (OpenSpec.upto symindexNamesSpec)) symindexNamesUptoCard

/-- THE SECOND FORM's CARD OF 'arlinklaw05.ArwriteRoundTrip'. -/
def arwriteRoundTripUptoCard : Claim7 := { stood := { row := arwriteRoundTripUptoRow, standIns := [], harness := (true, "f463434037ae9968ceaaf315663d7b7d7b4eaaa1e1fc0c363e0b70917eb6ab0f"), looks := true }, kinds := [], alts := [], laidByText := true, laidKinds := [.data, .data, .data, .data, .pinned], laidTests := true, laidLooks := .later }
def ArwriteRoundTripUptoCardSaid : Prop := Claim7.holds Tryz.pinned (.plain (OpenSpec.upto arwriteRoundTripSpec)) arwriteRoundTripUptoCard

/-- THE SECOND FORM's CARD OF 'arlinklaw05.ArwriteCanonical'. -/
def arwriteCanonicalUptoCard : Claim7 := { stood := { row := arwriteCanonicalUptoRow, standIns := [], harness := (true, "f463434037ae9968ceaaf315663d7b7d7b4eaaa1e1fc0c363e0b70917eb6ab0f"), looks := true }, kinds := [], alts := [], laidByText := true, laidKinds := [.data, .data, .data, .data, .pinned], laidTests := true, laidLooks := .later }
def ArwriteCanonicalUptoCardSaid : Prop := Claim7.holds Tryz.pinned (.plain (OpenSpec.upto arwriteCanonicalSpec)) arwriteCanonicalUptoCard

/-- THE SECOND FORM's CARD OF 'arlinklaw08.SymindexComplete'. -/
def symindexCompleteUptoCard : Claim7 := { stood := { row := symindexCompleteUptoRow, standIns := [], harness := (true, "f463434037ae9968ceaaf315663d7b7d7b4eaaa1e1fc0c363e0b70917eb6ab0f"), looks := true }, kinds := [], alts := [], laidByText := true, laidKinds := [.data, .data, .data, .data, .pinned], laidTests := true, laidLooks := .later }
def SymindexCompleteUptoCardSaid : Prop := Claim7.holds Tryz.pinned (.plain (OpenSpec.upto symindexCompleteSpec)) symindexCompleteUptoCard
end Rows
end Go.Proofs.YtcjdagpadnahfaaGreatDoor
