/-
  DERIVED. GIVEN WITH THE SEED: THE CARDS: each row of YtkbklfodaemkoaaDoorRows.lean that lists a variable, with what it lists TIED to the program's text (the seventh form; the later family's looks); each row that meets fmt, with fmt's text TOLD by the authors' own Lean function (tested against real Go, not proved from fmt's source: count such statements apart). THE CARD IS WHAT COUNTS. Prove the row's statement (the work); the ties are given (YtkbklfodaemkoaaDoorTie.lean); close each card by the builder's one call (the guide's Derived/Test/ToyasCard.lean, 'card_holds'). Laid BY PROGRAM, IN A SANDBOX (cutbox-door.mjs). By AI agents, Wed Nov 11 2026. No macro, syntax, notation, axiom, sorry.
-/
import Derived.Test.YtkbklfodaemkoaaDoorRows
import GoSem.ClaimSeven
namespace Go.Proofs.YtkbklfodaemkoaaDoor
namespace Rows

/-- THE TIED CARD OF 'arlinklaw05.ArwriteMatchesReference'. -/
def arwriteMatchesReferenceCard : Claim7 := { stood := { row := arwriteMatchesReferenceRow, standIns := [], harness := (true, "e71bdd4a64025239ffe3a50cebeb532569b9d8715588fd984b1edff4121d2f15"), looks := false }, kinds := [], alts := [], laidByText := true, laidKinds := [.data, .data, .data], laidTests := true, laidLooks := .later }
def ArwriteMatchesReferenceCardSaid : Prop := Claim7.holds Tryd.pinned (.plain (OpenSpec.ofChange arwriteMatchesReferenceSpec)) arwriteMatchesReferenceCard

/-- THE TIED CARD OF 'arlinklaw05.ArwriteFits'. -/
def arwriteFitsCard : Claim7 := { stood := { row := arwriteFitsRow, standIns := [], harness := (true, "e71bdd4a64025239ffe3a50cebeb532569b9d8715588fd984b1edff4121d2f15"), looks := false }, kinds := [], alts := [], laidByText := true, laidKinds := [.data, .data, .data], laidTests := true, laidLooks := .later }
def ArwriteFitsCardSaid : Prop := Claim7.holds Tryd.pinned (.plain (OpenSpec.ofChange arwriteFitsSpec)) arwriteFitsCard

/-- THE TIED CARD OF 'arlinklaw05.ArwriteKeeps'. -/
def arwriteKeepsCard : Claim7 := { stood := { row := arwriteKeepsRow, standIns := [], harness := (true, "e71bdd4a64025239ffe3a50cebeb532569b9d8715588fd984b1edff4121d2f15"), looks := false }, kinds := [], alts := [], laidByText := true, laidKinds := [.data, .data, .data], laidTests := true, laidLooks := .later }
def ArwriteKeepsCardSaid : Prop := Claim7.holds Tryd.pinned (.plain (OpenSpec.ofChange arwriteKeepsSpec)) arwriteKeepsCard

/-- THE TIED CARD OF 'arlinklaw05.ArwriteOffsets'. -/
def arwriteOffsetsCard : Claim7 := { stood := { row := arwriteOffsetsRow, standIns := [], harness := (true, "e71bdd4a64025239ffe3a50cebeb532569b9d8715588fd984b1edff4121d2f15"), looks := false }, kinds := [], alts := [], laidByText := true, laidKinds := [.data, .data, .data], laidTests := true, laidLooks := .later }
def ArwriteOffsetsCardSaid : Prop := Claim7.holds Tryd.pinned (.plain (OpenSpec.ofChange arwriteOffsetsSpec)) arwriteOffsetsCard

/-- THE SECOND FORM's CARD OF 'arlinklaw05.ArwriteMatchesReference'. -/
def arwriteMatchesReferenceUptoCard : Claim7 := { stood := { row := arwriteMatchesReferenceUptoRow, standIns := [], harness := (true, "e71bdd4a64025239ffe3a50cebeb532569b9d8715588fd984b1edff4121d2f15"), looks := false }, kinds := [], alts := [], laidByText := true, laidKinds := [.data, .data, .data], laidTests := true, laidLooks := .later }
def ArwriteMatchesReferenceUptoCardSaid : Prop := Claim7.holds Tryd.pinned (.plain (OpenSpec.upto arwriteMatchesReferenceSpec)) arwriteMatchesReferenceUptoCard

/-- THE SECOND FORM's CARD OF 'arlinklaw05.ArwriteFits'. -/
def arwriteFitsUptoCard : Claim7 := { stood := { row := arwriteFitsUptoRow, standIns := [], harness := (true, "e71bdd4a64025239ffe3a50cebeb532569b9d8715588fd984b1edff4121d2f15"), looks := false }, kinds := [], alts := [], laidByText := true, laidKinds := [.data, .data, .data], laidTests := true, laidLooks := .later }
def ArwriteFitsUptoCardSaid : Prop := Claim7.holds Tryd.pinned (.plain (OpenSpec.upto arwriteFitsSpec)) arwriteFitsUptoCard

/-- THE SECOND FORM's CARD OF 'arlinklaw05.ArwriteKeeps'. -/
def arwriteKeepsUptoCard : Claim7 := { stood := { row := arwriteKeepsUptoRow, standIns := [], harness := (true, "e71bdd4a64025239ffe3a50cebeb532569b9d8715588fd984b1edff4121d2f15"), looks := false }, kinds := [], alts := [], laidByText := true, laidKinds := [.data, .data, .data], laidTests := true, laidLooks := .later }
def ArwriteKeepsUptoCardSaid : Prop := Claim7.holds Tryd.pinned (.plain (OpenSpec.upto arwriteKeepsSpec)) arwriteKeepsUptoCard

/-- THE SECOND FORM's CARD OF 'arlinklaw05.ArwriteOffsets'. -/
def arwriteOffsetsUptoCard : Claim7 := { stood := { row := arwriteOffsetsUptoRow, standIns := [], harness := (true, "e71bdd4a64025239ffe3a50cebeb532569b9d8715588fd984b1edff4121d2f15"), looks := false }, kinds := [], alts := [], laidByText := true, laidKinds := [.data, .data, .data], laidTests := true, laidLooks := .later }
def ArwriteOffsetsUptoCardSaid : Prop := Claim7.holds Tryd.pinned (.plain (OpenSpec.upto arwriteOffsetsSpec)) arwriteOffsetsUptoCard
end Rows
end Go.Proofs.YtkbklfodaemkoaaDoor
