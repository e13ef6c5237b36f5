/-
  DERIVED. GIVEN WITH THE SEED: THE CARDS: each row of YtebjdgcnnonjoaaDoorRows.lean that lists a variable, with what it lists TIED to the program's text (the seventh form; the later family's looks); each row that meets fmt, with fmt's text TOLD by the authors' own Lean function (tested against real Go, not proved from fmt's source: count such statements apart). THE CARD IS WHAT COUNTS. Prove the row's statement (the work); the ties are given (YtebjdgcnnonjoaaDoorTie.lean); close each card by the builder's one call (the guide's Derived/Test/ToyasCard.lean, 'card_holds'). Laid BY PROGRAM, IN A SANDBOX (cutbox-door.mjs). By AI agents, Wed Nov 11 2026. No macro, syntax, notation, axiom, sorry.
-/
import Derived.Test.YtebjdgcnnonjoaaDoorRows
import GoSem.ClaimSeven
namespace Go.Proofs.YtebjdgcnnonjoaaDoor
namespace Rows

/-- THE TIED CARD OF 'arlinklaw25.MapfileMatchesReference'. -/
def mapfileMatchesReferenceCard : Claim7 := { stood := { row := mapfileMatchesReferenceRow, standIns := [], harness := (true, "389f8cfbcc1174d870f32d155b0b9132c6af1bb88763cd414c301860351fbf56"), looks := true }, kinds := [], alts := [], laidByText := true, laidKinds := [.data, .data, .data, .data, .sentinel, .sentinel, .widerDeep, .pinned], laidTests := true, laidLooks := .later }
def MapfileMatchesReferenceCardSaid : Prop := Claim7.holds Tryd.pinned (.plain (OpenSpec.ofChange mapfileMatchesReferenceSpec)) mapfileMatchesReferenceCard

/-- THE TIED CARD OF 'arlinklaw25.MapfileEscapes'. -/
def mapfileEscapesCard : Claim7 := { stood := { row := mapfileEscapesRow, standIns := [], harness := (true, "389f8cfbcc1174d870f32d155b0b9132c6af1bb88763cd414c301860351fbf56"), looks := true }, kinds := [], alts := [], laidByText := true, laidKinds := [.data, .data, .data, .data, .sentinel, .sentinel, .widerDeep, .pinned], laidTests := true, laidLooks := .later }
def MapfileEscapesCardSaid : Prop := Claim7.holds Tryd.pinned (.plain (OpenSpec.ofChange mapfileEscapesSpec)) mapfileEscapesCard

/-- THE TIED CARD OF 'arlinklaw25.MapfileCanonical'. -/
def mapfileCanonicalCard : Claim7 := { stood := { row := mapfileCanonicalRow, standIns := [], harness := (true, "389f8cfbcc1174d870f32d155b0b9132c6af1bb88763cd414c301860351fbf56"), looks := true }, kinds := [], alts := [], laidByText := true, laidKinds := [.data, .data, .data, .data, .sentinel, .sentinel, .widerDeep, .pinned], laidTests := true, laidLooks := .later }
def MapfileCanonicalCardSaid : Prop := Claim7.holds Tryd.pinned (.plain (OpenSpec.ofChange mapfileCanonicalSpec)) mapfileCanonicalCard

/-- THE TIED CARD OF 'arlinklaw25.MapfileAccepted'. -/
def mapfileAcceptedCard : Claim7 := { stood := { row := mapfileAcceptedRow, standIns := [], harness := (true, "389f8cfbcc1174d870f32d155b0b9132c6af1bb88763cd414c301860351fbf56"), looks := true }, kinds := [], alts := [], laidByText := true, laidKinds := [.data, .data, .data, .data, .sentinel, .sentinel, .widerDeep, .pinned], laidTests := true, laidLooks := .later }
def MapfileAcceptedCardSaid : Prop := Claim7.holds Tryd.pinned (.plain (OpenSpec.ofChange mapfileAcceptedSpec)) mapfileAcceptedCard

/-- THE TIED CARD OF 'arlinklaw25.MapfileLines'. -/
def mapfileLinesCard : Claim7 := { stood := { row := mapfileLinesRow, standIns := [], harness := (true, "389f8cfbcc1174d870f32d155b0b9132c6af1bb88763cd414c301860351fbf56"), looks := true }, kinds := [], alts := [], laidByText := true, laidKinds := [.data, .data, .data, .data, .sentinel, .sentinel, .widerDeep, .pinned], laidTests := true, laidLooks := .later }
def MapfileLinesCardSaid : Prop := Claim7.holds Tryd.pinned (.plain (OpenSpec.ofChange mapfileLinesSpec)) mapfileLinesCard

/-- THE SECOND FORM's CARD OF 'arlinklaw25.MapfileMatchesReference'. -/
def mapfileMatchesReferenceUptoCard : Claim7 := { stood := { row := mapfileMatchesReferenceUptoRow, standIns := [], harness := (true, "389f8cfbcc1174d870f32d155b0b9132c6af1bb88763cd414c301860351fbf56"), looks := true }, kinds := [], alts := [], laidByText := true, laidKinds := [.data, .data, .data, .data, .sentinel, .sentinel, .widerDeep, .pinned], laidTests := true, laidLooks := .later }
def MapfileMatchesReferenceUptoCardSaid : Prop := Claim7.holds Tryd.pinned (.plain (OpenSpec.upto mapfileMatchesReferenceSpec)) mapfileMatchesReferenceUptoCard

/-- THE SECOND FORM's CARD OF 'arlinklaw25.MapfileEscapes'. -/
def mapfileEscapesUptoCard : Claim7 := { stood := { row := mapfileEscapesUptoRow, standIns := [], harness := (true, "389f8cfbcc1174d870f32d155b0b9132c6af1bb88763cd414c301860351fbf56"), looks := true }, kinds := [], alts := [], laidByText := true, laidKinds := [.data, .data, .data, .data, .sentinel, .sentinel, .widerDeep, .pinned], laidTests := true, laidLooks := .later }
def MapfileEscapesUptoCardSaid : Prop := Claim7.holds Tryd.pinned (.plain (OpenSpec.upto mapfileEscapesSpec)) mapfileEscapesUptoCard

/-- THE SECOND FORM's CARD OF 'arlinklaw25.MapfileCanonical'. -/
def mapfileCanonicalUptoCard : Claim7 := { stood := { row := mapfileCanonicalUptoRow, standIns := [], harness := (true, "389f8cfbcc1174d870f32d155b0b9132c6af1bb88763cd414c301860351fbf56"), looks := true }, kinds := [], alts := [], laidByText := true, laidKinds := [.data, .data, .data, .data, .sentinel, .sentinel, .widerDeep, .pinned], laidTests := true, laidLooks := .later }
def MapfileCanonicalUptoCardSaid : Prop := Claim7.holds Tryd.pinned (.plain (OpenSpec.upto mapfileCanonicalSpec)) mapfileCanonicalUptoCard

/-- THE SECOND FORM's CARD OF 'arlinklaw25.MapfileAccepted'. -/
def mapfileAcceptedUptoCard : Claim7 := { stood := { row := mapfileAcceptedUptoRow, standIns := [], harness := (true, "389f8cfbcc1174d870f32d155b0b9132c6af1bb88763cd414c301860351fbf56"), looks := true }, kinds := [], alts := [], laidByText := true, laidKinds := [.data, .data, .data, .data, .sentinel, .sentinel, .widerDeep, .pinned], laidTests := true, laidLooks := .later }
def MapfileAcceptedUptoCardSaid : Prop := Claim7.holds Tryd.pinned (.plain (OpenSpec.upto mapfileAcceptedSpec)) mapfileAcceptedUptoCard

/-- THE SECOND FORM's CARD OF 'arlinklaw25.MapfileLines'. -/
def mapfileLinesUptoCard : Claim7 := { stood := { row := mapfileLinesUptoRow, standIns := [], harness := (true, "389f8cfbcc1174d870f32d155b0b9132c6af1bb88763cd414c301860351fbf56"), looks := true }, kinds := [], alts := [], laidByText := true, laidKinds := [.data, .data, .data, .data, .sentinel, .sentinel, .widerDeep, .pinned], laidTests := true, laidLooks := .later }
def MapfileLinesUptoCardSaid : Prop := Claim7.holds Tryd.pinned (.plain (OpenSpec.upto mapfileLinesSpec)) mapfileLinesUptoCard
end Rows
end Go.Proofs.YtebjdgcnnonjoaaDoor
