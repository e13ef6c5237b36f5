/-
  DERIVED. GIVEN WITH THE SEED: THE CARDS: each row of YtoipkcljmlfobaaDoorRows.lean that lists a variable, with what it lists TIED to the program's text (the seventh form; the later family's looks); each row that meets fmt, with fmt's text TOLD by the authors' own Lean function (tested against real Go, not proved from fmt's source: count such statements apart). THE CARD IS WHAT COUNTS. Prove the row's statement (the work); the ties are given (YtoipkcljmlfobaaDoorTie.lean); close each card by the builder's one call (the guide's Derived/Test/ToyasCard.lean, 'card_holds'). Laid BY PROGRAM, IN A SANDBOX (cutbox-door.mjs). By AI agents, Wed Nov 11 2026. No macro, syntax, notation, axiom, sorry.
-/
import Derived.Test.YtoipkcljmlfobaaDoorRows
import GoSem.ClaimSeven
namespace Go.Proofs.YtoipkcljmlfobaaDoor
namespace Rows

/-- THE TIED CARD OF 'arlinklaw17.CmdlineBrackets'. -/
def cmdlineBracketsCard : Claim7 := { stood := { row := cmdlineBracketsRow, standIns := [], harness := (true, "bf650ec83efe4fab6d1c4f6a23b89a226fb64483f0f1d44554f59b1175f781d8"), looks := false }, kinds := [], alts := [], laidByText := true, laidKinds := [.widerDeep, .widerDeep], laidTests := true, laidLooks := .later }
def CmdlineBracketsCardSaid : Prop := Claim7.holds Tryd.pinned (.plain (OpenSpec.ofChange cmdlineBracketsSpec)) cmdlineBracketsCard

/-- THE TIED CARD OF 'arlinklaw17.CmdlineConcat'. -/
def cmdlineConcatCard : Claim7 := { stood := { row := cmdlineConcatRow, standIns := [], harness := (true, "bf650ec83efe4fab6d1c4f6a23b89a226fb64483f0f1d44554f59b1175f781d8"), looks := false }, kinds := [], alts := [], laidByText := true, laidKinds := [.widerDeep, .widerDeep], laidTests := true, laidLooks := .later }
def CmdlineConcatCardSaid : Prop := Claim7.holds Tryd.pinned (.plain (OpenSpec.ofChange cmdlineConcatSpec)) cmdlineConcatCard

/-- THE TIED CARD OF 'arlinklaw17.CmdlineKeeps'. -/
def cmdlineKeepsCard : Claim7 := { stood := { row := cmdlineKeepsRow, standIns := [], harness := (true, "bf650ec83efe4fab6d1c4f6a23b89a226fb64483f0f1d44554f59b1175f781d8"), looks := false }, kinds := [], alts := [], laidByText := true, laidKinds := [.widerDeep, .widerDeep], laidTests := true, laidLooks := .later }
def CmdlineKeepsCardSaid : Prop := Claim7.holds Tryd.pinned (.plain (OpenSpec.ofChange cmdlineKeepsSpec)) cmdlineKeepsCard

/-- THE TIED CARD OF 'arlinklaw17.CmdlineMatchesReference'. -/
def cmdlineMatchesReferenceCard : Claim7 := { stood := { row := cmdlineMatchesReferenceRow, standIns := [], harness := (true, "bf650ec83efe4fab6d1c4f6a23b89a226fb64483f0f1d44554f59b1175f781d8"), looks := false }, kinds := [], alts := [], laidByText := true, laidKinds := [.widerDeep, .widerDeep], laidTests := true, laidLooks := .later }
def CmdlineMatchesReferenceCardSaid : Prop := Claim7.holds Tryd.pinned (.plain (OpenSpec.ofChange cmdlineMatchesReferenceSpec)) cmdlineMatchesReferenceCard

/-- THE TIED CARD OF 'arlinklaw17.CmdlineRoundTrip'. -/
def cmdlineRoundTripCard : Claim7 := { stood := { row := cmdlineRoundTripRow, standIns := [], harness := (true, "bf650ec83efe4fab6d1c4f6a23b89a226fb64483f0f1d44554f59b1175f781d8"), looks := false }, kinds := [], alts := [], laidByText := true, laidKinds := [.widerDeep, .widerDeep], laidTests := true, laidLooks := .later }
def CmdlineRoundTripCardSaid : Prop := Claim7.holds Tryd.pinned (.plain (OpenSpec.ofChange cmdlineRoundTripSpec)) cmdlineRoundTripCard

/-- THE SECOND FORM's CARD OF 'arlinklaw17.CmdlineBrackets'. -/
def cmdlineBracketsUptoCard : Claim7 := { stood := { row := cmdlineBracketsUptoRow, standIns := [], harness := (true, "bf650ec83efe4fab6d1c4f6a23b89a226fb64483f0f1d44554f59b1175f781d8"), looks := false }, kinds := [], alts := [], laidByText := true, laidKinds := [.widerDeep, .widerDeep], laidTests := true, laidLooks := .later }
def CmdlineBracketsUptoCardSaid : Prop := Claim7.holds Tryd.pinned (.plain (OpenSpec.upto cmdlineBracketsSpec)) cmdlineBracketsUptoCard

/-- THE SECOND FORM's CARD OF 'arlinklaw17.CmdlineConcat'. -/
def cmdlineConcatUptoCard : Claim7 := { stood := { row := cmdlineConcatUptoRow, standIns := [], harness := (true, "bf650ec83efe4fab6d1c4f6a23b89a226fb64483f0f1d44554f59b1175f781d8"), looks := false }, kinds := [], alts := [], laidByText := true, laidKinds := [.widerDeep, .widerDeep], laidTests := true, laidLooks := .later }
def CmdlineConcatUptoCardSaid : Prop := Claim7.holds Tryd.pinned (.plain (OpenSpec.upto cmdlineConcatSpec)) cmdlineConcatUptoCard

/-- THE SECOND FORM's CARD OF 'arlinklaw17.CmdlineKeeps'. -/
def cmdlineKeepsUptoCard : Claim7 := { stood := { row := cmdlineKeepsUptoRow, standIns := [], harness := (true, "bf650ec83efe4fab6d1c4f6a23b89a226fb64483f0f1d44554f59b1175f781d8"), looks := false }, kinds := [], alts := [], laidByText := true, laidKinds := [.widerDeep, .widerDeep], laidTests := true, laidLooks := .later }
def CmdlineKeepsUptoCardSaid : Prop := Claim7.holds Tryd.pinned (.plain (OpenSpec.upto cmdlineKeepsSpec)) cmdlineKeepsUptoCard

/-- THE SECOND FORM's CARD OF 'arlinklaw17.CmdlineMatchesReference'. -/
def cmdlineMatchesReferenceUptoCard : Claim7 := { stood := { row := cmdlineMatchesReferenceUptoRow, standIns := [], harness := (true, "bf650ec83efe4fab6d1c4f6a23b89a226fb64483f0f1d44554f59b1175f781d8"), looks := false }, kinds := [], alts := [], laidByText := true, laidKinds := [.widerDeep, .widerDeep], laidTests := true, laidLooks := .later }
def CmdlineMatchesReferenceUptoCardSaid : Prop := Claim7.holds Tryd.pinned (.plain (OpenSpec.upto cmdlineMatchesReferenceSpec)) cmdlineMatchesReferenceUptoCard

/-- THE SECOND FORM's CARD OF 'arlinklaw17.CmdlineRoundTrip'. -/
def cmdlineRoundTripUptoCard : Claim7 := { stood := { row := cmdlineRoundTripUptoRow, standIns := [], harness := (true, "bf650ec83efe4fab6d1c4f6a23b89a226fb64483f0f1d44554f59b1175f781d8"), looks := false }, kinds := [], alts := [], laidByText := true, laidKinds := [.widerDeep, .widerDeep], laidTests := true, laidLooks := .later }
def CmdlineRoundTripUptoCardSaid : Prop := Claim7.holds Tryd.pinned (.plain (OpenSpec.upto cmdlineRoundTripSpec)) cmdlineRoundTripUptoCard
end Rows
end Go.Proofs.YtoipkcljmlfobaaDoor
