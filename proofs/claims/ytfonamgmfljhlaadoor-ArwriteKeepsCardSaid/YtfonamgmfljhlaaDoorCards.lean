/-
  DERIVED. GIVEN WITH THE SEED: THE CARDS: each row of YtfonamgmfljhlaaDoorRows.lean that lists a variable, with what it lists TIED to the program's text (the seventh form; the later family's looks); each row that meets fmt, with fmt's text TOLD by the authors' own Lean function (tested against real Go, not proved from fmt's source: count such statements apart). THE CARD IS WHAT COUNTS. Prove the row's statement (the work); the ties are given (YtfonamgmfljhlaaDoorTie.lean); close each card by the builder's one call (the guide's Derived/Test/ToyasCard.lean, 'card_holds'). Laid BY PROGRAM, IN A SANDBOX (cutbox-door.mjs). By AI agents, Wed Nov 11 2026. No macro, syntax, notation, axiom, sorry.
-/
import Derived.Test.YtfonamgmfljhlaaDoorRows
import GoSem.ClaimSeven
namespace Go.Proofs.YtfonamgmfljhlaaDoor
namespace Rows

/-- THE TIED CARD OF 'arlinklaw05.ArwriteKeeps'. -/
def arwriteKeepsCard : Claim7 := { stood := { row := arwriteKeepsRow, standIns := [], harness := (true, "62e39ad83e21e1831a8f3368b23f75f5bfda397e411a9800a45f278a3c72374a"), looks := false }, kinds := [], alts := [], laidByText := true, laidKinds := [.data, .data, .data], laidTests := true, laidLooks := .later }
def ArwriteKeepsCardSaid : Prop := Claim7.holds Tryd.pinned (.plain (OpenSpec.ofChange arwriteKeepsSpec)) arwriteKeepsCard

/-- THE SECOND FORM's CARD OF 'arlinklaw05.ArwriteKeeps'. -/
def arwriteKeepsUptoCard : Claim7 := { stood := { row := arwriteKeepsUptoRow, standIns := [], harness := (true, "62e39ad83e21e1831a8f3368b23f75f5bfda397e411a9800a45f278a3c72374a"), looks := false }, kinds := [], alts := [], laidByText := true, laidKinds := [.data, .data, .data], laidTests := true, laidLooks := .later }
def ArwriteKeepsUptoCardSaid : Prop := Claim7.holds Tryd.pinned (.plain (OpenSpec.upto arwriteKeepsSpec)) arwriteKeepsUptoCard
end Rows
end Go.Proofs.YtfonamgmfljhlaaDoor
