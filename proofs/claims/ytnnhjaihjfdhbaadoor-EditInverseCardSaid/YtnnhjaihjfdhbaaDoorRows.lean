/-
  NARROWER THAN 'FOR EVERY INPUT', by the rows' own cells (each row's printed sentence says how): EditReplaces: laid · EditMoves: laid · EditInverse: laid · EditModel: laid · EditKeeps: laid.
  DERIVED. THE GIVEN ROWS OF THIS SEAT. 5 by the template 'for every input the law returns true; each argument reads behind the call as it read before'; 0 by the template 'total and deterministic' (their statements: YtnnhjaihjfdhbaaDoorTotals.lean).
  GIVEN WITH THE SEED: the statements are not yours to turn. If you find one false, say at which input.
  Laid BY PROGRAM, IN A SANDBOX (cutbox-rows.mjs): the forced cells as the released guide's own fill.sh prints them over the translation 50521c3656beb5ea… (all of the seat's roots in one cut). By AI agents, Wed Nov 11 2026. No macro, syntax, notation, axiom, sorry.
-/
import Derived.Test.YtnnhjaihjfdhbaaDoorChecked
import GoSem.Claim
import GoSem.ClaimJoined
import GoSem.ClaimMapViews
import Derived.JoinedTies
import Derived.KernelRfl
namespace Go.Proofs.YtnnhjaihjfdhbaaDoor
/- THE CELL 'sum', in the pinned program and in every row, IS THE sha256 OF THE DUMP (.gsa) THAT YtnnhjaihjfdhbaaDoorProg.lean LOADS. Nothing in Lean hashes anything: it is a label: what it is worth is what the hold of that sum in a sandbox is worth. -/
noncomputable def Tryd.pinned : Pinned := { name := "ytnnhjaihjfdhbaadoor", sum := "50521c3656beb5eae558d933504a9eb94fd5f412598cb7d53850357d5fe5f9bb", checked := Tryd.checked }
namespace Rows
def none {H : Type} : Left H := { results := [], args := [] }

/- WHAT THE LISTED PACKAGE-LEVEL VARIABLES READ AS WHEN THE CALL BEGINS. Each datum BY PROGRAM (the guide's laid-datum.mjs) off the statement by which the dump's own 'gosem.cut.vars' lays the variable. In a bare row this is a premise. The card (YtnnhjaihjfdhbaaDoorCards.lean) ties it to the program's text. -/
def laid_arlink_edit_modes {H : Type} : DataW H := .iface "func table" (.agg [.agg [.lit (.bool false), .iface "func" (.lit (.string [97, 114, 108, 105, 110, 107, 47, 101, 100, 105, 116, 46, 109, 111, 100, 101, 115, 36, 49]))], .agg [.lit (.bool true), .iface "func" (.lit (.string [97, 114, 108, 105, 110, 107, 47, 101, 100, 105, 116, 46, 109, 111, 100, 101, 115, 36, 50]))], .agg [.lit (.bool true), .iface "func" (.lit (.string [97, 114, 108, 105, 110, 107, 47, 101, 100, 105, 116, 46, 109, 111, 100, 101, 115, 36, 51]))]])

/-- 'arlinklaw10.EditReplaces': WHATEVER THE INPUT: true; the input reads as it did. -/
def editReplacesSpec : ChangeSpec := { name := "editReplaces", fn := fun _ => fun
  | [d1, d2, d3] => { results := [.lit (.bool true)], args := [d1, d2, d3] }
  | _ => none }
def editReplacesRow : OpenClaim := { program := "ytnnhjaihjfdhbaadoor", sum := "50521c3656beb5eae558d933504a9eb94fd5f412598cb7d53850357d5fe5f9bb", func := "arlink/arlinklaw10.EditReplaces", spec := "editReplaces", inPlace := ["slices.overlaps[arlink/api.Member]"], unfollowed := true, recurses := true, named := ["arlink/edit.modes"], apart := false, laid := [("arlink/edit.modes", laid_arlink_edit_modes)] }
def EditReplacesSaid : Prop := editReplacesRow.holds Tryd.pinned (OpenSpec.ofChange editReplacesSpec)

/-- ITS FALSE NEIGHBOUR: 'it returns false'. Refute it at one input. -/
def editReplacesWrong : ChangeSpec := { name := "editReplaces", fn := fun _ => fun
  | [d1, d2, d3] => { results := [.lit (.bool false)], args := [d1, d2, d3] }
  | _ => none }
def EditReplacesWrongFalsely : Prop := editReplacesRow.holds Tryd.pinned (OpenSpec.ofChange editReplacesWrong)

/-- 'arlinklaw10.EditMoves': WHATEVER THE INPUT: true; the input reads as it did. -/
def editMovesSpec : ChangeSpec := { name := "editMoves", fn := fun _ => fun
  | [d1, d2, d3] => { results := [.lit (.bool true)], args := [d1, d2, d3] }
  | _ => none }
def editMovesRow : OpenClaim := { program := "ytnnhjaihjfdhbaadoor", sum := "50521c3656beb5eae558d933504a9eb94fd5f412598cb7d53850357d5fe5f9bb", func := "arlink/arlinklaw10.EditMoves", spec := "editMoves", inPlace := ["slices.overlaps[arlink/api.Member]"], unfollowed := true, recurses := true, named := ["arlink/edit.modes"], apart := false, laid := [("arlink/edit.modes", laid_arlink_edit_modes)] }
def EditMovesSaid : Prop := editMovesRow.holds Tryd.pinned (OpenSpec.ofChange editMovesSpec)

/-- ITS FALSE NEIGHBOUR: 'it returns false'. Refute it at one input. -/
def editMovesWrong : ChangeSpec := { name := "editMoves", fn := fun _ => fun
  | [d1, d2, d3] => { results := [.lit (.bool false)], args := [d1, d2, d3] }
  | _ => none }
def EditMovesWrongFalsely : Prop := editMovesRow.holds Tryd.pinned (OpenSpec.ofChange editMovesWrong)

/-- 'arlinklaw10.EditInverse': WHATEVER THE INPUT: true; the input reads as it did. -/
def editInverseSpec : ChangeSpec := { name := "editInverse", fn := fun _ => fun
  | [d1, d2, d3] => { results := [.lit (.bool true)], args := [d1, d2, d3] }
  | _ => none }
def editInverseRow : OpenClaim := { program := "ytnnhjaihjfdhbaadoor", sum := "50521c3656beb5eae558d933504a9eb94fd5f412598cb7d53850357d5fe5f9bb", func := "arlink/arlinklaw10.EditInverse", spec := "editInverse", inPlace := ["slices.overlaps[arlink/api.Member]"], unfollowed := true, recurses := true, named := ["arlink/edit.modes"], apart := false, laid := [("arlink/edit.modes", laid_arlink_edit_modes)] }
def EditInverseSaid : Prop := editInverseRow.holds Tryd.pinned (OpenSpec.ofChange editInverseSpec)

/-- ITS FALSE NEIGHBOUR: 'it returns false'. Refute it at one input. -/
def editInverseWrong : ChangeSpec := { name := "editInverse", fn := fun _ => fun
  | [d1, d2, d3] => { results := [.lit (.bool false)], args := [d1, d2, d3] }
  | _ => none }
def EditInverseWrongFalsely : Prop := editInverseRow.holds Tryd.pinned (OpenSpec.ofChange editInverseWrong)

/-- 'arlinklaw10.EditModel': WHATEVER THE INPUT: true; the input reads as it did. -/
def editModelSpec : ChangeSpec := { name := "editModel", fn := fun _ => fun
  | [d1, d2, d3, d4] => { results := [.lit (.bool true)], args := [d1, d2, d3, d4] }
  | _ => none }
def editModelRow : OpenClaim := { program := "ytnnhjaihjfdhbaadoor", sum := "50521c3656beb5eae558d933504a9eb94fd5f412598cb7d53850357d5fe5f9bb", func := "arlink/arlinklaw10.EditModel", spec := "editModel", inPlace := ["slices.overlaps[arlink/api.Member]"], unfollowed := true, recurses := true, named := ["arlink/edit.modes"], apart := false, laid := [("arlink/edit.modes", laid_arlink_edit_modes)] }
def EditModelSaid : Prop := editModelRow.holds Tryd.pinned (OpenSpec.ofChange editModelSpec)

/-- ITS FALSE NEIGHBOUR: 'it returns false'. Refute it at one input. -/
def editModelWrong : ChangeSpec := { name := "editModel", fn := fun _ => fun
  | [d1, d2, d3, d4] => { results := [.lit (.bool false)], args := [d1, d2, d3, d4] }
  | _ => none }
def EditModelWrongFalsely : Prop := editModelRow.holds Tryd.pinned (OpenSpec.ofChange editModelWrong)

/-- 'arlinklaw10.EditKeeps': WHATEVER THE INPUT: true; the input reads as it did. -/
def editKeepsSpec : ChangeSpec := { name := "editKeeps", fn := fun _ => fun
  | [d1, d2, d3, d4] => { results := [.lit (.bool true)], args := [d1, d2, d3, d4] }
  | _ => none }
def editKeepsRow : OpenClaim := { program := "ytnnhjaihjfdhbaadoor", sum := "50521c3656beb5eae558d933504a9eb94fd5f412598cb7d53850357d5fe5f9bb", func := "arlink/arlinklaw10.EditKeeps", spec := "editKeeps", inPlace := ["slices.overlaps[arlink/api.Member]"], unfollowed := true, recurses := true, named := ["arlink/edit.modes"], apart := false, laid := [("arlink/edit.modes", laid_arlink_edit_modes)] }
def EditKeepsSaid : Prop := editKeepsRow.holds Tryd.pinned (OpenSpec.ofChange editKeepsSpec)

/-- ITS FALSE NEIGHBOUR: 'it returns false'. Refute it at one input. -/
def editKeepsWrong : ChangeSpec := { name := "editKeeps", fn := fun _ => fun
  | [d1, d2, d3, d4] => { results := [.lit (.bool false)], args := [d1, d2, d3, d4] }
  | _ => none }
def EditKeepsWrongFalsely : Prop := editKeepsRow.holds Tryd.pinned (OpenSpec.ofChange editKeepsWrong)

/- THE SECOND FORM. 'bulk': how many values and letters a reading holds, each counted each time it is reached (what is shared counts as often as it is met; a slice's spare places count too). A statement '..UptoSaid' is the law's where the arguments, and the package variables that the reading takes, are together of bulk at most 1048576: NARROWER than '..Said'. Prove '..Said' where nothing that the law and all that it calls make is longer than what came in: it says more and counts as full. Else prove '..UptoSaid'. A law counts once. -/
mutual
def uptoBulk {H : Type} : DataW H → Nat
  | .lit (.string bytes) => bytes.length + 1
  | .lit _ => 1
  | .nil => 1
  | .ptr d => uptoBulk d + 1
  | .slice elems spare => uptoBulkAll elems + uptoBulkAll spare + 1
  | .agg parts => uptoBulkAll parts + 1
  | .iface _ d => uptoBulk d + 1
  | .map entries => uptoBulkEntries entries + 1
  | .held _ => 1
def uptoBulkAll {H : Type} : List (DataW H) → Nat
  | [] => 0
  | d :: r => uptoBulk d + uptoBulkAll r
def uptoBulkEntries {H : Type} : List (Lit × DataW H) → Nat
  | [] => 0
  | x :: r => uptoBulkEntry x + uptoBulkEntries r
def uptoBulkEntry {H : Type} : Lit × DataW H → Nat
  | (.string bytes, d) => bytes.length + uptoBulk d + 1
  | (_, d) => uptoBulk d + 1
 end
def uptoSmall : (H : Type) → List (DataW H) → Bool := fun _ ds => decide (uptoBulkAll ds ≤ 1048576)
def OpenSpec.upto (s : _root_.Go.ChangeSpec) : _root_.Go.OpenSpec := { _root_.Go.OpenSpec.ofChange s with cond := some uptoSmall }

/-- 'arlinklaw10.EditReplaces', WHERE WHAT IT READS IS OF BULK AT MOST 1048576: true; the input reads as it did. -/
def editReplacesUptoRow : OpenClaim := { program := "ytnnhjaihjfdhbaadoor", sum := "50521c3656beb5eae558d933504a9eb94fd5f412598cb7d53850357d5fe5f9bb", func := "arlink/arlinklaw10.EditReplaces", spec := "editReplaces", inPlace := ["slices.overlaps[arlink/api.Member]"], unfollowed := true, recurses := true, named := ["arlink/edit.modes"], apart := false, laid := [("arlink/edit.modes", laid_arlink_edit_modes)], narrowed := true }
def EditReplacesUptoSaid : Prop := editReplacesUptoRow.holds Tryd.pinned (OpenSpec.upto editReplacesSpec)

/-- 'arlinklaw10.EditMoves', WHERE WHAT IT READS IS OF BULK AT MOST 1048576: true; the input reads as it did. -/
def editMovesUptoRow : OpenClaim := { program := "ytnnhjaihjfdhbaadoor", sum := "50521c3656beb5eae558d933504a9eb94fd5f412598cb7d53850357d5fe5f9bb", func := "arlink/arlinklaw10.EditMoves", spec := "editMoves", inPlace := ["slices.overlaps[arlink/api.Member]"], unfollowed := true, recurses := true, named := ["arlink/edit.modes"], apart := false, laid := [("arlink/edit.modes", laid_arlink_edit_modes)], narrowed := true }
def EditMovesUptoSaid : Prop := editMovesUptoRow.holds Tryd.pinned (OpenSpec.upto editMovesSpec)

/-- 'arlinklaw10.EditInverse', WHERE WHAT IT READS IS OF BULK AT MOST 1048576: true; the input reads as it did. -/
def editInverseUptoRow : OpenClaim := { program := "ytnnhjaihjfdhbaadoor", sum := "50521c3656beb5eae558d933504a9eb94fd5f412598cb7d53850357d5fe5f9bb", func := "arlink/arlinklaw10.EditInverse", spec := "editInverse", inPlace := ["slices.overlaps[arlink/api.Member]"], unfollowed := true, recurses := true, named := ["arlink/edit.modes"], apart := false, laid := [("arlink/edit.modes", laid_arlink_edit_modes)], narrowed := true }
def EditInverseUptoSaid : Prop := editInverseUptoRow.holds Tryd.pinned (OpenSpec.upto editInverseSpec)

/-- 'arlinklaw10.EditModel', WHERE WHAT IT READS IS OF BULK AT MOST 1048576: true; the input reads as it did. -/
def editModelUptoRow : OpenClaim := { program := "ytnnhjaihjfdhbaadoor", sum := "50521c3656beb5eae558d933504a9eb94fd5f412598cb7d53850357d5fe5f9bb", func := "arlink/arlinklaw10.EditModel", spec := "editModel", inPlace := ["slices.overlaps[arlink/api.Member]"], unfollowed := true, recurses := true, named := ["arlink/edit.modes"], apart := false, laid := [("arlink/edit.modes", laid_arlink_edit_modes)], narrowed := true }
def EditModelUptoSaid : Prop := editModelUptoRow.holds Tryd.pinned (OpenSpec.upto editModelSpec)

/-- 'arlinklaw10.EditKeeps', WHERE WHAT IT READS IS OF BULK AT MOST 1048576: true; the input reads as it did. -/
def editKeepsUptoRow : OpenClaim := { program := "ytnnhjaihjfdhbaadoor", sum := "50521c3656beb5eae558d933504a9eb94fd5f412598cb7d53850357d5fe5f9bb", func := "arlink/arlinklaw10.EditKeeps", spec := "editKeeps", inPlace := ["slices.overlaps[arlink/api.Member]"], unfollowed := true, recurses := true, named := ["arlink/edit.modes"], apart := false, laid := [("arlink/edit.modes", laid_arlink_edit_modes)], narrowed := true }
def EditKeepsUptoSaid : Prop := editKeepsUptoRow.holds Tryd.pinned (OpenSpec.upto editKeepsSpec)

end Rows
end Go.Proofs.YtnnhjaihjfdhbaaDoor
