/-
  NARROWER THAN 'FOR EVERY INPUT', by the rows' own cells (each row's printed sentence says how): CmdlineBrackets: laid · CmdlineConcat: laid · CmdlineKeeps: laid · CmdlineMatchesReference: laid · CmdlineRoundTrip: laid.
  DERIVED. THE GIVEN ROWS OF THIS SEAT. 5 by the template 'for every input the law returns true; each argument reads behind the call as it read before'; 0 by the template 'total and deterministic' (their statements: YtoipkcljmlfobaaDoorTotals.lean).
  GIVEN WITH THE SEED: the statements are not yours to turn. If you find one false, say at which input.
  Laid BY PROGRAM, IN A SANDBOX (cutbox-rows.mjs): the forced cells as the released guide's own fill.sh prints them over the translation 06839324093db294… (all of the seat's roots in one cut). By AI agents, Wed Nov 11 2026. No macro, syntax, notation, axiom, sorry.
-/
import Derived.Test.YtoipkcljmlfobaaDoorChecked
import GoSem.Claim
import GoSem.ClaimJoined
import GoSem.ClaimMapViews
import Derived.JoinedTies
import Derived.KernelRfl
namespace Go.Proofs.YtoipkcljmlfobaaDoor
/- THE CELL 'sum', in the pinned program and in every row, IS THE sha256 OF THE DUMP (.gsa) THAT YtoipkcljmlfobaaDoorProg.lean LOADS. Nothing in Lean hashes anything: it is a label: what it is worth is what the hold of that sum in a sandbox is worth. -/
noncomputable def Tryd.pinned : Pinned := { name := "ytoipkcljmlfobaadoor", sum := "06839324093db29491de87abb4b1a50a9c70ed57472d10445eaa369cbe005530", checked := Tryd.checked }
namespace Rows
def none {H : Type} : Left H := { results := [], args := [] }

/- WHAT THE LISTED PACKAGE-LEVEL VARIABLES READ AS WHEN THE CALL BEGINS. Each datum BY PROGRAM (the guide's laid-datum.mjs) off the statement by which the dump's own 'gosem.cut.vars' lays the variable. In a bare row this is a premise. The card (YtoipkcljmlfobaaDoorCards.lean) ties it to the program's text. -/
def laid_arlink_cmdline_begins {H : Type} : DataW H := .slice [.lit (.string [45, 40]), .lit (.string [45, 45, 115, 116, 97, 114, 116, 45, 103, 114, 111, 117, 112])] []
def laid_arlink_cmdline_ends {H : Type} : DataW H := .slice [.lit (.string [45, 41]), .lit (.string [45, 45, 101, 110, 100, 45, 103, 114, 111, 117, 112])] []

/-- 'arlinklaw17.CmdlineBrackets': WHATEVER THE INPUT: true; the input reads as it did. -/
def cmdlineBracketsSpec : ChangeSpec := { name := "cmdlineBrackets", fn := fun _ => fun
  | [d] => { results := [.lit (.bool true)], args := [d] }
  | _ => none }
def cmdlineBracketsRow : OpenClaim := { program := "ytoipkcljmlfobaadoor", sum := "06839324093db29491de87abb4b1a50a9c70ed57472d10445eaa369cbe005530", func := "arlink/arlinklaw17.CmdlineBrackets", spec := "cmdlineBrackets", unfollowed := true, recurses := true, named := ["arlink/cmdline.begins", "arlink/cmdline.ends"], apart := false, laid := [("arlink/cmdline.begins", laid_arlink_cmdline_begins), ("arlink/cmdline.ends", laid_arlink_cmdline_ends)] }
def CmdlineBracketsSaid : Prop := cmdlineBracketsRow.holds Tryd.pinned (OpenSpec.ofChange cmdlineBracketsSpec)

/-- ITS FALSE NEIGHBOUR: 'it returns false'. Refute it at one input. -/
def cmdlineBracketsWrong : ChangeSpec := { name := "cmdlineBrackets", fn := fun _ => fun
  | [d] => { results := [.lit (.bool false)], args := [d] }
  | _ => none }
def CmdlineBracketsWrongFalsely : Prop := cmdlineBracketsRow.holds Tryd.pinned (OpenSpec.ofChange cmdlineBracketsWrong)

/-- 'arlinklaw17.CmdlineConcat': WHATEVER THE INPUT: true; the input reads as it did. -/
def cmdlineConcatSpec : ChangeSpec := { name := "cmdlineConcat", fn := fun _ => fun
  | [d1, d2] => { results := [.lit (.bool true)], args := [d1, d2] }
  | _ => none }
def cmdlineConcatRow : OpenClaim := { program := "ytoipkcljmlfobaadoor", sum := "06839324093db29491de87abb4b1a50a9c70ed57472d10445eaa369cbe005530", func := "arlink/arlinklaw17.CmdlineConcat", spec := "cmdlineConcat", unfollowed := true, recurses := true, named := ["arlink/cmdline.begins", "arlink/cmdline.ends"], apart := false, laid := [("arlink/cmdline.begins", laid_arlink_cmdline_begins), ("arlink/cmdline.ends", laid_arlink_cmdline_ends)] }
def CmdlineConcatSaid : Prop := cmdlineConcatRow.holds Tryd.pinned (OpenSpec.ofChange cmdlineConcatSpec)

/-- ITS FALSE NEIGHBOUR: 'it returns false'. Refute it at one input. -/
def cmdlineConcatWrong : ChangeSpec := { name := "cmdlineConcat", fn := fun _ => fun
  | [d1, d2] => { results := [.lit (.bool false)], args := [d1, d2] }
  | _ => none }
def CmdlineConcatWrongFalsely : Prop := cmdlineConcatRow.holds Tryd.pinned (OpenSpec.ofChange cmdlineConcatWrong)

/-- 'arlinklaw17.CmdlineKeeps': WHATEVER THE INPUT: true; the input reads as it did. -/
def cmdlineKeepsSpec : ChangeSpec := { name := "cmdlineKeeps", fn := fun _ => fun
  | [d] => { results := [.lit (.bool true)], args := [d] }
  | _ => none }
def cmdlineKeepsRow : OpenClaim := { program := "ytoipkcljmlfobaadoor", sum := "06839324093db29491de87abb4b1a50a9c70ed57472d10445eaa369cbe005530", func := "arlink/arlinklaw17.CmdlineKeeps", spec := "cmdlineKeeps", unfollowed := true, recurses := true, named := ["arlink/cmdline.begins", "arlink/cmdline.ends"], apart := false, laid := [("arlink/cmdline.begins", laid_arlink_cmdline_begins), ("arlink/cmdline.ends", laid_arlink_cmdline_ends)] }
def CmdlineKeepsSaid : Prop := cmdlineKeepsRow.holds Tryd.pinned (OpenSpec.ofChange cmdlineKeepsSpec)

/-- ITS FALSE NEIGHBOUR: 'it returns false'. Refute it at one input. -/
def cmdlineKeepsWrong : ChangeSpec := { name := "cmdlineKeeps", fn := fun _ => fun
  | [d] => { results := [.lit (.bool false)], args := [d] }
  | _ => none }
def CmdlineKeepsWrongFalsely : Prop := cmdlineKeepsRow.holds Tryd.pinned (OpenSpec.ofChange cmdlineKeepsWrong)

/-- 'arlinklaw17.CmdlineMatchesReference': WHATEVER THE INPUT: true; the input reads as it did. -/
def cmdlineMatchesReferenceSpec : ChangeSpec := { name := "cmdlineMatchesReference", fn := fun _ => fun
  | [d1, d2] => { results := [.lit (.bool true)], args := [d1, d2] }
  | _ => none }
def cmdlineMatchesReferenceRow : OpenClaim := { program := "ytoipkcljmlfobaadoor", sum := "06839324093db29491de87abb4b1a50a9c70ed57472d10445eaa369cbe005530", func := "arlink/arlinklaw17.CmdlineMatchesReference", spec := "cmdlineMatchesReference", unfollowed := true, recurses := true, named := ["arlink/cmdline.begins", "arlink/cmdline.ends"], apart := false, laid := [("arlink/cmdline.begins", laid_arlink_cmdline_begins), ("arlink/cmdline.ends", laid_arlink_cmdline_ends)] }
def CmdlineMatchesReferenceSaid : Prop := cmdlineMatchesReferenceRow.holds Tryd.pinned (OpenSpec.ofChange cmdlineMatchesReferenceSpec)

/-- ITS FALSE NEIGHBOUR: 'it returns false'. Refute it at one input. -/
def cmdlineMatchesReferenceWrong : ChangeSpec := { name := "cmdlineMatchesReference", fn := fun _ => fun
  | [d1, d2] => { results := [.lit (.bool false)], args := [d1, d2] }
  | _ => none }
def CmdlineMatchesReferenceWrongFalsely : Prop := cmdlineMatchesReferenceRow.holds Tryd.pinned (OpenSpec.ofChange cmdlineMatchesReferenceWrong)

/-- 'arlinklaw17.CmdlineRoundTrip': WHATEVER THE INPUT: true; the input reads as it did. -/
def cmdlineRoundTripSpec : ChangeSpec := { name := "cmdlineRoundTrip", fn := fun _ => fun
  | [d] => { results := [.lit (.bool true)], args := [d] }
  | _ => none }
def cmdlineRoundTripRow : OpenClaim := { program := "ytoipkcljmlfobaadoor", sum := "06839324093db29491de87abb4b1a50a9c70ed57472d10445eaa369cbe005530", func := "arlink/arlinklaw17.CmdlineRoundTrip", spec := "cmdlineRoundTrip", unfollowed := true, recurses := true, named := ["arlink/cmdline.begins", "arlink/cmdline.ends"], apart := false, laid := [("arlink/cmdline.begins", laid_arlink_cmdline_begins), ("arlink/cmdline.ends", laid_arlink_cmdline_ends)] }
def CmdlineRoundTripSaid : Prop := cmdlineRoundTripRow.holds Tryd.pinned (OpenSpec.ofChange cmdlineRoundTripSpec)

/-- ITS FALSE NEIGHBOUR: 'it returns false'. Refute it at one input. -/
def cmdlineRoundTripWrong : ChangeSpec := { name := "cmdlineRoundTrip", fn := fun _ => fun
  | [d] => { results := [.lit (.bool false)], args := [d] }
  | _ => none }
def CmdlineRoundTripWrongFalsely : Prop := cmdlineRoundTripRow.holds Tryd.pinned (OpenSpec.ofChange cmdlineRoundTripWrong)

/- THE SECOND FORM. 'bulk': how many values and letters a reading holds, each counted each time it is reached (what is shared counts as often as it is met; a slice's spare places count too). A statement '..UptoSaid' is the law's where the arguments, and the package variables that the reading takes, are together of bulk at most 1048576: NARROWER than '..Said'. Prove '..Said' where nothing that the law and all that it calls make is longer than what came in: it says more and counts as full. Else prove '..UptoSaid'. A law counts once. -/
mutual
def uptoBulk {H : Type} : DataW H → Nat
  | .lit (.string bytes) => bytes.length + 1
  | .lit _ => 1
  | .nil => 1
  | .ptr d => uptoBulk d + 1
  | .slice elems spare => uptoBulkAll elems + uptoBulkAll spare + 1
  | .agg parts => uptoBulkAll parts + 1
  | .iface _ d => uptoBulk d + 1
  | .map entries => uptoBulkEntries entries + 1
  | .held _ => 1
def uptoBulkAll {H : Type} : List (DataW H) → Nat
  | [] => 0
  | d :: r => uptoBulk d + uptoBulkAll r
def uptoBulkEntries {H : Type} : List (Lit × DataW H) → Nat
  | [] => 0
  | x :: r => uptoBulkEntry x + uptoBulkEntries r
def uptoBulkEntry {H : Type} : Lit × DataW H → Nat
  | (.string bytes, d) => bytes.length + uptoBulk d + 1
  | (_, d) => uptoBulk d + 1
 end
def uptoSmall : (H : Type) → List (DataW H) → Bool := fun _ ds => decide (uptoBulkAll ds ≤ 1048576)
def OpenSpec.upto (s : _root_.Go.ChangeSpec) : _root_.Go.OpenSpec := { _root_.Go.OpenSpec.ofChange s with cond := some uptoSmall }

/-- 'arlinklaw17.CmdlineBrackets', WHERE WHAT IT READS IS OF BULK AT MOST 1048576: true; the input reads as it did. -/
def cmdlineBracketsUptoRow : OpenClaim := { program := "ytoipkcljmlfobaadoor", sum := "06839324093db29491de87abb4b1a50a9c70ed57472d10445eaa369cbe005530", func := "arlink/arlinklaw17.CmdlineBrackets", spec := "cmdlineBrackets", unfollowed := true, recurses := true, named := ["arlink/cmdline.begins", "arlink/cmdline.ends"], apart := false, laid := [("arlink/cmdline.begins", laid_arlink_cmdline_begins), ("arlink/cmdline.ends", laid_arlink_cmdline_ends)], narrowed := true }
def CmdlineBracketsUptoSaid : Prop := cmdlineBracketsUptoRow.holds Tryd.pinned (OpenSpec.upto cmdlineBracketsSpec)

/-- 'arlinklaw17.CmdlineConcat', WHERE WHAT IT READS IS OF BULK AT MOST 1048576: true; the input reads as it did. -/
def cmdlineConcatUptoRow : OpenClaim := { program := "ytoipkcljmlfobaadoor", sum := "06839324093db29491de87abb4b1a50a9c70ed57472d10445eaa369cbe005530", func := "arlink/arlinklaw17.CmdlineConcat", spec := "cmdlineConcat", unfollowed := true, recurses := true, named := ["arlink/cmdline.begins", "arlink/cmdline.ends"], apart := false, laid := [("arlink/cmdline.begins", laid_arlink_cmdline_begins), ("arlink/cmdline.ends", laid_arlink_cmdline_ends)], narrowed := true }
def CmdlineConcatUptoSaid : Prop := cmdlineConcatUptoRow.holds Tryd.pinned (OpenSpec.upto cmdlineConcatSpec)

/-- 'arlinklaw17.CmdlineKeeps', WHERE WHAT IT READS IS OF BULK AT MOST 1048576: true; the input reads as it did. -/
def cmdlineKeepsUptoRow : OpenClaim := { program := "ytoipkcljmlfobaadoor", sum := "06839324093db29491de87abb4b1a50a9c70ed57472d10445eaa369cbe005530", func := "arlink/arlinklaw17.CmdlineKeeps", spec := "cmdlineKeeps", unfollowed := true, recurses := true, named := ["arlink/cmdline.begins", "arlink/cmdline.ends"], apart := false, laid := [("arlink/cmdline.begins", laid_arlink_cmdline_begins), ("arlink/cmdline.ends", laid_arlink_cmdline_ends)], narrowed := true }
def CmdlineKeepsUptoSaid : Prop := cmdlineKeepsUptoRow.holds Tryd.pinned (OpenSpec.upto cmdlineKeepsSpec)

/-- 'arlinklaw17.CmdlineMatchesReference', WHERE WHAT IT READS IS OF BULK AT MOST 1048576: true; the input reads as it did. -/
def cmdlineMatchesReferenceUptoRow : OpenClaim := { program := "ytoipkcljmlfobaadoor", sum := "06839324093db29491de87abb4b1a50a9c70ed57472d10445eaa369cbe005530", func := "arlink/arlinklaw17.CmdlineMatchesReference", spec := "cmdlineMatchesReference", unfollowed := true, recurses := true, named := ["arlink/cmdline.begins", "arlink/cmdline.ends"], apart := false, laid := [("arlink/cmdline.begins", laid_arlink_cmdline_begins), ("arlink/cmdline.ends", laid_arlink_cmdline_ends)], narrowed := true }
def CmdlineMatchesReferenceUptoSaid : Prop := cmdlineMatchesReferenceUptoRow.holds Tryd.pinned (OpenSpec.upto cmdlineMatchesReferenceSpec)

/-- 'arlinklaw17.CmdlineRoundTrip', WHERE WHAT IT READS IS OF BULK AT MOST 1048576: true; the input reads as it did. -/
def cmdlineRoundTripUptoRow : OpenClaim := { program := "ytoipkcljmlfobaadoor", sum := "06839324093db29491de87abb4b1a50a9c70ed57472d10445eaa369cbe005530", func := "arlink/arlinklaw17.CmdlineRoundTrip", spec := "cmdlineRoundTrip", unfollowed := true, recurses := true, named := ["arlink/cmdline.begins", "arlink/cmdline.ends"], apart := false, laid := [("arlink/cmdline.begins", laid_arlink_cmdline_begins), ("arlink/cmdline.ends", laid_arlink_cmdline_ends)], narrowed := true }
def CmdlineRoundTripUptoSaid : Prop := cmdlineRoundTripUptoRow.holds Tryd.pinned (OpenSpec.upto cmdlineRoundTripSpec)

end Rows
end Go.Proofs.YtoipkcljmlfobaaDoor
