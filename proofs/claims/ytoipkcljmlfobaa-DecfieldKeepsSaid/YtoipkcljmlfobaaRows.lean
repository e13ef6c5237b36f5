/-
  No cell of these rows narrows 'for every input' (looked for: loops, veiled, ifaces, maps, wideKeys, modest, calm, conditions, laid).
  DERIVED. THE GIVEN ROWS OF THIS SEAT. 6 by the template 'for every input the law returns true; each argument reads behind the call as it read before'; 0 by the template 'total and deterministic' (their statements: YtoipkcljmlfobaaTotals.lean).
  GIVEN WITH THE SEED: the statements are not yours to turn. If you find one false, say at which input.
  Laid BY PROGRAM, IN A SANDBOX (cutbox-rows.mjs): the forced cells as the released guide's own fill.sh prints them over the translation 386406a91d63831f… (all of the seat's roots in one cut). By AI agents, Wed Nov 11 2026. No macro, syntax, notation, axiom, sorry.
-/
import Derived.Test.YtoipkcljmlfobaaChecked
import GoSem.Claim
import GoSem.ClaimJoined
import GoSem.ClaimMapViews
import Derived.JoinedTies
import Derived.KernelRfl
namespace Go.Proofs.Ytoipkcljmlfobaa
/- THE CELL 'sum', in the pinned program and in every row, IS THE sha256 OF THE DUMP (.gsa) THAT YtoipkcljmlfobaaProg.lean LOADS. Nothing in Lean hashes anything: it is a label: what it is worth is what the hold of that sum in a sandbox is worth. -/
noncomputable def Try.pinned : Pinned := { name := "ytoipkcljmlfobaa", sum := "386406a91d63831fe531e9341c1273735959bdcb5d19073d9403f9ed0b3fb168", checked := Try.checked }
namespace Rows
def none {H : Type} : Left H := { results := [], args := [] }

/-- 'arlinklaw01.DecfieldMatchesReference': WHATEVER THE INPUT: true; the input reads as it did. -/
def decfieldMatchesReferenceSpec : ChangeSpec := { name := "decfieldMatchesReference", fn := fun _ => fun
  | [d1, d2, d3, d4] => { results := [.lit (.bool true)], args := [d1, d2, d3, d4] }
  | _ => none }
def decfieldMatchesReferenceRow : OpenClaim := { program := "ytoipkcljmlfobaa", sum := "386406a91d63831fe531e9341c1273735959bdcb5d19073d9403f9ed0b3fb168", func := "arlink/arlinklaw01.DecfieldMatchesReference", spec := "decfieldMatchesReference", recurses := true, apart := false }
def DecfieldMatchesReferenceSaid : Prop := decfieldMatchesReferenceRow.holds Try.pinned (OpenSpec.ofChange decfieldMatchesReferenceSpec)

/-- ITS FALSE NEIGHBOUR: 'it returns false'. Refute it at one input. -/
def decfieldMatchesReferenceWrong : ChangeSpec := { name := "decfieldMatchesReference", fn := fun _ => fun
  | [d1, d2, d3, d4] => { results := [.lit (.bool false)], args := [d1, d2, d3, d4] }
  | _ => none }
def DecfieldMatchesReferenceWrongFalsely : Prop := decfieldMatchesReferenceRow.holds Try.pinned (OpenSpec.ofChange decfieldMatchesReferenceWrong)

/-- 'arlinklaw01.DecfieldRoundTrip': WHATEVER THE INPUT: true; the input reads as it did. -/
def decfieldRoundTripSpec : ChangeSpec := { name := "decfieldRoundTrip", fn := fun _ => fun
  | [d1, d2, d3] => { results := [.lit (.bool true)], args := [d1, d2, d3] }
  | _ => none }
def decfieldRoundTripRow : OpenClaim := { program := "ytoipkcljmlfobaa", sum := "386406a91d63831fe531e9341c1273735959bdcb5d19073d9403f9ed0b3fb168", func := "arlink/arlinklaw01.DecfieldRoundTrip", spec := "decfieldRoundTrip", apart := false }
def DecfieldRoundTripSaid : Prop := decfieldRoundTripRow.holds Try.pinned (OpenSpec.ofChange decfieldRoundTripSpec)

/-- ITS FALSE NEIGHBOUR: 'it returns false'. Refute it at one input. -/
def decfieldRoundTripWrong : ChangeSpec := { name := "decfieldRoundTrip", fn := fun _ => fun
  | [d1, d2, d3] => { results := [.lit (.bool false)], args := [d1, d2, d3] }
  | _ => none }
def DecfieldRoundTripWrongFalsely : Prop := decfieldRoundTripRow.holds Try.pinned (OpenSpec.ofChange decfieldRoundTripWrong)

/-- 'arlinklaw01.DecfieldUnique': WHATEVER THE INPUT: true; the input reads as it did. -/
def decfieldUniqueSpec : ChangeSpec := { name := "decfieldUnique", fn := fun _ => fun
  | [d1, d2] => { results := [.lit (.bool true)], args := [d1, d2] }
  | _ => none }
def decfieldUniqueRow : OpenClaim := { program := "ytoipkcljmlfobaa", sum := "386406a91d63831fe531e9341c1273735959bdcb5d19073d9403f9ed0b3fb168", func := "arlink/arlinklaw01.DecfieldUnique", spec := "decfieldUnique", apart := false }
def DecfieldUniqueSaid : Prop := decfieldUniqueRow.holds Try.pinned (OpenSpec.ofChange decfieldUniqueSpec)

/-- ITS FALSE NEIGHBOUR: 'it returns false'. Refute it at one input. -/
def decfieldUniqueWrong : ChangeSpec := { name := "decfieldUnique", fn := fun _ => fun
  | [d1, d2] => { results := [.lit (.bool false)], args := [d1, d2] }
  | _ => none }
def DecfieldUniqueWrongFalsely : Prop := decfieldUniqueRow.holds Try.pinned (OpenSpec.ofChange decfieldUniqueWrong)

/-- 'arlinklaw01.DecfieldOrder': WHATEVER THE INPUT: true; the input reads as it did. -/
def decfieldOrderSpec : ChangeSpec := { name := "decfieldOrder", fn := fun _ => fun
  | [d1, d2, d3] => { results := [.lit (.bool true)], args := [d1, d2, d3] }
  | _ => none }
def decfieldOrderRow : OpenClaim := { program := "ytoipkcljmlfobaa", sum := "386406a91d63831fe531e9341c1273735959bdcb5d19073d9403f9ed0b3fb168", func := "arlink/arlinklaw01.DecfieldOrder", spec := "decfieldOrder", apart := false }
def DecfieldOrderSaid : Prop := decfieldOrderRow.holds Try.pinned (OpenSpec.ofChange decfieldOrderSpec)

/-- ITS FALSE NEIGHBOUR: 'it returns false'. Refute it at one input. -/
def decfieldOrderWrong : ChangeSpec := { name := "decfieldOrder", fn := fun _ => fun
  | [d1, d2, d3] => { results := [.lit (.bool false)], args := [d1, d2, d3] }
  | _ => none }
def DecfieldOrderWrongFalsely : Prop := decfieldOrderRow.holds Try.pinned (OpenSpec.ofChange decfieldOrderWrong)

/-- 'arlinklaw01.DecfieldKeeps': WHATEVER THE INPUT: true; the input reads as it did. -/
def decfieldKeepsSpec : ChangeSpec := { name := "decfieldKeeps", fn := fun _ => fun
  | [d1, d2] => { results := [.lit (.bool true)], args := [d1, d2] }
  | _ => none }
def decfieldKeepsRow : OpenClaim := { program := "ytoipkcljmlfobaa", sum := "386406a91d63831fe531e9341c1273735959bdcb5d19073d9403f9ed0b3fb168", func := "arlink/arlinklaw01.DecfieldKeeps", spec := "decfieldKeeps", recurses := true, apart := false }
def DecfieldKeepsSaid : Prop := decfieldKeepsRow.holds Try.pinned (OpenSpec.ofChange decfieldKeepsSpec)

/-- ITS FALSE NEIGHBOUR: 'it returns false'. Refute it at one input. -/
def decfieldKeepsWrong : ChangeSpec := { name := "decfieldKeeps", fn := fun _ => fun
  | [d1, d2] => { results := [.lit (.bool false)], args := [d1, d2] }
  | _ => none }
def DecfieldKeepsWrongFalsely : Prop := decfieldKeepsRow.holds Try.pinned (OpenSpec.ofChange decfieldKeepsWrong)

/-- 'arlinklaw01.DecfieldWider': WHATEVER THE INPUT: true; the input reads as it did. -/
def decfieldWiderSpec : ChangeSpec := { name := "decfieldWider", fn := fun _ => fun
  | [d1, d2, d3] => { results := [.lit (.bool true)], args := [d1, d2, d3] }
  | _ => none }
def decfieldWiderRow : OpenClaim := { program := "ytoipkcljmlfobaa", sum := "386406a91d63831fe531e9341c1273735959bdcb5d19073d9403f9ed0b3fb168", func := "arlink/arlinklaw01.DecfieldWider", spec := "decfieldWider", apart := false }
def DecfieldWiderSaid : Prop := decfieldWiderRow.holds Try.pinned (OpenSpec.ofChange decfieldWiderSpec)

/-- ITS FALSE NEIGHBOUR: 'it returns false'. Refute it at one input. -/
def decfieldWiderWrong : ChangeSpec := { name := "decfieldWider", fn := fun _ => fun
  | [d1, d2, d3] => { results := [.lit (.bool false)], args := [d1, d2, d3] }
  | _ => none }
def DecfieldWiderWrongFalsely : Prop := decfieldWiderRow.holds Try.pinned (OpenSpec.ofChange decfieldWiderWrong)

/- THE SECOND FORM. 'bulk': how many values and letters a reading holds, each counted each time it is reached (what is shared counts as often as it is met; a slice's spare places count too). A statement '..UptoSaid' is the law's where the arguments, and the package variables that the reading takes, are together of bulk at most 1048576: NARROWER than '..Said'. Prove '..Said' where nothing that the law and all that it calls make is longer than what came in: it says more and counts as full. Else prove '..UptoSaid'. A law counts once. -/
mutual
def uptoBulk {H : Type} : DataW H → Nat
  | .lit (.string bytes) => bytes.length + 1
  | .lit _ => 1
  | .nil => 1
  | .ptr d => uptoBulk d + 1
  | .slice elems spare => uptoBulkAll elems + uptoBulkAll spare + 1
  | .agg parts => uptoBulkAll parts + 1
  | .iface _ d => uptoBulk d + 1
  | .map entries => uptoBulkEntries entries + 1
  | .held _ => 1
def uptoBulkAll {H : Type} : List (DataW H) → Nat
  | [] => 0
  | d :: r => uptoBulk d + uptoBulkAll r
def uptoBulkEntries {H : Type} : List (Lit × DataW H) → Nat
  | [] => 0
  | x :: r => uptoBulkEntry x + uptoBulkEntries r
def uptoBulkEntry {H : Type} : Lit × DataW H → Nat
  | (.string bytes, d) => bytes.length + uptoBulk d + 1
  | (_, d) => uptoBulk d + 1
 end
def uptoSmall : (H : Type) → List (DataW H) → Bool := fun _ ds => decide (uptoBulkAll ds ≤ 1048576)
def OpenSpec.upto (s : _root_.Go.ChangeSpec) : _root_.Go.OpenSpec := { _root_.Go.OpenSpec.ofChange s with cond := some uptoSmall }

/-- 'arlinklaw01.DecfieldMatchesReference', WHERE WHAT IT READS IS OF BULK AT MOST 1048576: true; the input reads as it did. -/
def decfieldMatchesReferenceUptoRow : OpenClaim := { program := "ytoipkcljmlfobaa", sum := "386406a91d63831fe531e9341c1273735959bdcb5d19073d9403f9ed0b3fb168", func := "arlink/arlinklaw01.DecfieldMatchesReference", spec := "decfieldMatchesReference", recurses := true, apart := false, narrowed := true }
def DecfieldMatchesReferenceUptoSaid : Prop := decfieldMatchesReferenceUptoRow.holds Try.pinned (OpenSpec.upto decfieldMatchesReferenceSpec)

/-- 'arlinklaw01.DecfieldRoundTrip', WHERE WHAT IT READS IS OF BULK AT MOST 1048576: true; the input reads as it did. -/
def decfieldRoundTripUptoRow : OpenClaim := { program := "ytoipkcljmlfobaa", sum := "386406a91d63831fe531e9341c1273735959bdcb5d19073d9403f9ed0b3fb168", func := "arlink/arlinklaw01.DecfieldRoundTrip", spec := "decfieldRoundTrip", apart := false, narrowed := true }
def DecfieldRoundTripUptoSaid : Prop := decfieldRoundTripUptoRow.holds Try.pinned (OpenSpec.upto decfieldRoundTripSpec)

/-- 'arlinklaw01.DecfieldUnique', WHERE WHAT IT READS IS OF BULK AT MOST 1048576: true; the input reads as it did. -/
def decfieldUniqueUptoRow : OpenClaim := { program := "ytoipkcljmlfobaa", sum := "386406a91d63831fe531e9341c1273735959bdcb5d19073d9403f9ed0b3fb168", func := "arlink/arlinklaw01.DecfieldUnique", spec := "decfieldUnique", apart := false, narrowed := true }
def DecfieldUniqueUptoSaid : Prop := decfieldUniqueUptoRow.holds Try.pinned (OpenSpec.upto decfieldUniqueSpec)

/-- 'arlinklaw01.DecfieldOrder', WHERE WHAT IT READS IS OF BULK AT MOST 1048576: true; the input reads as it did. -/
def decfieldOrderUptoRow : OpenClaim := { program := "ytoipkcljmlfobaa", sum := "386406a91d63831fe531e9341c1273735959bdcb5d19073d9403f9ed0b3fb168", func := "arlink/arlinklaw01.DecfieldOrder", spec := "decfieldOrder", apart := false, narrowed := true }
def DecfieldOrderUptoSaid : Prop := decfieldOrderUptoRow.holds Try.pinned (OpenSpec.upto decfieldOrderSpec)

/-- 'arlinklaw01.DecfieldKeeps', WHERE WHAT IT READS IS OF BULK AT MOST 1048576: true; the input reads as it did. -/
def decfieldKeepsUptoRow : OpenClaim := { program := "ytoipkcljmlfobaa", sum := "386406a91d63831fe531e9341c1273735959bdcb5d19073d9403f9ed0b3fb168", func := "arlink/arlinklaw01.DecfieldKeeps", spec := "decfieldKeeps", recurses := true, apart := false, narrowed := true }
def DecfieldKeepsUptoSaid : Prop := decfieldKeepsUptoRow.holds Try.pinned (OpenSpec.upto decfieldKeepsSpec)

/-- 'arlinklaw01.DecfieldWider', WHERE WHAT IT READS IS OF BULK AT MOST 1048576: true; the input reads as it did. -/
def decfieldWiderUptoRow : OpenClaim := { program := "ytoipkcljmlfobaa", sum := "386406a91d63831fe531e9341c1273735959bdcb5d19073d9403f9ed0b3fb168", func := "arlink/arlinklaw01.DecfieldWider", spec := "decfieldWider", apart := false, narrowed := true }
def DecfieldWiderUptoSaid : Prop := decfieldWiderUptoRow.holds Try.pinned (OpenSpec.upto decfieldWiderSpec)

end Rows
end Go.Proofs.Ytoipkcljmlfobaa
