/-
  DERIVED. GIVEN WITH THE SEED: THE PROGRAM's TIES (one call each: nine closed facts by the kernel) AND EACH ROW's TIE, after the 31st guide's Derived/Test/Toyas{Tie, Card}.lean. No idea stands in it: it is a product of the set-up. Laid BY PROGRAM, IN A SANDBOX (cutbox-door.mjs). By AI agents, Wed Nov 11 2026. No macro, syntax, notation, axiom, sorry.
-/
import Derived.Test.YtoipkcljmlfobaaDoorRows
import Derived.LaidByTextLater
import Derived.SevenTiedAt
import Derived.LaidSub
import Derived.LaidOnce
namespace Go.Proofs.YtoipkcljmlfobaaDoor
open Go
set_option maxRecDepth 100000
theorem seatTie1 : Tryd.prog.laidByTextLater [("arlink/cmdline.begins", Rows.laid_arlink_cmdline_begins), ("arlink/cmdline.ends", Rows.laid_arlink_cmdline_ends)] [.widerDeep, .widerDeep] true :=
  Program.laidByTextLater_by_one 19 8 3 (by kernel_rfl) (by kernel_rfl) (by kernel_rfl) (by kernel_rfl) (by kernel_rfl) (by kernel_rfl) (fun _ _ => by kernel_rfl)
theorem noOwnUnsafe : Tryd.pinned.checked.prog.headLifts.contains "ownunsafe" = false := by kernel_rfl
theorem tie : Tryd.prog.laidByTextLater [("arlink/cmdline.begins", Rows.laid_arlink_cmdline_begins), ("arlink/cmdline.ends", Rows.laid_arlink_cmdline_ends)] [.widerDeep, .widerDeep] true :=
  Program.laidByTextLater.sub seatTie1 ["arlink/cmdline.begins", "arlink/cmdline.ends"] (by kernel_rfl) (by kernel_rfl)
theorem cmdlineBrackets_row_tie : Rows.cmdlineBracketsRow.laidByTextAt .later Tryd.pinned [.widerDeep, .widerDeep] true :=
  OpenClaim.laidByTextAt_later rfl rfl tie noOwnUnsafe
theorem cmdlineConcat_row_tie : Rows.cmdlineConcatRow.laidByTextAt .later Tryd.pinned [.widerDeep, .widerDeep] true :=
  OpenClaim.laidByTextAt_later rfl rfl tie noOwnUnsafe
theorem cmdlineKeeps_row_tie : Rows.cmdlineKeepsRow.laidByTextAt .later Tryd.pinned [.widerDeep, .widerDeep] true :=
  OpenClaim.laidByTextAt_later rfl rfl tie noOwnUnsafe
theorem cmdlineMatchesReference_row_tie : Rows.cmdlineMatchesReferenceRow.laidByTextAt .later Tryd.pinned [.widerDeep, .widerDeep] true :=
  OpenClaim.laidByTextAt_later rfl rfl tie noOwnUnsafe
theorem cmdlineRoundTrip_row_tie : Rows.cmdlineRoundTripRow.laidByTextAt .later Tryd.pinned [.widerDeep, .widerDeep] true :=
  OpenClaim.laidByTextAt_later rfl rfl tie noOwnUnsafe
theorem cmdlineBracketsUpto_row_tie : Rows.cmdlineBracketsUptoRow.laidByTextAt .later Tryd.pinned [.widerDeep, .widerDeep] true :=
  OpenClaim.laidByTextAt_later rfl rfl tie noOwnUnsafe
theorem cmdlineConcatUpto_row_tie : Rows.cmdlineConcatUptoRow.laidByTextAt .later Tryd.pinned [.widerDeep, .widerDeep] true :=
  OpenClaim.laidByTextAt_later rfl rfl tie noOwnUnsafe
theorem cmdlineKeepsUpto_row_tie : Rows.cmdlineKeepsUptoRow.laidByTextAt .later Tryd.pinned [.widerDeep, .widerDeep] true :=
  OpenClaim.laidByTextAt_later rfl rfl tie noOwnUnsafe
theorem cmdlineMatchesReferenceUpto_row_tie : Rows.cmdlineMatchesReferenceUptoRow.laidByTextAt .later Tryd.pinned [.widerDeep, .widerDeep] true :=
  OpenClaim.laidByTextAt_later rfl rfl tie noOwnUnsafe
theorem cmdlineRoundTripUpto_row_tie : Rows.cmdlineRoundTripUptoRow.laidByTextAt .later Tryd.pinned [.widerDeep, .widerDeep] true :=
  OpenClaim.laidByTextAt_later rfl rfl tie noOwnUnsafe
end Go.Proofs.YtoipkcljmlfobaaDoor
