/- Headers, as the reference has them. No condition. -/
import Derived.Test.YtcjdagpadnahfaaGreatDoorA3
set_option linter.unusedVariables false
set_option linter.unusedSimpArgs false
set_option linter.unnecessarySimpa false
namespace Go.Proofs.YtcjdagpadnahfaaGreatDoor
open Go Go.AW
set_option maxRecDepth 100000
set_option maxHeartbeats 8000000

theorem u8_32 (b : UInt8) : (b.toNat : Int) = 32 ↔ b = 32 := u8_eq b 32 (by omega)
def fldV (n b w : Int) (bl : Bool) : AV := .tup [bytes (fldL n b w bl), boolV (fldOk n b w bl)]
attribute [simp] fldV
end Go.Proofs.YtcjdagpadnahfaaGreatDoor
