/- The laws on names and offsets. No condition. -/
import Derived.Test.YtcjdagpadnahfaaGreatDoorB13
set_option linter.unusedVariables false
set_option linter.unusedSimpArgs false
set_option linter.unnecessarySimpa false
namespace Go.Proofs.YtcjdagpadnahfaaGreatDoor
open Go Go.AW
set_option maxRecDepth 100000
set_option maxHeartbeats 8000000

end Go.Proofs.YtcjdagpadnahfaaGreatDoor
