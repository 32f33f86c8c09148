/- The kernel runs calls and finds the results that the data tell. -/
import Derived.Test.YtgpmgondjppmmaaGreatDoorData
set_option linter.unusedSectionVars false
set_option linter.unusedSimpArgs false
set_option linter.unusedVariables false
set_option maxHeartbeats 0
set_option maxRecDepth 1000000
namespace Go.Proofs.YtgpmgondjppmmaaGreatDoor
open Go Go.Pi
theorem ok0_70:chk0 rows0_70 = true := by decide +kernel
theorem ok0_123:chk0 rows0_123 = true := by decide +kernel
end Go.Proofs.YtgpmgondjppmmaaGreatDoor
