/- The kernel runs calls and finds the results that the data tell. -/
import Derived.Test.YtgpmgondjppmmaaGreatDoorData
set_option linter.unusedSectionVars false
set_option linter.unusedSimpArgs false
set_option linter.unusedVariables false
set_option maxHeartbeats 0
set_option maxRecDepth 1000000
namespace Go.Proofs.YtgpmgondjppmmaaGreatDoor
open Go Go.Pi
theorem ok0_83b:chk0 (rows0_83.drop 1) = true := by decide +kernel
end Go.Proofs.YtgpmgondjppmmaaGreatDoor
