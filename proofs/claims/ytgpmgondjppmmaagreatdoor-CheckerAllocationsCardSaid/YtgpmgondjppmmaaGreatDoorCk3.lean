/- The kernel runs calls and finds the results that the data tell. -/
import Derived.Test.YtgpmgondjppmmaaGreatDoorData
set_option linter.unusedSectionVars false
set_option linter.unusedSimpArgs false
set_option linter.unusedVariables false
set_option maxHeartbeats 0
set_option maxRecDepth 1000000
namespace Go.Proofs.YtgpmgondjppmmaaGreatDoor
open Go Go.Pi
theorem ok0_118:chk0 rows0_118 = true := by decide +kernel
theorem ok0_84:chk0 rows0_84 = true := by decide +kernel
theorem ok0_156:chk0 rows0_156 = true := by decide +kernel
theorem ok0_88:chk0 rows0_88 = true := by decide +kernel
end Go.Proofs.YtgpmgondjppmmaaGreatDoor
