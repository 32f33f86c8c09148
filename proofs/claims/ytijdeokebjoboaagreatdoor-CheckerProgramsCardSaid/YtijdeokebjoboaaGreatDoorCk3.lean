/- The kernel runs calls and finds the results that the data tell. -/
import Derived.Test.YtijdeokebjoboaaGreatDoorData
set_option linter.unusedVariables false
set_option linter.unusedSimpArgs false
set_option linter.unusedSectionVars false
set_option linter.unnecessarySimpa false
set_option maxHeartbeats 0
set_option maxRecDepth 1000000
namespace Go.Proofs.YtijdeokebjoboaaGreatDoor
open Go Go.Pi
theorem ok0_105 : chk0 rows0_105 = true := by decide +kernel
theorem ok0_75 : chk0 rows0_75 = true := by decide +kernel
theorem ok0_146 : chk0 rows0_146 = true := by decide +kernel
theorem ok0_77 : chk0 rows0_77 = true := by decide +kernel
end Go.Proofs.YtijdeokebjoboaaGreatDoor
