/- The kernel runs calls and finds the results that the data tell. -/
import Derived.Test.YtijdeokebjoboaaGreatDoorData
set_option linter.unusedVariables false
set_option linter.unusedSimpArgs false
set_option linter.unusedSectionVars false
set_option linter.unnecessarySimpa false
set_option maxHeartbeats 0
set_option maxRecDepth 1000000
namespace Go.Proofs.YtijdeokebjoboaaGreatDoor
open Go Go.Pi
theorem ok0_74b : chk0 (rows0_74.drop 1) = true := by decide +kernel
end Go.Proofs.YtijdeokebjoboaaGreatDoor
