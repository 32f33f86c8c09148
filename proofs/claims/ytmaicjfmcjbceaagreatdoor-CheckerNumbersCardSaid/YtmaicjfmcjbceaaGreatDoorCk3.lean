/- The kernel runs calls and finds the results that the data tell. -/
import Derived.Test.YtmaicjfmcjbceaaGreatDoorData
namespace Go.Proofs.YtmaicjfmcjbceaaGreatDoor
open Go Go.Pi
set_option maxRecDepth 1000000
set_option maxHeartbeats 0
theorem ok0_116 : chk0 rows0_116 = true := by decide +kernel
theorem ok0_31 : chk0 rows0_31 = true := by decide +kernel
theorem ok0_75 : chk0 rows0_75 = true := by decide +kernel
theorem ok0_98 : chk0 rows0_98 = true := by decide +kernel
end Go.Proofs.YtmaicjfmcjbceaaGreatDoor
