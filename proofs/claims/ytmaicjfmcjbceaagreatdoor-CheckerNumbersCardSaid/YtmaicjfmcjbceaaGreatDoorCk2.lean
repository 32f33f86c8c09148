/- The kernel runs calls and finds the results that the data tell. -/
import Derived.Test.YtmaicjfmcjbceaaGreatDoorData
namespace Go.Proofs.YtmaicjfmcjbceaaGreatDoor
open Go Go.Pi
set_option maxRecDepth 1000000
set_option maxHeartbeats 0
theorem ok0_77 : chk0 rows0_77 = true := by decide +kernel
theorem ok0_126 : chk0 rows0_126 = true := by decide +kernel
end Go.Proofs.YtmaicjfmcjbceaaGreatDoor
