/- The kernel runs calls and finds the results that the data tell. -/
import Derived.Test.YtmaicjfmcjbceaaGreatDoorData
namespace Go.Proofs.YtmaicjfmcjbceaaGreatDoor
open Go Go.Pi
set_option maxRecDepth 1000000
set_option maxHeartbeats 0
theorem ok0_63a : chk0 (rows0_63.take 1) = true := by decide +kernel
end Go.Proofs.YtmaicjfmcjbceaaGreatDoor
