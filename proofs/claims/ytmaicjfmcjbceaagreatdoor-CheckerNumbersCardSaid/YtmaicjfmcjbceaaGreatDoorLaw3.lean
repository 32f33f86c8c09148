/- A world that meets the row's condition: the library's table of first bytes laid into the world in which the program's own initialisers have run. -/
import Derived.Test.YtmaicjfmcjbceaaGreatDoorLaw2
namespace Go.Proofs.YtmaicjfmcjbceaaGreatDoor
open Go Go.ChangeShapes Go.WideShapes Go.ChangeAt Go.RowKit
open Go.ChangeMaps (open_string shut_string)
set_option maxRecDepth 1000000

theorem own : ownKnob Tryz.prog.godebug = none := by kernel_rfl

def firstCells : DataW Unit → Array Value
  | .agg ds => (ds.map fun d => match d with | .lit (.int k n) => Value.int k n | _ => .nilFunc).toArray
  | _ => #[]

/-- The world of the door's own run, the table laid. -/
noncomputable def laidWorld (os : Os) : World :=
  let w0 := World.doorLaid Tryz.prog 600 os
  { w0 with heap := w0.heap.modify 1 fun
      | .cells _ t frozen => .cells (firstCells Go.Pinned.utf8First) t frozen
      | o => o }

theorem door_met (os : Os) (args : Array Value) : laidMetH Tryz.prog Rows.checkerNumbersRow.laid ((laidWorld os).forCall (fun _ _ => 0) ⟨#[], args, []⟩).memory :=
  laidMetH_of_parts3 (fuel := 8) (laidMet_of_run' 8 (by kernel_rfl) (by kernel_rfl)) (by kernel_rfl) (by kernel_rfl)
end Go.Proofs.YtmaicjfmcjbceaaGreatDoor
