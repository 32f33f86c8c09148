/- THE STATEMENT OF CheckerAllocations: whatever offer, change and number the law is handed, it returns true; all read as they did. Condition: the listed package-level variables read as the row says, which the card ties to the program's text. -/
import Derived.Test.YtgpmgondjppmmaaGreatDoorY2
import Derived.Test.YtgpmgondjppmmaaGreatDoorQ5
import Derived.Test.YtgpmgondjppmmaaGreatDoorRows
import Derived.Test.YtgpmgondjppmmaaGreatDoorTie
import Derived.Test.YtgpmgondjppmmaaGreatDoorCards
import Derived.ChangeSame
import Derived.ChangeVars
import Derived.JoinedOf
import Derived.RowKit
import Derived.RowKitTokens
import Derived.LaidLaws
import Derived.LaidHandle
import Derived.LaidMore
import Derived.OpenShut
import Derived.Carry
import Derived.Lib.LaidTab
import Derived.ProofKit
import Derived.Shelf.Vars
import Derived.SevenTiedAt
import Derived.Stop.Joined
set_option linter.unnecessarySimpa false
set_option linter.unusedSectionVars false
set_option linter.unusedSimpArgs false
set_option linter.unusedVariables false
set_option maxRecDepth 1000000
namespace Go.Proofs.YtgpmgondjppmmaaGreatDoor
open Go Go.ChangeShapes Go.WideShapes Go.ChangeAt Go.RowKit
open Go.ChangeMaps (open_string shut_string)
theorem own:ownKnob Tryz.prog.godebug = none := by kernel_rfl
def firstCells:DataW Unit → Array Value
 | .agg ds => (ds.map fun d => match d with | .lit (.int k n) => Value.int k n | _ => .nilFunc).toArray
 | _ => #[]
noncomputable def laidWorld (os:Os):World :=
 let w0 := World.doorLaid Tryz.prog 600 os
 { w0 with heap := w0.heap.modify 2 fun
   | .cells _ t frozen => .cells (firstCells Go.Pinned.utf8First) t frozen
   | o => o }
theorem door_met (os:Os) (args:Array Value):laidMetH Tryz.prog Rows.checkerAllocationsRow.laid ((laidWorld os).forCall (fun _ _ => 0) ⟨#[],args,[]⟩).memory :=
 laidMetH_of_parts3 (fuel := 8) (laidMet_of_run' 8 (by kernel_rfl) (by kernel_rfl)) (by kernel_rfl) (by kernel_rfl)
theorem block_open {P:Program} {w:World} {g:Nat} {t:TypeId} {zero:Array Value} {k:IntKind}
  (h:w.ShapedOpen P) (hg:g < P.globals.size) (h0:((begin P (fun _ _ => 0) default).world.heap[g]?).bind Obj.row? = some (zero,t)) (hz:zero.size = 1)
  (hb:P.buildable t = true) (hc:P.cellTypes P.depth t = some [t]) (hu:P.underlying t = some (.int k)):∃ m t' z,w.heap[g]? = some (.cells #[.int k m] t' z) := by
 obtain ⟨m,hm⟩ := cell_of_shapedOpen_int h hg h0 hz hb hc hu
 obtain ⟨cs,hh,hs,_⟩ := h.1 g zero t hg h0
 have h1:0 < cs.size := by omega
 have hcell:w.cell? ⟨g,0,none⟩ = some cs[0] := by simp [World.cell?,hh,h1]
 rw [hcell] at hm
 have:cs = #[.int k m] := Array.ext (by rw [hs,hz]; rfl) fun i i1 i2 => by
  have:i = 0 := by simp at i2; exact i2
  subst this
  simpa using Option.some.inj hm
 exact ⟨m,t,_,by rw [hh,this]⟩
theorem tab_met {W : World} (h : laidMetH Tryz.prog Rows.checkerAllocationsRow.laid W) : Lib.TabIs Tryz.prog W "internal/strconv.uint64pow10" .u64 Lib.pow10Tab := by
 have h:laidMet Tryz.prog Rows.checkerAllocationsRow.laid W := h
 obtain ⟨ps,⟨_,_,_,_,_,q1,_,_,_,_,⟨_,_,_,_,_,q2,_,_,_,_,⟨g,t,cs,fuel,p3,q3,hg,hty,hvar,hd,_⟩,_⟩,_⟩,_⟩ := h
 obtain rfl := Option.some.inj ((show Tryz.prog.globalNamed "internal/strconv.uint64pow10" = some 1 by kernel_rfl).symm.trans hg)
 obtain ⟨t5,e5,h1,h2,h3,h4,h6⟩:∃ t5 e5,(Tryz.prog.globals[1]?).map (·.type) = some t5 ∧ Tryz.prog.underlying t5 = some (.array 20 e5) ∧ Tryz.prog.underlying e5 = some (.int .u64) ∧ Tryz.prog.cellsOf e5 = 1 ∧ Tryz.prog.cellsOf t5 = 20 := ⟨351,242,by kernel_rfl,by kernel_rfl,by kernel_rfl,by kernel_rfl,by kernel_rfl⟩
 obtain rfl := Option.some.inj (h1.symm.trans hty)
 unfold Lib.TabIs
 rw [hvar]
 have hd2:DataW.trod (fun _ => ()) Tryz.prog W 0 (fun _ => true) false fuel t5 cs.toList = some (Lib.tabData .u64 Lib.pow10Tab,p3) := hd
 have := Lib.cells_of_tab h2 h3 h4 h6 hd2
 rw [← this]
end Go.Proofs.YtgpmgondjppmmaaGreatDoor
