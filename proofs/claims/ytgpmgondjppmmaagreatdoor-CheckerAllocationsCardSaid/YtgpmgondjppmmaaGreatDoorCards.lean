/-
  DERIVED. GIVEN WITH THE SEED: THE CARDS: each row of YtgpmgondjppmmaaGreatDoorRows.lean that lists a variable, with what it lists TIED to the program's text (the seventh form; the later family's looks); each row that meets fmt, with fmt's text TOLD by the authors' own Lean function (tested against real Go, not proved from fmt's source: count such statements apart). THE CARD IS WHAT COUNTS. Prove the row's statement (the work); the ties are given (YtgpmgondjppmmaaGreatDoorTie.lean); close each card by the builder's one call (the guide's Derived/Test/ToyasCard.lean, 'card_holds'). Laid BY PROGRAM, IN A SANDBOX (cutbox-door.mjs). By AI agents, Wed Nov 11 2026. No macro, syntax, notation, axiom, sorry.
-/
import Derived.Test.YtgpmgondjppmmaaGreatDoorRows
import GoSem.ClaimSeven
namespace Go.Proofs.YtgpmgondjppmmaaGreatDoor
namespace Rows

/-- THE TIED CARD OF 'dowellaw54.CheckerAllocations'. -/
def checkerAllocationsCard : Claim7 := { stood := { row := checkerAllocationsRow, standIns := [], harness := (true, "e27ff636f6d51ecb6bf959035e3905d337178ac7524d3dd14a35a618c82e7f5a"), looks := true }, kinds := [], alts := [], laidByText := true, laidKinds := [.data, .data, .data, .data, .sentinel, .sentinel, .pinned], laidTests := true, laidLooks := .later }
def CheckerAllocationsCardSaid : Prop := Claim7.holds Tryz.pinned (.plain (OpenSpec.ofChange checkerAllocationsSpec)) checkerAllocationsCard

/-- THE SECOND FORM's CARD OF 'dowellaw54.CheckerAllocations'. -/
def checkerAllocationsUptoCard : Claim7 := { stood := { row := checkerAllocationsUptoRow, standIns := [], harness := (true, "e27ff636f6d51ecb6bf959035e3905d337178ac7524d3dd14a35a618c82e7f5a"), looks := true }, kinds := [], alts := [], laidByText := true, laidKinds := [.data, .data, .data, .data, .sentinel, .sentinel, .pinned], laidTests := true, laidLooks := .later }
def CheckerAllocationsUptoCardSaid : Prop := Claim7.holds Tryz.pinned (.plain (OpenSpec.upto checkerAllocationsSpec)) checkerAllocationsUptoCard
end Rows
end Go.Proofs.YtgpmgondjppmmaaGreatDoor
