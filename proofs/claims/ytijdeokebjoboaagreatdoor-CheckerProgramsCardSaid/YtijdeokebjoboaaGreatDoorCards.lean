/-
  DERIVED. GIVEN WITH THE SEED: THE CARDS: each row of YtijdeokebjoboaaGreatDoorRows.lean that lists a variable, with what it lists TIED to the program's text (the seventh form; the later family's looks); each row that meets fmt, with fmt's text TOLD by the authors' own Lean function (tested against real Go, not proved from fmt's source: count such statements apart). THE CARD IS WHAT COUNTS. Prove the row's statement (the work); the ties are given (YtijdeokebjoboaaGreatDoorTie.lean); close each card by the builder's one call (the guide's Derived/Test/ToyasCard.lean, 'card_holds'). Laid BY PROGRAM, IN A SANDBOX (cutbox-door.mjs). By AI agents, Wed Nov 11 2026. No macro, syntax, notation, axiom, sorry.
-/
import Derived.Test.YtijdeokebjoboaaGreatDoorRows
import GoSem.ClaimSeven
namespace Go.Proofs.YtijdeokebjoboaaGreatDoor
namespace Rows

/-- THE TIED CARD OF 'dowellaw54.CheckerPrograms'. -/
def checkerProgramsCard : Claim7 := { stood := { row := checkerProgramsRow, standIns := [], harness := (true, "914892c1f631ca80a4b2c6e83bde8e498fad7cc8dccdbe6786ffb605ff942f34"), looks := true }, kinds := [], alts := [], laidByText := true, laidKinds := [.data, .data, .data, .data, .sentinel, .sentinel, .pinned], laidTests := true, laidLooks := .later }
def CheckerProgramsCardSaid : Prop := Claim7.holds Tryz.pinned (.plain (OpenSpec.ofChange checkerProgramsSpec)) checkerProgramsCard

/-- THE SECOND FORM's CARD OF 'dowellaw54.CheckerPrograms'. -/
def checkerProgramsUptoCard : Claim7 := { stood := { row := checkerProgramsUptoRow, standIns := [], harness := (true, "914892c1f631ca80a4b2c6e83bde8e498fad7cc8dccdbe6786ffb605ff942f34"), looks := true }, kinds := [], alts := [], laidByText := true, laidKinds := [.data, .data, .data, .data, .sentinel, .sentinel, .pinned], laidTests := true, laidLooks := .later }
def CheckerProgramsUptoCardSaid : Prop := Claim7.holds Tryz.pinned (.plain (OpenSpec.upto checkerProgramsSpec)) checkerProgramsUptoCard
end Rows
end Go.Proofs.YtijdeokebjoboaaGreatDoor
