/-
  DERIVED. GIVEN WITH THE SEED: THE CARDS: each row of YtmaicjfmcjbceaaGreatDoorRows.lean that lists a variable, with what it lists TIED to the program's text (the seventh form; the later family's looks); each row that meets fmt, with fmt's text TOLD by the authors' own Lean function (tested against real Go, not proved from fmt's source: count such statements apart). THE CARD IS WHAT COUNTS. Prove the row's statement (the work); the ties are given (YtmaicjfmcjbceaaGreatDoorTie.lean); close each card by the builder's one call (the guide's Derived/Test/ToyasCard.lean, 'card_holds'). Laid BY PROGRAM, IN A SANDBOX (cutbox-door.mjs). By AI agents, Wed Nov 11 2026. No macro, syntax, notation, axiom, sorry.
-/
import Derived.Test.YtmaicjfmcjbceaaGreatDoorRows
import GoSem.ClaimSeven
namespace Go.Proofs.YtmaicjfmcjbceaaGreatDoor
namespace Rows

/-- THE TIED CARD OF 'dowellaw54.CheckerNumbers'. -/
def checkerNumbersCard : Claim7 := { stood := { row := checkerNumbersRow, standIns := [], harness := (true, "fe90c88b42970d880320de136743812e46393c3e7726fd2d0022fe57083574ba"), looks := true }, kinds := [], alts := [], laidByText := true, laidKinds := [.data, .data, .data, .data, .sentinel, .sentinel, .pinned], laidTests := true, laidLooks := .later }
def CheckerNumbersCardSaid : Prop := Claim7.holds Tryz.pinned (.plain (OpenSpec.ofChange checkerNumbersSpec)) checkerNumbersCard

/-- THE SECOND FORM's CARD OF 'dowellaw54.CheckerNumbers'. -/
def checkerNumbersUptoCard : Claim7 := { stood := { row := checkerNumbersUptoRow, standIns := [], harness := (true, "fe90c88b42970d880320de136743812e46393c3e7726fd2d0022fe57083574ba"), looks := true }, kinds := [], alts := [], laidByText := true, laidKinds := [.data, .data, .data, .data, .sentinel, .sentinel, .pinned], laidTests := true, laidLooks := .later }
def CheckerNumbersUptoCardSaid : Prop := Claim7.holds Tryz.pinned (.plain (OpenSpec.upto checkerNumbersSpec)) checkerNumbersUptoCard
end Rows
end Go.Proofs.YtmaicjfmcjbceaaGreatDoor
