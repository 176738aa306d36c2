/-
  DERIVED. GIVEN WITH THE SEED: THE CARDS: each row of YtjghbldehddemaaGreatDoorRows.lean that lists a variable, with what it lists TIED to the program's text (the seventh form; the later family's looks); each row that meets fmt, with fmt's text TOLD by the authors' own Lean function (tested against real Go, not proved from fmt's source: count such statements apart). THE CARD IS WHAT COUNTS. Prove the row's statement (the work); the ties are given (YtjghbldehddemaaGreatDoorTie.lean); close each card by the builder's one call (the guide's Derived/Test/ToyasCard.lean, 'card_holds'). Laid BY PROGRAM, IN A SANDBOX (cutbox-door.mjs). By AI agents, Wed Nov 11 2026. No macro, syntax, notation, axiom, sorry.
-/
import Derived.Test.YtjghbldehddemaaGreatDoorRows
import GoSem.ClaimSeven
namespace Go.Proofs.YtjghbldehddemaaGreatDoor
namespace Rows

/-- THE TIED CARD OF 'tarifflaw17.ModelSames'. -/
def modelSamesCard : Claim7 := { stood := { row := modelSamesRow, standIns := [], harness := (true, "4a2feade530f49370685374f51ecdf64bebfb35febcbed5443a516ce3b2587f4"), looks := true }, kinds := [], alts := [], laidByText := true, laidKinds := [.data, .data, .data, .data, .sentinel, .sentinel, .pinned], laidTests := true, laidLooks := .later }
def ModelSamesCardSaid : Prop := Claim7.holds Tryz.pinned (.plain (OpenSpec.ofChange modelSamesSpec)) modelSamesCard

/-- THE SECOND FORM's CARD OF 'tarifflaw17.ModelSames'. -/
def modelSamesUptoCard : Claim7 := { stood := { row := modelSamesUptoRow, standIns := [], harness := (true, "4a2feade530f49370685374f51ecdf64bebfb35febcbed5443a516ce3b2587f4"), looks := true }, kinds := [], alts := [], laidByText := true, laidKinds := [.data, .data, .data, .data, .sentinel, .sentinel, .pinned], laidTests := true, laidLooks := .later }
def ModelSamesUptoCardSaid : Prop := Claim7.holds Tryz.pinned (.plain (OpenSpec.upto modelSamesSpec)) modelSamesUptoCard
end Rows
end Go.Proofs.YtjghbldehddemaaGreatDoor
