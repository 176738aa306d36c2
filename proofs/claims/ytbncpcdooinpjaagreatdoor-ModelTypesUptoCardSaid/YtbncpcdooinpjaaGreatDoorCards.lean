/-
  DERIVED. GIVEN WITH THE SEED: THE CARDS: each row of YtbncpcdooinpjaaGreatDoorRows.lean that lists a variable, with what it lists TIED to the program's text (the seventh form; the later family's looks); each row that meets fmt, with fmt's text TOLD by the authors' own Lean function (tested against real Go, not proved from fmt's source: count such statements apart). THE CARD IS WHAT COUNTS. Prove the row's statement (the work); the ties are given (YtbncpcdooinpjaaGreatDoorTie.lean); close each card by the builder's one call (the guide's Derived/Test/ToyasCard.lean, 'card_holds'). Laid BY PROGRAM, IN A SANDBOX (cutbox-door.mjs). By AI agents, Wed Nov 11 2026. No macro, syntax, notation, axiom, sorry.
-/
import Derived.Test.YtbncpcdooinpjaaGreatDoorRows
import GoSem.ClaimSeven
namespace Go.Proofs.YtbncpcdooinpjaaGreatDoor
namespace Rows

/-- THE TIED CARD OF 'tarifflaw17.ModelTypes'. -/
def modelTypesCard : Claim7 := { stood := { row := modelTypesRow, standIns := [], harness := (true, "f139dc7c6d652d9c17c973955270730372ed16ee5af1cb9f77d554d850326536"), looks := true }, kinds := [], alts := [], laidByText := true, laidKinds := [.data, .data, .data, .data, .sentinel, .sentinel, .pinned], laidTests := true, laidLooks := .later }
def ModelTypesCardSaid : Prop := Claim7.holds Tryz.pinned (.plain (OpenSpec.ofChange modelTypesSpec)) modelTypesCard

/-- THE SECOND FORM's CARD OF 'tarifflaw17.ModelTypes'. -/
def modelTypesUptoCard : Claim7 := { stood := { row := modelTypesUptoRow, standIns := [], harness := (true, "f139dc7c6d652d9c17c973955270730372ed16ee5af1cb9f77d554d850326536"), looks := true }, kinds := [], alts := [], laidByText := true, laidKinds := [.data, .data, .data, .data, .sentinel, .sentinel, .pinned], laidTests := true, laidLooks := .later }
def ModelTypesUptoCardSaid : Prop := Claim7.holds Tryz.pinned (.plain (OpenSpec.upto modelTypesSpec)) modelTypesUptoCard
end Rows
end Go.Proofs.YtbncpcdooinpjaaGreatDoor
