/-
  DERIVED. GIVEN WITH THE SEED: THE CARDS: each row of YtlpfolhckkcopaaDoorRows.lean that lists a variable, with what it lists TIED to the program's text (the seventh form; the later family's looks); each row that meets fmt, with fmt's text TOLD by the authors' own Lean function (tested against real Go, not proved from fmt's source: count such statements apart). THE CARD IS WHAT COUNTS. Prove the row's statement (the work); the ties are given (YtlpfolhckkcopaaDoorTie.lean); close each card by the builder's one call (the guide's Derived/Test/ToyasCard.lean, 'card_holds'). Laid BY PROGRAM, IN A SANDBOX (cutbox-door.mjs). By AI agents, Wed Nov 11 2026. No macro, syntax, notation, axiom, sorry.
-/
import Derived.Test.YtlpfolhckkcopaaDoorRows
import GoSem.ClaimSeven
namespace Go.Proofs.YtlpfolhckkcopaaDoor
namespace Rows

/-- THE TIED CARD OF 'tarifflaw12.UnarySides'. -/
def unarySidesCard : Claim7 := { stood := { row := unarySidesRow, standIns := [], harness := (true, "b8bd1c38e9e190a87332d10ee04b2f44ed4a44b8ebcf279c57edaed36e5bb93c"), looks := false }, kinds := [], alts := [], laidByText := true, laidKinds := [.data, .pinned], laidTests := true, laidLooks := .later }
def UnarySidesCardSaid : Prop := Claim7.holds Tryd.pinned (.plain (OpenSpec.ofChange unarySidesSpec)) unarySidesCard

/-- THE SECOND FORM's CARD OF 'tarifflaw12.UnarySides'. -/
def unarySidesUptoCard : Claim7 := { stood := { row := unarySidesUptoRow, standIns := [], harness := (true, "b8bd1c38e9e190a87332d10ee04b2f44ed4a44b8ebcf279c57edaed36e5bb93c"), looks := false }, kinds := [], alts := [], laidByText := true, laidKinds := [.data, .pinned], laidTests := true, laidLooks := .later }
def UnarySidesUptoCardSaid : Prop := Claim7.holds Tryd.pinned (.plain (OpenSpec.upto unarySidesSpec)) unarySidesUptoCard
end Rows
end Go.Proofs.YtlpfolhckkcopaaDoor
