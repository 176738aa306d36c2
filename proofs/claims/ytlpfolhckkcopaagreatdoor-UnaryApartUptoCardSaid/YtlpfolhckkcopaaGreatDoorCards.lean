/-
  DERIVED. GIVEN WITH THE SEED: THE CARDS: each row of YtlpfolhckkcopaaGreatDoorRows.lean that lists a variable, with what it lists TIED to the program's text (the seventh form; the later family's looks); each row that meets fmt, with fmt's text TOLD by the authors' own Lean function (tested against real Go, not proved from fmt's source: count such statements apart). THE CARD IS WHAT COUNTS. Prove the row's statement (the work); the ties are given (YtlpfolhckkcopaaGreatDoorTie.lean); close each card by the builder's one call (the guide's Derived/Test/ToyasCard.lean, 'card_holds'). Laid BY PROGRAM, IN A SANDBOX (cutbox-door.mjs). By AI agents, Wed Nov 11 2026. No macro, syntax, notation, axiom, sorry.
-/
import Derived.Test.YtlpfolhckkcopaaGreatDoorRows
import GoSem.ClaimSeven
namespace Go.Proofs.YtlpfolhckkcopaaGreatDoor
namespace Rows

/-- THE TIED CARD OF 'tarifflaw12.UnaryMatches'. -/
def unaryMatchesCard : Claim7 := { stood := { row := unaryMatchesRow, standIns := [], harness := (true, "aedb91b7957d4a96f7b2e7e19a5e055ed1716f28c141b0b2e1e0daff9e03d894"), looks := true }, kinds := [], alts := [], laidByText := true, laidKinds := [.data, .pinned], laidTests := true, laidLooks := .later }
def UnaryMatchesCardSaid : Prop := Claim7.holds Tryz.pinned (.plain (OpenSpec.ofChange unaryMatchesSpec)) unaryMatchesCard

/-- THE TIED CARD OF 'tarifflaw12.UnaryApart'. -/
def unaryApartCard : Claim7 := { stood := { row := unaryApartRow, standIns := [], harness := (true, "aedb91b7957d4a96f7b2e7e19a5e055ed1716f28c141b0b2e1e0daff9e03d894"), looks := true }, kinds := [], alts := [], laidByText := true, laidKinds := [.data, .pinned], laidTests := true, laidLooks := .later }
def UnaryApartCardSaid : Prop := Claim7.holds Tryz.pinned (.plain (OpenSpec.ofChange unaryApartSpec)) unaryApartCard

/-- THE TIED CARD OF 'tarifflaw12.UnaryPlain'. -/
def unaryPlainCard : Claim7 := { stood := { row := unaryPlainRow, standIns := [], harness := (true, "aedb91b7957d4a96f7b2e7e19a5e055ed1716f28c141b0b2e1e0daff9e03d894"), looks := true }, kinds := [], alts := [], laidByText := true, laidKinds := [.data, .pinned], laidTests := true, laidLooks := .later }
def UnaryPlainCardSaid : Prop := Claim7.holds Tryz.pinned (.plain (OpenSpec.ofChange unaryPlainSpec)) unaryPlainCard

/-- THE TIED CARD OF 'tarifflaw12.UnaryTexts'. -/
def unaryTextsCard : Claim7 := { stood := { row := unaryTextsRow, standIns := [], harness := (true, "aedb91b7957d4a96f7b2e7e19a5e055ed1716f28c141b0b2e1e0daff9e03d894"), looks := true }, kinds := [], alts := [], laidByText := true, laidKinds := [.data, .data, .data, .data, .sentinel, .sentinel, .pinned], laidTests := true, laidLooks := .later }
def UnaryTextsCardSaid : Prop := Claim7.holds Tryz.pinned (.plain (OpenSpec.ofChange unaryTextsSpec)) unaryTextsCard

/-- THE SECOND FORM's CARD OF 'tarifflaw12.UnaryMatches'. -/
def unaryMatchesUptoCard : Claim7 := { stood := { row := unaryMatchesUptoRow, standIns := [], harness := (true, "aedb91b7957d4a96f7b2e7e19a5e055ed1716f28c141b0b2e1e0daff9e03d894"), looks := true }, kinds := [], alts := [], laidByText := true, laidKinds := [.data, .pinned], laidTests := true, laidLooks := .later }
def UnaryMatchesUptoCardSaid : Prop := Claim7.holds Tryz.pinned (.plain (OpenSpec.upto unaryMatchesSpec)) unaryMatchesUptoCard

/-- THE SECOND FORM's CARD OF 'tarifflaw12.UnaryApart'. -/
def unaryApartUptoCard : Claim7 := { stood := { row := unaryApartUptoRow, standIns := [], harness := (true, "aedb91b7957d4a96f7b2e7e19a5e055ed1716f28c141b0b2e1e0daff9e03d894"), looks := true }, kinds := [], alts := [], laidByText := true, laidKinds := [.data, .pinned], laidTests := true, laidLooks := .later }
def UnaryApartUptoCardSaid : Prop := Claim7.holds Tryz.pinned (.plain (OpenSpec.upto unaryApartSpec)) unaryApartUptoCard

/-- THE SECOND FORM's CARD OF 'tarifflaw12.UnaryPlain'. -/
def unaryPlainUptoCard : Claim7 := { stood := { row := unaryPlainUptoRow, standIns := [], harness := (true, "aedb91b7957d4a96f7b2e7e19a5e055ed1716f28c141b0b2e1e0daff9e03d894"), looks := true }, kinds := [], alts := [], laidByText := true, laidKinds := [.data, .pinned], laidTests := true, laidLooks := .later }
def UnaryPlainUptoCardSaid : Prop := Claim7.holds Tryz.pinned (.plain (OpenSpec.upto unaryPlainSpec)) unaryPlainUptoCard

/-- THE SECOND FORM's CARD OF 'tarifflaw12.UnaryTexts'. -/
def unaryTextsUptoCard : Claim7 := { stood := { row := unaryTextsUptoRow, standIns := [], harness := (true, "aedb91b7957d4a96f7b2e7e19a5e055ed1716f28c141b0b2e1e0daff9e03d894"), looks := true }, kinds := [], alts := [], laidByText := true, laidKinds := [.data, .data, .data, .data, .sentinel, .sentinel, .pinned], laidTests := true, laidLooks := .later }
def UnaryTextsUptoCardSaid : Prop := Claim7.holds Tryz.pinned (.plain (OpenSpec.upto unaryTextsSpec)) unaryTextsUptoCard
end Rows
end Go.Proofs.YtlpfolhckkcopaaGreatDoor
