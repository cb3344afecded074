/-
  DERIVED. GIVEN WITH THE SEED: THE CARDS: each row of YtkknljojdgpdaaaGreatDoorRows.lean that lists a variable, with what it lists TIED to the program's text (the seventh form; the later family's looks); each row that meets fmt, with fmt's text TOLD by the authors' own Lean function (tested against real Go, not proved from fmt's source: count such statements apart). THE CARD IS WHAT COUNTS. Prove the row's statement (the work); the ties are given (YtkknljojdgpdaaaGreatDoorTie.lean); close each card by the builder's one call (the guide's Derived/Test/ToyasCard.lean, 'card_holds'). Laid BY PROGRAM, IN A SANDBOX (cutbox-door.mjs). By AI agents, Wed Nov 11 2026. No macro, syntax, notation, axiom, sorry.
-/
import Derived.Test.YtkknljojdgpdaaaGreatDoorRows
import GoSem.ClaimSeven
namespace Go.Proofs.YtkknljojdgpdaaaGreatDoor
namespace Rows

/-- THE TIED CARD OF 'lychgatelaw14.EnterApart'. -/
def enterApartCard : Claim7 := { stood := { row := enterApartRow, standIns := [], harness := (true, "c017514b79b22a2cfc02ec5d3a50becabd180a477929f37b9d2a29b6ee777b5f"), looks := true }, kinds := [], alts := [], laidByText := true, laidKinds := [.data, .data, .data, .sentinel, .sentinel], laidTests := true, laidLooks := .later }
def EnterApartCardSaid : Prop := Claim7.holds Tryz.pinned (.plain (OpenSpec.ofChange enterApartSpec)) enterApartCard

/-- THE TIED CARD OF 'lychgatelaw14.EnterFacts'. -/
def enterFactsCard : Claim7 := { stood := { row := enterFactsRow, standIns := [], harness := (true, "c017514b79b22a2cfc02ec5d3a50becabd180a477929f37b9d2a29b6ee777b5f"), looks := true }, kinds := [], alts := [], laidByText := true, laidKinds := [.data, .data, .data, .sentinel, .sentinel], laidTests := true, laidLooks := .later }
def EnterFactsCardSaid : Prop := Claim7.holds Tryz.pinned (.plain (OpenSpec.ofChange enterFactsSpec)) enterFactsCard

/-- THE TIED CARD OF 'lychgatelaw14.EnterNames'. -/
def enterNamesCard : Claim7 := { stood := { row := enterNamesRow, standIns := [], harness := (true, "c017514b79b22a2cfc02ec5d3a50becabd180a477929f37b9d2a29b6ee777b5f"), looks := true }, kinds := [], alts := [], laidByText := true, laidKinds := [.data, .data, .data, .sentinel, .sentinel], laidTests := true, laidLooks := .later }
def EnterNamesCardSaid : Prop := Claim7.holds Tryz.pinned (.plain (OpenSpec.ofChange enterNamesSpec)) enterNamesCard

/-- THE TIED CARD OF 'lychgatelaw14.EnterNew'. -/
def enterNewCard : Claim7 := { stood := { row := enterNewRow, standIns := [], harness := (true, "c017514b79b22a2cfc02ec5d3a50becabd180a477929f37b9d2a29b6ee777b5f"), looks := true }, kinds := [], alts := [], laidByText := true, laidKinds := [.data, .data, .data, .sentinel, .sentinel], laidTests := true, laidLooks := .later }
def EnterNewCardSaid : Prop := Claim7.holds Tryz.pinned (.plain (OpenSpec.ofChange enterNewSpec)) enterNewCard

/-- THE TIED CARD OF 'lychgatelaw14.EnterRights'. -/
def enterRightsCard : Claim7 := { stood := { row := enterRightsRow, standIns := [], harness := (true, "c017514b79b22a2cfc02ec5d3a50becabd180a477929f37b9d2a29b6ee777b5f"), looks := true }, kinds := [], alts := [], laidByText := true, laidKinds := [.data, .data, .data, .sentinel, .sentinel], laidTests := true, laidLooks := .later }
def EnterRightsCardSaid : Prop := Claim7.holds Tryz.pinned (.plain (OpenSpec.ofChange enterRightsSpec)) enterRightsCard

/-- THE SECOND FORM's CARD OF 'lychgatelaw14.EnterApart'. -/
def enterApartUptoCard : Claim7 := { stood := { row := enterApartUptoRow, standIns := [], harness := (true, "c017514b79b22a2cfc02ec5d3a50becabd180a477929f37b9d2a29b6ee777b5f"), looks := true }, kinds := [], alts := [], laidByText := true, laidKinds := [.data, .data, .data, .sentinel, .sentinel], laidTests := true, laidLooks := .later }
def EnterApartUptoCardSaid : Prop := Claim7.holds Tryz.pinned (.plain (OpenSpec.upto enterApartSpec)) enterApartUptoCard

/-- THE SECOND FORM's CARD OF 'lychgatelaw14.EnterFacts'. -/
def enterFactsUptoCard : Claim7 := { stood := { row := enterFactsUptoRow, standIns := [], harness := (true, "c017514b79b22a2cfc02ec5d3a50becabd180a477929f37b9d2a29b6ee777b5f"), looks := true }, kinds := [], alts := [], laidByText := true, laidKinds := [.data, .data, .data, .sentinel, .sentinel], laidTests := true, laidLooks := .later }
def EnterFactsUptoCardSaid : Prop := Claim7.holds Tryz.pinned (.plain (OpenSpec.upto enterFactsSpec)) enterFactsUptoCard

/-- THE SECOND FORM's CARD OF 'lychgatelaw14.EnterNames'. -/
def enterNamesUptoCard : Claim7 := { stood := { row := enterNamesUptoRow, standIns := [], harness := (true, "c017514b79b22a2cfc02ec5d3a50becabd180a477929f37b9d2a29b6ee777b5f"), looks := true }, kinds := [], alts := [], laidByText := true, laidKinds := [.data, .data, .data, .sentinel, .sentinel], laidTests := true, laidLooks := .later }
def EnterNamesUptoCardSaid : Prop := Claim7.holds Tryz.pinned (.plain (OpenSpec.upto enterNamesSpec)) enterNamesUptoCard

/-- THE SECOND FORM's CARD OF 'lychgatelaw14.EnterNew'. -/
def enterNewUptoCard : Claim7 := { stood := { row := enterNewUptoRow, standIns := [], harness := (true, "c017514b79b22a2cfc02ec5d3a50becabd180a477929f37b9d2a29b6ee777b5f"), looks := true }, kinds := [], alts := [], laidByText := true, laidKinds := [.data, .data, .data, .sentinel, .sentinel], laidTests := true, laidLooks := .later }
def EnterNewUptoCardSaid : Prop := Claim7.holds Tryz.pinned (.plain (OpenSpec.upto enterNewSpec)) enterNewUptoCard

/-- THE SECOND FORM's CARD OF 'lychgatelaw14.EnterRights'. -/
def enterRightsUptoCard : Claim7 := { stood := { row := enterRightsUptoRow, standIns := [], harness := (true, "c017514b79b22a2cfc02ec5d3a50becabd180a477929f37b9d2a29b6ee777b5f"), looks := true }, kinds := [], alts := [], laidByText := true, laidKinds := [.data, .data, .data, .sentinel, .sentinel], laidTests := true, laidLooks := .later }
def EnterRightsUptoCardSaid : Prop := Claim7.holds Tryz.pinned (.plain (OpenSpec.upto enterRightsSpec)) enterRightsUptoCard
end Rows
end Go.Proofs.YtkknljojdgpdaaaGreatDoor
