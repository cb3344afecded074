/-
  DERIVED. GIVEN WITH THE SEED: THE CARDS: each row of YtdfhdhoofofenaaGreatDoorRows.lean that lists a variable, with what it lists TIED to the program's text (the seventh form; the later family's looks); each row that meets fmt, with fmt's text TOLD by the authors' own Lean function (tested against real Go, not proved from fmt's source: count such statements apart). THE CARD IS WHAT COUNTS. Prove the row's statement (the work); the ties are given (YtdfhdhoofofenaaGreatDoorTie.lean); close each card by the builder's one call (the guide's Derived/Test/ToyasCard.lean, 'card_holds'). Laid BY PROGRAM, IN A SANDBOX (cutbox-door.mjs). By AI agents, Wed Nov 11 2026. No macro, syntax, notation, axiom, sorry.
-/
import Derived.Test.YtdfhdhoofofenaaGreatDoorRows
import GoSem.ClaimSeven
namespace Go.Proofs.YtdfhdhoofofenaaGreatDoor
namespace Rows

/-- THE TIED CARD OF 'lychgatelaw08.LinkLinks'. -/
def linkLinksCard : Claim7 := { stood := { row := linkLinksRow, standIns := [], harness := (true, "4e9154a90a332d8817c0b68840b50947c69d626cbe15a33f504003dbfc5b651a"), looks := true }, kinds := [], alts := [], laidByText := true, laidKinds := [.data, .data, .data, .sentinel, .sentinel], laidTests := true, laidLooks := .later }
def LinkLinksCardSaid : Prop := Claim7.holds Tryz.pinned (.plain (OpenSpec.ofChange linkLinksSpec)) linkLinksCard

/-- THE SECOND FORM's CARD OF 'lychgatelaw08.LinkLinks'. -/
def linkLinksUptoCard : Claim7 := { stood := { row := linkLinksUptoRow, standIns := [], harness := (true, "4e9154a90a332d8817c0b68840b50947c69d626cbe15a33f504003dbfc5b651a"), looks := true }, kinds := [], alts := [], laidByText := true, laidKinds := [.data, .data, .data, .sentinel, .sentinel], laidTests := true, laidLooks := .later }
def LinkLinksUptoCardSaid : Prop := Claim7.holds Tryz.pinned (.plain (OpenSpec.upto linkLinksSpec)) linkLinksUptoCard
end Rows
end Go.Proofs.YtdfhdhoofofenaaGreatDoor
