/-
  DERIVED. GIVEN WITH THE SEED: THE CARDS: each row of YtmebnccnmhndiaaDoorRows.lean that lists a variable, with what it lists TIED to the program's text (the seventh form; the later family's looks); each row that meets fmt, with fmt's text TOLD by the authors' own Lean function (tested against real Go, not proved from fmt's source: count such statements apart). THE CARD IS WHAT COUNTS. Prove the row's statement (the work); the ties are given (YtmebnccnmhndiaaDoorTie.lean); close each card by the builder's one call (the guide's Derived/Test/ToyasCard.lean, 'card_holds'). Laid BY PROGRAM, IN A SANDBOX (cutbox-door.mjs). By AI agents, Wed Nov 11 2026. No macro, syntax, notation, axiom, sorry.
-/
import Derived.Test.YtmebnccnmhndiaaDoorRows
import GoSem.ClaimSeven
namespace Go.Proofs.YtmebnccnmhndiaaDoor
namespace Rows

/-- THE TIED CARD OF 'lychgatelaw08.LinkFinds'. -/
def linkFindsCard : Claim7 := { stood := { row := linkFindsRow, standIns := [], harness := (true, "0b3d56c9e53a2e2fa8331b73f15979f34359f2cee555b05bd810ac213d566a26"), looks := true }, kinds := [], alts := [], laidByText := true, laidKinds := [.data, .data, .data, .sentinel, .sentinel], laidTests := true, laidLooks := .later }
def LinkFindsCardSaid : Prop := Claim7.holds Tryd.pinned (.plain (OpenSpec.ofChange linkFindsSpec)) linkFindsCard

/-- THE TIED CARD OF 'lychgatelaw08.LinkGoes'. -/
def linkGoesCard : Claim7 := { stood := { row := linkGoesRow, standIns := [], harness := (true, "0b3d56c9e53a2e2fa8331b73f15979f34359f2cee555b05bd810ac213d566a26"), looks := true }, kinds := [], alts := [], laidByText := true, laidKinds := [.data, .data, .data, .sentinel, .sentinel], laidTests := true, laidLooks := .later }
def LinkGoesCardSaid : Prop := Claim7.holds Tryd.pinned (.plain (OpenSpec.ofChange linkGoesSpec)) linkGoesCard

/-- THE TIED CARD OF 'lychgatelaw08.LinkParts'. -/
def linkPartsCard : Claim7 := { stood := { row := linkPartsRow, standIns := [], harness := (true, "0b3d56c9e53a2e2fa8331b73f15979f34359f2cee555b05bd810ac213d566a26"), looks := true }, kinds := [], alts := [], laidByText := true, laidKinds := [.data, .data, .data, .sentinel, .sentinel], laidTests := true, laidLooks := .later }
def LinkPartsCardSaid : Prop := Claim7.holds Tryd.pinned (.plain (OpenSpec.ofChange linkPartsSpec)) linkPartsCard

/-- THE TIED CARD OF 'lychgatelaw08.LinkOrder'. -/
def linkOrderCard : Claim7 := { stood := { row := linkOrderRow, standIns := [], harness := (true, "0b3d56c9e53a2e2fa8331b73f15979f34359f2cee555b05bd810ac213d566a26"), looks := true }, kinds := [], alts := [], laidByText := true, laidKinds := [.data, .data, .data, .sentinel, .sentinel], laidTests := true, laidLooks := .later }
def LinkOrderCardSaid : Prop := Claim7.holds Tryd.pinned (.plain (OpenSpec.ofChange linkOrderSpec)) linkOrderCard

/-- THE TIED CARD OF 'lychgatelaw08.LinkMore'. -/
def linkMoreCard : Claim7 := { stood := { row := linkMoreRow, standIns := [], harness := (true, "0b3d56c9e53a2e2fa8331b73f15979f34359f2cee555b05bd810ac213d566a26"), looks := true }, kinds := [], alts := [], laidByText := true, laidKinds := [.data, .data, .data, .sentinel, .sentinel], laidTests := true, laidLooks := .later }
def LinkMoreCardSaid : Prop := Claim7.holds Tryd.pinned (.plain (OpenSpec.ofChange linkMoreSpec)) linkMoreCard

/-- THE SECOND FORM's CARD OF 'lychgatelaw08.LinkFinds'. -/
def linkFindsUptoCard : Claim7 := { stood := { row := linkFindsUptoRow, standIns := [], harness := (true, "0b3d56c9e53a2e2fa8331b73f15979f34359f2cee555b05bd810ac213d566a26"), looks := true }, kinds := [], alts := [], laidByText := true, laidKinds := [.data, .data, .data, .sentinel, .sentinel], laidTests := true, laidLooks := .later }
def LinkFindsUptoCardSaid : Prop := Claim7.holds Tryd.pinned (.plain (OpenSpec.upto linkFindsSpec)) linkFindsUptoCard

/-- THE SECOND FORM's CARD OF 'lychgatelaw08.LinkGoes'. -/
def linkGoesUptoCard : Claim7 := { stood := { row := linkGoesUptoRow, standIns := [], harness := (true, "0b3d56c9e53a2e2fa8331b73f15979f34359f2cee555b05bd810ac213d566a26"), looks := true }, kinds := [], alts := [], laidByText := true, laidKinds := [.data, .data, .data, .sentinel, .sentinel], laidTests := true, laidLooks := .later }
def LinkGoesUptoCardSaid : Prop := Claim7.holds Tryd.pinned (.plain (OpenSpec.upto linkGoesSpec)) linkGoesUptoCard

/-- THE SECOND FORM's CARD OF 'lychgatelaw08.LinkParts'. -/
def linkPartsUptoCard : Claim7 := { stood := { row := linkPartsUptoRow, standIns := [], harness := (true, "0b3d56c9e53a2e2fa8331b73f15979f34359f2cee555b05bd810ac213d566a26"), looks := true }, kinds := [], alts := [], laidByText := true, laidKinds := [.data, .data, .data, .sentinel, .sentinel], laidTests := true, laidLooks := .later }
def LinkPartsUptoCardSaid : Prop := Claim7.holds Tryd.pinned (.plain (OpenSpec.upto linkPartsSpec)) linkPartsUptoCard

/-- THE SECOND FORM's CARD OF 'lychgatelaw08.LinkOrder'. -/
def linkOrderUptoCard : Claim7 := { stood := { row := linkOrderUptoRow, standIns := [], harness := (true, "0b3d56c9e53a2e2fa8331b73f15979f34359f2cee555b05bd810ac213d566a26"), looks := true }, kinds := [], alts := [], laidByText := true, laidKinds := [.data, .data, .data, .sentinel, .sentinel], laidTests := true, laidLooks := .later }
def LinkOrderUptoCardSaid : Prop := Claim7.holds Tryd.pinned (.plain (OpenSpec.upto linkOrderSpec)) linkOrderUptoCard

/-- THE SECOND FORM's CARD OF 'lychgatelaw08.LinkMore'. -/
def linkMoreUptoCard : Claim7 := { stood := { row := linkMoreUptoRow, standIns := [], harness := (true, "0b3d56c9e53a2e2fa8331b73f15979f34359f2cee555b05bd810ac213d566a26"), looks := true }, kinds := [], alts := [], laidByText := true, laidKinds := [.data, .data, .data, .sentinel, .sentinel], laidTests := true, laidLooks := .later }
def LinkMoreUptoCardSaid : Prop := Claim7.holds Tryd.pinned (.plain (OpenSpec.upto linkMoreSpec)) linkMoreUptoCard
end Rows
end Go.Proofs.YtmebnccnmhndiaaDoor
