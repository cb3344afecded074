/-
  DERIVED. GIVEN WITH THE SEED: THE CARDS: each row of YtchmejlaancegaaDoorRows.lean that lists a variable, with what it lists TIED to the program's text (the seventh form; the later family's looks); each row that meets fmt, with fmt's text TOLD by the authors' own Lean function (tested against real Go, not proved from fmt's source: count such statements apart). THE CARD IS WHAT COUNTS. Prove the row's statement (the work); the ties are given (YtchmejlaancegaaDoorTie.lean); close each card by the builder's one call (the guide's Derived/Test/ToyasCard.lean, 'card_holds'). Laid BY PROGRAM, IN A SANDBOX (cutbox-door.mjs). By AI agents, Wed Nov 11 2026. No macro, syntax, notation, axiom, sorry.
-/
import Derived.Test.YtchmejlaancegaaDoorRows
import GoSem.ClaimSeven
namespace Go.Proofs.YtchmejlaancegaaDoor
namespace Rows

/-- THE TIED CARD OF 'lychgatelaw02.SyntaxSizes'. -/
def syntaxSizesCard : Claim7 := { stood := { row := syntaxSizesRow, standIns := [], harness := (true, "a2df6d52c3d3baead3f5ba2f9f391e2226701c99b785c56cc8918d6b1f5d78d8"), looks := true }, kinds := [], alts := [], laidByText := true, laidKinds := [.data, .data, .data, .sentinel, .sentinel], laidTests := true, laidLooks := .later }
def SyntaxSizesCardSaid : Prop := Claim7.holds Tryd.pinned (.plain (OpenSpec.ofChange syntaxSizesSpec)) syntaxSizesCard

/-- THE TIED CARD OF 'lychgatelaw02.SyntaxPlaces'. -/
def syntaxPlacesCard : Claim7 := { stood := { row := syntaxPlacesRow, standIns := [], harness := (true, "a2df6d52c3d3baead3f5ba2f9f391e2226701c99b785c56cc8918d6b1f5d78d8"), looks := true }, kinds := [], alts := [], laidByText := true, laidKinds := [.data, .data, .data, .sentinel, .sentinel], laidTests := true, laidLooks := .later }
def SyntaxPlacesCardSaid : Prop := Claim7.holds Tryd.pinned (.plain (OpenSpec.ofChange syntaxPlacesSpec)) syntaxPlacesCard

/-- THE TIED CARD OF 'lychgatelaw02.SyntaxBlanks'. -/
def syntaxBlanksCard : Claim7 := { stood := { row := syntaxBlanksRow, standIns := [], harness := (true, "a2df6d52c3d3baead3f5ba2f9f391e2226701c99b785c56cc8918d6b1f5d78d8"), looks := true }, kinds := [], alts := [], laidByText := true, laidKinds := [.data, .data, .data, .sentinel, .sentinel], laidTests := true, laidLooks := .later }
def SyntaxBlanksCardSaid : Prop := Claim7.holds Tryd.pinned (.plain (OpenSpec.ofChange syntaxBlanksSpec)) syntaxBlanksCard

/-- THE TIED CARD OF 'lychgatelaw02.SyntaxFirst'. -/
def syntaxFirstCard : Claim7 := { stood := { row := syntaxFirstRow, standIns := [], harness := (true, "a2df6d52c3d3baead3f5ba2f9f391e2226701c99b785c56cc8918d6b1f5d78d8"), looks := true }, kinds := [], alts := [], laidByText := true, laidKinds := [.data, .data, .data, .sentinel, .sentinel], laidTests := true, laidLooks := .later }
def SyntaxFirstCardSaid : Prop := Claim7.holds Tryd.pinned (.plain (OpenSpec.ofChange syntaxFirstSpec)) syntaxFirstCard

/-- THE TIED CARD OF 'lychgatelaw02.SyntaxJoined'. -/
def syntaxJoinedCard : Claim7 := { stood := { row := syntaxJoinedRow, standIns := [], harness := (true, "a2df6d52c3d3baead3f5ba2f9f391e2226701c99b785c56cc8918d6b1f5d78d8"), looks := true }, kinds := [], alts := [], laidByText := true, laidKinds := [.data, .data, .data, .sentinel, .sentinel], laidTests := true, laidLooks := .later }
def SyntaxJoinedCardSaid : Prop := Claim7.holds Tryd.pinned (.plain (OpenSpec.ofChange syntaxJoinedSpec)) syntaxJoinedCard

/-- THE TIED CARD OF 'lychgatelaw02.SyntaxWords'. -/
def syntaxWordsCard : Claim7 := { stood := { row := syntaxWordsRow, standIns := [], harness := (true, "a2df6d52c3d3baead3f5ba2f9f391e2226701c99b785c56cc8918d6b1f5d78d8"), looks := true }, kinds := [], alts := [], laidByText := true, laidKinds := [.data, .data, .data, .sentinel, .sentinel], laidTests := true, laidLooks := .later }
def SyntaxWordsCardSaid : Prop := Claim7.holds Tryd.pinned (.plain (OpenSpec.ofChange syntaxWordsSpec)) syntaxWordsCard

/-- THE TIED CARD OF 'lychgatelaw11.ShapeFacts'. -/
def shapeFactsCard : Claim7 := { stood := { row := shapeFactsRow, standIns := [], harness := (true, "a2df6d52c3d3baead3f5ba2f9f391e2226701c99b785c56cc8918d6b1f5d78d8"), looks := true }, kinds := [], alts := [], laidByText := true, laidKinds := [.data, .data, .data, .sentinel, .sentinel], laidTests := true, laidLooks := .later }
def ShapeFactsCardSaid : Prop := Claim7.holds Tryd.pinned (.plain (OpenSpec.ofChange shapeFactsSpec)) shapeFactsCard

/-- THE TIED CARD OF 'lychgatelaw11.ShapeMeans'. -/
def shapeMeansCard : Claim7 := { stood := { row := shapeMeansRow, standIns := [], harness := (true, "a2df6d52c3d3baead3f5ba2f9f391e2226701c99b785c56cc8918d6b1f5d78d8"), looks := true }, kinds := [], alts := [], laidByText := true, laidKinds := [.data, .data, .data, .sentinel, .sentinel], laidTests := true, laidLooks := .later }
def ShapeMeansCardSaid : Prop := Claim7.holds Tryd.pinned (.plain (OpenSpec.ofChange shapeMeansSpec)) shapeMeansCard

/-- THE TIED CARD OF 'lychgatelaw11.ShapeSound'. -/
def shapeSoundCard : Claim7 := { stood := { row := shapeSoundRow, standIns := [], harness := (true, "a2df6d52c3d3baead3f5ba2f9f391e2226701c99b785c56cc8918d6b1f5d78d8"), looks := true }, kinds := [], alts := [], laidByText := true, laidKinds := [.data, .data, .data, .sentinel, .sentinel], laidTests := true, laidLooks := .later }
def ShapeSoundCardSaid : Prop := Claim7.holds Tryd.pinned (.plain (OpenSpec.ofChange shapeSoundSpec)) shapeSoundCard

/-- THE TIED CARD OF 'lychgatelaw11.ShapeFirst'. -/
def shapeFirstCard : Claim7 := { stood := { row := shapeFirstRow, standIns := [], harness := (true, "a2df6d52c3d3baead3f5ba2f9f391e2226701c99b785c56cc8918d6b1f5d78d8"), looks := true }, kinds := [], alts := [], laidByText := true, laidKinds := [.data, .data, .data, .sentinel, .sentinel], laidTests := true, laidLooks := .later }
def ShapeFirstCardSaid : Prop := Claim7.holds Tryd.pinned (.plain (OpenSpec.ofChange shapeFirstSpec)) shapeFirstCard

/-- THE TIED CARD OF 'lychgatelaw11.ShapeOrder'. -/
def shapeOrderCard : Claim7 := { stood := { row := shapeOrderRow, standIns := [], harness := (true, "a2df6d52c3d3baead3f5ba2f9f391e2226701c99b785c56cc8918d6b1f5d78d8"), looks := true }, kinds := [], alts := [], laidByText := true, laidKinds := [.data, .data, .data, .sentinel, .sentinel], laidTests := true, laidLooks := .later }
def ShapeOrderCardSaid : Prop := Claim7.holds Tryd.pinned (.plain (OpenSpec.ofChange shapeOrderSpec)) shapeOrderCard

/-- THE SECOND FORM's CARD OF 'lychgatelaw02.SyntaxSizes'. -/
def syntaxSizesUptoCard : Claim7 := { stood := { row := syntaxSizesUptoRow, standIns := [], harness := (true, "a2df6d52c3d3baead3f5ba2f9f391e2226701c99b785c56cc8918d6b1f5d78d8"), looks := true }, kinds := [], alts := [], laidByText := true, laidKinds := [.data, .data, .data, .sentinel, .sentinel], laidTests := true, laidLooks := .later }
def SyntaxSizesUptoCardSaid : Prop := Claim7.holds Tryd.pinned (.plain (OpenSpec.upto syntaxSizesSpec)) syntaxSizesUptoCard

/-- THE SECOND FORM's CARD OF 'lychgatelaw02.SyntaxPlaces'. -/
def syntaxPlacesUptoCard : Claim7 := { stood := { row := syntaxPlacesUptoRow, standIns := [], harness := (true, "a2df6d52c3d3baead3f5ba2f9f391e2226701c99b785c56cc8918d6b1f5d78d8"), looks := true }, kinds := [], alts := [], laidByText := true, laidKinds := [.data, .data, .data, .sentinel, .sentinel], laidTests := true, laidLooks := .later }
def SyntaxPlacesUptoCardSaid : Prop := Claim7.holds Tryd.pinned (.plain (OpenSpec.upto syntaxPlacesSpec)) syntaxPlacesUptoCard

/-- THE SECOND FORM's CARD OF 'lychgatelaw02.SyntaxBlanks'. -/
def syntaxBlanksUptoCard : Claim7 := { stood := { row := syntaxBlanksUptoRow, standIns := [], harness := (true, "a2df6d52c3d3baead3f5ba2f9f391e2226701c99b785c56cc8918d6b1f5d78d8"), looks := true }, kinds := [], alts := [], laidByText := true, laidKinds := [.data, .data, .data, .sentinel, .sentinel], laidTests := true, laidLooks := .later }
def SyntaxBlanksUptoCardSaid : Prop := Claim7.holds Tryd.pinned (.plain (OpenSpec.upto syntaxBlanksSpec)) syntaxBlanksUptoCard

/-- THE SECOND FORM's CARD OF 'lychgatelaw02.SyntaxFirst'. -/
def syntaxFirstUptoCard : Claim7 := { stood := { row := syntaxFirstUptoRow, standIns := [], harness := (true, "a2df6d52c3d3baead3f5ba2f9f391e2226701c99b785c56cc8918d6b1f5d78d8"), looks := true }, kinds := [], alts := [], laidByText := true, laidKinds := [.data, .data, .data, .sentinel, .sentinel], laidTests := true, laidLooks := .later }
def SyntaxFirstUptoCardSaid : Prop := Claim7.holds Tryd.pinned (.plain (OpenSpec.upto syntaxFirstSpec)) syntaxFirstUptoCard

/-- THE SECOND FORM's CARD OF 'lychgatelaw02.SyntaxJoined'. -/
def syntaxJoinedUptoCard : Claim7 := { stood := { row := syntaxJoinedUptoRow, standIns := [], harness := (true, "a2df6d52c3d3baead3f5ba2f9f391e2226701c99b785c56cc8918d6b1f5d78d8"), looks := true }, kinds := [], alts := [], laidByText := true, laidKinds := [.data, .data, .data, .sentinel, .sentinel], laidTests := true, laidLooks := .later }
def SyntaxJoinedUptoCardSaid : Prop := Claim7.holds Tryd.pinned (.plain (OpenSpec.upto syntaxJoinedSpec)) syntaxJoinedUptoCard

/-- THE SECOND FORM's CARD OF 'lychgatelaw02.SyntaxWords'. -/
def syntaxWordsUptoCard : Claim7 := { stood := { row := syntaxWordsUptoRow, standIns := [], harness := (true, "a2df6d52c3d3baead3f5ba2f9f391e2226701c99b785c56cc8918d6b1f5d78d8"), looks := true }, kinds := [], alts := [], laidByText := true, laidKinds := [.data, .data, .data, .sentinel, .sentinel], laidTests := true, laidLooks := .later }
def SyntaxWordsUptoCardSaid : Prop := Claim7.holds Tryd.pinned (.plain (OpenSpec.upto syntaxWordsSpec)) syntaxWordsUptoCard

/-- THE SECOND FORM's CARD OF 'lychgatelaw11.ShapeFacts'. -/
def shapeFactsUptoCard : Claim7 := { stood := { row := shapeFactsUptoRow, standIns := [], harness := (true, "a2df6d52c3d3baead3f5ba2f9f391e2226701c99b785c56cc8918d6b1f5d78d8"), looks := true }, kinds := [], alts := [], laidByText := true, laidKinds := [.data, .data, .data, .sentinel, .sentinel], laidTests := true, laidLooks := .later }
def ShapeFactsUptoCardSaid : Prop := Claim7.holds Tryd.pinned (.plain (OpenSpec.upto shapeFactsSpec)) shapeFactsUptoCard

/-- THE SECOND FORM's CARD OF 'lychgatelaw11.ShapeMeans'. -/
def shapeMeansUptoCard : Claim7 := { stood := { row := shapeMeansUptoRow, standIns := [], harness := (true, "a2df6d52c3d3baead3f5ba2f9f391e2226701c99b785c56cc8918d6b1f5d78d8"), looks := true }, kinds := [], alts := [], laidByText := true, laidKinds := [.data, .data, .data, .sentinel, .sentinel], laidTests := true, laidLooks := .later }
def ShapeMeansUptoCardSaid : Prop := Claim7.holds Tryd.pinned (.plain (OpenSpec.upto shapeMeansSpec)) shapeMeansUptoCard

/-- THE SECOND FORM's CARD OF 'lychgatelaw11.ShapeSound'. -/
def shapeSoundUptoCard : Claim7 := { stood := { row := shapeSoundUptoRow, standIns := [], harness := (true, "a2df6d52c3d3baead3f5ba2f9f391e2226701c99b785c56cc8918d6b1f5d78d8"), looks := true }, kinds := [], alts := [], laidByText := true, laidKinds := [.data, .data, .data, .sentinel, .sentinel], laidTests := true, laidLooks := .later }
def ShapeSoundUptoCardSaid : Prop := Claim7.holds Tryd.pinned (.plain (OpenSpec.upto shapeSoundSpec)) shapeSoundUptoCard

/-- THE SECOND FORM's CARD OF 'lychgatelaw11.ShapeFirst'. -/
def shapeFirstUptoCard : Claim7 := { stood := { row := shapeFirstUptoRow, standIns := [], harness := (true, "a2df6d52c3d3baead3f5ba2f9f391e2226701c99b785c56cc8918d6b1f5d78d8"), looks := true }, kinds := [], alts := [], laidByText := true, laidKinds := [.data, .data, .data, .sentinel, .sentinel], laidTests := true, laidLooks := .later }
def ShapeFirstUptoCardSaid : Prop := Claim7.holds Tryd.pinned (.plain (OpenSpec.upto shapeFirstSpec)) shapeFirstUptoCard

/-- THE SECOND FORM's CARD OF 'lychgatelaw11.ShapeOrder'. -/
def shapeOrderUptoCard : Claim7 := { stood := { row := shapeOrderUptoRow, standIns := [], harness := (true, "a2df6d52c3d3baead3f5ba2f9f391e2226701c99b785c56cc8918d6b1f5d78d8"), looks := true }, kinds := [], alts := [], laidByText := true, laidKinds := [.data, .data, .data, .sentinel, .sentinel], laidTests := true, laidLooks := .later }
def ShapeOrderUptoCardSaid : Prop := Claim7.holds Tryd.pinned (.plain (OpenSpec.upto shapeOrderSpec)) shapeOrderUptoCard
end Rows
end Go.Proofs.YtchmejlaancegaaDoor
