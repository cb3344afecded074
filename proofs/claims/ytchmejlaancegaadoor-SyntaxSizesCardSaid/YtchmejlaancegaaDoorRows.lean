/-
  NARROWER THAN 'FOR EVERY INPUT', by the rows' own cells (each row's printed sentence says how): SyntaxSizes: laid · SyntaxPlaces: laid · SyntaxBlanks: laid · SyntaxFirst: laid · SyntaxJoined: laid · SyntaxWords: laid · ShapeFacts: laid · ShapeMeans: laid · ShapeSound: laid · ShapeFirst: laid · ShapeOrder: laid.
  DERIVED. THE GIVEN ROWS OF THIS SEAT. 11 by the template 'for every input the law returns true; each argument reads behind the call as it read before'; 0 by the template 'total and deterministic' (their statements: YtchmejlaancegaaDoorTotals.lean).
  GIVEN WITH THE SEED: the statements are not yours to turn. If you find one false, say at which input.
  Laid BY PROGRAM, IN A SANDBOX (cutbox-rows.mjs): the forced cells as the released guide's own fill.sh prints them over the translation e9112b5c660e7ac5… (all of the seat's roots in one cut). By AI agents, Wed Nov 11 2026. No macro, syntax, notation, axiom, sorry.
-/
import Derived.Test.YtchmejlaancegaaDoorChecked
import GoSem.Claim
import GoSem.ClaimJoined
import GoSem.ClaimMapViews
import Derived.JoinedTies
import Derived.KernelRfl
namespace Go.Proofs.YtchmejlaancegaaDoor
/- THE CELL 'sum', in the pinned program and in every row, IS THE sha256 OF THE DUMP (.gsa) THAT YtchmejlaancegaaDoorProg.lean LOADS. Nothing in Lean hashes anything: it is a label: what it is worth is what the hold of that sum in a sandbox is worth. -/
noncomputable def Tryd.pinned : Pinned := { name := "ytchmejlaancegaadoor", sum := "e9112b5c660e7ac57387ad0fdb8826605e04a9ab1b761eae2d0f97bcf71f1744", checked := Tryd.checked }
namespace Rows
def none {H : Type} : Left H := { results := [], args := [] }

/- WHAT THE LISTED PACKAGE-LEVEL VARIABLES READ AS WHEN THE CALL BEGINS. Each datum BY PROGRAM (the guide's laid-datum.mjs) off the statement by which the dump's own 'gosem.cut.vars' lays the variable. In a bare row this is a premise. The card (YtchmejlaancegaaDoorCards.lean) ties it to the program's text. -/
def laid_math_bits_deBruijn32tab {H : Type} : DataW H := .agg [.lit (.int .u8 0), .lit (.int .u8 1), .lit (.int .u8 28), .lit (.int .u8 2), .lit (.int .u8 29), .lit (.int .u8 14), .lit (.int .u8 24), .lit (.int .u8 3), .lit (.int .u8 30), .lit (.int .u8 22), .lit (.int .u8 20), .lit (.int .u8 15), .lit (.int .u8 25), .lit (.int .u8 17), .lit (.int .u8 4), .lit (.int .u8 8), .lit (.int .u8 31), .lit (.int .u8 27), .lit (.int .u8 13), .lit (.int .u8 23), .lit (.int .u8 21), .lit (.int .u8 19), .lit (.int .u8 16), .lit (.int .u8 7), .lit (.int .u8 26), .lit (.int .u8 12), .lit (.int .u8 18), .lit (.int .u8 6), .lit (.int .u8 11), .lit (.int .u8 5), .lit (.int .u8 10), .lit (.int .u8 9)]
def laid_math_bits_deBruijn64tab {H : Type} : DataW H := .agg [.lit (.int .u8 0), .lit (.int .u8 1), .lit (.int .u8 56), .lit (.int .u8 2), .lit (.int .u8 57), .lit (.int .u8 49), .lit (.int .u8 28), .lit (.int .u8 3), .lit (.int .u8 61), .lit (.int .u8 58), .lit (.int .u8 42), .lit (.int .u8 50), .lit (.int .u8 38), .lit (.int .u8 29), .lit (.int .u8 17), .lit (.int .u8 4), .lit (.int .u8 62), .lit (.int .u8 47), .lit (.int .u8 59), .lit (.int .u8 36), .lit (.int .u8 45), .lit (.int .u8 43), .lit (.int .u8 51), .lit (.int .u8 22), .lit (.int .u8 53), .lit (.int .u8 39), .lit (.int .u8 33), .lit (.int .u8 30), .lit (.int .u8 24), .lit (.int .u8 18), .lit (.int .u8 12), .lit (.int .u8 5), .lit (.int .u8 63), .lit (.int .u8 55), .lit (.int .u8 48), .lit (.int .u8 27), .lit (.int .u8 60), .lit (.int .u8 41), .lit (.int .u8 37), .lit (.int .u8 16), .lit (.int .u8 46), .lit (.int .u8 35), .lit (.int .u8 44), .lit (.int .u8 21), .lit (.int .u8 52), .lit (.int .u8 32), .lit (.int .u8 23), .lit (.int .u8 11), .lit (.int .u8 54), .lit (.int .u8 26), .lit (.int .u8 40), .lit (.int .u8 15), .lit (.int .u8 34), .lit (.int .u8 20), .lit (.int .u8 31), .lit (.int .u8 10), .lit (.int .u8 25), .lit (.int .u8 14), .lit (.int .u8 19), .lit (.int .u8 9), .lit (.int .u8 13), .lit (.int .u8 8), .lit (.int .u8 7), .lit (.int .u8 6)]
def laid_internal_strconv_uint64pow10 {H : Type} : DataW H := .agg [.lit (.int .u64 1), .lit (.int .u64 10), .lit (.int .u64 100), .lit (.int .u64 1000), .lit (.int .u64 10000), .lit (.int .u64 100000), .lit (.int .u64 1000000), .lit (.int .u64 10000000), .lit (.int .u64 100000000), .lit (.int .u64 1000000000), .lit (.int .u64 10000000000), .lit (.int .u64 100000000000), .lit (.int .u64 1000000000000), .lit (.int .u64 10000000000000), .lit (.int .u64 100000000000000), .lit (.int .u64 1000000000000000), .lit (.int .u64 10000000000000000), .lit (.int .u64 100000000000000000), .lit (.int .u64 1000000000000000000), .lit (.int .u64 10000000000000000000)]
def laid_strconv_ErrRange {H : Type} : DataW H := .iface "*errors.errorString" (.ptr (.agg [.lit (.string [118, 97, 108, 117, 101, 32, 111, 117, 116, 32, 111, 102, 32, 114, 97, 110, 103, 101])]))
def laid_strconv_ErrSyntax {H : Type} : DataW H := .iface "*errors.errorString" (.ptr (.agg [.lit (.string [105, 110, 118, 97, 108, 105, 100, 32, 115, 121, 110, 116, 97, 120])]))

/-- 'lychgatelaw02.SyntaxSizes': WHATEVER THE INPUT: true; the input reads as it did. -/
def syntaxSizesSpec : ChangeSpec := { name := "syntaxSizes", fn := fun _ => fun
  | [d1, d2] => { results := [.lit (.bool true)], args := [d1, d2] }
  | _ => none }
def syntaxSizesRow : OpenClaim := { program := "ytchmejlaancegaadoor", sum := "e9112b5c660e7ac57387ad0fdb8826605e04a9ab1b761eae2d0f97bcf71f1744", func := "lychgate/lychgatelaw02.SyntaxSizes", spec := "syntaxSizes", inPlace := ["internal/bytealg.IndexByteString"], unfollowed := true, recurses := true, named := ["strconv.ErrSyntax", "strconv.ErrRange", "internal/strconv.uint64pow10", "math/bits.deBruijn32tab", "math/bits.deBruijn64tab"], apart := false, laid := [("math/bits.deBruijn32tab", laid_math_bits_deBruijn32tab), ("math/bits.deBruijn64tab", laid_math_bits_deBruijn64tab), ("internal/strconv.uint64pow10", laid_internal_strconv_uint64pow10), ("strconv.ErrRange", laid_strconv_ErrRange), ("strconv.ErrSyntax", laid_strconv_ErrSyntax)] }
def SyntaxSizesSaid : Prop := syntaxSizesRow.holds Tryd.pinned (OpenSpec.ofChange syntaxSizesSpec)

/-- ITS FALSE NEIGHBOUR: 'it returns false'. Refute it at one input. -/
def syntaxSizesWrong : ChangeSpec := { name := "syntaxSizes", fn := fun _ => fun
  | [d1, d2] => { results := [.lit (.bool false)], args := [d1, d2] }
  | _ => none }
def SyntaxSizesWrongFalsely : Prop := syntaxSizesRow.holds Tryd.pinned (OpenSpec.ofChange syntaxSizesWrong)

/-- 'lychgatelaw02.SyntaxPlaces': WHATEVER THE INPUT: true; the input reads as it did. -/
def syntaxPlacesSpec : ChangeSpec := { name := "syntaxPlaces", fn := fun _ => fun
  | [d1, d2] => { results := [.lit (.bool true)], args := [d1, d2] }
  | _ => none }
def syntaxPlacesRow : OpenClaim := { program := "ytchmejlaancegaadoor", sum := "e9112b5c660e7ac57387ad0fdb8826605e04a9ab1b761eae2d0f97bcf71f1744", func := "lychgate/lychgatelaw02.SyntaxPlaces", spec := "syntaxPlaces", inPlace := ["internal/bytealg.IndexByteString"], unfollowed := true, recurses := true, named := ["strconv.ErrSyntax", "strconv.ErrRange", "internal/strconv.uint64pow10", "math/bits.deBruijn32tab", "math/bits.deBruijn64tab"], apart := false, laid := [("math/bits.deBruijn32tab", laid_math_bits_deBruijn32tab), ("math/bits.deBruijn64tab", laid_math_bits_deBruijn64tab), ("internal/strconv.uint64pow10", laid_internal_strconv_uint64pow10), ("strconv.ErrRange", laid_strconv_ErrRange), ("strconv.ErrSyntax", laid_strconv_ErrSyntax)] }
def SyntaxPlacesSaid : Prop := syntaxPlacesRow.holds Tryd.pinned (OpenSpec.ofChange syntaxPlacesSpec)

/-- ITS FALSE NEIGHBOUR: 'it returns false'. Refute it at one input. -/
def syntaxPlacesWrong : ChangeSpec := { name := "syntaxPlaces", fn := fun _ => fun
  | [d1, d2] => { results := [.lit (.bool false)], args := [d1, d2] }
  | _ => none }
def SyntaxPlacesWrongFalsely : Prop := syntaxPlacesRow.holds Tryd.pinned (OpenSpec.ofChange syntaxPlacesWrong)

/-- 'lychgatelaw02.SyntaxBlanks': WHATEVER THE INPUT: true; the input reads as it did. -/
def syntaxBlanksSpec : ChangeSpec := { name := "syntaxBlanks", fn := fun _ => fun
  | [d] => { results := [.lit (.bool true)], args := [d] }
  | _ => none }
def syntaxBlanksRow : OpenClaim := { program := "ytchmejlaancegaadoor", sum := "e9112b5c660e7ac57387ad0fdb8826605e04a9ab1b761eae2d0f97bcf71f1744", func := "lychgate/lychgatelaw02.SyntaxBlanks", spec := "syntaxBlanks", inPlace := ["internal/bytealg.IndexByteString"], unfollowed := true, recurses := true, named := ["strconv.ErrSyntax", "strconv.ErrRange", "internal/strconv.uint64pow10", "math/bits.deBruijn32tab", "math/bits.deBruijn64tab"], apart := false, laid := [("math/bits.deBruijn32tab", laid_math_bits_deBruijn32tab), ("math/bits.deBruijn64tab", laid_math_bits_deBruijn64tab), ("internal/strconv.uint64pow10", laid_internal_strconv_uint64pow10), ("strconv.ErrRange", laid_strconv_ErrRange), ("strconv.ErrSyntax", laid_strconv_ErrSyntax)] }
def SyntaxBlanksSaid : Prop := syntaxBlanksRow.holds Tryd.pinned (OpenSpec.ofChange syntaxBlanksSpec)

/-- ITS FALSE NEIGHBOUR: 'it returns false'. Refute it at one input. -/
def syntaxBlanksWrong : ChangeSpec := { name := "syntaxBlanks", fn := fun _ => fun
  | [d] => { results := [.lit (.bool false)], args := [d] }
  | _ => none }
def SyntaxBlanksWrongFalsely : Prop := syntaxBlanksRow.holds Tryd.pinned (OpenSpec.ofChange syntaxBlanksWrong)

/-- 'lychgatelaw02.SyntaxFirst': WHATEVER THE INPUT: true; the input reads as it did. -/
def syntaxFirstSpec : ChangeSpec := { name := "syntaxFirst", fn := fun _ => fun
  | [d1, d2] => { results := [.lit (.bool true)], args := [d1, d2] }
  | _ => none }
def syntaxFirstRow : OpenClaim := { program := "ytchmejlaancegaadoor", sum := "e9112b5c660e7ac57387ad0fdb8826605e04a9ab1b761eae2d0f97bcf71f1744", func := "lychgate/lychgatelaw02.SyntaxFirst", spec := "syntaxFirst", inPlace := ["internal/bytealg.IndexByteString"], unfollowed := true, recurses := true, named := ["strconv.ErrSyntax", "strconv.ErrRange", "internal/strconv.uint64pow10", "math/bits.deBruijn32tab", "math/bits.deBruijn64tab"], apart := false, laid := [("math/bits.deBruijn32tab", laid_math_bits_deBruijn32tab), ("math/bits.deBruijn64tab", laid_math_bits_deBruijn64tab), ("internal/strconv.uint64pow10", laid_internal_strconv_uint64pow10), ("strconv.ErrRange", laid_strconv_ErrRange), ("strconv.ErrSyntax", laid_strconv_ErrSyntax)] }
def SyntaxFirstSaid : Prop := syntaxFirstRow.holds Tryd.pinned (OpenSpec.ofChange syntaxFirstSpec)

/-- ITS FALSE NEIGHBOUR: 'it returns false'. Refute it at one input. -/
def syntaxFirstWrong : ChangeSpec := { name := "syntaxFirst", fn := fun _ => fun
  | [d1, d2] => { results := [.lit (.bool false)], args := [d1, d2] }
  | _ => none }
def SyntaxFirstWrongFalsely : Prop := syntaxFirstRow.holds Tryd.pinned (OpenSpec.ofChange syntaxFirstWrong)

/-- 'lychgatelaw02.SyntaxJoined': WHATEVER THE INPUT: true; the input reads as it did. -/
def syntaxJoinedSpec : ChangeSpec := { name := "syntaxJoined", fn := fun _ => fun
  | [d1, d2] => { results := [.lit (.bool true)], args := [d1, d2] }
  | _ => none }
def syntaxJoinedRow : OpenClaim := { program := "ytchmejlaancegaadoor", sum := "e9112b5c660e7ac57387ad0fdb8826605e04a9ab1b761eae2d0f97bcf71f1744", func := "lychgate/lychgatelaw02.SyntaxJoined", spec := "syntaxJoined", inPlace := ["internal/bytealg.IndexByteString"], unfollowed := true, recurses := true, named := ["strconv.ErrSyntax", "strconv.ErrRange", "internal/strconv.uint64pow10", "math/bits.deBruijn32tab", "math/bits.deBruijn64tab"], apart := false, laid := [("math/bits.deBruijn32tab", laid_math_bits_deBruijn32tab), ("math/bits.deBruijn64tab", laid_math_bits_deBruijn64tab), ("internal/strconv.uint64pow10", laid_internal_strconv_uint64pow10), ("strconv.ErrRange", laid_strconv_ErrRange), ("strconv.ErrSyntax", laid_strconv_ErrSyntax)] }
def SyntaxJoinedSaid : Prop := syntaxJoinedRow.holds Tryd.pinned (OpenSpec.ofChange syntaxJoinedSpec)

/-- ITS FALSE NEIGHBOUR: 'it returns false'. Refute it at one input. -/
def syntaxJoinedWrong : ChangeSpec := { name := "syntaxJoined", fn := fun _ => fun
  | [d1, d2] => { results := [.lit (.bool false)], args := [d1, d2] }
  | _ => none }
def SyntaxJoinedWrongFalsely : Prop := syntaxJoinedRow.holds Tryd.pinned (OpenSpec.ofChange syntaxJoinedWrong)

/-- 'lychgatelaw02.SyntaxWords': WHATEVER THE INPUT: true; the input reads as it did. -/
def syntaxWordsSpec : ChangeSpec := { name := "syntaxWords", fn := fun _ => fun
  | [d] => { results := [.lit (.bool true)], args := [d] }
  | _ => none }
def syntaxWordsRow : OpenClaim := { program := "ytchmejlaancegaadoor", sum := "e9112b5c660e7ac57387ad0fdb8826605e04a9ab1b761eae2d0f97bcf71f1744", func := "lychgate/lychgatelaw02.SyntaxWords", spec := "syntaxWords", inPlace := ["internal/bytealg.IndexByteString"], unfollowed := true, recurses := true, named := ["strconv.ErrSyntax", "strconv.ErrRange", "internal/strconv.uint64pow10", "math/bits.deBruijn32tab", "math/bits.deBruijn64tab"], apart := false, laid := [("math/bits.deBruijn32tab", laid_math_bits_deBruijn32tab), ("math/bits.deBruijn64tab", laid_math_bits_deBruijn64tab), ("internal/strconv.uint64pow10", laid_internal_strconv_uint64pow10), ("strconv.ErrRange", laid_strconv_ErrRange), ("strconv.ErrSyntax", laid_strconv_ErrSyntax)] }
def SyntaxWordsSaid : Prop := syntaxWordsRow.holds Tryd.pinned (OpenSpec.ofChange syntaxWordsSpec)

/-- ITS FALSE NEIGHBOUR: 'it returns false'. Refute it at one input. -/
def syntaxWordsWrong : ChangeSpec := { name := "syntaxWords", fn := fun _ => fun
  | [d] => { results := [.lit (.bool false)], args := [d] }
  | _ => none }
def SyntaxWordsWrongFalsely : Prop := syntaxWordsRow.holds Tryd.pinned (OpenSpec.ofChange syntaxWordsWrong)

/-- 'lychgatelaw11.ShapeFacts': WHATEVER THE INPUT: true; the input reads as it did. -/
def shapeFactsSpec : ChangeSpec := { name := "shapeFacts", fn := fun _ => fun
  | [d] => { results := [.lit (.bool true)], args := [d] }
  | _ => none }
def shapeFactsRow : OpenClaim := { program := "ytchmejlaancegaadoor", sum := "e9112b5c660e7ac57387ad0fdb8826605e04a9ab1b761eae2d0f97bcf71f1744", func := "lychgate/lychgatelaw11.ShapeFacts", spec := "shapeFacts", inPlace := ["internal/bytealg.IndexByteString"], unfollowed := true, recurses := true, named := ["strconv.ErrSyntax", "strconv.ErrRange", "internal/strconv.uint64pow10", "math/bits.deBruijn32tab", "math/bits.deBruijn64tab"], apart := false, laid := [("math/bits.deBruijn32tab", laid_math_bits_deBruijn32tab), ("math/bits.deBruijn64tab", laid_math_bits_deBruijn64tab), ("internal/strconv.uint64pow10", laid_internal_strconv_uint64pow10), ("strconv.ErrRange", laid_strconv_ErrRange), ("strconv.ErrSyntax", laid_strconv_ErrSyntax)] }
def ShapeFactsSaid : Prop := shapeFactsRow.holds Tryd.pinned (OpenSpec.ofChange shapeFactsSpec)

/-- ITS FALSE NEIGHBOUR: 'it returns false'. Refute it at one input. -/
def shapeFactsWrong : ChangeSpec := { name := "shapeFacts", fn := fun _ => fun
  | [d] => { results := [.lit (.bool false)], args := [d] }
  | _ => none }
def ShapeFactsWrongFalsely : Prop := shapeFactsRow.holds Tryd.pinned (OpenSpec.ofChange shapeFactsWrong)

/-- 'lychgatelaw11.ShapeMeans': WHATEVER THE INPUT: true; the input reads as it did. -/
def shapeMeansSpec : ChangeSpec := { name := "shapeMeans", fn := fun _ => fun
  | [d1, d2, d3] => { results := [.lit (.bool true)], args := [d1, d2, d3] }
  | _ => none }
def shapeMeansRow : OpenClaim := { program := "ytchmejlaancegaadoor", sum := "e9112b5c660e7ac57387ad0fdb8826605e04a9ab1b761eae2d0f97bcf71f1744", func := "lychgate/lychgatelaw11.ShapeMeans", spec := "shapeMeans", inPlace := ["internal/bytealg.IndexByteString"], unfollowed := true, recurses := true, named := ["strconv.ErrSyntax", "strconv.ErrRange", "internal/strconv.uint64pow10", "math/bits.deBruijn32tab", "math/bits.deBruijn64tab"], apart := false, laid := [("math/bits.deBruijn32tab", laid_math_bits_deBruijn32tab), ("math/bits.deBruijn64tab", laid_math_bits_deBruijn64tab), ("internal/strconv.uint64pow10", laid_internal_strconv_uint64pow10), ("strconv.ErrRange", laid_strconv_ErrRange), ("strconv.ErrSyntax", laid_strconv_ErrSyntax)] }
def ShapeMeansSaid : Prop := shapeMeansRow.holds Tryd.pinned (OpenSpec.ofChange shapeMeansSpec)

/-- ITS FALSE NEIGHBOUR: 'it returns false'. Refute it at one input. -/
def shapeMeansWrong : ChangeSpec := { name := "shapeMeans", fn := fun _ => fun
  | [d1, d2, d3] => { results := [.lit (.bool false)], args := [d1, d2, d3] }
  | _ => none }
def ShapeMeansWrongFalsely : Prop := shapeMeansRow.holds Tryd.pinned (OpenSpec.ofChange shapeMeansWrong)

/-- 'lychgatelaw11.ShapeSound': WHATEVER THE INPUT: true; the input reads as it did. -/
def shapeSoundSpec : ChangeSpec := { name := "shapeSound", fn := fun _ => fun
  | [d] => { results := [.lit (.bool true)], args := [d] }
  | _ => none }
def shapeSoundRow : OpenClaim := { program := "ytchmejlaancegaadoor", sum := "e9112b5c660e7ac57387ad0fdb8826605e04a9ab1b761eae2d0f97bcf71f1744", func := "lychgate/lychgatelaw11.ShapeSound", spec := "shapeSound", inPlace := ["internal/bytealg.IndexByteString"], unfollowed := true, recurses := true, named := ["strconv.ErrSyntax", "strconv.ErrRange", "internal/strconv.uint64pow10", "math/bits.deBruijn32tab", "math/bits.deBruijn64tab"], apart := false, laid := [("math/bits.deBruijn32tab", laid_math_bits_deBruijn32tab), ("math/bits.deBruijn64tab", laid_math_bits_deBruijn64tab), ("internal/strconv.uint64pow10", laid_internal_strconv_uint64pow10), ("strconv.ErrRange", laid_strconv_ErrRange), ("strconv.ErrSyntax", laid_strconv_ErrSyntax)] }
def ShapeSoundSaid : Prop := shapeSoundRow.holds Tryd.pinned (OpenSpec.ofChange shapeSoundSpec)

/-- ITS FALSE NEIGHBOUR: 'it returns false'. Refute it at one input. -/
def shapeSoundWrong : ChangeSpec := { name := "shapeSound", fn := fun _ => fun
  | [d] => { results := [.lit (.bool false)], args := [d] }
  | _ => none }
def ShapeSoundWrongFalsely : Prop := shapeSoundRow.holds Tryd.pinned (OpenSpec.ofChange shapeSoundWrong)

/-- 'lychgatelaw11.ShapeFirst': WHATEVER THE INPUT: true; the input reads as it did. -/
def shapeFirstSpec : ChangeSpec := { name := "shapeFirst", fn := fun _ => fun
  | [d1, d2] => { results := [.lit (.bool true)], args := [d1, d2] }
  | _ => none }
def shapeFirstRow : OpenClaim := { program := "ytchmejlaancegaadoor", sum := "e9112b5c660e7ac57387ad0fdb8826605e04a9ab1b761eae2d0f97bcf71f1744", func := "lychgate/lychgatelaw11.ShapeFirst", spec := "shapeFirst", inPlace := ["internal/bytealg.IndexByteString"], unfollowed := true, recurses := true, named := ["strconv.ErrSyntax", "strconv.ErrRange", "internal/strconv.uint64pow10", "math/bits.deBruijn32tab", "math/bits.deBruijn64tab"], apart := false, laid := [("math/bits.deBruijn32tab", laid_math_bits_deBruijn32tab), ("math/bits.deBruijn64tab", laid_math_bits_deBruijn64tab), ("internal/strconv.uint64pow10", laid_internal_strconv_uint64pow10), ("strconv.ErrRange", laid_strconv_ErrRange), ("strconv.ErrSyntax", laid_strconv_ErrSyntax)] }
def ShapeFirstSaid : Prop := shapeFirstRow.holds Tryd.pinned (OpenSpec.ofChange shapeFirstSpec)

/-- ITS FALSE NEIGHBOUR: 'it returns false'. Refute it at one input. -/
def shapeFirstWrong : ChangeSpec := { name := "shapeFirst", fn := fun _ => fun
  | [d1, d2] => { results := [.lit (.bool false)], args := [d1, d2] }
  | _ => none }
def ShapeFirstWrongFalsely : Prop := shapeFirstRow.holds Tryd.pinned (OpenSpec.ofChange shapeFirstWrong)

/-- 'lychgatelaw11.ShapeOrder': WHATEVER THE INPUT: true; the input reads as it did. -/
def shapeOrderSpec : ChangeSpec := { name := "shapeOrder", fn := fun _ => fun
  | [d] => { results := [.lit (.bool true)], args := [d] }
  | _ => none }
def shapeOrderRow : OpenClaim := { program := "ytchmejlaancegaadoor", sum := "e9112b5c660e7ac57387ad0fdb8826605e04a9ab1b761eae2d0f97bcf71f1744", func := "lychgate/lychgatelaw11.ShapeOrder", spec := "shapeOrder", inPlace := ["internal/bytealg.IndexByteString"], unfollowed := true, recurses := true, named := ["strconv.ErrSyntax", "strconv.ErrRange", "internal/strconv.uint64pow10", "math/bits.deBruijn32tab", "math/bits.deBruijn64tab"], apart := false, laid := [("math/bits.deBruijn32tab", laid_math_bits_deBruijn32tab), ("math/bits.deBruijn64tab", laid_math_bits_deBruijn64tab), ("internal/strconv.uint64pow10", laid_internal_strconv_uint64pow10), ("strconv.ErrRange", laid_strconv_ErrRange), ("strconv.ErrSyntax", laid_strconv_ErrSyntax)] }
def ShapeOrderSaid : Prop := shapeOrderRow.holds Tryd.pinned (OpenSpec.ofChange shapeOrderSpec)

/-- ITS FALSE NEIGHBOUR: 'it returns false'. Refute it at one input. -/
def shapeOrderWrong : ChangeSpec := { name := "shapeOrder", fn := fun _ => fun
  | [d] => { results := [.lit (.bool false)], args := [d] }
  | _ => none }
def ShapeOrderWrongFalsely : Prop := shapeOrderRow.holds Tryd.pinned (OpenSpec.ofChange shapeOrderWrong)

/- THE SECOND FORM. 'bulk': how many values and letters a reading holds, each counted each time it is reached (what is shared counts as often as it is met; a slice's spare places count too). A statement '..UptoSaid' is the law's where the arguments, and the package variables that the reading takes, are together of bulk at most 1048576: NARROWER than '..Said'. Prove '..Said' where nothing that the law and all that it calls make is longer than what came in: it says more and counts as full. Else prove '..UptoSaid'. A law counts once. -/
mutual
def uptoBulk {H : Type} : DataW H → Nat
  | .lit (.string bytes) => bytes.length + 1
  | .lit _ => 1
  | .nil => 1
  | .ptr d => uptoBulk d + 1
  | .slice elems spare => uptoBulkAll elems + uptoBulkAll spare + 1
  | .agg parts => uptoBulkAll parts + 1
  | .iface _ d => uptoBulk d + 1
  | .map entries => uptoBulkEntries entries + 1
  | .held _ => 1
def uptoBulkAll {H : Type} : List (DataW H) → Nat
  | [] => 0
  | d :: r => uptoBulk d + uptoBulkAll r
def uptoBulkEntries {H : Type} : List (Lit × DataW H) → Nat
  | [] => 0
  | x :: r => uptoBulkEntry x + uptoBulkEntries r
def uptoBulkEntry {H : Type} : Lit × DataW H → Nat
  | (.string bytes, d) => bytes.length + uptoBulk d + 1
  | (_, d) => uptoBulk d + 1
 end
def uptoSmall : (H : Type) → List (DataW H) → Bool := fun _ ds => decide (uptoBulkAll ds ≤ 1048576)
def OpenSpec.upto (s : _root_.Go.ChangeSpec) : _root_.Go.OpenSpec := { _root_.Go.OpenSpec.ofChange s with cond := some uptoSmall }

/-- 'lychgatelaw02.SyntaxSizes', WHERE WHAT IT READS IS OF BULK AT MOST 1048576: true; the input reads as it did. -/
def syntaxSizesUptoRow : OpenClaim := { program := "ytchmejlaancegaadoor", sum := "e9112b5c660e7ac57387ad0fdb8826605e04a9ab1b761eae2d0f97bcf71f1744", func := "lychgate/lychgatelaw02.SyntaxSizes", spec := "syntaxSizes", inPlace := ["internal/bytealg.IndexByteString"], unfollowed := true, recurses := true, named := ["strconv.ErrSyntax", "strconv.ErrRange", "internal/strconv.uint64pow10", "math/bits.deBruijn32tab", "math/bits.deBruijn64tab"], apart := false, laid := [("math/bits.deBruijn32tab", laid_math_bits_deBruijn32tab), ("math/bits.deBruijn64tab", laid_math_bits_deBruijn64tab), ("internal/strconv.uint64pow10", laid_internal_strconv_uint64pow10), ("strconv.ErrRange", laid_strconv_ErrRange), ("strconv.ErrSyntax", laid_strconv_ErrSyntax)], narrowed := true }
def SyntaxSizesUptoSaid : Prop := syntaxSizesUptoRow.holds Tryd.pinned (OpenSpec.upto syntaxSizesSpec)

/-- 'lychgatelaw02.SyntaxPlaces', WHERE WHAT IT READS IS OF BULK AT MOST 1048576: true; the input reads as it did. -/
def syntaxPlacesUptoRow : OpenClaim := { program := "ytchmejlaancegaadoor", sum := "e9112b5c660e7ac57387ad0fdb8826605e04a9ab1b761eae2d0f97bcf71f1744", func := "lychgate/lychgatelaw02.SyntaxPlaces", spec := "syntaxPlaces", inPlace := ["internal/bytealg.IndexByteString"], unfollowed := true, recurses := true, named := ["strconv.ErrSyntax", "strconv.ErrRange", "internal/strconv.uint64pow10", "math/bits.deBruijn32tab", "math/bits.deBruijn64tab"], apart := false, laid := [("math/bits.deBruijn32tab", laid_math_bits_deBruijn32tab), ("math/bits.deBruijn64tab", laid_math_bits_deBruijn64tab), ("internal/strconv.uint64pow10", laid_internal_strconv_uint64pow10), ("strconv.ErrRange", laid_strconv_ErrRange), ("strconv.ErrSyntax", laid_strconv_ErrSyntax)], narrowed := true }
def SyntaxPlacesUptoSaid : Prop := syntaxPlacesUptoRow.holds Tryd.pinned (OpenSpec.upto syntaxPlacesSpec)

/-- 'lychgatelaw02.SyntaxBlanks', WHERE WHAT IT READS IS OF BULK AT MOST 1048576: true; the input reads as it did. -/
def syntaxBlanksUptoRow : OpenClaim := { program := "ytchmejlaancegaadoor", sum := "e9112b5c660e7ac57387ad0fdb8826605e04a9ab1b761eae2d0f97bcf71f1744", func := "lychgate/lychgatelaw02.SyntaxBlanks", spec := "syntaxBlanks", inPlace := ["internal/bytealg.IndexByteString"], unfollowed := true, recurses := true, named := ["strconv.ErrSyntax", "strconv.ErrRange", "internal/strconv.uint64pow10", "math/bits.deBruijn32tab", "math/bits.deBruijn64tab"], apart := false, laid := [("math/bits.deBruijn32tab", laid_math_bits_deBruijn32tab), ("math/bits.deBruijn64tab", laid_math_bits_deBruijn64tab), ("internal/strconv.uint64pow10", laid_internal_strconv_uint64pow10), ("strconv.ErrRange", laid_strconv_ErrRange), ("strconv.ErrSyntax", laid_strconv_ErrSyntax)], narrowed := true }
def SyntaxBlanksUptoSaid : Prop := syntaxBlanksUptoRow.holds Tryd.pinned (OpenSpec.upto syntaxBlanksSpec)

/-- 'lychgatelaw02.SyntaxFirst', WHERE WHAT IT READS IS OF BULK AT MOST 1048576: true; the input reads as it did. -/
def syntaxFirstUptoRow : OpenClaim := { program := "ytchmejlaancegaadoor", sum := "e9112b5c660e7ac57387ad0fdb8826605e04a9ab1b761eae2d0f97bcf71f1744", func := "lychgate/lychgatelaw02.SyntaxFirst", spec := "syntaxFirst", inPlace := ["internal/bytealg.IndexByteString"], unfollowed := true, recurses := true, named := ["strconv.ErrSyntax", "strconv.ErrRange", "internal/strconv.uint64pow10", "math/bits.deBruijn32tab", "math/bits.deBruijn64tab"], apart := false, laid := [("math/bits.deBruijn32tab", laid_math_bits_deBruijn32tab), ("math/bits.deBruijn64tab", laid_math_bits_deBruijn64tab), ("internal/strconv.uint64pow10", laid_internal_strconv_uint64pow10), ("strconv.ErrRange", laid_strconv_ErrRange), ("strconv.ErrSyntax", laid_strconv_ErrSyntax)], narrowed := true }
def SyntaxFirstUptoSaid : Prop := syntaxFirstUptoRow.holds Tryd.pinned (OpenSpec.upto syntaxFirstSpec)

/-- 'lychgatelaw02.SyntaxJoined', WHERE WHAT IT READS IS OF BULK AT MOST 1048576: true; the input reads as it did. -/
def syntaxJoinedUptoRow : OpenClaim := { program := "ytchmejlaancegaadoor", sum := "e9112b5c660e7ac57387ad0fdb8826605e04a9ab1b761eae2d0f97bcf71f1744", func := "lychgate/lychgatelaw02.SyntaxJoined", spec := "syntaxJoined", inPlace := ["internal/bytealg.IndexByteString"], unfollowed := true, recurses := true, named := ["strconv.ErrSyntax", "strconv.ErrRange", "internal/strconv.uint64pow10", "math/bits.deBruijn32tab", "math/bits.deBruijn64tab"], apart := false, laid := [("math/bits.deBruijn32tab", laid_math_bits_deBruijn32tab), ("math/bits.deBruijn64tab", laid_math_bits_deBruijn64tab), ("internal/strconv.uint64pow10", laid_internal_strconv_uint64pow10), ("strconv.ErrRange", laid_strconv_ErrRange), ("strconv.ErrSyntax", laid_strconv_ErrSyntax)], narrowed := true }
def SyntaxJoinedUptoSaid : Prop := syntaxJoinedUptoRow.holds Tryd.pinned (OpenSpec.upto syntaxJoinedSpec)

/-- 'lychgatelaw02.SyntaxWords', WHERE WHAT IT READS IS OF BULK AT MOST 1048576: true; the input reads as it did. -/
def syntaxWordsUptoRow : OpenClaim := { program := "ytchmejlaancegaadoor", sum := "e9112b5c660e7ac57387ad0fdb8826605e04a9ab1b761eae2d0f97bcf71f1744", func := "lychgate/lychgatelaw02.SyntaxWords", spec := "syntaxWords", inPlace := ["internal/bytealg.IndexByteString"], unfollowed := true, recurses := true, named := ["strconv.ErrSyntax", "strconv.ErrRange", "internal/strconv.uint64pow10", "math/bits.deBruijn32tab", "math/bits.deBruijn64tab"], apart := false, laid := [("math/bits.deBruijn32tab", laid_math_bits_deBruijn32tab), ("math/bits.deBruijn64tab", laid_math_bits_deBruijn64tab), ("internal/strconv.uint64pow10", laid_internal_strconv_uint64pow10), ("strconv.ErrRange", laid_strconv_ErrRange), ("strconv.ErrSyntax", laid_strconv_ErrSyntax)], narrowed := true }
def SyntaxWordsUptoSaid : Prop := syntaxWordsUptoRow.holds Tryd.pinned (OpenSpec.upto syntaxWordsSpec)

/-- 'lychgatelaw11.ShapeFacts', WHERE WHAT IT READS IS OF BULK AT MOST 1048576: true; the input reads as it did. -/
def shapeFactsUptoRow : OpenClaim := { program := "ytchmejlaancegaadoor", sum := "e9112b5c660e7ac57387ad0fdb8826605e04a9ab1b761eae2d0f97bcf71f1744", func := "lychgate/lychgatelaw11.ShapeFacts", spec := "shapeFacts", inPlace := ["internal/bytealg.IndexByteString"], unfollowed := true, recurses := true, named := ["strconv.ErrSyntax", "strconv.ErrRange", "internal/strconv.uint64pow10", "math/bits.deBruijn32tab", "math/bits.deBruijn64tab"], apart := false, laid := [("math/bits.deBruijn32tab", laid_math_bits_deBruijn32tab), ("math/bits.deBruijn64tab", laid_math_bits_deBruijn64tab), ("internal/strconv.uint64pow10", laid_internal_strconv_uint64pow10), ("strconv.ErrRange", laid_strconv_ErrRange), ("strconv.ErrSyntax", laid_strconv_ErrSyntax)], narrowed := true }
def ShapeFactsUptoSaid : Prop := shapeFactsUptoRow.holds Tryd.pinned (OpenSpec.upto shapeFactsSpec)

/-- 'lychgatelaw11.ShapeMeans', WHERE WHAT IT READS IS OF BULK AT MOST 1048576: true; the input reads as it did. -/
def shapeMeansUptoRow : OpenClaim := { program := "ytchmejlaancegaadoor", sum := "e9112b5c660e7ac57387ad0fdb8826605e04a9ab1b761eae2d0f97bcf71f1744", func := "lychgate/lychgatelaw11.ShapeMeans", spec := "shapeMeans", inPlace := ["internal/bytealg.IndexByteString"], unfollowed := true, recurses := true, named := ["strconv.ErrSyntax", "strconv.ErrRange", "internal/strconv.uint64pow10", "math/bits.deBruijn32tab", "math/bits.deBruijn64tab"], apart := false, laid := [("math/bits.deBruijn32tab", laid_math_bits_deBruijn32tab), ("math/bits.deBruijn64tab", laid_math_bits_deBruijn64tab), ("internal/strconv.uint64pow10", laid_internal_strconv_uint64pow10), ("strconv.ErrRange", laid_strconv_ErrRange), ("strconv.ErrSyntax", laid_strconv_ErrSyntax)], narrowed := true }
def ShapeMeansUptoSaid : Prop := shapeMeansUptoRow.holds Tryd.pinned (OpenSpec.upto shapeMeansSpec)

/-- 'lychgatelaw11.ShapeSound', WHERE WHAT IT READS IS OF BULK AT MOST 1048576: true; the input reads as it did. -/
def shapeSoundUptoRow : OpenClaim := { program := "ytchmejlaancegaadoor", sum := "e9112b5c660e7ac57387ad0fdb8826605e04a9ab1b761eae2d0f97bcf71f1744", func := "lychgate/lychgatelaw11.ShapeSound", spec := "shapeSound", inPlace := ["internal/bytealg.IndexByteString"], unfollowed := true, recurses := true, named := ["strconv.ErrSyntax", "strconv.ErrRange", "internal/strconv.uint64pow10", "math/bits.deBruijn32tab", "math/bits.deBruijn64tab"], apart := false, laid := [("math/bits.deBruijn32tab", laid_math_bits_deBruijn32tab), ("math/bits.deBruijn64tab", laid_math_bits_deBruijn64tab), ("internal/strconv.uint64pow10", laid_internal_strconv_uint64pow10), ("strconv.ErrRange", laid_strconv_ErrRange), ("strconv.ErrSyntax", laid_strconv_ErrSyntax)], narrowed := true }
def ShapeSoundUptoSaid : Prop := shapeSoundUptoRow.holds Tryd.pinned (OpenSpec.upto shapeSoundSpec)

/-- 'lychgatelaw11.ShapeFirst', WHERE WHAT IT READS IS OF BULK AT MOST 1048576: true; the input reads as it did. -/
def shapeFirstUptoRow : OpenClaim := { program := "ytchmejlaancegaadoor", sum := "e9112b5c660e7ac57387ad0fdb8826605e04a9ab1b761eae2d0f97bcf71f1744", func := "lychgate/lychgatelaw11.ShapeFirst", spec := "shapeFirst", inPlace := ["internal/bytealg.IndexByteString"], unfollowed := true, recurses := true, named := ["strconv.ErrSyntax", "strconv.ErrRange", "internal/strconv.uint64pow10", "math/bits.deBruijn32tab", "math/bits.deBruijn64tab"], apart := false, laid := [("math/bits.deBruijn32tab", laid_math_bits_deBruijn32tab), ("math/bits.deBruijn64tab", laid_math_bits_deBruijn64tab), ("internal/strconv.uint64pow10", laid_internal_strconv_uint64pow10), ("strconv.ErrRange", laid_strconv_ErrRange), ("strconv.ErrSyntax", laid_strconv_ErrSyntax)], narrowed := true }
def ShapeFirstUptoSaid : Prop := shapeFirstUptoRow.holds Tryd.pinned (OpenSpec.upto shapeFirstSpec)

/-- 'lychgatelaw11.ShapeOrder', WHERE WHAT IT READS IS OF BULK AT MOST 1048576: true; the input reads as it did. -/
def shapeOrderUptoRow : OpenClaim := { program := "ytchmejlaancegaadoor", sum := "e9112b5c660e7ac57387ad0fdb8826605e04a9ab1b761eae2d0f97bcf71f1744", func := "lychgate/lychgatelaw11.ShapeOrder", spec := "shapeOrder", inPlace := ["internal/bytealg.IndexByteString"], unfollowed := true, recurses := true, named := ["strconv.ErrSyntax", "strconv.ErrRange", "internal/strconv.uint64pow10", "math/bits.deBruijn32tab", "math/bits.deBruijn64tab"], apart := false, laid := [("math/bits.deBruijn32tab", laid_math_bits_deBruijn32tab), ("math/bits.deBruijn64tab", laid_math_bits_deBruijn64tab), ("internal/strconv.uint64pow10", laid_internal_strconv_uint64pow10), ("strconv.ErrRange", laid_strconv_ErrRange), ("strconv.ErrSyntax", laid_strconv_ErrSyntax)], narrowed := true }
def ShapeOrderUptoSaid : Prop := shapeOrderUptoRow.holds Tryd.pinned (OpenSpec.upto shapeOrderSpec)

end Rows
end Go.Proofs.YtchmejlaancegaaDoor
