/-
  NARROWER THAN 'FOR EVERY INPUT', by the rows' own cells (each row's printed sentence says how): RealPrints: laid · RealRoots: laid · RealParses: laid · RealOrders: laid · RealMoves: laid · RealBetween: laid · RealFloors: laid · RealCompares: laid · RealMinimal: laid · RealEncloses: laid · RealMakes: laid · RealChecks: laid · RationalSimplest: laid · RationalPrints: laid.
  DERIVED. THE GIVEN ROWS OF THIS SEAT. 14 by the template 'for every input the law returns true; each argument reads behind the call as it read before'; 0 by the template 'total and deterministic' (their statements: YthdaimoankaciaaGreatDoorTotals.lean).
  GIVEN WITH THE SEED: the statements are not yours to turn. If you find one false, say at which input.
  Laid BY PROGRAM, IN A SANDBOX (cutbox-rows.mjs): the forced cells as the released guide's own fill.sh prints them over the translation 1c66c505387591bd… (all of the seat's roots in one cut). By AI agents, Wed Nov 11 2026. No macro, syntax, notation, axiom, sorry.
-/
import Derived.Test.YthdaimoankaciaaGreatDoorChecked
import GoSem.PinnedTables
import GoSem.Claim
import GoSem.ClaimJoined
import GoSem.ClaimMapViews
import Derived.JoinedTies
import Derived.KernelRfl
namespace Go.Proofs.YthdaimoankaciaaGreatDoor
/- THE CELL 'sum', in the pinned program and in every row, IS THE sha256 OF THE DUMP (.gsa) THAT YthdaimoankaciaaGreatDoorProg.lean LOADS. Nothing in Lean hashes anything: it is a label: what it is worth is what the hold of that sum in a sandbox is worth. -/
noncomputable def Tryz.pinned : Pinned := { name := "ythdaimoankaciaagreatdoor", sum := "1c66c505387591bdbe3e77f7887d9bc364d971c723c5426977054c6c96f84938", checked := Tryz.checked }
namespace Rows
def none {H : Type} : Left H := { results := [], args := [] }

/- WHAT THE LISTED PACKAGE-LEVEL VARIABLES READ AS WHEN THE CALL BEGINS. Each datum BY PROGRAM (the guide's laid-datum.mjs) off the statement by which the dump's own 'gosem.cut.vars' lays the variable. In a bare row this is a premise. The card (YthdaimoankaciaaGreatDoorCards.lean) ties it to the program's text. -/
def laid_unicode_utf8_acceptRanges {H : Type} : DataW H := .agg [.agg [.lit (.int .u8 128), .lit (.int .u8 191)], .agg [.lit (.int .u8 160), .lit (.int .u8 191)], .agg [.lit (.int .u8 128), .lit (.int .u8 159)], .agg [.lit (.int .u8 144), .lit (.int .u8 191)], .agg [.lit (.int .u8 128), .lit (.int .u8 143)], .agg [.lit (.int .u8 0), .lit (.int .u8 0)], .agg [.lit (.int .u8 0), .lit (.int .u8 0)], .agg [.lit (.int .u8 0), .lit (.int .u8 0)], .agg [.lit (.int .u8 0), .lit (.int .u8 0)], .agg [.lit (.int .u8 0), .lit (.int .u8 0)], .agg [.lit (.int .u8 0), .lit (.int .u8 0)], .agg [.lit (.int .u8 0), .lit (.int .u8 0)], .agg [.lit (.int .u8 0), .lit (.int .u8 0)], .agg [.lit (.int .u8 0), .lit (.int .u8 0)], .agg [.lit (.int .u8 0), .lit (.int .u8 0)], .agg [.lit (.int .u8 0), .lit (.int .u8 0)]]
/-- One of Go's own tables, pinned by name: the form's constant. -/
def laid_unicode_utf8_first : DataW Unit := Go.Pinned.utf8First

/-- 'viatorlaw03.RealPrints': WHATEVER THE INPUT: true; the input reads as it did. -/
def realPrintsSpec : ChangeSpec := { name := "realPrints", fn := fun _ => fun
  | [d] => { results := [.lit (.bool true)], args := [d] }
  | _ => none }
def realPrintsRow : OpenClaim := { program := "ythdaimoankaciaagreatdoor", sum := "1c66c505387591bdbe3e77f7887d9bc364d971c723c5426977054c6c96f84938", func := "viator/viatorlaw03.RealPrints", spec := "realPrints", inPlace := ["internal/bytealg.IndexByteString", "internal/bytealg.IndexString", "internal/bytealg.abigen_runtime_cmpstring", "math/bits.Add64", "internal/abi.NoEscape", "internal/bytealg.MakeNoZero"], recurses := true, named := ["unicode/utf8.first", "unicode/utf8.acceptRanges", "internal/bytealg.MaxLen"], apart := false, laid := [("unicode/utf8.acceptRanges", laid_unicode_utf8_acceptRanges), ("unicode/utf8.first", laid_unicode_utf8_first)] }
def RealPrintsSaid : Prop := realPrintsRow.holds Tryz.pinned (OpenSpec.ofChange realPrintsSpec)

/-- ITS FALSE NEIGHBOUR: 'it returns false'. Refute it at one input. -/
def realPrintsWrong : ChangeSpec := { name := "realPrints", fn := fun _ => fun
  | [d] => { results := [.lit (.bool false)], args := [d] }
  | _ => none }
def RealPrintsWrongFalsely : Prop := realPrintsRow.holds Tryz.pinned (OpenSpec.ofChange realPrintsWrong)

/-- 'viatorlaw03.RealRoots': WHATEVER THE INPUT: true; the input reads as it did. -/
def realRootsSpec : ChangeSpec := { name := "realRoots", fn := fun _ => fun
  | [d] => { results := [.lit (.bool true)], args := [d] }
  | _ => none }
def realRootsRow : OpenClaim := { program := "ythdaimoankaciaagreatdoor", sum := "1c66c505387591bdbe3e77f7887d9bc364d971c723c5426977054c6c96f84938", func := "viator/viatorlaw03.RealRoots", spec := "realRoots", inPlace := ["internal/bytealg.IndexByteString", "internal/bytealg.IndexString", "internal/bytealg.abigen_runtime_cmpstring", "math/bits.Add64", "internal/abi.NoEscape", "internal/bytealg.MakeNoZero"], recurses := true, named := ["unicode/utf8.first", "unicode/utf8.acceptRanges", "internal/bytealg.MaxLen"], apart := false, laid := [("unicode/utf8.acceptRanges", laid_unicode_utf8_acceptRanges), ("unicode/utf8.first", laid_unicode_utf8_first)] }
def RealRootsSaid : Prop := realRootsRow.holds Tryz.pinned (OpenSpec.ofChange realRootsSpec)

/-- ITS FALSE NEIGHBOUR: 'it returns false'. Refute it at one input. -/
def realRootsWrong : ChangeSpec := { name := "realRoots", fn := fun _ => fun
  | [d] => { results := [.lit (.bool false)], args := [d] }
  | _ => none }
def RealRootsWrongFalsely : Prop := realRootsRow.holds Tryz.pinned (OpenSpec.ofChange realRootsWrong)

/-- 'viatorlaw03.RealParses': WHATEVER THE INPUT: true; the input reads as it did. -/
def realParsesSpec : ChangeSpec := { name := "realParses", fn := fun _ => fun
  | [d] => { results := [.lit (.bool true)], args := [d] }
  | _ => none }
def realParsesRow : OpenClaim := { program := "ythdaimoankaciaagreatdoor", sum := "1c66c505387591bdbe3e77f7887d9bc364d971c723c5426977054c6c96f84938", func := "viator/viatorlaw03.RealParses", spec := "realParses", inPlace := ["internal/bytealg.IndexByteString", "internal/bytealg.IndexString", "internal/bytealg.abigen_runtime_cmpstring", "math/bits.Add64", "internal/abi.NoEscape", "internal/bytealg.MakeNoZero"], recurses := true, named := ["unicode/utf8.first", "unicode/utf8.acceptRanges", "internal/bytealg.MaxLen"], apart := false, laid := [("unicode/utf8.acceptRanges", laid_unicode_utf8_acceptRanges), ("unicode/utf8.first", laid_unicode_utf8_first)] }
def RealParsesSaid : Prop := realParsesRow.holds Tryz.pinned (OpenSpec.ofChange realParsesSpec)

/-- ITS FALSE NEIGHBOUR: 'it returns false'. Refute it at one input. -/
def realParsesWrong : ChangeSpec := { name := "realParses", fn := fun _ => fun
  | [d] => { results := [.lit (.bool false)], args := [d] }
  | _ => none }
def RealParsesWrongFalsely : Prop := realParsesRow.holds Tryz.pinned (OpenSpec.ofChange realParsesWrong)

/-- 'viatorlaw03.RealOrders': WHATEVER THE INPUT: true; the input reads as it did. -/
def realOrdersSpec : ChangeSpec := { name := "realOrders", fn := fun _ => fun
  | [d1, d2, d3] => { results := [.lit (.bool true)], args := [d1, d2, d3] }
  | _ => none }
def realOrdersRow : OpenClaim := { program := "ythdaimoankaciaagreatdoor", sum := "1c66c505387591bdbe3e77f7887d9bc364d971c723c5426977054c6c96f84938", func := "viator/viatorlaw03.RealOrders", spec := "realOrders", inPlace := ["internal/bytealg.IndexByteString", "internal/bytealg.IndexString", "internal/bytealg.abigen_runtime_cmpstring", "math/bits.Add64", "internal/abi.NoEscape", "internal/bytealg.MakeNoZero"], recurses := true, named := ["unicode/utf8.first", "unicode/utf8.acceptRanges", "internal/bytealg.MaxLen"], apart := false, laid := [("unicode/utf8.acceptRanges", laid_unicode_utf8_acceptRanges), ("unicode/utf8.first", laid_unicode_utf8_first)] }
def RealOrdersSaid : Prop := realOrdersRow.holds Tryz.pinned (OpenSpec.ofChange realOrdersSpec)

/-- ITS FALSE NEIGHBOUR: 'it returns false'. Refute it at one input. -/
def realOrdersWrong : ChangeSpec := { name := "realOrders", fn := fun _ => fun
  | [d1, d2, d3] => { results := [.lit (.bool false)], args := [d1, d2, d3] }
  | _ => none }
def RealOrdersWrongFalsely : Prop := realOrdersRow.holds Tryz.pinned (OpenSpec.ofChange realOrdersWrong)

/-- 'viatorlaw03.RealMoves': WHATEVER THE INPUT: true; the input reads as it did. -/
def realMovesSpec : ChangeSpec := { name := "realMoves", fn := fun _ => fun
  | [d1, d2] => { results := [.lit (.bool true)], args := [d1, d2] }
  | _ => none }
def realMovesRow : OpenClaim := { program := "ythdaimoankaciaagreatdoor", sum := "1c66c505387591bdbe3e77f7887d9bc364d971c723c5426977054c6c96f84938", func := "viator/viatorlaw03.RealMoves", spec := "realMoves", inPlace := ["internal/bytealg.IndexByteString", "internal/bytealg.IndexString", "internal/bytealg.abigen_runtime_cmpstring", "math/bits.Add64", "internal/abi.NoEscape", "internal/bytealg.MakeNoZero"], recurses := true, named := ["unicode/utf8.first", "unicode/utf8.acceptRanges", "internal/bytealg.MaxLen"], apart := false, laid := [("unicode/utf8.acceptRanges", laid_unicode_utf8_acceptRanges), ("unicode/utf8.first", laid_unicode_utf8_first)] }
def RealMovesSaid : Prop := realMovesRow.holds Tryz.pinned (OpenSpec.ofChange realMovesSpec)

/-- ITS FALSE NEIGHBOUR: 'it returns false'. Refute it at one input. -/
def realMovesWrong : ChangeSpec := { name := "realMoves", fn := fun _ => fun
  | [d1, d2] => { results := [.lit (.bool false)], args := [d1, d2] }
  | _ => none }
def RealMovesWrongFalsely : Prop := realMovesRow.holds Tryz.pinned (OpenSpec.ofChange realMovesWrong)

/-- 'viatorlaw03.RealBetween': WHATEVER THE INPUT: true; the input reads as it did. -/
def realBetweenSpec : ChangeSpec := { name := "realBetween", fn := fun _ => fun
  | [d1, d2] => { results := [.lit (.bool true)], args := [d1, d2] }
  | _ => none }
def realBetweenRow : OpenClaim := { program := "ythdaimoankaciaagreatdoor", sum := "1c66c505387591bdbe3e77f7887d9bc364d971c723c5426977054c6c96f84938", func := "viator/viatorlaw03.RealBetween", spec := "realBetween", inPlace := ["internal/bytealg.IndexByteString", "internal/bytealg.IndexString", "internal/bytealg.abigen_runtime_cmpstring", "math/bits.Add64", "internal/abi.NoEscape", "internal/bytealg.MakeNoZero"], recurses := true, named := ["unicode/utf8.first", "unicode/utf8.acceptRanges", "internal/bytealg.MaxLen"], apart := false, laid := [("unicode/utf8.acceptRanges", laid_unicode_utf8_acceptRanges), ("unicode/utf8.first", laid_unicode_utf8_first)] }
def RealBetweenSaid : Prop := realBetweenRow.holds Tryz.pinned (OpenSpec.ofChange realBetweenSpec)

/-- ITS FALSE NEIGHBOUR: 'it returns false'. Refute it at one input. -/
def realBetweenWrong : ChangeSpec := { name := "realBetween", fn := fun _ => fun
  | [d1, d2] => { results := [.lit (.bool false)], args := [d1, d2] }
  | _ => none }
def RealBetweenWrongFalsely : Prop := realBetweenRow.holds Tryz.pinned (OpenSpec.ofChange realBetweenWrong)

/-- 'viatorlaw03.RealFloors': WHATEVER THE INPUT: true; the input reads as it did. -/
def realFloorsSpec : ChangeSpec := { name := "realFloors", fn := fun _ => fun
  | [d] => { results := [.lit (.bool true)], args := [d] }
  | _ => none }
def realFloorsRow : OpenClaim := { program := "ythdaimoankaciaagreatdoor", sum := "1c66c505387591bdbe3e77f7887d9bc364d971c723c5426977054c6c96f84938", func := "viator/viatorlaw03.RealFloors", spec := "realFloors", inPlace := ["internal/bytealg.IndexByteString", "internal/bytealg.IndexString", "internal/bytealg.abigen_runtime_cmpstring", "math/bits.Add64", "internal/abi.NoEscape", "internal/bytealg.MakeNoZero"], recurses := true, named := ["unicode/utf8.first", "unicode/utf8.acceptRanges", "internal/bytealg.MaxLen"], apart := false, laid := [("unicode/utf8.acceptRanges", laid_unicode_utf8_acceptRanges), ("unicode/utf8.first", laid_unicode_utf8_first)] }
def RealFloorsSaid : Prop := realFloorsRow.holds Tryz.pinned (OpenSpec.ofChange realFloorsSpec)

/-- ITS FALSE NEIGHBOUR: 'it returns false'. Refute it at one input. -/
def realFloorsWrong : ChangeSpec := { name := "realFloors", fn := fun _ => fun
  | [d] => { results := [.lit (.bool false)], args := [d] }
  | _ => none }
def RealFloorsWrongFalsely : Prop := realFloorsRow.holds Tryz.pinned (OpenSpec.ofChange realFloorsWrong)

/-- 'viatorlaw03.RealCompares': WHATEVER THE INPUT: true; the input reads as it did. -/
def realComparesSpec : ChangeSpec := { name := "realCompares", fn := fun _ => fun
  | [d1, d2] => { results := [.lit (.bool true)], args := [d1, d2] }
  | _ => none }
def realComparesRow : OpenClaim := { program := "ythdaimoankaciaagreatdoor", sum := "1c66c505387591bdbe3e77f7887d9bc364d971c723c5426977054c6c96f84938", func := "viator/viatorlaw03.RealCompares", spec := "realCompares", inPlace := ["internal/bytealg.IndexByteString", "internal/bytealg.IndexString", "internal/bytealg.abigen_runtime_cmpstring", "math/bits.Add64", "internal/abi.NoEscape", "internal/bytealg.MakeNoZero"], recurses := true, named := ["unicode/utf8.first", "unicode/utf8.acceptRanges", "internal/bytealg.MaxLen"], apart := false, laid := [("unicode/utf8.acceptRanges", laid_unicode_utf8_acceptRanges), ("unicode/utf8.first", laid_unicode_utf8_first)] }
def RealComparesSaid : Prop := realComparesRow.holds Tryz.pinned (OpenSpec.ofChange realComparesSpec)

/-- ITS FALSE NEIGHBOUR: 'it returns false'. Refute it at one input. -/
def realComparesWrong : ChangeSpec := { name := "realCompares", fn := fun _ => fun
  | [d1, d2] => { results := [.lit (.bool false)], args := [d1, d2] }
  | _ => none }
def RealComparesWrongFalsely : Prop := realComparesRow.holds Tryz.pinned (OpenSpec.ofChange realComparesWrong)

/-- 'viatorlaw03.RealMinimal': WHATEVER THE INPUT: true; the input reads as it did. -/
def realMinimalSpec : ChangeSpec := { name := "realMinimal", fn := fun _ => fun
  | [d] => { results := [.lit (.bool true)], args := [d] }
  | _ => none }
def realMinimalRow : OpenClaim := { program := "ythdaimoankaciaagreatdoor", sum := "1c66c505387591bdbe3e77f7887d9bc364d971c723c5426977054c6c96f84938", func := "viator/viatorlaw03.RealMinimal", spec := "realMinimal", inPlace := ["internal/bytealg.IndexByteString", "internal/bytealg.IndexString", "internal/bytealg.abigen_runtime_cmpstring", "math/bits.Add64", "internal/abi.NoEscape", "internal/bytealg.MakeNoZero"], recurses := true, named := ["unicode/utf8.first", "unicode/utf8.acceptRanges", "internal/bytealg.MaxLen"], apart := false, laid := [("unicode/utf8.acceptRanges", laid_unicode_utf8_acceptRanges), ("unicode/utf8.first", laid_unicode_utf8_first)] }
def RealMinimalSaid : Prop := realMinimalRow.holds Tryz.pinned (OpenSpec.ofChange realMinimalSpec)

/-- ITS FALSE NEIGHBOUR: 'it returns false'. Refute it at one input. -/
def realMinimalWrong : ChangeSpec := { name := "realMinimal", fn := fun _ => fun
  | [d] => { results := [.lit (.bool false)], args := [d] }
  | _ => none }
def RealMinimalWrongFalsely : Prop := realMinimalRow.holds Tryz.pinned (OpenSpec.ofChange realMinimalWrong)

/-- 'viatorlaw03.RealEncloses': WHATEVER THE INPUT: true; the input reads as it did. -/
def realEnclosesSpec : ChangeSpec := { name := "realEncloses", fn := fun _ => fun
  | [d1, d2] => { results := [.lit (.bool true)], args := [d1, d2] }
  | _ => none }
def realEnclosesRow : OpenClaim := { program := "ythdaimoankaciaagreatdoor", sum := "1c66c505387591bdbe3e77f7887d9bc364d971c723c5426977054c6c96f84938", func := "viator/viatorlaw03.RealEncloses", spec := "realEncloses", inPlace := ["internal/bytealg.IndexByteString", "internal/bytealg.IndexString", "internal/bytealg.abigen_runtime_cmpstring", "math/bits.Add64", "internal/abi.NoEscape", "internal/bytealg.MakeNoZero"], recurses := true, named := ["unicode/utf8.first", "unicode/utf8.acceptRanges", "internal/bytealg.MaxLen"], apart := false, laid := [("unicode/utf8.acceptRanges", laid_unicode_utf8_acceptRanges), ("unicode/utf8.first", laid_unicode_utf8_first)] }
def RealEnclosesSaid : Prop := realEnclosesRow.holds Tryz.pinned (OpenSpec.ofChange realEnclosesSpec)

/-- ITS FALSE NEIGHBOUR: 'it returns false'. Refute it at one input. -/
def realEnclosesWrong : ChangeSpec := { name := "realEncloses", fn := fun _ => fun
  | [d1, d2] => { results := [.lit (.bool false)], args := [d1, d2] }
  | _ => none }
def RealEnclosesWrongFalsely : Prop := realEnclosesRow.holds Tryz.pinned (OpenSpec.ofChange realEnclosesWrong)

/-- 'viatorlaw03.RealMakes': WHATEVER THE INPUT: true; the input reads as it did. -/
def realMakesSpec : ChangeSpec := { name := "realMakes", fn := fun _ => fun
  | [d1, d2, d3] => { results := [.lit (.bool true)], args := [d1, d2, d3] }
  | _ => none }
def realMakesRow : OpenClaim := { program := "ythdaimoankaciaagreatdoor", sum := "1c66c505387591bdbe3e77f7887d9bc364d971c723c5426977054c6c96f84938", func := "viator/viatorlaw03.RealMakes", spec := "realMakes", inPlace := ["internal/bytealg.IndexByteString", "internal/bytealg.IndexString", "internal/bytealg.abigen_runtime_cmpstring", "math/bits.Add64", "internal/abi.NoEscape", "internal/bytealg.MakeNoZero"], recurses := true, named := ["unicode/utf8.first", "unicode/utf8.acceptRanges", "internal/bytealg.MaxLen"], apart := false, laid := [("unicode/utf8.acceptRanges", laid_unicode_utf8_acceptRanges), ("unicode/utf8.first", laid_unicode_utf8_first)] }
def RealMakesSaid : Prop := realMakesRow.holds Tryz.pinned (OpenSpec.ofChange realMakesSpec)

/-- ITS FALSE NEIGHBOUR: 'it returns false'. Refute it at one input. -/
def realMakesWrong : ChangeSpec := { name := "realMakes", fn := fun _ => fun
  | [d1, d2, d3] => { results := [.lit (.bool false)], args := [d1, d2, d3] }
  | _ => none }
def RealMakesWrongFalsely : Prop := realMakesRow.holds Tryz.pinned (OpenSpec.ofChange realMakesWrong)

/-- 'viatorlaw03.RealChecks': WHATEVER THE INPUT: true; the input reads as it did. -/
def realChecksSpec : ChangeSpec := { name := "realChecks", fn := fun _ => fun
  | [d1, d2] => { results := [.lit (.bool true)], args := [d1, d2] }
  | _ => none }
def realChecksRow : OpenClaim := { program := "ythdaimoankaciaagreatdoor", sum := "1c66c505387591bdbe3e77f7887d9bc364d971c723c5426977054c6c96f84938", func := "viator/viatorlaw03.RealChecks", spec := "realChecks", inPlace := ["internal/bytealg.IndexByteString", "internal/bytealg.IndexString", "internal/bytealg.abigen_runtime_cmpstring", "math/bits.Add64", "internal/abi.NoEscape", "internal/bytealg.MakeNoZero"], recurses := true, named := ["unicode/utf8.first", "unicode/utf8.acceptRanges", "internal/bytealg.MaxLen"], apart := false, laid := [("unicode/utf8.acceptRanges", laid_unicode_utf8_acceptRanges), ("unicode/utf8.first", laid_unicode_utf8_first)] }
def RealChecksSaid : Prop := realChecksRow.holds Tryz.pinned (OpenSpec.ofChange realChecksSpec)

/-- ITS FALSE NEIGHBOUR: 'it returns false'. Refute it at one input. -/
def realChecksWrong : ChangeSpec := { name := "realChecks", fn := fun _ => fun
  | [d1, d2] => { results := [.lit (.bool false)], args := [d1, d2] }
  | _ => none }
def RealChecksWrongFalsely : Prop := realChecksRow.holds Tryz.pinned (OpenSpec.ofChange realChecksWrong)

/-- 'viatorlaw02.RationalSimplest': WHATEVER THE INPUT: true; the input reads as it did. -/
def rationalSimplestSpec : ChangeSpec := { name := "rationalSimplest", fn := fun _ => fun
  | [d1, d2, d3] => { results := [.lit (.bool true)], args := [d1, d2, d3] }
  | _ => none }
def rationalSimplestRow : OpenClaim := { program := "ythdaimoankaciaagreatdoor", sum := "1c66c505387591bdbe3e77f7887d9bc364d971c723c5426977054c6c96f84938", func := "viator/viatorlaw02.RationalSimplest", spec := "rationalSimplest", inPlace := ["internal/bytealg.abigen_runtime_cmpstring", "internal/bytealg.IndexByteString", "internal/bytealg.IndexString", "math/bits.Add64", "internal/abi.NoEscape", "internal/bytealg.MakeNoZero"], recurses := true, named := ["unicode/utf8.first", "unicode/utf8.acceptRanges", "internal/bytealg.MaxLen"], apart := false, laid := [("unicode/utf8.acceptRanges", laid_unicode_utf8_acceptRanges), ("unicode/utf8.first", laid_unicode_utf8_first)] }
def RationalSimplestSaid : Prop := rationalSimplestRow.holds Tryz.pinned (OpenSpec.ofChange rationalSimplestSpec)

/-- ITS FALSE NEIGHBOUR: 'it returns false'. Refute it at one input. -/
def rationalSimplestWrong : ChangeSpec := { name := "rationalSimplest", fn := fun _ => fun
  | [d1, d2, d3] => { results := [.lit (.bool false)], args := [d1, d2, d3] }
  | _ => none }
def RationalSimplestWrongFalsely : Prop := rationalSimplestRow.holds Tryz.pinned (OpenSpec.ofChange rationalSimplestWrong)

/-- 'viatorlaw02.RationalPrints': WHATEVER THE INPUT: true; the input reads as it did. -/
def rationalPrintsSpec : ChangeSpec := { name := "rationalPrints", fn := fun _ => fun
  | [d1, d2] => { results := [.lit (.bool true)], args := [d1, d2] }
  | _ => none }
def rationalPrintsRow : OpenClaim := { program := "ythdaimoankaciaagreatdoor", sum := "1c66c505387591bdbe3e77f7887d9bc364d971c723c5426977054c6c96f84938", func := "viator/viatorlaw02.RationalPrints", spec := "rationalPrints", inPlace := ["internal/bytealg.IndexByteString", "internal/bytealg.IndexString", "math/bits.Add64", "internal/bytealg.abigen_runtime_cmpstring", "internal/abi.NoEscape", "internal/bytealg.MakeNoZero"], recurses := true, named := ["internal/bytealg.MaxLen", "unicode/utf8.first", "unicode/utf8.acceptRanges"], apart := false, laid := [("unicode/utf8.acceptRanges", laid_unicode_utf8_acceptRanges), ("unicode/utf8.first", laid_unicode_utf8_first)] }
def RationalPrintsSaid : Prop := rationalPrintsRow.holds Tryz.pinned (OpenSpec.ofChange rationalPrintsSpec)

/-- ITS FALSE NEIGHBOUR: 'it returns false'. Refute it at one input. -/
def rationalPrintsWrong : ChangeSpec := { name := "rationalPrints", fn := fun _ => fun
  | [d1, d2] => { results := [.lit (.bool false)], args := [d1, d2] }
  | _ => none }
def RationalPrintsWrongFalsely : Prop := rationalPrintsRow.holds Tryz.pinned (OpenSpec.ofChange rationalPrintsWrong)

/- THE SECOND FORM. 'bulk': how many values and letters a reading holds, each counted each time it is reached (what is shared counts as often as it is met; a slice's spare places count too). A statement '..UptoSaid' is the law's where the arguments, and the package variables that the reading takes, are together of bulk at most 1048576: NARROWER than '..Said'. Prove '..Said' where nothing that the law and all that it calls make is longer than what came in: it says more and counts as full. Else prove '..UptoSaid'. A law counts once. -/
mutual
def uptoBulk {H : Type} : DataW H → Nat
  | .lit (.string bytes) => bytes.length + 1
  | .lit _ => 1
  | .nil => 1
  | .ptr d => uptoBulk d + 1
  | .slice elems spare => uptoBulkAll elems + uptoBulkAll spare + 1
  | .agg parts => uptoBulkAll parts + 1
  | .iface _ d => uptoBulk d + 1
  | .map entries => uptoBulkEntries entries + 1
  | .held _ => 1
def uptoBulkAll {H : Type} : List (DataW H) → Nat
  | [] => 0
  | d :: r => uptoBulk d + uptoBulkAll r
def uptoBulkEntries {H : Type} : List (Lit × DataW H) → Nat
  | [] => 0
  | x :: r => uptoBulkEntry x + uptoBulkEntries r
def uptoBulkEntry {H : Type} : Lit × DataW H → Nat
  | (.string bytes, d) => bytes.length + uptoBulk d + 1
  | (_, d) => uptoBulk d + 1
 end
def uptoSmall : (H : Type) → List (DataW H) → Bool := fun _ ds => decide (uptoBulkAll ds ≤ 1048576)
def OpenSpec.upto (s : _root_.Go.ChangeSpec) : _root_.Go.OpenSpec := { _root_.Go.OpenSpec.ofChange s with cond := some uptoSmall }

/-- 'viatorlaw03.RealPrints', WHERE WHAT IT READS IS OF BULK AT MOST 1048576: true; the input reads as it did. -/
def realPrintsUptoRow : OpenClaim := { program := "ythdaimoankaciaagreatdoor", sum := "1c66c505387591bdbe3e77f7887d9bc364d971c723c5426977054c6c96f84938", func := "viator/viatorlaw03.RealPrints", spec := "realPrints", inPlace := ["internal/bytealg.IndexByteString", "internal/bytealg.IndexString", "internal/bytealg.abigen_runtime_cmpstring", "math/bits.Add64", "internal/abi.NoEscape", "internal/bytealg.MakeNoZero"], recurses := true, named := ["unicode/utf8.first", "unicode/utf8.acceptRanges", "internal/bytealg.MaxLen"], apart := false, laid := [("unicode/utf8.acceptRanges", laid_unicode_utf8_acceptRanges), ("unicode/utf8.first", laid_unicode_utf8_first)], narrowed := true }
def RealPrintsUptoSaid : Prop := realPrintsUptoRow.holds Tryz.pinned (OpenSpec.upto realPrintsSpec)

/-- 'viatorlaw03.RealRoots', WHERE WHAT IT READS IS OF BULK AT MOST 1048576: true; the input reads as it did. -/
def realRootsUptoRow : OpenClaim := { program := "ythdaimoankaciaagreatdoor", sum := "1c66c505387591bdbe3e77f7887d9bc364d971c723c5426977054c6c96f84938", func := "viator/viatorlaw03.RealRoots", spec := "realRoots", inPlace := ["internal/bytealg.IndexByteString", "internal/bytealg.IndexString", "internal/bytealg.abigen_runtime_cmpstring", "math/bits.Add64", "internal/abi.NoEscape", "internal/bytealg.MakeNoZero"], recurses := true, named := ["unicode/utf8.first", "unicode/utf8.acceptRanges", "internal/bytealg.MaxLen"], apart := false, laid := [("unicode/utf8.acceptRanges", laid_unicode_utf8_acceptRanges), ("unicode/utf8.first", laid_unicode_utf8_first)], narrowed := true }
def RealRootsUptoSaid : Prop := realRootsUptoRow.holds Tryz.pinned (OpenSpec.upto realRootsSpec)

/-- 'viatorlaw03.RealParses', WHERE WHAT IT READS IS OF BULK AT MOST 1048576: true; the input reads as it did. -/
def realParsesUptoRow : OpenClaim := { program := "ythdaimoankaciaagreatdoor", sum := "1c66c505387591bdbe3e77f7887d9bc364d971c723c5426977054c6c96f84938", func := "viator/viatorlaw03.RealParses", spec := "realParses", inPlace := ["internal/bytealg.IndexByteString", "internal/bytealg.IndexString", "internal/bytealg.abigen_runtime_cmpstring", "math/bits.Add64", "internal/abi.NoEscape", "internal/bytealg.MakeNoZero"], recurses := true, named := ["unicode/utf8.first", "unicode/utf8.acceptRanges", "internal/bytealg.MaxLen"], apart := false, laid := [("unicode/utf8.acceptRanges", laid_unicode_utf8_acceptRanges), ("unicode/utf8.first", laid_unicode_utf8_first)], narrowed := true }
def RealParsesUptoSaid : Prop := realParsesUptoRow.holds Tryz.pinned (OpenSpec.upto realParsesSpec)

/-- 'viatorlaw03.RealOrders', WHERE WHAT IT READS IS OF BULK AT MOST 1048576: true; the input reads as it did. -/
def realOrdersUptoRow : OpenClaim := { program := "ythdaimoankaciaagreatdoor", sum := "1c66c505387591bdbe3e77f7887d9bc364d971c723c5426977054c6c96f84938", func := "viator/viatorlaw03.RealOrders", spec := "realOrders", inPlace := ["internal/bytealg.IndexByteString", "internal/bytealg.IndexString", "internal/bytealg.abigen_runtime_cmpstring", "math/bits.Add64", "internal/abi.NoEscape", "internal/bytealg.MakeNoZero"], recurses := true, named := ["unicode/utf8.first", "unicode/utf8.acceptRanges", "internal/bytealg.MaxLen"], apart := false, laid := [("unicode/utf8.acceptRanges", laid_unicode_utf8_acceptRanges), ("unicode/utf8.first", laid_unicode_utf8_first)], narrowed := true }
def RealOrdersUptoSaid : Prop := realOrdersUptoRow.holds Tryz.pinned (OpenSpec.upto realOrdersSpec)

/-- 'viatorlaw03.RealMoves', WHERE WHAT IT READS IS OF BULK AT MOST 1048576: true; the input reads as it did. -/
def realMovesUptoRow : OpenClaim := { program := "ythdaimoankaciaagreatdoor", sum := "1c66c505387591bdbe3e77f7887d9bc364d971c723c5426977054c6c96f84938", func := "viator/viatorlaw03.RealMoves", spec := "realMoves", inPlace := ["internal/bytealg.IndexByteString", "internal/bytealg.IndexString", "internal/bytealg.abigen_runtime_cmpstring", "math/bits.Add64", "internal/abi.NoEscape", "internal/bytealg.MakeNoZero"], recurses := true, named := ["unicode/utf8.first", "unicode/utf8.acceptRanges", "internal/bytealg.MaxLen"], apart := false, laid := [("unicode/utf8.acceptRanges", laid_unicode_utf8_acceptRanges), ("unicode/utf8.first", laid_unicode_utf8_first)], narrowed := true }
def RealMovesUptoSaid : Prop := realMovesUptoRow.holds Tryz.pinned (OpenSpec.upto realMovesSpec)

/-- 'viatorlaw03.RealBetween', WHERE WHAT IT READS IS OF BULK AT MOST 1048576: true; the input reads as it did. -/
def realBetweenUptoRow : OpenClaim := { program := "ythdaimoankaciaagreatdoor", sum := "1c66c505387591bdbe3e77f7887d9bc364d971c723c5426977054c6c96f84938", func := "viator/viatorlaw03.RealBetween", spec := "realBetween", inPlace := ["internal/bytealg.IndexByteString", "internal/bytealg.IndexString", "internal/bytealg.abigen_runtime_cmpstring", "math/bits.Add64", "internal/abi.NoEscape", "internal/bytealg.MakeNoZero"], recurses := true, named := ["unicode/utf8.first", "unicode/utf8.acceptRanges", "internal/bytealg.MaxLen"], apart := false, laid := [("unicode/utf8.acceptRanges", laid_unicode_utf8_acceptRanges), ("unicode/utf8.first", laid_unicode_utf8_first)], narrowed := true }
def RealBetweenUptoSaid : Prop := realBetweenUptoRow.holds Tryz.pinned (OpenSpec.upto realBetweenSpec)

/-- 'viatorlaw03.RealFloors', WHERE WHAT IT READS IS OF BULK AT MOST 1048576: true; the input reads as it did. -/
def realFloorsUptoRow : OpenClaim := { program := "ythdaimoankaciaagreatdoor", sum := "1c66c505387591bdbe3e77f7887d9bc364d971c723c5426977054c6c96f84938", func := "viator/viatorlaw03.RealFloors", spec := "realFloors", inPlace := ["internal/bytealg.IndexByteString", "internal/bytealg.IndexString", "internal/bytealg.abigen_runtime_cmpstring", "math/bits.Add64", "internal/abi.NoEscape", "internal/bytealg.MakeNoZero"], recurses := true, named := ["unicode/utf8.first", "unicode/utf8.acceptRanges", "internal/bytealg.MaxLen"], apart := false, laid := [("unicode/utf8.acceptRanges", laid_unicode_utf8_acceptRanges), ("unicode/utf8.first", laid_unicode_utf8_first)], narrowed := true }
def RealFloorsUptoSaid : Prop := realFloorsUptoRow.holds Tryz.pinned (OpenSpec.upto realFloorsSpec)

/-- 'viatorlaw03.RealCompares', WHERE WHAT IT READS IS OF BULK AT MOST 1048576: true; the input reads as it did. -/
def realComparesUptoRow : OpenClaim := { program := "ythdaimoankaciaagreatdoor", sum := "1c66c505387591bdbe3e77f7887d9bc364d971c723c5426977054c6c96f84938", func := "viator/viatorlaw03.RealCompares", spec := "realCompares", inPlace := ["internal/bytealg.IndexByteString", "internal/bytealg.IndexString", "internal/bytealg.abigen_runtime_cmpstring", "math/bits.Add64", "internal/abi.NoEscape", "internal/bytealg.MakeNoZero"], recurses := true, named := ["unicode/utf8.first", "unicode/utf8.acceptRanges", "internal/bytealg.MaxLen"], apart := false, laid := [("unicode/utf8.acceptRanges", laid_unicode_utf8_acceptRanges), ("unicode/utf8.first", laid_unicode_utf8_first)], narrowed := true }
def RealComparesUptoSaid : Prop := realComparesUptoRow.holds Tryz.pinned (OpenSpec.upto realComparesSpec)

/-- 'viatorlaw03.RealMinimal', WHERE WHAT IT READS IS OF BULK AT MOST 1048576: true; the input reads as it did. -/
def realMinimalUptoRow : OpenClaim := { program := "ythdaimoankaciaagreatdoor", sum := "1c66c505387591bdbe3e77f7887d9bc364d971c723c5426977054c6c96f84938", func := "viator/viatorlaw03.RealMinimal", spec := "realMinimal", inPlace := ["internal/bytealg.IndexByteString", "internal/bytealg.IndexString", "internal/bytealg.abigen_runtime_cmpstring", "math/bits.Add64", "internal/abi.NoEscape", "internal/bytealg.MakeNoZero"], recurses := true, named := ["unicode/utf8.first", "unicode/utf8.acceptRanges", "internal/bytealg.MaxLen"], apart := false, laid := [("unicode/utf8.acceptRanges", laid_unicode_utf8_acceptRanges), ("unicode/utf8.first", laid_unicode_utf8_first)], narrowed := true }
def RealMinimalUptoSaid : Prop := realMinimalUptoRow.holds Tryz.pinned (OpenSpec.upto realMinimalSpec)

/-- 'viatorlaw03.RealEncloses', WHERE WHAT IT READS IS OF BULK AT MOST 1048576: true; the input reads as it did. -/
def realEnclosesUptoRow : OpenClaim := { program := "ythdaimoankaciaagreatdoor", sum := "1c66c505387591bdbe3e77f7887d9bc364d971c723c5426977054c6c96f84938", func := "viator/viatorlaw03.RealEncloses", spec := "realEncloses", inPlace := ["internal/bytealg.IndexByteString", "internal/bytealg.IndexString", "internal/bytealg.abigen_runtime_cmpstring", "math/bits.Add64", "internal/abi.NoEscape", "internal/bytealg.MakeNoZero"], recurses := true, named := ["unicode/utf8.first", "unicode/utf8.acceptRanges", "internal/bytealg.MaxLen"], apart := false, laid := [("unicode/utf8.acceptRanges", laid_unicode_utf8_acceptRanges), ("unicode/utf8.first", laid_unicode_utf8_first)], narrowed := true }
def RealEnclosesUptoSaid : Prop := realEnclosesUptoRow.holds Tryz.pinned (OpenSpec.upto realEnclosesSpec)

/-- 'viatorlaw03.RealMakes', WHERE WHAT IT READS IS OF BULK AT MOST 1048576: true; the input reads as it did. -/
def realMakesUptoRow : OpenClaim := { program := "ythdaimoankaciaagreatdoor", sum := "1c66c505387591bdbe3e77f7887d9bc364d971c723c5426977054c6c96f84938", func := "viator/viatorlaw03.RealMakes", spec := "realMakes", inPlace := ["internal/bytealg.IndexByteString", "internal/bytealg.IndexString", "internal/bytealg.abigen_runtime_cmpstring", "math/bits.Add64", "internal/abi.NoEscape", "internal/bytealg.MakeNoZero"], recurses := true, named := ["unicode/utf8.first", "unicode/utf8.acceptRanges", "internal/bytealg.MaxLen"], apart := false, laid := [("unicode/utf8.acceptRanges", laid_unicode_utf8_acceptRanges), ("unicode/utf8.first", laid_unicode_utf8_first)], narrowed := true }
def RealMakesUptoSaid : Prop := realMakesUptoRow.holds Tryz.pinned (OpenSpec.upto realMakesSpec)

/-- 'viatorlaw03.RealChecks', WHERE WHAT IT READS IS OF BULK AT MOST 1048576: true; the input reads as it did. -/
def realChecksUptoRow : OpenClaim := { program := "ythdaimoankaciaagreatdoor", sum := "1c66c505387591bdbe3e77f7887d9bc364d971c723c5426977054c6c96f84938", func := "viator/viatorlaw03.RealChecks", spec := "realChecks", inPlace := ["internal/bytealg.IndexByteString", "internal/bytealg.IndexString", "internal/bytealg.abigen_runtime_cmpstring", "math/bits.Add64", "internal/abi.NoEscape", "internal/bytealg.MakeNoZero"], recurses := true, named := ["unicode/utf8.first", "unicode/utf8.acceptRanges", "internal/bytealg.MaxLen"], apart := false, laid := [("unicode/utf8.acceptRanges", laid_unicode_utf8_acceptRanges), ("unicode/utf8.first", laid_unicode_utf8_first)], narrowed := true }
def RealChecksUptoSaid : Prop := realChecksUptoRow.holds Tryz.pinned (OpenSpec.upto realChecksSpec)

/-- 'viatorlaw02.RationalSimplest', WHERE WHAT IT READS IS OF BULK AT MOST 1048576: true; the input reads as it did. -/
def rationalSimplestUptoRow : OpenClaim := { program := "ythdaimoankaciaagreatdoor", sum := "1c66c505387591bdbe3e77f7887d9bc364d971c723c5426977054c6c96f84938", func := "viator/viatorlaw02.RationalSimplest", spec := "rationalSimplest", inPlace := ["internal/bytealg.abigen_runtime_cmpstring", "internal/bytealg.IndexByteString", "internal/bytealg.IndexString", "math/bits.Add64", "internal/abi.NoEscape", "internal/bytealg.MakeNoZero"], recurses := true, named := ["unicode/utf8.first", "unicode/utf8.acceptRanges", "internal/bytealg.MaxLen"], apart := false, laid := [("unicode/utf8.acceptRanges", laid_unicode_utf8_acceptRanges), ("unicode/utf8.first", laid_unicode_utf8_first)], narrowed := true }
def RationalSimplestUptoSaid : Prop := rationalSimplestUptoRow.holds Tryz.pinned (OpenSpec.upto rationalSimplestSpec)

/-- 'viatorlaw02.RationalPrints', WHERE WHAT IT READS IS OF BULK AT MOST 1048576: true; the input reads as it did. -/
def rationalPrintsUptoRow : OpenClaim := { program := "ythdaimoankaciaagreatdoor", sum := "1c66c505387591bdbe3e77f7887d9bc364d971c723c5426977054c6c96f84938", func := "viator/viatorlaw02.RationalPrints", spec := "rationalPrints", inPlace := ["internal/bytealg.IndexByteString", "internal/bytealg.IndexString", "math/bits.Add64", "internal/bytealg.abigen_runtime_cmpstring", "internal/abi.NoEscape", "internal/bytealg.MakeNoZero"], recurses := true, named := ["internal/bytealg.MaxLen", "unicode/utf8.first", "unicode/utf8.acceptRanges"], apart := false, laid := [("unicode/utf8.acceptRanges", laid_unicode_utf8_acceptRanges), ("unicode/utf8.first", laid_unicode_utf8_first)], narrowed := true }
def RationalPrintsUptoSaid : Prop := rationalPrintsUptoRow.holds Tryz.pinned (OpenSpec.upto rationalPrintsSpec)

end Rows
end Go.Proofs.YthdaimoankaciaaGreatDoor
