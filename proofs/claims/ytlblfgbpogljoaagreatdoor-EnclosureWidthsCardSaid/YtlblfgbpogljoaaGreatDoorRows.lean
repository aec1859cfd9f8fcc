/-
  NARROWER THAN 'FOR EVERY INPUT', by the rows' own cells (each row's printed sentence says how): EnclosureWidths: laid · EnclosureLengths: laid · QuadraticValues: laid · QuadraticRoots: laid · QuadraticSigns: laid · QuadraticWheres: laid · QuadraticExtremes: laid · QuadraticReduces: laid · QuadraticShifts: laid · QuadraticMakes: laid · QuadraticChecks: laid · QuadraticSums: laid · QuadraticProducts: laid.
  DERIVED. THE GIVEN ROWS OF THIS SEAT. 13 by the template 'for every input the law returns true; each argument reads behind the call as it read before'; 0 by the template 'total and deterministic' (their statements: YtlblfgbpogljoaaGreatDoorTotals.lean).
  GIVEN WITH THE SEED: the statements are not yours to turn. If you find one false, say at which input.
  Laid BY PROGRAM, IN A SANDBOX (cutbox-rows.mjs): the forced cells as the released guide's own fill.sh prints them over the translation 265949df2e8d1648… (all of the seat's roots in one cut). By AI agents, Wed Nov 11 2026. No macro, syntax, notation, axiom, sorry.
-/
import Derived.Test.YtlblfgbpogljoaaGreatDoorChecked
import GoSem.PinnedTables
import GoSem.Claim
import GoSem.ClaimJoined
import GoSem.ClaimMapViews
import Derived.JoinedTies
import Derived.KernelRfl
namespace Go.Proofs.YtlblfgbpogljoaaGreatDoor
/- THE CELL 'sum', in the pinned program and in every row, IS THE sha256 OF THE DUMP (.gsa) THAT YtlblfgbpogljoaaGreatDoorProg.lean LOADS. Nothing in Lean hashes anything: it is a label: what it is worth is what the hold of that sum in a sandbox is worth. -/
noncomputable def Tryz.pinned : Pinned := { name := "ytlblfgbpogljoaagreatdoor", sum := "265949df2e8d16487b4fd027bd31f77e243c505bd5f8b18bf55e04c5fb07c764", checked := Tryz.checked }
namespace Rows
def none {H : Type} : Left H := { results := [], args := [] }

/- WHAT THE LISTED PACKAGE-LEVEL VARIABLES READ AS WHEN THE CALL BEGINS. Each datum BY PROGRAM (the guide's laid-datum.mjs) off the statement by which the dump's own 'gosem.cut.vars' lays the variable. In a bare row this is a premise. The card (YtlblfgbpogljoaaGreatDoorCards.lean) ties it to the program's text. -/
def laid_unicode_utf8_acceptRanges {H : Type} : DataW H := .agg [.agg [.lit (.int .u8 128), .lit (.int .u8 191)], .agg [.lit (.int .u8 160), .lit (.int .u8 191)], .agg [.lit (.int .u8 128), .lit (.int .u8 159)], .agg [.lit (.int .u8 144), .lit (.int .u8 191)], .agg [.lit (.int .u8 128), .lit (.int .u8 143)], .agg [.lit (.int .u8 0), .lit (.int .u8 0)], .agg [.lit (.int .u8 0), .lit (.int .u8 0)], .agg [.lit (.int .u8 0), .lit (.int .u8 0)], .agg [.lit (.int .u8 0), .lit (.int .u8 0)], .agg [.lit (.int .u8 0), .lit (.int .u8 0)], .agg [.lit (.int .u8 0), .lit (.int .u8 0)], .agg [.lit (.int .u8 0), .lit (.int .u8 0)], .agg [.lit (.int .u8 0), .lit (.int .u8 0)], .agg [.lit (.int .u8 0), .lit (.int .u8 0)], .agg [.lit (.int .u8 0), .lit (.int .u8 0)], .agg [.lit (.int .u8 0), .lit (.int .u8 0)]]
/-- One of Go's own tables, pinned by name: the form's constant. -/
def laid_unicode_utf8_first : DataW Unit := Go.Pinned.utf8First

/-- 'viatorlaw05.EnclosureWidths': WHATEVER THE INPUT: true; the input reads as it did. -/
def enclosureWidthsSpec : ChangeSpec := { name := "enclosureWidths", fn := fun _ => fun
  | [d1, d2] => { results := [.lit (.bool true)], args := [d1, d2] }
  | _ => none }
def enclosureWidthsRow : OpenClaim := { program := "ytlblfgbpogljoaagreatdoor", sum := "265949df2e8d16487b4fd027bd31f77e243c505bd5f8b18bf55e04c5fb07c764", func := "viator/viatorlaw05.EnclosureWidths", spec := "enclosureWidths", inPlace := ["internal/bytealg.IndexByteString", "internal/bytealg.IndexString", "internal/bytealg.abigen_runtime_cmpstring", "math/bits.Add64", "internal/abi.NoEscape", "internal/bytealg.MakeNoZero"], named := ["unicode/utf8.first", "unicode/utf8.acceptRanges", "internal/bytealg.MaxLen"], apart := false, laid := [("unicode/utf8.acceptRanges", laid_unicode_utf8_acceptRanges), ("unicode/utf8.first", laid_unicode_utf8_first)] }
def EnclosureWidthsSaid : Prop := enclosureWidthsRow.holds Tryz.pinned (OpenSpec.ofChange enclosureWidthsSpec)

/-- ITS FALSE NEIGHBOUR: 'it returns false'. Refute it at one input. -/
def enclosureWidthsWrong : ChangeSpec := { name := "enclosureWidths", fn := fun _ => fun
  | [d1, d2] => { results := [.lit (.bool false)], args := [d1, d2] }
  | _ => none }
def EnclosureWidthsWrongFalsely : Prop := enclosureWidthsRow.holds Tryz.pinned (OpenSpec.ofChange enclosureWidthsWrong)

/-- 'viatorlaw05.EnclosureLengths': WHATEVER THE INPUT: true; the input reads as it did. -/
def enclosureLengthsSpec : ChangeSpec := { name := "enclosureLengths", fn := fun _ => fun
  | [d1, d2] => { results := [.lit (.bool true)], args := [d1, d2] }
  | _ => none }
def enclosureLengthsRow : OpenClaim := { program := "ytlblfgbpogljoaagreatdoor", sum := "265949df2e8d16487b4fd027bd31f77e243c505bd5f8b18bf55e04c5fb07c764", func := "viator/viatorlaw05.EnclosureLengths", spec := "enclosureLengths", inPlace := ["internal/bytealg.IndexByteString", "internal/bytealg.IndexString", "internal/bytealg.abigen_runtime_cmpstring", "math/bits.Add64", "internal/abi.NoEscape", "internal/bytealg.MakeNoZero"], named := ["unicode/utf8.first", "unicode/utf8.acceptRanges", "internal/bytealg.MaxLen"], apart := false, laid := [("unicode/utf8.acceptRanges", laid_unicode_utf8_acceptRanges), ("unicode/utf8.first", laid_unicode_utf8_first)] }
def EnclosureLengthsSaid : Prop := enclosureLengthsRow.holds Tryz.pinned (OpenSpec.ofChange enclosureLengthsSpec)

/-- ITS FALSE NEIGHBOUR: 'it returns false'. Refute it at one input. -/
def enclosureLengthsWrong : ChangeSpec := { name := "enclosureLengths", fn := fun _ => fun
  | [d1, d2] => { results := [.lit (.bool false)], args := [d1, d2] }
  | _ => none }
def EnclosureLengthsWrongFalsely : Prop := enclosureLengthsRow.holds Tryz.pinned (OpenSpec.ofChange enclosureLengthsWrong)

/-- 'viatorlaw04.QuadraticValues': WHATEVER THE INPUT: true; the input reads as it did. -/
def quadraticValuesSpec : ChangeSpec := { name := "quadraticValues", fn := fun _ => fun
  | [d1, d2, d3] => { results := [.lit (.bool true)], args := [d1, d2, d3] }
  | _ => none }
def quadraticValuesRow : OpenClaim := { program := "ytlblfgbpogljoaagreatdoor", sum := "265949df2e8d16487b4fd027bd31f77e243c505bd5f8b18bf55e04c5fb07c764", func := "viator/viatorlaw04.QuadraticValues", spec := "quadraticValues", inPlace := ["internal/bytealg.IndexByteString", "internal/bytealg.IndexString", "internal/bytealg.abigen_runtime_cmpstring", "math/bits.Add64", "internal/abi.NoEscape", "internal/bytealg.MakeNoZero"], unfollowed := true, recurses := true, named := ["unicode/utf8.first", "unicode/utf8.acceptRanges", "internal/bytealg.MaxLen"], apart := false, laid := [("unicode/utf8.acceptRanges", laid_unicode_utf8_acceptRanges), ("unicode/utf8.first", laid_unicode_utf8_first)] }
def QuadraticValuesSaid : Prop := quadraticValuesRow.holds Tryz.pinned (OpenSpec.ofChange quadraticValuesSpec)

/-- ITS FALSE NEIGHBOUR: 'it returns false'. Refute it at one input. -/
def quadraticValuesWrong : ChangeSpec := { name := "quadraticValues", fn := fun _ => fun
  | [d1, d2, d3] => { results := [.lit (.bool false)], args := [d1, d2, d3] }
  | _ => none }
def QuadraticValuesWrongFalsely : Prop := quadraticValuesRow.holds Tryz.pinned (OpenSpec.ofChange quadraticValuesWrong)

/-- 'viatorlaw04.QuadraticRoots': WHATEVER THE INPUT: true; the input reads as it did. -/
def quadraticRootsSpec : ChangeSpec := { name := "quadraticRoots", fn := fun _ => fun
  | [d] => { results := [.lit (.bool true)], args := [d] }
  | _ => none }
def quadraticRootsRow : OpenClaim := { program := "ytlblfgbpogljoaagreatdoor", sum := "265949df2e8d16487b4fd027bd31f77e243c505bd5f8b18bf55e04c5fb07c764", func := "viator/viatorlaw04.QuadraticRoots", spec := "quadraticRoots", inPlace := ["internal/bytealg.IndexByteString", "internal/bytealg.IndexString", "internal/bytealg.abigen_runtime_cmpstring", "math/bits.Add64", "internal/abi.NoEscape", "internal/bytealg.MakeNoZero"], unfollowed := true, recurses := true, named := ["unicode/utf8.first", "unicode/utf8.acceptRanges", "internal/bytealg.MaxLen"], apart := false, laid := [("unicode/utf8.acceptRanges", laid_unicode_utf8_acceptRanges), ("unicode/utf8.first", laid_unicode_utf8_first)] }
def QuadraticRootsSaid : Prop := quadraticRootsRow.holds Tryz.pinned (OpenSpec.ofChange quadraticRootsSpec)

/-- ITS FALSE NEIGHBOUR: 'it returns false'. Refute it at one input. -/
def quadraticRootsWrong : ChangeSpec := { name := "quadraticRoots", fn := fun _ => fun
  | [d] => { results := [.lit (.bool false)], args := [d] }
  | _ => none }
def QuadraticRootsWrongFalsely : Prop := quadraticRootsRow.holds Tryz.pinned (OpenSpec.ofChange quadraticRootsWrong)

/-- 'viatorlaw04.QuadraticSigns': WHATEVER THE INPUT: true; the input reads as it did. -/
def quadraticSignsSpec : ChangeSpec := { name := "quadraticSigns", fn := fun _ => fun
  | [d1, d2, d3] => { results := [.lit (.bool true)], args := [d1, d2, d3] }
  | _ => none }
def quadraticSignsRow : OpenClaim := { program := "ytlblfgbpogljoaagreatdoor", sum := "265949df2e8d16487b4fd027bd31f77e243c505bd5f8b18bf55e04c5fb07c764", func := "viator/viatorlaw04.QuadraticSigns", spec := "quadraticSigns", inPlace := ["internal/bytealg.abigen_runtime_cmpstring", "internal/bytealg.IndexByteString", "internal/bytealg.IndexString", "internal/abi.NoEscape", "internal/bytealg.MakeNoZero", "math/bits.Add64"], unfollowed := true, recurses := true, named := ["unicode/utf8.first", "unicode/utf8.acceptRanges", "internal/bytealg.MaxLen"], apart := false, laid := [("unicode/utf8.acceptRanges", laid_unicode_utf8_acceptRanges), ("unicode/utf8.first", laid_unicode_utf8_first)] }
def QuadraticSignsSaid : Prop := quadraticSignsRow.holds Tryz.pinned (OpenSpec.ofChange quadraticSignsSpec)

/-- ITS FALSE NEIGHBOUR: 'it returns false'. Refute it at one input. -/
def quadraticSignsWrong : ChangeSpec := { name := "quadraticSigns", fn := fun _ => fun
  | [d1, d2, d3] => { results := [.lit (.bool false)], args := [d1, d2, d3] }
  | _ => none }
def QuadraticSignsWrongFalsely : Prop := quadraticSignsRow.holds Tryz.pinned (OpenSpec.ofChange quadraticSignsWrong)

/-- 'viatorlaw04.QuadraticWheres': WHATEVER THE INPUT: true; the input reads as it did. -/
def quadraticWheresSpec : ChangeSpec := { name := "quadraticWheres", fn := fun _ => fun
  | [d1, d2, d3] => { results := [.lit (.bool true)], args := [d1, d2, d3] }
  | _ => none }
def quadraticWheresRow : OpenClaim := { program := "ytlblfgbpogljoaagreatdoor", sum := "265949df2e8d16487b4fd027bd31f77e243c505bd5f8b18bf55e04c5fb07c764", func := "viator/viatorlaw04.QuadraticWheres", spec := "quadraticWheres", inPlace := ["internal/bytealg.abigen_runtime_cmpstring", "internal/bytealg.IndexByteString", "internal/bytealg.IndexString", "internal/abi.NoEscape", "internal/bytealg.MakeNoZero", "math/bits.Add64"], unfollowed := true, recurses := true, named := ["unicode/utf8.first", "unicode/utf8.acceptRanges", "internal/bytealg.MaxLen"], apart := false, laid := [("unicode/utf8.acceptRanges", laid_unicode_utf8_acceptRanges), ("unicode/utf8.first", laid_unicode_utf8_first)] }
def QuadraticWheresSaid : Prop := quadraticWheresRow.holds Tryz.pinned (OpenSpec.ofChange quadraticWheresSpec)

/-- ITS FALSE NEIGHBOUR: 'it returns false'. Refute it at one input. -/
def quadraticWheresWrong : ChangeSpec := { name := "quadraticWheres", fn := fun _ => fun
  | [d1, d2, d3] => { results := [.lit (.bool false)], args := [d1, d2, d3] }
  | _ => none }
def QuadraticWheresWrongFalsely : Prop := quadraticWheresRow.holds Tryz.pinned (OpenSpec.ofChange quadraticWheresWrong)

/-- 'viatorlaw04.QuadraticExtremes': WHATEVER THE INPUT: true; the input reads as it did. -/
def quadraticExtremesSpec : ChangeSpec := { name := "quadraticExtremes", fn := fun _ => fun
  | [d1, d2, d3] => { results := [.lit (.bool true)], args := [d1, d2, d3] }
  | _ => none }
def quadraticExtremesRow : OpenClaim := { program := "ytlblfgbpogljoaagreatdoor", sum := "265949df2e8d16487b4fd027bd31f77e243c505bd5f8b18bf55e04c5fb07c764", func := "viator/viatorlaw04.QuadraticExtremes", spec := "quadraticExtremes", inPlace := ["internal/bytealg.abigen_runtime_cmpstring", "internal/bytealg.IndexByteString", "internal/bytealg.IndexString", "internal/abi.NoEscape", "internal/bytealg.MakeNoZero", "math/bits.Add64"], unfollowed := true, recurses := true, named := ["unicode/utf8.first", "unicode/utf8.acceptRanges", "internal/bytealg.MaxLen"], apart := false, laid := [("unicode/utf8.acceptRanges", laid_unicode_utf8_acceptRanges), ("unicode/utf8.first", laid_unicode_utf8_first)] }
def QuadraticExtremesSaid : Prop := quadraticExtremesRow.holds Tryz.pinned (OpenSpec.ofChange quadraticExtremesSpec)

/-- ITS FALSE NEIGHBOUR: 'it returns false'. Refute it at one input. -/
def quadraticExtremesWrong : ChangeSpec := { name := "quadraticExtremes", fn := fun _ => fun
  | [d1, d2, d3] => { results := [.lit (.bool false)], args := [d1, d2, d3] }
  | _ => none }
def QuadraticExtremesWrongFalsely : Prop := quadraticExtremesRow.holds Tryz.pinned (OpenSpec.ofChange quadraticExtremesWrong)

/-- 'viatorlaw04.QuadraticReduces': WHATEVER THE INPUT: true; the input reads as it did. -/
def quadraticReducesSpec : ChangeSpec := { name := "quadraticReduces", fn := fun _ => fun
  | [d1, d2, d3] => { results := [.lit (.bool true)], args := [d1, d2, d3] }
  | _ => none }
def quadraticReducesRow : OpenClaim := { program := "ytlblfgbpogljoaagreatdoor", sum := "265949df2e8d16487b4fd027bd31f77e243c505bd5f8b18bf55e04c5fb07c764", func := "viator/viatorlaw04.QuadraticReduces", spec := "quadraticReduces", inPlace := ["internal/bytealg.IndexByteString", "internal/bytealg.IndexString", "internal/bytealg.abigen_runtime_cmpstring", "math/bits.Add64", "internal/abi.NoEscape", "internal/bytealg.MakeNoZero"], unfollowed := true, recurses := true, named := ["unicode/utf8.first", "unicode/utf8.acceptRanges", "internal/bytealg.MaxLen"], apart := false, laid := [("unicode/utf8.acceptRanges", laid_unicode_utf8_acceptRanges), ("unicode/utf8.first", laid_unicode_utf8_first)] }
def QuadraticReducesSaid : Prop := quadraticReducesRow.holds Tryz.pinned (OpenSpec.ofChange quadraticReducesSpec)

/-- ITS FALSE NEIGHBOUR: 'it returns false'. Refute it at one input. -/
def quadraticReducesWrong : ChangeSpec := { name := "quadraticReduces", fn := fun _ => fun
  | [d1, d2, d3] => { results := [.lit (.bool false)], args := [d1, d2, d3] }
  | _ => none }
def QuadraticReducesWrongFalsely : Prop := quadraticReducesRow.holds Tryz.pinned (OpenSpec.ofChange quadraticReducesWrong)

/-- 'viatorlaw04.QuadraticShifts': WHATEVER THE INPUT: true; the input reads as it did. -/
def quadraticShiftsSpec : ChangeSpec := { name := "quadraticShifts", fn := fun _ => fun
  | [d1, d2, d3] => { results := [.lit (.bool true)], args := [d1, d2, d3] }
  | _ => none }
def quadraticShiftsRow : OpenClaim := { program := "ytlblfgbpogljoaagreatdoor", sum := "265949df2e8d16487b4fd027bd31f77e243c505bd5f8b18bf55e04c5fb07c764", func := "viator/viatorlaw04.QuadraticShifts", spec := "quadraticShifts", inPlace := ["internal/bytealg.IndexByteString", "internal/bytealg.IndexString", "math/bits.Add64", "internal/bytealg.abigen_runtime_cmpstring", "internal/abi.NoEscape", "internal/bytealg.MakeNoZero"], unfollowed := true, recurses := true, named := ["unicode/utf8.first", "unicode/utf8.acceptRanges", "internal/bytealg.MaxLen"], apart := false, laid := [("unicode/utf8.acceptRanges", laid_unicode_utf8_acceptRanges), ("unicode/utf8.first", laid_unicode_utf8_first)] }
def QuadraticShiftsSaid : Prop := quadraticShiftsRow.holds Tryz.pinned (OpenSpec.ofChange quadraticShiftsSpec)

/-- ITS FALSE NEIGHBOUR: 'it returns false'. Refute it at one input. -/
def quadraticShiftsWrong : ChangeSpec := { name := "quadraticShifts", fn := fun _ => fun
  | [d1, d2, d3] => { results := [.lit (.bool false)], args := [d1, d2, d3] }
  | _ => none }
def QuadraticShiftsWrongFalsely : Prop := quadraticShiftsRow.holds Tryz.pinned (OpenSpec.ofChange quadraticShiftsWrong)

/-- 'viatorlaw04.QuadraticMakes': WHATEVER THE INPUT: true; the input reads as it did. -/
def quadraticMakesSpec : ChangeSpec := { name := "quadraticMakes", fn := fun _ => fun
  | [d1, d2, d3] => { results := [.lit (.bool true)], args := [d1, d2, d3] }
  | _ => none }
def quadraticMakesRow : OpenClaim := { program := "ytlblfgbpogljoaagreatdoor", sum := "265949df2e8d16487b4fd027bd31f77e243c505bd5f8b18bf55e04c5fb07c764", func := "viator/viatorlaw04.QuadraticMakes", spec := "quadraticMakes", inPlace := ["internal/bytealg.IndexByteString", "internal/bytealg.IndexString", "math/bits.Add64", "internal/bytealg.abigen_runtime_cmpstring", "internal/abi.NoEscape", "internal/bytealg.MakeNoZero"], unfollowed := true, recurses := true, named := ["unicode/utf8.first", "unicode/utf8.acceptRanges", "internal/bytealg.MaxLen"], apart := false, laid := [("unicode/utf8.acceptRanges", laid_unicode_utf8_acceptRanges), ("unicode/utf8.first", laid_unicode_utf8_first)] }
def QuadraticMakesSaid : Prop := quadraticMakesRow.holds Tryz.pinned (OpenSpec.ofChange quadraticMakesSpec)

/-- ITS FALSE NEIGHBOUR: 'it returns false'. Refute it at one input. -/
def quadraticMakesWrong : ChangeSpec := { name := "quadraticMakes", fn := fun _ => fun
  | [d1, d2, d3] => { results := [.lit (.bool false)], args := [d1, d2, d3] }
  | _ => none }
def QuadraticMakesWrongFalsely : Prop := quadraticMakesRow.holds Tryz.pinned (OpenSpec.ofChange quadraticMakesWrong)

/-- 'viatorlaw04.QuadraticChecks': WHATEVER THE INPUT: true; the input reads as it did. -/
def quadraticChecksSpec : ChangeSpec := { name := "quadraticChecks", fn := fun _ => fun
  | [d] => { results := [.lit (.bool true)], args := [d] }
  | _ => none }
def quadraticChecksRow : OpenClaim := { program := "ytlblfgbpogljoaagreatdoor", sum := "265949df2e8d16487b4fd027bd31f77e243c505bd5f8b18bf55e04c5fb07c764", func := "viator/viatorlaw04.QuadraticChecks", spec := "quadraticChecks", inPlace := ["internal/bytealg.IndexByteString", "internal/bytealg.IndexString", "internal/bytealg.abigen_runtime_cmpstring", "math/bits.Add64", "internal/abi.NoEscape", "internal/bytealg.MakeNoZero"], unfollowed := true, recurses := true, named := ["unicode/utf8.first", "unicode/utf8.acceptRanges", "internal/bytealg.MaxLen"], apart := false, laid := [("unicode/utf8.acceptRanges", laid_unicode_utf8_acceptRanges), ("unicode/utf8.first", laid_unicode_utf8_first)] }
def QuadraticChecksSaid : Prop := quadraticChecksRow.holds Tryz.pinned (OpenSpec.ofChange quadraticChecksSpec)

/-- ITS FALSE NEIGHBOUR: 'it returns false'. Refute it at one input. -/
def quadraticChecksWrong : ChangeSpec := { name := "quadraticChecks", fn := fun _ => fun
  | [d] => { results := [.lit (.bool false)], args := [d] }
  | _ => none }
def QuadraticChecksWrongFalsely : Prop := quadraticChecksRow.holds Tryz.pinned (OpenSpec.ofChange quadraticChecksWrong)

/-- 'viatorlaw04.QuadraticSums': WHATEVER THE INPUT: true; the input reads as it did. -/
def quadraticSumsSpec : ChangeSpec := { name := "quadraticSums", fn := fun _ => fun
  | [d1, d2, d3] => { results := [.lit (.bool true)], args := [d1, d2, d3] }
  | _ => none }
def quadraticSumsRow : OpenClaim := { program := "ytlblfgbpogljoaagreatdoor", sum := "265949df2e8d16487b4fd027bd31f77e243c505bd5f8b18bf55e04c5fb07c764", func := "viator/viatorlaw04.QuadraticSums", spec := "quadraticSums", inPlace := ["internal/bytealg.IndexByteString", "internal/bytealg.IndexString", "math/bits.Add64", "internal/bytealg.abigen_runtime_cmpstring", "internal/abi.NoEscape", "internal/bytealg.MakeNoZero"], unfollowed := true, recurses := true, named := ["unicode/utf8.first", "unicode/utf8.acceptRanges", "internal/bytealg.MaxLen"], apart := false, laid := [("unicode/utf8.acceptRanges", laid_unicode_utf8_acceptRanges), ("unicode/utf8.first", laid_unicode_utf8_first)] }
def QuadraticSumsSaid : Prop := quadraticSumsRow.holds Tryz.pinned (OpenSpec.ofChange quadraticSumsSpec)

/-- ITS FALSE NEIGHBOUR: 'it returns false'. Refute it at one input. -/
def quadraticSumsWrong : ChangeSpec := { name := "quadraticSums", fn := fun _ => fun
  | [d1, d2, d3] => { results := [.lit (.bool false)], args := [d1, d2, d3] }
  | _ => none }
def QuadraticSumsWrongFalsely : Prop := quadraticSumsRow.holds Tryz.pinned (OpenSpec.ofChange quadraticSumsWrong)

/-- 'viatorlaw04.QuadraticProducts': WHATEVER THE INPUT: true; the input reads as it did. -/
def quadraticProductsSpec : ChangeSpec := { name := "quadraticProducts", fn := fun _ => fun
  | [d1, d2, d3] => { results := [.lit (.bool true)], args := [d1, d2, d3] }
  | _ => none }
def quadraticProductsRow : OpenClaim := { program := "ytlblfgbpogljoaagreatdoor", sum := "265949df2e8d16487b4fd027bd31f77e243c505bd5f8b18bf55e04c5fb07c764", func := "viator/viatorlaw04.QuadraticProducts", spec := "quadraticProducts", inPlace := ["internal/bytealg.IndexByteString", "internal/bytealg.IndexString", "internal/bytealg.abigen_runtime_cmpstring", "math/bits.Add64", "internal/abi.NoEscape", "internal/bytealg.MakeNoZero"], unfollowed := true, recurses := true, named := ["unicode/utf8.first", "unicode/utf8.acceptRanges", "internal/bytealg.MaxLen"], apart := false, laid := [("unicode/utf8.acceptRanges", laid_unicode_utf8_acceptRanges), ("unicode/utf8.first", laid_unicode_utf8_first)] }
def QuadraticProductsSaid : Prop := quadraticProductsRow.holds Tryz.pinned (OpenSpec.ofChange quadraticProductsSpec)

/-- ITS FALSE NEIGHBOUR: 'it returns false'. Refute it at one input. -/
def quadraticProductsWrong : ChangeSpec := { name := "quadraticProducts", fn := fun _ => fun
  | [d1, d2, d3] => { results := [.lit (.bool false)], args := [d1, d2, d3] }
  | _ => none }
def QuadraticProductsWrongFalsely : Prop := quadraticProductsRow.holds Tryz.pinned (OpenSpec.ofChange quadraticProductsWrong)

/- THE SECOND FORM. 'bulk': how many values and letters a reading holds, each counted each time it is reached (what is shared counts as often as it is met; a slice's spare places count too). A statement '..UptoSaid' is the law's where the arguments, and the package variables that the reading takes, are together of bulk at most 1048576: NARROWER than '..Said'. Prove '..Said' where nothing that the law and all that it calls make is longer than what came in: it says more and counts as full. Else prove '..UptoSaid'. A law counts once. -/
mutual
def uptoBulk {H : Type} : DataW H → Nat
  | .lit (.string bytes) => bytes.length + 1
  | .lit _ => 1
  | .nil => 1
  | .ptr d => uptoBulk d + 1
  | .slice elems spare => uptoBulkAll elems + uptoBulkAll spare + 1
  | .agg parts => uptoBulkAll parts + 1
  | .iface _ d => uptoBulk d + 1
  | .map entries => uptoBulkEntries entries + 1
  | .held _ => 1
def uptoBulkAll {H : Type} : List (DataW H) → Nat
  | [] => 0
  | d :: r => uptoBulk d + uptoBulkAll r
def uptoBulkEntries {H : Type} : List (Lit × DataW H) → Nat
  | [] => 0
  | x :: r => uptoBulkEntry x + uptoBulkEntries r
def uptoBulkEntry {H : Type} : Lit × DataW H → Nat
  | (.string bytes, d) => bytes.length + uptoBulk d + 1
  | (_, d) => uptoBulk d + 1
 end
def uptoSmall : (H : Type) → List (DataW H) → Bool := fun _ ds => decide (uptoBulkAll ds ≤ 1048576)
def OpenSpec.upto (s : _root_.Go.ChangeSpec) : _root_.Go.OpenSpec := { _root_.Go.OpenSpec.ofChange s with cond := some uptoSmall }

/-- 'viatorlaw05.EnclosureWidths', WHERE WHAT IT READS IS OF BULK AT MOST 1048576: true; the input reads as it did. -/
def enclosureWidthsUptoRow : OpenClaim := { program := "ytlblfgbpogljoaagreatdoor", sum := "265949df2e8d16487b4fd027bd31f77e243c505bd5f8b18bf55e04c5fb07c764", func := "viator/viatorlaw05.EnclosureWidths", spec := "enclosureWidths", inPlace := ["internal/bytealg.IndexByteString", "internal/bytealg.IndexString", "internal/bytealg.abigen_runtime_cmpstring", "math/bits.Add64", "internal/abi.NoEscape", "internal/bytealg.MakeNoZero"], named := ["unicode/utf8.first", "unicode/utf8.acceptRanges", "internal/bytealg.MaxLen"], apart := false, laid := [("unicode/utf8.acceptRanges", laid_unicode_utf8_acceptRanges), ("unicode/utf8.first", laid_unicode_utf8_first)], narrowed := true }
def EnclosureWidthsUptoSaid : Prop := enclosureWidthsUptoRow.holds Tryz.pinned (OpenSpec.upto enclosureWidthsSpec)

/-- 'viatorlaw05.EnclosureLengths', WHERE WHAT IT READS IS OF BULK AT MOST 1048576: true; the input reads as it did. -/
def enclosureLengthsUptoRow : OpenClaim := { program := "ytlblfgbpogljoaagreatdoor", sum := "265949df2e8d16487b4fd027bd31f77e243c505bd5f8b18bf55e04c5fb07c764", func := "viator/viatorlaw05.EnclosureLengths", spec := "enclosureLengths", inPlace := ["internal/bytealg.IndexByteString", "internal/bytealg.IndexString", "internal/bytealg.abigen_runtime_cmpstring", "math/bits.Add64", "internal/abi.NoEscape", "internal/bytealg.MakeNoZero"], named := ["unicode/utf8.first", "unicode/utf8.acceptRanges", "internal/bytealg.MaxLen"], apart := false, laid := [("unicode/utf8.acceptRanges", laid_unicode_utf8_acceptRanges), ("unicode/utf8.first", laid_unicode_utf8_first)], narrowed := true }
def EnclosureLengthsUptoSaid : Prop := enclosureLengthsUptoRow.holds Tryz.pinned (OpenSpec.upto enclosureLengthsSpec)

/-- 'viatorlaw04.QuadraticValues', WHERE WHAT IT READS IS OF BULK AT MOST 1048576: true; the input reads as it did. -/
def quadraticValuesUptoRow : OpenClaim := { program := "ytlblfgbpogljoaagreatdoor", sum := "265949df2e8d16487b4fd027bd31f77e243c505bd5f8b18bf55e04c5fb07c764", func := "viator/viatorlaw04.QuadraticValues", spec := "quadraticValues", inPlace := ["internal/bytealg.IndexByteString", "internal/bytealg.IndexString", "internal/bytealg.abigen_runtime_cmpstring", "math/bits.Add64", "internal/abi.NoEscape", "internal/bytealg.MakeNoZero"], unfollowed := true, recurses := true, named := ["unicode/utf8.first", "unicode/utf8.acceptRanges", "internal/bytealg.MaxLen"], apart := false, laid := [("unicode/utf8.acceptRanges", laid_unicode_utf8_acceptRanges), ("unicode/utf8.first", laid_unicode_utf8_first)], narrowed := true }
def QuadraticValuesUptoSaid : Prop := quadraticValuesUptoRow.holds Tryz.pinned (OpenSpec.upto quadraticValuesSpec)

/-- 'viatorlaw04.QuadraticRoots', WHERE WHAT IT READS IS OF BULK AT MOST 1048576: true; the input reads as it did. -/
def quadraticRootsUptoRow : OpenClaim := { program := "ytlblfgbpogljoaagreatdoor", sum := "265949df2e8d16487b4fd027bd31f77e243c505bd5f8b18bf55e04c5fb07c764", func := "viator/viatorlaw04.QuadraticRoots", spec := "quadraticRoots", inPlace := ["internal/bytealg.IndexByteString", "internal/bytealg.IndexString", "internal/bytealg.abigen_runtime_cmpstring", "math/bits.Add64", "internal/abi.NoEscape", "internal/bytealg.MakeNoZero"], unfollowed := true, recurses := true, named := ["unicode/utf8.first", "unicode/utf8.acceptRanges", "internal/bytealg.MaxLen"], apart := false, laid := [("unicode/utf8.acceptRanges", laid_unicode_utf8_acceptRanges), ("unicode/utf8.first", laid_unicode_utf8_first)], narrowed := true }
def QuadraticRootsUptoSaid : Prop := quadraticRootsUptoRow.holds Tryz.pinned (OpenSpec.upto quadraticRootsSpec)

/-- 'viatorlaw04.QuadraticSigns', WHERE WHAT IT READS IS OF BULK AT MOST 1048576: true; the input reads as it did. -/
def quadraticSignsUptoRow : OpenClaim := { program := "ytlblfgbpogljoaagreatdoor", sum := "265949df2e8d16487b4fd027bd31f77e243c505bd5f8b18bf55e04c5fb07c764", func := "viator/viatorlaw04.QuadraticSigns", spec := "quadraticSigns", inPlace := ["internal/bytealg.abigen_runtime_cmpstring", "internal/bytealg.IndexByteString", "internal/bytealg.IndexString", "internal/abi.NoEscape", "internal/bytealg.MakeNoZero", "math/bits.Add64"], unfollowed := true, recurses := true, named := ["unicode/utf8.first", "unicode/utf8.acceptRanges", "internal/bytealg.MaxLen"], apart := false, laid := [("unicode/utf8.acceptRanges", laid_unicode_utf8_acceptRanges), ("unicode/utf8.first", laid_unicode_utf8_first)], narrowed := true }
def QuadraticSignsUptoSaid : Prop := quadraticSignsUptoRow.holds Tryz.pinned (OpenSpec.upto quadraticSignsSpec)

/-- 'viatorlaw04.QuadraticWheres', WHERE WHAT IT READS IS OF BULK AT MOST 1048576: true; the input reads as it did. -/
def quadraticWheresUptoRow : OpenClaim := { program := "ytlblfgbpogljoaagreatdoor", sum := "265949df2e8d16487b4fd027bd31f77e243c505bd5f8b18bf55e04c5fb07c764", func := "viator/viatorlaw04.QuadraticWheres", spec := "quadraticWheres", inPlace := ["internal/bytealg.abigen_runtime_cmpstring", "internal/bytealg.IndexByteString", "internal/bytealg.IndexString", "internal/abi.NoEscape", "internal/bytealg.MakeNoZero", "math/bits.Add64"], unfollowed := true, recurses := true, named := ["unicode/utf8.first", "unicode/utf8.acceptRanges", "internal/bytealg.MaxLen"], apart := false, laid := [("unicode/utf8.acceptRanges", laid_unicode_utf8_acceptRanges), ("unicode/utf8.first", laid_unicode_utf8_first)], narrowed := true }
def QuadraticWheresUptoSaid : Prop := quadraticWheresUptoRow.holds Tryz.pinned (OpenSpec.upto quadraticWheresSpec)

/-- 'viatorlaw04.QuadraticExtremes', WHERE WHAT IT READS IS OF BULK AT MOST 1048576: true; the input reads as it did. -/
def quadraticExtremesUptoRow : OpenClaim := { program := "ytlblfgbpogljoaagreatdoor", sum := "265949df2e8d16487b4fd027bd31f77e243c505bd5f8b18bf55e04c5fb07c764", func := "viator/viatorlaw04.QuadraticExtremes", spec := "quadraticExtremes", inPlace := ["internal/bytealg.abigen_runtime_cmpstring", "internal/bytealg.IndexByteString", "internal/bytealg.IndexString", "internal/abi.NoEscape", "internal/bytealg.MakeNoZero", "math/bits.Add64"], unfollowed := true, recurses := true, named := ["unicode/utf8.first", "unicode/utf8.acceptRanges", "internal/bytealg.MaxLen"], apart := false, laid := [("unicode/utf8.acceptRanges", laid_unicode_utf8_acceptRanges), ("unicode/utf8.first", laid_unicode_utf8_first)], narrowed := true }
def QuadraticExtremesUptoSaid : Prop := quadraticExtremesUptoRow.holds Tryz.pinned (OpenSpec.upto quadraticExtremesSpec)

/-- 'viatorlaw04.QuadraticReduces', WHERE WHAT IT READS IS OF BULK AT MOST 1048576: true; the input reads as it did. -/
def quadraticReducesUptoRow : OpenClaim := { program := "ytlblfgbpogljoaagreatdoor", sum := "265949df2e8d16487b4fd027bd31f77e243c505bd5f8b18bf55e04c5fb07c764", func := "viator/viatorlaw04.QuadraticReduces", spec := "quadraticReduces", inPlace := ["internal/bytealg.IndexByteString", "internal/bytealg.IndexString", "internal/bytealg.abigen_runtime_cmpstring", "math/bits.Add64", "internal/abi.NoEscape", "internal/bytealg.MakeNoZero"], unfollowed := true, recurses := true, named := ["unicode/utf8.first", "unicode/utf8.acceptRanges", "internal/bytealg.MaxLen"], apart := false, laid := [("unicode/utf8.acceptRanges", laid_unicode_utf8_acceptRanges), ("unicode/utf8.first", laid_unicode_utf8_first)], narrowed := true }
def QuadraticReducesUptoSaid : Prop := quadraticReducesUptoRow.holds Tryz.pinned (OpenSpec.upto quadraticReducesSpec)

/-- 'viatorlaw04.QuadraticShifts', WHERE WHAT IT READS IS OF BULK AT MOST 1048576: true; the input reads as it did. -/
def quadraticShiftsUptoRow : OpenClaim := { program := "ytlblfgbpogljoaagreatdoor", sum := "265949df2e8d16487b4fd027bd31f77e243c505bd5f8b18bf55e04c5fb07c764", func := "viator/viatorlaw04.QuadraticShifts", spec := "quadraticShifts", inPlace := ["internal/bytealg.IndexByteString", "internal/bytealg.IndexString", "math/bits.Add64", "internal/bytealg.abigen_runtime_cmpstring", "internal/abi.NoEscape", "internal/bytealg.MakeNoZero"], unfollowed := true, recurses := true, named := ["unicode/utf8.first", "unicode/utf8.acceptRanges", "internal/bytealg.MaxLen"], apart := false, laid := [("unicode/utf8.acceptRanges", laid_unicode_utf8_acceptRanges), ("unicode/utf8.first", laid_unicode_utf8_first)], narrowed := true }
def QuadraticShiftsUptoSaid : Prop := quadraticShiftsUptoRow.holds Tryz.pinned (OpenSpec.upto quadraticShiftsSpec)

/-- 'viatorlaw04.QuadraticMakes', WHERE WHAT IT READS IS OF BULK AT MOST 1048576: true; the input reads as it did. -/
def quadraticMakesUptoRow : OpenClaim := { program := "ytlblfgbpogljoaagreatdoor", sum := "265949df2e8d16487b4fd027bd31f77e243c505bd5f8b18bf55e04c5fb07c764", func := "viator/viatorlaw04.QuadraticMakes", spec := "quadraticMakes", inPlace := ["internal/bytealg.IndexByteString", "internal/bytealg.IndexString", "math/bits.Add64", "internal/bytealg.abigen_runtime_cmpstring", "internal/abi.NoEscape", "internal/bytealg.MakeNoZero"], unfollowed := true, recurses := true, named := ["unicode/utf8.first", "unicode/utf8.acceptRanges", "internal/bytealg.MaxLen"], apart := false, laid := [("unicode/utf8.acceptRanges", laid_unicode_utf8_acceptRanges), ("unicode/utf8.first", laid_unicode_utf8_first)], narrowed := true }
def QuadraticMakesUptoSaid : Prop := quadraticMakesUptoRow.holds Tryz.pinned (OpenSpec.upto quadraticMakesSpec)

/-- 'viatorlaw04.QuadraticChecks', WHERE WHAT IT READS IS OF BULK AT MOST 1048576: true; the input reads as it did. -/
def quadraticChecksUptoRow : OpenClaim := { program := "ytlblfgbpogljoaagreatdoor", sum := "265949df2e8d16487b4fd027bd31f77e243c505bd5f8b18bf55e04c5fb07c764", func := "viator/viatorlaw04.QuadraticChecks", spec := "quadraticChecks", inPlace := ["internal/bytealg.IndexByteString", "internal/bytealg.IndexString", "internal/bytealg.abigen_runtime_cmpstring", "math/bits.Add64", "internal/abi.NoEscape", "internal/bytealg.MakeNoZero"], unfollowed := true, recurses := true, named := ["unicode/utf8.first", "unicode/utf8.acceptRanges", "internal/bytealg.MaxLen"], apart := false, laid := [("unicode/utf8.acceptRanges", laid_unicode_utf8_acceptRanges), ("unicode/utf8.first", laid_unicode_utf8_first)], narrowed := true }
def QuadraticChecksUptoSaid : Prop := quadraticChecksUptoRow.holds Tryz.pinned (OpenSpec.upto quadraticChecksSpec)

/-- 'viatorlaw04.QuadraticSums', WHERE WHAT IT READS IS OF BULK AT MOST 1048576: true; the input reads as it did. -/
def quadraticSumsUptoRow : OpenClaim := { program := "ytlblfgbpogljoaagreatdoor", sum := "265949df2e8d16487b4fd027bd31f77e243c505bd5f8b18bf55e04c5fb07c764", func := "viator/viatorlaw04.QuadraticSums", spec := "quadraticSums", inPlace := ["internal/bytealg.IndexByteString", "internal/bytealg.IndexString", "math/bits.Add64", "internal/bytealg.abigen_runtime_cmpstring", "internal/abi.NoEscape", "internal/bytealg.MakeNoZero"], unfollowed := true, recurses := true, named := ["unicode/utf8.first", "unicode/utf8.acceptRanges", "internal/bytealg.MaxLen"], apart := false, laid := [("unicode/utf8.acceptRanges", laid_unicode_utf8_acceptRanges), ("unicode/utf8.first", laid_unicode_utf8_first)], narrowed := true }
def QuadraticSumsUptoSaid : Prop := quadraticSumsUptoRow.holds Tryz.pinned (OpenSpec.upto quadraticSumsSpec)

/-- 'viatorlaw04.QuadraticProducts', WHERE WHAT IT READS IS OF BULK AT MOST 1048576: true; the input reads as it did. -/
def quadraticProductsUptoRow : OpenClaim := { program := "ytlblfgbpogljoaagreatdoor", sum := "265949df2e8d16487b4fd027bd31f77e243c505bd5f8b18bf55e04c5fb07c764", func := "viator/viatorlaw04.QuadraticProducts", spec := "quadraticProducts", inPlace := ["internal/bytealg.IndexByteString", "internal/bytealg.IndexString", "internal/bytealg.abigen_runtime_cmpstring", "math/bits.Add64", "internal/abi.NoEscape", "internal/bytealg.MakeNoZero"], unfollowed := true, recurses := true, named := ["unicode/utf8.first", "unicode/utf8.acceptRanges", "internal/bytealg.MaxLen"], apart := false, laid := [("unicode/utf8.acceptRanges", laid_unicode_utf8_acceptRanges), ("unicode/utf8.first", laid_unicode_utf8_first)], narrowed := true }
def QuadraticProductsUptoSaid : Prop := quadraticProductsUptoRow.holds Tryz.pinned (OpenSpec.upto quadraticProductsSpec)

end Rows
end Go.Proofs.YtlblfgbpogljoaaGreatDoor
