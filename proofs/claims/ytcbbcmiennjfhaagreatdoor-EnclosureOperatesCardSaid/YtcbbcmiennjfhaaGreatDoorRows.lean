/-
  NARROWER THAN 'FOR EVERY INPUT', by the rows' own cells (each row's printed sentence says how): RationalSimplest: laid · RationalPrints: laid · EnclosureRoots: laid · EnclosureTight: laid · EnclosureOperates: laid · EnclosureIncludes: laid · EnclosureCompares: laid · EnclosureSets: laid · EnclosureChecks: laid · EnclosureReals: laid · EnclosureWidths: laid · EnclosureLengths: laid.
  DERIVED. THE GIVEN ROWS OF THIS SEAT. 12 by the template 'for every input the law returns true; each argument reads behind the call as it read before'; 0 by the template 'total and deterministic' (their statements: YtcbbcmiennjfhaaGreatDoorTotals.lean).
  GIVEN WITH THE SEED: the statements are not yours to turn. If you find one false, say at which input.
  Laid BY PROGRAM, IN A SANDBOX (cutbox-rows.mjs): the forced cells as the released guide's own fill.sh prints them over the translation ef47eb43229b2666… (all of the seat's roots in one cut). By AI agents, Wed Nov 11 2026. No macro, syntax, notation, axiom, sorry.
-/
import Derived.Test.YtcbbcmiennjfhaaGreatDoorChecked
import GoSem.PinnedTables
import GoSem.Claim
import GoSem.ClaimJoined
import GoSem.ClaimMapViews
import Derived.JoinedTies
import Derived.KernelRfl
namespace Go.Proofs.YtcbbcmiennjfhaaGreatDoor
/- THE CELL 'sum', in the pinned program and in every row, IS THE sha256 OF THE DUMP (.gsa) THAT YtcbbcmiennjfhaaGreatDoorProg.lean LOADS. Nothing in Lean hashes anything: it is a label: what it is worth is what the hold of that sum in a sandbox is worth. -/
noncomputable def Tryz.pinned : Pinned := { name := "ytcbbcmiennjfhaagreatdoor", sum := "ef47eb43229b2666cee18e6e43678f0f7bae8619e14a54adb92df094e85fbec7", checked := Tryz.checked }
namespace Rows
def none {H : Type} : Left H := { results := [], args := [] }

/- WHAT THE LISTED PACKAGE-LEVEL VARIABLES READ AS WHEN THE CALL BEGINS. Each datum BY PROGRAM (the guide's laid-datum.mjs) off the statement by which the dump's own 'gosem.cut.vars' lays the variable. In a bare row this is a premise. The card (YtcbbcmiennjfhaaGreatDoorCards.lean) ties it to the program's text. -/
def laid_unicode_utf8_acceptRanges {H : Type} : DataW H := .agg [.agg [.lit (.int .u8 128), .lit (.int .u8 191)], .agg [.lit (.int .u8 160), .lit (.int .u8 191)], .agg [.lit (.int .u8 128), .lit (.int .u8 159)], .agg [.lit (.int .u8 144), .lit (.int .u8 191)], .agg [.lit (.int .u8 128), .lit (.int .u8 143)], .agg [.lit (.int .u8 0), .lit (.int .u8 0)], .agg [.lit (.int .u8 0), .lit (.int .u8 0)], .agg [.lit (.int .u8 0), .lit (.int .u8 0)], .agg [.lit (.int .u8 0), .lit (.int .u8 0)], .agg [.lit (.int .u8 0), .lit (.int .u8 0)], .agg [.lit (.int .u8 0), .lit (.int .u8 0)], .agg [.lit (.int .u8 0), .lit (.int .u8 0)], .agg [.lit (.int .u8 0), .lit (.int .u8 0)], .agg [.lit (.int .u8 0), .lit (.int .u8 0)], .agg [.lit (.int .u8 0), .lit (.int .u8 0)], .agg [.lit (.int .u8 0), .lit (.int .u8 0)]]
/-- One of Go's own tables, pinned by name: the form's constant. -/
def laid_unicode_utf8_first : DataW Unit := Go.Pinned.utf8First

/-- 'viatorlaw02.RationalSimplest': WHATEVER THE INPUT: true; the input reads as it did. -/
def rationalSimplestSpec : ChangeSpec := { name := "rationalSimplest", fn := fun _ => fun
  | [d1, d2, d3] => { results := [.lit (.bool true)], args := [d1, d2, d3] }
  | _ => none }
def rationalSimplestRow : OpenClaim := { program := "ytcbbcmiennjfhaagreatdoor", sum := "ef47eb43229b2666cee18e6e43678f0f7bae8619e14a54adb92df094e85fbec7", func := "viator/viatorlaw02.RationalSimplest", spec := "rationalSimplest", inPlace := ["internal/bytealg.abigen_runtime_cmpstring", "internal/bytealg.IndexByteString", "internal/bytealg.IndexString", "math/bits.Add64", "internal/abi.NoEscape", "internal/bytealg.MakeNoZero"], recurses := true, named := ["unicode/utf8.first", "unicode/utf8.acceptRanges", "internal/bytealg.MaxLen"], apart := false, laid := [("unicode/utf8.acceptRanges", laid_unicode_utf8_acceptRanges), ("unicode/utf8.first", laid_unicode_utf8_first)] }
def RationalSimplestSaid : Prop := rationalSimplestRow.holds Tryz.pinned (OpenSpec.ofChange rationalSimplestSpec)

/-- ITS FALSE NEIGHBOUR: 'it returns false'. Refute it at one input. -/
def rationalSimplestWrong : ChangeSpec := { name := "rationalSimplest", fn := fun _ => fun
  | [d1, d2, d3] => { results := [.lit (.bool false)], args := [d1, d2, d3] }
  | _ => none }
def RationalSimplestWrongFalsely : Prop := rationalSimplestRow.holds Tryz.pinned (OpenSpec.ofChange rationalSimplestWrong)

/-- 'viatorlaw02.RationalPrints': WHATEVER THE INPUT: true; the input reads as it did. -/
def rationalPrintsSpec : ChangeSpec := { name := "rationalPrints", fn := fun _ => fun
  | [d1, d2] => { results := [.lit (.bool true)], args := [d1, d2] }
  | _ => none }
def rationalPrintsRow : OpenClaim := { program := "ytcbbcmiennjfhaagreatdoor", sum := "ef47eb43229b2666cee18e6e43678f0f7bae8619e14a54adb92df094e85fbec7", func := "viator/viatorlaw02.RationalPrints", spec := "rationalPrints", inPlace := ["internal/bytealg.IndexByteString", "internal/bytealg.IndexString", "math/bits.Add64", "internal/bytealg.abigen_runtime_cmpstring", "internal/abi.NoEscape", "internal/bytealg.MakeNoZero"], recurses := true, named := ["internal/bytealg.MaxLen", "unicode/utf8.first", "unicode/utf8.acceptRanges"], apart := false, laid := [("unicode/utf8.acceptRanges", laid_unicode_utf8_acceptRanges), ("unicode/utf8.first", laid_unicode_utf8_first)] }
def RationalPrintsSaid : Prop := rationalPrintsRow.holds Tryz.pinned (OpenSpec.ofChange rationalPrintsSpec)

/-- ITS FALSE NEIGHBOUR: 'it returns false'. Refute it at one input. -/
def rationalPrintsWrong : ChangeSpec := { name := "rationalPrints", fn := fun _ => fun
  | [d1, d2] => { results := [.lit (.bool false)], args := [d1, d2] }
  | _ => none }
def RationalPrintsWrongFalsely : Prop := rationalPrintsRow.holds Tryz.pinned (OpenSpec.ofChange rationalPrintsWrong)

/-- 'viatorlaw05.EnclosureRoots': WHATEVER THE INPUT: true; the input reads as it did. -/
def enclosureRootsSpec : ChangeSpec := { name := "enclosureRoots", fn := fun _ => fun
  | [d1, d2] => { results := [.lit (.bool true)], args := [d1, d2] }
  | _ => none }
def enclosureRootsRow : OpenClaim := { program := "ytcbbcmiennjfhaagreatdoor", sum := "ef47eb43229b2666cee18e6e43678f0f7bae8619e14a54adb92df094e85fbec7", func := "viator/viatorlaw05.EnclosureRoots", spec := "enclosureRoots", inPlace := ["internal/bytealg.IndexByteString", "internal/bytealg.IndexString", "internal/bytealg.abigen_runtime_cmpstring", "math/bits.Add64", "internal/abi.NoEscape", "internal/bytealg.MakeNoZero"], named := ["unicode/utf8.first", "unicode/utf8.acceptRanges", "internal/bytealg.MaxLen"], apart := false, laid := [("unicode/utf8.acceptRanges", laid_unicode_utf8_acceptRanges), ("unicode/utf8.first", laid_unicode_utf8_first)] }
def EnclosureRootsSaid : Prop := enclosureRootsRow.holds Tryz.pinned (OpenSpec.ofChange enclosureRootsSpec)

/-- ITS FALSE NEIGHBOUR: 'it returns false'. Refute it at one input. -/
def enclosureRootsWrong : ChangeSpec := { name := "enclosureRoots", fn := fun _ => fun
  | [d1, d2] => { results := [.lit (.bool false)], args := [d1, d2] }
  | _ => none }
def EnclosureRootsWrongFalsely : Prop := enclosureRootsRow.holds Tryz.pinned (OpenSpec.ofChange enclosureRootsWrong)

/-- 'viatorlaw05.EnclosureTight': WHATEVER THE INPUT: true; the input reads as it did. -/
def enclosureTightSpec : ChangeSpec := { name := "enclosureTight", fn := fun _ => fun
  | [d1, d2] => { results := [.lit (.bool true)], args := [d1, d2] }
  | _ => none }
def enclosureTightRow : OpenClaim := { program := "ytcbbcmiennjfhaagreatdoor", sum := "ef47eb43229b2666cee18e6e43678f0f7bae8619e14a54adb92df094e85fbec7", func := "viator/viatorlaw05.EnclosureTight", spec := "enclosureTight", inPlace := ["internal/bytealg.IndexByteString", "internal/bytealg.IndexString", "internal/bytealg.abigen_runtime_cmpstring", "math/bits.Add64", "internal/abi.NoEscape", "internal/bytealg.MakeNoZero"], named := ["unicode/utf8.first", "unicode/utf8.acceptRanges", "internal/bytealg.MaxLen"], apart := false, laid := [("unicode/utf8.acceptRanges", laid_unicode_utf8_acceptRanges), ("unicode/utf8.first", laid_unicode_utf8_first)] }
def EnclosureTightSaid : Prop := enclosureTightRow.holds Tryz.pinned (OpenSpec.ofChange enclosureTightSpec)

/-- ITS FALSE NEIGHBOUR: 'it returns false'. Refute it at one input. -/
def enclosureTightWrong : ChangeSpec := { name := "enclosureTight", fn := fun _ => fun
  | [d1, d2] => { results := [.lit (.bool false)], args := [d1, d2] }
  | _ => none }
def EnclosureTightWrongFalsely : Prop := enclosureTightRow.holds Tryz.pinned (OpenSpec.ofChange enclosureTightWrong)

/-- 'viatorlaw05.EnclosureOperates': WHATEVER THE INPUT: true; the input reads as it did. -/
def enclosureOperatesSpec : ChangeSpec := { name := "enclosureOperates", fn := fun _ => fun
  | [d1, d2, d3] => { results := [.lit (.bool true)], args := [d1, d2, d3] }
  | _ => none }
def enclosureOperatesRow : OpenClaim := { program := "ytcbbcmiennjfhaagreatdoor", sum := "ef47eb43229b2666cee18e6e43678f0f7bae8619e14a54adb92df094e85fbec7", func := "viator/viatorlaw05.EnclosureOperates", spec := "enclosureOperates", inPlace := ["internal/bytealg.IndexByteString", "internal/bytealg.IndexString", "internal/bytealg.abigen_runtime_cmpstring", "math/bits.Add64", "internal/abi.NoEscape", "internal/bytealg.MakeNoZero"], named := ["unicode/utf8.first", "unicode/utf8.acceptRanges", "internal/bytealg.MaxLen"], apart := false, laid := [("unicode/utf8.acceptRanges", laid_unicode_utf8_acceptRanges), ("unicode/utf8.first", laid_unicode_utf8_first)] }
def EnclosureOperatesSaid : Prop := enclosureOperatesRow.holds Tryz.pinned (OpenSpec.ofChange enclosureOperatesSpec)

/-- ITS FALSE NEIGHBOUR: 'it returns false'. Refute it at one input. -/
def enclosureOperatesWrong : ChangeSpec := { name := "enclosureOperates", fn := fun _ => fun
  | [d1, d2, d3] => { results := [.lit (.bool false)], args := [d1, d2, d3] }
  | _ => none }
def EnclosureOperatesWrongFalsely : Prop := enclosureOperatesRow.holds Tryz.pinned (OpenSpec.ofChange enclosureOperatesWrong)

/-- 'viatorlaw05.EnclosureIncludes': WHATEVER THE INPUT: true; the input reads as it did. -/
def enclosureIncludesSpec : ChangeSpec := { name := "enclosureIncludes", fn := fun _ => fun
  | [d1, d2, d3] => { results := [.lit (.bool true)], args := [d1, d2, d3] }
  | _ => none }
def enclosureIncludesRow : OpenClaim := { program := "ytcbbcmiennjfhaagreatdoor", sum := "ef47eb43229b2666cee18e6e43678f0f7bae8619e14a54adb92df094e85fbec7", func := "viator/viatorlaw05.EnclosureIncludes", spec := "enclosureIncludes", inPlace := ["internal/bytealg.IndexByteString", "internal/bytealg.IndexString", "internal/bytealg.abigen_runtime_cmpstring", "math/bits.Add64", "internal/abi.NoEscape", "internal/bytealg.MakeNoZero"], named := ["unicode/utf8.first", "unicode/utf8.acceptRanges", "internal/bytealg.MaxLen"], apart := false, laid := [("unicode/utf8.acceptRanges", laid_unicode_utf8_acceptRanges), ("unicode/utf8.first", laid_unicode_utf8_first)] }
def EnclosureIncludesSaid : Prop := enclosureIncludesRow.holds Tryz.pinned (OpenSpec.ofChange enclosureIncludesSpec)

/-- ITS FALSE NEIGHBOUR: 'it returns false'. Refute it at one input. -/
def enclosureIncludesWrong : ChangeSpec := { name := "enclosureIncludes", fn := fun _ => fun
  | [d1, d2, d3] => { results := [.lit (.bool false)], args := [d1, d2, d3] }
  | _ => none }
def EnclosureIncludesWrongFalsely : Prop := enclosureIncludesRow.holds Tryz.pinned (OpenSpec.ofChange enclosureIncludesWrong)

/-- 'viatorlaw05.EnclosureCompares': WHATEVER THE INPUT: true; the input reads as it did. -/
def enclosureComparesSpec : ChangeSpec := { name := "enclosureCompares", fn := fun _ => fun
  | [d1, d2, d3] => { results := [.lit (.bool true)], args := [d1, d2, d3] }
  | _ => none }
def enclosureComparesRow : OpenClaim := { program := "ytcbbcmiennjfhaagreatdoor", sum := "ef47eb43229b2666cee18e6e43678f0f7bae8619e14a54adb92df094e85fbec7", func := "viator/viatorlaw05.EnclosureCompares", spec := "enclosureCompares", inPlace := ["internal/bytealg.IndexByteString", "internal/bytealg.IndexString", "internal/bytealg.abigen_runtime_cmpstring", "math/bits.Add64", "internal/abi.NoEscape", "internal/bytealg.MakeNoZero"], named := ["unicode/utf8.first", "unicode/utf8.acceptRanges", "internal/bytealg.MaxLen"], apart := false, laid := [("unicode/utf8.acceptRanges", laid_unicode_utf8_acceptRanges), ("unicode/utf8.first", laid_unicode_utf8_first)] }
def EnclosureComparesSaid : Prop := enclosureComparesRow.holds Tryz.pinned (OpenSpec.ofChange enclosureComparesSpec)

/-- ITS FALSE NEIGHBOUR: 'it returns false'. Refute it at one input. -/
def enclosureComparesWrong : ChangeSpec := { name := "enclosureCompares", fn := fun _ => fun
  | [d1, d2, d3] => { results := [.lit (.bool false)], args := [d1, d2, d3] }
  | _ => none }
def EnclosureComparesWrongFalsely : Prop := enclosureComparesRow.holds Tryz.pinned (OpenSpec.ofChange enclosureComparesWrong)

/-- 'viatorlaw05.EnclosureSets': WHATEVER THE INPUT: true; the input reads as it did. -/
def enclosureSetsSpec : ChangeSpec := { name := "enclosureSets", fn := fun _ => fun
  | [d1, d2, d3] => { results := [.lit (.bool true)], args := [d1, d2, d3] }
  | _ => none }
def enclosureSetsRow : OpenClaim := { program := "ytcbbcmiennjfhaagreatdoor", sum := "ef47eb43229b2666cee18e6e43678f0f7bae8619e14a54adb92df094e85fbec7", func := "viator/viatorlaw05.EnclosureSets", spec := "enclosureSets", inPlace := ["internal/bytealg.IndexByteString", "internal/bytealg.IndexString", "internal/bytealg.abigen_runtime_cmpstring", "math/bits.Add64", "internal/abi.NoEscape", "internal/bytealg.MakeNoZero"], named := ["unicode/utf8.first", "unicode/utf8.acceptRanges", "internal/bytealg.MaxLen"], apart := false, laid := [("unicode/utf8.acceptRanges", laid_unicode_utf8_acceptRanges), ("unicode/utf8.first", laid_unicode_utf8_first)] }
def EnclosureSetsSaid : Prop := enclosureSetsRow.holds Tryz.pinned (OpenSpec.ofChange enclosureSetsSpec)

/-- ITS FALSE NEIGHBOUR: 'it returns false'. Refute it at one input. -/
def enclosureSetsWrong : ChangeSpec := { name := "enclosureSets", fn := fun _ => fun
  | [d1, d2, d3] => { results := [.lit (.bool false)], args := [d1, d2, d3] }
  | _ => none }
def EnclosureSetsWrongFalsely : Prop := enclosureSetsRow.holds Tryz.pinned (OpenSpec.ofChange enclosureSetsWrong)

/-- 'viatorlaw05.EnclosureChecks': WHATEVER THE INPUT: true; the input reads as it did. -/
def enclosureChecksSpec : ChangeSpec := { name := "enclosureChecks", fn := fun _ => fun
  | [d1, d2, d3] => { results := [.lit (.bool true)], args := [d1, d2, d3] }
  | _ => none }
def enclosureChecksRow : OpenClaim := { program := "ytcbbcmiennjfhaagreatdoor", sum := "ef47eb43229b2666cee18e6e43678f0f7bae8619e14a54adb92df094e85fbec7", func := "viator/viatorlaw05.EnclosureChecks", spec := "enclosureChecks", inPlace := ["internal/bytealg.IndexByteString", "internal/bytealg.IndexString", "internal/bytealg.abigen_runtime_cmpstring", "math/bits.Add64", "internal/abi.NoEscape", "internal/bytealg.MakeNoZero"], named := ["unicode/utf8.first", "unicode/utf8.acceptRanges", "internal/bytealg.MaxLen"], apart := false, laid := [("unicode/utf8.acceptRanges", laid_unicode_utf8_acceptRanges), ("unicode/utf8.first", laid_unicode_utf8_first)] }
def EnclosureChecksSaid : Prop := enclosureChecksRow.holds Tryz.pinned (OpenSpec.ofChange enclosureChecksSpec)

/-- ITS FALSE NEIGHBOUR: 'it returns false'. Refute it at one input. -/
def enclosureChecksWrong : ChangeSpec := { name := "enclosureChecks", fn := fun _ => fun
  | [d1, d2, d3] => { results := [.lit (.bool false)], args := [d1, d2, d3] }
  | _ => none }
def EnclosureChecksWrongFalsely : Prop := enclosureChecksRow.holds Tryz.pinned (OpenSpec.ofChange enclosureChecksWrong)

/-- 'viatorlaw05.EnclosureReals': WHATEVER THE INPUT: true; the input reads as it did. -/
def enclosureRealsSpec : ChangeSpec := { name := "enclosureReals", fn := fun _ => fun
  | [d1, d2] => { results := [.lit (.bool true)], args := [d1, d2] }
  | _ => none }
def enclosureRealsRow : OpenClaim := { program := "ytcbbcmiennjfhaagreatdoor", sum := "ef47eb43229b2666cee18e6e43678f0f7bae8619e14a54adb92df094e85fbec7", func := "viator/viatorlaw05.EnclosureReals", spec := "enclosureReals", inPlace := ["math/bits.Add64", "internal/bytealg.IndexByteString", "internal/bytealg.IndexString", "internal/bytealg.abigen_runtime_cmpstring", "internal/abi.NoEscape", "internal/bytealg.MakeNoZero"], named := ["unicode/utf8.first", "unicode/utf8.acceptRanges", "internal/bytealg.MaxLen"], apart := false, laid := [("unicode/utf8.acceptRanges", laid_unicode_utf8_acceptRanges), ("unicode/utf8.first", laid_unicode_utf8_first)] }
def EnclosureRealsSaid : Prop := enclosureRealsRow.holds Tryz.pinned (OpenSpec.ofChange enclosureRealsSpec)

/-- ITS FALSE NEIGHBOUR: 'it returns false'. Refute it at one input. -/
def enclosureRealsWrong : ChangeSpec := { name := "enclosureReals", fn := fun _ => fun
  | [d1, d2] => { results := [.lit (.bool false)], args := [d1, d2] }
  | _ => none }
def EnclosureRealsWrongFalsely : Prop := enclosureRealsRow.holds Tryz.pinned (OpenSpec.ofChange enclosureRealsWrong)

/-- 'viatorlaw05.EnclosureWidths': WHATEVER THE INPUT: true; the input reads as it did. -/
def enclosureWidthsSpec : ChangeSpec := { name := "enclosureWidths", fn := fun _ => fun
  | [d1, d2] => { results := [.lit (.bool true)], args := [d1, d2] }
  | _ => none }
def enclosureWidthsRow : OpenClaim := { program := "ytcbbcmiennjfhaagreatdoor", sum := "ef47eb43229b2666cee18e6e43678f0f7bae8619e14a54adb92df094e85fbec7", func := "viator/viatorlaw05.EnclosureWidths", spec := "enclosureWidths", inPlace := ["internal/bytealg.IndexByteString", "internal/bytealg.IndexString", "internal/bytealg.abigen_runtime_cmpstring", "math/bits.Add64", "internal/abi.NoEscape", "internal/bytealg.MakeNoZero"], named := ["unicode/utf8.first", "unicode/utf8.acceptRanges", "internal/bytealg.MaxLen"], apart := false, laid := [("unicode/utf8.acceptRanges", laid_unicode_utf8_acceptRanges), ("unicode/utf8.first", laid_unicode_utf8_first)] }
def EnclosureWidthsSaid : Prop := enclosureWidthsRow.holds Tryz.pinned (OpenSpec.ofChange enclosureWidthsSpec)

/-- ITS FALSE NEIGHBOUR: 'it returns false'. Refute it at one input. -/
def enclosureWidthsWrong : ChangeSpec := { name := "enclosureWidths", fn := fun _ => fun
  | [d1, d2] => { results := [.lit (.bool false)], args := [d1, d2] }
  | _ => none }
def EnclosureWidthsWrongFalsely : Prop := enclosureWidthsRow.holds Tryz.pinned (OpenSpec.ofChange enclosureWidthsWrong)

/-- 'viatorlaw05.EnclosureLengths': WHATEVER THE INPUT: true; the input reads as it did. -/
def enclosureLengthsSpec : ChangeSpec := { name := "enclosureLengths", fn := fun _ => fun
  | [d1, d2] => { results := [.lit (.bool true)], args := [d1, d2] }
  | _ => none }
def enclosureLengthsRow : OpenClaim := { program := "ytcbbcmiennjfhaagreatdoor", sum := "ef47eb43229b2666cee18e6e43678f0f7bae8619e14a54adb92df094e85fbec7", func := "viator/viatorlaw05.EnclosureLengths", spec := "enclosureLengths", inPlace := ["internal/bytealg.IndexByteString", "internal/bytealg.IndexString", "internal/bytealg.abigen_runtime_cmpstring", "math/bits.Add64", "internal/abi.NoEscape", "internal/bytealg.MakeNoZero"], named := ["unicode/utf8.first", "unicode/utf8.acceptRanges", "internal/bytealg.MaxLen"], apart := false, laid := [("unicode/utf8.acceptRanges", laid_unicode_utf8_acceptRanges), ("unicode/utf8.first", laid_unicode_utf8_first)] }
def EnclosureLengthsSaid : Prop := enclosureLengthsRow.holds Tryz.pinned (OpenSpec.ofChange enclosureLengthsSpec)

/-- ITS FALSE NEIGHBOUR: 'it returns false'. Refute it at one input. -/
def enclosureLengthsWrong : ChangeSpec := { name := "enclosureLengths", fn := fun _ => fun
  | [d1, d2] => { results := [.lit (.bool false)], args := [d1, d2] }
  | _ => none }
def EnclosureLengthsWrongFalsely : Prop := enclosureLengthsRow.holds Tryz.pinned (OpenSpec.ofChange enclosureLengthsWrong)

/- THE SECOND FORM. 'bulk': how many values and letters a reading holds, each counted each time it is reached (what is shared counts as often as it is met; a slice's spare places count too). A statement '..UptoSaid' is the law's where the arguments, and the package variables that the reading takes, are together of bulk at most 1048576: NARROWER than '..Said'. Prove '..Said' where nothing that the law and all that it calls make is longer than what came in: it says more and counts as full. Else prove '..UptoSaid'. A law counts once. -/
mutual
def uptoBulk {H : Type} : DataW H → Nat
  | .lit (.string bytes) => bytes.length + 1
  | .lit _ => 1
  | .nil => 1
  | .ptr d => uptoBulk d + 1
  | .slice elems spare => uptoBulkAll elems + uptoBulkAll spare + 1
  | .agg parts => uptoBulkAll parts + 1
  | .iface _ d => uptoBulk d + 1
  | .map entries => uptoBulkEntries entries + 1
  | .held _ => 1
def uptoBulkAll {H : Type} : List (DataW H) → Nat
  | [] => 0
  | d :: r => uptoBulk d + uptoBulkAll r
def uptoBulkEntries {H : Type} : List (Lit × DataW H) → Nat
  | [] => 0
  | x :: r => uptoBulkEntry x + uptoBulkEntries r
def uptoBulkEntry {H : Type} : Lit × DataW H → Nat
  | (.string bytes, d) => bytes.length + uptoBulk d + 1
  | (_, d) => uptoBulk d + 1
 end
def uptoSmall : (H : Type) → List (DataW H) → Bool := fun _ ds => decide (uptoBulkAll ds ≤ 1048576)
def OpenSpec.upto (s : _root_.Go.ChangeSpec) : _root_.Go.OpenSpec := { _root_.Go.OpenSpec.ofChange s with cond := some uptoSmall }

/-- 'viatorlaw02.RationalSimplest', WHERE WHAT IT READS IS OF BULK AT MOST 1048576: true; the input reads as it did. -/
def rationalSimplestUptoRow : OpenClaim := { program := "ytcbbcmiennjfhaagreatdoor", sum := "ef47eb43229b2666cee18e6e43678f0f7bae8619e14a54adb92df094e85fbec7", func := "viator/viatorlaw02.RationalSimplest", spec := "rationalSimplest", inPlace := ["internal/bytealg.abigen_runtime_cmpstring", "internal/bytealg.IndexByteString", "internal/bytealg.IndexString", "math/bits.Add64", "internal/abi.NoEscape", "internal/bytealg.MakeNoZero"], recurses := true, named := ["unicode/utf8.first", "unicode/utf8.acceptRanges", "internal/bytealg.MaxLen"], apart := false, laid := [("unicode/utf8.acceptRanges", laid_unicode_utf8_acceptRanges), ("unicode/utf8.first", laid_unicode_utf8_first)], narrowed := true }
def RationalSimplestUptoSaid : Prop := rationalSimplestUptoRow.holds Tryz.pinned (OpenSpec.upto rationalSimplestSpec)

/-- 'viatorlaw02.RationalPrints', WHERE WHAT IT READS IS OF BULK AT MOST 1048576: true; the input reads as it did. -/
def rationalPrintsUptoRow : OpenClaim := { program := "ytcbbcmiennjfhaagreatdoor", sum := "ef47eb43229b2666cee18e6e43678f0f7bae8619e14a54adb92df094e85fbec7", func := "viator/viatorlaw02.RationalPrints", spec := "rationalPrints", inPlace := ["internal/bytealg.IndexByteString", "internal/bytealg.IndexString", "math/bits.Add64", "internal/bytealg.abigen_runtime_cmpstring", "internal/abi.NoEscape", "internal/bytealg.MakeNoZero"], recurses := true, named := ["internal/bytealg.MaxLen", "unicode/utf8.first", "unicode/utf8.acceptRanges"], apart := false, laid := [("unicode/utf8.acceptRanges", laid_unicode_utf8_acceptRanges), ("unicode/utf8.first", laid_unicode_utf8_first)], narrowed := true }
def RationalPrintsUptoSaid : Prop := rationalPrintsUptoRow.holds Tryz.pinned (OpenSpec.upto rationalPrintsSpec)

/-- 'viatorlaw05.EnclosureRoots', WHERE WHAT IT READS IS OF BULK AT MOST 1048576: true; the input reads as it did. -/
def enclosureRootsUptoRow : OpenClaim := { program := "ytcbbcmiennjfhaagreatdoor", sum := "ef47eb43229b2666cee18e6e43678f0f7bae8619e14a54adb92df094e85fbec7", func := "viator/viatorlaw05.EnclosureRoots", spec := "enclosureRoots", inPlace := ["internal/bytealg.IndexByteString", "internal/bytealg.IndexString", "internal/bytealg.abigen_runtime_cmpstring", "math/bits.Add64", "internal/abi.NoEscape", "internal/bytealg.MakeNoZero"], named := ["unicode/utf8.first", "unicode/utf8.acceptRanges", "internal/bytealg.MaxLen"], apart := false, laid := [("unicode/utf8.acceptRanges", laid_unicode_utf8_acceptRanges), ("unicode/utf8.first", laid_unicode_utf8_first)], narrowed := true }
def EnclosureRootsUptoSaid : Prop := enclosureRootsUptoRow.holds Tryz.pinned (OpenSpec.upto enclosureRootsSpec)

/-- 'viatorlaw05.EnclosureTight', WHERE WHAT IT READS IS OF BULK AT MOST 1048576: true; the input reads as it did. -/
def enclosureTightUptoRow : OpenClaim := { program := "ytcbbcmiennjfhaagreatdoor", sum := "ef47eb43229b2666cee18e6e43678f0f7bae8619e14a54adb92df094e85fbec7", func := "viator/viatorlaw05.EnclosureTight", spec := "enclosureTight", inPlace := ["internal/bytealg.IndexByteString", "internal/bytealg.IndexString", "internal/bytealg.abigen_runtime_cmpstring", "math/bits.Add64", "internal/abi.NoEscape", "internal/bytealg.MakeNoZero"], named := ["unicode/utf8.first", "unicode/utf8.acceptRanges", "internal/bytealg.MaxLen"], apart := false, laid := [("unicode/utf8.acceptRanges", laid_unicode_utf8_acceptRanges), ("unicode/utf8.first", laid_unicode_utf8_first)], narrowed := true }
def EnclosureTightUptoSaid : Prop := enclosureTightUptoRow.holds Tryz.pinned (OpenSpec.upto enclosureTightSpec)

/-- 'viatorlaw05.EnclosureOperates', WHERE WHAT IT READS IS OF BULK AT MOST 1048576: true; the input reads as it did. -/
def enclosureOperatesUptoRow : OpenClaim := { program := "ytcbbcmiennjfhaagreatdoor", sum := "ef47eb43229b2666cee18e6e43678f0f7bae8619e14a54adb92df094e85fbec7", func := "viator/viatorlaw05.EnclosureOperates", spec := "enclosureOperates", inPlace := ["internal/bytealg.IndexByteString", "internal/bytealg.IndexString", "internal/bytealg.abigen_runtime_cmpstring", "math/bits.Add64", "internal/abi.NoEscape", "internal/bytealg.MakeNoZero"], named := ["unicode/utf8.first", "unicode/utf8.acceptRanges", "internal/bytealg.MaxLen"], apart := false, laid := [("unicode/utf8.acceptRanges", laid_unicode_utf8_acceptRanges), ("unicode/utf8.first", laid_unicode_utf8_first)], narrowed := true }
def EnclosureOperatesUptoSaid : Prop := enclosureOperatesUptoRow.holds Tryz.pinned (OpenSpec.upto enclosureOperatesSpec)

/-- 'viatorlaw05.EnclosureIncludes', WHERE WHAT IT READS IS OF BULK AT MOST 1048576: true; the input reads as it did. -/
def enclosureIncludesUptoRow : OpenClaim := { program := "ytcbbcmiennjfhaagreatdoor", sum := "ef47eb43229b2666cee18e6e43678f0f7bae8619e14a54adb92df094e85fbec7", func := "viator/viatorlaw05.EnclosureIncludes", spec := "enclosureIncludes", inPlace := ["internal/bytealg.IndexByteString", "internal/bytealg.IndexString", "internal/bytealg.abigen_runtime_cmpstring", "math/bits.Add64", "internal/abi.NoEscape", "internal/bytealg.MakeNoZero"], named := ["unicode/utf8.first", "unicode/utf8.acceptRanges", "internal/bytealg.MaxLen"], apart := false, laid := [("unicode/utf8.acceptRanges", laid_unicode_utf8_acceptRanges), ("unicode/utf8.first", laid_unicode_utf8_first)], narrowed := true }
def EnclosureIncludesUptoSaid : Prop := enclosureIncludesUptoRow.holds Tryz.pinned (OpenSpec.upto enclosureIncludesSpec)

/-- 'viatorlaw05.EnclosureCompares', WHERE WHAT IT READS IS OF BULK AT MOST 1048576: true; the input reads as it did. -/
def enclosureComparesUptoRow : OpenClaim := { program := "ytcbbcmiennjfhaagreatdoor", sum := "ef47eb43229b2666cee18e6e43678f0f7bae8619e14a54adb92df094e85fbec7", func := "viator/viatorlaw05.EnclosureCompares", spec := "enclosureCompares", inPlace := ["internal/bytealg.IndexByteString", "internal/bytealg.IndexString", "internal/bytealg.abigen_runtime_cmpstring", "math/bits.Add64", "internal/abi.NoEscape", "internal/bytealg.MakeNoZero"], named := ["unicode/utf8.first", "unicode/utf8.acceptRanges", "internal/bytealg.MaxLen"], apart := false, laid := [("unicode/utf8.acceptRanges", laid_unicode_utf8_acceptRanges), ("unicode/utf8.first", laid_unicode_utf8_first)], narrowed := true }
def EnclosureComparesUptoSaid : Prop := enclosureComparesUptoRow.holds Tryz.pinned (OpenSpec.upto enclosureComparesSpec)

/-- 'viatorlaw05.EnclosureSets', WHERE WHAT IT READS IS OF BULK AT MOST 1048576: true; the input reads as it did. -/
def enclosureSetsUptoRow : OpenClaim := { program := "ytcbbcmiennjfhaagreatdoor", sum := "ef47eb43229b2666cee18e6e43678f0f7bae8619e14a54adb92df094e85fbec7", func := "viator/viatorlaw05.EnclosureSets", spec := "enclosureSets", inPlace := ["internal/bytealg.IndexByteString", "internal/bytealg.IndexString", "internal/bytealg.abigen_runtime_cmpstring", "math/bits.Add64", "internal/abi.NoEscape", "internal/bytealg.MakeNoZero"], named := ["unicode/utf8.first", "unicode/utf8.acceptRanges", "internal/bytealg.MaxLen"], apart := false, laid := [("unicode/utf8.acceptRanges", laid_unicode_utf8_acceptRanges), ("unicode/utf8.first", laid_unicode_utf8_first)], narrowed := true }
def EnclosureSetsUptoSaid : Prop := enclosureSetsUptoRow.holds Tryz.pinned (OpenSpec.upto enclosureSetsSpec)

/-- 'viatorlaw05.EnclosureChecks', WHERE WHAT IT READS IS OF BULK AT MOST 1048576: true; the input reads as it did. -/
def enclosureChecksUptoRow : OpenClaim := { program := "ytcbbcmiennjfhaagreatdoor", sum := "ef47eb43229b2666cee18e6e43678f0f7bae8619e14a54adb92df094e85fbec7", func := "viator/viatorlaw05.EnclosureChecks", spec := "enclosureChecks", inPlace := ["internal/bytealg.IndexByteString", "internal/bytealg.IndexString", "internal/bytealg.abigen_runtime_cmpstring", "math/bits.Add64", "internal/abi.NoEscape", "internal/bytealg.MakeNoZero"], named := ["unicode/utf8.first", "unicode/utf8.acceptRanges", "internal/bytealg.MaxLen"], apart := false, laid := [("unicode/utf8.acceptRanges", laid_unicode_utf8_acceptRanges), ("unicode/utf8.first", laid_unicode_utf8_first)], narrowed := true }
def EnclosureChecksUptoSaid : Prop := enclosureChecksUptoRow.holds Tryz.pinned (OpenSpec.upto enclosureChecksSpec)

/-- 'viatorlaw05.EnclosureReals', WHERE WHAT IT READS IS OF BULK AT MOST 1048576: true; the input reads as it did. -/
def enclosureRealsUptoRow : OpenClaim := { program := "ytcbbcmiennjfhaagreatdoor", sum := "ef47eb43229b2666cee18e6e43678f0f7bae8619e14a54adb92df094e85fbec7", func := "viator/viatorlaw05.EnclosureReals", spec := "enclosureReals", inPlace := ["math/bits.Add64", "internal/bytealg.IndexByteString", "internal/bytealg.IndexString", "internal/bytealg.abigen_runtime_cmpstring", "internal/abi.NoEscape", "internal/bytealg.MakeNoZero"], named := ["unicode/utf8.first", "unicode/utf8.acceptRanges", "internal/bytealg.MaxLen"], apart := false, laid := [("unicode/utf8.acceptRanges", laid_unicode_utf8_acceptRanges), ("unicode/utf8.first", laid_unicode_utf8_first)], narrowed := true }
def EnclosureRealsUptoSaid : Prop := enclosureRealsUptoRow.holds Tryz.pinned (OpenSpec.upto enclosureRealsSpec)

/-- 'viatorlaw05.EnclosureWidths', WHERE WHAT IT READS IS OF BULK AT MOST 1048576: true; the input reads as it did. -/
def enclosureWidthsUptoRow : OpenClaim := { program := "ytcbbcmiennjfhaagreatdoor", sum := "ef47eb43229b2666cee18e6e43678f0f7bae8619e14a54adb92df094e85fbec7", func := "viator/viatorlaw05.EnclosureWidths", spec := "enclosureWidths", inPlace := ["internal/bytealg.IndexByteString", "internal/bytealg.IndexString", "internal/bytealg.abigen_runtime_cmpstring", "math/bits.Add64", "internal/abi.NoEscape", "internal/bytealg.MakeNoZero"], named := ["unicode/utf8.first", "unicode/utf8.acceptRanges", "internal/bytealg.MaxLen"], apart := false, laid := [("unicode/utf8.acceptRanges", laid_unicode_utf8_acceptRanges), ("unicode/utf8.first", laid_unicode_utf8_first)], narrowed := true }
def EnclosureWidthsUptoSaid : Prop := enclosureWidthsUptoRow.holds Tryz.pinned (OpenSpec.upto enclosureWidthsSpec)

/-- 'viatorlaw05.EnclosureLengths', WHERE WHAT IT READS IS OF BULK AT MOST 1048576: true; the input reads as it did. -/
def enclosureLengthsUptoRow : OpenClaim := { program := "ytcbbcmiennjfhaagreatdoor", sum := "ef47eb43229b2666cee18e6e43678f0f7bae8619e14a54adb92df094e85fbec7", func := "viator/viatorlaw05.EnclosureLengths", spec := "enclosureLengths", inPlace := ["internal/bytealg.IndexByteString", "internal/bytealg.IndexString", "internal/bytealg.abigen_runtime_cmpstring", "math/bits.Add64", "internal/abi.NoEscape", "internal/bytealg.MakeNoZero"], named := ["unicode/utf8.first", "unicode/utf8.acceptRanges", "internal/bytealg.MaxLen"], apart := false, laid := [("unicode/utf8.acceptRanges", laid_unicode_utf8_acceptRanges), ("unicode/utf8.first", laid_unicode_utf8_first)], narrowed := true }
def EnclosureLengthsUptoSaid : Prop := enclosureLengthsUptoRow.holds Tryz.pinned (OpenSpec.upto enclosureLengthsSpec)

end Rows
end Go.Proofs.YtcbbcmiennjfhaaGreatDoor
