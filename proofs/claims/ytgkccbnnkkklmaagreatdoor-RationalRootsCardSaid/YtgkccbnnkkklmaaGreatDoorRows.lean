/-
  NARROWER THAN 'FOR EVERY INPUT', by the rows' own cells (each row's printed sentence says how): RationalMakes: laid · RationalAdds: laid · RationalFloors: laid · RationalSimplest: laid · RationalDeep: laid · RationalRoots: laid · RationalPrints: laid · RationalMultiplies: laid · RationalField: laid · RationalCompares: laid · RationalChecks: laid.
  DERIVED. THE GIVEN ROWS OF THIS SEAT. 11 by the template 'for every input the law returns true; each argument reads behind the call as it read before'; 0 by the template 'total and deterministic' (their statements: YtgkccbnnkkklmaaGreatDoorTotals.lean).
  GIVEN WITH THE SEED: the statements are not yours to turn. If you find one false, say at which input.
  Laid BY PROGRAM, IN A SANDBOX (cutbox-rows.mjs): the forced cells as the released guide's own fill.sh prints them over the translation 98fb70885bc0b6c7… (all of the seat's roots in one cut). By AI agents, Wed Nov 11 2026. No macro, syntax, notation, axiom, sorry.
-/
import Derived.Test.YtgkccbnnkkklmaaGreatDoorChecked
import GoSem.PinnedTables
import GoSem.Claim
import GoSem.ClaimJoined
import GoSem.ClaimMapViews
import Derived.JoinedTies
import Derived.KernelRfl
namespace Go.Proofs.YtgkccbnnkkklmaaGreatDoor
/- THE CELL 'sum', in the pinned program and in every row, IS THE sha256 OF THE DUMP (.gsa) THAT YtgkccbnnkkklmaaGreatDoorProg.lean LOADS. Nothing in Lean hashes anything: it is a label: what it is worth is what the hold of that sum in a sandbox is worth. -/
noncomputable def Tryz.pinned : Pinned := { name := "ytgkccbnnkkklmaagreatdoor", sum := "98fb70885bc0b6c7d4483b7d99408a56470632cc81e59c3949a2eef45662c49d", checked := Tryz.checked }
namespace Rows
def none {H : Type} : Left H := { results := [], args := [] }

/- WHAT THE LISTED PACKAGE-LEVEL VARIABLES READ AS WHEN THE CALL BEGINS. Each datum BY PROGRAM (the guide's laid-datum.mjs) off the statement by which the dump's own 'gosem.cut.vars' lays the variable. In a bare row this is a premise. The card (YtgkccbnnkkklmaaGreatDoorCards.lean) ties it to the program's text. -/
def laid_unicode_utf8_acceptRanges {H : Type} : DataW H := .agg [.agg [.lit (.int .u8 128), .lit (.int .u8 191)], .agg [.lit (.int .u8 160), .lit (.int .u8 191)], .agg [.lit (.int .u8 128), .lit (.int .u8 159)], .agg [.lit (.int .u8 144), .lit (.int .u8 191)], .agg [.lit (.int .u8 128), .lit (.int .u8 143)], .agg [.lit (.int .u8 0), .lit (.int .u8 0)], .agg [.lit (.int .u8 0), .lit (.int .u8 0)], .agg [.lit (.int .u8 0), .lit (.int .u8 0)], .agg [.lit (.int .u8 0), .lit (.int .u8 0)], .agg [.lit (.int .u8 0), .lit (.int .u8 0)], .agg [.lit (.int .u8 0), .lit (.int .u8 0)], .agg [.lit (.int .u8 0), .lit (.int .u8 0)], .agg [.lit (.int .u8 0), .lit (.int .u8 0)], .agg [.lit (.int .u8 0), .lit (.int .u8 0)], .agg [.lit (.int .u8 0), .lit (.int .u8 0)], .agg [.lit (.int .u8 0), .lit (.int .u8 0)]]
/-- One of Go's own tables, pinned by name: the form's constant. -/
def laid_unicode_utf8_first : DataW Unit := Go.Pinned.utf8First

/-- 'viatorlaw02.RationalMakes': WHATEVER THE INPUT: true; the input reads as it did. -/
def rationalMakesSpec : ChangeSpec := { name := "rationalMakes", fn := fun _ => fun
  | [d1, d2, d3] => { results := [.lit (.bool true)], args := [d1, d2, d3] }
  | _ => none }
def rationalMakesRow : OpenClaim := { program := "ytgkccbnnkkklmaagreatdoor", sum := "98fb70885bc0b6c7d4483b7d99408a56470632cc81e59c3949a2eef45662c49d", func := "viator/viatorlaw02.RationalMakes", spec := "rationalMakes", inPlace := ["internal/bytealg.abigen_runtime_cmpstring", "internal/bytealg.IndexByteString", "internal/bytealg.IndexString", "math/bits.Add64", "internal/abi.NoEscape", "internal/bytealg.MakeNoZero"], recurses := true, named := ["unicode/utf8.first", "unicode/utf8.acceptRanges", "internal/bytealg.MaxLen"], apart := false, laid := [("unicode/utf8.acceptRanges", laid_unicode_utf8_acceptRanges), ("unicode/utf8.first", laid_unicode_utf8_first)] }
def RationalMakesSaid : Prop := rationalMakesRow.holds Tryz.pinned (OpenSpec.ofChange rationalMakesSpec)

/-- ITS FALSE NEIGHBOUR: 'it returns false'. Refute it at one input. -/
def rationalMakesWrong : ChangeSpec := { name := "rationalMakes", fn := fun _ => fun
  | [d1, d2, d3] => { results := [.lit (.bool false)], args := [d1, d2, d3] }
  | _ => none }
def RationalMakesWrongFalsely : Prop := rationalMakesRow.holds Tryz.pinned (OpenSpec.ofChange rationalMakesWrong)

/-- 'viatorlaw02.RationalAdds': WHATEVER THE INPUT: true; the input reads as it did. -/
def rationalAddsSpec : ChangeSpec := { name := "rationalAdds", fn := fun _ => fun
  | [d1, d2] => { results := [.lit (.bool true)], args := [d1, d2] }
  | _ => none }
def rationalAddsRow : OpenClaim := { program := "ytgkccbnnkkklmaagreatdoor", sum := "98fb70885bc0b6c7d4483b7d99408a56470632cc81e59c3949a2eef45662c49d", func := "viator/viatorlaw02.RationalAdds", spec := "rationalAdds", inPlace := ["internal/bytealg.IndexByteString", "internal/bytealg.IndexString", "math/bits.Add64", "internal/bytealg.abigen_runtime_cmpstring", "internal/abi.NoEscape", "internal/bytealg.MakeNoZero"], recurses := true, named := ["unicode/utf8.first", "unicode/utf8.acceptRanges", "internal/bytealg.MaxLen"], apart := false, laid := [("unicode/utf8.acceptRanges", laid_unicode_utf8_acceptRanges), ("unicode/utf8.first", laid_unicode_utf8_first)] }
def RationalAddsSaid : Prop := rationalAddsRow.holds Tryz.pinned (OpenSpec.ofChange rationalAddsSpec)

/-- ITS FALSE NEIGHBOUR: 'it returns false'. Refute it at one input. -/
def rationalAddsWrong : ChangeSpec := { name := "rationalAdds", fn := fun _ => fun
  | [d1, d2] => { results := [.lit (.bool false)], args := [d1, d2] }
  | _ => none }
def RationalAddsWrongFalsely : Prop := rationalAddsRow.holds Tryz.pinned (OpenSpec.ofChange rationalAddsWrong)

/-- 'viatorlaw02.RationalFloors': WHATEVER THE INPUT: true; the input reads as it did. -/
def rationalFloorsSpec : ChangeSpec := { name := "rationalFloors", fn := fun _ => fun
  | [d] => { results := [.lit (.bool true)], args := [d] }
  | _ => none }
def rationalFloorsRow : OpenClaim := { program := "ytgkccbnnkkklmaagreatdoor", sum := "98fb70885bc0b6c7d4483b7d99408a56470632cc81e59c3949a2eef45662c49d", func := "viator/viatorlaw02.RationalFloors", spec := "rationalFloors", inPlace := ["internal/bytealg.abigen_runtime_cmpstring", "internal/bytealg.IndexByteString", "internal/bytealg.IndexString", "math/bits.Add64", "internal/abi.NoEscape", "internal/bytealg.MakeNoZero"], recurses := true, named := ["unicode/utf8.first", "unicode/utf8.acceptRanges", "internal/bytealg.MaxLen"], apart := false, laid := [("unicode/utf8.acceptRanges", laid_unicode_utf8_acceptRanges), ("unicode/utf8.first", laid_unicode_utf8_first)] }
def RationalFloorsSaid : Prop := rationalFloorsRow.holds Tryz.pinned (OpenSpec.ofChange rationalFloorsSpec)

/-- ITS FALSE NEIGHBOUR: 'it returns false'. Refute it at one input. -/
def rationalFloorsWrong : ChangeSpec := { name := "rationalFloors", fn := fun _ => fun
  | [d] => { results := [.lit (.bool false)], args := [d] }
  | _ => none }
def RationalFloorsWrongFalsely : Prop := rationalFloorsRow.holds Tryz.pinned (OpenSpec.ofChange rationalFloorsWrong)

/-- 'viatorlaw02.RationalSimplest': WHATEVER THE INPUT: true; the input reads as it did. -/
def rationalSimplestSpec : ChangeSpec := { name := "rationalSimplest", fn := fun _ => fun
  | [d1, d2, d3] => { results := [.lit (.bool true)], args := [d1, d2, d3] }
  | _ => none }
def rationalSimplestRow : OpenClaim := { program := "ytgkccbnnkkklmaagreatdoor", sum := "98fb70885bc0b6c7d4483b7d99408a56470632cc81e59c3949a2eef45662c49d", func := "viator/viatorlaw02.RationalSimplest", spec := "rationalSimplest", inPlace := ["internal/bytealg.abigen_runtime_cmpstring", "internal/bytealg.IndexByteString", "internal/bytealg.IndexString", "math/bits.Add64", "internal/abi.NoEscape", "internal/bytealg.MakeNoZero"], recurses := true, named := ["unicode/utf8.first", "unicode/utf8.acceptRanges", "internal/bytealg.MaxLen"], apart := false, laid := [("unicode/utf8.acceptRanges", laid_unicode_utf8_acceptRanges), ("unicode/utf8.first", laid_unicode_utf8_first)] }
def RationalSimplestSaid : Prop := rationalSimplestRow.holds Tryz.pinned (OpenSpec.ofChange rationalSimplestSpec)

/-- ITS FALSE NEIGHBOUR: 'it returns false'. Refute it at one input. -/
def rationalSimplestWrong : ChangeSpec := { name := "rationalSimplest", fn := fun _ => fun
  | [d1, d2, d3] => { results := [.lit (.bool false)], args := [d1, d2, d3] }
  | _ => none }
def RationalSimplestWrongFalsely : Prop := rationalSimplestRow.holds Tryz.pinned (OpenSpec.ofChange rationalSimplestWrong)

/-- 'viatorlaw02.RationalDeep': WHATEVER THE INPUT: true; the input reads as it did. -/
def rationalDeepSpec : ChangeSpec := { name := "rationalDeep", fn := fun _ => fun
  | [d1, d2] => { results := [.lit (.bool true)], args := [d1, d2] }
  | _ => none }
def rationalDeepRow : OpenClaim := { program := "ytgkccbnnkkklmaagreatdoor", sum := "98fb70885bc0b6c7d4483b7d99408a56470632cc81e59c3949a2eef45662c49d", func := "viator/viatorlaw02.RationalDeep", spec := "rationalDeep", inPlace := ["internal/bytealg.abigen_runtime_cmpstring", "internal/bytealg.IndexByteString", "internal/bytealg.IndexString", "math/bits.Add64", "internal/abi.NoEscape", "internal/bytealg.MakeNoZero"], recurses := true, named := ["unicode/utf8.first", "unicode/utf8.acceptRanges", "internal/bytealg.MaxLen"], apart := false, laid := [("unicode/utf8.acceptRanges", laid_unicode_utf8_acceptRanges), ("unicode/utf8.first", laid_unicode_utf8_first)] }
def RationalDeepSaid : Prop := rationalDeepRow.holds Tryz.pinned (OpenSpec.ofChange rationalDeepSpec)

/-- ITS FALSE NEIGHBOUR: 'it returns false'. Refute it at one input. -/
def rationalDeepWrong : ChangeSpec := { name := "rationalDeep", fn := fun _ => fun
  | [d1, d2] => { results := [.lit (.bool false)], args := [d1, d2] }
  | _ => none }
def RationalDeepWrongFalsely : Prop := rationalDeepRow.holds Tryz.pinned (OpenSpec.ofChange rationalDeepWrong)

/-- 'viatorlaw02.RationalRoots': WHATEVER THE INPUT: true; the input reads as it did. -/
def rationalRootsSpec : ChangeSpec := { name := "rationalRoots", fn := fun _ => fun
  | [d] => { results := [.lit (.bool true)], args := [d] }
  | _ => none }
def rationalRootsRow : OpenClaim := { program := "ytgkccbnnkkklmaagreatdoor", sum := "98fb70885bc0b6c7d4483b7d99408a56470632cc81e59c3949a2eef45662c49d", func := "viator/viatorlaw02.RationalRoots", spec := "rationalRoots", inPlace := ["internal/abi.NoEscape", "internal/bytealg.MakeNoZero", "internal/bytealg.abigen_runtime_cmpstring", "internal/bytealg.IndexByteString", "internal/bytealg.IndexString", "math/bits.Add64"], recurses := true, named := ["unicode/utf8.first", "unicode/utf8.acceptRanges", "internal/bytealg.MaxLen"], apart := false, laid := [("unicode/utf8.acceptRanges", laid_unicode_utf8_acceptRanges), ("unicode/utf8.first", laid_unicode_utf8_first)] }
def RationalRootsSaid : Prop := rationalRootsRow.holds Tryz.pinned (OpenSpec.ofChange rationalRootsSpec)

/-- ITS FALSE NEIGHBOUR: 'it returns false'. Refute it at one input. -/
def rationalRootsWrong : ChangeSpec := { name := "rationalRoots", fn := fun _ => fun
  | [d] => { results := [.lit (.bool false)], args := [d] }
  | _ => none }
def RationalRootsWrongFalsely : Prop := rationalRootsRow.holds Tryz.pinned (OpenSpec.ofChange rationalRootsWrong)

/-- 'viatorlaw02.RationalPrints': WHATEVER THE INPUT: true; the input reads as it did. -/
def rationalPrintsSpec : ChangeSpec := { name := "rationalPrints", fn := fun _ => fun
  | [d1, d2] => { results := [.lit (.bool true)], args := [d1, d2] }
  | _ => none }
def rationalPrintsRow : OpenClaim := { program := "ytgkccbnnkkklmaagreatdoor", sum := "98fb70885bc0b6c7d4483b7d99408a56470632cc81e59c3949a2eef45662c49d", func := "viator/viatorlaw02.RationalPrints", spec := "rationalPrints", inPlace := ["internal/bytealg.IndexByteString", "internal/bytealg.IndexString", "math/bits.Add64", "internal/bytealg.abigen_runtime_cmpstring", "internal/abi.NoEscape", "internal/bytealg.MakeNoZero"], recurses := true, named := ["internal/bytealg.MaxLen", "unicode/utf8.first", "unicode/utf8.acceptRanges"], apart := false, laid := [("unicode/utf8.acceptRanges", laid_unicode_utf8_acceptRanges), ("unicode/utf8.first", laid_unicode_utf8_first)] }
def RationalPrintsSaid : Prop := rationalPrintsRow.holds Tryz.pinned (OpenSpec.ofChange rationalPrintsSpec)

/-- ITS FALSE NEIGHBOUR: 'it returns false'. Refute it at one input. -/
def rationalPrintsWrong : ChangeSpec := { name := "rationalPrints", fn := fun _ => fun
  | [d1, d2] => { results := [.lit (.bool false)], args := [d1, d2] }
  | _ => none }
def RationalPrintsWrongFalsely : Prop := rationalPrintsRow.holds Tryz.pinned (OpenSpec.ofChange rationalPrintsWrong)

/-- 'viatorlaw02.RationalMultiplies': WHATEVER THE INPUT: true; the input reads as it did. -/
def rationalMultipliesSpec : ChangeSpec := { name := "rationalMultiplies", fn := fun _ => fun
  | [d1, d2] => { results := [.lit (.bool true)], args := [d1, d2] }
  | _ => none }
def rationalMultipliesRow : OpenClaim := { program := "ytgkccbnnkkklmaagreatdoor", sum := "98fb70885bc0b6c7d4483b7d99408a56470632cc81e59c3949a2eef45662c49d", func := "viator/viatorlaw02.RationalMultiplies", spec := "rationalMultiplies", inPlace := ["internal/bytealg.IndexByteString", "internal/bytealg.IndexString", "internal/bytealg.abigen_runtime_cmpstring", "math/bits.Add64", "internal/abi.NoEscape", "internal/bytealg.MakeNoZero"], recurses := true, named := ["unicode/utf8.first", "unicode/utf8.acceptRanges", "internal/bytealg.MaxLen"], apart := false, laid := [("unicode/utf8.acceptRanges", laid_unicode_utf8_acceptRanges), ("unicode/utf8.first", laid_unicode_utf8_first)] }
def RationalMultipliesSaid : Prop := rationalMultipliesRow.holds Tryz.pinned (OpenSpec.ofChange rationalMultipliesSpec)

/-- ITS FALSE NEIGHBOUR: 'it returns false'. Refute it at one input. -/
def rationalMultipliesWrong : ChangeSpec := { name := "rationalMultiplies", fn := fun _ => fun
  | [d1, d2] => { results := [.lit (.bool false)], args := [d1, d2] }
  | _ => none }
def RationalMultipliesWrongFalsely : Prop := rationalMultipliesRow.holds Tryz.pinned (OpenSpec.ofChange rationalMultipliesWrong)

/-- 'viatorlaw02.RationalField': WHATEVER THE INPUT: true; the input reads as it did. -/
def rationalFieldSpec : ChangeSpec := { name := "rationalField", fn := fun _ => fun
  | [d1, d2, d3] => { results := [.lit (.bool true)], args := [d1, d2, d3] }
  | _ => none }
def rationalFieldRow : OpenClaim := { program := "ytgkccbnnkkklmaagreatdoor", sum := "98fb70885bc0b6c7d4483b7d99408a56470632cc81e59c3949a2eef45662c49d", func := "viator/viatorlaw02.RationalField", spec := "rationalField", inPlace := ["internal/bytealg.IndexByteString", "internal/bytealg.IndexString", "math/bits.Add64", "internal/bytealg.abigen_runtime_cmpstring", "internal/abi.NoEscape", "internal/bytealg.MakeNoZero"], recurses := true, named := ["unicode/utf8.first", "unicode/utf8.acceptRanges", "internal/bytealg.MaxLen"], apart := false, laid := [("unicode/utf8.acceptRanges", laid_unicode_utf8_acceptRanges), ("unicode/utf8.first", laid_unicode_utf8_first)] }
def RationalFieldSaid : Prop := rationalFieldRow.holds Tryz.pinned (OpenSpec.ofChange rationalFieldSpec)

/-- ITS FALSE NEIGHBOUR: 'it returns false'. Refute it at one input. -/
def rationalFieldWrong : ChangeSpec := { name := "rationalField", fn := fun _ => fun
  | [d1, d2, d3] => { results := [.lit (.bool false)], args := [d1, d2, d3] }
  | _ => none }
def RationalFieldWrongFalsely : Prop := rationalFieldRow.holds Tryz.pinned (OpenSpec.ofChange rationalFieldWrong)

/-- 'viatorlaw02.RationalCompares': WHATEVER THE INPUT: true; the input reads as it did. -/
def rationalComparesSpec : ChangeSpec := { name := "rationalCompares", fn := fun _ => fun
  | [d1, d2, d3] => { results := [.lit (.bool true)], args := [d1, d2, d3] }
  | _ => none }
def rationalComparesRow : OpenClaim := { program := "ytgkccbnnkkklmaagreatdoor", sum := "98fb70885bc0b6c7d4483b7d99408a56470632cc81e59c3949a2eef45662c49d", func := "viator/viatorlaw02.RationalCompares", spec := "rationalCompares", inPlace := ["internal/bytealg.IndexByteString", "internal/bytealg.IndexString", "internal/bytealg.abigen_runtime_cmpstring", "math/bits.Add64", "internal/abi.NoEscape", "internal/bytealg.MakeNoZero"], recurses := true, named := ["unicode/utf8.first", "unicode/utf8.acceptRanges", "internal/bytealg.MaxLen"], apart := false, laid := [("unicode/utf8.acceptRanges", laid_unicode_utf8_acceptRanges), ("unicode/utf8.first", laid_unicode_utf8_first)] }
def RationalComparesSaid : Prop := rationalComparesRow.holds Tryz.pinned (OpenSpec.ofChange rationalComparesSpec)

/-- ITS FALSE NEIGHBOUR: 'it returns false'. Refute it at one input. -/
def rationalComparesWrong : ChangeSpec := { name := "rationalCompares", fn := fun _ => fun
  | [d1, d2, d3] => { results := [.lit (.bool false)], args := [d1, d2, d3] }
  | _ => none }
def RationalComparesWrongFalsely : Prop := rationalComparesRow.holds Tryz.pinned (OpenSpec.ofChange rationalComparesWrong)

/-- 'viatorlaw02.RationalChecks': WHATEVER THE INPUT: true; the input reads as it did. -/
def rationalChecksSpec : ChangeSpec := { name := "rationalChecks", fn := fun _ => fun
  | [d] => { results := [.lit (.bool true)], args := [d] }
  | _ => none }
def rationalChecksRow : OpenClaim := { program := "ytgkccbnnkkklmaagreatdoor", sum := "98fb70885bc0b6c7d4483b7d99408a56470632cc81e59c3949a2eef45662c49d", func := "viator/viatorlaw02.RationalChecks", spec := "rationalChecks", inPlace := ["internal/bytealg.abigen_runtime_cmpstring", "internal/bytealg.IndexByteString", "internal/bytealg.IndexString", "math/bits.Add64", "internal/abi.NoEscape", "internal/bytealg.MakeNoZero"], recurses := true, named := ["unicode/utf8.first", "unicode/utf8.acceptRanges", "internal/bytealg.MaxLen"], apart := false, laid := [("unicode/utf8.acceptRanges", laid_unicode_utf8_acceptRanges), ("unicode/utf8.first", laid_unicode_utf8_first)] }
def RationalChecksSaid : Prop := rationalChecksRow.holds Tryz.pinned (OpenSpec.ofChange rationalChecksSpec)

/-- ITS FALSE NEIGHBOUR: 'it returns false'. Refute it at one input. -/
def rationalChecksWrong : ChangeSpec := { name := "rationalChecks", fn := fun _ => fun
  | [d] => { results := [.lit (.bool false)], args := [d] }
  | _ => none }
def RationalChecksWrongFalsely : Prop := rationalChecksRow.holds Tryz.pinned (OpenSpec.ofChange rationalChecksWrong)

/- THE SECOND FORM. 'bulk': how many values and letters a reading holds, each counted each time it is reached (what is shared counts as often as it is met; a slice's spare places count too). A statement '..UptoSaid' is the law's where the arguments, and the package variables that the reading takes, are together of bulk at most 1048576: NARROWER than '..Said'. Prove '..Said' where nothing that the law and all that it calls make is longer than what came in: it says more and counts as full. Else prove '..UptoSaid'. A law counts once. -/
mutual
def uptoBulk {H : Type} : DataW H → Nat
  | .lit (.string bytes) => bytes.length + 1
  | .lit _ => 1
  | .nil => 1
  | .ptr d => uptoBulk d + 1
  | .slice elems spare => uptoBulkAll elems + uptoBulkAll spare + 1
  | .agg parts => uptoBulkAll parts + 1
  | .iface _ d => uptoBulk d + 1
  | .map entries => uptoBulkEntries entries + 1
  | .held _ => 1
def uptoBulkAll {H : Type} : List (DataW H) → Nat
  | [] => 0
  | d :: r => uptoBulk d + uptoBulkAll r
def uptoBulkEntries {H : Type} : List (Lit × DataW H) → Nat
  | [] => 0
  | x :: r => uptoBulkEntry x + uptoBulkEntries r
def uptoBulkEntry {H : Type} : Lit × DataW H → Nat
  | (.string bytes, d) => bytes.length + uptoBulk d + 1
  | (_, d) => uptoBulk d + 1
 end
def uptoSmall : (H : Type) → List (DataW H) → Bool := fun _ ds => decide (uptoBulkAll ds ≤ 1048576)
def OpenSpec.upto (s : _root_.Go.ChangeSpec) : _root_.Go.OpenSpec := { _root_.Go.OpenSpec.ofChange s with cond := some uptoSmall }

/-- 'viatorlaw02.RationalMakes', WHERE WHAT IT READS IS OF BULK AT MOST 1048576: true; the input reads as it did. -/
def rationalMakesUptoRow : OpenClaim := { program := "ytgkccbnnkkklmaagreatdoor", sum := "98fb70885bc0b6c7d4483b7d99408a56470632cc81e59c3949a2eef45662c49d", func := "viator/viatorlaw02.RationalMakes", spec := "rationalMakes", inPlace := ["internal/bytealg.abigen_runtime_cmpstring", "internal/bytealg.IndexByteString", "internal/bytealg.IndexString", "math/bits.Add64", "internal/abi.NoEscape", "internal/bytealg.MakeNoZero"], recurses := true, named := ["unicode/utf8.first", "unicode/utf8.acceptRanges", "internal/bytealg.MaxLen"], apart := false, laid := [("unicode/utf8.acceptRanges", laid_unicode_utf8_acceptRanges), ("unicode/utf8.first", laid_unicode_utf8_first)], narrowed := true }
def RationalMakesUptoSaid : Prop := rationalMakesUptoRow.holds Tryz.pinned (OpenSpec.upto rationalMakesSpec)

/-- 'viatorlaw02.RationalAdds', WHERE WHAT IT READS IS OF BULK AT MOST 1048576: true; the input reads as it did. -/
def rationalAddsUptoRow : OpenClaim := { program := "ytgkccbnnkkklmaagreatdoor", sum := "98fb70885bc0b6c7d4483b7d99408a56470632cc81e59c3949a2eef45662c49d", func := "viator/viatorlaw02.RationalAdds", spec := "rationalAdds", inPlace := ["internal/bytealg.IndexByteString", "internal/bytealg.IndexString", "math/bits.Add64", "internal/bytealg.abigen_runtime_cmpstring", "internal/abi.NoEscape", "internal/bytealg.MakeNoZero"], recurses := true, named := ["unicode/utf8.first", "unicode/utf8.acceptRanges", "internal/bytealg.MaxLen"], apart := false, laid := [("unicode/utf8.acceptRanges", laid_unicode_utf8_acceptRanges), ("unicode/utf8.first", laid_unicode_utf8_first)], narrowed := true }
def RationalAddsUptoSaid : Prop := rationalAddsUptoRow.holds Tryz.pinned (OpenSpec.upto rationalAddsSpec)

/-- 'viatorlaw02.RationalFloors', WHERE WHAT IT READS IS OF BULK AT MOST 1048576: true; the input reads as it did. -/
def rationalFloorsUptoRow : OpenClaim := { program := "ytgkccbnnkkklmaagreatdoor", sum := "98fb70885bc0b6c7d4483b7d99408a56470632cc81e59c3949a2eef45662c49d", func := "viator/viatorlaw02.RationalFloors", spec := "rationalFloors", inPlace := ["internal/bytealg.abigen_runtime_cmpstring", "internal/bytealg.IndexByteString", "internal/bytealg.IndexString", "math/bits.Add64", "internal/abi.NoEscape", "internal/bytealg.MakeNoZero"], recurses := true, named := ["unicode/utf8.first", "unicode/utf8.acceptRanges", "internal/bytealg.MaxLen"], apart := false, laid := [("unicode/utf8.acceptRanges", laid_unicode_utf8_acceptRanges), ("unicode/utf8.first", laid_unicode_utf8_first)], narrowed := true }
def RationalFloorsUptoSaid : Prop := rationalFloorsUptoRow.holds Tryz.pinned (OpenSpec.upto rationalFloorsSpec)

/-- 'viatorlaw02.RationalSimplest', WHERE WHAT IT READS IS OF BULK AT MOST 1048576: true; the input reads as it did. -/
def rationalSimplestUptoRow : OpenClaim := { program := "ytgkccbnnkkklmaagreatdoor", sum := "98fb70885bc0b6c7d4483b7d99408a56470632cc81e59c3949a2eef45662c49d", func := "viator/viatorlaw02.RationalSimplest", spec := "rationalSimplest", inPlace := ["internal/bytealg.abigen_runtime_cmpstring", "internal/bytealg.IndexByteString", "internal/bytealg.IndexString", "math/bits.Add64", "internal/abi.NoEscape", "internal/bytealg.MakeNoZero"], recurses := true, named := ["unicode/utf8.first", "unicode/utf8.acceptRanges", "internal/bytealg.MaxLen"], apart := false, laid := [("unicode/utf8.acceptRanges", laid_unicode_utf8_acceptRanges), ("unicode/utf8.first", laid_unicode_utf8_first)], narrowed := true }
def RationalSimplestUptoSaid : Prop := rationalSimplestUptoRow.holds Tryz.pinned (OpenSpec.upto rationalSimplestSpec)

/-- 'viatorlaw02.RationalDeep', WHERE WHAT IT READS IS OF BULK AT MOST 1048576: true; the input reads as it did. -/
def rationalDeepUptoRow : OpenClaim := { program := "ytgkccbnnkkklmaagreatdoor", sum := "98fb70885bc0b6c7d4483b7d99408a56470632cc81e59c3949a2eef45662c49d", func := "viator/viatorlaw02.RationalDeep", spec := "rationalDeep", inPlace := ["internal/bytealg.abigen_runtime_cmpstring", "internal/bytealg.IndexByteString", "internal/bytealg.IndexString", "math/bits.Add64", "internal/abi.NoEscape", "internal/bytealg.MakeNoZero"], recurses := true, named := ["unicode/utf8.first", "unicode/utf8.acceptRanges", "internal/bytealg.MaxLen"], apart := false, laid := [("unicode/utf8.acceptRanges", laid_unicode_utf8_acceptRanges), ("unicode/utf8.first", laid_unicode_utf8_first)], narrowed := true }
def RationalDeepUptoSaid : Prop := rationalDeepUptoRow.holds Tryz.pinned (OpenSpec.upto rationalDeepSpec)

/-- 'viatorlaw02.RationalRoots', WHERE WHAT IT READS IS OF BULK AT MOST 1048576: true; the input reads as it did. -/
def rationalRootsUptoRow : OpenClaim := { program := "ytgkccbnnkkklmaagreatdoor", sum := "98fb70885bc0b6c7d4483b7d99408a56470632cc81e59c3949a2eef45662c49d", func := "viator/viatorlaw02.RationalRoots", spec := "rationalRoots", inPlace := ["internal/abi.NoEscape", "internal/bytealg.MakeNoZero", "internal/bytealg.abigen_runtime_cmpstring", "internal/bytealg.IndexByteString", "internal/bytealg.IndexString", "math/bits.Add64"], recurses := true, named := ["unicode/utf8.first", "unicode/utf8.acceptRanges", "internal/bytealg.MaxLen"], apart := false, laid := [("unicode/utf8.acceptRanges", laid_unicode_utf8_acceptRanges), ("unicode/utf8.first", laid_unicode_utf8_first)], narrowed := true }
def RationalRootsUptoSaid : Prop := rationalRootsUptoRow.holds Tryz.pinned (OpenSpec.upto rationalRootsSpec)

/-- 'viatorlaw02.RationalPrints', WHERE WHAT IT READS IS OF BULK AT MOST 1048576: true; the input reads as it did. -/
def rationalPrintsUptoRow : OpenClaim := { program := "ytgkccbnnkkklmaagreatdoor", sum := "98fb70885bc0b6c7d4483b7d99408a56470632cc81e59c3949a2eef45662c49d", func := "viator/viatorlaw02.RationalPrints", spec := "rationalPrints", inPlace := ["internal/bytealg.IndexByteString", "internal/bytealg.IndexString", "math/bits.Add64", "internal/bytealg.abigen_runtime_cmpstring", "internal/abi.NoEscape", "internal/bytealg.MakeNoZero"], recurses := true, named := ["internal/bytealg.MaxLen", "unicode/utf8.first", "unicode/utf8.acceptRanges"], apart := false, laid := [("unicode/utf8.acceptRanges", laid_unicode_utf8_acceptRanges), ("unicode/utf8.first", laid_unicode_utf8_first)], narrowed := true }
def RationalPrintsUptoSaid : Prop := rationalPrintsUptoRow.holds Tryz.pinned (OpenSpec.upto rationalPrintsSpec)

/-- 'viatorlaw02.RationalMultiplies', WHERE WHAT IT READS IS OF BULK AT MOST 1048576: true; the input reads as it did. -/
def rationalMultipliesUptoRow : OpenClaim := { program := "ytgkccbnnkkklmaagreatdoor", sum := "98fb70885bc0b6c7d4483b7d99408a56470632cc81e59c3949a2eef45662c49d", func := "viator/viatorlaw02.RationalMultiplies", spec := "rationalMultiplies", inPlace := ["internal/bytealg.IndexByteString", "internal/bytealg.IndexString", "internal/bytealg.abigen_runtime_cmpstring", "math/bits.Add64", "internal/abi.NoEscape", "internal/bytealg.MakeNoZero"], recurses := true, named := ["unicode/utf8.first", "unicode/utf8.acceptRanges", "internal/bytealg.MaxLen"], apart := false, laid := [("unicode/utf8.acceptRanges", laid_unicode_utf8_acceptRanges), ("unicode/utf8.first", laid_unicode_utf8_first)], narrowed := true }
def RationalMultipliesUptoSaid : Prop := rationalMultipliesUptoRow.holds Tryz.pinned (OpenSpec.upto rationalMultipliesSpec)

/-- 'viatorlaw02.RationalField', WHERE WHAT IT READS IS OF BULK AT MOST 1048576: true; the input reads as it did. -/
def rationalFieldUptoRow : OpenClaim := { program := "ytgkccbnnkkklmaagreatdoor", sum := "98fb70885bc0b6c7d4483b7d99408a56470632cc81e59c3949a2eef45662c49d", func := "viator/viatorlaw02.RationalField", spec := "rationalField", inPlace := ["internal/bytealg.IndexByteString", "internal/bytealg.IndexString", "math/bits.Add64", "internal/bytealg.abigen_runtime_cmpstring", "internal/abi.NoEscape", "internal/bytealg.MakeNoZero"], recurses := true, named := ["unicode/utf8.first", "unicode/utf8.acceptRanges", "internal/bytealg.MaxLen"], apart := false, laid := [("unicode/utf8.acceptRanges", laid_unicode_utf8_acceptRanges), ("unicode/utf8.first", laid_unicode_utf8_first)], narrowed := true }
def RationalFieldUptoSaid : Prop := rationalFieldUptoRow.holds Tryz.pinned (OpenSpec.upto rationalFieldSpec)

/-- 'viatorlaw02.RationalCompares', WHERE WHAT IT READS IS OF BULK AT MOST 1048576: true; the input reads as it did. -/
def rationalComparesUptoRow : OpenClaim := { program := "ytgkccbnnkkklmaagreatdoor", sum := "98fb70885bc0b6c7d4483b7d99408a56470632cc81e59c3949a2eef45662c49d", func := "viator/viatorlaw02.RationalCompares", spec := "rationalCompares", inPlace := ["internal/bytealg.IndexByteString", "internal/bytealg.IndexString", "internal/bytealg.abigen_runtime_cmpstring", "math/bits.Add64", "internal/abi.NoEscape", "internal/bytealg.MakeNoZero"], recurses := true, named := ["unicode/utf8.first", "unicode/utf8.acceptRanges", "internal/bytealg.MaxLen"], apart := false, laid := [("unicode/utf8.acceptRanges", laid_unicode_utf8_acceptRanges), ("unicode/utf8.first", laid_unicode_utf8_first)], narrowed := true }
def RationalComparesUptoSaid : Prop := rationalComparesUptoRow.holds Tryz.pinned (OpenSpec.upto rationalComparesSpec)

/-- 'viatorlaw02.RationalChecks', WHERE WHAT IT READS IS OF BULK AT MOST 1048576: true; the input reads as it did. -/
def rationalChecksUptoRow : OpenClaim := { program := "ytgkccbnnkkklmaagreatdoor", sum := "98fb70885bc0b6c7d4483b7d99408a56470632cc81e59c3949a2eef45662c49d", func := "viator/viatorlaw02.RationalChecks", spec := "rationalChecks", inPlace := ["internal/bytealg.abigen_runtime_cmpstring", "internal/bytealg.IndexByteString", "internal/bytealg.IndexString", "math/bits.Add64", "internal/abi.NoEscape", "internal/bytealg.MakeNoZero"], recurses := true, named := ["unicode/utf8.first", "unicode/utf8.acceptRanges", "internal/bytealg.MaxLen"], apart := false, laid := [("unicode/utf8.acceptRanges", laid_unicode_utf8_acceptRanges), ("unicode/utf8.first", laid_unicode_utf8_first)], narrowed := true }
def RationalChecksUptoSaid : Prop := rationalChecksUptoRow.holds Tryz.pinned (OpenSpec.upto rationalChecksSpec)

end Rows
end Go.Proofs.YtgkccbnnkkklmaaGreatDoor
