/-
  NARROWER THAN 'FOR EVERY INPUT', by the rows' own cells (each row's printed sentence says how): IntegerMultiplies: laid · IntegerDivides: laid · IntegerChecks: laid · IntegerRings: laid · IntegerPowers: laid · IntegerConverts: laid · IntegerAdds: laid · IntegerGcds: laid · IntegerCompares: laid · IntegerPrints: laid · IntegerParses: laid · IntegerRoots: laid.
  DERIVED. THE GIVEN ROWS OF THIS SEAT. 12 by the template 'for every input the law returns true; each argument reads behind the call as it read before'; 0 by the template 'total and deterministic' (their statements: YtkoodpbcfdblbaaDoorTotals.lean).
  GIVEN WITH THE SEED: the statements are not yours to turn. If you find one false, say at which input.
  Laid BY PROGRAM, IN A SANDBOX (cutbox-rows.mjs): the forced cells as the released guide's own fill.sh prints them over the translation b882bc0e55798a2a… (all of the seat's roots in one cut). By AI agents, Wed Nov 11 2026. No macro, syntax, notation, axiom, sorry.
-/
import Derived.Test.YtkoodpbcfdblbaaDoorChecked
import GoSem.PinnedTables
import GoSem.Claim
import GoSem.ClaimJoined
import GoSem.ClaimMapViews
import Derived.JoinedTies
import Derived.KernelRfl
namespace Go.Proofs.YtkoodpbcfdblbaaDoor
/- THE CELL 'sum', in the pinned program and in every row, IS THE sha256 OF THE DUMP (.gsa) THAT YtkoodpbcfdblbaaDoorProg.lean LOADS. Nothing in Lean hashes anything: it is a label: what it is worth is what the hold of that sum in a sandbox is worth. -/
noncomputable def Tryd.pinned : Pinned := { name := "ytkoodpbcfdblbaadoor", sum := "b882bc0e55798a2a8b329996c99ea585b631be392c0513c376ed999908f6f169", checked := Tryd.checked }
namespace Rows
def none {H : Type} : Left H := { results := [], args := [] }

/- WHAT THE LISTED PACKAGE-LEVEL VARIABLES READ AS WHEN THE CALL BEGINS. Each datum BY PROGRAM (the guide's laid-datum.mjs) off the statement by which the dump's own 'gosem.cut.vars' lays the variable. In a bare row this is a premise. The card (YtkoodpbcfdblbaaDoorCards.lean) ties it to the program's text. -/
def laid_unicode_utf8_acceptRanges {H : Type} : DataW H := .agg [.agg [.lit (.int .u8 128), .lit (.int .u8 191)], .agg [.lit (.int .u8 160), .lit (.int .u8 191)], .agg [.lit (.int .u8 128), .lit (.int .u8 159)], .agg [.lit (.int .u8 144), .lit (.int .u8 191)], .agg [.lit (.int .u8 128), .lit (.int .u8 143)], .agg [.lit (.int .u8 0), .lit (.int .u8 0)], .agg [.lit (.int .u8 0), .lit (.int .u8 0)], .agg [.lit (.int .u8 0), .lit (.int .u8 0)], .agg [.lit (.int .u8 0), .lit (.int .u8 0)], .agg [.lit (.int .u8 0), .lit (.int .u8 0)], .agg [.lit (.int .u8 0), .lit (.int .u8 0)], .agg [.lit (.int .u8 0), .lit (.int .u8 0)], .agg [.lit (.int .u8 0), .lit (.int .u8 0)], .agg [.lit (.int .u8 0), .lit (.int .u8 0)], .agg [.lit (.int .u8 0), .lit (.int .u8 0)], .agg [.lit (.int .u8 0), .lit (.int .u8 0)]]
/-- One of Go's own tables, pinned by name: the form's constant. -/
def laid_unicode_utf8_first : DataW Unit := Go.Pinned.utf8First

/-- 'viatorlaw01.IntegerMultiplies': WHATEVER THE INPUT: true; the input reads as it did. -/
def integerMultipliesSpec : ChangeSpec := { name := "integerMultiplies", fn := fun _ => fun
  | [d1, d2] => { results := [.lit (.bool true)], args := [d1, d2] }
  | _ => none }
def integerMultipliesRow : OpenClaim := { program := "ytkoodpbcfdblbaadoor", sum := "b882bc0e55798a2a8b329996c99ea585b631be392c0513c376ed999908f6f169", func := "viator/viatorlaw01.IntegerMultiplies", spec := "integerMultiplies", inPlace := ["internal/bytealg.abigen_runtime_cmpstring", "internal/bytealg.IndexByteString", "internal/bytealg.IndexString", "math/bits.Add64"], named := ["unicode/utf8.first", "unicode/utf8.acceptRanges", "internal/bytealg.MaxLen"], apart := false, laid := [("unicode/utf8.acceptRanges", laid_unicode_utf8_acceptRanges), ("unicode/utf8.first", laid_unicode_utf8_first)] }
def IntegerMultipliesSaid : Prop := integerMultipliesRow.holds Tryd.pinned (OpenSpec.ofChange integerMultipliesSpec)

/-- ITS FALSE NEIGHBOUR: 'it returns false'. Refute it at one input. -/
def integerMultipliesWrong : ChangeSpec := { name := "integerMultiplies", fn := fun _ => fun
  | [d1, d2] => { results := [.lit (.bool false)], args := [d1, d2] }
  | _ => none }
def IntegerMultipliesWrongFalsely : Prop := integerMultipliesRow.holds Tryd.pinned (OpenSpec.ofChange integerMultipliesWrong)

/-- 'viatorlaw01.IntegerDivides': WHATEVER THE INPUT: true; the input reads as it did. -/
def integerDividesSpec : ChangeSpec := { name := "integerDivides", fn := fun _ => fun
  | [d1, d2] => { results := [.lit (.bool true)], args := [d1, d2] }
  | _ => none }
def integerDividesRow : OpenClaim := { program := "ytkoodpbcfdblbaadoor", sum := "b882bc0e55798a2a8b329996c99ea585b631be392c0513c376ed999908f6f169", func := "viator/viatorlaw01.IntegerDivides", spec := "integerDivides", inPlace := ["internal/bytealg.abigen_runtime_cmpstring", "internal/bytealg.IndexByteString", "internal/bytealg.IndexString", "math/bits.Add64"], named := ["unicode/utf8.first", "unicode/utf8.acceptRanges", "internal/bytealg.MaxLen"], apart := false, laid := [("unicode/utf8.acceptRanges", laid_unicode_utf8_acceptRanges), ("unicode/utf8.first", laid_unicode_utf8_first)] }
def IntegerDividesSaid : Prop := integerDividesRow.holds Tryd.pinned (OpenSpec.ofChange integerDividesSpec)

/-- ITS FALSE NEIGHBOUR: 'it returns false'. Refute it at one input. -/
def integerDividesWrong : ChangeSpec := { name := "integerDivides", fn := fun _ => fun
  | [d1, d2] => { results := [.lit (.bool false)], args := [d1, d2] }
  | _ => none }
def IntegerDividesWrongFalsely : Prop := integerDividesRow.holds Tryd.pinned (OpenSpec.ofChange integerDividesWrong)

/-- 'viatorlaw01.IntegerChecks': WHATEVER THE INPUT: true; the input reads as it did. -/
def integerChecksSpec : ChangeSpec := { name := "integerChecks", fn := fun _ => fun
  | [d] => { results := [.lit (.bool true)], args := [d] }
  | _ => none }
def integerChecksRow : OpenClaim := { program := "ytkoodpbcfdblbaadoor", sum := "b882bc0e55798a2a8b329996c99ea585b631be392c0513c376ed999908f6f169", func := "viator/viatorlaw01.IntegerChecks", spec := "integerChecks", inPlace := ["internal/bytealg.abigen_runtime_cmpstring", "internal/bytealg.IndexByteString", "internal/bytealg.IndexString", "math/bits.Add64"], named := ["unicode/utf8.first", "unicode/utf8.acceptRanges", "internal/bytealg.MaxLen"], apart := false, laid := [("unicode/utf8.acceptRanges", laid_unicode_utf8_acceptRanges), ("unicode/utf8.first", laid_unicode_utf8_first)] }
def IntegerChecksSaid : Prop := integerChecksRow.holds Tryd.pinned (OpenSpec.ofChange integerChecksSpec)

/-- ITS FALSE NEIGHBOUR: 'it returns false'. Refute it at one input. -/
def integerChecksWrong : ChangeSpec := { name := "integerChecks", fn := fun _ => fun
  | [d] => { results := [.lit (.bool false)], args := [d] }
  | _ => none }
def IntegerChecksWrongFalsely : Prop := integerChecksRow.holds Tryd.pinned (OpenSpec.ofChange integerChecksWrong)

/-- 'viatorlaw01.IntegerRings': WHATEVER THE INPUT: true; the input reads as it did. -/
def integerRingsSpec : ChangeSpec := { name := "integerRings", fn := fun _ => fun
  | [d1, d2, d3] => { results := [.lit (.bool true)], args := [d1, d2, d3] }
  | _ => none }
def integerRingsRow : OpenClaim := { program := "ytkoodpbcfdblbaadoor", sum := "b882bc0e55798a2a8b329996c99ea585b631be392c0513c376ed999908f6f169", func := "viator/viatorlaw01.IntegerRings", spec := "integerRings", inPlace := ["internal/bytealg.abigen_runtime_cmpstring", "internal/bytealg.IndexByteString", "internal/bytealg.IndexString", "math/bits.Add64"], named := ["unicode/utf8.first", "unicode/utf8.acceptRanges", "internal/bytealg.MaxLen"], apart := false, laid := [("unicode/utf8.acceptRanges", laid_unicode_utf8_acceptRanges), ("unicode/utf8.first", laid_unicode_utf8_first)] }
def IntegerRingsSaid : Prop := integerRingsRow.holds Tryd.pinned (OpenSpec.ofChange integerRingsSpec)

/-- ITS FALSE NEIGHBOUR: 'it returns false'. Refute it at one input. -/
def integerRingsWrong : ChangeSpec := { name := "integerRings", fn := fun _ => fun
  | [d1, d2, d3] => { results := [.lit (.bool false)], args := [d1, d2, d3] }
  | _ => none }
def IntegerRingsWrongFalsely : Prop := integerRingsRow.holds Tryd.pinned (OpenSpec.ofChange integerRingsWrong)

/-- 'viatorlaw01.IntegerPowers': WHATEVER THE INPUT: true; the input reads as it did. -/
def integerPowersSpec : ChangeSpec := { name := "integerPowers", fn := fun _ => fun
  | [d1, d2] => { results := [.lit (.bool true)], args := [d1, d2] }
  | _ => none }
def integerPowersRow : OpenClaim := { program := "ytkoodpbcfdblbaadoor", sum := "b882bc0e55798a2a8b329996c99ea585b631be392c0513c376ed999908f6f169", func := "viator/viatorlaw01.IntegerPowers", spec := "integerPowers", inPlace := ["internal/bytealg.IndexByteString", "internal/bytealg.IndexString", "internal/bytealg.abigen_runtime_cmpstring", "math/bits.Add64"], named := ["unicode/utf8.first", "unicode/utf8.acceptRanges", "internal/bytealg.MaxLen"], apart := false, laid := [("unicode/utf8.acceptRanges", laid_unicode_utf8_acceptRanges), ("unicode/utf8.first", laid_unicode_utf8_first)] }
def IntegerPowersSaid : Prop := integerPowersRow.holds Tryd.pinned (OpenSpec.ofChange integerPowersSpec)

/-- ITS FALSE NEIGHBOUR: 'it returns false'. Refute it at one input. -/
def integerPowersWrong : ChangeSpec := { name := "integerPowers", fn := fun _ => fun
  | [d1, d2] => { results := [.lit (.bool false)], args := [d1, d2] }
  | _ => none }
def IntegerPowersWrongFalsely : Prop := integerPowersRow.holds Tryd.pinned (OpenSpec.ofChange integerPowersWrong)

/-- 'viatorlaw01.IntegerConverts': WHATEVER THE INPUT: true; the input reads as it did. -/
def integerConvertsSpec : ChangeSpec := { name := "integerConverts", fn := fun _ => fun
  | [d1, d2] => { results := [.lit (.bool true)], args := [d1, d2] }
  | _ => none }
def integerConvertsRow : OpenClaim := { program := "ytkoodpbcfdblbaadoor", sum := "b882bc0e55798a2a8b329996c99ea585b631be392c0513c376ed999908f6f169", func := "viator/viatorlaw01.IntegerConverts", spec := "integerConverts", inPlace := ["internal/bytealg.abigen_runtime_cmpstring", "internal/bytealg.IndexByteString", "internal/bytealg.IndexString", "math/bits.Add64"], named := ["unicode/utf8.first", "unicode/utf8.acceptRanges", "internal/bytealg.MaxLen"], apart := false, laid := [("unicode/utf8.acceptRanges", laid_unicode_utf8_acceptRanges), ("unicode/utf8.first", laid_unicode_utf8_first)] }
def IntegerConvertsSaid : Prop := integerConvertsRow.holds Tryd.pinned (OpenSpec.ofChange integerConvertsSpec)

/-- ITS FALSE NEIGHBOUR: 'it returns false'. Refute it at one input. -/
def integerConvertsWrong : ChangeSpec := { name := "integerConverts", fn := fun _ => fun
  | [d1, d2] => { results := [.lit (.bool false)], args := [d1, d2] }
  | _ => none }
def IntegerConvertsWrongFalsely : Prop := integerConvertsRow.holds Tryd.pinned (OpenSpec.ofChange integerConvertsWrong)

/-- 'viatorlaw01.IntegerAdds': WHATEVER THE INPUT: true; the input reads as it did. -/
def integerAddsSpec : ChangeSpec := { name := "integerAdds", fn := fun _ => fun
  | [d1, d2] => { results := [.lit (.bool true)], args := [d1, d2] }
  | _ => none }
def integerAddsRow : OpenClaim := { program := "ytkoodpbcfdblbaadoor", sum := "b882bc0e55798a2a8b329996c99ea585b631be392c0513c376ed999908f6f169", func := "viator/viatorlaw01.IntegerAdds", spec := "integerAdds", inPlace := ["internal/bytealg.abigen_runtime_cmpstring", "internal/bytealg.IndexByteString", "internal/bytealg.IndexString", "math/bits.Add64"], named := ["unicode/utf8.first", "unicode/utf8.acceptRanges", "internal/bytealg.MaxLen"], apart := false, laid := [("unicode/utf8.acceptRanges", laid_unicode_utf8_acceptRanges), ("unicode/utf8.first", laid_unicode_utf8_first)] }
def IntegerAddsSaid : Prop := integerAddsRow.holds Tryd.pinned (OpenSpec.ofChange integerAddsSpec)

/-- ITS FALSE NEIGHBOUR: 'it returns false'. Refute it at one input. -/
def integerAddsWrong : ChangeSpec := { name := "integerAdds", fn := fun _ => fun
  | [d1, d2] => { results := [.lit (.bool false)], args := [d1, d2] }
  | _ => none }
def IntegerAddsWrongFalsely : Prop := integerAddsRow.holds Tryd.pinned (OpenSpec.ofChange integerAddsWrong)

/-- 'viatorlaw01.IntegerGcds': WHATEVER THE INPUT: true; the input reads as it did. -/
def integerGcdsSpec : ChangeSpec := { name := "integerGcds", fn := fun _ => fun
  | [d1, d2, d3] => { results := [.lit (.bool true)], args := [d1, d2, d3] }
  | _ => none }
def integerGcdsRow : OpenClaim := { program := "ytkoodpbcfdblbaadoor", sum := "b882bc0e55798a2a8b329996c99ea585b631be392c0513c376ed999908f6f169", func := "viator/viatorlaw01.IntegerGcds", spec := "integerGcds", inPlace := ["internal/bytealg.abigen_runtime_cmpstring", "internal/bytealg.IndexByteString", "internal/bytealg.IndexString", "math/bits.Add64"], named := ["unicode/utf8.first", "unicode/utf8.acceptRanges", "internal/bytealg.MaxLen"], apart := false, laid := [("unicode/utf8.acceptRanges", laid_unicode_utf8_acceptRanges), ("unicode/utf8.first", laid_unicode_utf8_first)] }
def IntegerGcdsSaid : Prop := integerGcdsRow.holds Tryd.pinned (OpenSpec.ofChange integerGcdsSpec)

/-- ITS FALSE NEIGHBOUR: 'it returns false'. Refute it at one input. -/
def integerGcdsWrong : ChangeSpec := { name := "integerGcds", fn := fun _ => fun
  | [d1, d2, d3] => { results := [.lit (.bool false)], args := [d1, d2, d3] }
  | _ => none }
def IntegerGcdsWrongFalsely : Prop := integerGcdsRow.holds Tryd.pinned (OpenSpec.ofChange integerGcdsWrong)

/-- 'viatorlaw01.IntegerCompares': WHATEVER THE INPUT: true; the input reads as it did. -/
def integerComparesSpec : ChangeSpec := { name := "integerCompares", fn := fun _ => fun
  | [d1, d2] => { results := [.lit (.bool true)], args := [d1, d2] }
  | _ => none }
def integerComparesRow : OpenClaim := { program := "ytkoodpbcfdblbaadoor", sum := "b882bc0e55798a2a8b329996c99ea585b631be392c0513c376ed999908f6f169", func := "viator/viatorlaw01.IntegerCompares", spec := "integerCompares", inPlace := ["internal/bytealg.abigen_runtime_cmpstring", "internal/bytealg.IndexByteString", "internal/bytealg.IndexString", "math/bits.Add64"], named := ["unicode/utf8.first", "unicode/utf8.acceptRanges", "internal/bytealg.MaxLen"], apart := false, laid := [("unicode/utf8.acceptRanges", laid_unicode_utf8_acceptRanges), ("unicode/utf8.first", laid_unicode_utf8_first)] }
def IntegerComparesSaid : Prop := integerComparesRow.holds Tryd.pinned (OpenSpec.ofChange integerComparesSpec)

/-- ITS FALSE NEIGHBOUR: 'it returns false'. Refute it at one input. -/
def integerComparesWrong : ChangeSpec := { name := "integerCompares", fn := fun _ => fun
  | [d1, d2] => { results := [.lit (.bool false)], args := [d1, d2] }
  | _ => none }
def IntegerComparesWrongFalsely : Prop := integerComparesRow.holds Tryd.pinned (OpenSpec.ofChange integerComparesWrong)

/-- 'viatorlaw01.IntegerPrints': WHATEVER THE INPUT: true; the input reads as it did. -/
def integerPrintsSpec : ChangeSpec := { name := "integerPrints", fn := fun _ => fun
  | [d] => { results := [.lit (.bool true)], args := [d] }
  | _ => none }
def integerPrintsRow : OpenClaim := { program := "ytkoodpbcfdblbaadoor", sum := "b882bc0e55798a2a8b329996c99ea585b631be392c0513c376ed999908f6f169", func := "viator/viatorlaw01.IntegerPrints", spec := "integerPrints", inPlace := ["internal/bytealg.IndexByteString", "internal/bytealg.IndexString", "math/bits.Add64", "internal/bytealg.abigen_runtime_cmpstring"], named := ["unicode/utf8.first", "unicode/utf8.acceptRanges", "internal/bytealg.MaxLen"], apart := false, laid := [("unicode/utf8.acceptRanges", laid_unicode_utf8_acceptRanges), ("unicode/utf8.first", laid_unicode_utf8_first)] }
def IntegerPrintsSaid : Prop := integerPrintsRow.holds Tryd.pinned (OpenSpec.ofChange integerPrintsSpec)

/-- ITS FALSE NEIGHBOUR: 'it returns false'. Refute it at one input. -/
def integerPrintsWrong : ChangeSpec := { name := "integerPrints", fn := fun _ => fun
  | [d] => { results := [.lit (.bool false)], args := [d] }
  | _ => none }
def IntegerPrintsWrongFalsely : Prop := integerPrintsRow.holds Tryd.pinned (OpenSpec.ofChange integerPrintsWrong)

/-- 'viatorlaw01.IntegerParses': WHATEVER THE INPUT: true; the input reads as it did. -/
def integerParsesSpec : ChangeSpec := { name := "integerParses", fn := fun _ => fun
  | [d1, d2, d3] => { results := [.lit (.bool true)], args := [d1, d2, d3] }
  | _ => none }
def integerParsesRow : OpenClaim := { program := "ytkoodpbcfdblbaadoor", sum := "b882bc0e55798a2a8b329996c99ea585b631be392c0513c376ed999908f6f169", func := "viator/viatorlaw01.IntegerParses", spec := "integerParses", inPlace := ["internal/bytealg.IndexByteString", "internal/bytealg.IndexString", "math/bits.Add64", "internal/bytealg.abigen_runtime_cmpstring"], named := ["unicode/utf8.first", "unicode/utf8.acceptRanges", "internal/bytealg.MaxLen"], apart := false, laid := [("unicode/utf8.acceptRanges", laid_unicode_utf8_acceptRanges), ("unicode/utf8.first", laid_unicode_utf8_first)] }
def IntegerParsesSaid : Prop := integerParsesRow.holds Tryd.pinned (OpenSpec.ofChange integerParsesSpec)

/-- ITS FALSE NEIGHBOUR: 'it returns false'. Refute it at one input. -/
def integerParsesWrong : ChangeSpec := { name := "integerParses", fn := fun _ => fun
  | [d1, d2, d3] => { results := [.lit (.bool false)], args := [d1, d2, d3] }
  | _ => none }
def IntegerParsesWrongFalsely : Prop := integerParsesRow.holds Tryd.pinned (OpenSpec.ofChange integerParsesWrong)

/-- 'viatorlaw01.IntegerRoots': WHATEVER THE INPUT: true; the input reads as it did. -/
def integerRootsSpec : ChangeSpec := { name := "integerRoots", fn := fun _ => fun
  | [d] => { results := [.lit (.bool true)], args := [d] }
  | _ => none }
def integerRootsRow : OpenClaim := { program := "ytkoodpbcfdblbaadoor", sum := "b882bc0e55798a2a8b329996c99ea585b631be392c0513c376ed999908f6f169", func := "viator/viatorlaw01.IntegerRoots", spec := "integerRoots", inPlace := ["internal/abi.NoEscape", "internal/bytealg.MakeNoZero", "internal/bytealg.abigen_runtime_cmpstring", "internal/bytealg.IndexByteString", "internal/bytealg.IndexString", "math/bits.Add64"], named := ["unicode/utf8.first", "unicode/utf8.acceptRanges", "internal/bytealg.MaxLen"], apart := false, laid := [("unicode/utf8.acceptRanges", laid_unicode_utf8_acceptRanges), ("unicode/utf8.first", laid_unicode_utf8_first)] }
def IntegerRootsSaid : Prop := integerRootsRow.holds Tryd.pinned (OpenSpec.ofChange integerRootsSpec)

/-- ITS FALSE NEIGHBOUR: 'it returns false'. Refute it at one input. -/
def integerRootsWrong : ChangeSpec := { name := "integerRoots", fn := fun _ => fun
  | [d] => { results := [.lit (.bool false)], args := [d] }
  | _ => none }
def IntegerRootsWrongFalsely : Prop := integerRootsRow.holds Tryd.pinned (OpenSpec.ofChange integerRootsWrong)

/- THE SECOND FORM. 'bulk': how many values and letters a reading holds, each counted each time it is reached (what is shared counts as often as it is met; a slice's spare places count too). A statement '..UptoSaid' is the law's where the arguments, and the package variables that the reading takes, are together of bulk at most 1048576: NARROWER than '..Said'. Prove '..Said' where nothing that the law and all that it calls make is longer than what came in: it says more and counts as full. Else prove '..UptoSaid'. A law counts once. -/
mutual
def uptoBulk {H : Type} : DataW H → Nat
  | .lit (.string bytes) => bytes.length + 1
  | .lit _ => 1
  | .nil => 1
  | .ptr d => uptoBulk d + 1
  | .slice elems spare => uptoBulkAll elems + uptoBulkAll spare + 1
  | .agg parts => uptoBulkAll parts + 1
  | .iface _ d => uptoBulk d + 1
  | .map entries => uptoBulkEntries entries + 1
  | .held _ => 1
def uptoBulkAll {H : Type} : List (DataW H) → Nat
  | [] => 0
  | d :: r => uptoBulk d + uptoBulkAll r
def uptoBulkEntries {H : Type} : List (Lit × DataW H) → Nat
  | [] => 0
  | x :: r => uptoBulkEntry x + uptoBulkEntries r
def uptoBulkEntry {H : Type} : Lit × DataW H → Nat
  | (.string bytes, d) => bytes.length + uptoBulk d + 1
  | (_, d) => uptoBulk d + 1
 end
def uptoSmall : (H : Type) → List (DataW H) → Bool := fun _ ds => decide (uptoBulkAll ds ≤ 1048576)
def OpenSpec.upto (s : _root_.Go.ChangeSpec) : _root_.Go.OpenSpec := { _root_.Go.OpenSpec.ofChange s with cond := some uptoSmall }

/-- 'viatorlaw01.IntegerMultiplies', WHERE WHAT IT READS IS OF BULK AT MOST 1048576: true; the input reads as it did. -/
def integerMultipliesUptoRow : OpenClaim := { program := "ytkoodpbcfdblbaadoor", sum := "b882bc0e55798a2a8b329996c99ea585b631be392c0513c376ed999908f6f169", func := "viator/viatorlaw01.IntegerMultiplies", spec := "integerMultiplies", inPlace := ["internal/bytealg.abigen_runtime_cmpstring", "internal/bytealg.IndexByteString", "internal/bytealg.IndexString", "math/bits.Add64"], named := ["unicode/utf8.first", "unicode/utf8.acceptRanges", "internal/bytealg.MaxLen"], apart := false, laid := [("unicode/utf8.acceptRanges", laid_unicode_utf8_acceptRanges), ("unicode/utf8.first", laid_unicode_utf8_first)], narrowed := true }
def IntegerMultipliesUptoSaid : Prop := integerMultipliesUptoRow.holds Tryd.pinned (OpenSpec.upto integerMultipliesSpec)

/-- 'viatorlaw01.IntegerDivides', WHERE WHAT IT READS IS OF BULK AT MOST 1048576: true; the input reads as it did. -/
def integerDividesUptoRow : OpenClaim := { program := "ytkoodpbcfdblbaadoor", sum := "b882bc0e55798a2a8b329996c99ea585b631be392c0513c376ed999908f6f169", func := "viator/viatorlaw01.IntegerDivides", spec := "integerDivides", inPlace := ["internal/bytealg.abigen_runtime_cmpstring", "internal/bytealg.IndexByteString", "internal/bytealg.IndexString", "math/bits.Add64"], named := ["unicode/utf8.first", "unicode/utf8.acceptRanges", "internal/bytealg.MaxLen"], apart := false, laid := [("unicode/utf8.acceptRanges", laid_unicode_utf8_acceptRanges), ("unicode/utf8.first", laid_unicode_utf8_first)], narrowed := true }
def IntegerDividesUptoSaid : Prop := integerDividesUptoRow.holds Tryd.pinned (OpenSpec.upto integerDividesSpec)

/-- 'viatorlaw01.IntegerChecks', WHERE WHAT IT READS IS OF BULK AT MOST 1048576: true; the input reads as it did. -/
def integerChecksUptoRow : OpenClaim := { program := "ytkoodpbcfdblbaadoor", sum := "b882bc0e55798a2a8b329996c99ea585b631be392c0513c376ed999908f6f169", func := "viator/viatorlaw01.IntegerChecks", spec := "integerChecks", inPlace := ["internal/bytealg.abigen_runtime_cmpstring", "internal/bytealg.IndexByteString", "internal/bytealg.IndexString", "math/bits.Add64"], named := ["unicode/utf8.first", "unicode/utf8.acceptRanges", "internal/bytealg.MaxLen"], apart := false, laid := [("unicode/utf8.acceptRanges", laid_unicode_utf8_acceptRanges), ("unicode/utf8.first", laid_unicode_utf8_first)], narrowed := true }
def IntegerChecksUptoSaid : Prop := integerChecksUptoRow.holds Tryd.pinned (OpenSpec.upto integerChecksSpec)

/-- 'viatorlaw01.IntegerRings', WHERE WHAT IT READS IS OF BULK AT MOST 1048576: true; the input reads as it did. -/
def integerRingsUptoRow : OpenClaim := { program := "ytkoodpbcfdblbaadoor", sum := "b882bc0e55798a2a8b329996c99ea585b631be392c0513c376ed999908f6f169", func := "viator/viatorlaw01.IntegerRings", spec := "integerRings", inPlace := ["internal/bytealg.abigen_runtime_cmpstring", "internal/bytealg.IndexByteString", "internal/bytealg.IndexString", "math/bits.Add64"], named := ["unicode/utf8.first", "unicode/utf8.acceptRanges", "internal/bytealg.MaxLen"], apart := false, laid := [("unicode/utf8.acceptRanges", laid_unicode_utf8_acceptRanges), ("unicode/utf8.first", laid_unicode_utf8_first)], narrowed := true }
def IntegerRingsUptoSaid : Prop := integerRingsUptoRow.holds Tryd.pinned (OpenSpec.upto integerRingsSpec)

/-- 'viatorlaw01.IntegerPowers', WHERE WHAT IT READS IS OF BULK AT MOST 1048576: true; the input reads as it did. -/
def integerPowersUptoRow : OpenClaim := { program := "ytkoodpbcfdblbaadoor", sum := "b882bc0e55798a2a8b329996c99ea585b631be392c0513c376ed999908f6f169", func := "viator/viatorlaw01.IntegerPowers", spec := "integerPowers", inPlace := ["internal/bytealg.IndexByteString", "internal/bytealg.IndexString", "internal/bytealg.abigen_runtime_cmpstring", "math/bits.Add64"], named := ["unicode/utf8.first", "unicode/utf8.acceptRanges", "internal/bytealg.MaxLen"], apart := false, laid := [("unicode/utf8.acceptRanges", laid_unicode_utf8_acceptRanges), ("unicode/utf8.first", laid_unicode_utf8_first)], narrowed := true }
def IntegerPowersUptoSaid : Prop := integerPowersUptoRow.holds Tryd.pinned (OpenSpec.upto integerPowersSpec)

/-- 'viatorlaw01.IntegerConverts', WHERE WHAT IT READS IS OF BULK AT MOST 1048576: true; the input reads as it did. -/
def integerConvertsUptoRow : OpenClaim := { program := "ytkoodpbcfdblbaadoor", sum := "b882bc0e55798a2a8b329996c99ea585b631be392c0513c376ed999908f6f169", func := "viator/viatorlaw01.IntegerConverts", spec := "integerConverts", inPlace := ["internal/bytealg.abigen_runtime_cmpstring", "internal/bytealg.IndexByteString", "internal/bytealg.IndexString", "math/bits.Add64"], named := ["unicode/utf8.first", "unicode/utf8.acceptRanges", "internal/bytealg.MaxLen"], apart := false, laid := [("unicode/utf8.acceptRanges", laid_unicode_utf8_acceptRanges), ("unicode/utf8.first", laid_unicode_utf8_first)], narrowed := true }
def IntegerConvertsUptoSaid : Prop := integerConvertsUptoRow.holds Tryd.pinned (OpenSpec.upto integerConvertsSpec)

/-- 'viatorlaw01.IntegerAdds', WHERE WHAT IT READS IS OF BULK AT MOST 1048576: true; the input reads as it did. -/
def integerAddsUptoRow : OpenClaim := { program := "ytkoodpbcfdblbaadoor", sum := "b882bc0e55798a2a8b329996c99ea585b631be392c0513c376ed999908f6f169", func := "viator/viatorlaw01.IntegerAdds", spec := "integerAdds", inPlace := ["internal/bytealg.abigen_runtime_cmpstring", "internal/bytealg.IndexByteString", "internal/bytealg.IndexString", "math/bits.Add64"], named := ["unicode/utf8.first", "unicode/utf8.acceptRanges", "internal/bytealg.MaxLen"], apart := false, laid := [("unicode/utf8.acceptRanges", laid_unicode_utf8_acceptRanges), ("unicode/utf8.first", laid_unicode_utf8_first)], narrowed := true }
def IntegerAddsUptoSaid : Prop := integerAddsUptoRow.holds Tryd.pinned (OpenSpec.upto integerAddsSpec)

/-- 'viatorlaw01.IntegerGcds', WHERE WHAT IT READS IS OF BULK AT MOST 1048576: true; the input reads as it did. -/
def integerGcdsUptoRow : OpenClaim := { program := "ytkoodpbcfdblbaadoor", sum := "b882bc0e55798a2a8b329996c99ea585b631be392c0513c376ed999908f6f169", func := "viator/viatorlaw01.IntegerGcds", spec := "integerGcds", inPlace := ["internal/bytealg.abigen_runtime_cmpstring", "internal/bytealg.IndexByteString", "internal/bytealg.IndexString", "math/bits.Add64"], named := ["unicode/utf8.first", "unicode/utf8.acceptRanges", "internal/bytealg.MaxLen"], apart := false, laid := [("unicode/utf8.acceptRanges", laid_unicode_utf8_acceptRanges), ("unicode/utf8.first", laid_unicode_utf8_first)], narrowed := true }
def IntegerGcdsUptoSaid : Prop := integerGcdsUptoRow.holds Tryd.pinned (OpenSpec.upto integerGcdsSpec)

/-- 'viatorlaw01.IntegerCompares', WHERE WHAT IT READS IS OF BULK AT MOST 1048576: true; the input reads as it did. -/
def integerComparesUptoRow : OpenClaim := { program := "ytkoodpbcfdblbaadoor", sum := "b882bc0e55798a2a8b329996c99ea585b631be392c0513c376ed999908f6f169", func := "viator/viatorlaw01.IntegerCompares", spec := "integerCompares", inPlace := ["internal/bytealg.abigen_runtime_cmpstring", "internal/bytealg.IndexByteString", "internal/bytealg.IndexString", "math/bits.Add64"], named := ["unicode/utf8.first", "unicode/utf8.acceptRanges", "internal/bytealg.MaxLen"], apart := false, laid := [("unicode/utf8.acceptRanges", laid_unicode_utf8_acceptRanges), ("unicode/utf8.first", laid_unicode_utf8_first)], narrowed := true }
def IntegerComparesUptoSaid : Prop := integerComparesUptoRow.holds Tryd.pinned (OpenSpec.upto integerComparesSpec)

/-- 'viatorlaw01.IntegerPrints', WHERE WHAT IT READS IS OF BULK AT MOST 1048576: true; the input reads as it did. -/
def integerPrintsUptoRow : OpenClaim := { program := "ytkoodpbcfdblbaadoor", sum := "b882bc0e55798a2a8b329996c99ea585b631be392c0513c376ed999908f6f169", func := "viator/viatorlaw01.IntegerPrints", spec := "integerPrints", inPlace := ["internal/bytealg.IndexByteString", "internal/bytealg.IndexString", "math/bits.Add64", "internal/bytealg.abigen_runtime_cmpstring"], named := ["unicode/utf8.first", "unicode/utf8.acceptRanges", "internal/bytealg.MaxLen"], apart := false, laid := [("unicode/utf8.acceptRanges", laid_unicode_utf8_acceptRanges), ("unicode/utf8.first", laid_unicode_utf8_first)], narrowed := true }
def IntegerPrintsUptoSaid : Prop := integerPrintsUptoRow.holds Tryd.pinned (OpenSpec.upto integerPrintsSpec)

/-- 'viatorlaw01.IntegerParses', WHERE WHAT IT READS IS OF BULK AT MOST 1048576: true; the input reads as it did. -/
def integerParsesUptoRow : OpenClaim := { program := "ytkoodpbcfdblbaadoor", sum := "b882bc0e55798a2a8b329996c99ea585b631be392c0513c376ed999908f6f169", func := "viator/viatorlaw01.IntegerParses", spec := "integerParses", inPlace := ["internal/bytealg.IndexByteString", "internal/bytealg.IndexString", "math/bits.Add64", "internal/bytealg.abigen_runtime_cmpstring"], named := ["unicode/utf8.first", "unicode/utf8.acceptRanges", "internal/bytealg.MaxLen"], apart := false, laid := [("unicode/utf8.acceptRanges", laid_unicode_utf8_acceptRanges), ("unicode/utf8.first", laid_unicode_utf8_first)], narrowed := true }
def IntegerParsesUptoSaid : Prop := integerParsesUptoRow.holds Tryd.pinned (OpenSpec.upto integerParsesSpec)

/-- 'viatorlaw01.IntegerRoots', WHERE WHAT IT READS IS OF BULK AT MOST 1048576: true; the input reads as it did. -/
def integerRootsUptoRow : OpenClaim := { program := "ytkoodpbcfdblbaadoor", sum := "b882bc0e55798a2a8b329996c99ea585b631be392c0513c376ed999908f6f169", func := "viator/viatorlaw01.IntegerRoots", spec := "integerRoots", inPlace := ["internal/abi.NoEscape", "internal/bytealg.MakeNoZero", "internal/bytealg.abigen_runtime_cmpstring", "internal/bytealg.IndexByteString", "internal/bytealg.IndexString", "math/bits.Add64"], named := ["unicode/utf8.first", "unicode/utf8.acceptRanges", "internal/bytealg.MaxLen"], apart := false, laid := [("unicode/utf8.acceptRanges", laid_unicode_utf8_acceptRanges), ("unicode/utf8.first", laid_unicode_utf8_first)], narrowed := true }
def IntegerRootsUptoSaid : Prop := integerRootsUptoRow.holds Tryd.pinned (OpenSpec.upto integerRootsSpec)

end Rows
end Go.Proofs.YtkoodpbcfdblbaaDoor
