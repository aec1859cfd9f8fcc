/-
  DERIVED. GIVEN WITH THE SEED: THE CARDS: each row of YtkoodpbcfdblbaaDoorRows.lean that lists a variable, with what it lists TIED to the program's text (the seventh form; the later family's looks); each row that meets fmt, with fmt's text TOLD by the authors' own Lean function (tested against real Go, not proved from fmt's source: count such statements apart). THE CARD IS WHAT COUNTS. Prove the row's statement (the work); the ties are given (YtkoodpbcfdblbaaDoorTie.lean); close each card by the builder's one call (the guide's Derived/Test/ToyasCard.lean, 'card_holds'). Laid BY PROGRAM, IN A SANDBOX (cutbox-door.mjs). By AI agents, Wed Nov 11 2026. No macro, syntax, notation, axiom, sorry.
-/
import Derived.Test.YtkoodpbcfdblbaaDoorRows
import GoSem.ClaimSeven
namespace Go.Proofs.YtkoodpbcfdblbaaDoor
namespace Rows

/-- THE TIED CARD OF 'viatorlaw01.IntegerMultiplies'. -/
def integerMultipliesCard : Claim7 := { stood := { row := integerMultipliesRow, standIns := [], harness := (true, "de7c749d1684a09d432024797a47474e54753d7d1140f33d27c8774cac999c44"), looks := false }, kinds := [], alts := [], laidByText := true, laidKinds := [.data, .pinned], laidTests := true, laidLooks := .later }
def IntegerMultipliesCardSaid : Prop := Claim7.holds Tryd.pinned (.plain (OpenSpec.ofChange integerMultipliesSpec)) integerMultipliesCard

/-- THE TIED CARD OF 'viatorlaw01.IntegerDivides'. -/
def integerDividesCard : Claim7 := { stood := { row := integerDividesRow, standIns := [], harness := (true, "de7c749d1684a09d432024797a47474e54753d7d1140f33d27c8774cac999c44"), looks := false }, kinds := [], alts := [], laidByText := true, laidKinds := [.data, .pinned], laidTests := true, laidLooks := .later }
def IntegerDividesCardSaid : Prop := Claim7.holds Tryd.pinned (.plain (OpenSpec.ofChange integerDividesSpec)) integerDividesCard

/-- THE TIED CARD OF 'viatorlaw01.IntegerChecks'. -/
def integerChecksCard : Claim7 := { stood := { row := integerChecksRow, standIns := [], harness := (true, "de7c749d1684a09d432024797a47474e54753d7d1140f33d27c8774cac999c44"), looks := false }, kinds := [], alts := [], laidByText := true, laidKinds := [.data, .pinned], laidTests := true, laidLooks := .later }
def IntegerChecksCardSaid : Prop := Claim7.holds Tryd.pinned (.plain (OpenSpec.ofChange integerChecksSpec)) integerChecksCard

/-- THE TIED CARD OF 'viatorlaw01.IntegerRings'. -/
def integerRingsCard : Claim7 := { stood := { row := integerRingsRow, standIns := [], harness := (true, "de7c749d1684a09d432024797a47474e54753d7d1140f33d27c8774cac999c44"), looks := false }, kinds := [], alts := [], laidByText := true, laidKinds := [.data, .pinned], laidTests := true, laidLooks := .later }
def IntegerRingsCardSaid : Prop := Claim7.holds Tryd.pinned (.plain (OpenSpec.ofChange integerRingsSpec)) integerRingsCard

/-- THE TIED CARD OF 'viatorlaw01.IntegerPowers'. -/
def integerPowersCard : Claim7 := { stood := { row := integerPowersRow, standIns := [], harness := (true, "de7c749d1684a09d432024797a47474e54753d7d1140f33d27c8774cac999c44"), looks := false }, kinds := [], alts := [], laidByText := true, laidKinds := [.data, .pinned], laidTests := true, laidLooks := .later }
def IntegerPowersCardSaid : Prop := Claim7.holds Tryd.pinned (.plain (OpenSpec.ofChange integerPowersSpec)) integerPowersCard

/-- THE TIED CARD OF 'viatorlaw01.IntegerConverts'. -/
def integerConvertsCard : Claim7 := { stood := { row := integerConvertsRow, standIns := [], harness := (true, "de7c749d1684a09d432024797a47474e54753d7d1140f33d27c8774cac999c44"), looks := false }, kinds := [], alts := [], laidByText := true, laidKinds := [.data, .pinned], laidTests := true, laidLooks := .later }
def IntegerConvertsCardSaid : Prop := Claim7.holds Tryd.pinned (.plain (OpenSpec.ofChange integerConvertsSpec)) integerConvertsCard

/-- THE TIED CARD OF 'viatorlaw01.IntegerAdds'. -/
def integerAddsCard : Claim7 := { stood := { row := integerAddsRow, standIns := [], harness := (true, "de7c749d1684a09d432024797a47474e54753d7d1140f33d27c8774cac999c44"), looks := false }, kinds := [], alts := [], laidByText := true, laidKinds := [.data, .pinned], laidTests := true, laidLooks := .later }
def IntegerAddsCardSaid : Prop := Claim7.holds Tryd.pinned (.plain (OpenSpec.ofChange integerAddsSpec)) integerAddsCard

/-- THE TIED CARD OF 'viatorlaw01.IntegerGcds'. -/
def integerGcdsCard : Claim7 := { stood := { row := integerGcdsRow, standIns := [], harness := (true, "de7c749d1684a09d432024797a47474e54753d7d1140f33d27c8774cac999c44"), looks := false }, kinds := [], alts := [], laidByText := true, laidKinds := [.data, .pinned], laidTests := true, laidLooks := .later }
def IntegerGcdsCardSaid : Prop := Claim7.holds Tryd.pinned (.plain (OpenSpec.ofChange integerGcdsSpec)) integerGcdsCard

/-- THE TIED CARD OF 'viatorlaw01.IntegerCompares'. -/
def integerComparesCard : Claim7 := { stood := { row := integerComparesRow, standIns := [], harness := (true, "de7c749d1684a09d432024797a47474e54753d7d1140f33d27c8774cac999c44"), looks := false }, kinds := [], alts := [], laidByText := true, laidKinds := [.data, .pinned], laidTests := true, laidLooks := .later }
def IntegerComparesCardSaid : Prop := Claim7.holds Tryd.pinned (.plain (OpenSpec.ofChange integerComparesSpec)) integerComparesCard

/-- THE TIED CARD OF 'viatorlaw01.IntegerPrints'. -/
def integerPrintsCard : Claim7 := { stood := { row := integerPrintsRow, standIns := [], harness := (true, "de7c749d1684a09d432024797a47474e54753d7d1140f33d27c8774cac999c44"), looks := false }, kinds := [], alts := [], laidByText := true, laidKinds := [.data, .pinned], laidTests := true, laidLooks := .later }
def IntegerPrintsCardSaid : Prop := Claim7.holds Tryd.pinned (.plain (OpenSpec.ofChange integerPrintsSpec)) integerPrintsCard

/-- THE TIED CARD OF 'viatorlaw01.IntegerParses'. -/
def integerParsesCard : Claim7 := { stood := { row := integerParsesRow, standIns := [], harness := (true, "de7c749d1684a09d432024797a47474e54753d7d1140f33d27c8774cac999c44"), looks := false }, kinds := [], alts := [], laidByText := true, laidKinds := [.data, .pinned], laidTests := true, laidLooks := .later }
def IntegerParsesCardSaid : Prop := Claim7.holds Tryd.pinned (.plain (OpenSpec.ofChange integerParsesSpec)) integerParsesCard

/-- THE TIED CARD OF 'viatorlaw01.IntegerRoots'. -/
def integerRootsCard : Claim7 := { stood := { row := integerRootsRow, standIns := [], harness := (true, "de7c749d1684a09d432024797a47474e54753d7d1140f33d27c8774cac999c44"), looks := false }, kinds := [], alts := [], laidByText := true, laidKinds := [.data, .pinned], laidTests := true, laidLooks := .later }
def IntegerRootsCardSaid : Prop := Claim7.holds Tryd.pinned (.plain (OpenSpec.ofChange integerRootsSpec)) integerRootsCard

/-- THE SECOND FORM's CARD OF 'viatorlaw01.IntegerMultiplies'. -/
def integerMultipliesUptoCard : Claim7 := { stood := { row := integerMultipliesUptoRow, standIns := [], harness := (true, "de7c749d1684a09d432024797a47474e54753d7d1140f33d27c8774cac999c44"), looks := false }, kinds := [], alts := [], laidByText := true, laidKinds := [.data, .pinned], laidTests := true, laidLooks := .later }
def IntegerMultipliesUptoCardSaid : Prop := Claim7.holds Tryd.pinned (.plain (OpenSpec.upto integerMultipliesSpec)) integerMultipliesUptoCard

/-- THE SECOND FORM's CARD OF 'viatorlaw01.IntegerDivides'. -/
def integerDividesUptoCard : Claim7 := { stood := { row := integerDividesUptoRow, standIns := [], harness := (true, "de7c749d1684a09d432024797a47474e54753d7d1140f33d27c8774cac999c44"), looks := false }, kinds := [], alts := [], laidByText := true, laidKinds := [.data, .pinned], laidTests := true, laidLooks := .later }
def IntegerDividesUptoCardSaid : Prop := Claim7.holds Tryd.pinned (.plain (OpenSpec.upto integerDividesSpec)) integerDividesUptoCard

/-- THE SECOND FORM's CARD OF 'viatorlaw01.IntegerChecks'. -/
def integerChecksUptoCard : Claim7 := { stood := { row := integerChecksUptoRow, standIns := [], harness := (true, "de7c749d1684a09d432024797a47474e54753d7d1140f33d27c8774cac999c44"), looks := false }, kinds := [], alts := [], laidByText := true, laidKinds := [.data, .pinned], laidTests := true, laidLooks := .later }
def IntegerChecksUptoCardSaid : Prop := Claim7.holds Tryd.pinned (.plain (OpenSpec.upto integerChecksSpec)) integerChecksUptoCard

/-- THE SECOND FORM's CARD OF 'viatorlaw01.IntegerRings'. -/
def integerRingsUptoCard : Claim7 := { stood := { row := integerRingsUptoRow, standIns := [], harness := (true, "de7c749d1684a09d432024797a47474e54753d7d1140f33d27c8774cac999c44"), looks := false }, kinds := [], alts := [], laidByText := true, laidKinds := [.data, .pinned], laidTests := true, laidLooks := .later }
def IntegerRingsUptoCardSaid : Prop := Claim7.holds Tryd.pinned (.plain (OpenSpec.upto integerRingsSpec)) integerRingsUptoCard

/-- THE SECOND FORM's CARD OF 'viatorlaw01.IntegerPowers'. -/
def integerPowersUptoCard : Claim7 := { stood := { row := integerPowersUptoRow, standIns := [], harness := (true, "de7c749d1684a09d432024797a47474e54753d7d1140f33d27c8774cac999c44"), looks := false }, kinds := [], alts := [], laidByText := true, laidKinds := [.data, .pinned], laidTests := true, laidLooks := .later }
def IntegerPowersUptoCardSaid : Prop := Claim7.holds Tryd.pinned (.plain (OpenSpec.upto integerPowersSpec)) integerPowersUptoCard

/-- THE SECOND FORM's CARD OF 'viatorlaw01.IntegerConverts'. -/
def integerConvertsUptoCard : Claim7 := { stood := { row := integerConvertsUptoRow, standIns := [], harness := (true, "de7c749d1684a09d432024797a47474e54753d7d1140f33d27c8774cac999c44"), looks := false }, kinds := [], alts := [], laidByText := true, laidKinds := [.data, .pinned], laidTests := true, laidLooks := .later }
def IntegerConvertsUptoCardSaid : Prop := Claim7.holds Tryd.pinned (.plain (OpenSpec.upto integerConvertsSpec)) integerConvertsUptoCard

/-- THE SECOND FORM's CARD OF 'viatorlaw01.IntegerAdds'. -/
def integerAddsUptoCard : Claim7 := { stood := { row := integerAddsUptoRow, standIns := [], harness := (true, "de7c749d1684a09d432024797a47474e54753d7d1140f33d27c8774cac999c44"), looks := false }, kinds := [], alts := [], laidByText := true, laidKinds := [.data, .pinned], laidTests := true, laidLooks := .later }
def IntegerAddsUptoCardSaid : Prop := Claim7.holds Tryd.pinned (.plain (OpenSpec.upto integerAddsSpec)) integerAddsUptoCard

/-- THE SECOND FORM's CARD OF 'viatorlaw01.IntegerGcds'. -/
def integerGcdsUptoCard : Claim7 := { stood := { row := integerGcdsUptoRow, standIns := [], harness := (true, "de7c749d1684a09d432024797a47474e54753d7d1140f33d27c8774cac999c44"), looks := false }, kinds := [], alts := [], laidByText := true, laidKinds := [.data, .pinned], laidTests := true, laidLooks := .later }
def IntegerGcdsUptoCardSaid : Prop := Claim7.holds Tryd.pinned (.plain (OpenSpec.upto integerGcdsSpec)) integerGcdsUptoCard

/-- THE SECOND FORM's CARD OF 'viatorlaw01.IntegerCompares'. -/
def integerComparesUptoCard : Claim7 := { stood := { row := integerComparesUptoRow, standIns := [], harness := (true, "de7c749d1684a09d432024797a47474e54753d7d1140f33d27c8774cac999c44"), looks := false }, kinds := [], alts := [], laidByText := true, laidKinds := [.data, .pinned], laidTests := true, laidLooks := .later }
def IntegerComparesUptoCardSaid : Prop := Claim7.holds Tryd.pinned (.plain (OpenSpec.upto integerComparesSpec)) integerComparesUptoCard

/-- THE SECOND FORM's CARD OF 'viatorlaw01.IntegerPrints'. -/
def integerPrintsUptoCard : Claim7 := { stood := { row := integerPrintsUptoRow, standIns := [], harness := (true, "de7c749d1684a09d432024797a47474e54753d7d1140f33d27c8774cac999c44"), looks := false }, kinds := [], alts := [], laidByText := true, laidKinds := [.data, .pinned], laidTests := true, laidLooks := .later }
def IntegerPrintsUptoCardSaid : Prop := Claim7.holds Tryd.pinned (.plain (OpenSpec.upto integerPrintsSpec)) integerPrintsUptoCard

/-- THE SECOND FORM's CARD OF 'viatorlaw01.IntegerParses'. -/
def integerParsesUptoCard : Claim7 := { stood := { row := integerParsesUptoRow, standIns := [], harness := (true, "de7c749d1684a09d432024797a47474e54753d7d1140f33d27c8774cac999c44"), looks := false }, kinds := [], alts := [], laidByText := true, laidKinds := [.data, .pinned], laidTests := true, laidLooks := .later }
def IntegerParsesUptoCardSaid : Prop := Claim7.holds Tryd.pinned (.plain (OpenSpec.upto integerParsesSpec)) integerParsesUptoCard

/-- THE SECOND FORM's CARD OF 'viatorlaw01.IntegerRoots'. -/
def integerRootsUptoCard : Claim7 := { stood := { row := integerRootsUptoRow, standIns := [], harness := (true, "de7c749d1684a09d432024797a47474e54753d7d1140f33d27c8774cac999c44"), looks := false }, kinds := [], alts := [], laidByText := true, laidKinds := [.data, .pinned], laidTests := true, laidLooks := .later }
def IntegerRootsUptoCardSaid : Prop := Claim7.holds Tryd.pinned (.plain (OpenSpec.upto integerRootsSpec)) integerRootsUptoCard
end Rows
end Go.Proofs.YtkoodpbcfdblbaaDoor
