/-
  DERIVED. GIVEN WITH THE SEED: THE CARDS: each row of YtlblfgbpogljoaaGreatDoorRows.lean that lists a variable, with what it lists TIED to the program's text (the seventh form; the later family's looks); each row that meets fmt, with fmt's text TOLD by the authors' own Lean function (tested against real Go, not proved from fmt's source: count such statements apart). THE CARD IS WHAT COUNTS. Prove the row's statement (the work); the ties are given (YtlblfgbpogljoaaGreatDoorTie.lean); close each card by the builder's one call (the guide's Derived/Test/ToyasCard.lean, 'card_holds'). Laid BY PROGRAM, IN A SANDBOX (cutbox-door.mjs). By AI agents, Wed Nov 11 2026. No macro, syntax, notation, axiom, sorry.
-/
import Derived.Test.YtlblfgbpogljoaaGreatDoorRows
import GoSem.ClaimSeven
namespace Go.Proofs.YtlblfgbpogljoaaGreatDoor
namespace Rows

/-- THE TIED CARD OF 'viatorlaw05.EnclosureWidths'. -/
def enclosureWidthsCard : Claim7 := { stood := { row := enclosureWidthsRow, standIns := [], harness := (true, "a2cc437adea7a780352e29b1621ecd5dfc9c8137a56e982e7b8307b11b82bd20"), looks := false }, kinds := [], alts := [], laidByText := true, laidKinds := [.data, .pinned], laidTests := true, laidLooks := .later }
def EnclosureWidthsCardSaid : Prop := Claim7.holds Tryz.pinned (.plain (OpenSpec.ofChange enclosureWidthsSpec)) enclosureWidthsCard

/-- THE TIED CARD OF 'viatorlaw05.EnclosureLengths'. -/
def enclosureLengthsCard : Claim7 := { stood := { row := enclosureLengthsRow, standIns := [], harness := (true, "a2cc437adea7a780352e29b1621ecd5dfc9c8137a56e982e7b8307b11b82bd20"), looks := false }, kinds := [], alts := [], laidByText := true, laidKinds := [.data, .pinned], laidTests := true, laidLooks := .later }
def EnclosureLengthsCardSaid : Prop := Claim7.holds Tryz.pinned (.plain (OpenSpec.ofChange enclosureLengthsSpec)) enclosureLengthsCard

/-- THE TIED CARD OF 'viatorlaw04.QuadraticValues'. -/
def quadraticValuesCard : Claim7 := { stood := { row := quadraticValuesRow, standIns := [], harness := (true, "a2cc437adea7a780352e29b1621ecd5dfc9c8137a56e982e7b8307b11b82bd20"), looks := false }, kinds := [], alts := [], laidByText := true, laidKinds := [.data, .pinned], laidTests := true, laidLooks := .later }
def QuadraticValuesCardSaid : Prop := Claim7.holds Tryz.pinned (.plain (OpenSpec.ofChange quadraticValuesSpec)) quadraticValuesCard

/-- THE TIED CARD OF 'viatorlaw04.QuadraticRoots'. -/
def quadraticRootsCard : Claim7 := { stood := { row := quadraticRootsRow, standIns := [], harness := (true, "a2cc437adea7a780352e29b1621ecd5dfc9c8137a56e982e7b8307b11b82bd20"), looks := false }, kinds := [], alts := [], laidByText := true, laidKinds := [.data, .pinned], laidTests := true, laidLooks := .later }
def QuadraticRootsCardSaid : Prop := Claim7.holds Tryz.pinned (.plain (OpenSpec.ofChange quadraticRootsSpec)) quadraticRootsCard

/-- THE TIED CARD OF 'viatorlaw04.QuadraticSigns'. -/
def quadraticSignsCard : Claim7 := { stood := { row := quadraticSignsRow, standIns := [], harness := (true, "a2cc437adea7a780352e29b1621ecd5dfc9c8137a56e982e7b8307b11b82bd20"), looks := false }, kinds := [], alts := [], laidByText := true, laidKinds := [.data, .pinned], laidTests := true, laidLooks := .later }
def QuadraticSignsCardSaid : Prop := Claim7.holds Tryz.pinned (.plain (OpenSpec.ofChange quadraticSignsSpec)) quadraticSignsCard

/-- THE TIED CARD OF 'viatorlaw04.QuadraticWheres'. -/
def quadraticWheresCard : Claim7 := { stood := { row := quadraticWheresRow, standIns := [], harness := (true, "a2cc437adea7a780352e29b1621ecd5dfc9c8137a56e982e7b8307b11b82bd20"), looks := false }, kinds := [], alts := [], laidByText := true, laidKinds := [.data, .pinned], laidTests := true, laidLooks := .later }
def QuadraticWheresCardSaid : Prop := Claim7.holds Tryz.pinned (.plain (OpenSpec.ofChange quadraticWheresSpec)) quadraticWheresCard

/-- THE TIED CARD OF 'viatorlaw04.QuadraticExtremes'. -/
def quadraticExtremesCard : Claim7 := { stood := { row := quadraticExtremesRow, standIns := [], harness := (true, "a2cc437adea7a780352e29b1621ecd5dfc9c8137a56e982e7b8307b11b82bd20"), looks := false }, kinds := [], alts := [], laidByText := true, laidKinds := [.data, .pinned], laidTests := true, laidLooks := .later }
def QuadraticExtremesCardSaid : Prop := Claim7.holds Tryz.pinned (.plain (OpenSpec.ofChange quadraticExtremesSpec)) quadraticExtremesCard

/-- THE TIED CARD OF 'viatorlaw04.QuadraticReduces'. -/
def quadraticReducesCard : Claim7 := { stood := { row := quadraticReducesRow, standIns := [], harness := (true, "a2cc437adea7a780352e29b1621ecd5dfc9c8137a56e982e7b8307b11b82bd20"), looks := false }, kinds := [], alts := [], laidByText := true, laidKinds := [.data, .pinned], laidTests := true, laidLooks := .later }
def QuadraticReducesCardSaid : Prop := Claim7.holds Tryz.pinned (.plain (OpenSpec.ofChange quadraticReducesSpec)) quadraticReducesCard

/-- THE TIED CARD OF 'viatorlaw04.QuadraticShifts'. -/
def quadraticShiftsCard : Claim7 := { stood := { row := quadraticShiftsRow, standIns := [], harness := (true, "a2cc437adea7a780352e29b1621ecd5dfc9c8137a56e982e7b8307b11b82bd20"), looks := false }, kinds := [], alts := [], laidByText := true, laidKinds := [.data, .pinned], laidTests := true, laidLooks := .later }
def QuadraticShiftsCardSaid : Prop := Claim7.holds Tryz.pinned (.plain (OpenSpec.ofChange quadraticShiftsSpec)) quadraticShiftsCard

/-- THE TIED CARD OF 'viatorlaw04.QuadraticMakes'. -/
def quadraticMakesCard : Claim7 := { stood := { row := quadraticMakesRow, standIns := [], harness := (true, "a2cc437adea7a780352e29b1621ecd5dfc9c8137a56e982e7b8307b11b82bd20"), looks := false }, kinds := [], alts := [], laidByText := true, laidKinds := [.data, .pinned], laidTests := true, laidLooks := .later }
def QuadraticMakesCardSaid : Prop := Claim7.holds Tryz.pinned (.plain (OpenSpec.ofChange quadraticMakesSpec)) quadraticMakesCard

/-- THE TIED CARD OF 'viatorlaw04.QuadraticChecks'. -/
def quadraticChecksCard : Claim7 := { stood := { row := quadraticChecksRow, standIns := [], harness := (true, "a2cc437adea7a780352e29b1621ecd5dfc9c8137a56e982e7b8307b11b82bd20"), looks := false }, kinds := [], alts := [], laidByText := true, laidKinds := [.data, .pinned], laidTests := true, laidLooks := .later }
def QuadraticChecksCardSaid : Prop := Claim7.holds Tryz.pinned (.plain (OpenSpec.ofChange quadraticChecksSpec)) quadraticChecksCard

/-- THE TIED CARD OF 'viatorlaw04.QuadraticSums'. -/
def quadraticSumsCard : Claim7 := { stood := { row := quadraticSumsRow, standIns := [], harness := (true, "a2cc437adea7a780352e29b1621ecd5dfc9c8137a56e982e7b8307b11b82bd20"), looks := false }, kinds := [], alts := [], laidByText := true, laidKinds := [.data, .pinned], laidTests := true, laidLooks := .later }
def QuadraticSumsCardSaid : Prop := Claim7.holds Tryz.pinned (.plain (OpenSpec.ofChange quadraticSumsSpec)) quadraticSumsCard

/-- THE TIED CARD OF 'viatorlaw04.QuadraticProducts'. -/
def quadraticProductsCard : Claim7 := { stood := { row := quadraticProductsRow, standIns := [], harness := (true, "a2cc437adea7a780352e29b1621ecd5dfc9c8137a56e982e7b8307b11b82bd20"), looks := false }, kinds := [], alts := [], laidByText := true, laidKinds := [.data, .pinned], laidTests := true, laidLooks := .later }
def QuadraticProductsCardSaid : Prop := Claim7.holds Tryz.pinned (.plain (OpenSpec.ofChange quadraticProductsSpec)) quadraticProductsCard

/-- THE SECOND FORM's CARD OF 'viatorlaw05.EnclosureWidths'. -/
def enclosureWidthsUptoCard : Claim7 := { stood := { row := enclosureWidthsUptoRow, standIns := [], harness := (true, "a2cc437adea7a780352e29b1621ecd5dfc9c8137a56e982e7b8307b11b82bd20"), looks := false }, kinds := [], alts := [], laidByText := true, laidKinds := [.data, .pinned], laidTests := true, laidLooks := .later }
def EnclosureWidthsUptoCardSaid : Prop := Claim7.holds Tryz.pinned (.plain (OpenSpec.upto enclosureWidthsSpec)) enclosureWidthsUptoCard

/-- THE SECOND FORM's CARD OF 'viatorlaw05.EnclosureLengths'. -/
def enclosureLengthsUptoCard : Claim7 := { stood := { row := enclosureLengthsUptoRow, standIns := [], harness := (true, "a2cc437adea7a780352e29b1621ecd5dfc9c8137a56e982e7b8307b11b82bd20"), looks := false }, kinds := [], alts := [], laidByText := true, laidKinds := [.data, .pinned], laidTests := true, laidLooks := .later }
def EnclosureLengthsUptoCardSaid : Prop := Claim7.holds Tryz.pinned (.plain (OpenSpec.upto enclosureLengthsSpec)) enclosureLengthsUptoCard

/-- THE SECOND FORM's CARD OF 'viatorlaw04.QuadraticValues'. -/
def quadraticValuesUptoCard : Claim7 := { stood := { row := quadraticValuesUptoRow, standIns := [], harness := (true, "a2cc437adea7a780352e29b1621ecd5dfc9c8137a56e982e7b8307b11b82bd20"), looks := false }, kinds := [], alts := [], laidByText := true, laidKinds := [.data, .pinned], laidTests := true, laidLooks := .later }
def QuadraticValuesUptoCardSaid : Prop := Claim7.holds Tryz.pinned (.plain (OpenSpec.upto quadraticValuesSpec)) quadraticValuesUptoCard

/-- THE SECOND FORM's CARD OF 'viatorlaw04.QuadraticRoots'. -/
def quadraticRootsUptoCard : Claim7 := { stood := { row := quadraticRootsUptoRow, standIns := [], harness := (true, "a2cc437adea7a780352e29b1621ecd5dfc9c8137a56e982e7b8307b11b82bd20"), looks := false }, kinds := [], alts := [], laidByText := true, laidKinds := [.data, .pinned], laidTests := true, laidLooks := .later }
def QuadraticRootsUptoCardSaid : Prop := Claim7.holds Tryz.pinned (.plain (OpenSpec.upto quadraticRootsSpec)) quadraticRootsUptoCard

/-- THE SECOND FORM's CARD OF 'viatorlaw04.QuadraticSigns'. -/
def quadraticSignsUptoCard : Claim7 := { stood := { row := quadraticSignsUptoRow, standIns := [], harness := (true, "a2cc437adea7a780352e29b1621ecd5dfc9c8137a56e982e7b8307b11b82bd20"), looks := false }, kinds := [], alts := [], laidByText := true, laidKinds := [.data, .pinned], laidTests := true, laidLooks := .later }
def QuadraticSignsUptoCardSaid : Prop := Claim7.holds Tryz.pinned (.plain (OpenSpec.upto quadraticSignsSpec)) quadraticSignsUptoCard

/-- THE SECOND FORM's CARD OF 'viatorlaw04.QuadraticWheres'. -/
def quadraticWheresUptoCard : Claim7 := { stood := { row := quadraticWheresUptoRow, standIns := [], harness := (true, "a2cc437adea7a780352e29b1621ecd5dfc9c8137a56e982e7b8307b11b82bd20"), looks := false }, kinds := [], alts := [], laidByText := true, laidKinds := [.data, .pinned], laidTests := true, laidLooks := .later }
def QuadraticWheresUptoCardSaid : Prop := Claim7.holds Tryz.pinned (.plain (OpenSpec.upto quadraticWheresSpec)) quadraticWheresUptoCard

/-- THE SECOND FORM's CARD OF 'viatorlaw04.QuadraticExtremes'. -/
def quadraticExtremesUptoCard : Claim7 := { stood := { row := quadraticExtremesUptoRow, standIns := [], harness := (true, "a2cc437adea7a780352e29b1621ecd5dfc9c8137a56e982e7b8307b11b82bd20"), looks := false }, kinds := [], alts := [], laidByText := true, laidKinds := [.data, .pinned], laidTests := true, laidLooks := .later }
def QuadraticExtremesUptoCardSaid : Prop := Claim7.holds Tryz.pinned (.plain (OpenSpec.upto quadraticExtremesSpec)) quadraticExtremesUptoCard

/-- THE SECOND FORM's CARD OF 'viatorlaw04.QuadraticReduces'. -/
def quadraticReducesUptoCard : Claim7 := { stood := { row := quadraticReducesUptoRow, standIns := [], harness := (true, "a2cc437adea7a780352e29b1621ecd5dfc9c8137a56e982e7b8307b11b82bd20"), looks := false }, kinds := [], alts := [], laidByText := true, laidKinds := [.data, .pinned], laidTests := true, laidLooks := .later }
def QuadraticReducesUptoCardSaid : Prop := Claim7.holds Tryz.pinned (.plain (OpenSpec.upto quadraticReducesSpec)) quadraticReducesUptoCard

/-- THE SECOND FORM's CARD OF 'viatorlaw04.QuadraticShifts'. -/
def quadraticShiftsUptoCard : Claim7 := { stood := { row := quadraticShiftsUptoRow, standIns := [], harness := (true, "a2cc437adea7a780352e29b1621ecd5dfc9c8137a56e982e7b8307b11b82bd20"), looks := false }, kinds := [], alts := [], laidByText := true, laidKinds := [.data, .pinned], laidTests := true, laidLooks := .later }
def QuadraticShiftsUptoCardSaid : Prop := Claim7.holds Tryz.pinned (.plain (OpenSpec.upto quadraticShiftsSpec)) quadraticShiftsUptoCard

/-- THE SECOND FORM's CARD OF 'viatorlaw04.QuadraticMakes'. -/
def quadraticMakesUptoCard : Claim7 := { stood := { row := quadraticMakesUptoRow, standIns := [], harness := (true, "a2cc437adea7a780352e29b1621ecd5dfc9c8137a56e982e7b8307b11b82bd20"), looks := false }, kinds := [], alts := [], laidByText := true, laidKinds := [.data, .pinned], laidTests := true, laidLooks := .later }
def QuadraticMakesUptoCardSaid : Prop := Claim7.holds Tryz.pinned (.plain (OpenSpec.upto quadraticMakesSpec)) quadraticMakesUptoCard

/-- THE SECOND FORM's CARD OF 'viatorlaw04.QuadraticChecks'. -/
def quadraticChecksUptoCard : Claim7 := { stood := { row := quadraticChecksUptoRow, standIns := [], harness := (true, "a2cc437adea7a780352e29b1621ecd5dfc9c8137a56e982e7b8307b11b82bd20"), looks := false }, kinds := [], alts := [], laidByText := true, laidKinds := [.data, .pinned], laidTests := true, laidLooks := .later }
def QuadraticChecksUptoCardSaid : Prop := Claim7.holds Tryz.pinned (.plain (OpenSpec.upto quadraticChecksSpec)) quadraticChecksUptoCard

/-- THE SECOND FORM's CARD OF 'viatorlaw04.QuadraticSums'. -/
def quadraticSumsUptoCard : Claim7 := { stood := { row := quadraticSumsUptoRow, standIns := [], harness := (true, "a2cc437adea7a780352e29b1621ecd5dfc9c8137a56e982e7b8307b11b82bd20"), looks := false }, kinds := [], alts := [], laidByText := true, laidKinds := [.data, .pinned], laidTests := true, laidLooks := .later }
def QuadraticSumsUptoCardSaid : Prop := Claim7.holds Tryz.pinned (.plain (OpenSpec.upto quadraticSumsSpec)) quadraticSumsUptoCard

/-- THE SECOND FORM's CARD OF 'viatorlaw04.QuadraticProducts'. -/
def quadraticProductsUptoCard : Claim7 := { stood := { row := quadraticProductsUptoRow, standIns := [], harness := (true, "a2cc437adea7a780352e29b1621ecd5dfc9c8137a56e982e7b8307b11b82bd20"), looks := false }, kinds := [], alts := [], laidByText := true, laidKinds := [.data, .pinned], laidTests := true, laidLooks := .later }
def QuadraticProductsUptoCardSaid : Prop := Claim7.holds Tryz.pinned (.plain (OpenSpec.upto quadraticProductsSpec)) quadraticProductsUptoCard
end Rows
end Go.Proofs.YtlblfgbpogljoaaGreatDoor
