import Derived.Test.YthdaimoankaciaaGreatDoorCard
import Derived.Test.YthdaimoankaciaaGreatDoorFlat
/- The cards: what they share; closed facts of the program, each once. -/
set_option linter.unusedSimpArgs false
set_option linter.unusedVariables false
namespace Go.Proofs.YthdaimoankaciaaGreatDoor
open Go.ChangeShapes Go.WideShapes Go.ChangeAt Go.RowKit
open Go
theorem and2 {a b : Bool} (h1 : a = true) (h2 : b = true) : (a && b) = true := by rw [h1, h2]; rfl
set_option maxRecDepth 100000
theorem jf1 : laidOutB Tryz.pinned.checked.prog = true := by kernel_rfl
theorem jf2 : mapsRowed Tryz.pinned.checked.prog = true := by kernel_rfl
theorem jf3 : (Tryz.pinned.checked.prog.stops == []) = true := by kernel_rfl
theorem jf4 : (Tryz.pinned.checked.prog.stopKnobs == []) = true := by kernel_rfl
theorem jf5 : Tryz.pinned.checked.prog.plainKeys = Rows.realPrintsRow.plainKeys := by kernel_rfl
theorem jf6 : Tryz.pinned.checked.prog.stopsHeard = true := by kernel_rfl
theorem jf7 : Tryz.pinned.checked.prog.mayEnter = true := by kernel_rfl
theorem jf8 : Tryz.pinned.checked.prog.liftsFinal = Rows.realPrintsRow.lifted := by kernel_rfl
theorem jf9 : Tryz.pinned.checked.prog.make = some Rows.realPrintsRow.make := by kernel_rfl
theorem jf0 : false = Tryz.pinned.checked.prog.looks [] := by kernel_rfl
end Go.Proofs.YthdaimoankaciaaGreatDoor
