import Derived.Test.YthdaimoankaciaaGreatDoorProg
import Derived.Test.YthdaimoankaciaaGreatDoorShelf
import Derived.Test.YthdaimoankaciaaGreatDoorIntH
import Derived.OwnWalk
set_option linter.unusedSimpArgs false
set_option linter.unusedVariables false
namespace Go.Proofs.YthdaimoankaciaaGreatDoor
open Go Go.RowKit
open Vi
def im300 : Value := .agg #[.bool true, .string ⟨#[1, 44]⟩]
theorem v300 : (Value.agg #[.bool (sg (-300)), .string (mg (-300))]) = .agg #[.bool true, .string ⟨#[1, 44]⟩] := by
 rw [show sg (-300) = true by decide, show mg (-300) = ⟨#[1, 44]⟩ by decide]
theorem v7n : (Value.agg #[.bool (sg (-7)), .string (mg (-7))]) = .agg #[.bool true, .string ⟨#[7]⟩] := by
 rw [show sg (-7) = true by decide, show mg (-7) = ⟨#[7]⟩ by decide]
theorem v7 : (Value.agg #[.bool (sg 7), .string (mg 7)]) = .agg #[.bool false, .string ⟨#[7]⟩] := by
 rw [show sg 7 = false by decide, show mg 7 = ⟨#[7]⟩ by decide]
theorem v2 : (Value.agg #[.bool (sg 2), .string (mg 2)]) = .agg #[.bool false, .string ⟨#[2]⟩] := by
 rw [show sg 2 = false by decide, show mg 2 = ⟨#[2]⟩ by decide]
theorem v4n : (Value.agg #[.bool (sg (-7 / 2)), .string (mg (-7 / 2))]) = .agg #[.bool true, .string ⟨#[4]⟩] := by
 rw [show sg (-7 / 2) = true by decide, show mg (-7 / 2) = ⟨#[4]⟩ by decide]
theorem v1 : (Value.agg #[.bool (sg (-7 % 2)), .string (mg (-7 % 2))]) = .agg #[.bool false, .string ⟨#[1]⟩] := by
 rw [show sg (-7 % 2) = false by decide, show mg (-7 % 2) = ⟨#[1]⟩ by decide]
theorem v2100 : (Value.agg #[.bool (sg (-300 * 7)), .string (mg (-300 * 7))]) = .agg #[.bool true, .string ⟨#[8, 52]⟩] := by
 rw [show sg (-300 * 7) = true by decide, show mg (-300 * 7) = ⟨#[8, 52]⟩ by decide]
theorem k_f300 (w : World) : Calls Tryz.prog 110 #[.int .i64 (-300)] w fun e w' => e = .returned (.agg #[.bool true, .string ⟨#[1, 44]⟩]) ∧ Below w.heap.size w w' := Calls.value v300 (FromInt_c (-300) w (by omega) (by omega))
theorem k_f7n (w : World) : Calls Tryz.prog 110 #[.int .i64 (-7)] w fun e w' => e = .returned (.agg #[.bool true, .string ⟨#[7]⟩]) ∧ Below w.heap.size w w' := Calls.value v7n (FromInt_c (-7) w (by omega) (by omega))
theorem k_f7 (w : World) : Calls Tryz.prog 110 #[.int .i64 7] w fun e w' => e = .returned (.agg #[.bool false, .string ⟨#[7]⟩]) ∧ Below w.heap.size w w' := Calls.value v7 (FromInt_c 7 w (by omega) (by omega))
theorem k_f2 (w : World) : Calls Tryz.prog 110 #[.int .i64 2] w fun e w' => e = .returned (.agg #[.bool false, .string ⟨#[2]⟩]) ∧ Below w.heap.size w w' := Calls.value v2 (FromInt_c 2 w (by omega) (by omega))
theorem k_mul (w : World) : Calls Tryz.prog 107 #[.agg #[.bool true, .string ⟨#[1, 44]⟩], .agg #[.bool false, .string ⟨#[7]⟩]] w fun e w' => e = .returned (.agg #[.bool true, .string ⟨#[8, 52]⟩]) ∧ Below w.heap.size w w' := by
 rw [← v2100, ← v300, ← v7]
 exact Mul_c (-300) 7 w (by decide) (by decide)
theorem k_div (w : World) : Calls Tryz.prog 111 #[.agg #[.bool true, .string ⟨#[7]⟩], .agg #[.bool false, .string ⟨#[2]⟩]] w fun e w' => e = .returned (.tuple #[.agg #[.bool true, .string ⟨#[4]⟩], .agg #[.bool false, .string ⟨#[1]⟩], .int .i64 0]) ∧ Below w.heap.size w w' := by
 rw [← v4n, ← v7n, ← v2, ← v1]
 exact DivMod_of (-7) 2 w (by omega) (by decide) (by decide) (div_small _ _ (by decide) (by decide) (by decide))
end Go.Proofs.YthdaimoankaciaaGreatDoor
