import Derived.Test.YthdaimoankaciaaGreatDoorCard
import Derived.Test.YthdaimoankaciaaGreatDoorQp
import Derived.Test.YthdaimoankaciaaGreatDoorFlat
set_option linter.unusedSimpArgs false
set_option linter.unusedVariables false
namespace Go.Proofs.YthdaimoankaciaaGreatDoor
open Go.ChangeShapes Go.WideShapes Go.ChangeAt Go.RowKit
open Go
theorem cellsF : Tryz.prog.cellsOf 91 = 4 := by kernel_rfl
section
variable {H : Type} {enc : TypeId × Value → H}
set_option maxRecDepth 100000 in
theorem open_frac {W : World} {base : Nat} {sp0 : Nat → Bool} {v : Value} {d : DataW H} {p : List MemPlace}
    (hv : Value.okWide Tryz.prog W .any base 91 v) (h : DataW.Trod enc Tryz.prog W 0 sp0 true 91 v d p) :
    ∃ (n e x y : Int), v = .agg #[.int .i64 n, .int .i64 e, .int .u8 x, .int .u8 y] ∧ p = [] ∧ FracOk n e x y ∧ ∀ (W' : World) (sp : Nat → Bool), DataW.Trod enc Tryz.prog W' 0 sp true 91 (.agg #[.int .i64 n, .int .i64 e, .int .u8 x, .int .u8 y]) d [] := by
 obtain ⟨v0, v1, v2, v3, y0, y1, y2, y3, m, rfl, rfl, rfl, h0, h1, h2, h3⟩ := Go.Joins.open_agg4 Tryz.underlying91 (by kernel_rfl) cellsF hv h
 obtain ⟨n, e0, rfl, w0⟩ := DataW.trod_int Tryz.underlying3 h0
 obtain ⟨e, e1, rfl, w1⟩ := DataW.trod_int Tryz.underlying3 h1
 obtain ⟨x, e2, rfl, w2⟩ := DataW.trod_int Tryz.underlying5 h2
 obtain ⟨y, e3, rfl, w3⟩ := DataW.trod_int Tryz.underlying5 h3
 simp at e0 e1 e2 e3
 subst e0 e1 e2 e3
 refine ⟨n, e, x, y, rfl, rfl, ⟨bounds_i64 w0, bounds_i64 w1, bounds_u8 w2, bounds_u8 w3⟩, fun W' sp => ?_⟩
 exact Go.Joins.shut_agg4 (y0 := (.lit (.int .i64 n), [])) (y1 := (.lit (.int .i64 e), [])) (y2 := (.lit (.int .u8 x), [])) (y3 := (.lit (.int .u8 y), [])) Tryz.underlying91 (by kernel_rfl) cellsF ⟨1, by simp [DataW.trod, Tryz.underlying3]; exact w0⟩ ⟨1, by simp [DataW.trod, Tryz.underlying3]; exact w1⟩ ⟨1, by simp [DataW.trod, Tryz.underlying5]; exact w2⟩ ⟨1, by simp [DataW.trod, Tryz.underlying5]; exact w3⟩
end
end Go.Proofs.YthdaimoankaciaaGreatDoor
