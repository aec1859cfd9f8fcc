/- The cards of this seat: a witness world, the arguments opened, the post of a call that leaves old memory alone. -/
import Derived.Test.YthdaimoankaciaaGreatDoorCards
import Derived.Test.YthdaimoankaciaaGreatDoorTie
import Derived.ProofKit
import Derived.OpenShut
import Derived.Deep.DeepHandedRow
import Derived.Lib.LaidTab
import Derived.Lib.SmallJoins
import Derived.ShutString
set_option linter.unusedSimpArgs false
set_option linter.unusedVariables false
namespace Go.Proofs.YthdaimoankaciaaGreatDoor
open Go.ChangeShapes Go.WideShapes Go.ChangeAt Go.RowKit
open Go
theorem own : ownKnob Tryz.prog.godebug = none := by kernel_rfl
theorem cellsI : Tryz.prog.cellsOf 23 = 2 := by kernel_rfl
def layFirst : Obj → Obj
 | .cells _ t frozen => .cells (Go.Pinned.utf8FirstZ.map fun n : Nat => Value.int .u8 (n : Int)).toArray t frozen
 | o => o
def layAccept : Obj → Obj
 | .cells _ t frozen => .cells #[.int .u8 128, .int .u8 191, .int .u8 160, .int .u8 191, .int .u8 128, .int .u8 159, .int .u8 144, .int .u8 191, .int .u8 128, .int .u8 143, .int .u8 0, .int .u8 0, .int .u8 0, .int .u8 0, .int .u8 0, .int .u8 0, .int .u8 0, .int .u8 0, .int .u8 0, .int .u8 0, .int .u8 0, .int .u8 0, .int .u8 0, .int .u8 0, .int .u8 0, .int .u8 0, .int .u8 0, .int .u8 0, .int .u8 0, .int .u8 0, .int .u8 0, .int .u8 0] t frozen
 | o => o
noncomputable def laidWorld (os : Os) : World :=
 { World.holding Tryz.prog os ⟨#[], #[], []⟩ with heap := ((World.holding Tryz.prog os ⟨#[], #[], []⟩).heap.modify 1 layFirst).modify 2 layAccept }
section
variable {H : Type} {enc : TypeId × Value → H}
set_option maxRecDepth 100000 in
theorem open_int_struct {W : World} {base : Nat} {sp0 : Nat → Bool} {v : Value} {d : DataW H} {p : List MemPlace}
    (hv : Value.okWide Tryz.prog W .any base 23 v) (h : DataW.Trod enc Tryz.prog W 0 sp0 true 23 v d p) :
    ∃ (b : Bool) (s : ByteArray), v = .agg #[.bool b, .string s] ∧ p = [] ∧ s.size ≤ 9223372036854775807 ∧ ∀ (W' : World) (sp : Nat → Bool), DataW.Trod enc Tryz.prog W' 0 sp true 23 (.agg #[.bool b, .string s]) d [] := by
 obtain ⟨v0, v1, y0, y1, n, rfl, rfl, rfl, h0, h1⟩ := Go.Joins.open_agg2 Tryz.underlying23 (by kernel_rfl) cellsI hv h
 obtain ⟨b, e0, rfl⟩ := DataW.trod_bool Tryz.underlying4 h0
 obtain ⟨s, e1, rfl, hs⟩ := DataW.trod_string Tryz.underlying9 h1
 simp at e0 e1
 subst e0 e1
 have hs2 : s.size ≤ 9223372036854775807 := by simpa [maxLen] using hs
 refine ⟨b, s, rfl, rfl, hs2, fun W' sp => ?_⟩
 exact Go.Joins.shut_agg2 (y0 := (.lit (.bool b), [])) (y1 := (.lit (.string s.data.toList), [])) Tryz.underlying23 (by kernel_rfl) cellsI ⟨1, by simp [DataW.trod, Tryz.underlying4]⟩ ⟨1, by simp [DataW.trod, Tryz.underlying9]; exact hs⟩
end
section
variable {H : Type} {enc : TypeId × Value → H} {P : Program}
theorem post_placeless {f : Func} {s : ChangeSpec} {W W' : World} {args : Array Value} {v : Value} {ds gs : List (DataW H)}
    (hW : DataW.Whole enc P f.params.toList s.vars false W args.toList ds gs [])
    (hres : ∀ (b : Nat) (sp : Nat → Bool) (hd : Bool), DataW.TrodAll enc P W' b sp hd f.resultTypes.toList (v.resultList f.resultTypes.size) (s.fn H (ds ++ gs)).results [])
    (hargs : ∀ sp : Nat → Bool, DataW.TrodAll enc P W' 0 sp true f.params.toList args.toList (s.fn H (ds ++ gs)).args [])
    (hvars : ∀ sp : Nat → Bool, DataW.TrodVars enc P W' sp s.vars (s.fn H (ds ++ gs)).vars [])
    (hb : Below W.heap.size W W') : s.post enc P f false true false false W args v W' := by
 refine ⟨ds, gs, [], [], [], [], hW, hres _ _ _, hargs _, hvars _, hb.frame _, fun h => by cases h⟩
end
end Go.Proofs.YthdaimoankaciaaGreatDoor
