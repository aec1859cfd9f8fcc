/- Part 1 of the proof; what it holds is said text by text. -/
import Derived.Test.YtlblfgbpogljoaaGreatDoorQbL
set_option linter.unusedSimpArgs false
set_option linter.unusedVariables false
section
/- Chapter 4: its laws. -/
namespace Go.Proofs.YtlblfgbpogljoaaGreatDoor
open Go Go.RowKit Go.Sy
open Vi
theorem QuadraticValues_s (n1 d1 n2 d2 n3 d3 n4 d4 n5 d5 n6 d6 : Int) (neg : Bool) (h1 : Cn n1 d1) (h2 : Cn n2 d2) (h3 : Cn n3 d3) (h4 : Cn n4 d4) (h5 : Cn n5 d5) (h6 : Cn n6 d6) : Sp Tryz.prog 5 [] [fnV n1 d1 n2 d2 n3 d3, coV n4 d4, tmV n5 d5 n6 d6 neg] (.bool true) [] := by
 exact QuadraticValues_k vKnown4 n1 d1 n2 d2 n3 d3 n4 d4 n5 d5 n6 d6 neg h1 h2 h3 h4 h5 h6
theorem QuadraticValues_c (n1 d1 n2 d2 n3 d3 n4 d4 n5 d5 n6 d6 : Int) (neg : Bool) (w : World) (hw : w.ShapedOpen Tryz.prog) (h1 : Cn n1 d1) (h2 : Cn n2 d2) (h3 : Cn n3 d3) (h4 : Cn n4 d4) (h5 : Cn n5 d5) (h6 : Cn n6 d6) : Calls Tryz.prog 5 #[fnV n1 d1 n2 d2 n3 d3, coV n4 d4, tmV n5 d5 n6 d6 neg] w fun e w' => e = .returned (.bool true) ∧ Below w.heap.size w w' := (QuadraticValues_s n1 d1 n2 d2 n3 d3 n4 d4 n5 d5 n6 d6 neg h1 h2 h3 h4 h5 h6).calls rfl rfl w hw
end Go.Proofs.YtlblfgbpogljoaaGreatDoor

end
