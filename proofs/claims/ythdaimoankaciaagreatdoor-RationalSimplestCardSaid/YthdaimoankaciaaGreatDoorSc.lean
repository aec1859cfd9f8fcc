import Derived.Test.YthdaimoankaciaaGreatDoorSb
import Derived.Test.YthdaimoankaciaaGreatDoorQp
/- Chapter 2's law about the simplest fraction. -/
set_option linter.unusedSimpArgs false
set_option linter.unusedVariables false
namespace Go.Proofs.YthdaimoankaciaaGreatDoor
open Go Go.RowKit Go.Sy
open Vi
theorem bin_remI (x : Int) (y : Nat) (hy : 0 < y) : Bin .rem 3 (nV x) (nV (y : Int)) (nV (x.tmod (y : Int))) := by
 intro ox oy w
 have e : (y : Int) ≠ 0 := by omega
 show (Op.intDiv .rem .i64 x (y : Int)).run Tryz.prog w = _
 unfold Op.intDiv
 rw [if_neg e]
 rfl
theorem endOf (n d : Int) (hn : -32768 ≤ n ∧ n ≤ 32767) : ∃ u : Int, IntKind.i64.wrap n = n ∧ IntKind.u16.wrap d = u ∧ IntKind.i64.wrap u = u ∧ 0 ≤ u ∧
    ∃ (t r : Int) (q : Rat), Bin .rem 3 (nV n) (nV 401) (nV t) ∧ Bin .rem 3 (nV u) (nV 24) (nV r) ∧ IntKind.i64.wrap (1 + r) = 1 + r ∧ Sp Tryz.prog 43 [] [nV t, nV (1 + r)] (rV q) [] ∧ HasSz q 2 ∧ q.den ≤ 24 := by
 obtain ⟨u, hu⟩ : ∃ u, u = IntKind.u16.wrap d := ⟨_, rfl⟩
 have hu2 : u = d % 65536 := hu
 have h0 : 0 ≤ u := by omega
 have h1 : u < 65536 := by omega
 have b1 := bin_remI n 401 (by omega)
 have b2 := bin_remI u 24 (by omega)
 rw [Int.tmod_eq_emod_of_nonneg h0] at b2
 have t1 : (n.tmod 401).natAbs < 401 := by rw [Int.natAbs_tmod]; exact Nat.mod_lt _ (by decide)
 have r0 : 0 ≤ u % 24 := by omega
 have r1 : u % 24 < 24 := by omega
 have O := rOf (n.tmod 401) (1 + u % 24) (by omega) (by omega) (by omega) (by omega) (by omega)
 have hd := (divInt_small (n.tmod 401) (1 + u % 24).toNat (by omega))
 rw [show (((1 + u % 24).toNat : Nat) : Int) = 1 + u % 24 by omega] at hd
 refine ⟨u, w64 (by omega) (by omega), hu.symm, w64 (by omega) (by omega), h0, n.tmod 401, u % 24, _, b1, b2, w64 (by omega) (by omega), O, ⟨?_, ?_⟩, by omega⟩
 ·have : (256 : Nat) ^ 2 = 65536 := by decide
  omega
 ·have : (256 : Nat) ^ 2 = 65536 := by decide
  omega
theorem RationalSimplest_s (n1 d1 n2 d2 : Int) (oa ob : Bool) (h1 : -32768 ≤ n1 ∧ n1 ≤ 32767) (h2 : -32768 ≤ d1 ∧ d1 ≤ 32767) (h3 : -32768 ≤ n2 ∧ n2 ≤ 32767) (h4 : -32768 ≤ d2 ∧ d2 ≤ 32767) : Sp Tryz.prog 15 [] [.agg #[.int .i16 n1, .int .i16 d1, .int .i16 n2, .int .i16 d2], .bool oa, .bool ob] (.bool true) [] := by
 have K := vKnown
 obtain ⟨u1, a1, a2, a3, a4, t1, r1, a, b1, b2, b3, O1, za, da⟩ := endOf n1 d1 h1
 obtain ⟨u2, c1, c2, c3, c4, t2, r2, b, e1, e2, e3, O2, zb, db⟩ := endOf n2 d2 h3
 have fa : Fits a := fz
 have fb : Fits b := fz
 have C := rCompare a b fa fb
 have x0 := same 0
 rw [rV0] at x0
 rcases cmpQ_cases a b with ⟨hc, hlt⟩ | ⟨hc, heq⟩ | ⟨hc, hgt⟩ <;> rw [hc] at C
 ·obtain ⟨q, hB, S⟩ := pSimplestSome a b oa ob (.inl hlt) 2 (by omega) za.sz zb.sz
  have bd := (best_bound a b oa ob q hB).1
  have R := rSimp a b q oa ob hB (by omega)
  have xq := same q
  haveI zq : HasSz q 6 := by
   have hn := (best_bound a b oa ob q hB).2
   have h5 := za.sz.1
   have h6 := zb.sz.1
   refine ⟨?_, ?_⟩
   ·have : (256 : Nat) ^ 2 = 65536 := by decide
    have : (256 : Nat) ^ 6 = 281474976710656 := by decide
    omega
   ·have : (256 : Nat) ^ 6 = 281474976710656 := by decide
    omega
  have W := rWithin q a b oa ob fz fa fb
  rw [(within_iff q a b oa ob).2 hB.1] at W
  clear hB bd zq za zb da db fa fb hlt hc a4 c4 h1 h2 h3 h4
  exact walk (code := Tryz.f15.body.getD .skip) [c K, L, Go.Sy.e (congrArg (Value.int IntKind.i64) a1), x2 b1, Go.Sy.e (congrArg (Value.int IntKind.u16) a2), Go.Sy.e (congrArg (Value.int IntKind.i64) a3), x2 b2, Go.Sy.e (congrArg (Value.int IntKind.i64) b3), c O1, Go.Sy.e (congrArg (Value.int IntKind.i64) c1), x2 e1, Go.Sy.e (congrArg (Value.int IntKind.u16) c2), Go.Sy.e (congrArg (Value.int IntKind.i64) c3), x2 e2, Go.Sy.e (congrArg (Value.int IntKind.i64) e3), c O2, c S, c C, c R, L, x2 xq, c W] fol Tryz.func15 (by kernel_rfl) (fun xs w => Tryz.call15 xs w) (by kernel_rfl)
 ·by_cases ho : oa = true ∨ ob = true
  ·have S := pSimplestNone a b oa ob (.inr ⟨heq, ho⟩) fa fb
   clear za zb da db fa fb heq hc a4 c4 h1 h2 h3 h4
   cases oa
   ·obtain rfl : ob = true := by simpa using ho
    clear ho
    exact walk (code := Tryz.f15.body.getD .skip) [c K, L, Go.Sy.e (congrArg (Value.int IntKind.i64) a1), x2 b1, Go.Sy.e (congrArg (Value.int IntKind.u16) a2), Go.Sy.e (congrArg (Value.int IntKind.i64) a3), x2 b2, Go.Sy.e (congrArg (Value.int IntKind.i64) b3), c O1, Go.Sy.e (congrArg (Value.int IntKind.i64) c1), x2 e1, Go.Sy.e (congrArg (Value.int IntKind.u16) c2), Go.Sy.e (congrArg (Value.int IntKind.i64) c3), x2 e2, Go.Sy.e (congrArg (Value.int IntKind.i64) e3), c O2, c S, c C, L, L, x2 x0] fol Tryz.func15 (by kernel_rfl) (fun xs w => Tryz.call15 xs w) (by kernel_rfl)
   ·clear ho
    cases ob
    ·exact walk (code := Tryz.f15.body.getD .skip) [c K, L, Go.Sy.e (congrArg (Value.int IntKind.i64) a1), x2 b1, Go.Sy.e (congrArg (Value.int IntKind.u16) a2), Go.Sy.e (congrArg (Value.int IntKind.i64) a3), x2 b2, Go.Sy.e (congrArg (Value.int IntKind.i64) b3), c O1, Go.Sy.e (congrArg (Value.int IntKind.i64) c1), x2 e1, Go.Sy.e (congrArg (Value.int IntKind.u16) c2), Go.Sy.e (congrArg (Value.int IntKind.i64) c3), x2 e2, Go.Sy.e (congrArg (Value.int IntKind.i64) e3), c O2, c S, c C, L, L, x2 x0] fol Tryz.func15 (by kernel_rfl) (fun xs w => Tryz.call15 xs w) (by kernel_rfl)
    ·exact walk (code := Tryz.f15.body.getD .skip) [c K, L, Go.Sy.e (congrArg (Value.int IntKind.i64) a1), x2 b1, Go.Sy.e (congrArg (Value.int IntKind.u16) a2), Go.Sy.e (congrArg (Value.int IntKind.i64) a3), x2 b2, Go.Sy.e (congrArg (Value.int IntKind.i64) b3), c O1, Go.Sy.e (congrArg (Value.int IntKind.i64) c1), x2 e1, Go.Sy.e (congrArg (Value.int IntKind.u16) c2), Go.Sy.e (congrArg (Value.int IntKind.i64) c3), x2 e2, Go.Sy.e (congrArg (Value.int IntKind.i64) e3), c O2, c S, c C, L, L, x2 x0] fol Tryz.func15 (by kernel_rfl) (fun xs w => Tryz.call15 xs w) (by kernel_rfl)
  ·obtain ⟨rfl, rfl⟩ : oa = false ∧ ob = false := by cases oa <;> cases ob <;> simp at ho ⊢
   obtain ⟨q, hB, S⟩ := pSimplestSome a b false false (.inr ⟨heq, rfl, rfl⟩) 2 (by omega) za.sz zb.sz
   have bd := (best_bound a b false false q hB).1
   have R := rSimp a b q false false hB (by omega)
   have xq := same q
   haveI zq : HasSz q 6 := by
    have hn := (best_bound a b false false q hB).2
    have h5 := za.sz.1
    have h6 := zb.sz.1
    refine ⟨?_, ?_⟩
    ·have : (256 : Nat) ^ 2 = 65536 := by decide
     have : (256 : Nat) ^ 6 = 281474976710656 := by decide
     omega
    ·have : (256 : Nat) ^ 6 = 281474976710656 := by decide
     omega
   have W := rWithin q a b false false fz fa fb
   rw [(within_iff q a b false false).2 hB.1] at W
   clear hB bd zq za zb da db fa fb heq hc a4 c4 h1 h2 h3 h4 ho
   exact walk (code := Tryz.f15.body.getD .skip) [c K, L, Go.Sy.e (congrArg (Value.int IntKind.i64) a1), x2 b1, Go.Sy.e (congrArg (Value.int IntKind.u16) a2), Go.Sy.e (congrArg (Value.int IntKind.i64) a3), x2 b2, Go.Sy.e (congrArg (Value.int IntKind.i64) b3), c O1, Go.Sy.e (congrArg (Value.int IntKind.i64) c1), x2 e1, Go.Sy.e (congrArg (Value.int IntKind.u16) c2), Go.Sy.e (congrArg (Value.int IntKind.i64) c3), x2 e2, Go.Sy.e (congrArg (Value.int IntKind.i64) e3), c O2, c S, c C, c R, L, x2 xq, c W] fol Tryz.func15 (by kernel_rfl) (fun xs w => Tryz.call15 xs w) (by kernel_rfl)
 ·have S := pSimplestNone a b oa ob (.inl (by grind)) fa fb
  clear za zb da db fa fb hgt hc a4 c4 h1 h2 h3 h4
  exact walk (code := Tryz.f15.body.getD .skip) [c K, L, Go.Sy.e (congrArg (Value.int IntKind.i64) a1), x2 b1, Go.Sy.e (congrArg (Value.int IntKind.u16) a2), Go.Sy.e (congrArg (Value.int IntKind.i64) a3), x2 b2, Go.Sy.e (congrArg (Value.int IntKind.i64) b3), c O1, Go.Sy.e (congrArg (Value.int IntKind.i64) c1), x2 e1, Go.Sy.e (congrArg (Value.int IntKind.u16) c2), Go.Sy.e (congrArg (Value.int IntKind.i64) c3), x2 e2, Go.Sy.e (congrArg (Value.int IntKind.i64) e3), c O2, c S, c C, L, x2 x0] fol Tryz.func15 (by kernel_rfl) (fun xs w => Tryz.call15 xs w) (by kernel_rfl)
theorem RationalSimplest_c (n1 d1 n2 d2 : Int) (oa ob : Bool) (w : World) (hw : w.ShapedOpen Tryz.prog) (g1 : -32768 ≤ n1) (g2 : n1 ≤ 32767) (g3 : -32768 ≤ d1) (g4 : d1 ≤ 32767) (g5 : -32768 ≤ n2) (g6 : n2 ≤ 32767) (g7 : -32768 ≤ d2) (g8 : d2 ≤ 32767) : Calls Tryz.prog 15 #[.agg #[.int .i16 n1, .int .i16 d1, .int .i16 n2, .int .i16 d2], .bool oa, .bool ob] w fun e w' => e = .returned (.bool true) ∧ Below w.heap.size w w' := (RationalSimplest_s n1 d1 n2 d2 oa ob ⟨g1, g2⟩ ⟨g3, g4⟩ ⟨g5, g6⟩ ⟨g7, g8⟩).calls rfl rfl w hw
end Go.Proofs.YthdaimoankaciaaGreatDoor
