import Derived.Test.YthdaimoankaciaaGreatDoorMA
/- Chapter 3's laws about Floor, Compare, moves and Make. -/
set_option linter.unusedSimpArgs false
set_option linter.unusedVariables false
namespace Go.Proofs.YthdaimoankaciaaGreatDoor
open Go Go.RowKit Go.Sy
open Vi
abbrev Lim (s : ByteArray) : Prop := s.size ≤ 4611686018427387903
theorem RealFloors_s (b1 : Bool) (s1 : ByteArray) (b2 : Bool) (s2 : ByteArray) (b3 : Bool) (s3 : ByteArray) (b4 : Bool) (s4 : ByteArray) (n : Bool) (h1 : Lim s1) (h2 : Lim s2) (h3 : Lim s3) (h4 : Lim s4) : Sp Tryz.prog 9 [] [flV b1 s1 b2 s2 b3 s3 b4 s4 n] (.bool true) [] := by
 have K := vKnown3
 rcases vSmall b1 s1 b2 s2 b3 s3 b4 s4 n h1 h2 h3 h4 with S | ⟨x, ok, z1, z2, e, S⟩
 ·exact walk (code := Tryz.f9.body.getD .skip) [c K, c S, c K] fol Tryz.func9 (by kernel_rfl) (fun xs w => Tryz.call9 xs w) (by kernel_rfl)
 ·rw [e]
  have A := qFlr x ok.nonneg
  have B := qCl x ok.nonneg
  have C := gFloor x 8 (by omega) (by omega) ok
  have D := gCeil x 8 (by omega) (by omega) ok
  rw [rV_int] at C D
  have x1 := same ((fl x : Int) : Rat)
  have x2 := same ((-fl x.ngR : Int) : Rat)
  rw [rV_int] at x1 x2
  clear e ok z1 z2
  generalize -fl x.ngR = t1 at *
  generalize fl x = t2 at *
  exact walk (code := Tryz.f9.body.getD .skip) [c K, c S, c A, c C, Sy.x2 x1, c B, c D, Sy.x2 x2] fol Tryz.func9 (by kernel_rfl) (fun xs w => Tryz.call9 xs w) (by kernel_rfl)
theorem cmp_sym (x y : Rl) : Rl.cmp y x = -Rl.cmp x y := by
 unfold Rl.cmp
 rw [← RR.sg_opp, show -(x.val - y.val) = y.val - x.val from RR.ring [x.val, y.val] (by decide +kernel)]
theorem RealCompares_s (b1 : Bool) (s1 : ByteArray) (b2 : Bool) (s2 : ByteArray) (b3 : Bool) (s3 : ByteArray) (b4 : Bool) (s4 : ByteArray) (n : Bool) (b5 : Bool) (s5 : ByteArray) (b6 : Bool) (s6 : ByteArray) (b7 : Bool) (s7 : ByteArray) (b8 : Bool) (s8 : ByteArray) (n2 : Bool) (h1 : Lim s1) (h2 : Lim s2) (h3 : Lim s3) (h4 : Lim s4) (h5 : Lim s5) (h6 : Lim s6) (h7 : Lim s7) (h8 : Lim s8) : Sp Tryz.prog 10 [] [flV b1 s1 b2 s2 b3 s3 b4 s4 n, flV b5 s5 b6 s6 b7 s7 b8 s8 n2] (.bool true) [] := by
 have K := vKnown3
 rcases vSmall b1 s1 b2 s2 b3 s3 b4 s4 n h1 h2 h3 h4 with S | ⟨x, ok, z1, z2, e, S⟩
 ·exact walk (code := Tryz.f10.body.getD .skip) [c K, c S, c K] fol Tryz.func10 (by kernel_rfl) (fun xs w => Tryz.call10 xs w) (by kernel_rfl)
 rcases vSmall b5 s5 b6 s6 b7 s7 b8 s8 n2 h5 h6 h7 h8 with T | ⟨y, ok2, z3, z4, e2, T⟩
 ·rw [e]
  clear e ok z1 z2
  exact walk (code := Tryz.f10.body.getD .skip) [c K, c S, c T, c K] fol Tryz.func10 (by kernel_rfl) (fun xs w => Tryz.call10 xs w) (by kernel_rfl)
 rw [e, e2]
 haveI y1 : HasSz (Rl.rat y.p).p 8 := z3
 haveI y2 : HasSz (Rl.rat y.p).r 1 := (inferInstance : HasSz (0 : Rat) 1)
 have C1 := gCompare x y ok.nonneg ok2.nonneg
 have C2 := qCmp x y ok.nonneg ok2.nonneg
 have C3 := qCmpR x y.p ok.nonneg
 have C4 := gOf y.p
 have C5 := gCompare x (Rl.rat y.p) ok.nonneg Rat.le_refl
 have C6 := qSgnR x ok.nonneg
 have C7 := gSign x ok.nonneg
 have C8 := qMin x y 8 (by omega) (by omega) ok.nonneg ok2.nonneg
 have C9 := qMax x y 8 (by omega) (by omega) ok.nonneg ok2.nonneg
 rw [cmp_sym x y] at C8 C9
 by_cases hc : Rl.cmp x y > 0
 ·rw [if_pos (by omega)] at C8
  rw [if_neg (by omega)] at C9
  have eb := decide_eq_true hc
  have x1 := sameL y
  have x2 := sameL x
  clear hc e e2 ok ok2 z1 z2 z3 z4 y1 y2
  generalize Rl.cmp x y = c at *
  generalize Rl.cmp x (Rl.rat y.p) = c2 at *
  generalize sgR x.val = c3 at *
  have e5 : decide (c = c) = true := decide_eq_true rfl
  have e6 : decide (c2 = c2) = true := decide_eq_true rfl
  have e7 : decide (c3 = c3) = true := decide_eq_true rfl
  generalize Rl.rat y.p = r at *
  obtain ⟨yp, yr, yn⟩ := y
  dsimp only at *
  exact walk (code := Tryz.f10.body.getD .skip) [Sy.c K, Sy.c S, Sy.c T, Sy.c C1, Sy.eb eb, Sy.c C2, Sy.eb e5, Sy.c C3, Sy.c C4, Sy.c C5, Sy.eb e6, Sy.c C6, Sy.c C7, Sy.eb e7, Sy.c C8, Sy.x2 x1, Sy.c C9, Sy.x2 x2] fol Tryz.func10 (by kernel_rfl) (fun xs w => Tryz.call10 xs w) (by kernel_rfl)
 ·have eb := decide_eq_false hc
  have x1 := sameL y
  have x2 := sameL x
  by_cases hz : Rl.cmp x y = 0
  ·rw [if_neg (by omega)] at C8 C9
   have hxy := (Rl.cmp_eq0 ok ok2).1 hz
   subst hxy
   clear hc hz e e2 ok ok2 z1 z2 z3 z4 y1 y2
   generalize Rl.cmp x x = c at *
   generalize Rl.cmp x (Rl.rat x.p) = c2 at *
   generalize sgR x.val = c3 at *
   have e5 : decide (c = c) = true := decide_eq_true rfl
   have e6 : decide (c2 = c2) = true := decide_eq_true rfl
   have e7 : decide (c3 = c3) = true := decide_eq_true rfl
   generalize Rl.rat x.p = r at *
   obtain ⟨yp, yr, yn⟩ := x
   dsimp only at *
   exact walk (code := Tryz.f10.body.getD .skip) [Sy.c K, Sy.c S, Sy.c S, Sy.c C1, Sy.eb eb, Sy.c C2, Sy.eb e5, Sy.c C3, Sy.c C4, Sy.c C5, Sy.eb e6, Sy.c C6, Sy.c C7, Sy.eb e7, Sy.c C8, Sy.x2 x2, Sy.c C9, Sy.x2 x2] fol Tryz.func10 (by kernel_rfl) (fun xs w => Tryz.call10 xs w) (by kernel_rfl)
  ·rw [if_neg (by omega)] at C8
   rw [if_pos (by omega)] at C9
   clear hc hz e e2 ok ok2 z1 z2 z3 z4 y1 y2
   generalize Rl.cmp x y = c at *
   generalize Rl.cmp x (Rl.rat y.p) = c2 at *
   generalize sgR x.val = c3 at *
   have e5 : decide (c = c) = true := decide_eq_true rfl
   have e6 : decide (c2 = c2) = true := decide_eq_true rfl
   have e7 : decide (c3 = c3) = true := decide_eq_true rfl
   generalize Rl.rat y.p = r at *
   obtain ⟨yp, yr, yn⟩ := y
   dsimp only at *
   exact walk (code := Tryz.f10.body.getD .skip) [Sy.c K, Sy.c S, Sy.c T, Sy.c C1, Sy.eb eb, Sy.c C2, Sy.eb e5, Sy.c C3, Sy.c C4, Sy.c C5, Sy.eb e6, Sy.c C6, Sy.c C7, Sy.eb e7, Sy.c C8, Sy.x2 x2, Sy.c C9, Sy.x2 x1] fol Tryz.func10 (by kernel_rfl) (fun xs w => Tryz.call10 xs w) (by kernel_rfl)
theorem RealMoves_s (b1 : Bool) (s1 : ByteArray) (b2 : Bool) (s2 : ByteArray) (b3 : Bool) (s3 : ByteArray) (b4 : Bool) (s4 : ByteArray) (n : Bool) (b5 : Bool) (s5 : ByteArray) (b6 : Bool) (s6 : ByteArray) (h1 : Lim s1) (h2 : Lim s2) (h3 : Lim s3) (h4 : Lim s4) (h5 : Lim s5) (h6 : Lim s6) : Sp Tryz.prog 7 [] [flV b1 s1 b2 s2 b3 s3 b4 s4 n, .agg #[.bool b5, .string s5, .bool b6, .string s6]] (.bool true) [] := by
 have K := vKnown3
 rcases vSmall b1 s1 b2 s2 b3 s3 b4 s4 n h1 h2 h3 h4 with S | ⟨x, ok, z1, z2, e, S⟩
 ·exact walk (code := Tryz.f7.body.getD .skip) [c K, c S, c K] fol Tryz.func7 (by kernel_rfl) (fun xs w => Tryz.call7 xs w) (by kernel_rfl)
 rcases vFraction b5 s5 b6 s6 h5 h6 with T | ⟨q, z3, ⟨rfl, rfl, rfl, rfl⟩, T⟩
 ·rw [e]
  clear e ok z1 z2
  exact walk (code := Tryz.f7.body.getD .skip) [c K, c S, c T, c K] fol Tryz.func7 (by kernel_rfl) (fun xs w => Tryz.call7 xs w) (by kernel_rfl)
 rw [e]
 show Sp Tryz.prog 7 [] [rlV x, rV q] (.bool true) []
 have A1 := qNeg x
 have A2 := qShift x q fz fz
 have A3 := qScl x q
 have B1 := gNeg x ok
 have B2 := gShift x q ok
 have B3 := gScale x q ok
 have A4 := qNeg x.ngR
 rw [ng_ng ok] at A4
 have N := rNeg q
 have A5 := qShift ⟨x.p + q, x.r, x.neg⟩ (-q) fz fz
 rw [show (⟨(⟨x.p + q, x.r, x.neg⟩ : Rl).p + -q, (⟨x.p + q, x.r, x.neg⟩ : Rl).r, (⟨x.p + q, x.r, x.neg⟩ : Rl).neg⟩ : Rl) = x by
  obtain ⟨p, r, b⟩ := x
  simp only [Rl.mk.injEq, and_true]; grind] at A5
 have x1 := sameL' x.ngR
 have x2 := sameL' ⟨x.p + q, x.r, x.neg⟩
 have x3 := sameL' (x.scR q)
 have x4 := sameL' x
 have x4' := sameL x
 by_cases h0 : x = Rl.rat 0
 ·subst h0
  have I := qInverse0
  have x5 := sameLZ
  rw [rlV0] at *
  clear e ok z1 z2 z3
  generalize (Rl.rat 0).ngR = y1 at *
  generalize (⟨(Rl.rat 0).p + q, (Rl.rat 0).r, (Rl.rat 0).neg⟩ : Rl) = y2 at *
  generalize (Rl.rat 0).scR q = y3 at *
  generalize -q = q2 at *
  exact walk (code := Tryz.f7.body.getD .skip) [c K, c S, c T, c A1, c A2, c A3, c B1, Sy.x2 x1, c B2, Sy.x2 x2, c B3, Sy.x2 x3, c A4, Sy.x2 x4, c N, c A5, Sy.x2 x4, c I, Sy.x2 x4', Sy.x2 x4'] fol Tryz.func7 (by kernel_rfl) (fun xs w => Tryz.call7 xs w) (by kernel_rfl)
 ·have I := qInverse x ok h0
  have G := gInverse x ok h0
  have o2 := inv_ok ok
  have J := qInverse x.inv o2 (inv_ne0 ok h0)
  rw [inv_inv' ok h0] at J
  have x5 := diffL0 h0
  have x6 := sameL x.inv
  clear e ok z1 z2 z3 h0 o2
  generalize x.ngR = y1 at *
  generalize (⟨x.p + q, x.r, x.neg⟩ : Rl) = y2 at *
  generalize x.scR q = y3 at *
  generalize x.inv = y4 at *
  generalize -q = q2 at *
  exact walk (code := Tryz.f7.body.getD .skip) [c K, c S, c T, c A1, c A2, c A3, c B1, Sy.x2 x1, c B2, Sy.x2 x2, c B3, Sy.x2 x3, c A4, Sy.x2 x4, c N, c A5, Sy.x2 x4, c I, Sy.x2 x5, c J, c G, Sy.x2 x6, L, Sy.x2 x4'] fol Tryz.func7 (by kernel_rfl) (fun xs w => Tryz.call7 xs w) (by kernel_rfl)
theorem RealMakes_s (b1 : Bool) (s1 : ByteArray) (b2 : Bool) (s2 : ByteArray) (b3 : Bool) (s3 : ByteArray) (b4 : Bool) (s4 : ByteArray) (b5 : Bool) (s5 : ByteArray) (b6 : Bool) (s6 : ByteArray) (h1 : Lim s1) (h2 : Lim s2) (h3 : Lim s3) (h4 : Lim s4) (h5 : Lim s5) (h6 : Lim s6) : Sp Tryz.prog 13 [] [.agg #[.bool b1, .string s1, .bool b2, .string s2], .agg #[.bool b3, .string s3, .bool b4, .string s4], .agg #[.bool b5, .string s5, .bool b6, .string s6]] (.bool true) [] := by
 have K := vKnown3
 rcases vFraction b1 s1 b2 s2 h1 h2 with S | ⟨p, z1, ⟨rfl, rfl, rfl, rfl⟩, S⟩
 ·exact walk (code := Tryz.f13.body.getD .skip) [c K, c S, c K] fol Tryz.func13 (by kernel_rfl) (fun xs w => Tryz.call13 xs w) (by kernel_rfl)
 rcases vFraction b3 s3 b4 s4 h3 h4 with T | ⟨q, z2, ⟨rfl, rfl, rfl, rfl⟩, T⟩
 ·clear z1
  exact walk (code := Tryz.f13.body.getD .skip) [c K, c S, c T, c K] fol Tryz.func13 (by kernel_rfl) (fun xs w => Tryz.call13 xs w) (by kernel_rfl)
 rcases vFraction b5 s5 b6 s6 h5 h6 with U | ⟨r, z3, ⟨rfl, rfl, rfl, rfl⟩, U⟩
 ·clear z1 z2
  exact walk (code := Tryz.f13.body.getD .skip) [c K, c S, c T, c U, c K] fol Tryz.func13 (by kernel_rfl) (fun xs w => Tryz.call13 xs w) (by kernel_rfl)
 show Sp Tryz.prog 13 [] [rV p, rV q, rV r] (.bool true) []
 have G := rSgn r
 by_cases hr : r < 0
 ·have e := decide_eq_true hr
  rw [← sgQ_lt0 r] at e
  have M := qMakeNo p q r hr
  have x1 := sameLZ
  clear hr z1 z2 z3
  generalize sgQ r = c at *
  exact walk (code := Tryz.f13.body.getD .skip) [Sy.c K, Sy.c S, Sy.c T, Sy.c U, Sy.c M, Sy.c G, eb e, x2 x1] fol Tryz.func13 (by kernel_rfl) (fun xs w => Tryz.call13 xs w) (by kernel_rfl)
 ·have e := decide_eq_false hr
  rw [← sgQ_lt0 r] at e
  have hr' : 0 ≤ r := by grind
  have M := qMake p q r hr'
  have N := gMake p q r
  have ok := mkR_ok p q r hr'
  have C := qCheckQ (mkR p q r) fz fz
  rw [okL_yes ok, if_pos rfl] at C
  have x1 := sameL (mkR p q r)
  clear hr hr' z1 z2 z3 ok
  generalize mkR p q r = y at *
  generalize sgQ r = c at *
  exact walk (code := Tryz.f13.body.getD .skip) [Sy.c K, Sy.c S, Sy.c T, Sy.c U, Sy.c M, Sy.c G, eb e, Sy.c N, x2 x1, Sy.c C] fol Tryz.func13 (by kernel_rfl) (fun xs w => Tryz.call13 xs w) (by kernel_rfl)
theorem RealFloors_c (b1 : Bool) (s1 : ByteArray) (b2 : Bool) (s2 : ByteArray) (b3 : Bool) (s3 : ByteArray) (b4 : Bool) (s4 : ByteArray) (n : Bool) (w : World) (hw : w.ShapedOpen Tryz.prog) (h1 : Lim s1) (h2 : Lim s2) (h3 : Lim s3) (h4 : Lim s4) : Calls Tryz.prog 9 #[flV b1 s1 b2 s2 b3 s3 b4 s4 n] w fun e w' => e = .returned (.bool true) ∧ Below w.heap.size w w' := (RealFloors_s b1 s1 b2 s2 b3 s3 b4 s4 n h1 h2 h3 h4).calls rfl rfl w hw
theorem RealCompares_c (b1 : Bool) (s1 : ByteArray) (b2 : Bool) (s2 : ByteArray) (b3 : Bool) (s3 : ByteArray) (b4 : Bool) (s4 : ByteArray) (n : Bool) (b5 : Bool) (s5 : ByteArray) (b6 : Bool) (s6 : ByteArray) (b7 : Bool) (s7 : ByteArray) (b8 : Bool) (s8 : ByteArray) (n2 : Bool) (w : World) (hw : w.ShapedOpen Tryz.prog) (h1 : Lim s1) (h2 : Lim s2) (h3 : Lim s3) (h4 : Lim s4) (h5 : Lim s5) (h6 : Lim s6) (h7 : Lim s7) (h8 : Lim s8) : Calls Tryz.prog 10 #[flV b1 s1 b2 s2 b3 s3 b4 s4 n, flV b5 s5 b6 s6 b7 s7 b8 s8 n2] w fun e w' => e = .returned (.bool true) ∧ Below w.heap.size w w' := (RealCompares_s b1 s1 b2 s2 b3 s3 b4 s4 n b5 s5 b6 s6 b7 s7 b8 s8 n2 h1 h2 h3 h4 h5 h6 h7 h8).calls rfl rfl w hw
theorem RealMoves_c (b1 : Bool) (s1 : ByteArray) (b2 : Bool) (s2 : ByteArray) (b3 : Bool) (s3 : ByteArray) (b4 : Bool) (s4 : ByteArray) (n : Bool) (b5 : Bool) (s5 : ByteArray) (b6 : Bool) (s6 : ByteArray) (w : World) (hw : w.ShapedOpen Tryz.prog) (h1 : Lim s1) (h2 : Lim s2) (h3 : Lim s3) (h4 : Lim s4) (h5 : Lim s5) (h6 : Lim s6) : Calls Tryz.prog 7 #[flV b1 s1 b2 s2 b3 s3 b4 s4 n, .agg #[.bool b5, .string s5, .bool b6, .string s6]] w fun e w' => e = .returned (.bool true) ∧ Below w.heap.size w w' := (RealMoves_s b1 s1 b2 s2 b3 s3 b4 s4 n b5 s5 b6 s6 h1 h2 h3 h4 h5 h6).calls rfl rfl w hw
theorem RealMakes_c (b1 : Bool) (s1 : ByteArray) (b2 : Bool) (s2 : ByteArray) (b3 : Bool) (s3 : ByteArray) (b4 : Bool) (s4 : ByteArray) (b5 : Bool) (s5 : ByteArray) (b6 : Bool) (s6 : ByteArray) (w : World) (hw : w.ShapedOpen Tryz.prog) (h1 : Lim s1) (h2 : Lim s2) (h3 : Lim s3) (h4 : Lim s4) (h5 : Lim s5) (h6 : Lim s6) : Calls Tryz.prog 13 #[.agg #[.bool b1, .string s1, .bool b2, .string s2], .agg #[.bool b3, .string s3, .bool b4, .string s4], .agg #[.bool b5, .string s5, .bool b6, .string s6]] w fun e w' => e = .returned (.bool true) ∧ Below w.heap.size w w' := (RealMakes_s b1 s1 b2 s2 b3 s3 b4 s4 b5 s5 b6 s6 h1 h2 h3 h4 h5 h6).calls rfl rfl w hw
end Go.Proofs.YthdaimoankaciaaGreatDoor
set_option linter.unusedSimpArgs false
set_option linter.unusedVariables false
namespace Go.Proofs.YthdaimoankaciaaGreatDoor
open Go Go.RowKit Go.Sy
open Vi
theorem cmp_cases (x y : Rl) : (Rl.cmp x y = -1 ∧ x.val < y.val) ∨ (Rl.cmp x y = 0 ∧ x.val = y.val) ∨ (Rl.cmp x y = 1 ∧ y.val < x.val) := by
 unfold Rl.cmp
 rcases RR.sg_cases (x.val - y.val) with ⟨h, g⟩ | ⟨h, g⟩ | ⟨h, g⟩
 ·refine .inl ⟨h, RR.sub_pos.1 ?_⟩
  rw [RR.lt_zero, show -(x.val - y.val) = y.val - x.val from RR.ring [x.val, y.val] (by decide +kernel)] at g
  exact g
 ·exact .inr (.inl ⟨h, RR.ring1 [x.val, y.val] g 1 (by decide +kernel)⟩)
 ·exact .inr (.inr ⟨h, RR.sub_pos.1 g⟩)
theorem cmp_low {x y : Rl} (h : x.val < y.val) : Rl.cmp x y = -1 := by
 rcases cmp_cases x y with ⟨h1, g⟩ | ⟨h1, g⟩ | ⟨h1, g⟩
 ·exact h1
 ·rw [g] at h; exact absurd h (RR.lt_irrefl _)
 ·exact absurd (RR.lt_trans h g) (RR.lt_irrefl _)
theorem cmp_high {x y : Rl} (h : y.val < x.val) : Rl.cmp x y = 1 := by rw [cmp_sym, cmp_low h]; rfl
theorem RealOrders_s (b1 : Bool) (s1 : ByteArray) (b2 : Bool) (s2 : ByteArray) (b3 : Bool) (s3 : ByteArray) (b4 : Bool) (s4 : ByteArray) (n : Bool) (b5 : Bool) (s5 : ByteArray) (b6 : Bool) (s6 : ByteArray) (b7 : Bool) (s7 : ByteArray) (b8 : Bool) (s8 : ByteArray) (n2 : Bool) (b9 : Bool) (s9 : ByteArray) (b10 : Bool) (s10 : ByteArray) (b11 : Bool) (s11 : ByteArray) (b12 : Bool) (s12 : ByteArray) (n3 : Bool) (h1 : Lim s1) (h2 : Lim s2) (h3 : Lim s3) (h4 : Lim s4) (h5 : Lim s5) (h6 : Lim s6) (h7 : Lim s7) (h8 : Lim s8) (h9 : Lim s9) (h10 : Lim s10) (h11 : Lim s11) (h12 : Lim s12) :
    Sp Tryz.prog 6 [] [flV b1 s1 b2 s2 b3 s3 b4 s4 n, flV b5 s5 b6 s6 b7 s7 b8 s8 n2, flV b9 s9 b10 s10 b11 s11 b12 s12 n3] (.bool true) [] := by
 have K := vKnown3
 rcases vSmall b1 s1 b2 s2 b3 s3 b4 s4 n h1 h2 h3 h4 with S | ⟨x, ok, z1, z2, e, S⟩
 ·exact walk (code := Tryz.f6.body.getD .skip) [c K, c S, c K] fol Tryz.func6 (by kernel_rfl) (fun xs w => Tryz.call6 xs w) (by kernel_rfl)
 rcases vSmall b5 s5 b6 s6 b7 s7 b8 s8 n2 h5 h6 h7 h8 with T | ⟨y, ok2, z3, z4, e2, T⟩
 ·rw [e]
  clear e ok z1 z2
  exact walk (code := Tryz.f6.body.getD .skip) [c K, c S, c T, c K] fol Tryz.func6 (by kernel_rfl) (fun xs w => Tryz.call6 xs w) (by kernel_rfl)
 rcases vSmall b9 s9 b10 s10 b11 s11 b12 s12 n3 h9 h10 h11 h12 with U | ⟨z, ok3, z5, z6, e3, U⟩
 ·rw [e, e2]
  clear e ok z1 z2 e2 ok2 z3 z4
  exact walk (code := Tryz.f6.body.getD .skip) [c K, c S, c T, c U, c K] fol Tryz.func6 (by kernel_rfl) (fun xs w => Tryz.call6 xs w) (by kernel_rfl)
 rw [e, e2, e3]
 have A := qCmp x y ok.nonneg ok2.nonneg
 have A2 := qCmp y x ok2.nonneg ok.nonneg
 have B := qCmp y z ok2.nonneg ok3.nonneg
 have C := qCmp x z ok.nonneg ok3.nonneg
 rw [cmp_sym x y] at A2
 clear e e2 e3 z1 z2 z3 z4 z5 z6
 rcases cmp_cases x y with ⟨ha, ga⟩ | ⟨ha, ga⟩ | ⟨ha, ga⟩ <;> rw [ha] at A A2
 ·have E := diffL (x := x) (y := y) (fun e => by rw [e] at ga; exact RR.lt_irrefl _ ga)
  rcases cmp_cases y z with ⟨hb, gb⟩ | ⟨hb, gb⟩ | ⟨hb, gb⟩ <;> rw [hb] at B
  ·rw [cmp_low (RR.lt_trans ga gb)] at C
   clear ha ga hb gb ok ok2 ok3
   exact walk (code := Tryz.f6.body.getD .skip) [c K, c S, c T, c U, c A, c B, c C, c A2, L, L, L, x2 E] fol Tryz.func6 (by kernel_rfl) (fun xs w => Tryz.call6 xs w) (by kernel_rfl)
  ·rw [gb] at ga
   rw [cmp_low ga] at C
   clear ha ga hb gb ok ok2 ok3
   exact walk (code := Tryz.f6.body.getD .skip) [c K, c S, c T, c U, c A, c B, c C, c A2, L, L, L, x2 E] fol Tryz.func6 (by kernel_rfl) (fun xs w => Tryz.call6 xs w) (by kernel_rfl)
  ·clear ha ga hb gb
   rcases cmp_cases x z with ⟨hc, _⟩ | ⟨hc, _⟩ | ⟨hc, _⟩ <;> rw [hc] at C <;> clear hc ok ok2 ok3
   ·exact walk (code := Tryz.f6.body.getD .skip) [c K, c S, c T, c U, c A, c B, c C, c A2, L, L, L, x2 E] fol Tryz.func6 (by kernel_rfl) (fun xs w => Tryz.call6 xs w) (by kernel_rfl)
   ·exact walk (code := Tryz.f6.body.getD .skip) [c K, c S, c T, c U, c A, c B, c C, c A2, L, L, L, x2 E] fol Tryz.func6 (by kernel_rfl) (fun xs w => Tryz.call6 xs w) (by kernel_rfl)
   ·exact walk (code := Tryz.f6.body.getD .skip) [c K, c S, c T, c U, c A, c B, c C, c A2, L, L, L, x2 E] fol Tryz.func6 (by kernel_rfl) (fun xs w => Tryz.call6 xs w) (by kernel_rfl)
 ·obtain rfl := Rl.inj ok ok2 ga
  have E := sameL x
  rcases cmp_cases x z with ⟨hb, gb⟩ | ⟨hb, gb⟩ | ⟨hb, gb⟩ <;> rw [hb] at B C <;> clear ha ga hb gb ok ok2 ok3
  ·exact walk (code := Tryz.f6.body.getD .skip) [c K, c S, c S, c U, c A, c C, c C, c A, L, L, L, x2 E] fol Tryz.func6 (by kernel_rfl) (fun xs w => Tryz.call6 xs w) (by kernel_rfl)
  ·exact walk (code := Tryz.f6.body.getD .skip) [c K, c S, c S, c U, c A, c C, c C, c A, L, L, L, x2 E] fol Tryz.func6 (by kernel_rfl) (fun xs w => Tryz.call6 xs w) (by kernel_rfl)
  ·exact walk (code := Tryz.f6.body.getD .skip) [c K, c S, c S, c U, c A, c C, c C, c A, L, L, L, x2 E] fol Tryz.func6 (by kernel_rfl) (fun xs w => Tryz.call6 xs w) (by kernel_rfl)
 ·have E := diffL (x := x) (y := y) (fun e => by rw [e] at ga; exact RR.lt_irrefl _ ga)
  rcases cmp_cases y z with ⟨hb, gb⟩ | ⟨hb, gb⟩ | ⟨hb, gb⟩ <;> rw [hb] at B
  ·clear ha ga hb gb
   rcases cmp_cases x z with ⟨hc, _⟩ | ⟨hc, _⟩ | ⟨hc, _⟩ <;> rw [hc] at C <;> clear hc ok ok2 ok3
   ·exact walk (code := Tryz.f6.body.getD .skip) [c K, c S, c T, c U, c A, c B, c C, c A2, L, L, L, x2 E] fol Tryz.func6 (by kernel_rfl) (fun xs w => Tryz.call6 xs w) (by kernel_rfl)
   ·exact walk (code := Tryz.f6.body.getD .skip) [c K, c S, c T, c U, c A, c B, c C, c A2, L, L, L, x2 E] fol Tryz.func6 (by kernel_rfl) (fun xs w => Tryz.call6 xs w) (by kernel_rfl)
   ·exact walk (code := Tryz.f6.body.getD .skip) [c K, c S, c T, c U, c A, c B, c C, c A2, L, L, L, x2 E] fol Tryz.func6 (by kernel_rfl) (fun xs w => Tryz.call6 xs w) (by kernel_rfl)
  ·rw [gb] at ga
   rw [cmp_high ga] at C
   clear ha ga hb gb ok ok2 ok3
   exact walk (code := Tryz.f6.body.getD .skip) [c K, c S, c T, c U, c A, c B, c C, c A2, L, L, L, x2 E] fol Tryz.func6 (by kernel_rfl) (fun xs w => Tryz.call6 xs w) (by kernel_rfl)
  ·rw [cmp_high (RR.lt_trans gb ga)] at C
   clear ha ga hb gb ok ok2 ok3
   exact walk (code := Tryz.f6.body.getD .skip) [c K, c S, c T, c U, c A, c B, c C, c A2, L, L, L, x2 E] fol Tryz.func6 (by kernel_rfl) (fun xs w => Tryz.call6 xs w) (by kernel_rfl)
end Go.Proofs.YthdaimoankaciaaGreatDoor
set_option linter.unusedSimpArgs false
set_option linter.unusedVariables false
namespace Go.Proofs.YthdaimoankaciaaGreatDoor
open Go Go.RowKit Go.Sy
open Vi
theorem vQuadratic (b1 : Bool) (s1 : ByteArray) (b2 : Bool) (s2 : ByteArray) (b3 : Bool) (s3 : ByteArray) (b4 : Bool) (s4 : ByteArray) (b5 : Bool) (s5 : ByteArray) (b6 : Bool) (s6 : ByteArray) (h1 : Lim s1) (h2 : Lim s2) (h3 : Lim s3) (h4 : Lim s4) (h5 : Lim s5) (h6 : Lim s6) :
    Sp Tryz.prog 22 [] [.agg #[.bool b1, .string s1, .bool b2, .string s2, .bool b3, .string s3, .bool b4, .string s4, .bool b5, .string s5, .bool b6, .string s6]] (.bool false) [] ∨
    ∃ a b c : Rat, HasSz a 8 ∧ HasSz b 8 ∧ HasSz c 8 ∧ Value.agg #[.bool b1, .string s1, .bool b2, .string s2, .bool b3, .string s3, .bool b4, .string s4, .bool b5, .string s5, .bool b6, .string s6] = qV a b c ∧ Sp Tryz.prog 22 [] [qV a b c] (.bool true) [] := by
 rcases vFraction b1 s1 b2 s2 h1 h2 with S | ⟨a, z1, ⟨rfl, rfl, rfl, rfl⟩, S⟩
 ·left
  exact walk (code := Tryz.f22.body.getD .skip) [c S] fol Tryz.func22 (by kernel_rfl) (fun xs w => Tryz.call22 xs w) (by kernel_rfl)
 rcases vFraction b3 s3 b4 s4 h3 h4 with T | ⟨b, z2, ⟨rfl, rfl, rfl, rfl⟩, T⟩
 ·left
  exact walk (code := Tryz.f22.body.getD .skip) [c S, c T] fol Tryz.func22 (by kernel_rfl) (fun xs w => Tryz.call22 xs w) (by kernel_rfl)
 rcases vFraction b5 s5 b6 s6 h5 h6 with U | ⟨c, z3, ⟨rfl, rfl, rfl, rfl⟩, U⟩
 ·left
  exact walk (code := Tryz.f22.body.getD .skip) [c S, c T, c U] fol Tryz.func22 (by kernel_rfl) (fun xs w => Tryz.call22 xs w) (by kernel_rfl)
 right
 refine ⟨a, b, c, z1, z2, z3, rfl, ?_⟩
 clear z1 z2 z3
 exact walk (code := Tryz.f22.body.getD .skip) [Sy.c S, Sy.c T, Sy.c U] fol Tryz.func22 (by kernel_rfl) (fun xs w => Tryz.call22 xs w) (by kernel_rfl)
instance (q : Rat) (k : Nat) [h : HasSz q k] : HasSz (Rl.rat q).p k := h
theorem RealRoots_s (b1 : Bool) (s1 : ByteArray) (b2 : Bool) (s2 : ByteArray) (b3 : Bool) (s3 : ByteArray) (b4 : Bool) (s4 : ByteArray) (b5 : Bool) (s5 : ByteArray) (b6 : Bool) (s6 : ByteArray) (h1 : Lim s1) (h2 : Lim s2) (h3 : Lim s3) (h4 : Lim s4) (h5 : Lim s5) (h6 : Lim s6) :
    Sp Tryz.prog 4 [] [.agg #[.bool b1, .string s1, .bool b2, .string s2, .bool b3, .string s3, .bool b4, .string s4, .bool b5, .string s5, .bool b6, .string s6]] (.bool true) [] := by
 have K := vKnown3
 rcases vQuadratic b1 s1 b2 s2 b3 s3 b4 s4 b5 s5 b6 s6 h1 h2 h3 h4 h5 h6 with S | ⟨a, b, c, z1, z2, z3, e, S⟩
 ·exact walk (code := Tryz.f4.body.getD .skip) [c K, c S, c K] fol Tryz.func4 (by kernel_rfl) (fun xs w => Tryz.call4 xs w) (by kernel_rfl)
 rw [e]
 clear e h1 h2 h3 h4 h5 h6
 by_cases hc : c = 0
 ·subst hc
  by_cases hb : b = 0
  ·subst hb
   by_cases ha : a = 0
   ·subst ha
    have R := qRoots0
    have B := binQ0 0 0 0 (q := true) (by decide +kernel)
    rw [qV0] at *
    clear z1 z2 z3
    exact walk (code := Tryz.f4.body.getD .skip) [c K, c S, c R, x2 B] fol Tryz.func4 (by kernel_rfl) (fun xs w => Tryz.call4 xs w) (by kernel_rfl)
   ·have R := qRootsNone a ha
    have G := gRootsNone a
    have B := binQ0 a 0 0 (q := false) (by simp [ha])
    clear z1 z2 z3 ha
    unfold qV at *
    generalize (0 : Rat) = zero at *
    exact walk (code := Tryz.f4.body.getD .skip) [c K, c S, c R, x2 B, c G] fol Tryz.func4 (by kernel_rfl) (fun xs w => Tryz.call4 xs w) (by kernel_rfl)
  ·have R := qRootsLin a b hb
   have G := gRootsLin a b hb
   have B := binQ0 a b 0 (q := false) (by simp [hb])
   haveI z4 := hs_div a b _ _ hb
   have E := gEval a b 0 (Rl.rat (-(a / b)))
   rw [eval_mk a b 0 (Rl.rat_ok _) (root_lin a b hb), rlV0] at E
   have x1 := sameL' (Rl.rat (-(a / b)))
   have x2 := sameLZ'
   clear z1 z2 z3 z4 hb
   unfold rlC at *
   generalize Rl.rat (-(a / b)) = y at *
   generalize (0 : Rat) = zero at *
   exact walk (code := Tryz.f4.body.getD .skip) [c K, c S, cr R, Sy.x2 B, cr G, L, L, L, Sy.x2 x1, c E, Sy.x2 x2] fol Tryz.func4 (by kernel_rfl) (fun xs w => Tryz.call4 xs w) (by kernel_rfl)
 obtain ⟨h, eh⟩ : ∃ h, h = b / (-2 * c) := ⟨_, rfl⟩
 obtain ⟨d, ed⟩ : ∃ d, d = h * h - a / c := ⟨_, rfl⟩
 obtain ⟨R1, R2, R3⟩ := qRootsQ a b c h d hc eh ed
 obtain ⟨G1, G2, G3⟩ := gRootsQ a b c h d hc eh ed
 have B := binQ0 a b c (q := false) (by simp [hc])
 have eb : b = -2 * c * h := by rw [eh]; exact Vi.half_eq b c hc
 have ea := disc_eq a c h d hc ed
 haveI z4 := hs_div b (-2 * c) _ _ (m2_ne hc)
 rw [← eh] at z4
 haveI z5 := hs_div a c _ _ hc
 haveI z6 : HasSz d _ := ed ▸ (inferInstance : HasSz (h * h - a / c) _)
 rcases (by grind : d < 0 ∨ d = 0 ∨ 0 < d) with hd | hd | hd
 ·have R := R1 hd
  have G := G1 hd
  clear R1 R2 R3 G1 G2 G3 z1 z2 z3 z4 z5 z6 hc hd eb ea ed eh
  exact walk (code := Tryz.f4.body.getD .skip) [Sy.c K, Sy.c S, Sy.c R, x2 B, Sy.c G] fol Tryz.func4 (by kernel_rfl) (fun xs w => Tryz.call4 xs w) (by kernel_rfl)
 ·have R := R2 hd
  have G := G2 hd
  have E := gEval a b c (Rl.rat h)
  rw [eval_mk a b c (Rl.rat_ok _) (root_one a b c h eb (by rw [← hd]; exact ea)), rlV0] at E
  have x1 := sameL' (Rl.rat h)
  have x2 := sameLZ'
  clear R1 R2 R3 G1 G2 G3 z1 z2 z3 z4 z5 z6 hc hd eb ea ed eh
  unfold rlC at *
  generalize Rl.rat h = y at *
  exact walk (code := Tryz.f4.body.getD .skip) [Sy.c K, Sy.c S, cr R, Sy.x2 B, cr G, L, L, L, Sy.x2 x1, Sy.c E, Sy.x2 x2] fol Tryz.func4 (by kernel_rfl) (fun xs w => Tryz.call4 xs w) (by kernel_rfl)
 ·have R := R3 hd
  have G := G3 hd
  have hd' := Rat.le_of_lt hd
  have E1 := gEval a b c (mkR h (-1) d)
  rw [eval_mk a b c (mkR_ok _ _ _ hd') (root_two a b c h d (-1) eb ea hd' (by decide +kernel)), rlV0] at E1
  have E2 := gEval a b c (mkR h 1 d)
  rw [eval_mk a b c (mkR_ok _ _ _ hd') (root_two a b c h d 1 eb ea hd' (by decide +kernel)), rlV0] at E2
  have C := qCmp (mkR h (-1) d) (mkR h 1 d) (mkR_ok _ _ _ hd').nonneg (mkR_ok _ _ _ hd').nonneg
  rw [roots_cmp h d hd] at C
  have x1 := sameL' (mkR h (-1) d)
  have x2 := sameL' (mkR h 1 d)
  have x3 := sameLZ'
  clear R1 R2 R3 G1 G2 G3 z1 z2 z3 z4 z5 z6 hc hd hd' eb ea ed eh
  unfold rlC at *
  generalize mkR h (-1) d = y1 at *
  generalize mkR h 1 d = y2 at *
  exact walk (code := Tryz.f4.body.getD .skip) [Sy.c K, Sy.c S, cr R, Sy.x2 B, cr G, L, L, L, Sy.x2 x1, Sy.c E1, Sy.x2 x3, L, L, L, Sy.x2 x2, Sy.c E2, Sy.x2 x3, Sy.c C] fol Tryz.func4 (by kernel_rfl) (fun xs w => Tryz.call4 xs w) (by kernel_rfl)
theorem min_half (p : Rat) : p = -2 * p / (-2 * 1) := by
 have h : (-2 : Rat) * 1 ≠ 0 := by decide +kernel
 have e : (-2 * p / (-2 * 1)) * (-2 * 1) = -2 * p := Rat.div_mul_cancel h
 generalize -2 * p / (-2 * 1) = t at *
 grind
theorem div_one' (p : Rat) : p / 1 = p := by rw [Rat.div_def]; have : (1 : Rat)⁻¹ = 1 := by decide +kernel
                                             rw [this, Rat.mul_one]
theorem mk_neg {p r : Rat} (hr : ∀ w : Rat, w * w ≠ r) : mkR p (-1) r = ⟨p, r, true⟩ := by
 rw [mkR_irr _ _ _ hr, show (-1 : Rat) * -1 * r = r by grind, show decide ((-1 : Rat) < 0) = true by decide +kernel]
theorem mk_pos {p r : Rat} (hr : ∀ w : Rat, w * w ≠ r) : mkR p 1 r = ⟨p, r, false⟩ := by
 rw [mkR_irr _ _ _ hr, show (1 : Rat) * 1 * r = r by grind, show decide ((1 : Rat) < 0) = false by decide +kernel]
theorem RealMinimal_s (b1 : Bool) (s1 : ByteArray) (b2 : Bool) (s2 : ByteArray) (b3 : Bool) (s3 : ByteArray) (b4 : Bool) (s4 : ByteArray) (n : Bool) (h1 : Lim s1) (h2 : Lim s2) (h3 : Lim s3) (h4 : Lim s4) : Sp Tryz.prog 11 [] [flV b1 s1 b2 s2 b3 s3 b4 s4 n] (.bool true) [] := by
 have K := vKnown3
 rcases vSmall b1 s1 b2 s2 b3 s3 b4 s4 n h1 h2 h3 h4 with S | ⟨x, ok, z1, z2, e, S⟩
 ·exact walk (code := Tryz.f11.body.getD .skip) [c K, c S, c K] fol Tryz.func11 (by kernel_rfl) (fun xs w => Tryz.call11 xs w) (by kernel_rfl)
 rw [e]
 clear e h1 h2 h3 h4
 have M := qMinimal x
 have G := gMinimal x
 have Z := gZero
 obtain ⟨p, r, neg⟩ := x
 dsimp only at z1 z2 M G
 rcases ok with ⟨h0, hn⟩ | ⟨h0, hr⟩
 ·have h0 : r = 0 := h0
  have hn : neg = false := hn
  subst h0 hn
  rw [if_pos rfl] at M G
  have R := qRootsLin (-p) 1 (by decide +kernel)
  rw [div_one', show - -p = p by grind] at R
  have B := sameQ' (-p) 1 0
  have B2 := binR1 0 0 (b := true) (by simp)
  have x1 := sameL (Rl.rat p)
  unfold rlC at R
  have e : Rl.rat p = ⟨p, 0, false⟩ := rfl
  rw [e] at R x1
  clear z1 z2 e
  generalize (0 : Rat) = zero at *
  generalize (1 : Rat) = one at *
  generalize -p = t at *
  exact walk (code := Tryz.f11.body.getD .skip) [c K, c S, c M, cr R, c G, x2 B, c Z, x2 B2, L, x2 x1] fol Tryz.func11 (by kernel_rfl) (fun xs w => Tryz.call11 xs w) (by kernel_rfl)
 ·have h0 : 0 < r := h0
  have hr : ∀ q : Rat, q * q ≠ r := hr
  rw [if_neg (by grind)] at M G
  have R := (qRootsQ (p * p - r) (-2 * p) 1 p r (by decide +kernel) (min_half p) (by rw [div_one']; grind)).2.2 h0
  rw [mk_neg hr, mk_pos hr] at R
  have B := sameQ' (p * p - r) (-2 * p) 1
  have B2 := binR1 r 0 (b := false) (by simp; grind)
  have x1 := sameL ⟨p, r, true⟩
  have x2 := sameL ⟨p, r, false⟩
  have x3 := diffL (x := ⟨p, r, true⟩) (y := ⟨p, r, false⟩) (by simp)
  have x4 := diffL (x := ⟨p, r, false⟩) (y := ⟨p, r, true⟩) (by simp)
  unfold rlC at R
  clear z1 z2 hr h0
  generalize (0 : Rat) = zero at *
  generalize p * p - r = t1 at *
  generalize -2 * p = t2 at *
  generalize (1 : Rat) = one at *
  cases neg
  ·exact walk (code := Tryz.f11.body.getD .skip) [c K, c S, c M, cr R, c G, Sy.x2 B, c Z, Sy.x2 B2, L, L, Sy.x2 x3, Sy.x2 x1, Sy.x2 x2] fol Tryz.func11 (by kernel_rfl) (fun xs w => Tryz.call11 xs w) (by kernel_rfl)
  ·exact walk (code := Tryz.f11.body.getD .skip) [c K, c S, c M, cr R, c G, Sy.x2 B, c Z, Sy.x2 B2, L, L, Sy.x2 x1, Sy.x2 x2] fol Tryz.func11 (by kernel_rfl) (fun xs w => Tryz.call11 xs w) (by kernel_rfl)
theorem sz_lim (x : Rl) (k : Nat) (hk : k ≤ 100) [hp : HasSz x.p k] [hr : HasSz x.r k] : Lim (mg x.p.num) ∧ Lim (mg (dn x.p)) ∧ Lim (mg x.r.num) ∧ Lim (mg (dn x.r)) := by
 have a := hp.sz.num
 have b := hp.sz.dn
 have c := hr.sz.num
 have d := hr.sz.dn
 refine ⟨?_, ?_, ?_, ?_⟩ <;> unfold Lim <;> omega
theorem vSmallQ (x : Rl) (C : Sp Tryz.prog 64 [] [rlV x] (.bool true) []) (h1 : Lim (mg x.p.num)) (h2 : Lim (mg (dn x.p))) (h3 : Lim (mg x.r.num)) (h4 : Lim (mg (dn x.r))) :
    ∃ b : Bool, Sp Tryz.prog 18 [] [rlV x] (.bool b) [] := by
 have A := vBytes (sg x.p.num) (mg x.p.num) (sg (dn x.p)) (mg (dn x.p)) h1 h2
 have B := vBytes (sg x.r.num) (mg x.r.num) (sg (dn x.r)) (mg (dn x.r)) h3 h4
 clear h1 h2 h3 h4
 obtain ⟨p, r, neg⟩ := x
 dsimp only at *
 generalize (((mg p.num).size + (mg (dn p)).size : Nat) : Int) = n1 at *
 generalize (((mg r.num).size + (mg (dn r)).size : Nat) : Int) = n2 at *
 cases e1 : decide (n1 ≤ 8)
 ·refine ⟨false, ?_⟩
  exact walk (code := Tryz.f18.body.getD .skip) [c A, eb e1] fol Tryz.func18 (by kernel_rfl) (fun xs w => Tryz.call18 xs w) (by kernel_rfl)
 cases e2 : decide (n2 ≤ 8)
 ·refine ⟨false, ?_⟩
  exact walk (code := Tryz.f18.body.getD .skip) [c A, eb e1, c B, eb e2] fol Tryz.func18 (by kernel_rfl) (fun xs w => Tryz.call18 xs w) (by kernel_rfl)
 ·refine ⟨true, ?_⟩
  exact walk (code := Tryz.f18.body.getD .skip) [c A, eb e1, c B, eb e2, c C] fol Tryz.func18 (by kernel_rfl) (fun xs w => Tryz.call18 xs w) (by kernel_rfl)
theorem RealChecks_s (b1 : Bool) (s1 : ByteArray) (b2 : Bool) (s2 : ByteArray) (b3 : Bool) (s3 : ByteArray) (b4 : Bool) (s4 : ByteArray) (n : Bool) (m : Int) (h1 : Lim s1) (h2 : Lim s2) (h3 : Lim s3) (h4 : Lim s4) (hm1 : -9223372036854775808 ≤ m) (hm2 : m ≤ 9223372036854775807) : Sp Tryz.prog 14 [] [flV b1 s1 b2 s2 b3 s3 b4 s4 n, nV m] (.bool true) [] := by
 have K := vKnown3
 have A := vBytes b1 s1 b2 s2 h1 h2
 have B := vBytes b3 s3 b4 s4 h3 h4
 by_cases c1 : s1.size + s2.size ≤ 20
 ·have e1 : decide (((s1.size + s2.size : Nat) : Int) > 20) = false := decide_eq_false (by omega)
  by_cases c2 : s3.size + s4.size ≤ 20
  ·have e2 : decide (((s3.size + s4.size : Nat) : Int) > 20) = false := decide_eq_false (by omega)
   have F := qFromInt m hm1 hm2
   have W := gWhole m hm1 hm2
   have O := gOf (m : Rat)
   have x1 := sameL' (Rl.rat (m : Rat))
   rcases checkAll b1 s1 b2 s2 b3 s3 b4 s4 n 20 (by omega) (by omega) (by omega) (by omega) (by omega) (by omega) with ⟨C, D⟩ | ⟨x, ok, z1, z2, e, C, D⟩
   ·have S : Sp Tryz.prog 18 [] [flV b1 s1 b2 s2 b3 s3 b4 s4 n] (.bool false) [] := by
      clear F W O x1 e1 e2 D
      cases e3 : decide (((s1.size + s2.size : Nat) : Int) ≤ 8)
      ·clear c1 c2 h1 h2 h3 h4
       generalize ((s1.size + s2.size : Nat) : Int) = n1 at *
       generalize ((s3.size + s4.size : Nat) : Int) = n2 at *
       exact walk (code := Tryz.f18.body.getD .skip) [c A, eb e3] fol Tryz.func18 (by kernel_rfl) (fun xs w => Tryz.call18 xs w) (by kernel_rfl)
      cases e4 : decide (((s3.size + s4.size : Nat) : Int) ≤ 8)
      ·clear c1 c2 h1 h2 h3 h4
       generalize ((s1.size + s2.size : Nat) : Int) = n1 at *
       generalize ((s3.size + s4.size : Nat) : Int) = n2 at *
       exact walk (code := Tryz.f18.body.getD .skip) [c A, eb e3, c B, eb e4] fol Tryz.func18 (by kernel_rfl) (fun xs w => Tryz.call18 xs w) (by kernel_rfl)
      ·clear c1 c2 h1 h2 h3 h4
       generalize ((s1.size + s2.size : Nat) : Int) = n1 at *
       generalize ((s3.size + s4.size : Nat) : Int) = n2 at *
       exact walk (code := Tryz.f18.body.getD .skip) [c A, eb e3, c B, eb e4, c C] fol Tryz.func18 (by kernel_rfl) (fun xs w => Tryz.call18 xs w) (by kernel_rfl)
    clear c1 c2 h1 h2 h3 h4
    generalize ((s1.size + s2.size : Nat) : Int) = n1 at *
    generalize ((s3.size + s4.size : Nat) : Int) = n2 at *
    generalize Rl.rat (m : Rat) = y at *
    generalize (m : Rat) = t at *
    exact walk (code := Tryz.f14.body.getD .skip) [c K, c A, eb e1, c B, eb e2, c C, c D, c F, c W, c O, x2 x1, c S] fol Tryz.func14 (by kernel_rfl) (fun xs w => Tryz.call14 xs w) (by kernel_rfl)
   ·have hz := sz_lim x 20 (by omega)
    obtain ⟨l1, l2, l3, l4⟩ := hz
    obtain ⟨b, S⟩ := vSmallQ x C l1 l2 l3 l4
    unfold rlV at e
    simp only [flV, Value.agg.injEq, Array.mk.injEq, List.cons.injEq, Value.bool.injEq, Value.string.injEq, and_true] at e
    obtain ⟨rfl, rfl, rfl, rfl, rfl, rfl, rfl, rfl, rfl⟩ := e
    have R := qRational x
    have Z := gZero
    clear c1 c2 h1 h2 h3 h4 l1 l2 l3 l4
    generalize (((mg x.p.num).size + (mg (dn x.p)).size : Nat) : Int) = n1 at *
    generalize (((mg x.r.num).size + (mg (dn x.r)).size : Nat) : Int) = n2 at *
    show Sp Tryz.prog 14 [] [rlV x, nV m] (.bool true) []
    generalize Rl.rat (m : Rat) = y at *
    generalize (m : Rat) = t at *
    cases b
    ·clear ok z1 z2
     obtain ⟨p, r, neg⟩ := x
     exact walk (code := Tryz.f14.body.getD .skip) [c K, c A, eb e1, c B, eb e2, c C, c D, c F, c W, c O, x2 x1, c S] fol Tryz.func14 (by kernel_rfl) (fun xs w => Tryz.call14 xs w) (by kernel_rfl)
    by_cases h0 : x.r = 0
    ·rw [if_pos h0, decide_eq_true h0] at R
     have F2 := qFromRat x.p
     have e3 : Rl.rat x.p = x := by
      rcases ok with ⟨_, hn⟩ | ⟨hn, _⟩
      ·obtain ⟨p, r, neg⟩ := x
       dsimp only at h0 hn
       subst h0 hn; rfl
      ·rw [h0] at hn; exact absurd hn Rat.lt_irrefl
     rw [e3] at F2
     have B1 := binR1' x.r 0 (b := false) (by simp [h0])
     have B2 := same x.p
     have B3 := sameL x
     clear ok z1 z2 h0 e3
     generalize (0 : Rat) = zero at *
     obtain ⟨p, r, neg⟩ := x
     dsimp only at *
     exact walk (code := Tryz.f14.body.getD .skip) [c K, c A, eb e1, c B, eb e2, c C, c D, c F, c W, c O, x2 x1, c S, c R, c Z, x2 B1, x2 B2, c F2, x2 B3] fol Tryz.func14 (by kernel_rfl) (fun xs w => Tryz.call14 xs w) (by kernel_rfl)
    ·rw [if_neg h0, decide_eq_false h0] at R
     have B1 := binR1' x.r 0 (b := true) (by simp [h0])
     have B2 := same 0
     rw [rV0] at B2 Z B1
     clear ok z1 z2 h0
     obtain ⟨p, r, neg⟩ := x
     dsimp only at *
     exact walk (code := Tryz.f14.body.getD .skip) [c K, c A, eb e1, c B, eb e2, c C, c D, c F, c W, c O, x2 x1, c S, c R, c Z, x2 B1, c Z, x2 B2] fol Tryz.func14 (by kernel_rfl) (fun xs w => Tryz.call14 xs w) (by kernel_rfl)
  ·have e2 : decide (((s3.size + s4.size : Nat) : Int) > 20) = true := decide_eq_true (by omega)
   clear c1 c2 h1 h2 h3 h4
   generalize ((s1.size + s2.size : Nat) : Int) = n1 at *
   generalize ((s3.size + s4.size : Nat) : Int) = n2 at *
   exact walk (code := Tryz.f14.body.getD .skip) [c K, c A, eb e1, c B, eb e2, c K] fol Tryz.func14 (by kernel_rfl) (fun xs w => Tryz.call14 xs w) (by kernel_rfl)
 ·have e1 : decide (((s1.size + s2.size : Nat) : Int) > 20) = true := decide_eq_true (by omega)
  clear c1 h1 h2 h3 h4
  generalize ((s1.size + s2.size : Nat) : Int) = n1 at *
  generalize ((s3.size + s4.size : Nat) : Int) = n2 at *
  exact walk (code := Tryz.f14.body.getD .skip) [c K, c A, eb e1, c K] fol Tryz.func14 (by kernel_rfl) (fun xs w => Tryz.call14 xs w) (by kernel_rfl)
theorem RealMinimal_c (b1 : Bool) (s1 : ByteArray) (b2 : Bool) (s2 : ByteArray) (b3 : Bool) (s3 : ByteArray) (b4 : Bool) (s4 : ByteArray) (n : Bool) (w : World) (hw : w.ShapedOpen Tryz.prog) (h1 : Lim s1) (h2 : Lim s2) (h3 : Lim s3) (h4 : Lim s4) : Calls Tryz.prog 11 #[flV b1 s1 b2 s2 b3 s3 b4 s4 n] w fun e w' => e = .returned (.bool true) ∧ Below w.heap.size w w' := (RealMinimal_s b1 s1 b2 s2 b3 s3 b4 s4 n h1 h2 h3 h4).calls rfl rfl w hw
theorem RealChecks_c (b1 : Bool) (s1 : ByteArray) (b2 : Bool) (s2 : ByteArray) (b3 : Bool) (s3 : ByteArray) (b4 : Bool) (s4 : ByteArray) (n : Bool) (m : Int) (w : World) (hw : w.ShapedOpen Tryz.prog) (h1 : Lim s1) (h2 : Lim s2) (h3 : Lim s3) (h4 : Lim s4) (hm1 : -9223372036854775808 ≤ m) (hm2 : m ≤ 9223372036854775807) : Calls Tryz.prog 14 #[flV b1 s1 b2 s2 b3 s3 b4 s4 n, nV m] w fun e w' => e = .returned (.bool true) ∧ Below w.heap.size w w' := (RealChecks_s b1 s1 b2 s2 b3 s3 b4 s4 n m h1 h2 h3 h4 hm1 hm2).calls rfl rfl w hw
end Go.Proofs.YthdaimoankaciaaGreatDoor
set_option linter.unusedSimpArgs false
set_option linter.unusedVariables false
namespace Go.Proofs.YthdaimoankaciaaGreatDoor
open Go Go.RowKit Go.Sy
open Vi
theorem RealEncloses_s (b1 : Bool) (s1 : ByteArray) (b2 : Bool) (s2 : ByteArray) (b3 : Bool) (s3 : ByteArray) (b4 : Bool) (s4 : ByteArray) (n : Bool) (m : Int) (h1 : Lim s1) (h2 : Lim s2) (h3 : Lim s3) (h4 : Lim s4) (hm1 : -9223372036854775808 ≤ m) (hm2 : m ≤ 9223372036854775807) : Sp Tryz.prog 12 [] [flV b1 s1 b2 s2 b3 s3 b4 s4 n, nV m] (.bool true) [] := by
 have K := vKnown3
 rcases vSmall b1 s1 b2 s2 b3 s3 b4 s4 n h1 h2 h3 h4 with S | ⟨x, ok, z1, z2, e, S⟩
 ·clear hm1 hm2
  exact walk (code := Tryz.f12.body.getD .skip) [c K, c S, c K] fol Tryz.func12 (by kernel_rfl) (fun xs w => Tryz.call12 xs w) (by kernel_rfl)
 rw [e]
 clear e h1 h2 h3 h4
 have Z := gZero
 rw [rV0] at Z
 have B0 := same 0
 rw [rV0] at B0
 by_cases c1 : m < 0
 ·have e1 : decide (m > 64) = false := decide_eq_false (by omega)
  have e2 : decide (m < 0) = true := decide_eq_true c1
  have N := qEncloseNo x m (.inl c1)
  clear c1 hm1 hm2 z1 z2 ok
  obtain ⟨p, r, neg⟩ := x
  exact walk (code := Tryz.f12.body.getD .skip) [c K, c S, L, eb e1, c N, eb e2, c Z, x2 B0, c Z, x2 B0] fol Tryz.func12 (by kernel_rfl) (fun xs w => Tryz.call12 xs w) (by kernel_rfl)
 have e2 : decide (m < 0) = false := decide_eq_false c1
 obtain ⟨k, rfl⟩ : ∃ k : Nat, m = (k : Int) := ⟨m.toNat, by omega⟩
 have main : ∀ j : Nat, j ≤ 64 → Sp Tryz.prog 57 [] [rlV x, nV j] (.tuple #[rV (Rat.divInt (fl (x.scR ((p2 j : Int) : Rat))) (p2 j)), rV (Rat.divInt (-fl (x.scR ((p2 j : Int) : Rat)).ngR) (p2 j)), nV 0]) [] ∧ Sp Tryz.prog 58 [] [rlV x, nV j] (.tuple #[rV (Rat.divInt (fl (x.scR ((p2 j : Int) : Rat))) (p2 j)), rV (Rat.divInt (-fl (x.scR ((p2 j : Int) : Rat)).ngR) (p2 j))]) [] :=
  fun j hj => ⟨qEnclose x j (by omega) 8 (by omega) ok, gEnclose x j hj ok⟩
 by_cases c2 : k ≤ 64
 ·have e1 : decide ((k : Int) > 64) = false := decide_eq_false (by omega)
  have e3 : decide ((k : Int) > 256) = false := decide_eq_false (by omega)
  obtain ⟨A, B⟩ := main k c2
  have x1 := same (Rat.divInt (fl (x.scR ((p2 k : Int) : Rat))) (p2 k))
  have x2 := same (Rat.divInt (-fl (x.scR ((p2 k : Int) : Rat)).ngR) (p2 k))
  clear main c1 c2 hm1 hm2 z1 z2 ok
  generalize Rat.divInt (fl (x.scR ((p2 k : Int) : Rat))) (p2 k) = y1 at *
  generalize Rat.divInt (-fl (x.scR ((p2 k : Int) : Rat)).ngR) (p2 k) = y2 at *
  obtain ⟨p, r, neg⟩ := x
  exact walk (code := Tryz.f12.body.getD .skip) [c K, c S, L, eb e1, c A, eb e2, eb e3, c B, Sy.x2 x1, Sy.x2 x2] fol Tryz.func12 (by kernel_rfl) (fun xs w => Tryz.call12 xs w) (by kernel_rfl)
 have e1 : decide ((k : Int) > 64) = true := decide_eq_true (by omega)
 by_cases c3 : k ≤ 256
 ·have e3 : decide ((k : Int) ≤ 256) = true := decide_eq_true (by omega)
  have R : Bin .rem 3 (nV (k : Int)) (nV 65) (nV ((k % 65 : Nat) : Int)) := bin_rem k 65 (by omega) (by omega)
  have hj : k % 65 ≤ 64 := by omega
  obtain ⟨A, B⟩ := main (k % 65) hj
  generalize k % 65 = j at *
  have e4 : decide ((j : Int) < 0) = false := decide_eq_false (by omega)
  have e5 : decide ((j : Int) > 256) = false := decide_eq_false (by omega)
  have x1 := same (Rat.divInt (fl (x.scR ((p2 j : Int) : Rat))) (p2 j))
  have x2 := same (Rat.divInt (-fl (x.scR ((p2 j : Int) : Rat)).ngR) (p2 j))
  clear main c1 c2 c3 hj hm1 hm2 z1 z2 ok
  generalize Rat.divInt (fl (x.scR ((p2 j : Int) : Rat))) (p2 j) = y1 at *
  generalize Rat.divInt (-fl (x.scR ((p2 j : Int) : Rat)).ngR) (p2 j) = y2 at *
  obtain ⟨p, r, neg⟩ := x
  exact walk (code := Tryz.f12.body.getD .skip) [c K, c S, L, eb e1, eb e3, Sy.x2 R, c A, eb e2, eb e5, c B, Sy.x2 x1, Sy.x2 x2] fol Tryz.func12 (by kernel_rfl) (fun xs w => Tryz.call12 xs w) (by kernel_rfl)
 ·have e3 : decide ((k : Int) ≤ 256) = false := decide_eq_false (by omega)
  have e4 : decide ((k : Int) > 256) = true := decide_eq_true (by omega)
  have N := qEncloseNo x k (.inr (by omega))
  clear main c1 c2 c3 hm1 hm2 z1 z2 ok
  obtain ⟨p, r, neg⟩ := x
  exact walk (code := Tryz.f12.body.getD .skip) [c K, c S, L, eb e1, eb e3, c N, eb e2, eb e4, c Z, x2 B0, c Z, x2 B0] fol Tryz.func12 (by kernel_rfl) (fun xs w => Tryz.call12 xs w) (by kernel_rfl)
theorem RealEncloses_c (b1 : Bool) (s1 : ByteArray) (b2 : Bool) (s2 : ByteArray) (b3 : Bool) (s3 : ByteArray) (b4 : Bool) (s4 : ByteArray) (n : Bool) (m : Int) (w : World) (hw : w.ShapedOpen Tryz.prog) (h1 : Lim s1) (h2 : Lim s2) (h3 : Lim s3) (h4 : Lim s4) (hm1 : -9223372036854775808 ≤ m) (hm2 : m ≤ 9223372036854775807) : Calls Tryz.prog 12 #[flV b1 s1 b2 s2 b3 s3 b4 s4 n, nV m] w fun e w' => e = .returned (.bool true) ∧ Below w.heap.size w w' := (RealEncloses_s b1 s1 b2 s2 b3 s3 b4 s4 n m h1 h2 h3 h4 hm1 hm2).calls rfl rfl w hw
end Go.Proofs.YthdaimoankaciaaGreatDoor
