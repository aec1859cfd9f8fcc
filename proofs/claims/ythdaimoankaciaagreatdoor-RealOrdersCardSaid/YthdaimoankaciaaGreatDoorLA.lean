import Derived.Test.YthdaimoankaciaaGreatDoorEA
import Derived.Test.YthdaimoankaciaaGreatDoorRn
import Derived.Test.YthdaimoankaciaaGreatDoorIntL
import Derived.Test.YthdaimoankaciaaGreatDoorQr
import Derived.Test.YthdaimoankaciaaGreatDoorEB
/- The program's numbers with a root: signs, comparison, moves. -/
set_option linter.unusedSimpArgs false
set_option linter.unusedVariables false
namespace Go.Proofs.YthdaimoankaciaaGreatDoor
open Go Go.RowKit Go.Sy
open Vi
def rlV (x : Rl) : Value := .agg #[.bool (sg x.p.num), .string (mg x.p.num), .bool (sg (dn x.p)), .string (mg (dn x.p)), .bool (sg x.r.num), .string (mg x.r.num), .bool (sg (dn x.r)), .string (mg (dn x.r)), .bool x.neg]
theorem sgQ_in (a : Rat) : -1 ≤ sgQ a ∧ sgQ a ≤ 1 := by rcases sgQ_cases a with ⟨h, _⟩ | ⟨h, _⟩ | ⟨h, _⟩ <;> rw [h] <;> omega
theorem sgR_in (a : RR) : -1 ≤ sgR a ∧ sgR a ≤ 1 := by rcases RR.sg_cases a with ⟨h, _⟩ | ⟨h, _⟩ | ⟨h, _⟩ <;> rw [h] <;> omega
theorem mul_in1 {a b : Int} (ha : -1 ≤ a ∧ a ≤ 1) (hb : -1 ≤ b ∧ b ≤ 1) : -1 ≤ a * b ∧ a * b ≤ 1 := by
 rcases (by omega : a = -1 ∨ a = 0 ∨ a = 1) with h | h | h <;> subst h <;> omega
theorem pSgn (p : Rat) : Sp Tryz.prog 86 [] [rV p] (nV (sgQ p)) [] := by
 have := pSign p
 rwa [cmpI_sg] at this
theorem pCmp (p q : Rat) (hp : Fits p) (hq : Fits q) : Sp Tryz.prog 123 [] [rV p, rV q] (nV (sgQ (p - q))) [] := by
 have := pCompare p q hp hq
 rwa [cmpQ_sg] at this
theorem qSign (a b r : Rat) (k : Nat) (hk : k ≤ 20000) [HasSz a k] [HasSz b k] [HasSz r k] : Sp Tryz.prog 94 [] [rV a, rV b, rV r] (nV (signF a b r)) [] := by
 have S1 := pSgn a
 have S2 := pSgn b
 have S3 := pSgn r
 have A := pMul a a fz fz
 have B := pMul b b fz fz
 have C := pMul (b * b) r fz fz
 have D := pCmp (a * a) (b * b * r) fz fz
 have b1 := sgQ_in a
 have b2 := mul_in1 (sgQ_in b) (sgQ_in r)
 have b3 := sgQ_in (a * a - b * b * r)
 have b4 := mul_in1 b1 b3
 obtain ⟨n, hn⟩ : ∃ n, n = sgQ b * sgQ r := ⟨_, rfl⟩
 obtain ⟨v, hv⟩ : ∃ v, v = sgQ a * sgQ (a * a - b * b * r) := ⟨_, rfl⟩
 have w1 : IntKind.i64.wrap (sgQ b * sgQ r) = n := by rw [hn]; exact w64 (by omega) (by omega)
 have w2 : IntKind.i64.wrap (sgQ a * sgQ (a * a - b * b * r)) = v := by rw [hv]; exact w64 (by omega) (by omega)
 unfold signF
 rw [← hn, ← hv]
 clear hn hv b1 b2 b3 b4
 generalize a * a - b * b * r = f at *
 generalize b * b * r = g at *
 generalize b * b = h at *
 generalize a * a = i at *
 generalize sgQ f = j at *
 generalize sgQ a = m at *
 generalize sgQ b = u1 at *
 generalize sgQ r = u2 at *
 by_cases h1 : n = 0
 ·rw [if_pos (.inl h1)]
  have e1 : decide (n = 0) = true := decide_eq_true h1
  clear h1
  exact walk (code := Tryz.f94.body.getD .skip) [c S1, c S2, c S3, Go.Sy.e (congrArg (Value.int IntKind.i64) w1), eb e1] fol Tryz.func94 (by kernel_rfl) (fun xs w => Tryz.call94 xs w) (by kernel_rfl)
 ·have e1 : decide (n = 0) = false := decide_eq_false h1
  by_cases h2 : m = n
  ·rw [if_pos (.inr h2)]
   have e2 : decide (m = n) = true := decide_eq_true h2
   clear h1 h2
   exact walk (code := Tryz.f94.body.getD .skip) [c S1, c S2, c S3, Go.Sy.e (congrArg (Value.int IntKind.i64) w1), eb e1, eb e2] fol Tryz.func94 (by kernel_rfl) (fun xs w => Tryz.call94 xs w) (by kernel_rfl)
  ·rw [if_neg (by rintro (h | h) <;> contradiction)]
   have e2 : decide (m = n) = false := decide_eq_false h2
   by_cases h3 : m = 0
   ·rw [if_pos h3]
    have e3 : decide (m = 0) = true := decide_eq_true h3
    clear h1 h2 h3
    exact walk (code := Tryz.f94.body.getD .skip) [c S1, c S2, c S3, Go.Sy.e (congrArg (Value.int IntKind.i64) w1), eb e1, eb e2, eb e3] fol Tryz.func94 (by kernel_rfl) (fun xs w => Tryz.call94 xs w) (by kernel_rfl)
   ·rw [if_neg h3]
    have e3 : decide (m = 0) = false := decide_eq_false h3
    clear h1 h2 h3
    exact walk (code := Tryz.f94.body.getD .skip) [c S1, c S2, c S3, Go.Sy.e (congrArg (Value.int IntKind.i64) w1), eb e1, eb e2, eb e3, c A, c B, c C, c D, Go.Sy.e (congrArg (Value.int IntKind.i64) w2)] fol Tryz.func94 (by kernel_rfl) (fun xs w => Tryz.call94 xs w) (by kernel_rfl)
theorem qFactor (x : Rl) : Sp Tryz.prog 93 [] [rlV x] (rV x.s) [] := by
 have F1 := pI (-1) (by omega) (by omega)
 have F2 := pI 1 (by omega) (by omega)
 obtain ⟨p, r, neg⟩ := x
 unfold Rl.s
 cases neg
 ·exact walk (code := Tryz.f93.body.getD .skip) [c F2] fol Tryz.func93 (by kernel_rfl) (fun xs w => Tryz.call93 xs w) (by kernel_rfl)
 ·exact walk (code := Tryz.f93.body.getD .skip) [c F1] fol Tryz.func93 (by kernel_rfl) (fun xs w => Tryz.call93 xs w) (by kernel_rfl)
theorem qFromRat (q : Rat) : Sp Tryz.prog 68 [] [rV q] (rlV (Rl.rat q)) [] := by
 have z := rV0
 unfold Rl.rat rlV
 rw [show (0 : Rat).num = 0 from rfl, show dn 0 = 0 from rfl, sg0, mg0]
 exact walk (code := Tryz.f68.body.getD .skip) [] fol Tryz.func68 (by kernel_rfl) (fun xs w => Tryz.call68 xs w) (by kernel_rfl)
theorem qShift (x : Rl) (q : Rat) (hx : Fits x.p) (hq : Fits q) : Sp Tryz.prog 30 [] [rlV x, rV q] (rlV ⟨x.p + q, x.r, x.neg⟩) [] := by
 obtain ⟨p, r, neg⟩ := x
 dsimp only at *
 exact walk (code := Tryz.f30.body.getD .skip) [c (pAdd p q hx hq)] fol Tryz.func30 (by kernel_rfl) (fun xs w => Tryz.call30 xs w) (by kernel_rfl)
instance (x : Rl) : HasSz x.s 1 := by
 unfold Rl.s
 split
 ·exact (inferInstance : HasSz (-(1 : Rat)) 1)
 ·exact (inferInstance : HasSz (1 : Rat) 1)
theorem qCompare (x y : Rl) (k : Nat) (hk : k ≤ 3000) (hk1 : 1 ≤ k) [HasSz x.p k] [HasSz x.r k] [HasSz y.p k] [HasSz y.r k] (hx : 0 ≤ x.r) (hy : 0 ≤ y.r) : Sp Tryz.prog 26 [] [rlV x, rlV y] (nV (Rl.cmp x y)) [] := by
 rw [← Rl.cmpF_eq x y hx hy]
 have D := pSub x.p y.p fz fz
 have F1 := qFactor x
 have F2 := qFactor y
 have N := pNeg y.s
 haveI i1 : HasSz x.r (k + k + 1) := hs_mono ‹HasSz x.r k› (by omega)
 haveI i2 : HasSz x.s (k + k + 1) := hs_mono (inferInstance : HasSz x.s 1) (by omega)
 have S1 := qSign (x.p - y.p) x.s x.r (k + k + 1) (by omega)
 have S2 := pSgn (-y.s)
 have S3 := pSgn y.r
 clear i1 i2
 have A := pMul (x.p - y.p) (x.p - y.p) fz fz
 have B := pAdd ((x.p - y.p) * (x.p - y.p)) x.r fz fz
 have C := pSub ((x.p - y.p) * (x.p - y.p) + x.r) y.r fz fz
 have T := pI 2 (by omega) (by omega)
 have E := pMul (x.p - y.p) x.s fz fz
 have G := pMul 2 ((x.p - y.p) * x.s) fz fz
 haveI i1 : HasSz ((x.p - y.p) * (x.p - y.p) + x.r - y.r) (6 * k + 6) := hs_mono inferInstance (show k + k + 1 + (k + k + 1) + k + 1 + k + 1 ≤ _ by omega)
 haveI i2 : HasSz (2 * ((x.p - y.p) * x.s)) (6 * k + 6) := hs_mono inferInstance (show 1 + (k + k + 1 + 1) ≤ _ by omega)
 haveI i3 : HasSz x.r (6 * k + 6) := hs_mono ‹HasSz x.r k› (by omega)
 have S4 := qSign ((x.p - y.p) * (x.p - y.p) + x.r - y.r) (2 * ((x.p - y.p) * x.s)) x.r (6 * k + 6) (by omega)
 clear i1 i2 i3
 have b1 : -1 ≤ signF (x.p - y.p) x.s x.r ∧ signF (x.p - y.p) x.s x.r ≤ 1 := by rw [signF_eq _ _ _ hx]; exact sgR_in _
 have b2 := mul_in1 (sgQ_in (-y.s)) (sgQ_in y.r)
 have b3 : -1 ≤ signF ((x.p - y.p) * (x.p - y.p) + x.r - y.r) (2 * ((x.p - y.p) * x.s)) x.r ∧ signF ((x.p - y.p) * (x.p - y.p) + x.r - y.r) (2 * ((x.p - y.p) * x.s)) x.r ≤ 1 := by rw [signF_eq _ _ _ hx]; exact sgR_in _
 have b4 := mul_in1 b1 b3
 obtain ⟨n, hn⟩ : ∃ n, n = sgQ (-y.s) * sgQ y.r := ⟨_, rfl⟩
 obtain ⟨v, hv⟩ : ∃ v, v = signF (x.p - y.p) x.s x.r * signF ((x.p - y.p) * (x.p - y.p) + x.r - y.r) (2 * ((x.p - y.p) * x.s)) x.r := ⟨_, rfl⟩
 have w1 : IntKind.i64.wrap (sgQ (-y.s) * sgQ y.r) = n := by rw [hn]; exact w64 (by omega) (by omega)
 have w2 : IntKind.i64.wrap (signF (x.p - y.p) x.s x.r * signF ((x.p - y.p) * (x.p - y.p) + x.r - y.r) (2 * ((x.p - y.p) * x.s)) x.r) = v := by rw [hv]; exact w64 (by omega) (by omega)
 unfold Rl.cmpF
 rw [← hn, ← hv]
 clear hn hv b1 b2 b3 b4
 rw [show ((2 : Int) : Rat) = 2 from rfl] at T
 generalize signF ((x.p - y.p) * (x.p - y.p) + x.r - y.r) (2 * ((x.p - y.p) * x.s)) x.r = s4 at *
 generalize signF (x.p - y.p) x.s x.r = m at *
 generalize sgQ (-y.s) = u1 at *
 generalize sgQ y.r = u2 at *
 generalize 2 * ((x.p - y.p) * x.s) = t1 at *
 generalize (x.p - y.p) * x.s = t2 at *
 generalize (x.p - y.p) * (x.p - y.p) + x.r - y.r = t3 at *
 generalize (x.p - y.p) * (x.p - y.p) + x.r = t4 at *
 generalize (x.p - y.p) * (x.p - y.p) = t5 at *
 generalize x.p - y.p = t6 at *
 generalize -y.s = t7 at *
 generalize x.s = t8 at *
 generalize y.s = t9 at *
 generalize (2 : Rat) = t10 at *
 obtain ⟨xp, xr, xn⟩ := x
 obtain ⟨yp, yr, yn⟩ := y
 dsimp only at *
 by_cases h1 : n = 0
 ·rw [if_pos (.inl h1)]
  have e1 : decide (n = 0) = true := decide_eq_true h1
  clear h1
  exact walk (code := Tryz.f26.body.getD .skip) [c D, c F1, c F2, c N, c S1, c S2, c S3, Go.Sy.e (congrArg (Value.int IntKind.i64) w1), eb e1] fol Tryz.func26 (by kernel_rfl) (fun xs w => Tryz.call26 xs w) (by kernel_rfl)
 ·have e1 : decide (n = 0) = false := decide_eq_false h1
  by_cases h2 : m = n
  ·rw [if_pos (.inr h2)]
   have e2 : decide (m = n) = true := decide_eq_true h2
   clear h1 h2
   exact walk (code := Tryz.f26.body.getD .skip) [c D, c F1, c F2, c N, c S1, c S2, c S3, Go.Sy.e (congrArg (Value.int IntKind.i64) w1), eb e1, eb e2] fol Tryz.func26 (by kernel_rfl) (fun xs w => Tryz.call26 xs w) (by kernel_rfl)
  ·rw [if_neg (by rintro (h | h) <;> contradiction)]
   have e2 : decide (m = n) = false := decide_eq_false h2
   by_cases h3 : m = 0
   ·rw [if_pos h3]
    have e3 : decide (m = 0) = true := decide_eq_true h3
    clear h1 h2 h3
    exact walk (code := Tryz.f26.body.getD .skip) [c D, c F1, c F2, c N, c S1, c S2, c S3, Go.Sy.e (congrArg (Value.int IntKind.i64) w1), eb e1, eb e2, eb e3] fol Tryz.func26 (by kernel_rfl) (fun xs w => Tryz.call26 xs w) (by kernel_rfl)
   ·rw [if_neg h3]
    have e3 : decide (m = 0) = false := decide_eq_false h3
    clear h1 h2 h3
    exact walk (code := Tryz.f26.body.getD .skip) [c D, c F1, c F2, c N, c S1, c S2, c S3, Go.Sy.e (congrArg (Value.int IntKind.i64) w1), eb e1, eb e2, eb e3, c A, c B, c C, c T, c E, c G, c S4, Go.Sy.e (congrArg (Value.int IntKind.i64) w2)] fol Tryz.func26 (by kernel_rfl) (fun xs w => Tryz.call26 xs w) (by kernel_rfl)
end Go.Proofs.YthdaimoankaciaaGreatDoor
set_option linter.unusedSimpArgs false
set_option linter.unusedVariables false
namespace Go.Proofs.YthdaimoankaciaaGreatDoor
open Go Go.RowKit Go.Sy
open Vi
theorem isq_all (X : Nat) : isq X * isq X ≤ X ∧ X < (isq X + 1) * (isq X + 1) := isq_spec X
theorem qNeg (x : Rl) : Sp Tryz.prog 29 [] [rlV x] (rlV x.ngR) [] := by
 have N := pNeg x.p
 obtain ⟨p, r, neg⟩ := x
 unfold Rl.ngR
 by_cases h : r = 0
 ·have B := binR0' r (b := false) (by simp [h])
  rw [decide_eq_true h]
  cases neg <;> exact walk (code := Tryz.f29.body.getD .skip) [c N, x2 B] fol Tryz.func29 (by kernel_rfl) (fun xs w => Tryz.call29 xs w) (by kernel_rfl)
 ·have B := binR0' r (b := true) (by simp [h])
  rw [decide_eq_false h]
  cases neg <;> exact walk (code := Tryz.f29.body.getD .skip) [c N, x2 B] fol Tryz.func29 (by kernel_rfl) (fun xs w => Tryz.call29 xs w) (by kernel_rfl)
theorem qCompareRat (x : Rl) (q : Rat) (k : Nat) (hk : k ≤ 3000) (hk1 : 1 ≤ k) [HasSz x.p k] [HasSz x.r k] [HasSz q k] (hx : 0 ≤ x.r) : Sp Tryz.prog 49 [] [rlV x, rV q] (nV (Rl.cmp x (Rl.rat q))) [] := by
 haveI : HasSz (Rl.rat q).p k := ‹HasSz q k›
 haveI : HasSz (Rl.rat q).r k := hs_mono (inferInstance : HasSz (0 : Rat) 1) hk1
 have C := qCompare x (Rl.rat q) k hk hk1 hx Rat.le_refl
 have F := qFromRat q
 generalize Rl.cmp x (Rl.rat q) = v at *
 exact walk (code := Tryz.f49.body.getD .skip) [c F, c C] fol Tryz.func49 (by kernel_rfl) (fun xs w => Tryz.call49 xs w) (by kernel_rfl)
theorem qScale (x : Rl) (q : Rat) (k : Nat) (hk : k ≤ 3000) [HasSz x.p k] [HasSz x.r k] [HasSz q k] : Sp Tryz.prog 31 [] [rlV x, rV q] (rlV (x.scR q)) [] := by
 have A := pMul q q fz fz
 have B := pMul (q * q) x.r fz fz
 have C := pMul x.p q fz fz
 have D := pSgn q
 have e0 : decide (sgQ q < 0) = decide (q < 0) := by
  rcases sgQ_cases q with ⟨h1, h2⟩ | ⟨h1, h2⟩ | ⟨h1, h2⟩ <;> rw [h1]
  ·rw [decide_eq_true h2]; rfl
  ·rw [show decide (q < 0) = false from decide_eq_false (by grind)]; rfl
  ·rw [show decide (q < 0) = false from decide_eq_false (by grind)]; rfl
 obtain ⟨p, r, neg⟩ := x
 unfold Rl.scR
 dsimp only at *
 by_cases h : q * q * r = 0
 ·have E := binR0' (q * q * r) (b := false) (by simp [h])
  rw [decide_eq_true h]
  clear h
  generalize q * q * r = s at *
  generalize q * q = t at *
  generalize p * q = u at *
  generalize (neg != decide (q < 0)) = v at *
  exact walk (code := Tryz.f31.body.getD .skip) [c A, c B, c C, x2 E] fol Tryz.func31 (by kernel_rfl) (fun xs w => Tryz.call31 xs w) (by kernel_rfl)
 ·have E := binR0' (q * q * r) (b := true) (by simp [h])
  rw [decide_eq_false h]
  clear h
  generalize q * q * r = s at *
  generalize q * q = t at *
  generalize p * q = u at *
  generalize decide (q < 0) = d at *
  generalize sgQ q = z at *
  cases d <;> cases neg <;> exact walk (code := Tryz.f31.body.getD .skip) [c A, c B, c C, x2 E, c D, eb e0] fol Tryz.func31 (by kernel_rfl) (fun xs w => Tryz.call31 xs w) (by kernel_rfl)
end Go.Proofs.YthdaimoankaciaaGreatDoor
set_option linter.unusedSimpArgs false
set_option linter.unusedVariables false
namespace Go.Proofs.YthdaimoankaciaaGreatDoor
open Go Go.RowKit Go.Sy
open Vi
theorem mg_mul (x y : Int) : (mg (x * y)).size ≤ (mg x).size + (mg y).size := by
 rw [mg_nd, mg_nd, mg_nd, Int.natAbs_mul]; exact nd_mul _ _
theorem mg_add (x y : Int) : (mg (x + y)).size ≤ (mg x).size + (mg y).size + 1 := by
 rw [mg_nd, mg_nd, mg_nd]
 exact Nat.le_trans (nd_mono 256 (by omega) _ _ (Int.natAbs_add_le x y)) (nd_add _ _)
theorem mg_neg (x : Int) : (mg (-x)).size = (mg x).size := by rw [mg_nd, mg_nd, Int.natAbs_neg]
theorem mg_sub (x y : Int) : (mg (x - y)).size ≤ (mg x).size + (mg y).size + 1 := by
 rw [Int.sub_eq_add_neg]
 have := mg_add x (-y)
 rw [mg_neg] at this
 exact this
theorem mg_one : (mg 1).size = 1 := by rw [mg1]; rfl
theorem iSub (x y : Int) (hx : (mg x).size ≤ 4294967296) (hy : (mg y).size ≤ 4294967296) : Sp Tryz.prog 108 [] [iV x, iV y] (iV (x - y)) [] := Sp.of (fun xs w => Tryz.call108 xs w) (by kernel_rfl) (by kernel_rfl) (fun w => Sub_c x y w hx hy)
theorem isq_mg (z : Int) : (mg ((isq z.toNat : Nat) : Int)).size ≤ (mg z).size := by
 rw [mg_nd, mg_nd, Int.natAbs_natCast]
 refine nd_mono 256 (by omega) _ _ ?_
 have h1 := (isq_all z.toNat).1
 have h2 := Nat.le_mul_self (isq z.toNat)
 omega
noncomputable abbrev fl (x : Rl) : Int := Rl.flI isq x
theorem fl_ok (x : Rl) (hx : x.Ok) : RR.IsFl x.val (fl x) := Rl.flI_ok isq isq_all x hx
theorem fl_size (x : Rl) (k : Nat) [hp : HasSz x.p k] [hr : HasSz x.r k] : (mg (fl x)).size ≤ 6 * k + 4 := by
 have s1 := hp.sz.num
 have s2 := hp.sz.den
 have s3 := hr.sz.num
 have s4 := hr.sz.den
 have m1 := mg_mul x.p.num x.r.den
 have m2 := mg_mul (x.p.den : Int) (x.p.den : Int)
 have m3 := mg_mul x.r.num x.r.den
 have m4 := mg_mul ((x.p.den : Int) * (x.p.den : Int)) (x.r.num * x.r.den)
 have m5 := isq_mg ((x.p.den : Int) * (x.p.den : Int) * (x.r.num * x.r.den))
 have m6 := mg_add (x.p.num * x.r.den) ((isq ((x.p.den : Int) * (x.p.den : Int) * (x.r.num * x.r.den)).toNat : Nat) : Int)
 have m7 := mg_add ((isq ((x.p.den : Int) * (x.p.den : Int) * (x.r.num * x.r.den)).toNat : Nat) : Int) 1
 have m8 := mg_sub (x.p.num * x.r.den) (((isq ((x.p.den : Int) * (x.p.den : Int) * (x.r.num * x.r.den)).toNat : Nat) : Int) + 1)
 rw [mg_one] at m7
 have ht : (mg (Rl.topI isq x)).size ≤ 6 * k + 4 := by
  unfold Rl.topI
  split <;> omega
 have h4 := Int.natAbs_ediv_le_natAbs (Rl.topI isq x) ((x.p.den : Int) * (x.r.den : Int))
 exact Nat.le_trans (mg_le h4) ht
theorem qFloor (x : Rl) (k : Nat) (hk : k ≤ 20000) (hx : 0 ≤ x.r) [hp : HasSz x.p k] [hr : HasSz x.r k] : Sp Tryz.prog 45 [] [rlV x] (iV (fl x)) [] := by
 have s1 := hp.sz.num
 have s2 := hp.sz.den
 have s3 := hr.sz.num
 have s4 := hr.sz.den
 have m1 := mg_mul x.p.num x.r.den
 have m2 := mg_mul (x.p.den : Int) (x.p.den : Int)
 have m3 := mg_mul x.r.num x.r.den
 have m4 := mg_mul ((x.p.den : Int) * (x.p.den : Int)) (x.r.num * x.r.den)
 have m5 := isq_mg ((x.p.den : Int) * (x.p.den : Int) * (x.r.num * x.r.den))
 have m6 := mg_add (x.p.num * x.r.den) ((isq ((x.p.den : Int) * (x.p.den : Int) * (x.r.num * x.r.den)).toNat : Nat) : Int)
 have m7 := mg_add ((isq ((x.p.den : Int) * (x.p.den : Int) * (x.r.num * x.r.den)).toNat : Nat) : Int) 1
 have m8 := mg_sub (x.p.num * x.r.den) (((isq ((x.p.den : Int) * (x.p.den : Int) * (x.r.num * x.r.den)).toNat : Nat) : Int) + 1)
 have m9 := mg_mul (x.p.den : Int) (x.r.den : Int)
 rw [mg_one] at m7
 have d1 := den_pos' x.p
 have d2 := den_pos' x.r
 have hn : 0 ≤ (x.p.den : Int) * (x.p.den : Int) * (x.r.num * x.r.den) := Int.mul_nonneg (Int.mul_nonneg (Int.le_of_lt d1) (Int.le_of_lt d1)) (Int.mul_nonneg (Rat.num_nonneg.2 hx) (Int.le_of_lt d2))
 have hD : (x.p.den : Int) * (x.r.den : Int) ≠ 0 := Int.ne_of_gt (Int.mul_pos d1 d2)
 have N1 := pNum x.p
 have N2 := pNum x.r
 have D1 := pDen x.p
 have D2 := pDen x.r
 have M1 := iMul (x.p.den : Int) (x.p.den : Int) (by omega) (by omega)
 have M2 := iMul x.r.num (x.r.den : Int) (by omega) (by omega)
 have M3 := iMul ((x.p.den : Int) * (x.p.den : Int)) (x.r.num * x.r.den) (by omega) (by omega)
 have Q := iSqrt _ hn (by omega)
 have M4 := iMul x.p.num (x.r.den : Int) (by omega) (by omega)
 have I := iFromInt 1 (by omega) (by omega)
 have A1 := iAdd ((isq ((x.p.den : Int) * (x.p.den : Int) * (x.r.num * x.r.den)).toNat : Nat) : Int) 1 (by omega) (by rw [mg_one]; omega)
 have A2 := iAdd (x.p.num * x.r.den) ((isq ((x.p.den : Int) * (x.p.den : Int) * (x.r.num * x.r.den)).toNat : Nat) : Int) (by omega) (by omega)
 have B := iSub (x.p.num * x.r.den) (((isq ((x.p.den : Int) * (x.p.den : Int) * (x.r.num * x.r.den)).toNat : Nat) : Int) + 1) (by omega) (by omega)
 have M5 := iMul (x.p.den : Int) (x.r.den : Int) (by omega) (by omega)
 have V1 := iDivMod (x.p.num * x.r.den + ((isq ((x.p.den : Int) * (x.p.den : Int) * (x.r.num * x.r.den)).toNat : Nat) : Int)) ((x.p.den : Int) * (x.r.den : Int)) hD (by omega) (by omega)
 have V2 := iDivMod (x.p.num * x.r.den - (((isq ((x.p.den : Int) * (x.p.den : Int) * (x.r.num * x.r.den)).toNat : Nat) : Int) + 1)) ((x.p.den : Int) * (x.r.den : Int)) hD (by omega) (by omega)
 unfold fl Rl.flI Rl.topI
 clear hx s1 s2 s3 s4 m1 m2 m3 m4 m5 m6 m7 m8 m9 d1 d2 hn hD hp hr
 obtain ⟨p, r, neg⟩ := x
 dsimp only at *
 generalize ((isq ((p.den : Int) * (p.den : Int) * (r.num * r.den)).toNat : Nat) : Int) = rt at *
 generalize (p.den : Int) * (p.den : Int) * (r.num * r.den) = t1 at *
 generalize (p.den : Int) * (p.den : Int) = t2 at *
 generalize r.num * (r.den : Int) = t3 at *
 cases neg
 ·rw [if_neg (by simp)]
  clear V2
  generalize (p.num * (r.den : Int) + rt) / ((p.den : Int) * (r.den : Int)) = q at *
  generalize (p.num * (r.den : Int) + rt) % ((p.den : Int) * (r.den : Int)) = q2 at *
  generalize p.num * (r.den : Int) + rt = t4 at *
  generalize p.num * (r.den : Int) = t5 at *
  generalize (p.den : Int) * (r.den : Int) = t6 at *
  generalize (p.den : Int) = t7 at *
  generalize (r.den : Int) = t8 at *
  exact walk (code := Tryz.f45.body.getD .skip) [c N1, c D1, c N2, c D2, c M1, c M2, c M3, c Q, c M4, c A2, c M5, c V1] fol Tryz.func45 (by kernel_rfl) (fun xs w => Tryz.call45 xs w) (by kernel_rfl)
 ·rw [if_pos rfl]
  clear V1
  generalize (p.num * (r.den : Int) - (rt + 1)) / ((p.den : Int) * (r.den : Int)) = q at *
  generalize (p.num * (r.den : Int) - (rt + 1)) % ((p.den : Int) * (r.den : Int)) = q2 at *
  generalize p.num * (r.den : Int) - (rt + 1) = t4 at *
  generalize p.num * (r.den : Int) = t5 at *
  generalize rt + 1 = t9 at *
  generalize (p.den : Int) * (r.den : Int) = t6 at *
  generalize (p.den : Int) = t7 at *
  generalize (r.den : Int) = t8 at *
  exact walk (code := Tryz.f45.body.getD .skip) [c N1, c D1, c N2, c D2, c M1, c M2, c M3, c Q, c M4, c I, c A1, c B, c M5, c V2] fol Tryz.func45 (by kernel_rfl) (fun xs w => Tryz.call45 xs w) (by kernel_rfl)
theorem qCeil (x : Rl) (k : Nat) (hk : k ≤ 20000) (hx : 0 ≤ x.r) [hp : HasSz x.p k] [hr : HasSz x.r k] : Sp Tryz.prog 47 [] [rlV x] (iV (-fl x.ngR)) [] := by
 haveI : HasSz x.ngR.p k := ⟨hp.sz.neg⟩
 haveI : HasSz x.ngR.r k := hr
 have N := qNeg x
 have F := qFloor x.ngR k hk hx
 have I := iNegate (fl x.ngR)
 generalize fl x.ngR = z at *
 generalize x.ngR = y at *
 exact walk (code := Tryz.f47.body.getD .skip) [c N, c F, c I] fol Tryz.func47 (by kernel_rfl) (fun xs w => Tryz.call47 xs w) (by kernel_rfl)
theorem qWhole (n : Int) (h : (mg n).size ≤ 100000) : Sp Tryz.prog 117 [] [iV n] (rV (n : Rat)) [] := by
 have M := pMake n 1 (by omega) (by omega) (by rw [mg_one]; omega)
 rw [divInt1] at M
 have I := iFromInt 1 (by omega) (by omega)
 exact walk (code := Tryz.f117.body.getD .skip) [c I, c M] fol Tryz.func117 (by kernel_rfl) (fun xs w => Tryz.call117 xs w) (by kernel_rfl)
end Go.Proofs.YthdaimoankaciaaGreatDoor
set_option linter.unusedSimpArgs false
set_option linter.unusedVariables false
namespace Go.Proofs.YthdaimoankaciaaGreatDoor
open Go Go.RowKit Go.Sy
open Vi
def stEn (n i : Nat) (x : Rl) : St := ⟨45, 0, [(2, ptr 0 0), (4, ptr 1 0), (5, ptr 2 0), (6, nV 0), (7, ptr 3 0), (18, nV n), (19, nV i)], junk, [(0, blk 27 [.bool (sg x.p.num), .string (mg x.p.num), .bool (sg (dn x.p)), .string (mg (dn x.p)), .bool (sg x.r.num), .string (mg x.r.num), .bool (sg (dn x.r)), .string (mg (dn x.r)), .bool x.neg]), (1, blk 25 [.bool false, .string ⟨#[]⟩, .bool false, .string ⟨#[]⟩]), (2, blk 25 [.bool false, .string ⟨#[]⟩, .bool false, .string ⟨#[]⟩]), (3, blk 23 [.bool (sg (p2 i)), .string (mg (p2 i))])], 4⟩
theorem en_loop (x : Rl) (n : Nat) (hn : n ≤ 256) : ∀ m i, i + m = n → RoundsOk Tryz.prog (nthLoop 0 (Tryz.f57.body.getD .skip)) (stEn n i x) (.exit 0) (stEn n n x)
 | 0, i, hi => by
  obtain rfl : i = n := by omega
  have e : decide ((i : Int) < (i : Int)) = false := decide_eq_false (by omega)
  refine .out (by simp) ?_
  unfold stEn
  generalize p2 i = z at *
  exact piece [(0, 0), (1, 1), (2, 2), (3, 3)] [eb e] fol (by kernel_rfl)
 | m + 1, i, hi => by
  have e : decide ((i : Int) < (n : Int)) = true := decide_eq_true (by omega)
  have w1 : IntKind.i64.wrap ((i : Int) + 1) = ((i + 1 : Nat) : Int) := by rw [w64 (by omega) (by omega)]; omega
  have zP := p2_size i 33 (by omega)
  have A := iAdd (p2 i) (p2 i) (by omega) (by omega)
  rw [Int.add_comm] at A
  have ih := en_loop x n hn m (i + 1) (by omega)
  refine .more ?_ ih
  have hs : p2 i + p2 i = p2 (i + 1) := by unfold p2; rw [Int.pow_succ]; omega
  unfold stEn
  rw [← hs]
  generalize p2 i + p2 i = z2 at *
  generalize p2 i = z at *
  exact piece [(0, 0), (1, 1), (2, 2), (3, 3)] [eb e, c A, Go.Sy.e (congrArg (Value.int IntKind.i64) w1)] fol (by kernel_rfl)
theorem qEnclose (x : Rl) (n : Nat) (hn : n ≤ 256) (k : Nat) (hk : k ≤ 1000) (hx : x.Ok) [hp : HasSz x.p k] [hr : HasSz x.r k] : Sp Tryz.prog 57 [] [rlV x, nV n] (.tuple #[rV (Rat.divInt (fl (x.scR ((p2 n : Int) : Rat))) (p2 n)), rV (Rat.divInt (-fl (x.scR ((p2 n : Int) : Rat)).ngR) (p2 n)), nV 0]) [] := by
 have e1 : decide ((n : Int) < 0) = false := decide_eq_false (by omega)
 have e2 : decide ((n : Int) > 256) = false := decide_eq_false (by omega)
 have F := iFromInt 1 (by omega) (by omega)
 have hl := (en_loop x n hn n 0 (by omega)).loop
 have hP := p2_pos n
 have zP := p2_size n 33 (by omega)
 have W := qWhole (p2 n) (by omega)
 haveI : HasSz ((p2 n : Int) : Rat) (33 + 1) := int_hs _ 33 (Nat.lt_of_lt_of_le (p2_abs n 33 (by omega)) (Nat.pow_le_pow_right (by omega) (by omega)))
 haveI i1 : HasSz ((p2 n : Int) : Rat) (k + 34) := hs_mono ‹HasSz ((p2 n : Int) : Rat) (33 + 1)› (by omega)
 haveI i2 : HasSz x.p (k + 34) := hs_mono hp (by omega)
 haveI i3 : HasSz x.r (k + 34) := hs_mono hr (by omega)
 have S := qScale x ((p2 n : Int) : Rat) (k + 34) (by omega)
 have ok := Rl.scR_ok hx ((p2 n : Int) : Rat)
 have ok2 := Rl.ngR_ok ok
 have j1 : HasSz (x.scR ((p2 n : Int) : Rat)).p (3 * (k + 34)) := hs_mono (inferInstance : HasSz (x.p * ((p2 n : Int) : Rat)) _) (show k + 34 + (k + 34) ≤ _ by omega)
 have j2 : HasSz (x.scR ((p2 n : Int) : Rat)).r (3 * (k + 34)) := hs_mono (inferInstance : HasSz (((p2 n : Int) : Rat) * ((p2 n : Int) : Rat) * x.r) _) (show k + 34 + (k + 34) + (k + 34) ≤ _ by omega)
 clear i1 i2 i3
 have j3 : HasSz (x.scR ((p2 n : Int) : Rat)).ngR.p (3 * (k + 34)) := ⟨j1.sz.neg⟩
 have j4 : HasSz (x.scR ((p2 n : Int) : Rat)).ngR.r (3 * (k + 34)) := j2
 have z1 := fl_size (x.scR ((p2 n : Int) : Rat)) (3 * (k + 34))
 have z2 := fl_size (x.scR ((p2 n : Int) : Rat)).ngR (3 * (k + 34))
 have A := qFloor (x.scR ((p2 n : Int) : Rat)) (3 * (k + 34)) (by omega) ok.nonneg
 have B := qCeil (x.scR ((p2 n : Int) : Rat)) (3 * (k + 34)) (by omega) ok.nonneg
 have C := pMake (fl (x.scR ((p2 n : Int) : Rat))) (p2 n) (by omega) (by omega) (by omega)
 have D := pMake (-fl (x.scR ((p2 n : Int) : Rat)).ngR) (p2 n) (by omega) (by rw [mg_neg]; omega) (by omega)
 clear j1 j2 j3 j4 z1 z2 ok ok2 hP zP
 unfold stEn at hl
 rw [show p2 0 = 1 from rfl] at hl
 generalize Rat.divInt (fl (x.scR ((p2 n : Int) : Rat))) (p2 n) = y1 at *
 generalize Rat.divInt (-fl (x.scR ((p2 n : Int) : Rat)).ngR) (p2 n) = y2 at *
 generalize -fl (x.scR ((p2 n : Int) : Rat)).ngR = y3 at *
 generalize fl (x.scR ((p2 n : Int) : Rat)) = y4 at *
 generalize x.scR ((p2 n : Int) : Rat) = y5 at *
 generalize ((p2 n : Int) : Rat) = y6 at *
 generalize p2 n = z at *
 obtain ⟨p, r, neg⟩ := x
 dsimp only at *
 exact walk (code := Tryz.f57.body.getD .skip) [eb e1, eb e2, c F, lp [(0, 0), (1, 1), (2, 2), (3, 3)] hl, c W, c S, c A, c C, c B, c D] fol Tryz.func57 (by kernel_rfl) (fun xs w => Tryz.call57 xs w) (by kernel_rfl)
theorem qRational (x : Rl) : Sp Tryz.prog 67 [] [rlV x] (.tuple #[if x.r = 0 then rV x.p else rZ, .bool (decide (x.r = 0))]) [] := by
 obtain ⟨p, r, neg⟩ := x
 dsimp only
 by_cases h : r = 0
 ·have B := binR0' r (b := false) (by simp [h])
  rw [if_pos h, decide_eq_true h]
  clear h
  exact walk (code := Tryz.f67.body.getD .skip) [x2 B] fol Tryz.func67 (by kernel_rfl) (fun xs w => Tryz.call67 xs w) (by kernel_rfl)
 ·have B := binR0' r (b := true) (by simp [h])
  rw [if_neg h, decide_eq_false h]
  clear h
  exact walk (code := Tryz.f67.body.getD .skip) [x2 B] fol Tryz.func67 (by kernel_rfl) (fun xs w => Tryz.call67 xs w) (by kernel_rfl)
noncomputable def ofLow (x : Rl) (n : Nat) : Rat := if x.r = 0 then x.p else Rat.divInt (fl (x.scR ((p2 n : Int) : Rat))) (p2 n)
noncomputable def ofHigh (x : Rl) (n : Nat) : Rat := if x.r = 0 then x.p else Rat.divInt (fl (x.scR ((p2 n : Int) : Rat)) + 1) (p2 n)
theorem ceil_eq (x : Rl) (n : Nat) (hx : x.Ok) (h0 : x.r ≠ 0) : -fl (x.scR ((p2 n : Int) : Rat)).ngR = fl (x.scR ((p2 n : Int) : Rat)) + 1 := by
 have ok := Rl.scR_ok hx ((p2 n : Int) : Rat)
 have hp := p2_rat n
 have h1 := fl_ok _ ok
 have h2 := fl_ok _ (Rl.ngR_ok ok)
 rw [Rl.ngR_val ok] at h2
 refine h1.neg_irr h2 (Rl.irr ok ?_ _)
 show ¬ ((p2 n : Int) : Rat) * ((p2 n : Int) : Rat) * x.r = 0
 intro e
 rcases Rat.mul_eq_zero.1 e with g | g
 ·rcases Rat.mul_eq_zero.1 g with g | g <;> (rw [g] at hp; exact Rat.lt_irrefl hp)
 ·exact h0 g
end Go.Proofs.YthdaimoankaciaaGreatDoor
set_option linter.unusedSimpArgs false
set_option linter.unusedVariables false
namespace Go.Proofs.YthdaimoankaciaaGreatDoor
open Go Go.RowKit Go.Sy
open Vi
theorem rSgn (p : Rat) : Sp Tryz.prog 60 [] [rV p] (nV (sgQ p)) [] := by
 have := rSign p
 rwa [cmpI_sg] at this
theorem rCmp (p q : Rat) (hp : Fits p) (hq : Fits q) : Sp Tryz.prog 71 [] [rV p, rV q] (nV (sgQ (p - q))) [] := by
 have := rCompare p q hp hq
 rwa [cmpQ_sg] at this
theorem sgQ_lt {a : Rat} {b : Bool} (h : decide (a < 0) = b) : decide (sgQ a < 0) = b := by
 rw [← h]
 rcases sgQ_cases a with ⟨h1, h2⟩ | ⟨h1, h2⟩ | ⟨h1, h2⟩ <;> rw [h1]
 ·rw [show decide (a < 0) = true from decide_eq_true h2]; rfl
 ·rw [show decide (a < 0) = false from decide_eq_false (by grind)]; rfl
 ·rw [show decide (a < 0) = false from decide_eq_false (by grind)]; rfl
theorem sgQ_gt {a : Rat} {b : Bool} (h : decide (0 < a) = b) : decide (sgQ a > 0) = b := by
 rw [← h]
 rcases sgQ_cases a with ⟨h1, h2⟩ | ⟨h1, h2⟩ | ⟨h1, h2⟩ <;> rw [h1]
 ·rw [show decide (0 < a) = false from decide_eq_false (by grind)]; rfl
 ·rw [show decide (0 < a) = false from decide_eq_false (by grind)]; rfl
 ·rw [show decide (0 < a) = true from decide_eq_true h2]; rfl
end Go.Proofs.YthdaimoankaciaaGreatDoor
set_option linter.unusedSimpArgs false
set_option linter.unusedVariables false
namespace Go.Proofs.YthdaimoankaciaaGreatDoor
open Go Go.RowKit Go.Sy
open Vi
theorem above_next (x : Rl) (n : Nat) (hx : x.Ok) (h0 : x.r ≠ 0) (z : Int) : aboveB x (((z : Int) : Rat) / ((p2 n : Int) : Rat)) = decide (z ≤ fl (x.scR ((p2 n : Int) : Rat))) := by
 have hp := p2_rat n
 have ok := Rl.scR_ok hx ((p2 n : Int) : Rat)
 have h1 := fl_ok _ ok
 have hi : ∀ q : Rat, (x.scR ((p2 n : Int) : Rat)).val ≠ RR.ofRat q := Rl.irr ok (by
  show ¬ ((p2 n : Int) : Rat) * ((p2 n : Int) : Rat) * x.r = 0
  intro e
  rcases Rat.mul_eq_zero.1 e with g | g
  ·rcases Rat.mul_eq_zero.1 g with g | g <;> (rw [g] at hp; exact Rat.lt_irrefl hp)
  ·exact h0 g)
 have hv := Rl.scR_val hx ((p2 n : Int) : Rat)
 have hm := RR.mul_lt_iff (d := RR.ofRat ((p2 n : Int) : Rat)) (u := RR.ofRat (((z : Int) : Rat) / ((p2 n : Int) : Rat))) (v := x.val) (RR.rat_lt.2 hp)
 have hz : ((p2 n : Int) : Rat) * (((z : Int) : Rat) / ((p2 n : Int) : Rat)) = ((z : Int) : Rat) := by
  rw [Rat.mul_comm]; exact div_mul hp
 rw [← RR.rat_mul, hz, ← hv] at hm
 unfold aboveB
 refine decide_eq_decide.2 ?_
 rw [← hm]
 constructor
 ·intro h
  have := RR.rat_lt.1 (RR.lt_trans h h1.2)
  have : z < fl (x.scR ((p2 n : Int) : Rat)) + 1 := by exact_mod_cast this
  omega
 ·intro h
  have h2 : RR.ofRat ((z : Int) : Rat) ≤ (x.scR ((p2 n : Int) : Rat)).val := RR.le_trans (RR.rat_le.2 (by exact_mod_cast h)) h1.1
  rcases RR.lt_or_eq h2 with g | g
  ·exact g
  ·exact absurd g.symm (hi _)
def rlC (x : Rl) : List Value := [.bool (sg x.p.num), .string (mg x.p.num), .bool (sg (dn x.p)), .string (mg (dn x.p)), .bool (sg x.r.num), .string (mg x.r.num), .bool (sg (dn x.r)), .string (mg (dn x.r)), .bool x.neg]
def zC8 : List Value := [.bool false, .string ⟨#[]⟩, .bool false, .string ⟨#[]⟩, .bool false, .string ⟨#[]⟩, .bool false, .string ⟨#[]⟩]
noncomputable def lowR (x : Rl) (b : Nat) : Rat := if x.neg then x.p - highQ x.r b else x.p + gridQ x.r b
theorem start_near (x : Rl) (b : Nat) (hx : x.Ok) : (lowR x b * ((p2 b : Int) : Rat)).floor ≤ fl (x.scR ((p2 b : Int) : Rat)) ∧ fl (x.scR ((p2 b : Int) : Rat)) ≤ (lowR x b * ((p2 b : Int) : Rat)).floor + 1 := by
 have hp := p2_rat b
 have hr := hx.nonneg
 obtain ⟨g0, g1, g2, g3, g4⟩ := tight x.r b hr
 have h1 := fl_ok _ (Rl.scR_ok hx ((p2 b : Int) : Rat))
 rw [Rl.scR_val hx] at h1
 generalize fl (x.scR ((p2 b : Int) : Rat)) = F at *
 have u1 : RR.ofRat (gridQ x.r b) ≤ RR.sqrt x.r := RR.sq_le (RR.rat_le.2 g0) (RR.sqrt_nonneg _) (by rw [RR.sqrt_sq _ hr, ← RR.rat_mul, RR.rat_le]; exact g1)
 have u2 : RR.sqrt x.r ≤ RR.ofRat (highQ x.r b) := RR.sq_le (RR.sqrt_nonneg _) (RR.rat_le.2 (by grind)) (by rw [RR.sqrt_sq _ hr, ← RR.rat_mul, RR.rat_le]; exact g2)
 have key : RR.ofRat (lowR x b) ≤ x.val ∧ RR.ofRat ((p2 b : Int) : Rat) * x.val ≤ RR.ofRat (lowR x b * ((p2 b : Int) : Rat) + 1) := by
  unfold lowR Rl.val
  generalize highQ x.r b = h at *
  generalize gridQ x.r b = g at *
  generalize RR.sqrt x.r = u at *
  generalize ((p2 b : Int) : Rat) = q at *
  have v1 := RR.sub_nonneg.2 u1
  have v2 := RR.sub_nonneg.2 u2
  have v3 : 0 ≤ RR.ofRat (1 - (h - g) * q) := RR.rat_le.2 (by grind)
  rcases Rl.s_cases x with ⟨n1, n2⟩ | ⟨n1, n2⟩ <;> rw [n1, n2]
  ·rw [if_pos rfl]
   constructor
   ·exact RR.le_of_nonneg _ v2 (RR.ring [x.p, h, u] (by decide +kernel))
   ·refine RR.le_of_nonneg (RR.ofRat q * (u - RR.ofRat g) + RR.ofRat (1 - (h - g) * q)) (RR.add_nonneg (RR.mul_nonneg (RR.rat_le.2 (Rat.le_of_lt hp)) v1) v3) (RR.ring [x.p, h, g, u, q] (by decide +kernel))
  ·rw [if_neg (by simp)]
   constructor
   ·exact RR.le_of_nonneg _ v1 (RR.ring [x.p, g, u] (by decide +kernel))
   ·refine RR.le_of_nonneg (RR.ofRat q * (RR.ofRat h - u) + RR.ofRat (1 - (h - g) * q)) (RR.add_nonneg (RR.mul_nonneg (RR.rat_le.2 (Rat.le_of_lt hp)) v2) v3) (RR.ring [x.p, h, g, u, q] (by decide +kernel))
 have k2 : RR.ofRat (lowR x b * ((p2 b : Int) : Rat)) ≤ RR.ofRat ((p2 b : Int) : Rat) * x.val := by
  have := (RR.mul_le_iff (d := RR.ofRat ((p2 b : Int) : Rat)) (RR.rat_lt.2 hp)).2 key.1
  rwa [← RR.rat_mul, Rat.mul_comm] at this
 have k3 := key.2
 generalize RR.ofRat ((p2 b : Int) : Rat) * x.val = v at *
 generalize lowR x b * ((p2 b : Int) : Rat) = t at *
 have f1 := Rat.floor_le t
 have f2 := Rat.lt_floor_add_one t
 constructor
 ·have a1 := RR.rat_lt.1 (RR.lt_of_le_of_lt (RR.le_trans (RR.rat_le.2 f1) k2) h1.2)
  have a1 : t.floor < F + 1 := by exact_mod_cast a1
  omega
 ·have a2 : ((F : Int) : Rat) < ((t.floor + 2 : Int) : Rat) := RR.rat_lt.1 (RR.lt_of_le_of_lt (RR.le_trans h1.1 k3) (RR.rat_lt.2 (by rw [Rat.intCast_add]; have e : ((2 : Int) : Rat) = 2 := rfl; rw [e]; grind)))
  have a2 : F < t.floor + 2 := by exact_mod_cast a2
  omega
theorem fl_abs (x : Rl) (b : Nat) (hb : b ≤ 128) (K : Nat) (hK : K = 901) [hp : HasSz x.p 10] [hr : HasSz x.r 10] : (fl (x.scR ((p2 b : Int) : Rat))).natAbs + 9 < 256 ^ (K + 1) := by
 haveI : HasSz ((p2 b : Int) : Rat) (19 + 1) := int_hs _ 19 (p2_abs b 20 (by omega))
 have j1 : HasSz (x.scR ((p2 b : Int) : Rat)).p 60 := hs_mono (inferInstance : HasSz (x.p * ((p2 b : Int) : Rat)) _) (by omega)
 have j2 : HasSz (x.scR ((p2 b : Int) : Rat)).r 60 := hs_mono (inferInstance : HasSz (((p2 b : Int) : Rat) * ((p2 b : Int) : Rat) * x.r) _) (by omega)
 have h := fl_size (x.scR ((p2 b : Int) : Rat)) 60
 rw [mg_nd] at h
 have h1 := lt_pow_nd 256 (by omega) (fl (x.scR ((p2 b : Int) : Rat))).natAbs
 obtain ⟨j, rfl⟩ : ∃ j, K = j + 1 := ⟨900, hK⟩
 have h2 := Nat.pow_le_pow_right (show 0 < 256 by omega) (show nd 256 (fl (x.scR ((p2 b : Int) : Rat))).natAbs ≤ j by omega)
 have h3 : (256 : Nat) ^ (j + 1 + 1) = 256 ^ (j + 1) * 256 := Nat.pow_succ ..
 have h4 : (256 : Nat) ^ (j + 1) = 256 ^ j * 256 := Nat.pow_succ ..
 have h5 : 0 < (256 : Nat) ^ j := Nat.pow_pos (by omega)
 generalize (256 : Nat) ^ j = w at *
 omega
end Go.Proofs.YthdaimoankaciaaGreatDoor
set_option linter.unusedSimpArgs false
set_option linter.unusedVariables false
namespace Go.Proofs.YthdaimoankaciaaGreatDoor
open Go Go.RowKit Go.Sy
open Vi
theorem sq_hs {y q : Rat} (h : y * y = q) (k : Nat) (hq : HasSz q k) : HasSz y k := by
 obtain ⟨a1, a2⟩ := sq_parts y
 rw [h] at a1 a2
 have h1 := hq.sz.1
 have h2 := hq.sz.2
 rw [a1, Int.natAbs_mul] at h1
 rw [a2] at h2
 have h3 := Nat.le_mul_self y.num.natAbs
 have h4 := Nat.le_mul_self y.den
 exact ⟨⟨by omega, by omega⟩⟩
def RootOk (n1 d1 n2 d2 : Int) : Prop := PairOk n1 d1 n2 d2
def rootV (n1 d1 n2 d2 : Int) (neg : Bool) : Value := .agg #[.int .i32 n1, .int .u16 d1, .int .i32 n2, .int .u16 d2, .bool neg]
theorem of_in (x : Rl) (b : Nat) (hx : x.Ok) : RR.ofRat (ofLow x b) ≤ x.val ∧ x.val ≤ RR.ofRat (ofHigh x b) := by
 unfold ofLow ofHigh
 by_cases h : x.r = 0
 ·rw [if_pos h, if_pos h]
  have e : x.val = RR.ofRat x.p := by
   unfold Rl.val
   rw [h, RR.sqrt_zero]
   exact RR.ring [x.p, x.s] (by decide +kernel)
  rw [e]
  exact ⟨RR.le_refl _, RR.le_refl _⟩
 ·rw [if_neg h, if_neg h, Rat.divInt_eq_div, Rat.divInt_eq_div]
  have hp := p2_rat b
  have h1 := fl_ok _ (Rl.scR_ok hx ((p2 b : Int) : Rat))
  rw [Rl.scR_val hx] at h1
  have dm : ∀ t : Rat, ((p2 b : Int) : Rat) * (t / ((p2 b : Int) : Rat)) = t := fun t => by rw [Rat.mul_comm]; exact div_mul hp
  have hq : 0 < RR.ofRat ((p2 b : Int) : Rat) := RR.rat_lt.2 hp
  constructor
  ·refine (RR.mul_le_iff hq).1 ?_
   rw [← RR.rat_mul, dm]; exact h1.1
  ·refine (RR.mul_le_iff hq).1 ?_
   rw [← RR.rat_mul, dm]; exact RR.le_of_lt h1.2
theorem of_sz (x : Rl) (b : Nat) (hb : b ≤ 128) [hp : HasSz x.p 10] [hr : HasSz x.r 10] : HasSz (ofLow x b) 902 ∧ HasSz (ofHigh x b) 902 := by
 obtain ⟨K, hK⟩ : ∃ K : Nat, K = 901 := ⟨_, rfl⟩
 have hF := fl_abs x b hb K hK
 have h1 := Nat.lt_of_lt_of_le (p2_abs b 33 (by omega)) (Nat.pow_le_pow_right (show 0 < 256 by omega) (show 33 ≤ K + 1 by omega))
 have h2 := p2_pos b
 unfold ofLow ofHigh
 constructor
 ·split
  ·exact hs_mono hp (by omega)
  ·exact hs_mono (⟨Sz.of _ _ (K + 1) (by omega) (by omega) h1⟩ : HasSz _ (K + 1)) (by omega)
 ·split
  ·exact hs_mono hp (by omega)
  ·exact hs_mono (⟨Sz.of _ _ (K + 1) (by omega) (by omega) h1⟩ : HasSz _ (K + 1)) (by omega)
theorem cmp_ge (x : Rl) (q : Rat) (h : RR.ofRat q ≤ x.val) : decide (Rl.cmp x (Rl.rat q) ≥ 0) = true := by
 rw [Rl.cmp_rat]
 rcases RR.sg_cases (x.val - RR.ofRat q) with ⟨h1, h2⟩ | ⟨h1, h2⟩ | ⟨h1, h2⟩ <;> rw [h1]
 ·exact absurd h2 (RR.sub_nonneg.2 h)
 ·rfl
 ·rfl
theorem cmp_le (x : Rl) (q : Rat) (h : x.val ≤ RR.ofRat q) : decide (Rl.cmp x (Rl.rat q) ≤ 0) = true := by
 rw [Rl.cmp_rat]
 rcases RR.sg_cases (x.val - RR.ofRat q) with ⟨h1, h2⟩ | ⟨h1, h2⟩ | ⟨h1, h2⟩ <;> rw [h1]
 ·rfl
 ·rfl
 ·exact absurd (RR.sub_pos.1 h2) h
end Go.Proofs.YthdaimoankaciaaGreatDoor
