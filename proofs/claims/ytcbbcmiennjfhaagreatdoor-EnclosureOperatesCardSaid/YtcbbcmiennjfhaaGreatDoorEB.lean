import Derived.Test.YtcbbcmiennjfhaaGreatDoorFz
import Derived.Test.YtcbbcmiennjfhaaGreatDoorEA
/- No program in sight: bounds of sums, products, squares and quotients. -/
set_option linter.unusedSimpArgs false
set_option linter.unusedVariables false
namespace Vi
theorem minQ_le (p q : Rat) : minQ p q ≤ p ∧ minQ p q ≤ q := by unfold minQ; split <;> grind
theorem maxQ_ge (p q : Rat) : p ≤ maxQ p q ∧ q ≤ maxQ p q := by unfold maxQ; split <;> grind
theorem minQ_or (p q : Rat) : minQ p q = p ∨ minQ p q = q := by unfold minQ; split <;> simp
theorem maxQ_or (p q : Rat) : maxQ p q = p ∨ maxQ p q = q := by unfold maxQ; split <;> simp
theorem le_minQ {x p q : Rat} : x ≤ minQ p q ↔ x ≤ p ∧ x ≤ q := by
 constructor
 ·intro h; have := minQ_le p q; grind
 ·intro h; rcases minQ_or p q with e | e <;> rw [e] <;> grind
theorem maxQ_le {x p q : Rat} : maxQ p q ≤ x ↔ p ≤ x ∧ q ≤ x := by
 constructor
 ·intro h; have := maxQ_ge p q; grind
 ·intro h; rcases maxQ_or p q with e | e <;> rw [e] <;> grind
theorem prod_between {l x h y : Rat} (h1 : l ≤ x) (h2 : x ≤ h) : (l * y ≤ x * y ∧ x * y ≤ h * y) ∨ (h * y ≤ x * y ∧ x * y ≤ l * y) := by
 by_cases hy : 0 ≤ y
 ·left
  have a := Rat.mul_nonneg (show 0 ≤ x - l by grind) hy
  have b := Rat.mul_nonneg (show 0 ≤ h - x by grind) hy
  constructor <;> grind
 ·right
  have a := Rat.mul_nonneg (show 0 ≤ x - l by grind) (show 0 ≤ -y by grind)
  have b := Rat.mul_nonneg (show 0 ≤ h - x by grind) (show 0 ≤ -y by grind)
  constructor <;> grind
def mn4 (a b c d : Rat) : Rat := minQ (minQ (minQ a b) c) d
def mx4 (a b c d : Rat) : Rat := maxQ (maxQ (maxQ a b) c) d
theorem mn4_le (a b c d : Rat) : mn4 a b c d ≤ a ∧ mn4 a b c d ≤ b ∧ mn4 a b c d ≤ c ∧ mn4 a b c d ≤ d := by
 unfold mn4
 have h1 := minQ_le (minQ (minQ a b) c) d
 have h2 := minQ_le (minQ a b) c
 have h3 := minQ_le a b
 grind
theorem mx4_ge (a b c d : Rat) : a ≤ mx4 a b c d ∧ b ≤ mx4 a b c d ∧ c ≤ mx4 a b c d ∧ d ≤ mx4 a b c d := by
 unfold mx4
 have h1 := maxQ_ge (maxQ (maxQ a b) c) d
 have h2 := maxQ_ge (maxQ a b) c
 have h3 := maxQ_ge a b
 grind
theorem prod_in {l x h c y d : Rat} (h1 : l ≤ x) (h2 : x ≤ h) (h3 : c ≤ y) (h4 : y ≤ d) : mn4 (l * c) (l * d) (h * c) (h * d) ≤ x * y ∧ x * y ≤ mx4 (l * c) (l * d) (h * c) (h * d) := by
 have a := mn4_le (l * c) (l * d) (h * c) (h * d)
 have b := mx4_ge (l * c) (l * d) (h * c) (h * d)
 have k1 := prod_between (y := y) h1 h2
 have k2 := prod_between (y := l) h3 h4
 have k3 := prod_between (y := h) h3 h4
 constructor <;> grind
theorem sq_in {l x h : Rat} (h1 : l ≤ x) (h2 : x ≤ h) : x * x ≤ maxQ (l * l) (h * h) ∧ ((l ≤ 0 ∧ 0 ≤ h) → 0 ≤ x * x) ∧ (¬ (l ≤ 0 ∧ 0 ≤ h) → minQ (l * l) (h * h) ≤ x * x) := by
 have a := maxQ_ge (l * l) (h * h)
 have b := minQ_le (l * l) (h * h)
 refine ⟨?_, fun _ => ?_, fun hn => ?_⟩
 ·by_cases hx : 0 ≤ x
  ·have := Rat.mul_nonneg (show 0 ≤ h - x by grind) (show 0 ≤ h + x by grind)
   grind
  ·have := Rat.mul_nonneg (show 0 ≤ x - l by grind) (show 0 ≤ -(l + x) by grind)
   grind
 ·by_cases hx : 0 ≤ x
  ·exact Rat.mul_nonneg hx hx
  ·have := Rat.mul_nonneg (show 0 ≤ -x by grind) (show 0 ≤ -x by grind)
   grind
 ·by_cases hl : 0 ≤ l
  ·have := Rat.mul_nonneg (show 0 ≤ x - l by grind) (show 0 ≤ x + l by grind)
   grind
  ·have := Rat.mul_nonneg (show 0 ≤ h - x by grind) (show 0 ≤ -(x + h) by grind)
   grind
theorem inv_in {c y d : Rat} (h3 : c ≤ y) (h4 : y ≤ d) (hn : ¬ (c ≤ 0 ∧ 0 ≤ d)) : 1 / d ≤ 1 / y ∧ 1 / y ≤ 1 / c ∧ y ≠ 0 ∧ c ≠ 0 ∧ d ≠ 0 := by
 have key : ∀ a b : Rat, 0 < a → a ≤ b → 1 / b ≤ 1 / a := by
  intro a b ha hab
  have hb : 0 < b := by grind
  rw [Rat.div_def, Rat.div_def, Rat.one_mul, Rat.one_mul]
  have ia := Rat.inv_pos.2 ha
  have ib := Rat.inv_pos.2 hb
  have e1 := Rat.mul_inv_cancel a (by grind)
  have e2 := Rat.mul_inv_cancel b (by grind)
  have := Rat.mul_nonneg (show 0 ≤ b - a by grind) (Rat.le_of_lt (Rat.mul_pos ia ib))
  generalize a⁻¹ = u at *
  generalize b⁻¹ = v at *
  rw [show (b - a) * (u * v) = (b * v) * u - (a * u) * v by grind, e1, e2] at this
  grind
 have nkey : ∀ a : Rat, 1 / (-a) = -(1 / a) := by
  intro a
  rw [Rat.div_def, Rat.div_def, Rat.one_mul, Rat.one_mul]
  by_cases h0 : a = 0
  ·subst h0; decide +kernel
  ·grind
 by_cases hc : 0 < c
 ·exact ⟨key y d (by grind) h4, key c y hc h3, by grind, by grind, by grind⟩
 ·have hd : d < 0 := by grind
  have a1 := key (-d) (-y) (by grind) (by grind)
  have a2 := key (-y) (-c) (by grind) (by grind)
  rw [nkey, nkey] at a1 a2
  exact ⟨by grind, by grind, by grind, by grind, by grind⟩
end Vi
set_option linter.unusedSimpArgs false
set_option linter.unusedVariables false
namespace Go.Proofs.YtcbbcmiennjfhaaGreatDoor
open Go Go.RowKit Go.Sy
open Vi
theorem bin_shl1 (n : Nat) (hn : n ≤ 62) : Bin .shl 3 (nV 1) (nV n) (nV ((2 ^ n : Nat) : Int)) := by
 intro ox oy w
 have h1 : ¬ ((n : Int) < 0) := by omega
 have h2 : (n : Int) < 64 := by omega
 have h3 : ((2 ^ n : Nat) : Int) ≤ ((2 ^ 62 : Nat) : Int) := by exact_mod_cast Nat.pow_le_pow_right (by omega) hn
 rw [Int.natCast_pow] at h3
 have h4 : (0 : Int) < 2 ^ n := Int.pow_pos (by omega)
 have e2 : (((2 ^ 62 : Nat) : Int)) = 4611686018427387904 := by decide
 rw [e2] at h3
 have h3 : (2 : Int) ^ n ≤ 4611686018427387904 := h3
 simp [go_sem, nV]
 exact w64 (by omega) (by omega)
theorem eWidth (l h : Rat) (hl : Fits l) (hh : Fits h) : Sp Tryz.prog 37 [] [oV l h] (rV (h - l)) [] := by exact walk (code := Tryz.f37.body.getD .skip) [c (pSub h l hh hl)] fol Tryz.func37 (by kernel_rfl) (fun xs w => Tryz.call37 xs w) (by kernel_rfl)
theorem half_eq : Rat.divInt 1 2 = 1 / 2 := by decide +kernel
theorem eMiddle (l h : Rat) (k : Nat) (hk : k ≤ 500) [HasSz l k] [HasSz h k] : Sp Tryz.prog 62 [] [oV l h] (rV ((l + h) * (1 / 2))) [] := by
 have F := pFromInts 1 2 (by omega) (by omega) (by omega) (by omega) (by omega)
 haveI : HasSz (1 / 2 : Rat) 1 := ⟨by unfold Sz; decide +kernel⟩
 rw [half_eq] at F
 have A := pAdd l h fz fz
 have M := pMul (l + h) (1 / 2) fz fz
 generalize (1 / 2 : Rat) = q at *
 generalize l + h = s at *
 exact walk (code := Tryz.f62.body.getD .skip) [c F, c A, c M] fol Tryz.func62 (by kernel_rfl) (fun xs w => Tryz.call62 xs w) (by kernel_rfl)
theorem eHull (a b x y : Rat) (k : Nat) (hk : k ≤ 500) [HasSz a k] [HasSz b k] [HasSz x k] [HasSz y k] : Sp Tryz.prog 59 [] [oV a b, oV x y] (oV (minQ (minQ (minQ a b) x) y) (maxQ (maxQ (maxQ a b) x) y)) [] := by
 have A := eAround4 a b x y k (by omega)
 exact walk (code := Tryz.f59.body.getD .skip) [cr A] fol Tryz.func59 (by kernel_rfl) (fun xs w => Tryz.call59 xs w) (by kernel_rfl)
theorem eInterYes (a b x y : Rat) (k : Nat) (hk : k ≤ 500) [HasSz a k] [HasSz b k] [HasSz x k] [HasSz y k] (h : maxQ a x ≤ minQ b y) : Sp Tryz.prog 60 [] [oV a b, oV x y] (.tuple #[oV (maxQ a x) (minQ b y), .bool true]) [] := by
 have C := pCompare (maxQ a x) (minQ b y) fz fz
 have e := cmpQ_gtr (decide_eq_false (Rat.not_lt.2 h))
 have M1 := pMaxQ a x fz fz
 have M2 := pMinQ b y fz fz
 generalize maxQ a x = u at *
 generalize minQ b y = v at *
 exact walk (code := Tryz.f60.body.getD .skip) [c M1, c M2, c C, eb e] fol Tryz.func60 (by kernel_rfl) (fun xs w => Tryz.call60 xs w) (by kernel_rfl)
theorem eInterNo (a b x y : Rat) (k : Nat) (hk : k ≤ 500) [HasSz a k] [HasSz b k] [HasSz x k] [HasSz y k] (h : minQ b y < maxQ a x) : Sp Tryz.prog 60 [] [oV a b, oV x y] (.tuple #[oZ, .bool false]) [] := by
 have C := pCompare (maxQ a x) (minQ b y) fz fz
 have e := cmpQ_gtr (decide_eq_true h)
 have M1 := pMaxQ a x fz fz
 have M2 := pMinQ b y fz fz
 generalize maxQ a x = u at *
 generalize minQ b y = v at *
 exact walk (code := Tryz.f60.body.getD .skip) [c M1, c M2, c C, eb e] fol Tryz.func60 (by kernel_rfl) (fun xs w => Tryz.call60 xs w) (by kernel_rfl)
def inB (l h r : Rat) : Bool := decide (l ≤ r) && decide (r ≤ h)
theorem inB_iff {l h r : Rat} : inB l h r = true ↔ l ≤ r ∧ r ≤ h := by unfold inB; simp
theorem eIn (l h r : Rat) (hl : Fits l) (hh : Fits h) (hr : Fits r) : Sp Tryz.prog 53 [] [oV l h, rV r] (.bool (inB l h r)) [] := eContains l h r hl hh hr
theorem fIn (l h r : Rat) (hl : Fits l) (hh : Fits h) (hr : Fits r) : Sp Tryz.prog 50 [] [oV l h, rV r] (.bool (inB l h r)) [] := fContains l h r hl hh hr
theorem eWithin (a b x y : Rat) (ha : Fits a) (hb : Fits b) (hx : Fits x) (hy : Fits y) : Sp Tryz.prog 61 [] [oV a b, oV x y] (.bool (inB x y a && inB x y b)) [] := by
 have C1 := eIn x y a hx hy ha
 have C2 := eIn x y b hx hy hb
 cases h1 : inB x y a
 ·rw [h1] at C1
  exact walk (code := Tryz.f61.body.getD .skip) [c C1] fol Tryz.func61 (by kernel_rfl) (fun xs w => Tryz.call61 xs w) (by kernel_rfl)
 ·rw [h1] at C1
  cases h2 : inB x y b
  ·rw [h2] at C2
   exact walk (code := Tryz.f61.body.getD .skip) [c C1, c C2] fol Tryz.func61 (by kernel_rfl) (fun xs w => Tryz.call61 xs w) (by kernel_rfl)
  ·rw [h2] at C2
   exact walk (code := Tryz.f61.body.getD .skip) [c C1, c C2] fol Tryz.func61 (by kernel_rfl) (fun xs w => Tryz.call61 xs w) (by kernel_rfl)
def cmpO (a b x y : Rat) : Int := if b < x then -1 else if y < a then 1 else if a = x ∧ b = y ∧ a = b then 0 else 2
theorem eCompare (a b x y : Rat) (ha : Fits a) (hb : Fits b) (hx : Fits x) (hy : Fits y) : Sp Tryz.prog 57 [] [oV a b, oV x y] (nV (cmpO a b x y)) [] := by
 have C1 := pCompare b x hb hx
 have C2 := pCompare a y ha hy
 unfold cmpO
 by_cases h1 : b < x
 ·rw [if_pos h1]
  have e1 := cmpQ_lss (decide_eq_true h1)
  exact walk (code := Tryz.f57.body.getD .skip) [c C1, eb e1] fol Tryz.func57 (by kernel_rfl) (fun xs w => Tryz.call57 xs w) (by kernel_rfl)
 ·rw [if_neg h1]
  have e1 := cmpQ_lss (decide_eq_false h1)
  by_cases h2 : y < a
  ·rw [if_pos h2]
   have e2 := cmpQ_gtr (decide_eq_true h2)
   exact walk (code := Tryz.f57.body.getD .skip) [c C1, eb e1, c C2, eb e2] fol Tryz.func57 (by kernel_rfl) (fun xs w => Tryz.call57 xs w) (by kernel_rfl)
  ·rw [if_neg h2]
   have e2 := cmpQ_gtr (decide_eq_false h2)
   by_cases h3 : a = x ∧ b = y
   ·have B1 := binO a b x y (q := true) (by simp [h3])
    by_cases h4 : a = b
    ·have B2 := binR1 a b (b := true) (by simp [h4])
     rw [if_pos ⟨h3.1, h3.2, h4⟩]
     clear h1 h2 h3 h4
     exact walk (code := Tryz.f57.body.getD .skip) [c C1, eb e1, c C2, eb e2, x2 B1, x2 B2] fol Tryz.func57 (by kernel_rfl) (fun xs w => Tryz.call57 xs w) (by kernel_rfl)
    ·have B2 := binR1 a b (b := false) (by simp [h4])
     rw [if_neg (fun h => h4 h.2.2)]
     clear h1 h2 h3 h4
     exact walk (code := Tryz.f57.body.getD .skip) [c C1, eb e1, c C2, eb e2, x2 B1, x2 B2] fol Tryz.func57 (by kernel_rfl) (fun xs w => Tryz.call57 xs w) (by kernel_rfl)
   ·have B1 := binO a b x y (q := false) (by rw [← Bool.decide_and]; exact decide_eq_false h3)
    rw [if_neg (fun h => h3 ⟨h.1, h.2.1⟩)]
    clear h1 h2 h3
    exact walk (code := Tryz.f57.body.getD .skip) [c C1, eb e1, c C2, eb e2, x2 B1] fol Tryz.func57 (by kernel_rfl) (fun xs w => Tryz.call57 xs w) (by kernel_rfl)
theorem fCompare (a b x y : Rat) (ha : Fits a) (hb : Fits b) (hx : Fits x) (hy : Fits y) : Sp Tryz.prog 58 [] [oV a b, oV x y] (nV (cmpO a b x y)) [] := by
 have C1 := rCompare b x hb hx
 have C2 := rCompare y a hy ha
 unfold cmpO
 by_cases h1 : b < x
 ·rw [if_pos h1]
  have e1 := cmpQ_lss (decide_eq_true h1)
  exact walk (code := Tryz.f58.body.getD .skip) [c C1, eb e1] fol Tryz.func58 (by kernel_rfl) (fun xs w => Tryz.call58 xs w) (by kernel_rfl)
 ·rw [if_neg h1]
  have e1 := cmpQ_lss (decide_eq_false h1)
  by_cases h2 : y < a
  ·rw [if_pos h2]
   have e2 := cmpQ_lss (decide_eq_true h2)
   exact walk (code := Tryz.f58.body.getD .skip) [c C1, eb e1, c C2, eb e2] fol Tryz.func58 (by kernel_rfl) (fun xs w => Tryz.call58 xs w) (by kernel_rfl)
  ·rw [if_neg h2]
   have e2 := cmpQ_lss (decide_eq_false h2)
   by_cases h3 : a = x ∧ b = y
   ·have B1 := binO' a b x y (q := true) (by simp [h3])
    by_cases h4 : a = b
    ·have B2 := binR1 a b (b := true) (by simp [h4])
     rw [if_pos ⟨h3.1, h3.2, h4⟩]
     clear h1 h2 h3 h4
     exact walk (code := Tryz.f58.body.getD .skip) [c C1, eb e1, c C2, eb e2, x2 B1, x2 B2] fol Tryz.func58 (by kernel_rfl) (fun xs w => Tryz.call58 xs w) (by kernel_rfl)
    ·have B2 := binR1 a b (b := false) (by simp [h4])
     rw [if_neg (fun h => h4 h.2.2)]
     clear h1 h2 h3 h4
     exact walk (code := Tryz.f58.body.getD .skip) [c C1, eb e1, c C2, eb e2, x2 B1, x2 B2] fol Tryz.func58 (by kernel_rfl) (fun xs w => Tryz.call58 xs w) (by kernel_rfl)
   ·have B1 := binO' a b x y (q := false) (by rw [← Bool.decide_and]; exact decide_eq_false h3)
    rw [if_neg (fun h => h3 ⟨h.1, h.2.1⟩)]
    clear h1 h2 h3
    exact walk (code := Tryz.f58.body.getD .skip) [c C1, eb e1, c C2, eb e2, x2 B1] fol Tryz.func58 (by kernel_rfl) (fun xs w => Tryz.call58 xs w) (by kernel_rfl)
theorem eScale (a b r : Rat) (k : Nat) (hk : k ≤ 500) [HasSz a k] [HasSz b k] [HasSz r k] : Sp Tryz.prog 48 [] [oV a b, rV r] (oV (minQ (minQ (minQ (a * r) (a * r)) (b * r)) (b * r)) (maxQ (maxQ (maxQ (a * r) (a * r)) (b * r)) (b * r))) [] := by
 have M := eMul a b r r k (by omega)
 exact walk (code := Tryz.f48.body.getD .skip) [c (eExact r), c M] fol Tryz.func48 (by kernel_rfl) (fun xs w => Tryz.call48 xs w) (by kernel_rfl)
theorem fDiv (a b x y : Rat) (k : Nat) (hk : k ≤ 100) [HasSz a k] [HasSz b k] [HasSz x k] [HasSz y k] (hx : x ≠ 0) (hy : y ≠ 0) : Sp Tryz.prog 51 [] [oV a b, oV x y] (oV (lsQ (lsQ (lsQ (a / x) (a / y)) (b / x)) (b / y)) (grQ (grQ (grQ (a / x) (a / y)) (b / x)) (b / y))) [] := by
 haveI := hs_div a x k k hx
 haveI := hs_div a y k k hy
 haveI := hs_div b x k k hx
 haveI := hs_div b y k k hy
 have D1 := rDiv a x hx fz fz
 have D2 := rDiv a y hy fz fz
 have D3 := rDiv b x hx fz fz
 have D4 := rDiv b y hy fz fz
 have A := fAround4 (a / x) (a / y) (b / x) (b / y) (k + k) (by omega)
 generalize a / x = q1 at *
 generalize a / y = q2 at *
 generalize b / x = q3 at *
 generalize b / y = q4 at *
 exact walk (code := Tryz.f51.body.getD .skip) [c D1, c D2, c D3, c D4, cr A] fol Tryz.func51 (by kernel_rfl) (fun xs w => Tryz.call51 xs w) (by kernel_rfl)
end Go.Proofs.YtcbbcmiennjfhaaGreatDoor
set_option linter.unusedSimpArgs false
set_option linter.unusedVariables false
namespace Go.Proofs.YtcbbcmiennjfhaaGreatDoor
open Go Go.RowKit Go.Sy
open Vi
theorem p2_cast (n : Nat) : ((p2 n : Int) : Rat) = (((2 ^ n : Nat) : Int) : Rat) := by
 unfold p2; rw [Int.natCast_pow]; rfl
theorem tight (r : Rat) (n : Nat) (h0 : 0 ≤ r) : 0 ≤ gridQ r n ∧ gridQ r n * gridQ r n ≤ r ∧ r ≤ highQ r n * highQ r n ∧ (highQ r n - gridQ r n) * ((p2 n : Int) : Rat) ≤ 1 ∧ 0 ≤ highQ r n - gridQ r n := by
 obtain ⟨h1, h2, h3⟩ := rtI_le r n h0
 have hp := p2_rat n
 have hg := grid_div r n
 rw [Rat.intCast_mul] at h2
 have hpp : ((p2 n * p2 n : Int) : Rat) = ((p2 n : Int) : Rat) * ((p2 n : Int) : Rat) := Rat.intCast_mul ..
 have h4 : ((rtI r n + 1 : Int) : Rat) = ((rtI r n : Int) : Rat) + 1 := by rw [Rat.intCast_add]; rfl
 have hst : Rat.divInt 1 (p2 n) = 1 / ((p2 n : Int) : Rat) := Rat.divInt_eq_div ..
 have hg0 := gridQ_nonneg r n h0
 rw [hpp] at h2 h3
 rw [Rat.intCast_mul, h4] at h3
 unfold highQ
 rw [hst]
 rw [← hg] at hg0 ⊢
 clear hst hg hpp h4 h1
 generalize ((rtI r n : Int) : Rat) = t at *
 generalize ((p2 n : Int) : Rat) = p at *
 have hpi : p * p⁻¹ = 1 := Rat.mul_inv_cancel _ (by grind)
 have ip : 0 < p⁻¹ := Rat.inv_pos.2 hp
 rw [Rat.div_def] at *
 rw [Rat.div_def, Rat.one_mul]
 generalize p⁻¹ = i at *
 have a1 : t * i * (t * i) ≤ r := by
  have := Rat.mul_nonneg (show 0 ≤ r * (p * p) - t * t by grind) (Rat.le_of_lt (Rat.mul_pos ip ip))
  have e : (r * (p * p) - t * t) * (i * i) = r * ((p * i) * (p * i)) - t * i * (t * i) := by grind
  rw [e, hpi] at this
  grind
 have a2 : r ≤ (t * i + i) * (t * i + i) := by
  have := Rat.mul_nonneg (show 0 ≤ (t + 1) * (t + 1) - r * (p * p) by grind) (Rat.le_of_lt (Rat.mul_pos ip ip))
  have e : ((t + 1) * (t + 1) - r * (p * p)) * (i * i) = (t * i + i) * (t * i + i) - r * ((p * i) * (p * i)) := by grind
  rw [e, hpi] at this
  grind
 refine ⟨hg0, a1, ?_, ?_, ?_⟩
 ·split
  ·rename_i h; rw [h]; exact Rat.le_refl
  ·exact a2
 ·split
  ·grind
  ·have e : (t * i + i - t * i) * p = p * i := by grind
   rw [e, hpi]; exact Rat.le_refl
 ·split
  ·grind
  ·grind
def PartOk (n d : Int) : Prop := (-2147483648 ≤ n ∧ n ≤ 2147483647) ∧ (0 ≤ d ∧ d ≤ 65535)
theorem EnclosureTight_s (n d b : Int) (hp : PartOk n d) (hb : 0 ≤ b) (hb2 : b ≤ 255) : Sp Tryz.prog 6 [] [.agg #[.int .i32 n, .int .u16 d], .int .u8 b] (.bool true) [] := by
 obtain ⟨q, sq, _, kq⟩ := vPart n d hp.1 hp.2
 obtain ⟨m, rfl⟩ : ∃ m : Nat, b = (m : Int) := ⟨b.toNat, by omega⟩
 have hm : m % 41 < 41 := Nat.mod_lt _ (by omega)
 have B : Bin .rem 5 (bV m) (bV 41) (bV (m % 41)) := bin_rem8 m 41 (by omega) (by omega)
 obtain ⟨t, ht⟩ : ∃ t, t = m % 41 := ⟨_, rfl⟩
 rw [← ht] at B hm
 have w2 : IntKind.i64.wrap ((t : Nat) : Int) = t := w64 (by omega) (by omega)
 have K := vKnown5
 have G := rSign q
 have N := rNeg q
 have main : ∀ r : Rat, HasSz r 4 → 0 ≤ r → (r = q ∧ (cmpI q.num 0 = 0 ∨ cmpI q.num 0 = 1)) ∨ (r = -q ∧ cmpI q.num 0 = -1) → Sp Tryz.prog 6 [] [.agg #[.int .i32 n, .int .u16 d], .int .u8 (m : Int)] (.bool true) [] := by
  intro r sr r0 hr
  haveI := hs_mono sr (show 4 ≤ 40 by omega)
  obtain ⟨g0, g1, g2, g3, _⟩ := tight r t r0
  have hpw : ((2 ^ t : Nat) : Int) ≤ 2 ^ 40 := by exact_mod_cast Nat.pow_le_pow_right (by omega) (show t ≤ 40 by omega)
  have SH := bin_shl1 t (by omega)
  have hpw2 : (0 : Int) ≤ ((2 ^ t : Nat) : Int) := Int.natCast_nonneg _
  have O := rOf ((2 ^ t : Nat) : Int) 1 (by omega) (by omega) (by omega) (by omega) (by omega)
  rw [divInt1] at O
  rw [p2_cast] at g3
  have sP : HasSz ((((2 ^ t : Nat) : Int)) : Rat) (5 + 1) := int_hs _ 5 (by
   have : (256 : Nat) ^ (5 + 1) = 281474976710656 := by decide
   omega)
  haveI := gridQ_sz r t r0 (by omega)
  haveI := highQ_sz r t r0 (by omega)
  have E := eExact r
  have SQ := eSqrt r r t (by omega) r0 r0
  have W := eWidth (gridQ r t) (highQ r t) fz fz
  have M := pMul (highQ r t - gridQ r t) ((((2 ^ t : Nat) : Int)) : Rat) fz fz
  have S2 := rSign (gridQ r t)
  have M1 := rMul (gridQ r t) (gridQ r t) fz fz
  have M2 := rMul (highQ r t) (highQ r t) fz fz
  have C1 := rCompare (gridQ r t * gridQ r t) r fz fz
  have C2 := rCompare (highQ r t * highQ r t) r fz fz
  have C3 := rCompare ((highQ r t - gridQ r t) * ((((2 ^ t : Nat) : Int)) : Rat)) 1 fz fz
  have e1 := cmpQ_leq (decide_eq_true g1)
  have e2 := cmpQ_geq (decide_eq_true g2)
  have e3 := cmpQ_leq (decide_eq_true g3)
  have e4 : decide (cmpI (gridQ r t).num 0 ≥ 0) = true := by
   rcases sgn_cases (gridQ r t) with ⟨h1, h2⟩ | ⟨h1, h2⟩ | ⟨h1, h2⟩ <;> rw [h1]
   ·exact absurd h2 (Rat.not_lt.2 g0)
   ·rfl
   ·rfl
  have O1 := rOne
  clear g0 g1 g2 g3 hpw hpw2 sP
  generalize (highQ r t - gridQ r t) * ((((2 ^ t : Nat) : Int)) : Rat) = x1 at *
  generalize highQ r t - gridQ r t = x2 at *
  generalize gridQ r t * gridQ r t = x3 at *
  generalize highQ r t * highQ r t = x4 at *
  generalize gridQ r t = x5 at *
  generalize highQ r t = x6 at *
  generalize ((((2 ^ t : Nat) : Int)) : Rat) = x7 at *
  generalize ((2 ^ t : Nat) : Int) = z7 at *
  show Sp Tryz.prog 6 [] [.agg #[.int .i32 n, .int .u16 d], bV m] (.bool true) []
  rcases hr with ⟨rfl, hc | hc⟩ | ⟨rfl, hc⟩
  ·rw [hc] at G
   exact walk (code := Tryz.f6.body.getD .skip) [c kq, c G, L, Sy.x2 B, Go.Sy.e (congrArg (Value.int IntKind.i64) w2), c E, c SQ, c W, Sy.x2 SH, c O, c M, c K, c S2, eb e4, c M1, c C1, eb e1, c M2, c C2, eb e2, c O1, c C3, eb e3] fol Tryz.func6 (by kernel_rfl) (fun xs w => Tryz.call6 xs w) (by kernel_rfl)
  ·rw [hc] at G
   exact walk (code := Tryz.f6.body.getD .skip) [c kq, c G, L, Sy.x2 B, Go.Sy.e (congrArg (Value.int IntKind.i64) w2), c E, c SQ, c W, Sy.x2 SH, c O, c M, c K, c S2, eb e4, c M1, c C1, eb e1, c M2, c C2, eb e2, c O1, c C3, eb e3] fol Tryz.func6 (by kernel_rfl) (fun xs w => Tryz.call6 xs w) (by kernel_rfl)
  ·rw [hc] at G
   generalize -q = nq at *
   exact walk (code := Tryz.f6.body.getD .skip) [c kq, c G, c N, Sy.x2 B, Go.Sy.e (congrArg (Value.int IntKind.i64) w2), c E, c SQ, c W, Sy.x2 SH, c O, c M, c K, c S2, eb e4, c M1, c C1, eb e1, c M2, c C2, eb e2, c O1, c C3, eb e3] fol Tryz.func6 (by kernel_rfl) (fun xs w => Tryz.call6 xs w) (by kernel_rfl)
 rcases sgn_cases q with ⟨h1, h2⟩ | ⟨h1, h2⟩ | ⟨h1, h2⟩
 ·exact main (-q) inferInstance (by grind) (.inr ⟨rfl, h1⟩)
 ·exact main q sq (by grind) (.inl ⟨rfl, .inl h1⟩)
 ·exact main q sq (by grind) (.inl ⟨rfl, .inr h1⟩)
end Go.Proofs.YtcbbcmiennjfhaaGreatDoor
set_option linter.unusedSimpArgs false
set_option linter.unusedVariables false
namespace Go.Proofs.YtcbbcmiennjfhaaGreatDoor
open Go Go.RowKit Go.Sy
open Vi
theorem eInYes (l h r : Rat) (hl : Fits l) (hh : Fits h) (hr : Fits r) (h1 : l ≤ r) (h2 : r ≤ h) : Sp Tryz.prog 53 [] [oV l h, rV r] (.bool true) [] := by
 have := eIn l h r hl hh hr
 rwa [inB_iff.2 ⟨h1, h2⟩] at this
theorem EnclosureIncludes_s (n1 d1 n2 d2 n3 d3 n4 d4 i1 i2 : Int) (hp : PairOk n1 d1 n2 d2) (hq : PairOk n3 d3 n4 d4) (hi : (0 ≤ i1 ∧ i1 ≤ 255) ∧ (0 ≤ i2 ∧ i2 ≤ 255)) : Sp Tryz.prog 8 [] [pairV n1 d1 n2 d2, pairV n3 d3 n4 d4, .agg #[.int .u8 i1, .int .u8 i2]] (.bool true) [] := by
 obtain ⟨l, h, sl, sh, hlh, kp⟩ := vPair n1 d1 n2 d2 hp.1 hp.2.1 hp.2.2.1 hp.2.2.2
 obtain ⟨m, k, sm, sk, hmk, kq⟩ := vPair n3 d3 n4 d4 hq.1 hq.2.1 hq.2.2.1 hq.2.2.2
 obtain ⟨x, sx, x1, x2, kx⟩ := vWithin l h i1 hi.1 hlh
 obtain ⟨y, sy, y1, y2, ky⟩ := vWithin m k i2 hi.2 hmk
 have K := vKnown5
 unfold pairV
 have A1 := eAdd l h m k fz fz fz fz
 have A2 := rAdd x y fz fz
 have A3 := eInYes (l + m) (h + k) (x + y) fz fz fz (by grind) (by grind)
 have B1 := eSub l h m k fz fz fz fz
 have B2 := rSub x y fz fz
 have B3 := eInYes (l + -k) (h + -m) (x - y) fz fz fz (by grind) (by grind)
 have pi := prod_in x1 x2 y1 y2
 unfold mn4 mx4 at pi
 have C1 := eMul l h m k 4 (by omega)
 have C2 := rMul x y fz fz
 have C3 := eInYes _ _ (x * y) fz fz fz pi.1 pi.2
 obtain ⟨q1, q2, q3⟩ := sq_in x1 x2
 have q4 : sqLow l h ≤ x * x := by
  unfold sqLow
  by_cases hz : l ≤ 0 ∧ 0 ≤ h
  ·rw [if_pos hz]; exact q2 hz
  ·rw [if_neg hz]; exact q3 hz
 have D1 := eSquare l h 4 (by omega)
 have D2 := rMul x x fz fz
 have sq : HasSz (sqLow l h) 16 := by
  unfold sqLow
  split
  ·exact hs_mono (inferInstance : HasSz (0 : Rat) 1) (by omega)
  ·exact hs_mono inferInstance (show 4 + 4 + (4 + 4) ≤ 16 by omega)
 have D3 := eInYes _ _ (x * x) fz fz fz q4 q1
 have E1 := eNeg l h
 have E2 := rNeg x
 have E3 := eInYes (-h) (-l) (-x) fz fz fz (by grind) (by grind)
 have ps := prod_in x1 x2 (Rat.le_refl (a := y)) (Rat.le_refl (a := y))
 unfold mn4 mx4 at ps
 haveI sl30 := hs_mono sl (show 4 ≤ 30 by omega)
 haveI sh30 := hs_mono sh (show 4 ≤ 30 by omega)
 have F1 := eScale l h y 30 (by omega)
 have F3 := eInYes _ _ (x * y) fz fz fz ps.1 ps.2
 clear sl30 sh30 pi ps q1 q2 q3 q4
 by_cases hz : m ≤ 0 ∧ 0 ≤ k
 ·have V := eDiv0 l h m k 4 (by omega) hz
  generalize minQ (minQ (minQ (l * m) (l * k)) (h * m)) (h * k) = t1 at *
  generalize maxQ (maxQ (maxQ (l * m) (l * k)) (h * m)) (h * k) = t2 at *
  generalize minQ (minQ (minQ (l * y) (l * y)) (h * y)) (h * y) = t3 at *
  generalize maxQ (maxQ (maxQ (l * y) (l * y)) (h * y)) (h * y) = t4 at *
  generalize sqLow l h = t5 at *
  generalize maxQ (l * l) (h * h) = t6 at *
  generalize x * y = t7 at *
  generalize x * x = t8 at *
  generalize x + y = t9 at *
  generalize x - y = t10 at *
  generalize -x = t11 at *
  generalize l + m = t12 at *
  generalize h + k = t13 at *
  generalize l + -k = t14 at *
  generalize h + -m = t15 at *
  generalize -l = t16 at *
  generalize -h = t17 at *
  exact walk (code := Tryz.f8.body.getD .skip) [c kp, c kq, c kx, c ky, c K, c A1, c A2, c A3, c B1, c B2, c B3, c C1, c C2, c C3, c D1, c D2, c D3, c V, c E1, c E2, c E3, c F1, c C2, c F3] fol Tryz.func8 (by kernel_rfl) (fun xs w => Tryz.call8 xs w) (by kernel_rfl)
 ·obtain ⟨v1, v2, v3, v4, v5⟩ := inv_in y1 y2 hz
  have V := eDiv l h m k 4 (by omega) hz v4 v5
  have W := rDiv x y v3 fz fz
  have pv := prod_in x1 x2 v1 v2
  unfold mn4 mx4 at pv
  have exy : x / y = x * (1 / y) := by rw [Rat.div_def, Rat.div_def, Rat.one_mul]
  rw [← exy] at pv
  haveI := hs_div x y 30 30 v3
  haveI := hs_div 1 m 1 4 v4
  haveI := hs_div 1 k 1 4 v5
  have X := eInYes _ _ (x / y) fz fz fz pv.1 pv.2
  clear v1 v2 exy pv
  generalize minQ (minQ (minQ (l * m) (l * k)) (h * m)) (h * k) = t1 at *
  generalize maxQ (maxQ (maxQ (l * m) (l * k)) (h * m)) (h * k) = t2 at *
  generalize minQ (minQ (minQ (l * y) (l * y)) (h * y)) (h * y) = t3 at *
  generalize maxQ (maxQ (maxQ (l * y) (l * y)) (h * y)) (h * y) = t4 at *
  generalize minQ (minQ (minQ (l * (1 / k)) (l * (1 / m))) (h * (1 / k))) (h * (1 / m)) = t18 at *
  generalize maxQ (maxQ (maxQ (l * (1 / k)) (l * (1 / m))) (h * (1 / k))) (h * (1 / m)) = t19 at *
  generalize x / y = t20 at *
  generalize sqLow l h = t5 at *
  generalize maxQ (l * l) (h * h) = t6 at *
  generalize x * y = t7 at *
  generalize x * x = t8 at *
  generalize x + y = t9 at *
  generalize x - y = t10 at *
  generalize -x = t11 at *
  generalize l + m = t12 at *
  generalize h + k = t13 at *
  generalize l + -k = t14 at *
  generalize h + -m = t15 at *
  generalize -l = t16 at *
  generalize -h = t17 at *
  exact walk (code := Tryz.f8.body.getD .skip) [c kp, c kq, c kx, c ky, c K, c A1, c A2, c A3, c B1, c B2, c B3, c C1, c C2, c C3, c D1, c D2, c D3, c V, c E1, c E2, c E3, c F1, c C2, c F3, c W, c X] fol Tryz.func8 (by kernel_rfl) (fun xs w => Tryz.call8 xs w) (by kernel_rfl)
theorem EnclosureCompares_s (n1 d1 n2 d2 n3 d3 n4 d4 i1 i2 : Int) (hp : PairOk n1 d1 n2 d2) (hq : PairOk n3 d3 n4 d4) (hi : (0 ≤ i1 ∧ i1 ≤ 255) ∧ (0 ≤ i2 ∧ i2 ≤ 255)) : Sp Tryz.prog 9 [] [pairV n1 d1 n2 d2, pairV n3 d3 n4 d4, .agg #[.int .u8 i1, .int .u8 i2]] (.bool true) [] := by
 obtain ⟨l, h, sl, sh, hlh, kp⟩ := vPair n1 d1 n2 d2 hp.1 hp.2.1 hp.2.2.1 hp.2.2.2
 obtain ⟨m, k, sm, sk, hmk, kq⟩ := vPair n3 d3 n4 d4 hq.1 hq.2.1 hq.2.2.1 hq.2.2.2
 obtain ⟨x, sx, x1, x2, kx⟩ := vWithin l h i1 hi.1 hlh
 obtain ⟨y, sy, y1, y2, ky⟩ := vWithin m k i2 hi.2 hmk
 have K := vKnown5
 unfold pairV
 have A := eCompare l h m k fz fz fz fz
 have B := fCompare l h m k fz fz fz fz
 have C := rCompare x y fz fz
 have D := eExact l
 have E := eExact m
 have F := eCompare l l m m fz fz fz fz
 have G := rCompare l m fz fz
 have e1 : cmpO l l m m = cmpQ l m := by
  unfold cmpO cmpQ
  by_cases g1 : l < m
  ·rw [if_pos g1, if_pos g1]
  ·rw [if_neg g1, if_neg g1]
   by_cases g2 : m < l
   ·rw [if_pos g2, if_neg (by grind)]
   ·rw [if_neg g2]
    have g3 : l = m := by grind
    rw [if_pos g3, if_pos ⟨g3, g3, rfl⟩]
 rw [e1] at F
 have e2 : cmpO l h m k = 2 ∨ (cmpO l h m k = cmpQ x y ∧ cmpO l h m k ≠ 2) := by
  unfold cmpO cmpQ
  by_cases g1 : h < m
  ·rw [if_pos g1, if_pos (by grind)]; right; exact ⟨rfl, by decide⟩
  ·rw [if_neg g1]
   by_cases g2 : k < l
   ·rw [if_pos g2, if_neg (by grind), if_neg (by grind)]; right; exact ⟨rfl, by decide⟩
   ·rw [if_neg g2]
    by_cases g3 : l = m ∧ h = k ∧ l = h
    ·rw [if_pos g3, if_neg (by grind), if_pos (by grind)]; right; exact ⟨rfl, by decide⟩
    ·rw [if_neg g3]; left; rfl
 have e3 : decide (cmpO l h m k = cmpO l h m k) = true := decide_eq_true rfl
 have e4 : decide (cmpQ l m = cmpQ l m) = true := decide_eq_true rfl
 clear e1
 rcases e2 with e2 | ⟨e2, e5⟩
 ·rw [e2] at A B
  clear e2 e3
  generalize cmpQ x y = c1 at *
  generalize cmpQ l m = c2 at *
  exact walk (code := Tryz.f9.body.getD .skip) [c kp, c kq, c A, c kx, c ky, c C, c K, c (vLow l h), c (vLow m k), c B, c D, c E, c F, c G, eb e4] fol Tryz.func9 (by kernel_rfl) (fun xs w => Tryz.call9 xs w) (by kernel_rfl)
 ·have e6 : decide (cmpQ x y = cmpQ x y) = true := decide_eq_true rfl
  have e7 : decide (cmpQ x y = 2) = false := decide_eq_false (by rw [← e2]; exact e5)
  rw [e2] at A B
  clear e2 e3 e5
  generalize cmpQ x y = c1 at *
  generalize cmpQ l m = c2 at *
  exact walk (code := Tryz.f9.body.getD .skip) [c kp, c kq, c A, c kx, c ky, c C, c K, c (vLow l h), c (vLow m k), c B, eb e6, eb e7, eb e6, c D, c E, c F, c G, eb e4] fol Tryz.func9 (by kernel_rfl) (fun xs w => Tryz.call9 xs w) (by kernel_rfl)
end Go.Proofs.YtcbbcmiennjfhaaGreatDoor
set_option linter.unusedSimpArgs false
set_option linter.unusedVariables false
namespace Go.Proofs.YtcbbcmiennjfhaaGreatDoor
open Go Go.RowKit Go.Sy
open Vi
theorem EnclosureRoots_c (n1 d1 n2 d2 b : Int) (w : World) (h : PairOk n1 d1 n2 d2) (b1 : -9223372036854775808 ≤ b) (b2 : b ≤ 9223372036854775807) : Calls Tryz.prog 5 #[pairV n1 d1 n2 d2, nV b] w fun e w' => e = .returned (.bool true) ∧ Below w.heap.size w w' := (EnclosureRoots_s n1 d1 n2 d2 b h b1 b2).calls rfl rfl w
theorem EnclosureTight_c (n d b : Int) (w : World) (h : PartOk n d) (b1 : 0 ≤ b) (b2 : b ≤ 255) : Calls Tryz.prog 6 #[.agg #[.int .i32 n, .int .u16 d], .int .u8 b] w fun e w' => e = .returned (.bool true) ∧ Below w.heap.size w w' := (EnclosureTight_s n d b h b1 b2).calls rfl rfl w
theorem EnclosureIncludes_c (n1 d1 n2 d2 n3 d3 n4 d4 i1 i2 : Int) (w : World) (hp : PairOk n1 d1 n2 d2) (hq : PairOk n3 d3 n4 d4) (hi : (0 ≤ i1 ∧ i1 ≤ 255) ∧ (0 ≤ i2 ∧ i2 ≤ 255)) : Calls Tryz.prog 8 #[pairV n1 d1 n2 d2, pairV n3 d3 n4 d4, .agg #[.int .u8 i1, .int .u8 i2]] w fun e w' => e = .returned (.bool true) ∧ Below w.heap.size w w' := (EnclosureIncludes_s n1 d1 n2 d2 n3 d3 n4 d4 i1 i2 hp hq hi).calls rfl rfl w
theorem EnclosureCompares_c (n1 d1 n2 d2 n3 d3 n4 d4 i1 i2 : Int) (w : World) (hp : PairOk n1 d1 n2 d2) (hq : PairOk n3 d3 n4 d4) (hi : (0 ≤ i1 ∧ i1 ≤ 255) ∧ (0 ≤ i2 ∧ i2 ≤ 255)) : Calls Tryz.prog 9 #[pairV n1 d1 n2 d2, pairV n3 d3 n4 d4, .agg #[.int .u8 i1, .int .u8 i2]] w fun e w' => e = .returned (.bool true) ∧ Below w.heap.size w w' := (EnclosureCompares_s n1 d1 n2 d2 n3 d3 n4 d4 i1 i2 hp hq hi).calls rfl rfl w
end Go.Proofs.YtcbbcmiennjfhaaGreatDoor
