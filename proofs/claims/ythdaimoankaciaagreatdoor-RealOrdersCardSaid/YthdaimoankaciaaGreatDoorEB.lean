import Derived.Test.YthdaimoankaciaaGreatDoorFz
import Derived.Test.YthdaimoankaciaaGreatDoorEA
/- No program in sight: bounds of sums, products, squares and quotients. -/
set_option linter.unusedSimpArgs false
set_option linter.unusedVariables false
namespace Vi
theorem minQ_le (p q : Rat) : minQ p q ≤ p ∧ minQ p q ≤ q := by unfold minQ; split <;> grind
theorem maxQ_ge (p q : Rat) : p ≤ maxQ p q ∧ q ≤ maxQ p q := by unfold maxQ; split <;> grind
theorem minQ_or (p q : Rat) : minQ p q = p ∨ minQ p q = q := by unfold minQ; split <;> simp
theorem maxQ_or (p q : Rat) : maxQ p q = p ∨ maxQ p q = q := by unfold maxQ; split <;> simp
theorem le_minQ {x p q : Rat} : x ≤ minQ p q ↔ x ≤ p ∧ x ≤ q := by
 constructor
 ·intro h; have := minQ_le p q; grind
 ·intro h; rcases minQ_or p q with e | e <;> rw [e] <;> grind
theorem maxQ_le {x p q : Rat} : maxQ p q ≤ x ↔ p ≤ x ∧ q ≤ x := by
 constructor
 ·intro h; have := maxQ_ge p q; grind
 ·intro h; rcases maxQ_or p q with e | e <;> rw [e] <;> grind
theorem prod_between {l x h y : Rat} (h1 : l ≤ x) (h2 : x ≤ h) : (l * y ≤ x * y ∧ x * y ≤ h * y) ∨ (h * y ≤ x * y ∧ x * y ≤ l * y) := by
 by_cases hy : 0 ≤ y
 ·left
  have a := Rat.mul_nonneg (show 0 ≤ x - l by grind) hy
  have b := Rat.mul_nonneg (show 0 ≤ h - x by grind) hy
  constructor <;> grind
 ·right
  have a := Rat.mul_nonneg (show 0 ≤ x - l by grind) (show 0 ≤ -y by grind)
  have b := Rat.mul_nonneg (show 0 ≤ h - x by grind) (show 0 ≤ -y by grind)
  constructor <;> grind
def mn4 (a b c d : Rat) : Rat := minQ (minQ (minQ a b) c) d
def mx4 (a b c d : Rat) : Rat := maxQ (maxQ (maxQ a b) c) d
theorem mn4_le (a b c d : Rat) : mn4 a b c d ≤ a ∧ mn4 a b c d ≤ b ∧ mn4 a b c d ≤ c ∧ mn4 a b c d ≤ d := by
 unfold mn4
 have h1 := minQ_le (minQ (minQ a b) c) d
 have h2 := minQ_le (minQ a b) c
 have h3 := minQ_le a b
 grind
theorem mx4_ge (a b c d : Rat) : a ≤ mx4 a b c d ∧ b ≤ mx4 a b c d ∧ c ≤ mx4 a b c d ∧ d ≤ mx4 a b c d := by
 unfold mx4
 have h1 := maxQ_ge (maxQ (maxQ a b) c) d
 have h2 := maxQ_ge (maxQ a b) c
 have h3 := maxQ_ge a b
 grind
theorem prod_in {l x h c y d : Rat} (h1 : l ≤ x) (h2 : x ≤ h) (h3 : c ≤ y) (h4 : y ≤ d) : mn4 (l * c) (l * d) (h * c) (h * d) ≤ x * y ∧ x * y ≤ mx4 (l * c) (l * d) (h * c) (h * d) := by
 have a := mn4_le (l * c) (l * d) (h * c) (h * d)
 have b := mx4_ge (l * c) (l * d) (h * c) (h * d)
 have k1 := prod_between (y := y) h1 h2
 have k2 := prod_between (y := l) h3 h4
 have k3 := prod_between (y := h) h3 h4
 constructor <;> grind
theorem sq_in {l x h : Rat} (h1 : l ≤ x) (h2 : x ≤ h) : x * x ≤ maxQ (l * l) (h * h) ∧ ((l ≤ 0 ∧ 0 ≤ h) → 0 ≤ x * x) ∧ (¬ (l ≤ 0 ∧ 0 ≤ h) → minQ (l * l) (h * h) ≤ x * x) := by
 have a := maxQ_ge (l * l) (h * h)
 have b := minQ_le (l * l) (h * h)
 refine ⟨?_, fun _ => ?_, fun hn => ?_⟩
 ·by_cases hx : 0 ≤ x
  ·have := Rat.mul_nonneg (show 0 ≤ h - x by grind) (show 0 ≤ h + x by grind)
   grind
  ·have := Rat.mul_nonneg (show 0 ≤ x - l by grind) (show 0 ≤ -(l + x) by grind)
   grind
 ·by_cases hx : 0 ≤ x
  ·exact Rat.mul_nonneg hx hx
  ·have := Rat.mul_nonneg (show 0 ≤ -x by grind) (show 0 ≤ -x by grind)
   grind
 ·by_cases hl : 0 ≤ l
  ·have := Rat.mul_nonneg (show 0 ≤ x - l by grind) (show 0 ≤ x + l by grind)
   grind
  ·have := Rat.mul_nonneg (show 0 ≤ h - x by grind) (show 0 ≤ -(x + h) by grind)
   grind
theorem inv_in {c y d : Rat} (h3 : c ≤ y) (h4 : y ≤ d) (hn : ¬ (c ≤ 0 ∧ 0 ≤ d)) : 1 / d ≤ 1 / y ∧ 1 / y ≤ 1 / c ∧ y ≠ 0 ∧ c ≠ 0 ∧ d ≠ 0 := by
 have key : ∀ a b : Rat, 0 < a → a ≤ b → 1 / b ≤ 1 / a := by
  intro a b ha hab
  have hb : 0 < b := by grind
  rw [Rat.div_def, Rat.div_def, Rat.one_mul, Rat.one_mul]
  have ia := Rat.inv_pos.2 ha
  have ib := Rat.inv_pos.2 hb
  have e1 := Rat.mul_inv_cancel a (by grind)
  have e2 := Rat.mul_inv_cancel b (by grind)
  have := Rat.mul_nonneg (show 0 ≤ b - a by grind) (Rat.le_of_lt (Rat.mul_pos ia ib))
  generalize a⁻¹ = u at *
  generalize b⁻¹ = v at *
  rw [show (b - a) * (u * v) = (b * v) * u - (a * u) * v by grind, e1, e2] at this
  grind
 have nkey : ∀ a : Rat, 1 / (-a) = -(1 / a) := by
  intro a
  rw [Rat.div_def, Rat.div_def, Rat.one_mul, Rat.one_mul]
  by_cases h0 : a = 0
  ·subst h0; decide +kernel
  ·grind
 by_cases hc : 0 < c
 ·exact ⟨key y d (by grind) h4, key c y hc h3, by grind, by grind, by grind⟩
 ·have hd : d < 0 := by grind
  have a1 := key (-d) (-y) (by grind) (by grind)
  have a2 := key (-y) (-c) (by grind) (by grind)
  rw [nkey, nkey] at a1 a2
  exact ⟨by grind, by grind, by grind, by grind, by grind⟩
end Vi
set_option linter.unusedSimpArgs false
set_option linter.unusedVariables false
namespace Go.Proofs.YthdaimoankaciaaGreatDoor
open Go Go.RowKit Go.Sy
open Vi
theorem bin_shl1 (n : Nat) (hn : n ≤ 62) : Bin .shl 3 (nV 1) (nV n) (nV ((2 ^ n : Nat) : Int)) := by
 intro ox oy w
 have h1 : ¬ ((n : Int) < 0) := by omega
 have h2 : (n : Int) < 64 := by omega
 have h3 : ((2 ^ n : Nat) : Int) ≤ ((2 ^ 62 : Nat) : Int) := by exact_mod_cast Nat.pow_le_pow_right (by omega) hn
 rw [Int.natCast_pow] at h3
 have h4 : (0 : Int) < 2 ^ n := Int.pow_pos (by omega)
 have e2 : (((2 ^ 62 : Nat) : Int)) = 4611686018427387904 := by decide
 rw [e2] at h3
 have h3 : (2 : Int) ^ n ≤ 4611686018427387904 := h3
 simp [go_sem, nV]
 exact w64 (by omega) (by omega)
theorem half_eq : Rat.divInt 1 2 = 1 / 2 := by decide +kernel
def inB (l h r : Rat) : Bool := decide (l ≤ r) && decide (r ≤ h)
theorem inB_iff {l h r : Rat} : inB l h r = true ↔ l ≤ r ∧ r ≤ h := by unfold inB; simp
def cmpO (a b x y : Rat) : Int := if b < x then -1 else if y < a then 1 else if a = x ∧ b = y ∧ a = b then 0 else 2
end Go.Proofs.YthdaimoankaciaaGreatDoor
set_option linter.unusedSimpArgs false
set_option linter.unusedVariables false
namespace Go.Proofs.YthdaimoankaciaaGreatDoor
open Go Go.RowKit Go.Sy
open Vi
theorem p2_cast (n : Nat) : ((p2 n : Int) : Rat) = (((2 ^ n : Nat) : Int) : Rat) := by
 unfold p2; rw [Int.natCast_pow]; rfl
theorem tight (r : Rat) (n : Nat) (h0 : 0 ≤ r) : 0 ≤ gridQ r n ∧ gridQ r n * gridQ r n ≤ r ∧ r ≤ highQ r n * highQ r n ∧ (highQ r n - gridQ r n) * ((p2 n : Int) : Rat) ≤ 1 ∧ 0 ≤ highQ r n - gridQ r n := by
 obtain ⟨h1, h2, h3⟩ := rtI_le r n h0
 have hp := p2_rat n
 have hg := grid_div r n
 rw [Rat.intCast_mul] at h2
 have hpp : ((p2 n * p2 n : Int) : Rat) = ((p2 n : Int) : Rat) * ((p2 n : Int) : Rat) := Rat.intCast_mul ..
 have h4 : ((rtI r n + 1 : Int) : Rat) = ((rtI r n : Int) : Rat) + 1 := by rw [Rat.intCast_add]; rfl
 have hst : Rat.divInt 1 (p2 n) = 1 / ((p2 n : Int) : Rat) := Rat.divInt_eq_div ..
 have hg0 := gridQ_nonneg r n h0
 rw [hpp] at h2 h3
 rw [Rat.intCast_mul, h4] at h3
 unfold highQ
 rw [hst]
 rw [← hg] at hg0 ⊢
 clear hst hg hpp h4 h1
 generalize ((rtI r n : Int) : Rat) = t at *
 generalize ((p2 n : Int) : Rat) = p at *
 have hpi : p * p⁻¹ = 1 := Rat.mul_inv_cancel _ (by grind)
 have ip : 0 < p⁻¹ := Rat.inv_pos.2 hp
 rw [Rat.div_def] at *
 rw [Rat.div_def, Rat.one_mul]
 generalize p⁻¹ = i at *
 have a1 : t * i * (t * i) ≤ r := by
  have := Rat.mul_nonneg (show 0 ≤ r * (p * p) - t * t by grind) (Rat.le_of_lt (Rat.mul_pos ip ip))
  have e : (r * (p * p) - t * t) * (i * i) = r * ((p * i) * (p * i)) - t * i * (t * i) := by grind
  rw [e, hpi] at this
  grind
 have a2 : r ≤ (t * i + i) * (t * i + i) := by
  have := Rat.mul_nonneg (show 0 ≤ (t + 1) * (t + 1) - r * (p * p) by grind) (Rat.le_of_lt (Rat.mul_pos ip ip))
  have e : ((t + 1) * (t + 1) - r * (p * p)) * (i * i) = (t * i + i) * (t * i + i) - r * ((p * i) * (p * i)) := by grind
  rw [e, hpi] at this
  grind
 refine ⟨hg0, a1, ?_, ?_, ?_⟩
 ·split
  ·rename_i h; rw [h]; exact Rat.le_refl
  ·exact a2
 ·split
  ·grind
  ·have e : (t * i + i - t * i) * p = p * i := by grind
   rw [e, hpi]; exact Rat.le_refl
 ·split
  ·grind
  ·grind
def PartOk (n d : Int) : Prop := (-2147483648 ≤ n ∧ n ≤ 2147483647) ∧ (0 ≤ d ∧ d ≤ 65535)
end Go.Proofs.YthdaimoankaciaaGreatDoor
set_option linter.unusedSimpArgs false
set_option linter.unusedVariables false
namespace Go.Proofs.YthdaimoankaciaaGreatDoor
open Go Go.RowKit Go.Sy
open Vi
end Go.Proofs.YthdaimoankaciaaGreatDoor
set_option linter.unusedSimpArgs false
set_option linter.unusedVariables false
namespace Go.Proofs.YthdaimoankaciaaGreatDoor
open Go Go.RowKit Go.Sy
open Vi
end Go.Proofs.YthdaimoankaciaaGreatDoor
