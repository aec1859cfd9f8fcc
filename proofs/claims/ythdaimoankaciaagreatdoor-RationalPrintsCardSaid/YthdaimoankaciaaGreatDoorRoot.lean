import Derived.Test.YthdaimoankaciaaGreatDoorMag
/- No program in sight: square roots of natural numbers, Newton's method from above. -/
namespace Vi
theorem sqrt_ex (X : Nat) : ∃ r, r * r ≤ X ∧ X < (r + 1) * (r + 1) := by
 induction X with
 | zero => exact ⟨0, by omega, by omega⟩
 | succ X ih =>
  obtain ⟨r, h1, h2⟩ := ih
  by_cases h : X + 1 < (r + 1) * (r + 1)
  ·exact ⟨r, by omega, h⟩
  ·refine ⟨r + 1, by omega, ?_⟩
   have e1 : (r + 1 + 1) * (r + 1 + 1) = (r + 1) * (r + 1) + 2 * (r + 1) + 1 := by grind
   omega
theorem sqrt_mono {a b X : Nat} (h1 : a * a ≤ X) (h2 : X < (b + 1) * (b + 1)) : a ≤ b := by
 apply Nat.le_of_not_lt
 intro h
 have : (b + 1) * (b + 1) ≤ a * a := Nat.mul_le_mul h h
 omega
theorem sqrt_unique {a b X : Nat} (h1 : a * a ≤ X) (h2 : X < (a + 1) * (a + 1)) (h3 : b * b ≤ X) (h4 : X < (b + 1) * (b + 1)) : a = b :=
 Nat.le_antisymm (sqrt_mono h1 h4) (sqrt_mono h3 h2)
theorem newton_ge {r X x : Nat} (h1 : r * r ≤ X) (h0 : 0 < x) : r ≤ (x + X / x) / 2 := by
 rw [Nat.le_div_iff_mul_le (by omega)]
 by_cases h : r * 2 ≤ x
 ·exact Nat.le_trans h (Nat.le_add_right _ _)
 ·have h2 : (r * 2 - x) ≤ X / x := by
    rw [Nat.le_div_iff_mul_le h0]
    refine Nat.le_trans ?_ h1
    obtain ⟨d, hd⟩ : ∃ d, d = r * 2 - x := ⟨_, rfl⟩
    rw [← hd]
    have h3 : (d : Int) = 2 * r - x := by omega
    have h4 : (d : Int) * x ≤ r * r := by
     rw [h3]
     have : 0 ≤ ((r : Int) - x) * ((r : Int) - x) := by
      rcases Int.le_total 0 ((r : Int) - x) with h5 | h5
      ·exact Int.mul_nonneg h5 h5
      ·exact Int.mul_nonneg_of_nonpos_of_nonpos h5 h5
     grind
    exact_mod_cast h4
  omega
theorem newton_le {X x : Nat} (h0 : 0 < x) (h : x ≤ (x + X / x) / 2) : x * x ≤ X := by
 have h2 : x ≤ X / x := by omega
 exact (Nat.le_div_iff_mul_le h0).1 h2
theorem root_start {r X n : Nat} (h1 : r * r ≤ X) (h2 : X < 2 ^ n) : r < 2 ^ ((n + 1) / 2) := by
 apply Nat.lt_of_not_le
 intro h
 have h3 : 2 ^ ((n + 1) / 2) * 2 ^ ((n + 1) / 2) ≤ r * r := Nat.mul_le_mul h h
 rw [← Nat.pow_add] at h3
 have h4 : (2 : Nat) ^ n ≤ 2 ^ ((n + 1) / 2 + (n + 1) / 2) := Nat.pow_le_pow_right (by omega) (by omega)
 omega
theorem dig_shift (b k : Nat) (hb : 0 < b) (h : b < 256) : dig 256 (b * 256 ^ k) = List.replicate k 0 ++ [b] := by
 induction k with
 | zero =>
  rw [Nat.pow_zero, Nat.mul_one, dig_pos 256 b (by omega) hb, Nat.mod_eq_of_lt h, Nat.div_eq_of_lt h]
  rfl
 | succ k ih =>
  have hp : 0 < b * 256 ^ (k + 1) := Nat.mul_pos hb (Nat.pow_pos (by omega))
  have e : b * 256 ^ (k + 1) = 256 * (b * 256 ^ k) := by rw [Nat.pow_succ]; grind
  rw [dig_pos 256 _ (by omega) hp, e, Nat.mul_mod_right, Nat.mul_div_cancel_left _ (by omega), ih]
  rfl
theorem mag_shift (b k : Nat) (hb : 0 < b) (h : b < 256) : mag (b * 256 ^ k) = ⟨(UInt8.ofNat b :: List.replicate k 0).toArray⟩ := by
 unfold mag
 rw [dig_shift b k hb h]
 congr 2
 simp
theorem two_pow_split (m : Nat) : 2 ^ m = 2 ^ (m % 8) * 256 ^ (m / 8) := by
 rw [show (256 : Nat) = 2 ^ 8 from rfl, ← Nat.pow_mul, ← Nat.pow_add]
 congr 1
 omega
end Vi
