/- Plain laws of long division: the guess of a digit, what is taken away, what is added back. No program in sight. -/
import Derived.Test.YthdaimoankaciaaGreatDoorIntE
set_option linter.unusedVariables false
namespace Go.Proofs.YthdaimoankaciaaGreatDoor
open Go
open Vi
theorem pw (m : Nat) : (4294967296 : Nat) ^ (m + 1) = 4294967296 ^ m * 4294967296 := Nat.pow_succ ..
theorem pw2 (m : Nat) : (4294967296 : Nat) ^ (m + 2) = 4294967296 ^ (m + 1) * 4294967296 := by
 rw [show m + 2 = m + 1 + 1 by omega, pw (m + 1)]
theorem hi_abs (u y p b : Nat) (hp : 0 < p) (hb : 0 < b) (hy : y < p * b) (hu : u < y * b) : u / (p * b) % b * b + u / p % b = u / p := by
 rw [← Nat.div_div_eq_div_mul]
 have h1 : u / p < b * b := by
  rw [Nat.div_lt_iff_lt_mul hp, Nat.mul_comm (b * b), ← Nat.mul_assoc]
  exact Nat.lt_of_lt_of_le hu (Nat.mul_le_mul_right _ (Nat.le_of_lt hy))
 generalize u / p = v at *
 have h2 : v / b < b := (Nat.div_lt_iff_lt_mul hb).2 h1
 rw [Nat.mod_eq_of_lt h2]
 exact Nat.div_add_mod' v b
theorem guess_hi (u y m : Nat) (hy : y < 4294967296 ^ (m + 2)) (hu : u < y * 4294967296) : dg u (m + 2) * 4294967296 + dg u (m + 1) = u / 4294967296 ^ (m + 1) := by
 unfold dg
 rw [pw2] at hy ⊢
 exact hi_abs u y _ 4294967296 (Nat.pow_pos (by omega)) (by omega) hy hu
theorem top_two (y m : Nat) (hy : y < 4294967296 ^ (m + 2)) : y / 4294967296 ^ (m + 1) = dg y (m + 1) := by
 unfold dg
 rw [pw2] at hy
 have := (Nat.div_lt_iff_lt_mul (y := 4294967296) (Nat.pow_pos (n := m + 1) (show 0 < 4294967296 by omega))).2 (by rw [Nat.mul_comm]; exact hy)
 rw [Nat.mod_eq_of_lt this]
theorem small_abs (u y p b : Nat) (hp : 0 < p) (hu : u < y * b) : u / p < y / p * b + b := by
 rw [Nat.div_lt_iff_lt_mul hp]
 have h1 := Nat.lt_mul_div_succ y hp
 have h2 : y * b ≤ p * (y / p + 1) * b := Nat.mul_le_mul_right _ (Nat.le_of_lt h1)
 have e : (y / p * b + b) * p = p * (y / p + 1) * b := by
  rw [← Nat.succ_mul, Nat.mul_right_comm, Nat.mul_comm p]
 omega
theorem guess_small (u y m : Nat) (hy : y < 4294967296 ^ (m + 2)) (hu : u < y * 4294967296) : u / 4294967296 ^ (m + 1) < dg y (m + 1) * 4294967296 + 4294967296 := by
 rw [← top_two y m hy]
 exact small_abs u y _ 4294967296 (Nat.pow_pos (by omega)) hu
theorem guess_start (u y m : Nat) (hy : y < 4294967296 ^ (m + 2)) (h1 : 0 < dg y (m + 1)) : u / y ≤ u / 4294967296 ^ (m + 1) / dg y (m + 1) := by
 rw [Nat.le_div_iff_mul_le h1, Nat.le_div_iff_mul_le (Nat.pow_pos (by omega)), ← top_two y m hy, Nat.mul_assoc]
 have h2 := Nat.div_mul_le_self y (4294967296 ^ (m + 1))
 have h3 := Nat.div_mul_le_self u y
 exact Nat.le_trans (Nat.mul_le_mul_left _ h2) h3
theorem two_digits (z m : Nat) : z / 4294967296 ^ m = dg z m + 4294967296 * (z / 4294967296 ^ (m + 1)) := div_succ z m
theorem guess_step (u y m g r : Nat) (hy : y < 4294967296 ^ (m + 2)) (hy0 : 0 < y) (hu : u < y * 4294967296) (hg : g * dg y (m + 1) + r = u / 4294967296 ^ (m + 1)) (h : 4294967296 ≤ g ∨ r * 4294967296 + dg u m < g * dg y m) : u / y < g := by
 rw [Nat.div_lt_iff_lt_mul hy0]
 rcases h with h | h
 ·have := Nat.mul_le_mul_left y h
  rw [Nat.mul_comm g]; omega
 ·have hp : 0 < 4294967296 ^ m := Nat.pow_pos (by omega)
  have e1 : u / 4294967296 ^ m < g * (y / 4294967296 ^ m) := by
   rw [two_digits u m, two_digits y m, top_two y m hy, ← hg, Nat.mul_add g, Nat.mul_left_comm g]
   generalize g * dg y (m + 1) = a at *
   omega
  have h2 := Nat.lt_mul_div_succ u hp
  have h3 : 4294967296 ^ m * (u / 4294967296 ^ m + 1) ≤ 4294967296 ^ m * (g * (y / 4294967296 ^ m)) := Nat.mul_le_mul_left _ e1
  have h4 : 4294967296 ^ m * (g * (y / 4294967296 ^ m)) ≤ g * y := by
   rw [Nat.mul_left_comm]
   exact Nat.mul_le_mul_left _ (Nat.mul_div_le _ _)
  omega
theorem guess_end (u y m g r : Nat) (hy : y < 4294967296 ^ (m + 2)) (hy1 : 2147483648 ≤ dg y (m + 1)) (hg : g * dg y (m + 1) + r = u / 4294967296 ^ (m + 1)) (hB : g < 4294967296) (h : g * dg y m ≤ r * 4294967296 + dg u m) : g ≤ u / y + 1 := by
 have hp : 0 < 4294967296 ^ m := Nat.pow_pos (by omega)
 cases g with
 | zero => exact Nat.zero_le _
 | succ g =>
  have hy0 : 0 < y := by
   rcases Nat.eq_zero_or_pos y with h0 | h0
   ·subst h0; unfold dg at hy1; simp at hy1
   ·exact h0
  have e1 : (g + 1) * (y / 4294967296 ^ m) ≤ u / 4294967296 ^ m := by
   rw [two_digits u m, two_digits y m, top_two y m hy, ← hg, Nat.mul_add (g + 1), Nat.mul_left_comm (g + 1)]
   generalize (g + 1) * dg y (m + 1) = a at *
   omega
  have h2 := Nat.lt_mul_div_succ y hp
  have h5 : g ≤ y / 4294967296 ^ m := by rw [two_digits y m, top_two y m hy]; omega
  have h3 : g * y ≤ g * (4294967296 ^ m * (y / 4294967296 ^ m + 1)) := Nat.mul_le_mul_left _ (Nat.le_of_lt h2)
  have h4 : g * (y / 4294967296 ^ m + 1) ≤ u / 4294967296 ^ m := by
   rw [Nat.mul_add, Nat.mul_one]
   rw [Nat.add_mul, Nat.one_mul] at e1
   omega
  have h6 : g * y ≤ u := by
   rw [Nat.mul_left_comm] at h3
   have h7 := Nat.mul_le_mul_left (4294967296 ^ m) h4
   have h8 := Nat.mul_div_le u (4294967296 ^ m)
   omega
  have := (Nat.le_div_iff_mul_le hy0).2 h6
  omega
def kT (R V n j : Nat) : Nat := R + 4294967296 ^ (n + 1 + j) - 4294967296 ^ j * V
theorem kT_add (R V n j : Nat) (hV : V ≤ 4294967296 ^ (n + 1)) : kT R V n j + 4294967296 ^ j * V = R + 4294967296 ^ (n + 1 + j) := by
 unfold kT
 have : 4294967296 ^ j * V ≤ 4294967296 ^ j * 4294967296 ^ (n + 1) := Nat.mul_le_mul_left _ hV
 rw [← Nat.pow_add, Nat.add_comm j] at this
 omega
theorem kT_low (R V n j p : Nat) (hV : V ≤ 4294967296 ^ (n + 1)) (hp : p < j) : dg (kT R V n j) p = dg R p := by
 have h : dg (kT R V n j + 4294967296 ^ j * V) p = dg (R + 4294967296 ^ (n + 1 + j)) p := by rw [kT_add R V n j hV]
 rw [dg_add_low _ _ _ _ hp] at h
 rw [h]
 have := dg_add_low R (n + 1 + j) 1 p (by omega)
 rwa [Nat.mul_one] at this
theorem kT_step (R g y n j k : Nat) (hV : g * y ≤ 4294967296 ^ (n + 1)) (hk : k ≤ n) : my (kT R (g * y) n j) g y j k + dg (kT R (g * y) n j) (j + k) + g * dg y k = dg R (j + k) + 4294967296 * my (kT R (g * y) n j) g y j (k + 1) := by
 have h := my_step (kT R (g * y) n j) g y j k
 rw [kT_add R (g * y) n j hV] at h
 have := dg_add_low R (n + 1 + j) 1 (j + k) (by omega)
 rw [Nat.mul_one] at this
 rw [← this]; exact h
def subFn (R T j i : Nat) : Nat → Nat := fun p => if p < j + i then dg T p else dg R p
theorem subFn_at (R T j i : Nat) : subFn R T j i (j + i) = dg R (j + i) := by unfold subFn; rw [if_neg (by omega)]
theorem subFn_succ (R T j i : Nat) : upd (subFn R T j i) (j + i) (dg T (j + i)) = subFn R T j (i + 1) := by
 funext k
 unfold upd subFn
 by_cases h : k = j + i
 ·subst h; rw [if_pos rfl, if_pos (by omega)]
 ·rw [if_neg h]
  by_cases h2 : k < j + i
  ·rw [if_pos h2, if_pos (by omega)]
  ·rw [if_neg h2, if_neg (by omega)]
theorem subFn_low (R V n j : Nat) (hV : V ≤ 4294967296 ^ (n + 1)) : dg R = subFn R (kT R V n j) j 0 := by
 funext p; unfold subFn
 split
 ·exact (kT_low R V n j p hV (by omega)).symm
 ·rfl
theorem dg_mod (x K p : Nat) : dg (x % 4294967296 ^ K) p = if p < K then dg x p else 0 := by
 by_cases h : p < K
 ·rw [if_pos h]
  have h1 := dg_add_low (x % 4294967296 ^ K) K (x / 4294967296 ^ K) p h
  rw [Nat.mod_add_div] at h1
  exact h1.symm
 ·rw [if_neg h]
  exact dg_big _ K p (Nat.mod_lt _ (Nat.pow_pos (by omega))) (by omega)
theorem subFn_top (R T n j : Nat) (hR : R < 4294967296 ^ (j + n + 1)) : subFn R T j (n + 1) = dg (T % 4294967296 ^ (j + n + 1)) := by
 funext p; unfold subFn
 rw [dg_mod]
 by_cases h : p < j + n + 1
 ·rw [if_pos (by omega), if_pos h]
 ·rw [if_neg (by omega), if_neg h, dg_big R _ p hR (by omega)]
theorem kT_last (R g y n j : Nat) (hy : y < 4294967296 ^ n) (hR : R < 4294967296 ^ (j + n + 1)) (hV : g * y ≤ 4294967296 ^ (n + 1)) : my (kT R (g * y) n j) g y j (n + 1) = if R < 4294967296 ^ j * (g * y) then 1 else 0 := by
 have h := kT_add R (g * y) n j hV
 unfold my
 have hyn : y < 4294967296 ^ (n + 1) := Nat.lt_of_lt_of_le hy (Nat.pow_le_pow_right (by omega) (by omega))
 rw [Nat.mod_eq_of_lt hyn, show j + (n + 1) = j + n + 1 by omega]
 rw [show n + 1 + j = j + n + 1 by omega] at h
 have hp : 0 < 4294967296 ^ (j + n + 1) := Nat.pow_pos (by omega)
 generalize 4294967296 ^ (j + n + 1) = M at *
 generalize 4294967296 ^ j * (g * y) = V at *
 generalize kT R (g * y) n j = T at *
 by_cases hlt : R < V
 ·rw [if_pos hlt, Nat.mod_eq_of_lt (by omega), h]
  rw [Nat.add_div_right _ hp, Nat.div_eq_of_lt hR]
 ·rw [if_neg hlt]
  have e : T % M = T - M := by
   rw [Nat.mod_eq_sub_mod (by omega), Nat.mod_eq_of_lt (by omega)]
  rw [e, show T - M + V = R by omega]
  exact Nat.div_eq_of_lt hR
theorem kT_fits (R g y n j : Nat) (hR : R < 4294967296 ^ (j + n + 1)) (hV : g * y ≤ 4294967296 ^ (n + 1)) (h : ¬ R < 4294967296 ^ j * (g * y)) : kT R (g * y) n j % 4294967296 ^ (j + n + 1) = R - 4294967296 ^ j * (g * y) := by
 have h2 := kT_add R (g * y) n j hV
 rw [show n + 1 + j = j + n + 1 by omega] at h2
 generalize 4294967296 ^ (j + n + 1) = M at *
 generalize 4294967296 ^ j * (g * y) = V at *
 generalize kT R (g * y) n j = T at *
 rw [Nat.mod_eq_sub_mod (by omega), Nat.mod_eq_of_lt (by omega)]; omega
theorem kT_over (R g y n j : Nat) (hR : R < 4294967296 ^ (j + n + 1)) (hV : g * y ≤ 4294967296 ^ (n + 1)) (h : R < 4294967296 ^ j * (g * y)) : kT R (g * y) n j < 4294967296 ^ (j + n + 1) := by
 have h2 := kT_add R (g * y) n j hV
 rw [show n + 1 + j = j + n + 1 by omega] at h2
 omega
theorem back_all (R g y n j : Nat) (hR : R < 4294967296 ^ (j + n + 1)) (hV : (g + 1) * y ≤ 4294967296 ^ (n + 1)) (h : R < 4294967296 ^ j * ((g + 1) * y)) (h2 : 4294967296 ^ j * (g * y) ≤ R) : (kT R ((g + 1) * y) n j + 4294967296 ^ j * (1 * y)) % 4294967296 ^ (j + n + 1) = R - 4294967296 ^ j * (g * y) := by
 have h3 := kT_add R ((g + 1) * y) n j hV
 rw [show n + 1 + j = j + n + 1 by omega] at h3
 have e : 4294967296 ^ j * ((g + 1) * y) = 4294967296 ^ j * (g * y) + 4294967296 ^ j * (1 * y) := by rw [← Nat.mul_add, ← Nat.add_mul]
 rw [e] at h3 h
 generalize 4294967296 ^ (j + n + 1) = M at *
 generalize 4294967296 ^ j * (g * y) = V at *
 generalize 4294967296 ^ j * (1 * y) = Y at *
 generalize kT R ((g + 1) * y) n j = T at *
 rw [show T + Y = R - V + M by omega, Nat.add_mod_right, Nat.mod_eq_of_lt (by omega)]
theorem rest_lt (A y j n : Nat) (hy : y < 4294967296 ^ n) (hy0 : 0 < y) : A % (y * 4294967296 ^ (j + 1)) < 4294967296 ^ (j + n + 1) := by
 have h1 : 0 < y * 4294967296 ^ (j + 1) := Nat.mul_pos hy0 (Nat.pow_pos (by omega))
 have h2 := Nat.mod_lt A h1
 have h3 : y * 4294967296 ^ (j + 1) ≤ 4294967296 ^ n * 4294967296 ^ (j + 1) := Nat.mul_le_mul_right _ (Nat.le_of_lt hy)
 rw [← Nat.pow_add, show n + (j + 1) = j + n + 1 by omega] at h3
 omega
theorem rest_u (A y j : Nat) (hy0 : 0 < y) : A % (y * 4294967296 ^ (j + 1)) / 4294967296 ^ j < y * 4294967296 := by
 have h1 : 0 < y * 4294967296 ^ (j + 1) := Nat.mul_pos hy0 (Nat.pow_pos (by omega))
 rw [Nat.div_lt_iff_lt_mul (Nat.pow_pos (by omega)), Nat.mul_assoc, Nat.mul_comm 4294967296, ← Nat.pow_succ]
 exact Nat.mod_lt A h1
theorem rest_q (A y j : Nat) : A % (y * 4294967296 ^ (j + 1)) / 4294967296 ^ j / y = dg (A / y) j := by
 unfold dg
 rw [Nat.pow_succ, ← Nat.mul_assoc, Nat.div_div_eq_div_mul, Nat.mul_comm (4294967296 ^ j) y, Nat.mod_mul_right_div_self, Nat.div_div_eq_div_mul]
theorem rest_next (A y j : Nat) : A % (y * 4294967296 ^ (j + 1)) - 4294967296 ^ j * (dg (A / y) j * y) = A % (y * 4294967296 ^ j) := by
 have h1 : A % (y * 4294967296 ^ (j + 1)) % (y * 4294967296 ^ j) = A % (y * 4294967296 ^ j) := by
  rw [Nat.pow_succ, ← Nat.mul_assoc, Nat.mod_mul_right_mod]
 rw [← rest_q A y j, ← h1, Nat.div_div_eq_div_mul]
 have h2 := Nat.mod_add_div (A % (y * 4294967296 ^ (j + 1))) (y * 4294967296 ^ j)
 have e : 4294967296 ^ j * (A % (y * 4294967296 ^ (j + 1)) / (4294967296 ^ j * y) * y) = y * 4294967296 ^ j * (A % (y * 4294967296 ^ (j + 1)) / (y * 4294967296 ^ j)) := by
  rw [Nat.mul_comm (4294967296 ^ j) y, Nat.mul_comm _ y, Nat.mul_left_comm, Nat.mul_assoc]
 rw [e]; omega
theorem dg_div (R j k : Nat) : dg R (j + k) = dg (R / 4294967296 ^ j) k := by
 unfold dg; rw [Nat.div_div_eq_div_mul, ← Nat.pow_add]
theorem rest_le (A y j : Nat) : 4294967296 ^ j * (dg (A / y) j * y) ≤ A % (y * 4294967296 ^ (j + 1)) := by
 rw [← rest_q A y j, Nat.mul_comm]
 have h1 := Nat.div_mul_le_self (A % (y * 4294967296 ^ (j + 1)) / 4294967296 ^ j) y
 have h2 := Nat.div_mul_le_self (A % (y * 4294967296 ^ (j + 1))) (4294967296 ^ j)
 exact Nat.le_trans (Nat.mul_le_mul_right _ h1) h2
theorem rest_gt (A y j : Nat) (hy0 : 0 < y) : A % (y * 4294967296 ^ (j + 1)) < 4294967296 ^ j * ((dg (A / y) j + 1) * y) := by
 rw [← rest_q A y j, Nat.div_div_eq_div_mul]
 have h := Nat.lt_mul_div_succ (A % (y * 4294967296 ^ (j + 1))) (show 0 < 4294967296 ^ j * y from Nat.mul_pos (Nat.pow_pos (by omega)) hy0)
 generalize A % (y * 4294967296 ^ (j + 1)) = R at *
 generalize R / (4294967296 ^ j * y) = q at *
 generalize 4294967296 ^ j = M at *
 rw [Nat.mul_assoc, Nat.mul_comm y] at h
 exact h
end Go.Proofs.YthdaimoankaciaaGreatDoor
