import Derived.Test.YthdaimoankaciaaGreatDoorMag
/- No program in sight: fractions (Lean's Rat) as pairs of integers, a denominator of 1 written as 0. -/
namespace Vi
def dn (q : Rat) : Int := if q.den = 1 then 0 else (q.den : Int)
def dd (e : Int) : Int := if e = 0 then 1 else e
theorem dd_dn (q : Rat) : dd (dn q) = (q.den : Int) := by
 have h := q.den_nz
 unfold dd dn
 split <;> split <;> omega
theorem dd_ne (e : Int) : dd e ≠ 0 := by unfold dd; split <;> omega
theorem den_pos (q : Rat) : 0 < (q.den : Int) := by have := q.den_nz; omega
theorem dn_nonneg (q : Rat) : 0 ≤ dn q := by unfold dn; split <;> omega
theorem dn_eq_one (q : Rat) : dn q ≠ 1 := by unfold dn; split <;> omega
theorem rat_ext {p q : Rat} (h1 : p.num = q.num) (h2 : dn p = dn q) : p = q := by
 apply Rat.ext h1
 have := congrArg dd h2
 rw [dd_dn, dd_dn] at this
 omega
theorem dn_inj {p q : Rat} (h : dn p = dn q) : p.den = q.den := by
 have := congrArg dd h
 rw [dd_dn, dd_dn] at this
 omega
theorem rat_beq (p q : Rat) : (p.num == q.num && dn p == dn q) = decide (p = q) := by
 by_cases h : p = q
 ·subst h; simp
 ·have : ¬ (p.num = q.num ∧ dn p = dn q) := fun ⟨h1, h2⟩ => h (rat_ext h1 h2)
  simp only [h, decide_false, Bool.and_eq_false_iff, beq_eq_false_iff_ne]
  by_cases h1 : p.num = q.num
  ·exact .inr fun h2 => this ⟨h1, h2⟩
  ·exact .inl h1
def gg (n d : Int) : Int := (Nat.gcd n.natAbs d.natAbs : Nat)
theorem gg_pos (n d : Int) (hd : d ≠ 0) : 0 < gg n d := by
 unfold gg
 have := Nat.gcd_pos_of_pos_right n.natAbs (show 0 < d.natAbs by omega)
 omega
theorem num_of (n d : Int) (hd : 0 < d) : (Rat.divInt n d).num = n / gg n d := by
 rw [Rat.num_divInt, Int.sign_eq_one_of_pos hd, Int.one_mul]
 unfold gg Int.gcd
 rw [Nat.gcd_comm]
theorem den_of (n d : Int) (hd : 0 < d) : ((Rat.divInt n d).den : Int) = d / gg n d := by
 rw [Rat.den_divInt, if_neg (by omega)]
 unfold gg Int.gcd
 rw [Nat.gcd_comm, Int.natCast_ediv]
 congr 1
 omega
theorem neg_of (n d : Int) : Rat.divInt (-n) (-d) = Rat.divInt n d := Rat.neg_divInt_neg n d
theorem divInt_num (q : Rat) : Rat.divInt q.num (q.den : Int) = q := Rat.num_divInt_den q
def Sz (k : Nat) (q : Rat) : Prop := q.num.natAbs < 256 ^ k ∧ q.den < 256 ^ k
theorem Sz.mono {k m : Nat} {q : Rat} (h : Sz k q) (hkm : k ≤ m) : Sz m q :=
 have := Nat.pow_le_pow_right (show 0 < 256 by omega) hkm
 ⟨Nat.lt_of_lt_of_le h.1 this, Nat.lt_of_lt_of_le h.2 this⟩
theorem Sz.num {k : Nat} {q : Rat} (h : Sz k q) : (mg q.num).size ≤ k := size_mag_le _ k h.1
theorem Sz.den {k : Nat} {q : Rat} (h : Sz k q) : (mg (q.den : Int)).size ≤ k := size_mag_le _ k (by rw [Int.natAbs_natCast]; exact h.2)
theorem Sz.dn {k : Nat} {q : Rat} (h : Sz k q) : (mg (dn q)).size ≤ k := by
 apply size_mag_le
 unfold Vi.dn
 split
 ·exact Nat.pow_pos (by omega)
 ·rw [Int.natAbs_natCast]; exact h.2
theorem Sz.of (n d : Int) (k : Nat) (hd : d ≠ 0) (hn : n.natAbs < 256 ^ k) (hdk : d.natAbs < 256 ^ k) : Sz k (Rat.divInt n d) := by
 have key : ∀ n d : Int, 0 < d → n.natAbs < 256 ^ k → d.natAbs < 256 ^ k → Sz k (Rat.divInt n d) := by
  intro n d hd hn hdk
  have hg := gg_pos n d (by omega)
  constructor
  ·rw [num_of n d hd]
   refine Nat.lt_of_le_of_lt ?_ hn
   have : (n / gg n d).natAbs = n.natAbs / (gg n d).natAbs := by
    have hdv : gg n d ∣ n := by
     unfold gg
     exact Int.ofNat_dvd_left.2 (Nat.gcd_dvd_left _ _)
    exact Int.natAbs_ediv_of_dvd hdv
   rw [this]
   exact Nat.div_le_self _ _
  ·have h1 := den_of n d hd
   have h2 : d / gg n d ≤ d := Int.ediv_le_self _ (by omega)
   omega
 rcases Int.lt_or_lt_of_ne hd with h | h
 ·rw [← neg_of]
  exact key (-n) (-d) (by omega) (by omega) (by omega)
 ·exact key n d h hn hdk
theorem natAbs_mul_lt' {x y : Int} {i j : Nat} (hx : x.natAbs < 256 ^ i) (hy : y.natAbs < 256 ^ j) : (x * y).natAbs < 256 ^ (i + j) := by
 rw [Int.natAbs_mul, Nat.pow_add]
 exact Nat.mul_lt_mul_of_lt_of_lt hx hy
theorem natAbs_add_lt' {x y : Int} {i : Nat} (hx : x.natAbs < 256 ^ i) (hy : y.natAbs < 256 ^ i) : (x + y).natAbs < 256 ^ (i + 1) := by
 have := Int.natAbs_add_le x y
 rw [Nat.pow_succ]; omega
theorem add_of (p q : Rat) : p + q = Rat.divInt (p.num * q.den + q.num * p.den) (p.den * q.den) := by
 rw [Rat.add_def', ← Rat.divInt_ofNat, Int.natCast_mul]
theorem mul_of (p q : Rat) : p * q = Rat.divInt (p.num * q.num) (p.den * q.den) := by
 rw [Rat.mul_def', ← Rat.divInt_ofNat, Int.natCast_mul]
theorem div_of (p q : Rat) : p / q = Rat.divInt (p.num * q.den) (p.den * q.num) := by
 rw [Rat.div_def, Rat.inv_def, ← divInt_num p, Rat.divInt_mul_divInt, divInt_num]
theorem Sz.add {i j : Nat} {p q : Rat} (hp : Sz i p) (hq : Sz j q) : Sz (i + j + 1) (p + q) := by
 rw [add_of]
 have hd : (p.den : Int) * (q.den : Int) ≠ 0 := Int.mul_ne_zero (by have := den_pos p; omega) (by have := den_pos q; omega)
 have h1 : (p.num * q.den).natAbs < 256 ^ (i + j) := natAbs_mul_lt' hp.1 (by simpa using hq.2)
 have h2 : (q.num * p.den).natAbs < 256 ^ (i + j) := by
  have := natAbs_mul_lt' (x := q.num) (y := (p.den : Int)) hq.1 (by simpa using hp.2)
  rwa [Nat.add_comm] at this
 have h3 : ((p.den : Int) * (q.den : Int)).natAbs < 256 ^ (i + j) := natAbs_mul_lt' (by simpa using hp.2) (by simpa using hq.2)
 refine Sz.of _ _ _ hd (natAbs_add_lt' h1 h2) ?_
 rw [Nat.pow_succ]; omega
theorem Sz.mul {i j : Nat} {p q : Rat} (hp : Sz i p) (hq : Sz j q) : Sz (i + j) (p * q) := by
 rw [mul_of]
 have hd : (p.den : Int) * (q.den : Int) ≠ 0 := Int.mul_ne_zero (by have := den_pos p; omega) (by have := den_pos q; omega)
 exact Sz.of _ _ _ hd (natAbs_mul_lt' hp.1 hq.1) (natAbs_mul_lt' (by simpa using hp.2) (by simpa using hq.2))
theorem Sz.neg {i : Nat} {p : Rat} (hp : Sz i p) : Sz i (-p) := ⟨by rw [Rat.neg_num, Int.natAbs_neg]; exact hp.1, by rw [Rat.neg_den]; exact hp.2⟩
theorem Sz.sub {i j : Nat} {p q : Rat} (hp : Sz i p) (hq : Sz j q) : Sz (i + j + 1) (p - q) := by
 rw [Rat.sub_eq_add_neg]; exact hp.add hq.neg
theorem Sz.div {i j : Nat} {p q : Rat} (hp : Sz i p) (hq : Sz j q) (h0 : q.num ≠ 0) : Sz (i + j) (p / q) := by
 rw [div_of]
 have hd : (p.den : Int) * q.num ≠ 0 := Int.mul_ne_zero (by have := den_pos p; omega) h0
 exact Sz.of _ _ _ hd (natAbs_mul_lt' hp.1 (by simpa using hq.2)) (natAbs_mul_lt' (by simpa using hp.2) hq.1)
theorem dn_neg (q : Rat) : dn (-q) = dn q := rfl
end Vi
