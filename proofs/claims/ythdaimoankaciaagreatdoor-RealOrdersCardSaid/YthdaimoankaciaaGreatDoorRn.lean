import Derived.Test.YthdaimoankaciaaGreatDoorRl
/- No program in sight: whole parts of numbers with a root. -/
set_option linter.unusedSimpArgs false
set_option linter.unusedVariables false
namespace Vi
open RR
namespace RR
theorem sq_lt {u v : RR} (hu : 0 ≤ u) (hv : 0 ≤ v) (h : u * u < v * v) : u < v := by
 have hu := hu
 rw [← not_le]
 intro hc
 refine absurd h (not_lt.2 (le_of_nonneg ((u - v) * (u + v)) (mul_nonneg (sub_nonneg.2 hc) (add_nonneg hu hv)) (ring [u, v] (by decide +kernel))))
theorem sq_le {u v : RR} (hu : 0 ≤ u) (hv : 0 ≤ v) (h : u * u ≤ v * v) : u ≤ v := by
 rw [← not_lt]
 intro hc
 have h1 := sub_pos.2 hc
 have h2 : 0 < u + v := lt_of_lt_of_le (lt_of_le_of_lt hv hc) (le_of_nonneg v hv (ring [u, v] (by decide +kernel)))
 exact absurd h (not_le.2 (lt_of_pos ((u - v) * (u + v)) (mul_pos h1 h2) (ring [u, v] (by decide +kernel))))
theorem mul_lt_iff {d u v : RR} (hd : 0 < d) : d * u < d * v ↔ u < v := by
 rw [← sub_pos, ← sub_pos (x := u), ring (x := d * v - d * u) (y := d * (v - u)) [d, u, v] (by decide +kernel)]
 constructor
 ·intro h
  rcases tri (v - u) 0 with g | g | g
  ·exact absurd h (le_of_lt (mul_neg hd g))
  ·rw [g, ring (x := d * 0) (y := 0) [d] (by decide +kernel)] at h; exact absurd h (lt_irrefl 0)
  ·exact g
 ·exact mul_pos hd
theorem mul_le_iff {d u v : RR} (hd : 0 < d) : d * u ≤ d * v ↔ u ≤ v := by
 rw [← not_lt, ← not_lt, mul_lt_iff hd]
def IsFl (v : RR) (n : Int) : Prop := ofRat n ≤ v ∧ v < ofRat ((n + 1 : Int) : Rat)
theorem IsFl.unique {v : RR} {m n : Int} (h1 : IsFl v m) (h2 : IsFl v n) : m = n := by
 have a := rat_lt.1 (lt_of_le_of_lt h1.1 h2.2)
 have b := rat_lt.1 (lt_of_le_of_lt h2.1 h1.2)
 have a : m < n + 1 := by exact_mod_cast a
 have b : n < m + 1 := by exact_mod_cast b
 omega
end RR
theorem rat_mul_den (p : Rat) : p * (p.den : Rat) = (p.num : Rat) := by
 have h := Rat.num_divInt_den p
 rw [Rat.divInt_eq_div] at h
 have hd : ((p.den : Int) : Rat) ≠ 0 := by have := p.den_nz; exact_mod_cast this
 have e : ((p.den : Int) : Rat) = (p.den : Rat) := rfl
 rw [e] at h hd
 generalize (p.den : Rat) = d at *
 generalize (p.num : Rat) = n at *
 rw [← h, Rat.div_def, Rat.mul_assoc, Rat.inv_mul_cancel _ hd, Rat.mul_one]
theorem isq_real (X r : Nat) (h1 : r * r ≤ X) (h2 : X < (r + 1) * (r + 1)) : ofRat (r : Rat) ≤ RR.sqrt (X : Rat) ∧ RR.sqrt (X : Rat) < ofRat ((r : Rat) + 1) := by
 have hX : (0 : Rat) ≤ (X : Rat) := by exact_mod_cast Nat.zero_le X
 have hr : (0 : Rat) ≤ (r : Rat) := by exact_mod_cast Nat.zero_le r
 constructor
 ·refine sq_le (rat_le.2 hr) (sqrt_nonneg _) ?_
  rw [sqrt_sq _ hX, ← rat_mul, rat_le]
  exact_mod_cast h1
 ·refine sq_lt (sqrt_nonneg _) (rat_le.2 (by grind)) ?_
  rw [sqrt_sq _ hX, ← rat_mul, rat_lt]
  exact_mod_cast h2
namespace Rl
noncomputable def topI (isq : Nat → Nat) (x : Rl) : Int :=
 if x.neg then x.p.num * x.r.den - ((isq ((x.p.den * x.p.den : Int) * (x.r.num * x.r.den)).toNat : Nat) + 1 : Int) else x.p.num * x.r.den + (isq ((x.p.den * x.p.den : Int) * (x.r.num * x.r.den)).toNat : Nat)
noncomputable def flI (isq : Nat → Nat) (x : Rl) : Int := topI isq x / (x.p.den * x.r.den)
theorem flI_ok (isq : Nat → Nat) (hq : ∀ X, isq X * isq X ≤ X ∧ X < (isq X + 1) * (isq X + 1)) (x : Rl) (hx : x.Ok) : IsFl x.val (flI isq x) := by
 have hd : (0 : Int) < x.p.den := by have := x.p.den_nz; omega
 have hb : (0 : Int) < x.r.den := by have := x.r.den_nz; omega
 have hr := hx.nonneg
 have ha : 0 ≤ x.r.num := Rat.num_nonneg.2 hr
 obtain ⟨D, hD⟩ : ∃ D : Int, D = x.p.den * x.r.den := ⟨_, rfl⟩
 have hD0 : 0 < D := by rw [hD]; exact Int.mul_pos hd hb
 obtain ⟨X, hX⟩ : ∃ X : Nat, X = ((x.p.den * x.p.den : Int) * (x.r.num * x.r.den)).toNat := ⟨_, rfl⟩
 have hXi : (X : Int) = (x.p.den * x.p.den : Int) * (x.r.num * x.r.den) := by
  rw [hX]; exact Int.toNat_of_nonneg (Int.mul_nonneg (Int.le_of_lt (Int.mul_pos hd hd)) (Int.mul_nonneg ha (Int.le_of_lt hb)))
 obtain ⟨g1, g2⟩ := hq X
 obtain ⟨r, hrt⟩ : ∃ r, r = isq X := ⟨_, rfl⟩
 rw [← hrt] at g1 g2
 obtain ⟨w1, w2⟩ := isq_real X r g1 g2
 have hpe : x.p * (x.p.den : Rat) = (x.p.num : Rat) := rat_mul_den x.p
 have hre : x.r * (x.r.den : Rat) = (x.r.num : Rat) := rat_mul_den x.r
 have hDr : ((D : Int) : Rat) = (x.p.den : Rat) * (x.r.den : Rat) := by rw [hD]; push_cast; rfl
 have hXr : (X : Rat) = ((x.p.den : Rat) * (x.r.den : Rat)) * ((x.p.den : Rat) * (x.r.den : Rat)) * x.r := by
  have : ((X : Int) : Rat) = ((x.p.den * x.p.den : Int) * (x.r.num * x.r.den) : Int) := by rw [hXi]
  have e2 : ((X : Int) : Rat) = (X : Rat) := rfl
  rw [← e2, this]
  push_cast
  rw [← hre]
  grind
 have hDq : (0 : Rat) < ((D : Int) : Rat) := by exact_mod_cast hD0
 have hW : RR.sqrt (X : Rat) = ofRat ((D : Int) : Rat) * sqrt x.r := by
  rw [hXr, ← hDr, RR.sqrt_mul (Rat.mul_nonneg (Rat.le_of_lt hDq) (Rat.le_of_lt hDq)) hr, RR.sqrt_sqr (Rat.le_of_lt hDq)]
 have hN : ofRat ((D : Int) : Rat) * ofRat x.p = ofRat ((x.p.num * x.r.den : Int) : Rat) := by
  rw [← rat_mul, hDr]
  congr 1
  push_cast
  rw [← hpe]
  grind
 have hDv : ofRat ((D : Int) : Rat) * x.val = ofRat ((x.p.num * x.r.den : Int) : Rat) + ofRat x.s * RR.sqrt (X : Rat) := by
  unfold val
  rw [hW, ← hN]
  exact ring [((D : Int) : Rat), x.p, x.s, sqrt x.r] (by decide +kernel)
 have key : ofRat ((topI isq x : Int) : Rat) ≤ ofRat ((D : Int) : Rat) * x.val ∧ ofRat ((D : Int) : Rat) * x.val < ofRat ((topI isq x + 1 : Int) : Rat) := by
  rw [hDv]
  unfold topI
  rw [← hX, ← hrt]
  rcases s_cases x with ⟨n1, n2⟩ | ⟨n1, n2⟩
  ·rw [n1, n2, if_pos rfl]
   have hstrict : ofRat (r : Rat) < RR.sqrt (X : Rat) := by
    rcases lt_or_eq w1 with h | h
    ·exact h
    ·exfalso
     rcases hx with ⟨_, h2⟩ | ⟨h1, h2⟩
     ·rw [n1] at h2; cases h2
     ·refine h2 ((r : Rat) * ((D : Int) : Rat)⁻¹) ?_
      have h3 := sqrt_sq (X : Rat) (by exact_mod_cast Nat.zero_le X)
      rw [← h, ← rat_mul] at h3
      have h4 := rat_inj h3
      rw [hXr, ← hDr] at h4
      have e1 : ((D : Int) : Rat) * ((D : Int) : Rat)⁻¹ = 1 := Rat.mul_inv_cancel _ (by grind)
      generalize ((D : Int) : Rat)⁻¹ = i at *
      generalize ((D : Int) : Rat) = q at *
      generalize (r : Rat) = z at *
      have : z * i * (z * i) = (z * z) * (i * i) := by grind
      rw [this, h4]
      have : q * q * x.r * (i * i) = (q * i) * (q * i) * x.r := by grind
      rw [this, e1]; grind
   constructor
   ·refine le_of_lt (lt_of_pos (ofRat ((r : Rat) + 1) - RR.sqrt (X : Rat)) (sub_pos.2 w2) ?_)
    have e : ((x.p.num * x.r.den - ((r : Int) + 1) : Int) : Rat) = ((x.p.num * x.r.den : Int) : Rat) - ((r : Rat) + 1) := by push_cast; rfl
    rw [e]
    generalize ((x.p.num * x.r.den : Int) : Rat) = y1
    generalize RR.sqrt (X : Rat) = y2
    generalize (r : Rat) = y3
    exact ring [y1, y3, y2] (by decide +kernel)
   ·refine lt_of_pos (RR.sqrt (X : Rat) - ofRat (r : Rat)) (sub_pos.2 hstrict) ?_
    have e : ((x.p.num * x.r.den - ((r : Int) + 1) + 1 : Int) : Rat) = ((x.p.num * x.r.den : Int) : Rat) - (r : Rat) := by push_cast; grind
    rw [e]
    generalize ((x.p.num * x.r.den : Int) : Rat) = y1
    generalize RR.sqrt (X : Rat) = y2
    generalize (r : Rat) = y3
    exact ring [y1, y3, y2] (by decide +kernel)
  ·rw [n1, n2, if_neg (by simp)]
   constructor
   ·refine le_of_nonneg (RR.sqrt (X : Rat) - ofRat (r : Rat)) (sub_nonneg.2 w1) ?_
    have e : ((x.p.num * x.r.den + (r : Int) : Int) : Rat) = ((x.p.num * x.r.den : Int) : Rat) + (r : Rat) := by push_cast; rfl
    rw [e]
    generalize ((x.p.num * x.r.den : Int) : Rat) = y1
    generalize RR.sqrt (X : Rat) = y2
    generalize (r : Rat) = y3
    exact ring [y1, y3, y2] (by decide +kernel)
   ·refine lt_of_pos (ofRat ((r : Rat) + 1) - RR.sqrt (X : Rat)) (sub_pos.2 w2) ?_
    have e : ((x.p.num * x.r.den + (r : Int) + 1 : Int) : Rat) = ((x.p.num * x.r.den : Int) : Rat) + ((r : Rat) + 1) := by push_cast; grind
    rw [e]
    generalize ((x.p.num * x.r.den : Int) : Rat) = y1
    generalize RR.sqrt (X : Rat) = y2
    generalize (r : Rat) = y3
    exact ring [y1, y3, y2] (by decide +kernel)
 have hDR : 0 < ofRat ((D : Int) : Rat) := rat_lt.2 hDq
 unfold flI
 rw [← hD]
 generalize topI isq x = t at *
 have d1 := Int.mul_ediv_add_emod t D
 have d2 := Int.emod_nonneg t (show D ≠ 0 by omega)
 have d3 := Int.emod_lt_of_pos t hD0
 generalize t / D = q at *
 constructor
 ·refine (mul_le_iff hDR).1 (le_trans ?_ key.1)
  rw [← rat_mul, rat_le]
  have : D * q ≤ t := by omega
  exact_mod_cast this
 ·refine (mul_lt_iff hDR).1 (lt_of_lt_of_le key.2 ?_)
  rw [← rat_mul, rat_le]
  have : t + 1 ≤ D * (q + 1) := by rw [Int.mul_add, Int.mul_one]; omega
  exact_mod_cast this
end Rl
end Vi
namespace Vi
open RR
def Rl.ngR (x : Rl) : Rl := ⟨-x.p, x.r, !decide (x.r = 0) && !x.neg⟩
def Rl.scR (x : Rl) (q : Rat) : Rl := ⟨x.p * q, q * q * x.r, !decide (q * q * x.r = 0) && (x.neg != decide (q < 0))⟩
namespace Rl
theorem ngR_ok {x : Rl} (h : x.Ok) : x.ngR.Ok := by
 rcases h with ⟨h1, h2⟩ | ⟨h1, h2⟩
 ·exact .inl ⟨h1, by unfold ngR; simp [h1]⟩
 ·exact .inr ⟨h1, h2⟩
theorem ngR_val {x : Rl} (h : x.Ok) : x.ngR.val = -x.val := by
 rcases h with ⟨h1, h2⟩ | ⟨h1, h2⟩
 ·unfold val
  show ofRat (-x.p) + ofRat x.ngR.s * sqrt x.r = _
  rw [h1, sqrt_zero]
  exact ring [x.p, x.ngR.s, x.s] (by decide +kernel)
 ·have h3 : ¬ x.r = 0 := by grind
  have h4 : ofRat x.ngR.s = -ofRat x.s := by
   unfold ngR s
   rw [decide_eq_false h3]
   cases x.neg <;> simp [← rat_neg]
  unfold val
  rw [h4]
  show ofRat (-x.p) + -ofRat x.s * sqrt x.r = _
  exact ring [x.p, x.s, sqrt x.r] (by decide +kernel)
theorem scR_ok {x : Rl} (h : x.Ok) (q : Rat) : (x.scR q).Ok := by
 by_cases h0 : q * q * x.r = 0
 ·left
  unfold scR
  exact ⟨h0, by simp [h0]⟩
 ·right
  have hr := h.nonneg
  have hq : q ≠ 0 := fun e => h0 (by rw [e]; grind)
  have hr0 : x.r ≠ 0 := fun e => h0 (by rw [e]; grind)
  have hqq : 0 < q * q := by
   rcases sgQ_cases q with ⟨_, g⟩ | ⟨_, g⟩ | ⟨_, g⟩
   ·have := Rat.mul_pos (a := -q) (b := -q) (by grind) (by grind); grind
   ·exact absurd g hq
   ·exact Rat.mul_pos g g
  refine ⟨Rat.mul_pos hqq (by grind), fun z hz => ?_⟩
  rcases h with ⟨g, _⟩ | ⟨_, g⟩
  ·exact hr0 g
  ·refine g (z * q⁻¹) ?_
   have e1 : q * q⁻¹ = 1 := Rat.mul_inv_cancel _ hq
   have hz : z * z = q * q * x.r := hz
   have : z * q⁻¹ * (z * q⁻¹) = (z * z) * (q⁻¹ * q⁻¹) := by grind
   rw [this, hz]
   have : q * q * x.r * (q⁻¹ * q⁻¹) = (q * q⁻¹) * (q * q⁻¹) * x.r := by grind
   rw [this, e1]; grind
theorem scR_val {x : Rl} (h : x.Ok) (q : Rat) : (x.scR q).val = ofRat q * x.val := by
 have hr := h.nonneg
 by_cases h0 : q * q * x.r = 0
 ·have h1 : ofRat q * sqrt x.r = 0 := by
    rcases Rat.mul_eq_zero.1 h0 with g | g
    ·have : q = 0 := by rcases Rat.mul_eq_zero.1 g with g | g <;> exact g
     rw [this]; exact ring [sqrt x.r] (by decide +kernel)
    ·rw [g, sqrt_zero]; exact ring [q] (by decide +kernel)
  unfold val
  show ofRat (x.p * q) + ofRat (x.scR q).s * sqrt (q * q * x.r) = _
  rw [h0, sqrt_zero]
  exact ring1 [x.p, q, (x.scR q).s, x.s, sqrt x.r] h1 (-ofRat x.s) (by decide +kernel)
 ·have hs : sqrt (q * q * x.r) * ofRat (x.scR q).s = ofRat q * ofRat x.s * sqrt x.r := by
    by_cases hq : q < 0
    ·have e1 : sqrt (q * q * x.r) = ofRat (-q) * sqrt x.r := by
       rw [show q * q * x.r = (-q * -q) * x.r by grind, RR.sqrt_mul (Rat.mul_nonneg (by grind) (by grind)) hr, RR.sqrt_sqr (by grind)]
     have e2 : (x.scR q).s = -x.s := by
      unfold s scR
      rw [decide_eq_false h0, decide_eq_true hq]
      cases x.neg <;> simp
     rw [e1, e2]
     exact ring [q, x.s, sqrt x.r] (by decide +kernel)
    ·have e1 : sqrt (q * q * x.r) = ofRat q * sqrt x.r := by
       rw [RR.sqrt_mul (Rat.mul_nonneg (by grind) (by grind)) hr, RR.sqrt_sqr (by grind)]
     have e2 : (x.scR q).s = x.s := by
      unfold s scR
      rw [decide_eq_false h0, decide_eq_false hq]
      cases x.neg <;> simp
     rw [e1, e2]
     exact ring [q, x.s, sqrt x.r] (by decide +kernel)
  unfold val
  show ofRat (x.p * q) + ofRat (x.scR q).s * sqrt (q * q * x.r) = _
  exact ring1 [x.p, q, (x.scR q).s, x.s, sqrt x.r, sqrt (q * q * x.r)] hs 1 (by decide +kernel)
theorem shift_ok {x : Rl} (h : x.Ok) (q : Rat) : (⟨x.p + q, x.r, x.neg⟩ : Rl).Ok := h
theorem shift_val (x : Rl) (q : Rat) : (⟨x.p + q, x.r, x.neg⟩ : Rl).val = x.val + ofRat q := by
 unfold val s
 exact ring [x.p, q, ofRat (if x.neg = true then (-1 : Rat) else 1), sqrt x.r] (by decide +kernel)
theorem irr {x : Rl} (h : x.Ok) (h0 : x.r ≠ 0) (q : Rat) : x.val ≠ ofRat q := by
 intro e
 have := inj h (rat_ok q) (by rw [e, rat_val])
 rw [this] at h0
 exact h0 rfl
theorem cmp_rat (x : Rl) (q : Rat) : cmp x (rat q) = sgR (x.val - ofRat q) := by unfold cmp; rw [rat_val]
end Rl
theorem RR.IsFl.neg_irr {v : RR} {m n : Int} (h1 : IsFl v m) (h2 : IsFl (-v) n) (hi : v ≠ ofRat m) : -n = m + 1 := by
 have a : ofRat (m : Rat) < v := by
  rcases lt_or_eq h1.1 with g | g
  ·exact g
  ·exact absurd g.symm hi
 have h3 : IsFl (-v) (-(m + 1)) := by
  constructor
  ·refine RR.le_of_lt (lt_of_pos (ofRat ((m + 1 : Int) : Rat) - v) (sub_pos.2 h1.2) ?_)
   rw [Rat.intCast_neg]
   generalize ((m + 1 : Int) : Rat) = z
   exact ring [z, v] (by decide +kernel)
  ·refine lt_of_pos (v - ofRat (m : Rat)) (sub_pos.2 a) ?_
   rw [show -(m + 1) + 1 = -m by omega, Rat.intCast_neg]
   generalize (m : Rat) = z
   exact ring [z, v] (by decide +kernel)
 have := h3.unique h2
 omega
end Vi
namespace Vi
open RR
noncomputable def aboveB (x : Rl) (q : Rat) : Bool := open Classical in decide (ofRat q < x.val)
theorem above_sq (x : Rl) (q : Rat) (hr : 0 < x.r) : aboveB x q = if x.neg then decide (q - x.p < 0) && decide (0 < (q - x.p) * (q - x.p) - x.r) else decide (q - x.p < 0) || decide ((q - x.p) * (q - x.p) - x.r < 0) := by
 have hs := sqrt_pos hr
 have h2 := sqrt_sq x.r (Rat.le_of_lt hr)
 have hd : ofRat q < x.val ↔ ofRat (q - x.p) < ofRat x.s * sqrt x.r := by
  unfold Rl.val
  rw [← sub_pos, ← sub_pos (x := ofRat (q - x.p)), ring (x := ofRat x.p + ofRat x.s * sqrt x.r - ofRat q) (y := ofRat x.s * sqrt x.r - ofRat (q - x.p)) [x.p, x.s, sqrt x.r, q] (by decide +kernel)]
 have e : aboveB x q = (open Classical in decide (ofRat (q - x.p) < ofRat x.s * sqrt x.r)) := by
  unfold aboveB
  exact decide_eq_decide.2 hd
 rw [e]
 generalize q - x.p = d
 generalize sqrt x.r = u at *
 have sqe : ofRat (d * d - x.r) = ofRat d * ofRat d - u * u := ring1 [d, x.r, u] h2 1 (by decide +kernel)
 rcases Rl.s_cases x with ⟨n1, n2⟩ | ⟨n1, n2⟩
 ·rw [n1, n2, if_pos rfl]
  have hm : ofRat (-1) * u = -u := ring [u] (by decide +kernel)
  rw [hm, ← Bool.decide_and]
  refine decide_eq_decide.2 ⟨fun h => ?_, fun ⟨h3, h4⟩ => ?_⟩
  ·have hneg : ofRat d < 0 := lt_trans h (neg_lt_zero.2 hs)
   refine ⟨rat_lt.1 hneg, rat_lt.1 ?_⟩
   show (0 : RR) < _
   rw [sqe]
   have h5 : 0 < -ofRat d - u := lt_of_pos (-u - ofRat d) (sub_pos.2 h) (ring [d, u] (by decide +kernel))
   have h5 : 0 < -u - ofRat d := sub_pos.2 h
   have h6 : 0 < -ofRat d + u := add_pos (neg_pos.2 hneg) hs
   have := mul_pos h5 h6
   rwa [ring (x := (-u - ofRat d) * (-ofRat d + u)) (y := ofRat d * ofRat d - u * u) [d, u] (by decide +kernel)] at this
  ·have h5 : (0 : RR) < ofRat d * ofRat d - u * u := by rw [← sqe]; exact rat_lt.2 h4
   have hneg : ofRat d < 0 := rat_lt.2 h3
   have h6 := sq_lt (u := u) (v := -ofRat d) (le_of_lt hs) (le_of_lt (neg_pos.2 hneg)) (by
    rw [ring (x := -ofRat d * -ofRat d) (y := ofRat d * ofRat d) [d] (by decide +kernel)]
    exact sub_pos.1 h5)
   exact lt_of_pos (-ofRat d - u) (sub_pos.2 h6) (ring [d, u] (by decide +kernel))
 ·rw [n1, n2, if_neg (by simp)]
  have hm : ofRat 1 * u = u := ring [u] (by decide +kernel)
  rw [hm, ← Bool.decide_or]
  refine decide_eq_decide.2 ⟨fun h => ?_, fun h => ?_⟩
  ·by_cases hd0 : d < 0
   ·exact .inl hd0
   ·right
    have hd0 := Rat.not_lt.1 hd0
    refine rat_lt.1 ?_
    show _ < (0 : RR)
    rw [sqe]
    have h5 : 0 < u - ofRat d := sub_pos.2 h
    have h6 : 0 < u + ofRat d := add_pos_of_nonneg hs (rat_le.2 hd0)
    have := mul_pos h5 h6
    rw [lt_zero, ring (x := -(ofRat d * ofRat d - u * u)) (y := (u - ofRat d) * (u + ofRat d)) [d, u] (by decide +kernel)]
    exact this
  ·rcases h with h | h
   ·exact lt_trans (rat_lt.2 h) hs
   ·by_cases hd0 : d < 0
    ·exact lt_trans (rat_lt.2 hd0) hs
    ·have hd0 := Rat.not_lt.1 hd0
     refine sq_lt (rat_le.2 hd0) (le_of_lt hs) ?_
     have h5 : ofRat d * ofRat d - u * u < 0 := by rw [← sqe]; exact rat_lt.2 h
     rw [lt_zero] at h5
     exact lt_of_pos _ h5 (ring [d, u] (by decide +kernel))
end Vi
