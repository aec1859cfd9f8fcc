/- Part 11 of the proof; what it holds is said text by text. -/
import Derived.Test.YtlblfgbpogljoaaGreatDoorWbJ
import Derived.Test.YtlblfgbpogljoaaGreatDoorWbI
set_option linter.unusedSimpArgs false
set_option linter.unusedVariables false
section
/- No program in sight: whole parts of numbers with a root. -/
namespace Vi
open RR
namespace RR
theorem sq_lt {u v : RR} (hu : 0 ≤ u) (hv : 0 ≤ v) (h : u * u < v * v) : u < v := by
 have hu := hu
 rw [← not_le]
 intro hc
 refine absurd h (not_lt.2 (le_of_nonneg ((u - v) * (u + v)) (mul_nonneg (sub_nonneg.2 hc) (add_nonneg hu hv)) (ring [u, v] (by decide +kernel))))
theorem sq_le {u v : RR} (hu : 0 ≤ u) (hv : 0 ≤ v) (h : u * u ≤ v * v) : u ≤ v := by
 rw [← not_lt]
 intro hc
 have h1 := sub_pos.2 hc
 have h2 : 0 < u + v := lt_of_lt_of_le (lt_of_le_of_lt hv hc) (le_of_nonneg v hv (ring [u, v] (by decide +kernel)))
 exact absurd h (not_le.2 (lt_of_pos ((u - v) * (u + v)) (mul_pos h1 h2) (ring [u, v] (by decide +kernel))))
theorem mul_lt_iff {d u v : RR} (hd : 0 < d) : d * u < d * v ↔ u < v := by
 rw [← sub_pos, ← sub_pos (x := u), ring (x := d * v - d * u) (y := d * (v - u)) [d, u, v] (by decide +kernel)]
 constructor
 ·intro h
  rcases tri (v - u) 0 with g | g | g
  ·exact absurd h (le_of_lt (mul_neg hd g))
  ·rw [g, ring (x := d * 0) (y := 0) [d] (by decide +kernel)] at h; exact absurd h (lt_irrefl 0)
  ·exact g
 ·exact mul_pos hd
theorem mul_le_iff {d u v : RR} (hd : 0 < d) : d * u ≤ d * v ↔ u ≤ v := by
 rw [← not_lt, ← not_lt, mul_lt_iff hd]
def IsFl (v : RR) (n : Int) : Prop := ofRat n ≤ v ∧ v < ofRat ((n + 1 : Int) : Rat)
theorem IsFl.unique {v : RR} {m n : Int} (h1 : IsFl v m) (h2 : IsFl v n) : m = n := by
 have a := rat_lt.1 (lt_of_le_of_lt h1.1 h2.2)
 have b := rat_lt.1 (lt_of_le_of_lt h2.1 h1.2)
 have a : m < n + 1 := by exact_mod_cast a
 have b : n < m + 1 := by exact_mod_cast b
 omega
end RR
theorem rat_mul_den (p : Rat) : p * (p.den : Rat) = (p.num : Rat) := by
 have h := Rat.num_divInt_den p
 rw [Rat.divInt_eq_div] at h
 have hd : ((p.den : Int) : Rat) ≠ 0 := by have := p.den_nz; exact_mod_cast this
 have e : ((p.den : Int) : Rat) = (p.den : Rat) := rfl
 rw [e] at h hd
 generalize (p.den : Rat) = d at *
 generalize (p.num : Rat) = n at *
 rw [← h, Rat.div_def, Rat.mul_assoc, Rat.inv_mul_cancel _ hd, Rat.mul_one]
theorem isq_real (X r : Nat) (h1 : r * r ≤ X) (h2 : X < (r + 1) * (r + 1)) : ofRat (r : Rat) ≤ RR.sqrt (X : Rat) ∧ RR.sqrt (X : Rat) < ofRat ((r : Rat) + 1) := by
 have hX : (0 : Rat) ≤ (X : Rat) := by exact_mod_cast Nat.zero_le X
 have hr : (0 : Rat) ≤ (r : Rat) := by exact_mod_cast Nat.zero_le r
 constructor
 ·refine sq_le (rat_le.2 hr) (sqrt_nonneg _) ?_
  rw [sqrt_sq _ hX, ← rat_mul, rat_le]
  exact_mod_cast h1
 ·refine sq_lt (sqrt_nonneg _) (rat_le.2 (by grind)) ?_
  rw [sqrt_sq _ hX, ← rat_mul, rat_lt]
  exact_mod_cast h2
namespace Rl
noncomputable def topI (isq : Nat → Nat) (x : Rl) : Int :=
 if x.neg then x.p.num * x.r.den - ((isq ((x.p.den * x.p.den : Int) * (x.r.num * x.r.den)).toNat : Nat) + 1 : Int) else x.p.num * x.r.den + (isq ((x.p.den * x.p.den : Int) * (x.r.num * x.r.den)).toNat : Nat)
noncomputable def flI (isq : Nat → Nat) (x : Rl) : Int := topI isq x / (x.p.den * x.r.den)
theorem flI_ok (isq : Nat → Nat) (hq : ∀ X, isq X * isq X ≤ X ∧ X < (isq X + 1) * (isq X + 1)) (x : Rl) (hx : x.Ok) : IsFl x.val (flI isq x) := by
 have hd : (0 : Int) < x.p.den := by have := x.p.den_nz; omega
 have hb : (0 : Int) < x.r.den := by have := x.r.den_nz; omega
 have hr := hx.nonneg
 have ha : 0 ≤ x.r.num := Rat.num_nonneg.2 hr
 obtain ⟨D, hD⟩ : ∃ D : Int, D = x.p.den * x.r.den := ⟨_, rfl⟩
 have hD0 : 0 < D := by rw [hD]; exact Int.mul_pos hd hb
 obtain ⟨X, hX⟩ : ∃ X : Nat, X = ((x.p.den * x.p.den : Int) * (x.r.num * x.r.den)).toNat := ⟨_, rfl⟩
 have hXi : (X : Int) = (x.p.den * x.p.den : Int) * (x.r.num * x.r.den) := by
  rw [hX]; exact Int.toNat_of_nonneg (Int.mul_nonneg (Int.le_of_lt (Int.mul_pos hd hd)) (Int.mul_nonneg ha (Int.le_of_lt hb)))
 obtain ⟨g1, g2⟩ := hq X
 obtain ⟨r, hrt⟩ : ∃ r, r = isq X := ⟨_, rfl⟩
 rw [← hrt] at g1 g2
 obtain ⟨w1, w2⟩ := isq_real X r g1 g2
 have hpe : x.p * (x.p.den : Rat) = (x.p.num : Rat) := rat_mul_den x.p
 have hre : x.r * (x.r.den : Rat) = (x.r.num : Rat) := rat_mul_den x.r
 have hDr : ((D : Int) : Rat) = (x.p.den : Rat) * (x.r.den : Rat) := by rw [hD]; push_cast; rfl
 have hXr : (X : Rat) = ((x.p.den : Rat) * (x.r.den : Rat)) * ((x.p.den : Rat) * (x.r.den : Rat)) * x.r := by
  have : ((X : Int) : Rat) = ((x.p.den * x.p.den : Int) * (x.r.num * x.r.den) : Int) := by rw [hXi]
  have e2 : ((X : Int) : Rat) = (X : Rat) := rfl
  rw [← e2, this]
  push_cast
  rw [← hre]
  grind
 have hDq : (0 : Rat) < ((D : Int) : Rat) := by exact_mod_cast hD0
 have hW : RR.sqrt (X : Rat) = ofRat ((D : Int) : Rat) * sqrt x.r := by
  rw [hXr, ← hDr, RR.sqrt_mul (Rat.mul_nonneg (Rat.le_of_lt hDq) (Rat.le_of_lt hDq)) hr, RR.sqrt_sqr (Rat.le_of_lt hDq)]
 have hN : ofRat ((D : Int) : Rat) * ofRat x.p = ofRat ((x.p.num * x.r.den : Int) : Rat) := by
  rw [← rat_mul, hDr]
  congr 1
  push_cast
  rw [← hpe]
  grind
 have hDv : ofRat ((D : Int) : Rat) * x.val = ofRat ((x.p.num * x.r.den : Int) : Rat) + ofRat x.s * RR.sqrt (X : Rat) := by
  unfold val
  rw [hW, ← hN]
  exact ring [((D : Int) : Rat), x.p, x.s, sqrt x.r] (by decide +kernel)
 have key : ofRat ((topI isq x : Int) : Rat) ≤ ofRat ((D : Int) : Rat) * x.val ∧ ofRat ((D : Int) : Rat) * x.val < ofRat ((topI isq x + 1 : Int) : Rat) := by
  rw [hDv]
  unfold topI
  rw [← hX, ← hrt]
  rcases s_cases x with ⟨n1, n2⟩ | ⟨n1, n2⟩
  ·rw [n1, n2, if_pos rfl]
   have hstrict : ofRat (r : Rat) < RR.sqrt (X : Rat) := by
    rcases lt_or_eq w1 with h | h
    ·exact h
    ·exfalso
     rcases hx with ⟨_, h2⟩ | ⟨h1, h2⟩
     ·rw [n1] at h2; cases h2
     ·refine h2 ((r : Rat) * ((D : Int) : Rat)⁻¹) ?_
      have h3 := sqrt_sq (X : Rat) (by exact_mod_cast Nat.zero_le X)
      rw [← h, ← rat_mul] at h3
      have h4 := rat_inj h3
      rw [hXr, ← hDr] at h4
      have e1 : ((D : Int) : Rat) * ((D : Int) : Rat)⁻¹ = 1 := Rat.mul_inv_cancel _ (by grind)
      generalize ((D : Int) : Rat)⁻¹ = i at *
      generalize ((D : Int) : Rat) = q at *
      generalize (r : Rat) = z at *
      have : z * i * (z * i) = (z * z) * (i * i) := by grind
      rw [this, h4]
      have : q * q * x.r * (i * i) = (q * i) * (q * i) * x.r := by grind
      rw [this, e1]; grind
   constructor
   ·refine le_of_lt (lt_of_pos (ofRat ((r : Rat) + 1) - RR.sqrt (X : Rat)) (sub_pos.2 w2) ?_)
    have e : ((x.p.num * x.r.den - ((r : Int) + 1) : Int) : Rat) = ((x.p.num * x.r.den : Int) : Rat) - ((r : Rat) + 1) := by push_cast; rfl
    rw [e]
    generalize ((x.p.num * x.r.den : Int) : Rat) = y1
    generalize RR.sqrt (X : Rat) = y2
    generalize (r : Rat) = y3
    exact ring [y1, y3, y2] (by decide +kernel)
   ·refine lt_of_pos (RR.sqrt (X : Rat) - ofRat (r : Rat)) (sub_pos.2 hstrict) ?_
    have e : ((x.p.num * x.r.den - ((r : Int) + 1) + 1 : Int) : Rat) = ((x.p.num * x.r.den : Int) : Rat) - (r : Rat) := by push_cast; grind
    rw [e]
    generalize ((x.p.num * x.r.den : Int) : Rat) = y1
    generalize RR.sqrt (X : Rat) = y2
    generalize (r : Rat) = y3
    exact ring [y1, y3, y2] (by decide +kernel)
  ·rw [n1, n2, if_neg (by simp)]
   constructor
   ·refine le_of_nonneg (RR.sqrt (X : Rat) - ofRat (r : Rat)) (sub_nonneg.2 w1) ?_
    have e : ((x.p.num * x.r.den + (r : Int) : Int) : Rat) = ((x.p.num * x.r.den : Int) : Rat) + (r : Rat) := by push_cast; rfl
    rw [e]
    generalize ((x.p.num * x.r.den : Int) : Rat) = y1
    generalize RR.sqrt (X : Rat) = y2
    generalize (r : Rat) = y3
    exact ring [y1, y3, y2] (by decide +kernel)
   ·refine lt_of_pos (ofRat ((r : Rat) + 1) - RR.sqrt (X : Rat)) (sub_pos.2 w2) ?_
    have e : ((x.p.num * x.r.den + (r : Int) + 1 : Int) : Rat) = ((x.p.num * x.r.den : Int) : Rat) + ((r : Rat) + 1) := by push_cast; grind
    rw [e]
    generalize ((x.p.num * x.r.den : Int) : Rat) = y1
    generalize RR.sqrt (X : Rat) = y2
    generalize (r : Rat) = y3
    exact ring [y1, y3, y2] (by decide +kernel)
 have hDR : 0 < ofRat ((D : Int) : Rat) := rat_lt.2 hDq
 unfold flI
 rw [← hD]
 generalize topI isq x = t at *
 have d1 := Int.mul_ediv_add_emod t D
 have d2 := Int.emod_nonneg t (show D ≠ 0 by omega)
 have d3 := Int.emod_lt_of_pos t hD0
 generalize t / D = q at *
 constructor
 ·refine (mul_le_iff hDR).1 (le_trans ?_ key.1)
  rw [← rat_mul, rat_le]
  have : D * q ≤ t := by omega
  exact_mod_cast this
 ·refine (mul_lt_iff hDR).1 (lt_of_lt_of_le key.2 ?_)
  rw [← rat_mul, rat_le]
  have : t + 1 ≤ D * (q + 1) := by rw [Int.mul_add, Int.mul_one]; omega
  exact_mod_cast this
end Rl
end Vi
namespace Vi
open RR
def Rl.ngR (x : Rl) : Rl := ⟨-x.p, x.r, !decide (x.r = 0) && !x.neg⟩
def Rl.scR (x : Rl) (q : Rat) : Rl := ⟨x.p * q, q * q * x.r, !decide (q * q * x.r = 0) && (x.neg != decide (q < 0))⟩
namespace Rl
theorem ngR_ok {x : Rl} (h : x.Ok) : x.ngR.Ok := by
 rcases h with ⟨h1, h2⟩ | ⟨h1, h2⟩
 ·exact .inl ⟨h1, by unfold ngR; simp [h1]⟩
 ·exact .inr ⟨h1, h2⟩
theorem ngR_val {x : Rl} (h : x.Ok) : x.ngR.val = -x.val := by
 rcases h with ⟨h1, h2⟩ | ⟨h1, h2⟩
 ·unfold val
  show ofRat (-x.p) + ofRat x.ngR.s * sqrt x.r = _
  rw [h1, sqrt_zero]
  exact ring [x.p, x.ngR.s, x.s] (by decide +kernel)
 ·have h3 : ¬ x.r = 0 := by grind
  have h4 : ofRat x.ngR.s = -ofRat x.s := by
   unfold ngR s
   rw [decide_eq_false h3]
   cases x.neg <;> simp [← rat_neg]
  unfold val
  rw [h4]
  show ofRat (-x.p) + -ofRat x.s * sqrt x.r = _
  exact ring [x.p, x.s, sqrt x.r] (by decide +kernel)
theorem scR_ok {x : Rl} (h : x.Ok) (q : Rat) : (x.scR q).Ok := by
 by_cases h0 : q * q * x.r = 0
 ·left
  unfold scR
  exact ⟨h0, by simp [h0]⟩
 ·right
  have hr := h.nonneg
  have hq : q ≠ 0 := fun e => h0 (by rw [e]; grind)
  have hr0 : x.r ≠ 0 := fun e => h0 (by rw [e]; grind)
  have hqq : 0 < q * q := by
   rcases sgQ_cases q with ⟨_, g⟩ | ⟨_, g⟩ | ⟨_, g⟩
   ·have := Rat.mul_pos (a := -q) (b := -q) (by grind) (by grind); grind
   ·exact absurd g hq
   ·exact Rat.mul_pos g g
  refine ⟨Rat.mul_pos hqq (by grind), fun z hz => ?_⟩
  rcases h with ⟨g, _⟩ | ⟨_, g⟩
  ·exact hr0 g
  ·refine g (z * q⁻¹) ?_
   have e1 : q * q⁻¹ = 1 := Rat.mul_inv_cancel _ hq
   have hz : z * z = q * q * x.r := hz
   have : z * q⁻¹ * (z * q⁻¹) = (z * z) * (q⁻¹ * q⁻¹) := by grind
   rw [this, hz]
   have : q * q * x.r * (q⁻¹ * q⁻¹) = (q * q⁻¹) * (q * q⁻¹) * x.r := by grind
   rw [this, e1]; grind
theorem scR_val {x : Rl} (h : x.Ok) (q : Rat) : (x.scR q).val = ofRat q * x.val := by
 have hr := h.nonneg
 by_cases h0 : q * q * x.r = 0
 ·have h1 : ofRat q * sqrt x.r = 0 := by
    rcases Rat.mul_eq_zero.1 h0 with g | g
    ·have : q = 0 := by rcases Rat.mul_eq_zero.1 g with g | g <;> exact g
     rw [this]; exact ring [sqrt x.r] (by decide +kernel)
    ·rw [g, sqrt_zero]; exact ring [q] (by decide +kernel)
  unfold val
  show ofRat (x.p * q) + ofRat (x.scR q).s * sqrt (q * q * x.r) = _
  rw [h0, sqrt_zero]
  exact ring1 [x.p, q, (x.scR q).s, x.s, sqrt x.r] h1 (-ofRat x.s) (by decide +kernel)
 ·have hs : sqrt (q * q * x.r) * ofRat (x.scR q).s = ofRat q * ofRat x.s * sqrt x.r := by
    by_cases hq : q < 0
    ·have e1 : sqrt (q * q * x.r) = ofRat (-q) * sqrt x.r := by
       rw [show q * q * x.r = (-q * -q) * x.r by grind, RR.sqrt_mul (Rat.mul_nonneg (by grind) (by grind)) hr, RR.sqrt_sqr (by grind)]
     have e2 : (x.scR q).s = -x.s := by
      unfold s scR
      rw [decide_eq_false h0, decide_eq_true hq]
      cases x.neg <;> simp
     rw [e1, e2]
     exact ring [q, x.s, sqrt x.r] (by decide +kernel)
    ·have e1 : sqrt (q * q * x.r) = ofRat q * sqrt x.r := by
       rw [RR.sqrt_mul (Rat.mul_nonneg (by grind) (by grind)) hr, RR.sqrt_sqr (by grind)]
     have e2 : (x.scR q).s = x.s := by
      unfold s scR
      rw [decide_eq_false h0, decide_eq_false hq]
      cases x.neg <;> simp
     rw [e1, e2]
     exact ring [q, x.s, sqrt x.r] (by decide +kernel)
  unfold val
  show ofRat (x.p * q) + ofRat (x.scR q).s * sqrt (q * q * x.r) = _
  exact ring1 [x.p, q, (x.scR q).s, x.s, sqrt x.r, sqrt (q * q * x.r)] hs 1 (by decide +kernel)
theorem shift_val (x : Rl) (q : Rat) : (⟨x.p + q, x.r, x.neg⟩ : Rl).val = x.val + ofRat q := by
 unfold val s
 exact ring [x.p, q, ofRat (if x.neg = true then (-1 : Rat) else 1), sqrt x.r] (by decide +kernel)
theorem irr {x : Rl} (h : x.Ok) (h0 : x.r ≠ 0) (q : Rat) : x.val ≠ ofRat q := by
 intro e
 have := inj h (rat_ok q) (by rw [e, rat_val])
 rw [this] at h0
 exact h0 rfl
end Rl
theorem RR.IsFl.neg_irr {v : RR} {m n : Int} (h1 : IsFl v m) (h2 : IsFl (-v) n) (hi : v ≠ ofRat m) : -n = m + 1 := by
 have a : ofRat (m : Rat) < v := by
  rcases lt_or_eq h1.1 with g | g
  ·exact g
  ·exact absurd g.symm hi
 have h3 : IsFl (-v) (-(m + 1)) := by
  constructor
  ·refine RR.le_of_lt (lt_of_pos (ofRat ((m + 1 : Int) : Rat) - v) (sub_pos.2 h1.2) ?_)
   rw [Rat.intCast_neg]
   generalize ((m + 1 : Int) : Rat) = z
   exact ring [z, v] (by decide +kernel)
  ·refine lt_of_pos (v - ofRat (m : Rat)) (sub_pos.2 a) ?_
   rw [show -(m + 1) + 1 = -m by omega, Rat.intCast_neg]
   generalize (m : Rat) = z
   exact ring [z, v] (by decide +kernel)
 have := h3.unique h2
 omega
end Vi
namespace Vi
open RR
noncomputable def aboveB (x : Rl) (q : Rat) : Bool := open Classical in decide (ofRat q < x.val)
theorem above_sq (x : Rl) (q : Rat) (hr : 0 < x.r) : aboveB x q = if x.neg then decide (q - x.p < 0) && decide (0 < (q - x.p) * (q - x.p) - x.r) else decide (q - x.p < 0) || decide ((q - x.p) * (q - x.p) - x.r < 0) := by
 have hs := sqrt_pos hr
 have h2 := sqrt_sq x.r (Rat.le_of_lt hr)
 have hd : ofRat q < x.val ↔ ofRat (q - x.p) < ofRat x.s * sqrt x.r := by
  unfold Rl.val
  rw [← sub_pos, ← sub_pos (x := ofRat (q - x.p)), ring (x := ofRat x.p + ofRat x.s * sqrt x.r - ofRat q) (y := ofRat x.s * sqrt x.r - ofRat (q - x.p)) [x.p, x.s, sqrt x.r, q] (by decide +kernel)]
 have e : aboveB x q = (open Classical in decide (ofRat (q - x.p) < ofRat x.s * sqrt x.r)) := by
  unfold aboveB
  exact decide_eq_decide.2 hd
 rw [e]
 generalize q - x.p = d
 generalize sqrt x.r = u at *
 have sqe : ofRat (d * d - x.r) = ofRat d * ofRat d - u * u := ring1 [d, x.r, u] h2 1 (by decide +kernel)
 rcases Rl.s_cases x with ⟨n1, n2⟩ | ⟨n1, n2⟩
 ·rw [n1, n2, if_pos rfl]
  have hm : ofRat (-1) * u = -u := ring [u] (by decide +kernel)
  rw [hm, ← Bool.decide_and]
  refine decide_eq_decide.2 ⟨fun h => ?_, fun ⟨h3, h4⟩ => ?_⟩
  ·have hneg : ofRat d < 0 := lt_trans h (neg_lt_zero.2 hs)
   refine ⟨rat_lt.1 hneg, rat_lt.1 ?_⟩
   show (0 : RR) < _
   rw [sqe]
   have h5 : 0 < -ofRat d - u := lt_of_pos (-u - ofRat d) (sub_pos.2 h) (ring [d, u] (by decide +kernel))
   have h5 : 0 < -u - ofRat d := sub_pos.2 h
   have h6 : 0 < -ofRat d + u := add_pos (neg_pos.2 hneg) hs
   have := mul_pos h5 h6
   rwa [ring (x := (-u - ofRat d) * (-ofRat d + u)) (y := ofRat d * ofRat d - u * u) [d, u] (by decide +kernel)] at this
  ·have h5 : (0 : RR) < ofRat d * ofRat d - u * u := by rw [← sqe]; exact rat_lt.2 h4
   have hneg : ofRat d < 0 := rat_lt.2 h3
   have h6 := sq_lt (u := u) (v := -ofRat d) (le_of_lt hs) (le_of_lt (neg_pos.2 hneg)) (by
    rw [ring (x := -ofRat d * -ofRat d) (y := ofRat d * ofRat d) [d] (by decide +kernel)]
    exact sub_pos.1 h5)
   exact lt_of_pos (-ofRat d - u) (sub_pos.2 h6) (ring [d, u] (by decide +kernel))
 ·rw [n1, n2, if_neg (by simp)]
  have hm : ofRat 1 * u = u := ring [u] (by decide +kernel)
  rw [hm, ← Bool.decide_or]
  refine decide_eq_decide.2 ⟨fun h => ?_, fun h => ?_⟩
  ·by_cases hd0 : d < 0
   ·exact .inl hd0
   ·right
    have hd0 := Rat.not_lt.1 hd0
    refine rat_lt.1 ?_
    show _ < (0 : RR)
    rw [sqe]
    have h5 : 0 < u - ofRat d := sub_pos.2 h
    have h6 : 0 < u + ofRat d := add_pos_of_nonneg hs (rat_le.2 hd0)
    have := mul_pos h5 h6
    rw [lt_zero, ring (x := -(ofRat d * ofRat d - u * u)) (y := (u - ofRat d) * (u + ofRat d)) [d, u] (by decide +kernel)]
    exact this
  ·rcases h with h | h
   ·exact lt_trans (rat_lt.2 h) hs
   ·by_cases hd0 : d < 0
    ·exact lt_trans (rat_lt.2 hd0) hs
    ·have hd0 := Rat.not_lt.1 hd0
     refine sq_lt (rat_le.2 hd0) (le_of_lt hs) ?_
     have h5 : ofRat d * ofRat d - u * u < 0 := by rw [← sqe]; exact rat_lt.2 h
     rw [lt_zero] at h5
     exact lt_of_pos _ h5 (ring [d, u] (by decide +kernel))
end Vi

end
section
/- The reference's root and Root. -/
namespace Go.Proofs.YtlblfgbpogljoaaGreatDoor
open Go Go.RowKit Go.Sy
open Vi
theorem cmpN_lss {x y : Nat} {b : Bool} (h : decide (x < y) = b) : decide (cmpN x y < 0) = b := by
 rw [← h]; unfold cmpN
 by_cases h1 : x < y
 ·rw [if_pos h1, decide_eq_true h1]; rfl
 ·rw [if_neg h1, decide_eq_false h1]; split <;> rfl
theorem cmpN_leq {x y : Nat} {b : Bool} (h : decide (x ≤ y) = b) : decide (cmpN x y ≤ 0) = b := by
 rw [← h]; unfold cmpN
 by_cases h1 : x < y
 ·have e : decide (x ≤ y) = true := decide_eq_true (by omega)
  rw [if_pos h1, e]; rfl
 ·rw [if_neg h1]
  by_cases h2 : x = y
  ·have e : decide (x ≤ y) = true := decide_eq_true (by omega)
   rw [if_pos h2, e]; rfl
  ·have e : decide (x ≤ y) = false := decide_eq_false (by omega)
   rw [if_neg h2, e]; rfl
theorem cmpN_neq {x y : Nat} {b : Bool} (h : decide (x = y) = b) : (!decide (cmpN x y = 0)) = !b := by
 rw [← h]; unfold cmpN
 by_cases h1 : x < y
 ·have e : decide (x = y) = false := decide_eq_false (by omega)
  rw [if_pos h1, e]; rfl
 ·rw [if_neg h1]
  by_cases h2 : x = y
  ·have e : decide (x = y) = true := decide_eq_true h2
   rw [if_pos h2, e]; rfl
  ·have e : decide (x = y) = false := decide_eq_false h2
   rw [if_neg h2, e]; rfl
def stR (X l h : Nat) : St := ⟨34, 1, [(0, row 1 (nd 256 X)), (3, row 2 (nd 256 l)), (4, row 3 (nd 256 h))], junk, [(1, rws (rD X).1 (rD X).2), (2, rws (rD l).1 (rD l).2), (3, rws (rD h).1 (rD h).2)], 4⟩
def stR1 (r : Nat) : St := ⟨34, 1, [(3, row 1 (nd 256 r))], junk, [(1, rws (rD r).1 (rD r).2)], 2⟩
theorem dPlus1 (x : Nat) (hx : nd 256 x ≤ 4294967296) : Sp Tryz.prog 118 [rD x, (1, [nV 1])] [row 0 (nd 256 x), row 1 1] (row 2 (nd 256 (x + 1))) [rD (x + 1)] := by
 have := dPlus x 1 hx (by rw [nd_small 1 (by omega) (by omega)]; omega)
 rw [nd_small 1 (by omega) (by omega), rD_small 1 (by omega) (by omega)] at this
 exact this
theorem dHalf (x : Nat) (hx : nd 256 x ≤ 1048576) : Sp Tryz.prog 139 [rD x, (1, [nV 2])] [row 0 (nd 256 x), row 1 1] (.tuple #[row 2 (nd 256 (x / 2)), row 3 (nd 256 (x % 2))]) [rD (x / 2), rD (x % 2)] := by
 have := dDivide x 2 (by omega) hx (by rw [nd_small 2 (by omega) (by omega)]; omega)
 rw [nd_small 2 (by omega) (by omega), rD_small 2 (by omega) (by omega)] at this
 exact this
theorem nd_bound {x X : Nat} (h : x ≤ X + 1) : nd 256 x ≤ nd 256 X + 2 := by
 have h1 := nd_mono 256 (by omega) x (X + 1) h
 have h2 := nd_add X 1
 rw [nd_small 1 (by omega) (by omega)] at h2
 omega
theorem root_loop (X : Nat) (hX : nd 256 X ≤ 131000) : ∀ (m l h : Nat), h - l ≤ m → l < h → h ≤ X + 1 → l * l ≤ X → X < h * h →
    ∃ r, IsRt X r ∧ RoundsOk Tryz.prog (nthLoop 0 (Tryz.f170.body.getD .skip)) (stR X l h) (.exit 0) (stR1 r)
 | 0, l, h, hm, hl, _, _, _ => by omega
 | m + 1, l, h, hm, hlh, hhX, h1, h2 => by
  have nl := nd_bound (x := l) (X := X) (by omega)
  have nh := nd_bound hhX
  have nl1 := nd_bound (x := l + 1) (X := X) (by omega)
  have P1 := dPlus1 l (by omega)
  have C1 := dCompare (l + 1) h (by omega) (by omega)
  by_cases hd : l + 1 < h
  ·have e1 := cmpN_lss (x := l + 1) (y := h) (b := true) (decide_eq_true hd)
   have P2 := dPlus l h (by omega) (by omega)
   have n2 := nd_add l h
   have D := dHalf (l + h) (by omega)
   have hmid : (l + h) / 2 < h := by omega
   have hmid2 : l < (l + h) / 2 := by omega
   have nm := nd_bound (x := (l + h) / 2) (X := X) (by omega)
   generalize (l + h) / 2 = M at *
   generalize (l + h) % 2 = R at *
   have T := dTimes M M (by omega) (by omega)
   have nt := nd_mul M M
   have C2 := dCompare (M * M) X (by omega) (by omega)
   by_cases hle : M * M ≤ X
   ·have e2 := cmpN_leq (x := M * M) (y := X) (b := true) (decide_eq_true hle)
    obtain ⟨r, hr, ih⟩ := root_loop X hX m M h (by omega) hmid hhX hle h2
    generalize M * M = MM at *
    generalize l + h = S2 at *
    generalize l + 1 = l1 at *
    exact ⟨r, hr, .more (piece [(1, 1), (2, 8), (3, 3)] [cr P1, cr C1, eb e1, cr P2, cr D, cr T, cr C2, eb e2] fol (by kernel_rfl)) ih⟩
   ·have e2 := cmpN_leq (x := M * M) (y := X) (b := false) (decide_eq_false hle)
    obtain ⟨r, hr, ih⟩ := root_loop X hX m l M (by omega) hmid2 (by omega) h1 (by omega)
    generalize M * M = MM at *
    generalize l + h = S2 at *
    generalize l + 1 = l1 at *
    exact ⟨r, hr, .more (piece [(1, 1), (2, 2), (3, 8)] [cr P1, cr C1, eb e1, cr P2, cr D, cr T, cr C2, eb e2] fol (by kernel_rfl)) ih⟩
  ·have e1 := cmpN_lss (x := l + 1) (y := h) (b := false) (decide_eq_false hd)
   have : h = l + 1 := by omega
   subst this
   exact ⟨l, ⟨h1, h2⟩, .out (by simp) (piece [(1, 2)] [cr P1, cr C1, eb e1] fol (by kernel_rfl))⟩
theorem rD_zero : rD 0 = (0, []) := by unfold rD; rw [nd_zero]; rfl
theorem dRoot (X : Nat) (hX : nd 256 X ≤ 131000) : ∃ r, IsRt X r ∧ Sp Tryz.prog 170 [rD X] [row 0 (nd 256 X)] (row 1 (nd 256 r)) [rD r] := by
 have e : (X + 1) * (X + 1) = X * X + 2 * X + 1 := by grind
 obtain ⟨r, hr, hl⟩ := root_loop X hX (X + 1) 0 (X + 1) (by omega) (by omega) (Nat.le_refl _) (by omega) (by omega)
 have hl := hl.loop
 have P := dPlus1 X (by omega)
 unfold stR at hl
 rw [rD_zero, nd_zero] at hl
 generalize X + 1 = X1 at *
 exact ⟨r, hr, walk (code := Tryz.f170.body.getD .skip) [cr P, lp [(1, 0), (2, 1), (3, 3)] hl] fol Tryz.func170 (by kernel_rfl) (fun xs w => Tryz.call170 xs w) (by kernel_rfl)⟩
theorem rRoot (p : Rat) (hp : Fits p) : (∃ q : Rat, 0 ≤ q ∧ q * q = p ∧ Sp Tryz.prog 132 [] [rV p] (.tuple #[rV q, .bool true]) []) ∨ ((∀ q : Rat, q * q ≠ p) ∧ Sp Tryz.prog 132 [] [rV p] (.tuple #[rZ, .bool false]) []) := by
 have p1 := hp.1
 have p2 := hp.2
 have hO := fOf p hp
 obtain ⟨n, hn, R1⟩ := dRoot p.num.natAbs p1
 obtain ⟨d, hd, R2⟩ := dRoot p.den p2
 have hd0 : 0 < p.den := by have := p.den_nz; omega
 have n1 := Nat.le_mul_self n
 have n2 := Nat.le_mul_self d
 have zn := nd_mono 256 (by omega) n p.num.natAbs (by have := hn.1; omega)
 have zd := nd_mono 256 (by omega) d p.den (by have := hd.1; omega)
 have T1 := dTimes n n (by omega) (by omega)
 have T2 := dTimes d d (by omega) (by omega)
 have m1 := nd_mono 256 (by omega) (n * n) p.num.natAbs hn.1
 have m2 := nd_mono 256 (by omega) (d * d) p.den hd.1
 have C1 := dCompare (n * n) p.num.natAbs (by omega) (by omega)
 have C2 := dCompare (d * d) p.den (by omega) (by omega)
 have isq : ∀ X r s : Nat, IsRt X r → s * s = X → r * r = X := by
  intro X r s ⟨h1, h2⟩ h3
  have : r = s := by
   apply Nat.le_antisymm
   ·apply Nat.le_of_not_lt; intro h
    have := Nat.mul_le_mul (show s + 1 ≤ r by omega) (show s + 1 ≤ r by omega)
    have e : (s + 1) * (s + 1) = s * s + 2 * s + 1 := by grind
    omega
   ·apply Nat.le_of_not_lt; intro h
    have := Nat.mul_le_mul (show r + 1 ≤ s by omega) (show r + 1 ≤ s by omega)
    omega
  rw [this, h3]
 have parts : ∀ q : Rat, q * q = p → q.num * q.num = p.num ∧ q.den * q.den = p.den := by
  intro q hq
  obtain ⟨e1, e2⟩ := sq_parts q
  rw [hq] at e1 e2
  exact ⟨e1.symm, e2.symm⟩
 cases hs : sg p.num
 ·have hnn : 0 ≤ p.num := by unfold sg at hs; simpa using hs
  rw [hs] at hO
  by_cases h1 : n * n = p.num.natAbs
  ·have e1 := cmpN_neq (x := n * n) (y := p.num.natAbs) (b := true) (decide_eq_true h1)
   by_cases h2 : d * d = p.den
   ·have e2 := cmpN_neq (x := d * d) (y := p.den) (b := true) (decide_eq_true h2)
    have dp : 0 < d := by
     rcases Nat.eq_zero_or_pos d with h | h
     ·rw [h] at h2; omega
     ·exact h
    have hC := fCan false n d dp (by omega) (by omega)
    left
    refine ⟨Rat.divInt (n : Int) (d : Int), Rat.divInt_nonneg (by omega) (by omega), ?_, ?_⟩
    ·rw [Rat.divInt_mul_divInt, show (n : Int) * n = p.num by rw [← Int.natCast_mul, h1]; omega, show (d : Int) * d = (p.den : Int) by rw [← Int.natCast_mul, h2]]
     exact Rat.num_divInt_den p
    ·have hC : Sp Tryz.prog 86 [rD n, rD d] [fV false n d] (rV (Rat.divInt (n : Int) (d : Int))) [] := hC
     generalize Rat.divInt (n : Int) (d : Int) = q at *
     generalize n * n = nn at *
     generalize d * d = dd at *
     generalize p.num.natAbs = X at *
     generalize p.den = Y at *
     exact walk (code := Tryz.f132.body.getD .skip) [cr hO, cr R1, cr R2, cr T1, cr C1, eb e1, cr T2, cr C2, eb e2, cr hC] fol Tryz.func132 (by kernel_rfl) (fun xs w => Tryz.call132 xs w) (by kernel_rfl)
   ·right
    refine ⟨fun q hq => h2 (isq p.den d q.den hd (parts q hq).2), ?_⟩
    have e2 := cmpN_neq (x := d * d) (y := p.den) (b := false) (decide_eq_false h2)
    generalize n * n = nn at *
    generalize d * d = dd at *
    generalize p.num.natAbs = X at *
    generalize p.den = Y at *
    exact walk (code := Tryz.f132.body.getD .skip) [cr hO, cr R1, cr R2, cr T1, cr C1, eb e1, cr T2, cr C2, eb e2] fol Tryz.func132 (by kernel_rfl) (fun xs w => Tryz.call132 xs w) (by kernel_rfl)
  ·right
   refine ⟨fun q hq => h1 (isq p.num.natAbs n q.num.natAbs hn ?_), ?_⟩
   ·rw [← (parts q hq).1, Int.natAbs_mul]
   ·have e1 := cmpN_neq (x := n * n) (y := p.num.natAbs) (b := false) (decide_eq_false h1)
    generalize n * n = nn at *
    generalize d * d = dd at *
    generalize p.num.natAbs = X at *
    generalize p.den = Y at *
    exact walk (code := Tryz.f132.body.getD .skip) [cr hO, cr R1, cr R2, cr T1, cr C1, eb e1] fol Tryz.func132 (by kernel_rfl) (fun xs w => Tryz.call132 xs w) (by kernel_rfl)
 ·right
  rw [hs] at hO
  refine ⟨fun q hq => ?_, ?_⟩
  ·have h1 := (parts q hq).1
   have h2 : p.num < 0 := by unfold sg at hs; simpa using hs
   have h3 : 0 ≤ q.num * q.num := by
    rcases Int.le_total 0 q.num with h0 | h0
    ·exact Int.mul_nonneg h0 h0
    ·exact Int.mul_nonneg_of_nonpos_of_nonpos h0 h0
   omega
  ·generalize p.num.natAbs = X at *
   generalize p.den = Y at *
   exact walk (code := Tryz.f132.body.getD .skip) [cr hO, cr R1, cr R2] fol Tryz.func132 (by kernel_rfl) (fun xs w => Tryz.call132 xs w) (by kernel_rfl)
end Go.Proofs.YtlblfgbpogljoaaGreatDoor

end
section
/- No program in sight: bounds of sums, products, squares and quotients. -/
namespace Vi
theorem maxQ_ge (p q : Rat) : p ≤ maxQ p q ∧ q ≤ maxQ p q := by unfold maxQ; split <;> grind
theorem maxQ_or (p q : Rat) : maxQ p q = p ∨ maxQ p q = q := by unfold maxQ; split <;> simp
theorem maxQ_le {x p q : Rat} : maxQ p q ≤ x ↔ p ≤ x ∧ q ≤ x := by
 constructor
 ·intro h; have := maxQ_ge p q; grind
 ·intro h; rcases maxQ_or p q with e | e <;> rw [e] <;> grind
theorem inv_in {c y d : Rat} (h3 : c ≤ y) (h4 : y ≤ d) (hn : ¬ (c ≤ 0 ∧ 0 ≤ d)) : 1 / d ≤ 1 / y ∧ 1 / y ≤ 1 / c ∧ y ≠ 0 ∧ c ≠ 0 ∧ d ≠ 0 := by
 have key : ∀ a b : Rat, 0 < a → a ≤ b → 1 / b ≤ 1 / a := by
  intro a b ha hab
  have hb : 0 < b := by grind
  rw [Rat.div_def, Rat.div_def, Rat.one_mul, Rat.one_mul]
  have ia := Rat.inv_pos.2 ha
  have ib := Rat.inv_pos.2 hb
  have e1 := Rat.mul_inv_cancel a (by grind)
  have e2 := Rat.mul_inv_cancel b (by grind)
  have := Rat.mul_nonneg (show 0 ≤ b - a by grind) (Rat.le_of_lt (Rat.mul_pos ia ib))
  generalize a⁻¹ = u at *
  generalize b⁻¹ = v at *
  rw [show (b - a) * (u * v) = (b * v) * u - (a * u) * v by grind, e1, e2] at this
  grind
 have nkey : ∀ a : Rat, 1 / (-a) = -(1 / a) := by
  intro a
  rw [Rat.div_def, Rat.div_def, Rat.one_mul, Rat.one_mul]
  by_cases h0 : a = 0
  ·subst h0; decide +kernel
  ·grind
 by_cases hc : 0 < c
 ·exact ⟨key y d (by grind) h4, key c y hc h3, by grind, by grind, by grind⟩
 ·have hd : d < 0 := by grind
  have a1 := key (-d) (-y) (by grind) (by grind)
  have a2 := key (-y) (-c) (by grind) (by grind)
  rw [nkey, nkey] at a1 a2
  exact ⟨by grind, by grind, by grind, by grind, by grind⟩
end Vi
namespace Go.Proofs.YtlblfgbpogljoaaGreatDoor
open Go Go.RowKit Go.Sy
open Vi
theorem bin_shl1 (n : Nat) (hn : n ≤ 62) : Bin .shl 3 (nV 1) (nV n) (nV ((2 ^ n : Nat) : Int)) := by
 intro ox oy w
 have h1 : ¬ ((n : Int) < 0) := by omega
 have h2 : (n : Int) < 64 := by omega
 have h3 : ((2 ^ n : Nat) : Int) ≤ ((2 ^ 62 : Nat) : Int) := by exact_mod_cast Nat.pow_le_pow_right (by omega) hn
 rw [Int.natCast_pow] at h3
 have h4 : (0 : Int) < 2 ^ n := Int.pow_pos (by omega)
 have e2 : (((2 ^ 62 : Nat) : Int)) = 4611686018427387904 := by decide
 rw [e2] at h3
 have h3 : (2 : Int) ^ n ≤ 4611686018427387904 := h3
 simp [go_sem, nV]
 exact w64 (by omega) (by omega)
theorem eWidth (l h : Rat) (hl : Fits l) (hh : Fits h) : Sp Tryz.prog 23 [] [oV l h] (rV (h - l)) [] := by exact walk (code := Tryz.f23.body.getD .skip) [c (pSub h l hh hl)] fol Tryz.func23 (by kernel_rfl) (fun xs w => Tryz.call23 xs w) (by kernel_rfl)
end Go.Proofs.YtlblfgbpogljoaaGreatDoor
namespace Go.Proofs.YtlblfgbpogljoaaGreatDoor
open Go Go.RowKit Go.Sy
open Vi
theorem tight (r : Rat) (n : Nat) (h0 : 0 ≤ r) : 0 ≤ gridQ r n ∧ gridQ r n * gridQ r n ≤ r ∧ r ≤ highQ r n * highQ r n ∧ (highQ r n - gridQ r n) * ((p2 n : Int) : Rat) ≤ 1 ∧ 0 ≤ highQ r n - gridQ r n := by
 obtain ⟨h1, h2, h3⟩ := rtI_le r n h0
 have hp := p2_rat n
 have hg := grid_div r n
 rw [Rat.intCast_mul] at h2
 have hpp : ((p2 n * p2 n : Int) : Rat) = ((p2 n : Int) : Rat) * ((p2 n : Int) : Rat) := Rat.intCast_mul ..
 have h4 : ((rtI r n + 1 : Int) : Rat) = ((rtI r n : Int) : Rat) + 1 := by rw [Rat.intCast_add]; rfl
 have hst : Rat.divInt 1 (p2 n) = 1 / ((p2 n : Int) : Rat) := Rat.divInt_eq_div ..
 have hg0 := gridQ_nonneg r n h0
 rw [hpp] at h2 h3
 rw [Rat.intCast_mul, h4] at h3
 unfold highQ
 rw [hst]
 rw [← hg] at hg0 ⊢
 clear hst hg hpp h4 h1
 generalize ((rtI r n : Int) : Rat) = t at *
 generalize ((p2 n : Int) : Rat) = p at *
 have hpi : p * p⁻¹ = 1 := Rat.mul_inv_cancel _ (by grind)
 have ip : 0 < p⁻¹ := Rat.inv_pos.2 hp
 rw [Rat.div_def] at *
 rw [Rat.div_def, Rat.one_mul]
 generalize p⁻¹ = i at *
 have a1 : t * i * (t * i) ≤ r := by
  have := Rat.mul_nonneg (show 0 ≤ r * (p * p) - t * t by grind) (Rat.le_of_lt (Rat.mul_pos ip ip))
  have e : (r * (p * p) - t * t) * (i * i) = r * ((p * i) * (p * i)) - t * i * (t * i) := by grind
  rw [e, hpi] at this
  grind
 have a2 : r ≤ (t * i + i) * (t * i + i) := by
  have := Rat.mul_nonneg (show 0 ≤ (t + 1) * (t + 1) - r * (p * p) by grind) (Rat.le_of_lt (Rat.mul_pos ip ip))
  have e : ((t + 1) * (t + 1) - r * (p * p)) * (i * i) = (t * i + i) * (t * i + i) - r * ((p * i) * (p * i)) := by grind
  rw [e, hpi] at this
  grind
 refine ⟨hg0, a1, ?_, ?_, ?_⟩
 ·split
  ·rename_i h; rw [h]; exact Rat.le_refl
  ·exact a2
 ·split
  ·grind
  ·have e : (t * i + i - t * i) * p = p * i := by grind
   rw [e, hpi]; exact Rat.le_refl
 ·split
  ·grind
  ·grind
end Go.Proofs.YtlblfgbpogljoaaGreatDoor
namespace Go.Proofs.YtlblfgbpogljoaaGreatDoor
open Go Go.RowKit Go.Sy
open Vi
end Go.Proofs.YtlblfgbpogljoaaGreatDoor
namespace Go.Proofs.YtlblfgbpogljoaaGreatDoor
open Go Go.RowKit Go.Sy
open Vi
end Go.Proofs.YtlblfgbpogljoaaGreatDoor

end
section
/- The program's numbers with a root: signs, comparison, moves. -/
namespace Go.Proofs.YtlblfgbpogljoaaGreatDoor
open Go Go.RowKit Go.Sy
open Vi
def rlV (x : Rl) : Value := .agg #[.bool (sg x.p.num), .string (mg x.p.num), .bool (sg (dn x.p)), .string (mg (dn x.p)), .bool (sg x.r.num), .string (mg x.r.num), .bool (sg (dn x.r)), .string (mg (dn x.r)), .bool x.neg]
theorem sgQ_in (a : Rat) : -1 ≤ sgQ a ∧ sgQ a ≤ 1 := by rcases sgQ_cases a with ⟨h, _⟩ | ⟨h, _⟩ | ⟨h, _⟩ <;> rw [h] <;> omega
theorem sgR_in (a : RR) : -1 ≤ sgR a ∧ sgR a ≤ 1 := by rcases RR.sg_cases a with ⟨h, _⟩ | ⟨h, _⟩ | ⟨h, _⟩ <;> rw [h] <;> omega
theorem mul_in1 {a b : Int} (ha : -1 ≤ a ∧ a ≤ 1) (hb : -1 ≤ b ∧ b ≤ 1) : -1 ≤ a * b ∧ a * b ≤ 1 := by
 rcases (by omega : a = -1 ∨ a = 0 ∨ a = 1) with h | h | h <;> subst h <;> omega
theorem pSgn (p : Rat) : Sp Tryz.prog 98 [] [rV p] (nV (sgQ p)) [] := by
 have := pSign p
 rwa [cmpI_sg] at this
theorem pCmp (p q : Rat) (hp : Fits p) (hq : Fits q) : Sp Tryz.prog 148 [] [rV p, rV q] (nV (sgQ (p - q))) [] := by
 have := pCompare p q hp hq
 rwa [cmpQ_sg] at this
theorem qSign (a b r : Rat) (k : Nat) (hk : k ≤ 20000) [HasSz a k] [HasSz b k] [HasSz r k] : Sp Tryz.prog 97 [] [rV a, rV b, rV r] (nV (signF a b r)) [] := by
 have S1 := pSgn a
 have S2 := pSgn b
 have S3 := pSgn r
 have A := pMul a a fz fz
 have B := pMul b b fz fz
 have C := pMul (b * b) r fz fz
 have D := pCmp (a * a) (b * b * r) fz fz
 have b1 := sgQ_in a
 have b2 := mul_in1 (sgQ_in b) (sgQ_in r)
 have b3 := sgQ_in (a * a - b * b * r)
 have b4 := mul_in1 b1 b3
 obtain ⟨n, hn⟩ : ∃ n, n = sgQ b * sgQ r := ⟨_, rfl⟩
 obtain ⟨v, hv⟩ : ∃ v, v = sgQ a * sgQ (a * a - b * b * r) := ⟨_, rfl⟩
 have w1 : IntKind.i64.wrap (sgQ b * sgQ r) = n := by rw [hn]; exact w64 (by omega) (by omega)
 have w2 : IntKind.i64.wrap (sgQ a * sgQ (a * a - b * b * r)) = v := by rw [hv]; exact w64 (by omega) (by omega)
 unfold signF
 rw [← hn, ← hv]
 clear hn hv b1 b2 b3 b4
 generalize a * a - b * b * r = f at *
 generalize b * b * r = g at *
 generalize b * b = h at *
 generalize a * a = i at *
 generalize sgQ f = j at *
 generalize sgQ a = m at *
 generalize sgQ b = u1 at *
 generalize sgQ r = u2 at *
 by_cases h1 : n = 0
 ·rw [if_pos (.inl h1)]
  have e1 : decide (n = 0) = true := decide_eq_true h1
  clear h1
  exact walk (code := Tryz.f97.body.getD .skip) [c S1, c S2, c S3, Go.Sy.e (congrArg (Value.int IntKind.i64) w1), eb e1] fol Tryz.func97 (by kernel_rfl) (fun xs w => Tryz.call97 xs w) (by kernel_rfl)
 ·have e1 : decide (n = 0) = false := decide_eq_false h1
  by_cases h2 : m = n
  ·rw [if_pos (.inr h2)]
   have e2 : decide (m = n) = true := decide_eq_true h2
   clear h1 h2
   exact walk (code := Tryz.f97.body.getD .skip) [c S1, c S2, c S3, Go.Sy.e (congrArg (Value.int IntKind.i64) w1), eb e1, eb e2] fol Tryz.func97 (by kernel_rfl) (fun xs w => Tryz.call97 xs w) (by kernel_rfl)
  ·rw [if_neg (by rintro (h | h) <;> contradiction)]
   have e2 : decide (m = n) = false := decide_eq_false h2
   by_cases h3 : m = 0
   ·rw [if_pos h3]
    have e3 : decide (m = 0) = true := decide_eq_true h3
    clear h1 h2 h3
    exact walk (code := Tryz.f97.body.getD .skip) [c S1, c S2, c S3, Go.Sy.e (congrArg (Value.int IntKind.i64) w1), eb e1, eb e2, eb e3] fol Tryz.func97 (by kernel_rfl) (fun xs w => Tryz.call97 xs w) (by kernel_rfl)
   ·rw [if_neg h3]
    have e3 : decide (m = 0) = false := decide_eq_false h3
    clear h1 h2 h3
    exact walk (code := Tryz.f97.body.getD .skip) [c S1, c S2, c S3, Go.Sy.e (congrArg (Value.int IntKind.i64) w1), eb e1, eb e2, eb e3, c A, c B, c C, c D, Go.Sy.e (congrArg (Value.int IntKind.i64) w2)] fol Tryz.func97 (by kernel_rfl) (fun xs w => Tryz.call97 xs w) (by kernel_rfl)
theorem qFactor (x : Rl) : Sp Tryz.prog 95 [] [rlV x] (rV x.s) [] := by
 have F1 := pI (-1) (by omega) (by omega)
 have F2 := pI 1 (by omega) (by omega)
 obtain ⟨p, r, neg⟩ := x
 unfold Rl.s
 cases neg
 ·exact walk (code := Tryz.f95.body.getD .skip) [c F2] fol Tryz.func95 (by kernel_rfl) (fun xs w => Tryz.call95 xs w) (by kernel_rfl)
 ·exact walk (code := Tryz.f95.body.getD .skip) [c F1] fol Tryz.func95 (by kernel_rfl) (fun xs w => Tryz.call95 xs w) (by kernel_rfl)
theorem qShift (x : Rl) (q : Rat) (hx : Fits x.p) (hq : Fits q) : Sp Tryz.prog 28 [] [rlV x, rV q] (rlV ⟨x.p + q, x.r, x.neg⟩) [] := by
 obtain ⟨p, r, neg⟩ := x
 dsimp only at *
 exact walk (code := Tryz.f28.body.getD .skip) [c (pAdd p q hx hq)] fol Tryz.func28 (by kernel_rfl) (fun xs w => Tryz.call28 xs w) (by kernel_rfl)
instance (x : Rl) : HasSz x.s 1 := by
 unfold Rl.s
 split
 ·exact (inferInstance : HasSz (-(1 : Rat)) 1)
 ·exact (inferInstance : HasSz (1 : Rat) 1)
theorem qCompare (x y : Rl) (k : Nat) (hk : k ≤ 3000) (hk1 : 1 ≤ k) [HasSz x.p k] [HasSz x.r k] [HasSz y.p k] [HasSz y.r k] (hx : 0 ≤ x.r) (hy : 0 ≤ y.r) : Sp Tryz.prog 27 [] [rlV x, rlV y] (nV (Rl.cmp x y)) [] := by
 rw [← Rl.cmpF_eq x y hx hy]
 have D := pSub x.p y.p fz fz
 have F1 := qFactor x
 have F2 := qFactor y
 have N := pNeg y.s
 haveI i1 : HasSz x.r (k + k + 1) := hs_mono ‹HasSz x.r k› (by omega)
 haveI i2 : HasSz x.s (k + k + 1) := hs_mono (inferInstance : HasSz x.s 1) (by omega)
 have S1 := qSign (x.p - y.p) x.s x.r (k + k + 1) (by omega)
 have S2 := pSgn (-y.s)
 have S3 := pSgn y.r
 clear i1 i2
 have A := pMul (x.p - y.p) (x.p - y.p) fz fz
 have B := pAdd ((x.p - y.p) * (x.p - y.p)) x.r fz fz
 have C := pSub ((x.p - y.p) * (x.p - y.p) + x.r) y.r fz fz
 have T := pI 2 (by omega) (by omega)
 have E := pMul (x.p - y.p) x.s fz fz
 have G := pMul 2 ((x.p - y.p) * x.s) fz fz
 haveI i1 : HasSz ((x.p - y.p) * (x.p - y.p) + x.r - y.r) (6 * k + 6) := hs_mono inferInstance (show k + k + 1 + (k + k + 1) + k + 1 + k + 1 ≤ _ by omega)
 haveI i2 : HasSz (2 * ((x.p - y.p) * x.s)) (6 * k + 6) := hs_mono inferInstance (show 1 + (k + k + 1 + 1) ≤ _ by omega)
 haveI i3 : HasSz x.r (6 * k + 6) := hs_mono ‹HasSz x.r k› (by omega)
 have S4 := qSign ((x.p - y.p) * (x.p - y.p) + x.r - y.r) (2 * ((x.p - y.p) * x.s)) x.r (6 * k + 6) (by omega)
 clear i1 i2 i3
 have b1 : -1 ≤ signF (x.p - y.p) x.s x.r ∧ signF (x.p - y.p) x.s x.r ≤ 1 := by rw [signF_eq _ _ _ hx]; exact sgR_in _
 have b2 := mul_in1 (sgQ_in (-y.s)) (sgQ_in y.r)
 have b3 : -1 ≤ signF ((x.p - y.p) * (x.p - y.p) + x.r - y.r) (2 * ((x.p - y.p) * x.s)) x.r ∧ signF ((x.p - y.p) * (x.p - y.p) + x.r - y.r) (2 * ((x.p - y.p) * x.s)) x.r ≤ 1 := by rw [signF_eq _ _ _ hx]; exact sgR_in _
 have b4 := mul_in1 b1 b3
 obtain ⟨n, hn⟩ : ∃ n, n = sgQ (-y.s) * sgQ y.r := ⟨_, rfl⟩
 obtain ⟨v, hv⟩ : ∃ v, v = signF (x.p - y.p) x.s x.r * signF ((x.p - y.p) * (x.p - y.p) + x.r - y.r) (2 * ((x.p - y.p) * x.s)) x.r := ⟨_, rfl⟩
 have w1 : IntKind.i64.wrap (sgQ (-y.s) * sgQ y.r) = n := by rw [hn]; exact w64 (by omega) (by omega)
 have w2 : IntKind.i64.wrap (signF (x.p - y.p) x.s x.r * signF ((x.p - y.p) * (x.p - y.p) + x.r - y.r) (2 * ((x.p - y.p) * x.s)) x.r) = v := by rw [hv]; exact w64 (by omega) (by omega)
 unfold Rl.cmpF
 rw [← hn, ← hv]
 clear hn hv b1 b2 b3 b4
 rw [show ((2 : Int) : Rat) = 2 from rfl] at T
 generalize signF ((x.p - y.p) * (x.p - y.p) + x.r - y.r) (2 * ((x.p - y.p) * x.s)) x.r = s4 at *
 generalize signF (x.p - y.p) x.s x.r = m at *
 generalize sgQ (-y.s) = u1 at *
 generalize sgQ y.r = u2 at *
 generalize 2 * ((x.p - y.p) * x.s) = t1 at *
 generalize (x.p - y.p) * x.s = t2 at *
 generalize (x.p - y.p) * (x.p - y.p) + x.r - y.r = t3 at *
 generalize (x.p - y.p) * (x.p - y.p) + x.r = t4 at *
 generalize (x.p - y.p) * (x.p - y.p) = t5 at *
 generalize x.p - y.p = t6 at *
 generalize -y.s = t7 at *
 generalize x.s = t8 at *
 generalize y.s = t9 at *
 generalize (2 : Rat) = t10 at *
 obtain ⟨xp, xr, xn⟩ := x
 obtain ⟨yp, yr, yn⟩ := y
 dsimp only at *
 by_cases h1 : n = 0
 ·rw [if_pos (.inl h1)]
  have e1 : decide (n = 0) = true := decide_eq_true h1
  clear h1
  exact walk (code := Tryz.f27.body.getD .skip) [c D, c F1, c F2, c N, c S1, c S2, c S3, Go.Sy.e (congrArg (Value.int IntKind.i64) w1), eb e1] fol Tryz.func27 (by kernel_rfl) (fun xs w => Tryz.call27 xs w) (by kernel_rfl)
 ·have e1 : decide (n = 0) = false := decide_eq_false h1
  by_cases h2 : m = n
  ·rw [if_pos (.inr h2)]
   have e2 : decide (m = n) = true := decide_eq_true h2
   clear h1 h2
   exact walk (code := Tryz.f27.body.getD .skip) [c D, c F1, c F2, c N, c S1, c S2, c S3, Go.Sy.e (congrArg (Value.int IntKind.i64) w1), eb e1, eb e2] fol Tryz.func27 (by kernel_rfl) (fun xs w => Tryz.call27 xs w) (by kernel_rfl)
  ·rw [if_neg (by rintro (h | h) <;> contradiction)]
   have e2 : decide (m = n) = false := decide_eq_false h2
   by_cases h3 : m = 0
   ·rw [if_pos h3]
    have e3 : decide (m = 0) = true := decide_eq_true h3
    clear h1 h2 h3
    exact walk (code := Tryz.f27.body.getD .skip) [c D, c F1, c F2, c N, c S1, c S2, c S3, Go.Sy.e (congrArg (Value.int IntKind.i64) w1), eb e1, eb e2, eb e3] fol Tryz.func27 (by kernel_rfl) (fun xs w => Tryz.call27 xs w) (by kernel_rfl)
   ·rw [if_neg h3]
    have e3 : decide (m = 0) = false := decide_eq_false h3
    clear h1 h2 h3
    exact walk (code := Tryz.f27.body.getD .skip) [c D, c F1, c F2, c N, c S1, c S2, c S3, Go.Sy.e (congrArg (Value.int IntKind.i64) w1), eb e1, eb e2, eb e3, c A, c B, c C, c T, c E, c G, c S4, Go.Sy.e (congrArg (Value.int IntKind.i64) w2)] fol Tryz.func27 (by kernel_rfl) (fun xs w => Tryz.call27 xs w) (by kernel_rfl)
end Go.Proofs.YtlblfgbpogljoaaGreatDoor
namespace Go.Proofs.YtlblfgbpogljoaaGreatDoor
open Go Go.RowKit Go.Sy
open Vi
theorem isq_all (X : Nat) : isq X * isq X ≤ X ∧ X < (isq X + 1) * (isq X + 1) := isq_spec X
theorem qNeg (x : Rl) : Sp Tryz.prog 199 [] [rlV x] (rlV x.ngR) [] := by
 have N := pNeg x.p
 obtain ⟨p, r, neg⟩ := x
 unfold Rl.ngR
 by_cases h : r = 0
 ·have B := binR0' r (b := false) (by simp [h])
  rw [decide_eq_true h]
  cases neg <;> exact walk (code := Tryz.f199.body.getD .skip) [c N, x2 B] fol Tryz.func199 (by kernel_rfl) (fun xs w => Tryz.call199 xs w) (by kernel_rfl)
 ·have B := binR0' r (b := true) (by simp [h])
  rw [decide_eq_false h]
  cases neg <;> exact walk (code := Tryz.f199.body.getD .skip) [c N, x2 B] fol Tryz.func199 (by kernel_rfl) (fun xs w => Tryz.call199 xs w) (by kernel_rfl)
theorem qScale (x : Rl) (q : Rat) (k : Nat) (hk : k ≤ 3000) [HasSz x.p k] [HasSz x.r k] [HasSz q k] : Sp Tryz.prog 171 [] [rlV x, rV q] (rlV (x.scR q)) [] := by
 have A := pMul q q fz fz
 have B := pMul (q * q) x.r fz fz
 have C := pMul x.p q fz fz
 have D := pSgn q
 have e0 : decide (sgQ q < 0) = decide (q < 0) := by
  rcases sgQ_cases q with ⟨h1, h2⟩ | ⟨h1, h2⟩ | ⟨h1, h2⟩ <;> rw [h1]
  ·rw [decide_eq_true h2]; rfl
  ·rw [show decide (q < 0) = false from decide_eq_false (by grind)]; rfl
  ·rw [show decide (q < 0) = false from decide_eq_false (by grind)]; rfl
 obtain ⟨p, r, neg⟩ := x
 unfold Rl.scR
 dsimp only at *
 by_cases h : q * q * r = 0
 ·have E := binR0' (q * q * r) (b := false) (by simp [h])
  rw [decide_eq_true h]
  clear h
  generalize q * q * r = s at *
  generalize q * q = t at *
  generalize p * q = u at *
  generalize (neg != decide (q < 0)) = v at *
  exact walk (code := Tryz.f171.body.getD .skip) [c A, c B, c C, x2 E] fol Tryz.func171 (by kernel_rfl) (fun xs w => Tryz.call171 xs w) (by kernel_rfl)
 ·have E := binR0' (q * q * r) (b := true) (by simp [h])
  rw [decide_eq_false h]
  clear h
  generalize q * q * r = s at *
  generalize q * q = t at *
  generalize p * q = u at *
  generalize decide (q < 0) = d at *
  generalize sgQ q = z at *
  cases d <;> cases neg <;> exact walk (code := Tryz.f171.body.getD .skip) [c A, c B, c C, x2 E, c D, eb e0] fol Tryz.func171 (by kernel_rfl) (fun xs w => Tryz.call171 xs w) (by kernel_rfl)
end Go.Proofs.YtlblfgbpogljoaaGreatDoor
namespace Go.Proofs.YtlblfgbpogljoaaGreatDoor
open Go Go.RowKit Go.Sy
open Vi
theorem mg_mul (x y : Int) : (mg (x * y)).size ≤ (mg x).size + (mg y).size := by
 rw [mg_nd, mg_nd, mg_nd, Int.natAbs_mul]; exact nd_mul _ _
theorem mg_add (x y : Int) : (mg (x + y)).size ≤ (mg x).size + (mg y).size + 1 := by
 rw [mg_nd, mg_nd, mg_nd]
 exact Nat.le_trans (nd_mono 256 (by omega) _ _ (Int.natAbs_add_le x y)) (nd_add _ _)
theorem mg_neg (x : Int) : (mg (-x)).size = (mg x).size := by rw [mg_nd, mg_nd, Int.natAbs_neg]
theorem mg_sub (x y : Int) : (mg (x - y)).size ≤ (mg x).size + (mg y).size + 1 := by
 rw [Int.sub_eq_add_neg]
 have := mg_add x (-y)
 rw [mg_neg] at this
 exact this
theorem mg_one : (mg 1).size = 1 := by rw [mg1]; rfl
theorem iSub (x y : Int) (hx : (mg x).size ≤ 4294967296) (hy : (mg y).size ≤ 4294967296) : Sp Tryz.prog 197 [] [iV x, iV y] (iV (x - y)) [] := Sp.of (fun xs w => Tryz.call197 xs w) (by kernel_rfl) (by kernel_rfl) (fun w => Sub_c x y w hx hy)
theorem isq_mg (z : Int) : (mg ((isq z.toNat : Nat) : Int)).size ≤ (mg z).size := by
 rw [mg_nd, mg_nd, Int.natAbs_natCast]
 refine nd_mono 256 (by omega) _ _ ?_
 have h1 := (isq_all z.toNat).1
 have h2 := Nat.le_mul_self (isq z.toNat)
 omega
noncomputable abbrev fl (x : Rl) : Int := Rl.flI isq x
theorem fl_ok (x : Rl) (hx : x.Ok) : RR.IsFl x.val (fl x) := Rl.flI_ok isq isq_all x hx
theorem fl_size (x : Rl) (k : Nat) [hp : HasSz x.p k] [hr : HasSz x.r k] : (mg (fl x)).size ≤ 6 * k + 4 := by
 have s1 := hp.sz.num
 have s2 := hp.sz.den
 have s3 := hr.sz.num
 have s4 := hr.sz.den
 have m1 := mg_mul x.p.num x.r.den
 have m2 := mg_mul (x.p.den : Int) (x.p.den : Int)
 have m3 := mg_mul x.r.num x.r.den
 have m4 := mg_mul ((x.p.den : Int) * (x.p.den : Int)) (x.r.num * x.r.den)
 have m5 := isq_mg ((x.p.den : Int) * (x.p.den : Int) * (x.r.num * x.r.den))
 have m6 := mg_add (x.p.num * x.r.den) ((isq ((x.p.den : Int) * (x.p.den : Int) * (x.r.num * x.r.den)).toNat : Nat) : Int)
 have m7 := mg_add ((isq ((x.p.den : Int) * (x.p.den : Int) * (x.r.num * x.r.den)).toNat : Nat) : Int) 1
 have m8 := mg_sub (x.p.num * x.r.den) (((isq ((x.p.den : Int) * (x.p.den : Int) * (x.r.num * x.r.den)).toNat : Nat) : Int) + 1)
 rw [mg_one] at m7
 have ht : (mg (Rl.topI isq x)).size ≤ 6 * k + 4 := by
  unfold Rl.topI
  split <;> omega
 have h4 := Int.natAbs_ediv_le_natAbs (Rl.topI isq x) ((x.p.den : Int) * (x.r.den : Int))
 exact Nat.le_trans (mg_le h4) ht
theorem qFloor (x : Rl) (k : Nat) (hk : k ≤ 20000) (hx : 0 ≤ x.r) [hp : HasSz x.p k] [hr : HasSz x.r k] : Sp Tryz.prog 173 [] [rlV x] (iV (fl x)) [] := by
 have s1 := hp.sz.num
 have s2 := hp.sz.den
 have s3 := hr.sz.num
 have s4 := hr.sz.den
 have m1 := mg_mul x.p.num x.r.den
 have m2 := mg_mul (x.p.den : Int) (x.p.den : Int)
 have m3 := mg_mul x.r.num x.r.den
 have m4 := mg_mul ((x.p.den : Int) * (x.p.den : Int)) (x.r.num * x.r.den)
 have m5 := isq_mg ((x.p.den : Int) * (x.p.den : Int) * (x.r.num * x.r.den))
 have m6 := mg_add (x.p.num * x.r.den) ((isq ((x.p.den : Int) * (x.p.den : Int) * (x.r.num * x.r.den)).toNat : Nat) : Int)
 have m7 := mg_add ((isq ((x.p.den : Int) * (x.p.den : Int) * (x.r.num * x.r.den)).toNat : Nat) : Int) 1
 have m8 := mg_sub (x.p.num * x.r.den) (((isq ((x.p.den : Int) * (x.p.den : Int) * (x.r.num * x.r.den)).toNat : Nat) : Int) + 1)
 have m9 := mg_mul (x.p.den : Int) (x.r.den : Int)
 rw [mg_one] at m7
 have d1 := den_pos' x.p
 have d2 := den_pos' x.r
 have hn : 0 ≤ (x.p.den : Int) * (x.p.den : Int) * (x.r.num * x.r.den) := Int.mul_nonneg (Int.mul_nonneg (Int.le_of_lt d1) (Int.le_of_lt d1)) (Int.mul_nonneg (Rat.num_nonneg.2 hx) (Int.le_of_lt d2))
 have hD : (x.p.den : Int) * (x.r.den : Int) ≠ 0 := Int.ne_of_gt (Int.mul_pos d1 d2)
 have N1 := pNum x.p
 have N2 := pNum x.r
 have D1 := pDen x.p
 have D2 := pDen x.r
 have M1 := iMul (x.p.den : Int) (x.p.den : Int) (by omega) (by omega)
 have M2 := iMul x.r.num (x.r.den : Int) (by omega) (by omega)
 have M3 := iMul ((x.p.den : Int) * (x.p.den : Int)) (x.r.num * x.r.den) (by omega) (by omega)
 have Q := iSqrt _ hn (by omega)
 have M4 := iMul x.p.num (x.r.den : Int) (by omega) (by omega)
 have I := iFromInt 1 (by omega) (by omega)
 have A1 := iAdd ((isq ((x.p.den : Int) * (x.p.den : Int) * (x.r.num * x.r.den)).toNat : Nat) : Int) 1 (by omega) (by rw [mg_one]; omega)
 have A2 := iAdd (x.p.num * x.r.den) ((isq ((x.p.den : Int) * (x.p.den : Int) * (x.r.num * x.r.den)).toNat : Nat) : Int) (by omega) (by omega)
 have B := iSub (x.p.num * x.r.den) (((isq ((x.p.den : Int) * (x.p.den : Int) * (x.r.num * x.r.den)).toNat : Nat) : Int) + 1) (by omega) (by omega)
 have M5 := iMul (x.p.den : Int) (x.r.den : Int) (by omega) (by omega)
 have V1 := iDivMod (x.p.num * x.r.den + ((isq ((x.p.den : Int) * (x.p.den : Int) * (x.r.num * x.r.den)).toNat : Nat) : Int)) ((x.p.den : Int) * (x.r.den : Int)) hD (by omega) (by omega)
 have V2 := iDivMod (x.p.num * x.r.den - (((isq ((x.p.den : Int) * (x.p.den : Int) * (x.r.num * x.r.den)).toNat : Nat) : Int) + 1)) ((x.p.den : Int) * (x.r.den : Int)) hD (by omega) (by omega)
 unfold fl Rl.flI Rl.topI
 clear hx s1 s2 s3 s4 m1 m2 m3 m4 m5 m6 m7 m8 m9 d1 d2 hn hD hp hr
 obtain ⟨p, r, neg⟩ := x
 dsimp only at *
 generalize ((isq ((p.den : Int) * (p.den : Int) * (r.num * r.den)).toNat : Nat) : Int) = rt at *
 generalize (p.den : Int) * (p.den : Int) * (r.num * r.den) = t1 at *
 generalize (p.den : Int) * (p.den : Int) = t2 at *
 generalize r.num * (r.den : Int) = t3 at *
 cases neg
 ·rw [if_neg (by simp)]
  clear V2
  generalize (p.num * (r.den : Int) + rt) / ((p.den : Int) * (r.den : Int)) = q at *
  generalize (p.num * (r.den : Int) + rt) % ((p.den : Int) * (r.den : Int)) = q2 at *
  generalize p.num * (r.den : Int) + rt = t4 at *
  generalize p.num * (r.den : Int) = t5 at *
  generalize (p.den : Int) * (r.den : Int) = t6 at *
  generalize (p.den : Int) = t7 at *
  generalize (r.den : Int) = t8 at *
  exact walk (code := Tryz.f173.body.getD .skip) [c N1, c D1, c N2, c D2, c M1, c M2, c M3, c Q, c M4, c A2, c M5, c V1] fol Tryz.func173 (by kernel_rfl) (fun xs w => Tryz.call173 xs w) (by kernel_rfl)
 ·rw [if_pos rfl]
  clear V1
  generalize (p.num * (r.den : Int) - (rt + 1)) / ((p.den : Int) * (r.den : Int)) = q at *
  generalize (p.num * (r.den : Int) - (rt + 1)) % ((p.den : Int) * (r.den : Int)) = q2 at *
  generalize p.num * (r.den : Int) - (rt + 1) = t4 at *
  generalize p.num * (r.den : Int) = t5 at *
  generalize rt + 1 = t9 at *
  generalize (p.den : Int) * (r.den : Int) = t6 at *
  generalize (p.den : Int) = t7 at *
  generalize (r.den : Int) = t8 at *
  exact walk (code := Tryz.f173.body.getD .skip) [c N1, c D1, c N2, c D2, c M1, c M2, c M3, c Q, c M4, c I, c A1, c B, c M5, c V2] fol Tryz.func173 (by kernel_rfl) (fun xs w => Tryz.call173 xs w) (by kernel_rfl)
theorem qCeil (x : Rl) (k : Nat) (hk : k ≤ 20000) (hx : 0 ≤ x.r) [hp : HasSz x.p k] [hr : HasSz x.r k] : Sp Tryz.prog 174 [] [rlV x] (iV (-fl x.ngR)) [] := by
 haveI : HasSz x.ngR.p k := ⟨hp.sz.neg⟩
 haveI : HasSz x.ngR.r k := hr
 have N := qNeg x
 have F := qFloor x.ngR k hk hx
 have I := iNegate (fl x.ngR)
 generalize fl x.ngR = z at *
 generalize x.ngR = y at *
 exact walk (code := Tryz.f174.body.getD .skip) [c N, c F, c I] fol Tryz.func174 (by kernel_rfl) (fun xs w => Tryz.call174 xs w) (by kernel_rfl)
theorem qWhole (n : Int) (h : (mg n).size ≤ 100000) : Sp Tryz.prog 172 [] [iV n] (rV (n : Rat)) [] := by
 have M := pMake n 1 (by omega) (by omega) (by rw [mg_one]; omega)
 rw [divInt1] at M
 have I := iFromInt 1 (by omega) (by omega)
 exact walk (code := Tryz.f172.body.getD .skip) [c I, c M] fol Tryz.func172 (by kernel_rfl) (fun xs w => Tryz.call172 xs w) (by kernel_rfl)
end Go.Proofs.YtlblfgbpogljoaaGreatDoor
namespace Go.Proofs.YtlblfgbpogljoaaGreatDoor
open Go Go.RowKit Go.Sy
open Vi
def stEn (n i : Nat) (x : Rl) : St := ⟨45, 0, [(2, ptr 0 0), (4, ptr 1 0), (5, ptr 2 0), (6, nV 0), (7, ptr 3 0), (18, nV n), (19, nV i)], junk, [(0, blk 30 [.bool (sg x.p.num), .string (mg x.p.num), .bool (sg (dn x.p)), .string (mg (dn x.p)), .bool (sg x.r.num), .string (mg x.r.num), .bool (sg (dn x.r)), .string (mg (dn x.r)), .bool x.neg]), (1, blk 28 [.bool false, .string ⟨#[]⟩, .bool false, .string ⟨#[]⟩]), (2, blk 28 [.bool false, .string ⟨#[]⟩, .bool false, .string ⟨#[]⟩]), (3, blk 26 [.bool (sg (p2 i)), .string (mg (p2 i))])], 4⟩
theorem en_loop (x : Rl) (n : Nat) (hn : n ≤ 256) : ∀ m i, i + m = n → RoundsOk Tryz.prog (nthLoop 0 (Tryz.f134.body.getD .skip)) (stEn n i x) (.exit 0) (stEn n n x)
 | 0, i, hi => by
  obtain rfl : i = n := by omega
  have e : decide ((i : Int) < (i : Int)) = false := decide_eq_false (by omega)
  refine .out (by simp) ?_
  unfold stEn
  generalize p2 i = z at *
  exact piece [(0, 0), (1, 1), (2, 2), (3, 3)] [eb e] fol (by kernel_rfl)
 | m + 1, i, hi => by
  have e : decide ((i : Int) < (n : Int)) = true := decide_eq_true (by omega)
  have w1 : IntKind.i64.wrap ((i : Int) + 1) = ((i + 1 : Nat) : Int) := by rw [w64 (by omega) (by omega)]; omega
  have zP := p2_size i 33 (by omega)
  have A := iAdd (p2 i) (p2 i) (by omega) (by omega)
  rw [Int.add_comm] at A
  have ih := en_loop x n hn m (i + 1) (by omega)
  refine .more ?_ ih
  have hs : p2 i + p2 i = p2 (i + 1) := by unfold p2; rw [Int.pow_succ]; omega
  unfold stEn
  rw [← hs]
  generalize p2 i + p2 i = z2 at *
  generalize p2 i = z at *
  exact piece [(0, 0), (1, 1), (2, 2), (3, 3)] [eb e, c A, Go.Sy.e (congrArg (Value.int IntKind.i64) w1)] fol (by kernel_rfl)
theorem qEnclose (x : Rl) (n : Nat) (hn : n ≤ 256) (k : Nat) (hk : k ≤ 1000) (hx : x.Ok) [hp : HasSz x.p k] [hr : HasSz x.r k] : Sp Tryz.prog 134 [] [rlV x, nV n] (.tuple #[rV (Rat.divInt (fl (x.scR ((p2 n : Int) : Rat))) (p2 n)), rV (Rat.divInt (-fl (x.scR ((p2 n : Int) : Rat)).ngR) (p2 n)), nV 0]) [] := by
 have e1 : decide ((n : Int) < 0) = false := decide_eq_false (by omega)
 have e2 : decide ((n : Int) > 256) = false := decide_eq_false (by omega)
 have F := iFromInt 1 (by omega) (by omega)
 have hl := (en_loop x n hn n 0 (by omega)).loop
 have hP := p2_pos n
 have zP := p2_size n 33 (by omega)
 have W := qWhole (p2 n) (by omega)
 haveI : HasSz ((p2 n : Int) : Rat) (33 + 1) := int_hs _ 33 (Nat.lt_of_lt_of_le (p2_abs n 33 (by omega)) (Nat.pow_le_pow_right (by omega) (by omega)))
 haveI i1 : HasSz ((p2 n : Int) : Rat) (k + 34) := hs_mono ‹HasSz ((p2 n : Int) : Rat) (33 + 1)› (by omega)
 haveI i2 : HasSz x.p (k + 34) := hs_mono hp (by omega)
 haveI i3 : HasSz x.r (k + 34) := hs_mono hr (by omega)
 have S := qScale x ((p2 n : Int) : Rat) (k + 34) (by omega)
 have ok := Rl.scR_ok hx ((p2 n : Int) : Rat)
 have ok2 := Rl.ngR_ok ok
 have j1 : HasSz (x.scR ((p2 n : Int) : Rat)).p (3 * (k + 34)) := hs_mono (inferInstance : HasSz (x.p * ((p2 n : Int) : Rat)) _) (show k + 34 + (k + 34) ≤ _ by omega)
 have j2 : HasSz (x.scR ((p2 n : Int) : Rat)).r (3 * (k + 34)) := hs_mono (inferInstance : HasSz (((p2 n : Int) : Rat) * ((p2 n : Int) : Rat) * x.r) _) (show k + 34 + (k + 34) + (k + 34) ≤ _ by omega)
 clear i1 i2 i3
 have j3 : HasSz (x.scR ((p2 n : Int) : Rat)).ngR.p (3 * (k + 34)) := ⟨j1.sz.neg⟩
 have j4 : HasSz (x.scR ((p2 n : Int) : Rat)).ngR.r (3 * (k + 34)) := j2
 have z1 := fl_size (x.scR ((p2 n : Int) : Rat)) (3 * (k + 34))
 have z2 := fl_size (x.scR ((p2 n : Int) : Rat)).ngR (3 * (k + 34))
 have A := qFloor (x.scR ((p2 n : Int) : Rat)) (3 * (k + 34)) (by omega) ok.nonneg
 have B := qCeil (x.scR ((p2 n : Int) : Rat)) (3 * (k + 34)) (by omega) ok.nonneg
 have C := pMake (fl (x.scR ((p2 n : Int) : Rat))) (p2 n) (by omega) (by omega) (by omega)
 have D := pMake (-fl (x.scR ((p2 n : Int) : Rat)).ngR) (p2 n) (by omega) (by rw [mg_neg]; omega) (by omega)
 clear j1 j2 j3 j4 z1 z2 ok ok2 hP zP
 unfold stEn at hl
 rw [show p2 0 = 1 from rfl] at hl
 generalize Rat.divInt (fl (x.scR ((p2 n : Int) : Rat))) (p2 n) = y1 at *
 generalize Rat.divInt (-fl (x.scR ((p2 n : Int) : Rat)).ngR) (p2 n) = y2 at *
 generalize -fl (x.scR ((p2 n : Int) : Rat)).ngR = y3 at *
 generalize fl (x.scR ((p2 n : Int) : Rat)) = y4 at *
 generalize x.scR ((p2 n : Int) : Rat) = y5 at *
 generalize ((p2 n : Int) : Rat) = y6 at *
 generalize p2 n = z at *
 obtain ⟨p, r, neg⟩ := x
 dsimp only at *
 exact walk (code := Tryz.f134.body.getD .skip) [eb e1, eb e2, c F, lp [(0, 0), (1, 1), (2, 2), (3, 3)] hl, c W, c S, c A, c C, c B, c D] fol Tryz.func134 (by kernel_rfl) (fun xs w => Tryz.call134 xs w) (by kernel_rfl)
theorem qRational (x : Rl) : Sp Tryz.prog 117 [] [rlV x] (.tuple #[if x.r = 0 then rV x.p else rZ, .bool (decide (x.r = 0))]) [] := by
 obtain ⟨p, r, neg⟩ := x
 dsimp only
 by_cases h : r = 0
 ·have B := binR0' r (b := false) (by simp [h])
  rw [if_pos h, decide_eq_true h]
  clear h
  exact walk (code := Tryz.f117.body.getD .skip) [x2 B] fol Tryz.func117 (by kernel_rfl) (fun xs w => Tryz.call117 xs w) (by kernel_rfl)
 ·have B := binR0' r (b := true) (by simp [h])
  rw [if_neg h, decide_eq_false h]
  clear h
  exact walk (code := Tryz.f117.body.getD .skip) [x2 B] fol Tryz.func117 (by kernel_rfl) (fun xs w => Tryz.call117 xs w) (by kernel_rfl)
noncomputable def ofLow (x : Rl) (n : Nat) : Rat := if x.r = 0 then x.p else Rat.divInt (fl (x.scR ((p2 n : Int) : Rat))) (p2 n)
noncomputable def ofHigh (x : Rl) (n : Nat) : Rat := if x.r = 0 then x.p else Rat.divInt (fl (x.scR ((p2 n : Int) : Rat)) + 1) (p2 n)
theorem ceil_eq (x : Rl) (n : Nat) (hx : x.Ok) (h0 : x.r ≠ 0) : -fl (x.scR ((p2 n : Int) : Rat)).ngR = fl (x.scR ((p2 n : Int) : Rat)) + 1 := by
 have ok := Rl.scR_ok hx ((p2 n : Int) : Rat)
 have hp := p2_rat n
 have h1 := fl_ok _ ok
 have h2 := fl_ok _ (Rl.ngR_ok ok)
 rw [Rl.ngR_val ok] at h2
 refine h1.neg_irr h2 (Rl.irr ok ?_ _)
 show ¬ ((p2 n : Int) : Rat) * ((p2 n : Int) : Rat) * x.r = 0
 intro e
 rcases Rat.mul_eq_zero.1 e with g | g
 ·rcases Rat.mul_eq_zero.1 g with g | g <;> (rw [g] at hp; exact Rat.lt_irrefl hp)
 ·exact h0 g
theorem eOf (x : Rl) (n : Nat) (hn : n ≤ 128) (k : Nat) (hk : k ≤ 1000) (hx : x.Ok) [hp : HasSz x.p k] [hr : HasSz x.r k] : Sp Tryz.prog 81 [] [rlV x, nV n] (.tuple #[oV (ofLow x n) (ofHigh x n), nV 0]) [] := by
 have e1 : decide ((n : Int) < 0) = false := decide_eq_false (by omega)
 have e2 : decide ((n : Int) > 128) = false := decide_eq_false (by omega)
 have R := qRational x
 unfold ofLow ofHigh
 by_cases h : x.r = 0
 ·rw [if_pos h, if_pos h]
  rw [if_pos h, decide_eq_true h] at R
  have E := eExact x.p
  clear h hx
  obtain ⟨p, r, neg⟩ := x
  dsimp only at *
  exact walk (code := Tryz.f81.body.getD .skip) [eb e1, eb e2, c R, c E] fol Tryz.func81 (by kernel_rfl) (fun xs w => Tryz.call81 xs w) (by kernel_rfl)
 ·rw [if_neg h, if_neg h]
  rw [if_neg h, decide_eq_false h] at R
  have E := qEnclose x n (by omega) k hk hx
  rw [ceil_eq x n hx h] at E
  clear h hx
  generalize Rat.divInt (fl (x.scR ((p2 n : Int) : Rat))) (p2 n) = y1 at *
  generalize Rat.divInt (fl (x.scR ((p2 n : Int) : Rat)) + 1) (p2 n) = y2 at *
  exact walk (code := Tryz.f81.body.getD .skip) [eb e1, eb e2, c R, c E] fol Tryz.func81 (by kernel_rfl) (fun xs w => Tryz.call81 xs w) (by kernel_rfl)
end Go.Proofs.YtlblfgbpogljoaaGreatDoor
namespace Go.Proofs.YtlblfgbpogljoaaGreatDoor
open Go Go.RowKit Go.Sy
open Vi
theorem rSgn (p : Rat) : Sp Tryz.prog 26 [] [rV p] (nV (sgQ p)) [] := by
 have := rSign p
 rwa [cmpI_sg] at this
theorem rCmp (p q : Rat) (hp : Fits p) (hq : Fits q) : Sp Tryz.prog 22 [] [rV p, rV q] (nV (sgQ (p - q))) [] := by
 have := rCompare p q hp hq
 rwa [cmpQ_sg] at this
theorem sgQ_lt {a : Rat} {b : Bool} (h : decide (a < 0) = b) : decide (sgQ a < 0) = b := by
 rw [← h]
 rcases sgQ_cases a with ⟨h1, h2⟩ | ⟨h1, h2⟩ | ⟨h1, h2⟩ <;> rw [h1]
 ·rw [show decide (a < 0) = true from decide_eq_true h2]; rfl
 ·rw [show decide (a < 0) = false from decide_eq_false (by grind)]; rfl
 ·rw [show decide (a < 0) = false from decide_eq_false (by grind)]; rfl
theorem sgQ_gt {a : Rat} {b : Bool} (h : decide (0 < a) = b) : decide (sgQ a > 0) = b := by
 rw [← h]
 rcases sgQ_cases a with ⟨h1, h2⟩ | ⟨h1, h2⟩ | ⟨h1, h2⟩ <;> rw [h1]
 ·rw [show decide (0 < a) = false from decide_eq_false (by grind)]; rfl
 ·rw [show decide (0 < a) = false from decide_eq_false (by grind)]; rfl
 ·rw [show decide (0 < a) = true from decide_eq_true h2]; rfl
theorem fAbove (x : Rl) (q : Rat) (k : Nat) (hk : k ≤ 5000) [HasSz x.p k] [HasSz x.r k] [HasSz q k] (hr : 0 < x.r) : Sp Tryz.prog 146 [] [rlV x, rV q] (.bool (aboveB x q)) [] := by
 rw [above_sq x q hr]
 have D := rSub q x.p fz fz
 have M := rMul (q - x.p) (q - x.p) fz fz
 have C := rCmp ((q - x.p) * (q - x.p)) x.r fz fz
 have S := rSgn (q - x.p)
 obtain ⟨p, r, neg⟩ := x
 dsimp only at *
 clear hr
 cases neg
 ·rw [if_neg (by simp)]
  cases h1 : decide (q - p < 0)
  ·have e1 := sgQ_lt h1
   cases h2 : decide ((q - p) * (q - p) - r < 0)
   ·have e2 := sgQ_lt h2
    clear h1 h2
    generalize (q - p) * (q - p) - r = t1 at *
    generalize (q - p) * (q - p) = t2 at *
    generalize q - p = t3 at *
    exact walk (code := Tryz.f146.body.getD .skip) [c D, c M, c C, c S, eb e1, eb e2] fol Tryz.func146 (by kernel_rfl) (fun xs w => Tryz.call146 xs w) (by kernel_rfl)
   ·have e2 := sgQ_lt h2
    clear h1 h2
    generalize (q - p) * (q - p) - r = t1 at *
    generalize (q - p) * (q - p) = t2 at *
    generalize q - p = t3 at *
    exact walk (code := Tryz.f146.body.getD .skip) [c D, c M, c C, c S, eb e1, eb e2] fol Tryz.func146 (by kernel_rfl) (fun xs w => Tryz.call146 xs w) (by kernel_rfl)
  ·have e1 := sgQ_lt h1
   clear h1
   generalize (q - p) * (q - p) - r = t1 at *
   generalize (q - p) * (q - p) = t2 at *
   generalize q - p = t3 at *
   exact walk (code := Tryz.f146.body.getD .skip) [c D, c M, c C, c S, eb e1] fol Tryz.func146 (by kernel_rfl) (fun xs w => Tryz.call146 xs w) (by kernel_rfl)
 ·rw [if_pos rfl]
  cases h1 : decide (q - p < 0)
  ·have e1 := sgQ_lt h1
   clear h1
   generalize (q - p) * (q - p) - r = t1 at *
   generalize (q - p) * (q - p) = t2 at *
   generalize q - p = t3 at *
   exact walk (code := Tryz.f146.body.getD .skip) [c D, c M, c C, c S, eb e1] fol Tryz.func146 (by kernel_rfl) (fun xs w => Tryz.call146 xs w) (by kernel_rfl)
  ·have e1 := sgQ_lt h1
   cases h2 : decide (0 < (q - p) * (q - p) - r)
   ·have e2 := sgQ_gt h2
    clear h1 h2
    generalize (q - p) * (q - p) - r = t1 at *
    generalize (q - p) * (q - p) = t2 at *
    generalize q - p = t3 at *
    exact walk (code := Tryz.f146.body.getD .skip) [c D, c M, c C, c S, eb e1, eb e2] fol Tryz.func146 (by kernel_rfl) (fun xs w => Tryz.call146 xs w) (by kernel_rfl)
   ·have e2 := sgQ_gt h2
    clear h1 h2
    generalize (q - p) * (q - p) - r = t1 at *
    generalize (q - p) * (q - p) = t2 at *
    generalize q - p = t3 at *
    exact walk (code := Tryz.f146.body.getD .skip) [c D, c M, c C, c S, eb e1, eb e2] fol Tryz.func146 (by kernel_rfl) (fun xs w => Tryz.call146 xs w) (by kernel_rfl)
end Go.Proofs.YtlblfgbpogljoaaGreatDoor
namespace Go.Proofs.YtlblfgbpogljoaaGreatDoor
open Go Go.RowKit Go.Sy
open Vi
theorem above_next (x : Rl) (n : Nat) (hx : x.Ok) (h0 : x.r ≠ 0) (z : Int) : aboveB x (((z : Int) : Rat) / ((p2 n : Int) : Rat)) = decide (z ≤ fl (x.scR ((p2 n : Int) : Rat))) := by
 have hp := p2_rat n
 have ok := Rl.scR_ok hx ((p2 n : Int) : Rat)
 have h1 := fl_ok _ ok
 have hi : ∀ q : Rat, (x.scR ((p2 n : Int) : Rat)).val ≠ RR.ofRat q := Rl.irr ok (by
  show ¬ ((p2 n : Int) : Rat) * ((p2 n : Int) : Rat) * x.r = 0
  intro e
  rcases Rat.mul_eq_zero.1 e with g | g
  ·rcases Rat.mul_eq_zero.1 g with g | g <;> (rw [g] at hp; exact Rat.lt_irrefl hp)
  ·exact h0 g)
 have hv := Rl.scR_val hx ((p2 n : Int) : Rat)
 have hm := RR.mul_lt_iff (d := RR.ofRat ((p2 n : Int) : Rat)) (u := RR.ofRat (((z : Int) : Rat) / ((p2 n : Int) : Rat))) (v := x.val) (RR.rat_lt.2 hp)
 have hz : ((p2 n : Int) : Rat) * (((z : Int) : Rat) / ((p2 n : Int) : Rat)) = ((z : Int) : Rat) := by
  rw [Rat.mul_comm]; exact div_mul hp
 rw [← RR.rat_mul, hz, ← hv] at hm
 unfold aboveB
 refine decide_eq_decide.2 ?_
 rw [← hm]
 constructor
 ·intro h
  have := RR.rat_lt.1 (RR.lt_trans h h1.2)
  have : z < fl (x.scR ((p2 n : Int) : Rat)) + 1 := by exact_mod_cast this
  omega
 ·intro h
  have h2 : RR.ofRat ((z : Int) : Rat) ≤ (x.scR ((p2 n : Int) : Rat)).val := RR.le_trans (RR.rat_le.2 (by exact_mod_cast h)) h1.1
  rcases RR.lt_or_eq h2 with g | g
  ·exact g
  ·exact absurd g.symm (hi _)
def rlC (x : Rl) : List Value := [.bool (sg x.p.num), .string (mg x.p.num), .bool (sg (dn x.p)), .string (mg (dn x.p)), .bool (sg x.r.num), .string (mg x.r.num), .bool (sg (dn x.r)), .string (mg (dn x.r)), .bool x.neg]
def zC8 : List Value := [.bool false, .string ⟨#[]⟩, .bool false, .string ⟨#[]⟩, .bool false, .string ⟨#[]⟩, .bool false, .string ⟨#[]⟩]
def stOf (x : Rl) (P n : Rat) (i : Nat) : St := ⟨73, 0, [(2, ptr 0 0), (4, ptr 1 0), (5, ptr 2 0), (6, ptr 3 0), (9, ptr 4 0), (10, nV i)], junk, [(0, blk 30 (rlC x)), (1, blk 53 zC8), (2, blk 28 (rC P)), (3, blk 28 (rC 1)), (4, blk 28 (rC n))], 5⟩
theorem of_loop (x : Rl) (b : Nat) (hb : b ≤ 128) (hx : x.Ok) (h0 : 0 < x.r) (K : Nat) (hK : 60 ≤ K ∧ K ≤ 1000) [HasSz x.p K] [HasSz x.r K] (hF : (fl (x.scR ((p2 b : Int) : Rat))).natAbs + 9 < 256 ^ (K + 1)) :
    ∀ (m i : Nat) (n : Int), n + m = fl (x.scR ((p2 b : Int) : Rat)) → i + m ≤ 7 → RoundsOk Tryz.prog (nthLoop 0 (Tryz.f93.body.getD .skip)) (stOf x ((p2 b : Int) : Rat) ((n : Int) : Rat) i) (.exit 0) (stOf x ((p2 b : Int) : Rat) ((fl (x.scR ((p2 b : Int) : Rat)) : Int) : Rat) (i + m))
 | 0, i, n, hn, hi => by
  obtain rfl : n = fl (x.scR ((p2 b : Int) : Rat)) := by omega
  have e : decide ((i : Int) < 8) = true := decide_eq_true (by omega)
  have hp := p2_rat b
  haveI s1 : HasSz ((p2 b : Int) : Rat) (K + 1) := int_hs _ K (Nat.lt_of_lt_of_le (p2_abs b 33 (by omega)) (Nat.pow_le_pow_right (by omega) (by omega)))
  haveI s2 : HasSz ((fl (x.scR ((p2 b : Int) : Rat)) : Int) : Rat) (K + 1) := int_hs _ K (by omega)
  haveI s3 : HasSz ((fl (x.scR ((p2 b : Int) : Rat)) + 1 : Int) : Rat) (K + 1) := int_hs _ K (by omega)
  have A := eq1 (rAdd ((fl (x.scR ((p2 b : Int) : Rat)) : Int) : Rat) 1 fz fz) (show _ = ((fl (x.scR ((p2 b : Int) : Rat)) + 1 : Int) : Rat) by rw [Rat.intCast_add]; rfl)
  have D := rDiv ((fl (x.scR ((p2 b : Int) : Rat)) + 1 : Int) : Rat) ((p2 b : Int) : Rat) (by grind) fz fz
  haveI s4 := hs_div ((fl (x.scR ((p2 b : Int) : Rat)) + 1 : Int) : Rat) ((p2 b : Int) : Rat) (K + 1) (K + 1) (by grind)
  haveI s5 : HasSz x.p (K + 1 + (K + 1)) := hs_mono ‹HasSz x.p K› (by omega)
  haveI s6 : HasSz x.r (K + 1 + (K + 1)) := hs_mono ‹HasSz x.r K› (by omega)
  have B := fAbove x (((fl (x.scR ((p2 b : Int) : Rat)) + 1 : Int) : Rat) / ((p2 b : Int) : Rat)) (K + 1 + (K + 1)) (by omega) h0
  rw [above_next x b hx (by grind), decide_eq_false (by omega)] at B
  clear s1 s2 s3 s4 s5 s6 hF hn hp hx h0
  rw [Nat.add_zero]
  refine .out (by simp) ?_
  unfold stOf
  generalize ((fl (x.scR ((p2 b : Int) : Rat)) + 1 : Int) : Rat) / ((p2 b : Int) : Rat) = y1 at *
  generalize ((fl (x.scR ((p2 b : Int) : Rat)) + 1 : Int) : Rat) = y2 at *
  generalize ((fl (x.scR ((p2 b : Int) : Rat)) : Int) : Rat) = y3 at *
  generalize ((p2 b : Int) : Rat) = y4 at *
  generalize hz : (1 : Rat) = y5 at *
  obtain ⟨p, r, neg⟩ := x
  dsimp only at *
  exact piece [(0, 0), (1, 1), (2, 2), (3, 3), (4, 4)] [eb e, c A, c D, c B] fol (by kernel_rfl)
 | m + 1, i, n, hn, hi => by
  have ih := of_loop x b hb hx h0 K hK hF m (i + 1) (n + 1) (by omega) (by omega)
  rw [show i + 1 + m = i + (m + 1) by omega] at ih
  have e : decide ((i : Int) < 8) = true := decide_eq_true (by omega)
  have w1 : IntKind.i64.wrap ((i : Int) + 1) = ((i + 1 : Nat) : Int) := by rw [w64 (by omega) (by omega)]; omega
  have hp := p2_rat b
  haveI s1 : HasSz ((p2 b : Int) : Rat) (K + 1) := int_hs _ K (Nat.lt_of_lt_of_le (p2_abs b 33 (by omega)) (Nat.pow_le_pow_right (by omega) (by omega)))
  haveI s2 : HasSz ((n : Int) : Rat) (K + 1) := int_hs _ K (by omega)
  haveI s3 : HasSz ((n + 1 : Int) : Rat) (K + 1) := int_hs _ K (by omega)
  have A := eq1 (rAdd ((n : Int) : Rat) 1 fz fz) (show _ = ((n + 1 : Int) : Rat) by rw [Rat.intCast_add]; rfl)
  have D := rDiv ((n + 1 : Int) : Rat) ((p2 b : Int) : Rat) (by grind) fz fz
  haveI s4 := hs_div ((n + 1 : Int) : Rat) ((p2 b : Int) : Rat) (K + 1) (K + 1) (by grind)
  haveI s5 : HasSz x.p (K + 1 + (K + 1)) := hs_mono ‹HasSz x.p K› (by omega)
  haveI s6 : HasSz x.r (K + 1 + (K + 1)) := hs_mono ‹HasSz x.r K› (by omega)
  have B := fAbove x (((n + 1 : Int) : Rat) / ((p2 b : Int) : Rat)) (K + 1 + (K + 1)) (by omega) h0
  rw [above_next x b hx (by grind), decide_eq_true (by omega)] at B
  clear s1 s2 s3 s4 s5 s6 hF hn hp hx h0
  refine .more ?_ ih
  unfold stOf
  generalize ((n + 1 : Int) : Rat) / ((p2 b : Int) : Rat) = y1 at *
  generalize ((n + 1 : Int) : Rat) = y2 at *
  generalize ((n : Int) : Rat) = y3 at *
  generalize ((p2 b : Int) : Rat) = y4 at *
  generalize hz : (1 : Rat) = y5 at *
  obtain ⟨p, r, neg⟩ := x
  dsimp only at *
  exact piece [(0, 0), (1, 1), (2, 2), (3, 3), (4, 4)] [eb e, c A, c D, c B, c A, Go.Sy.e (congrArg (Value.int IntKind.i64) w1)] fol (by kernel_rfl)
noncomputable def lowR (x : Rl) (b : Nat) : Rat := if x.neg then x.p - highQ x.r b else x.p + gridQ x.r b
theorem start_near (x : Rl) (b : Nat) (hx : x.Ok) : (lowR x b * ((p2 b : Int) : Rat)).floor ≤ fl (x.scR ((p2 b : Int) : Rat)) ∧ fl (x.scR ((p2 b : Int) : Rat)) ≤ (lowR x b * ((p2 b : Int) : Rat)).floor + 1 := by
 have hp := p2_rat b
 have hr := hx.nonneg
 obtain ⟨g0, g1, g2, g3, g4⟩ := tight x.r b hr
 have h1 := fl_ok _ (Rl.scR_ok hx ((p2 b : Int) : Rat))
 rw [Rl.scR_val hx] at h1
 generalize fl (x.scR ((p2 b : Int) : Rat)) = F at *
 have u1 : RR.ofRat (gridQ x.r b) ≤ RR.sqrt x.r := RR.sq_le (RR.rat_le.2 g0) (RR.sqrt_nonneg _) (by rw [RR.sqrt_sq _ hr, ← RR.rat_mul, RR.rat_le]; exact g1)
 have u2 : RR.sqrt x.r ≤ RR.ofRat (highQ x.r b) := RR.sq_le (RR.sqrt_nonneg _) (RR.rat_le.2 (by grind)) (by rw [RR.sqrt_sq _ hr, ← RR.rat_mul, RR.rat_le]; exact g2)
 have key : RR.ofRat (lowR x b) ≤ x.val ∧ RR.ofRat ((p2 b : Int) : Rat) * x.val ≤ RR.ofRat (lowR x b * ((p2 b : Int) : Rat) + 1) := by
  unfold lowR Rl.val
  generalize highQ x.r b = h at *
  generalize gridQ x.r b = g at *
  generalize RR.sqrt x.r = u at *
  generalize ((p2 b : Int) : Rat) = q at *
  have v1 := RR.sub_nonneg.2 u1
  have v2 := RR.sub_nonneg.2 u2
  have v3 : 0 ≤ RR.ofRat (1 - (h - g) * q) := RR.rat_le.2 (by grind)
  rcases Rl.s_cases x with ⟨n1, n2⟩ | ⟨n1, n2⟩ <;> rw [n1, n2]
  ·rw [if_pos rfl]
   constructor
   ·exact RR.le_of_nonneg _ v2 (RR.ring [x.p, h, u] (by decide +kernel))
   ·refine RR.le_of_nonneg (RR.ofRat q * (u - RR.ofRat g) + RR.ofRat (1 - (h - g) * q)) (RR.add_nonneg (RR.mul_nonneg (RR.rat_le.2 (Rat.le_of_lt hp)) v1) v3) (RR.ring [x.p, h, g, u, q] (by decide +kernel))
  ·rw [if_neg (by simp)]
   constructor
   ·exact RR.le_of_nonneg _ v1 (RR.ring [x.p, g, u] (by decide +kernel))
   ·refine RR.le_of_nonneg (RR.ofRat q * (RR.ofRat h - u) + RR.ofRat (1 - (h - g) * q)) (RR.add_nonneg (RR.mul_nonneg (RR.rat_le.2 (Rat.le_of_lt hp)) v2) v3) (RR.ring [x.p, h, g, u, q] (by decide +kernel))
 have k2 : RR.ofRat (lowR x b * ((p2 b : Int) : Rat)) ≤ RR.ofRat ((p2 b : Int) : Rat) * x.val := by
  have := (RR.mul_le_iff (d := RR.ofRat ((p2 b : Int) : Rat)) (RR.rat_lt.2 hp)).2 key.1
  rwa [← RR.rat_mul, Rat.mul_comm] at this
 have k3 := key.2
 generalize RR.ofRat ((p2 b : Int) : Rat) * x.val = v at *
 generalize lowR x b * ((p2 b : Int) : Rat) = t at *
 have f1 := Rat.floor_le t
 have f2 := Rat.lt_floor_add_one t
 constructor
 ·have a1 := RR.rat_lt.1 (RR.lt_of_le_of_lt (RR.le_trans (RR.rat_le.2 f1) k2) h1.2)
  have a1 : t.floor < F + 1 := by exact_mod_cast a1
  omega
 ·have a2 : ((F : Int) : Rat) < ((t.floor + 2 : Int) : Rat) := RR.rat_lt.1 (RR.lt_of_le_of_lt (RR.le_trans h1.1 k3) (RR.rat_lt.2 (by rw [Rat.intCast_add]; have e : ((2 : Int) : Rat) = 2 := rfl; rw [e]; grind)))
  have a2 : F < t.floor + 2 := by exact_mod_cast a2
  omega
theorem fl_abs (x : Rl) (b : Nat) (hb : b ≤ 128) (K : Nat) (hK : K = 901) [hp : HasSz x.p 10] [hr : HasSz x.r 10] : (fl (x.scR ((p2 b : Int) : Rat))).natAbs + 9 < 256 ^ (K + 1) := by
 haveI : HasSz ((p2 b : Int) : Rat) (19 + 1) := int_hs _ 19 (p2_abs b 20 (by omega))
 have j1 : HasSz (x.scR ((p2 b : Int) : Rat)).p 60 := hs_mono (inferInstance : HasSz (x.p * ((p2 b : Int) : Rat)) _) (by omega)
 have j2 : HasSz (x.scR ((p2 b : Int) : Rat)).r 60 := hs_mono (inferInstance : HasSz (((p2 b : Int) : Rat) * ((p2 b : Int) : Rat) * x.r) _) (by omega)
 have h := fl_size (x.scR ((p2 b : Int) : Rat)) 60
 rw [mg_nd] at h
 have h1 := lt_pow_nd 256 (by omega) (fl (x.scR ((p2 b : Int) : Rat))).natAbs
 obtain ⟨j, rfl⟩ : ∃ j, K = j + 1 := ⟨900, hK⟩
 have h2 := Nat.pow_le_pow_right (show 0 < 256 by omega) (show nd 256 (fl (x.scR ((p2 b : Int) : Rat))).natAbs ≤ j by omega)
 have h3 : (256 : Nat) ^ (j + 1 + 1) = 256 ^ (j + 1) * 256 := Nat.pow_succ ..
 have h4 : (256 : Nat) ^ (j + 1) = 256 ^ j * 256 := Nat.pow_succ ..
 have h5 : 0 < (256 : Nat) ^ j := Nat.pow_pos (by omega)
 generalize (256 : Nat) ^ j = w at *
 omega
theorem fOfR (x : Rl) (b : Nat) (hb : b ≤ 128) (hx : x.Ok) [hp : HasSz x.p 10] [hr : HasSz x.r 10] : Sp Tryz.prog 93 [] [rlV x, nV b] (oV (ofLow x b) (ofHigh x b)) [] := by
 unfold ofLow ofHigh
 by_cases h : x.r = 0
 ·have B := binR0 x.r (b := true) (by simp [h])
  rw [if_pos h, if_pos h]
  clear h hx
  obtain ⟨p, r, neg⟩ := x
  dsimp only at *
  exact walk (code := Tryz.f93.body.getD .skip) [x2 B] fol Tryz.func93 (by kernel_rfl) (fun xs w => Tryz.call93 xs w) (by kernel_rfl)
 ·have B := binR0 x.r (b := false) (by simp [h])
  have h0 : 0 < x.r := by have := hx.nonneg; grind
  have hp2 := p2_rat b
  obtain ⟨K, hK⟩ : ∃ K : Nat, K = 901 := ⟨_, rfl⟩
  have hF := fl_abs x b hb K hK
  haveI s1 : HasSz x.p K := hs_mono hp (by omega)
  haveI s2 : HasSz x.r K := hs_mono hr (by omega)
  obtain ⟨n1, n2⟩ := start_near x b hx
  have hl := of_loop x b hb hx h0 K (by omega) hF (fl (x.scR ((p2 b : Int) : Rat)) - ((lowR x b * ((p2 b : Int) : Rat)).floor - 1)).toNat 0 ((lowR x b * ((p2 b : Int) : Rat)).floor - 1) (by omega) (by omega)
  have hl := hl.loop
  clear s1 s2
  have P := fPower b (by omega)
  have O := rOne
  haveI s3 : HasSz x.r 40 := hs_mono hr (by omega)
  have S := fSqrt x.r x.r b hb hx.nonneg hx.nonneg
  haveI s4 := gridQ_sz x.r b hx.nonneg (by omega)
  haveI s5 := highQ_sz x.r b hx.nonneg (by omega)
  haveI s6 : HasSz ((p2 b : Int) : Rat) (19 + 1) := int_hs _ 19 (p2_abs b 20 (by omega))
  clear s3
  have A := rAdd x.p (gridQ x.r b) fz fz
  have D := rSub x.p (highQ x.r b) fz fz
  haveI s7 : HasSz (lowR x b) 160 := by
   unfold lowR
   split
   ·exact hs_mono (inferInstance : HasSz (x.p - highQ x.r b) _) (by omega)
   ·exact hs_mono (inferInstance : HasSz (x.p + gridQ x.r b) _) (by omega)
  have M := rMul (lowR x b) ((p2 b : Int) : Rat) fz fz
  have f1 : Fits (lowR x b * ((p2 b : Int) : Rat)) := fz
  have Fl := rFloor _ f1
  have ff : Fits (((lowR x b * ((p2 b : Int) : Rat)).floor : Int) : Rat) := by
   have h4 := Int.natAbs_ediv_le_natAbs (lowR x b * ((p2 b : Int) : Rat)).num ((lowR x b * ((p2 b : Int) : Rat)).den : Int)
   rw [← floor_of] at h4
   exact Fits.int (Nat.le_trans (nd_mono 256 (by omega) _ _ h4) f1.1)
  have N := eq1 (rSub _ 1 ff fz) (show _ = (((lowR x b * ((p2 b : Int) : Rat)).floor - 1 : Int) : Rat) by rw [Rat.intCast_sub]; rfl)
  have fF : Fits ((fl (x.scR ((p2 b : Int) : Rat)) : Int) : Rat) := (int_hs _ K (by omega) : HasSz _ (K + 1)).sz.fits (by omega)
  have fF1 : Fits ((fl (x.scR ((p2 b : Int) : Rat)) + 1 : Int) : Rat) := (int_hs _ K (by omega) : HasSz _ (K + 1)).sz.fits (by omega)
  have D1 := eq1 (rDiv ((fl (x.scR ((p2 b : Int) : Rat)) : Int) : Rat) ((p2 b : Int) : Rat) (by grind) fF fz) (Rat.divInt_eq_div ..).symm
  have A1 := eq1 (rAdd ((fl (x.scR ((p2 b : Int) : Rat)) : Int) : Rat) 1 fF fz) (show _ = ((fl (x.scR ((p2 b : Int) : Rat)) + 1 : Int) : Rat) by rw [Rat.intCast_add]; rfl)
  have D2 := eq1 (rDiv ((fl (x.scR ((p2 b : Int) : Rat)) + 1 : Int) : Rat) ((p2 b : Int) : Rat) (by grind) fF1 fz) (Rat.divInt_eq_div ..).symm
  rw [if_neg h, if_neg h]
  have hlow : (x.neg = true ∧ lowR x b = x.p - highQ x.r b) ∨ (x.neg = false ∧ lowR x b = x.p + gridQ x.r b) := by
   unfold lowR
   cases x.neg <;> simp
  clear h h0 hp2 hF n1 n2 s4 s5 s6 s7 f1 ff fF fF1 hx
  unfold stOf rlC at hl
  generalize Rat.divInt (fl (x.scR ((p2 b : Int) : Rat))) (p2 b) = y1 at *
  generalize Rat.divInt (fl (x.scR ((p2 b : Int) : Rat)) + 1) (p2 b) = y2 at *
  generalize ((fl (x.scR ((p2 b : Int) : Rat)) + 1 : Int) : Rat) = y3 at *
  generalize (0 + (fl (x.scR ((p2 b : Int) : Rat)) - ((lowR x b * ((p2 b : Int) : Rat)).floor - 1)).toNat) = m at *
  generalize ((fl (x.scR ((p2 b : Int) : Rat)) : Int) : Rat) = y4 at *
  generalize (((lowR x b * ((p2 b : Int) : Rat)).floor - 1 : Int) : Rat) = y5 at *
  generalize (((lowR x b * ((p2 b : Int) : Rat)).floor : Int) : Rat) = y6 at *
  generalize lowR x b * ((p2 b : Int) : Rat) = y7 at *
  generalize ((p2 b : Int) : Rat) = y8 at *
  generalize hy : (1 : Rat) = y9 at *
  rcases hlow with ⟨q1, q2⟩ | ⟨q1, q2⟩
  ·rw [← q2] at D
   generalize x.p + gridQ x.r b = z1 at *
   clear q2
   generalize lowR x b = z2 at *
   generalize gridQ x.r b = z3 at *
   generalize highQ x.r b = z4 at *
   obtain ⟨p, r, neg⟩ := x
   dsimp only at *
   subst q1
   exact walk (code := Tryz.f93.body.getD .skip) [x2 B, c P, c O, c S, c A, c D, c M, c Fl, c N, lp [(0, 0), (1, 1), (2, 2), (3, 3), (4, 6)] hl, c D1, c A1, c D2] fol Tryz.func93 (by kernel_rfl) (fun xs w => Tryz.call93 xs w) (by kernel_rfl)
  ·rw [← q2] at A
   clear q2
   generalize lowR x b = z2 at *
   generalize gridQ x.r b = z3 at *
   generalize highQ x.r b = z4 at *
   obtain ⟨p, r, neg⟩ := x
   dsimp only at *
   subst q1
   exact walk (code := Tryz.f93.body.getD .skip) [x2 B, c P, c O, c S, c A, c M, c Fl, c N, lp [(0, 0), (1, 1), (2, 2), (3, 3), (4, 6)] hl, c D1, c A1, c D2] fol Tryz.func93 (by kernel_rfl) (fun xs w => Tryz.call93 xs w) (by kernel_rfl)
end Go.Proofs.YtlblfgbpogljoaaGreatDoor
namespace Go.Proofs.YtlblfgbpogljoaaGreatDoor
open Go Go.RowKit Go.Sy
open Vi
theorem sq_hs {y q : Rat} (h : y * y = q) (k : Nat) (hq : HasSz q k) : HasSz y k := by
 obtain ⟨a1, a2⟩ := sq_parts y
 rw [h] at a1 a2
 have h1 := hq.sz.1
 have h2 := hq.sz.2
 rw [a1, Int.natAbs_mul] at h1
 rw [a2] at h2
 have h3 := Nat.le_mul_self y.num.natAbs
 have h4 := Nat.le_mul_self y.den
 exact ⟨⟨by omega, by omega⟩⟩
def RootOk (n1 d1 n2 d2 : Int) : Prop := PairOk n1 d1 n2 d2
def rootV (n1 d1 n2 d2 : Int) (neg : Bool) : Value := .agg #[.int .i32 n1, .int .u16 d1, .int .i32 n2, .int .u16 d2, .bool neg]
theorem vRoot (n1 d1 n2 d2 : Int) (neg : Bool) (h : RootOk n1 d1 n2 d2) : ∃ x : Rl, x.Ok ∧ HasSz x.p 10 ∧ HasSz x.r 10 ∧ Sp Tryz.prog 80 [] [rootV n1 d1 n2 d2 neg] (rlV x) [] := by
 obtain ⟨p, sp, _, kp⟩ := vPart n1 d1 h.1 h.2.1
 obtain ⟨q, sq, _, kq⟩ := vPart n2 d2 h.2.2.1 h.2.2.2
 have G := rSign q
 have N := rNeg q
 have main : ∀ r : Rat, HasSz r 4 → 0 ≤ r → (r = q ∧ (cmpI q.num 0 = 0 ∨ cmpI q.num 0 = 1)) ∨ (r = -q ∧ cmpI q.num 0 = -1) → ∃ x : Rl, x.Ok ∧ HasSz x.p 10 ∧ HasSz x.r 10 ∧ Sp Tryz.prog 80 [] [rootV n1 d1 n2 d2 neg] (rlV x) [] := by
  intro r sr r0 hr
  rcases rRoot r fz with ⟨y, y0, y1, R⟩ | ⟨hno, R⟩
  ·haveI sy := sq_hs y1 4 sr
   have A1 := rAdd p y fz fz
   have N2 := rNeg y
   have A2 := rAdd p (-y) fz fz
   have z := rV0
   clear y0 y1 r0
   cases neg
   ·refine ⟨Rl.rat (p + y), Rl.rat_ok _, hs_mono (inferInstance : HasSz (p + y) _) (by omega), hs_mono (inferInstance : HasSz (0 : Rat) 1) (by omega), ?_⟩
    unfold Rl.rat rlV rootV
    rw [show (0 : Rat).num = 0 from rfl, show dn 0 = 0 from rfl, sg0, mg0]
    clear sy
    dsimp only
    generalize p + y = s at *
    rcases hr with ⟨rfl, hc | hc⟩ | ⟨rfl, hc⟩
    ·rw [hc] at G
     exact walk (code := Tryz.f80.body.getD .skip) [c kp, c kq, c G, c R, c A1] fol Tryz.func80 (by kernel_rfl) (fun xs w => Tryz.call80 xs w) (by kernel_rfl)
    ·rw [hc] at G
     exact walk (code := Tryz.f80.body.getD .skip) [c kp, c kq, c G, c R, c A1] fol Tryz.func80 (by kernel_rfl) (fun xs w => Tryz.call80 xs w) (by kernel_rfl)
    ·rw [hc] at G
     generalize -q = nq at *
     exact walk (code := Tryz.f80.body.getD .skip) [c kp, c kq, c G, c N, c R, c A1] fol Tryz.func80 (by kernel_rfl) (fun xs w => Tryz.call80 xs w) (by kernel_rfl)
   ·refine ⟨Rl.rat (p + -y), Rl.rat_ok _, hs_mono (inferInstance : HasSz (p + -y) _) (by omega), hs_mono (inferInstance : HasSz (0 : Rat) 1) (by omega), ?_⟩
    unfold Rl.rat rlV rootV
    rw [show (0 : Rat).num = 0 from rfl, show dn 0 = 0 from rfl, sg0, mg0]
    clear sy
    dsimp only
    generalize p + -y = s at *
    generalize -y = ny at *
    rcases hr with ⟨rfl, hc | hc⟩ | ⟨rfl, hc⟩
    ·rw [hc] at G
     exact walk (code := Tryz.f80.body.getD .skip) [c kp, c kq, c G, c R, c N2, c A2] fol Tryz.func80 (by kernel_rfl) (fun xs w => Tryz.call80 xs w) (by kernel_rfl)
    ·rw [hc] at G
     exact walk (code := Tryz.f80.body.getD .skip) [c kp, c kq, c G, c R, c N2, c A2] fol Tryz.func80 (by kernel_rfl) (fun xs w => Tryz.call80 xs w) (by kernel_rfl)
    ·rw [hc] at G
     generalize -q = nq at *
     exact walk (code := Tryz.f80.body.getD .skip) [c kp, c kq, c G, c N, c R, c N2, c A2] fol Tryz.func80 (by kernel_rfl) (fun xs w => Tryz.call80 xs w) (by kernel_rfl)
  ·refine ⟨⟨p, r, neg⟩, .inr ⟨?_, hno⟩, hs_mono sp (by omega), hs_mono sr (by omega), ?_⟩
   ·show 0 < r
    have := hno 0
    grind
   unfold rlV rootV
   dsimp only
   clear hno r0
   rcases hr with ⟨rfl, hc | hc⟩ | ⟨rfl, hc⟩
   ·rw [hc] at G
    exact walk (code := Tryz.f80.body.getD .skip) [c kp, c kq, c G, c R] fol Tryz.func80 (by kernel_rfl) (fun xs w => Tryz.call80 xs w) (by kernel_rfl)
   ·rw [hc] at G
    exact walk (code := Tryz.f80.body.getD .skip) [c kp, c kq, c G, c R] fol Tryz.func80 (by kernel_rfl) (fun xs w => Tryz.call80 xs w) (by kernel_rfl)
   ·rw [hc] at G
    generalize -q = nq at *
    exact walk (code := Tryz.f80.body.getD .skip) [c kp, c kq, c G, c N, c R] fol Tryz.func80 (by kernel_rfl) (fun xs w => Tryz.call80 xs w) (by kernel_rfl)
 rcases sgn_cases q with ⟨h1, h2⟩ | ⟨h1, h2⟩ | ⟨h1, h2⟩
 ·exact main (-q) inferInstance (by grind) (.inr ⟨rfl, h1⟩)
 ·exact main q sq (by grind) (.inl ⟨rfl, .inl h1⟩)
 ·exact main q sq (by grind) (.inl ⟨rfl, .inr h1⟩)
theorem of_in (x : Rl) (b : Nat) (hx : x.Ok) : RR.ofRat (ofLow x b) ≤ x.val ∧ x.val ≤ RR.ofRat (ofHigh x b) := by
 unfold ofLow ofHigh
 by_cases h : x.r = 0
 ·rw [if_pos h, if_pos h]
  have e : x.val = RR.ofRat x.p := by
   unfold Rl.val
   rw [h, RR.sqrt_zero]
   exact RR.ring [x.p, x.s] (by decide +kernel)
  rw [e]
  exact ⟨RR.le_refl _, RR.le_refl _⟩
 ·rw [if_neg h, if_neg h, Rat.divInt_eq_div, Rat.divInt_eq_div]
  have hp := p2_rat b
  have h1 := fl_ok _ (Rl.scR_ok hx ((p2 b : Int) : Rat))
  rw [Rl.scR_val hx] at h1
  have dm : ∀ t : Rat, ((p2 b : Int) : Rat) * (t / ((p2 b : Int) : Rat)) = t := fun t => by rw [Rat.mul_comm]; exact div_mul hp
  have hq : 0 < RR.ofRat ((p2 b : Int) : Rat) := RR.rat_lt.2 hp
  constructor
  ·refine (RR.mul_le_iff hq).1 ?_
   rw [← RR.rat_mul, dm]; exact h1.1
  ·refine (RR.mul_le_iff hq).1 ?_
   rw [← RR.rat_mul, dm]; exact RR.le_of_lt h1.2
theorem of_sz (x : Rl) (b : Nat) (hb : b ≤ 128) [hp : HasSz x.p 10] [hr : HasSz x.r 10] : HasSz (ofLow x b) 902 ∧ HasSz (ofHigh x b) 902 := by
 obtain ⟨K, hK⟩ : ∃ K : Nat, K = 901 := ⟨_, rfl⟩
 have hF := fl_abs x b hb K hK
 have h1 := Nat.lt_of_lt_of_le (p2_abs b 33 (by omega)) (Nat.pow_le_pow_right (show 0 < 256 by omega) (show 33 ≤ K + 1 by omega))
 have h2 := p2_pos b
 unfold ofLow ofHigh
 constructor
 ·split
  ·exact hs_mono hp (by omega)
  ·exact hs_mono (⟨Sz.of _ _ (K + 1) (by omega) (by omega) h1⟩ : HasSz _ (K + 1)) (by omega)
 ·split
  ·exact hs_mono hp (by omega)
  ·exact hs_mono (⟨Sz.of _ _ (K + 1) (by omega) (by omega) h1⟩ : HasSz _ (K + 1)) (by omega)
end Go.Proofs.YtlblfgbpogljoaaGreatDoor

end
section
/- Lengths of intervals: sums of bounds (no program in sight), and the bounds' operations for larger fractions. -/
namespace Go.Proofs.YtlblfgbpogljoaaGreatDoor
open Go Go.RowKit Go.Sy
open Vi
theorem lsQ_le {a b : Rat} (h : a ≤ b) : lsQ a b = a := by unfold lsQ; rw [if_neg (by grind)]
theorem grQ_le {a b : Rat} (h : a ≤ b) : grQ a b = b := by unfold grQ; split <;> grind
theorem fLeast2B (a b : Rat) (ha : Fits a) (hb : Fits b) : Sp Tryz.prog 177 [(2, rC a ++ rC b)] [row 0 2] (rV (lsQ a b)) [] := by
 have C0 := rCmp0 a ha
 have C1 := rCompare b a hb ha
 rcases lsQ_cases a b with ⟨h1, g1⟩ | ⟨h1, g1⟩ <;> have e1 := cmpQ_lss h1 <;> rw [g1] <;> exact walk (code := Tryz.f177.body.getD .skip) [c C0, c C1, eb e1] fol Tryz.func177 (by kernel_rfl) (fun xs w => Tryz.call177 xs w) (by kernel_rfl)
theorem fGreatest2B (a b : Rat) (ha : Fits a) (hb : Fits b) : Sp Tryz.prog 178 [(2, rC a ++ rC b)] [row 0 2] (rV (grQ a b)) [] := by
 have C0 := rCmp0 a ha
 have C1 := rCompare b a hb ha
 rcases grQ_cases a b with ⟨h1, g1⟩ | ⟨h1, g1⟩ <;> have e1 := cmpQ_gtr h1 <;> rw [g1] <;> exact walk (code := Tryz.f178.body.getD .skip) [c C0, c C1, eb e1] fol Tryz.func178 (by kernel_rfl) (fun xs w => Tryz.call178 xs w) (by kernel_rfl)
theorem fAround2B (a b : Rat) (ha : Fits a) (hb : Fits b) (h : a ≤ b) : Sp Tryz.prog 142 [(2, rC a ++ rC b)] [row 0 2] (oV a b) [] := by
 have L1 := fLeast2B a b ha hb
 have G1 := fGreatest2B a b ha hb
 rw [lsQ_le h] at L1
 rw [grQ_le h] at G1
 exact walk (code := Tryz.f142.body.getD .skip) [cr L1, cr G1] fol Tryz.func142 (by kernel_rfl) (fun xs w => Tryz.call142 xs w) (by kernel_rfl)
theorem fAddB (a b c d : Rat) (ha : Fits a) (hb : Fits b) (hc : Fits c) (hd : Fits d) (h1 : Fits (a + c)) (h2 : Fits (b + d)) (h : a + c ≤ b + d) : Sp Tryz.prog 94 [] [oV a b, oV c d] (oV (a + c) (b + d)) [] := by
 have A := fAround2B (a + c) (b + d) h1 h2 h
 exact walk (code := Tryz.f94.body.getD .skip) [Sy.c (rAdd a c ha hc), Sy.c (rAdd b d hb hd), cr A] fol Tryz.func94 (by kernel_rfl) (fun xs w => Tryz.call94 xs w) (by kernel_rfl)
theorem fSubB (a b c d : Rat) (ha : Fits a) (hb : Fits b) (hc : Fits c) (hd : Fits d) (h1 : Fits (a - d)) (h2 : Fits (b - c)) (h : a - d ≤ b - c) : Sp Tryz.prog 92 [] [oV a b, oV c d] (oV (a - d) (b - c)) [] := by
 have A := fAround2B (a - d) (b - c) h1 h2 h
 exact walk (code := Tryz.f92.body.getD .skip) [Sy.c (rSub a d ha hd), Sy.c (rSub b c hb hc), cr A] fol Tryz.func92 (by kernel_rfl) (fun xs w => Tryz.call92 xs w) (by kernel_rfl)
theorem maxQ0 (a : Rat) : maxQ a 0 = if a < 0 then 0 else a := by unfold maxQ; split <;> split <;> grind
noncomputable def lnA (F T : Rl) (n : Nat) : Rat := ofLow T n - ofHigh F n
noncomputable def lnB (F T : Rl) (n : Nat) : Rat := ofHigh T n - ofLow F n
theorem ln_pos {F T : Rl} {n : Nat} (hF : F.Ok) (hT : T.Ok) (h : F.val ≤ T.val) : 0 ≤ lnB F T n := by
 have h1 := (of_in F n hF).1
 have h2 := (of_in T n hT).2
 have := RR.rat_le.1 (RR.le_trans h1 (RR.le_trans h h2))
 unfold lnB
 grind
theorem of_le (x : Rl) (n : Nat) (hx : x.Ok) : ofLow x n ≤ ofHigh x n := by
 obtain ⟨h1, h2⟩ := of_in x n hx
 exact RR.rat_le.1 (RR.le_trans h1 h2)
theorem ln_le {F T : Rl} {n : Nat} (hF : F.Ok) (hT : T.Ok) : lnA F T n ≤ lnB F T n := by
 have h1 := of_le F n hF
 have h2 := of_le T n hT
 unfold lnA lnB
 grind
theorem max_le {F T : Rl} {n : Nat} (hF : F.Ok) (hT : T.Ok) (h : F.val ≤ T.val) : maxQ (lnA F T n) 0 ≤ lnB F T n := maxQ_le.2 ⟨ln_le hF hT, ln_pos hF hT h⟩
theorem of_wide (x : Rl) (n : Nat) : ofHigh x n - ofLow x n ≤ 1 / ((p2 n : Int) : Rat) := by
 have hp := p2_rat n
 unfold ofLow ofHigh
 split
 ·have : 0 ≤ 1 / ((p2 n : Int) : Rat) := by
    rw [Rat.div_def, Rat.one_mul]
    exact Rat.le_of_lt (Rat.inv_pos.2 hp)
  grind
 ·rw [Rat.divInt_eq_div, Rat.divInt_eq_div, Rat.intCast_add, Rat.div_def, Rat.div_def, Rat.div_def]
  show ((fl (x.scR ((p2 n : Int) : Rat)) : Int) + ((1 : Int) : Rat)) * _ - _ ≤ 1 * _
  rw [show ((1 : Int) : Rat) = 1 from rfl]
  grind
theorem ln_wide (F T : Rl) (n : Nat) : lnB F T n - maxQ (lnA F T n) 0 ≤ 2 * (1 / ((p2 n : Int) : Rat)) := by
 have h1 := of_wide F n
 have h2 := of_wide T n
 have h3 := (maxQ_ge (lnA F T n) 0).1
 unfold lnA lnB at *
 grind
def itC (x : Rl × Rl) : List Value := [.bool (sg x.1.p.num), .string (mg x.1.p.num), .bool (sg (dn x.1.p)), .string (mg (dn x.1.p)), .bool (sg x.1.r.num), .string (mg x.1.r.num), .bool (sg (dn x.1.r)), .string (mg (dn x.1.r)), .bool x.1.neg,
 .bool (sg x.2.p.num), .string (mg x.2.p.num), .bool (sg (dn x.2.p)), .string (mg (dn x.2.p)), .bool (sg x.2.r.num), .string (mg x.2.r.num), .bool (sg (dn x.2.r)), .string (mg (dn x.2.r)), .bool x.2.neg, .bool false, .bool false]
def itV (x : Rl × Rl) : Value := .agg ⟨itC x⟩
def its : List (Rl × Rl) → List Value
 | [] => []
 | x :: l => itC x ++ its l
def IvOk (x : Rl × Rl) : Prop := x.1.Ok ∧ x.2.Ok ∧ x.1.val ≤ x.2.val ∧ HasSz x.1.p 10 ∧ HasSz x.1.r 10 ∧ HasSz x.2.p 10 ∧ HasSz x.2.r 10
noncomputable def lnS (n : Nat) : List (Rl × Rl) → Rat → Rat → Rat × Rat
 | [], s, S => (s, S)
 | x :: l, s, S => lnS n l (s + maxQ (lnA x.1 x.2 n) 0) (S + lnB x.1 x.2 n)
end Go.Proofs.YtlblfgbpogljoaaGreatDoor

end
section
/- The package enclosure: Length. -/
namespace Go.Proofs.YtlblfgbpogljoaaGreatDoor
open Go Go.RowKit Go.Sy
open Vi
structure LenOk (b : Int) (x : Rl × Rl) (u : Value) (fl fh tl th lo hi mx s S : Rat) : Prop where
 OF : Sp Tryz.prog 81 [] [rlV x.1, nV b] (.tuple #[oV fl fh, nV 0]) []
 OT : Sp Tryz.prog 81 [] [rlV x.2, nV b] (.tuple #[oV tl th, nV 0]) []
 Su : Sp Tryz.prog 82 [] [oV tl th, oV fl fh] (oV lo hi) []
 Gr : Sp Tryz.prog 83 [(2, rC lo ++ [.bool false, .string ⟨#[]⟩, .bool false, .string ⟨#[]⟩])] [row 0 2] (rV mx) []
 Ad : Sp Tryz.prog 84 [] [u, oV mx hi] (oV s S) []
theorem eLenA (b : Int) (h : decide (b < 0) = true) (n : Nat) (L : List Value) : Sp Tryz.prog 18 [(n, L)] [row 0 n, nV b] (.tuple #[oZ, nV 2]) [] := by
 exact walk (code := Tryz.f18.body.getD .skip) [eb h] fol Tryz.func18 (by kernel_rfl) (fun xs w => Tryz.call18 xs w) (by kernel_rfl)
theorem eLenB (b : Int) (h : decide (b < 0) = false) (h2 : decide (b > 128) = true) (n : Nat) (L : List Value) : Sp Tryz.prog 18 [(n, L)] [row 0 n, nV b] (.tuple #[oZ, nV 2]) [] := by
 exact walk (code := Tryz.f18.body.getD .skip) [eb h, eb h2] fol Tryz.func18 (by kernel_rfl) (fun xs w => Tryz.call18 xs w) (by kernel_rfl)
theorem eLenA0 (b : Int) (h : decide (b < 0) = true) : Sp Tryz.prog 18 [] [.slice none 0 0, nV b] (.tuple #[oZ, nV 2]) [] := by
 exact walk (code := Tryz.f18.body.getD .skip) [eb h] fol Tryz.func18 (by kernel_rfl) (fun xs w => Tryz.call18 xs w) (by kernel_rfl)
theorem eLenB0 (b : Int) (h : decide (b < 0) = false) (h2 : decide (b > 128) = true) : Sp Tryz.prog 18 [] [.slice none 0 0, nV b] (.tuple #[oZ, nV 2]) [] := by
 exact walk (code := Tryz.f18.body.getD .skip) [eb h, eb h2] fol Tryz.func18 (by kernel_rfl) (fun xs w => Tryz.call18 xs w) (by kernel_rfl)
theorem eLen0 (b : Int) (h : decide (b < 0) = false) (h2 : decide (b > 128) = false) : Sp Tryz.prog 18 [] [.slice none 0 0, nV b] (.tuple #[oZ, nV 0]) [] := by
 exact walk (code := Tryz.f18.body.getD .skip) [eb h, eb h2] fol Tryz.func18 (by kernel_rfl) (fun xs w => Tryz.call18 xs w) (by kernel_rfl)
theorem eLen1 (b : Int) (h : decide (b < 0) = false) (h2 : decide (b > 128) = false) (x1 : Rl × Rl) (fl1 fh1 tl1 th1 lo1 hi1 mx1 s1 S1 : Rat)
    (H1 : LenOk b x1 oZ fl1 fh1 tl1 th1 lo1 hi1 mx1 s1 S1) :
    Sp Tryz.prog 18 [(1, its [x1])] [row 0 1, nV b] (.tuple #[oV s1 S1, nV 0]) [] := by
 obtain ⟨OF1, OT1, Su1, Gr1, Ad1⟩ := H1
 obtain ⟨⟨p1, q1, w1⟩, ⟨u1, v1, y1⟩⟩ := x1
 dsimp only at *
 exact walk (code := Tryz.f18.body.getD .skip) [eb h, eb h2, c OF1, c OT1, c Su1, cr Gr1, c Ad1] fol Tryz.func18 (by kernel_rfl) (fun xs w => Tryz.call18 xs w) (by kernel_rfl)
theorem eLen2 (b : Int) (h : decide (b < 0) = false) (h2 : decide (b > 128) = false) (x1 x2 : Rl × Rl) (fl1 fh1 tl1 th1 lo1 hi1 mx1 s1 S1 fl2 fh2 tl2 th2 lo2 hi2 mx2 s2 S2 : Rat)
    (H1 : LenOk b x1 oZ fl1 fh1 tl1 th1 lo1 hi1 mx1 s1 S1)
    (H2 : LenOk b x2 (oV s1 S1) fl2 fh2 tl2 th2 lo2 hi2 mx2 s2 S2) :
    Sp Tryz.prog 18 [(2, its [x1, x2])] [row 0 2, nV b] (.tuple #[oV s2 S2, nV 0]) [] := by
 obtain ⟨OF1, OT1, Su1, Gr1, Ad1⟩ := H1
 obtain ⟨OF2, OT2, Su2, Gr2, Ad2⟩ := H2
 obtain ⟨⟨p1, q1, w1⟩, ⟨u1, v1, y1⟩⟩ := x1
 obtain ⟨⟨p2, q2, w2⟩, ⟨u2, v2, y2⟩⟩ := x2
 dsimp only at *
 exact walk (code := Tryz.f18.body.getD .skip) [eb h, eb h2, c OF1, c OT1, c Su1, cr Gr1, c Ad1, c OF2, c OT2, c Su2, cr Gr2, c Ad2] fol Tryz.func18 (by kernel_rfl) (fun xs w => Tryz.call18 xs w) (by kernel_rfl)
theorem eLen3 (b : Int) (h : decide (b < 0) = false) (h2 : decide (b > 128) = false) (x1 x2 x3 : Rl × Rl) (fl1 fh1 tl1 th1 lo1 hi1 mx1 s1 S1 fl2 fh2 tl2 th2 lo2 hi2 mx2 s2 S2 fl3 fh3 tl3 th3 lo3 hi3 mx3 s3 S3 : Rat)
    (H1 : LenOk b x1 oZ fl1 fh1 tl1 th1 lo1 hi1 mx1 s1 S1)
    (H2 : LenOk b x2 (oV s1 S1) fl2 fh2 tl2 th2 lo2 hi2 mx2 s2 S2)
    (H3 : LenOk b x3 (oV s2 S2) fl3 fh3 tl3 th3 lo3 hi3 mx3 s3 S3) :
    Sp Tryz.prog 18 [(3, its [x1, x2, x3])] [row 0 3, nV b] (.tuple #[oV s3 S3, nV 0]) [] := by
 obtain ⟨OF1, OT1, Su1, Gr1, Ad1⟩ := H1
 obtain ⟨OF2, OT2, Su2, Gr2, Ad2⟩ := H2
 obtain ⟨OF3, OT3, Su3, Gr3, Ad3⟩ := H3
 obtain ⟨⟨p1, q1, w1⟩, ⟨u1, v1, y1⟩⟩ := x1
 obtain ⟨⟨p2, q2, w2⟩, ⟨u2, v2, y2⟩⟩ := x2
 obtain ⟨⟨p3, q3, w3⟩, ⟨u3, v3, y3⟩⟩ := x3
 dsimp only at *
 exact walk (code := Tryz.f18.body.getD .skip) [eb h, eb h2, c OF1, c OT1, c Su1, cr Gr1, c Ad1, c OF2, c OT2, c Su2, cr Gr2, c Ad2, c OF3, c OT3, c Su3, cr Gr3, c Ad3] fol Tryz.func18 (by kernel_rfl) (fun xs w => Tryz.call18 xs w) (by kernel_rfl)
theorem eLen4 (b : Int) (h : decide (b < 0) = false) (h2 : decide (b > 128) = false) (x1 x2 x3 x4 : Rl × Rl) (fl1 fh1 tl1 th1 lo1 hi1 mx1 s1 S1 fl2 fh2 tl2 th2 lo2 hi2 mx2 s2 S2 fl3 fh3 tl3 th3 lo3 hi3 mx3 s3 S3 fl4 fh4 tl4 th4 lo4 hi4 mx4 s4 S4 : Rat)
    (H1 : LenOk b x1 oZ fl1 fh1 tl1 th1 lo1 hi1 mx1 s1 S1)
    (H2 : LenOk b x2 (oV s1 S1) fl2 fh2 tl2 th2 lo2 hi2 mx2 s2 S2)
    (H3 : LenOk b x3 (oV s2 S2) fl3 fh3 tl3 th3 lo3 hi3 mx3 s3 S3)
    (H4 : LenOk b x4 (oV s3 S3) fl4 fh4 tl4 th4 lo4 hi4 mx4 s4 S4) :
    Sp Tryz.prog 18 [(4, its [x1, x2, x3, x4])] [row 0 4, nV b] (.tuple #[oV s4 S4, nV 0]) [] := by
 obtain ⟨OF1, OT1, Su1, Gr1, Ad1⟩ := H1
 obtain ⟨OF2, OT2, Su2, Gr2, Ad2⟩ := H2
 obtain ⟨OF3, OT3, Su3, Gr3, Ad3⟩ := H3
 obtain ⟨OF4, OT4, Su4, Gr4, Ad4⟩ := H4
 obtain ⟨⟨p1, q1, w1⟩, ⟨u1, v1, y1⟩⟩ := x1
 obtain ⟨⟨p2, q2, w2⟩, ⟨u2, v2, y2⟩⟩ := x2
 obtain ⟨⟨p3, q3, w3⟩, ⟨u3, v3, y3⟩⟩ := x3
 obtain ⟨⟨p4, q4, w4⟩, ⟨u4, v4, y4⟩⟩ := x4
 dsimp only at *
 exact walk (code := Tryz.f18.body.getD .skip) [eb h, eb h2, c OF1, c OT1, c Su1, cr Gr1, c Ad1, c OF2, c OT2, c Su2, cr Gr2, c Ad2, c OF3, c OT3, c Su3, cr Gr3, c Ad3, c OF4, c OT4, c Su4, cr Gr4, c Ad4] fol Tryz.func18 (by kernel_rfl) (fun xs w => Tryz.call18 xs w) (by kernel_rfl)
theorem eLen5 (b : Int) (h : decide (b < 0) = false) (h2 : decide (b > 128) = false) (x1 x2 x3 x4 x5 : Rl × Rl) (fl1 fh1 tl1 th1 lo1 hi1 mx1 s1 S1 fl2 fh2 tl2 th2 lo2 hi2 mx2 s2 S2 fl3 fh3 tl3 th3 lo3 hi3 mx3 s3 S3 fl4 fh4 tl4 th4 lo4 hi4 mx4 s4 S4 fl5 fh5 tl5 th5 lo5 hi5 mx5 s5 S5 : Rat)
    (H1 : LenOk b x1 oZ fl1 fh1 tl1 th1 lo1 hi1 mx1 s1 S1)
    (H2 : LenOk b x2 (oV s1 S1) fl2 fh2 tl2 th2 lo2 hi2 mx2 s2 S2)
    (H3 : LenOk b x3 (oV s2 S2) fl3 fh3 tl3 th3 lo3 hi3 mx3 s3 S3)
    (H4 : LenOk b x4 (oV s3 S3) fl4 fh4 tl4 th4 lo4 hi4 mx4 s4 S4)
    (H5 : LenOk b x5 (oV s4 S4) fl5 fh5 tl5 th5 lo5 hi5 mx5 s5 S5) :
    Sp Tryz.prog 18 [(5, its [x1, x2, x3, x4, x5])] [row 0 5, nV b] (.tuple #[oV s5 S5, nV 0]) [] := by
 obtain ⟨OF1, OT1, Su1, Gr1, Ad1⟩ := H1
 obtain ⟨OF2, OT2, Su2, Gr2, Ad2⟩ := H2
 obtain ⟨OF3, OT3, Su3, Gr3, Ad3⟩ := H3
 obtain ⟨OF4, OT4, Su4, Gr4, Ad4⟩ := H4
 obtain ⟨OF5, OT5, Su5, Gr5, Ad5⟩ := H5
 obtain ⟨⟨p1, q1, w1⟩, ⟨u1, v1, y1⟩⟩ := x1
 obtain ⟨⟨p2, q2, w2⟩, ⟨u2, v2, y2⟩⟩ := x2
 obtain ⟨⟨p3, q3, w3⟩, ⟨u3, v3, y3⟩⟩ := x3
 obtain ⟨⟨p4, q4, w4⟩, ⟨u4, v4, y4⟩⟩ := x4
 obtain ⟨⟨p5, q5, w5⟩, ⟨u5, v5, y5⟩⟩ := x5
 dsimp only at *
 exact walk (code := Tryz.f18.body.getD .skip) [eb h, eb h2, c OF1, c OT1, c Su1, cr Gr1, c Ad1, c OF2, c OT2, c Su2, cr Gr2, c Ad2, c OF3, c OT3, c Su3, cr Gr3, c Ad3, c OF4, c OT4, c Su4, cr Gr4, c Ad4, c OF5, c OT5, c Su5, cr Gr5, c Ad5] fol Tryz.func18 (by kernel_rfl) (fun xs w => Tryz.call18 xs w) (by kernel_rfl)
theorem eLen6 (b : Int) (h : decide (b < 0) = false) (h2 : decide (b > 128) = false) (x1 x2 x3 x4 x5 x6 : Rl × Rl) (fl1 fh1 tl1 th1 lo1 hi1 mx1 s1 S1 fl2 fh2 tl2 th2 lo2 hi2 mx2 s2 S2 fl3 fh3 tl3 th3 lo3 hi3 mx3 s3 S3 fl4 fh4 tl4 th4 lo4 hi4 mx4 s4 S4 fl5 fh5 tl5 th5 lo5 hi5 mx5 s5 S5 fl6 fh6 tl6 th6 lo6 hi6 mx6 s6 S6 : Rat)
    (H1 : LenOk b x1 oZ fl1 fh1 tl1 th1 lo1 hi1 mx1 s1 S1)
    (H2 : LenOk b x2 (oV s1 S1) fl2 fh2 tl2 th2 lo2 hi2 mx2 s2 S2)
    (H3 : LenOk b x3 (oV s2 S2) fl3 fh3 tl3 th3 lo3 hi3 mx3 s3 S3)
    (H4 : LenOk b x4 (oV s3 S3) fl4 fh4 tl4 th4 lo4 hi4 mx4 s4 S4)
    (H5 : LenOk b x5 (oV s4 S4) fl5 fh5 tl5 th5 lo5 hi5 mx5 s5 S5)
    (H6 : LenOk b x6 (oV s5 S5) fl6 fh6 tl6 th6 lo6 hi6 mx6 s6 S6) :
    Sp Tryz.prog 18 [(6, its [x1, x2, x3, x4, x5, x6])] [row 0 6, nV b] (.tuple #[oV s6 S6, nV 0]) [] := by
 obtain ⟨OF1, OT1, Su1, Gr1, Ad1⟩ := H1
 obtain ⟨OF2, OT2, Su2, Gr2, Ad2⟩ := H2
 obtain ⟨OF3, OT3, Su3, Gr3, Ad3⟩ := H3
 obtain ⟨OF4, OT4, Su4, Gr4, Ad4⟩ := H4
 obtain ⟨OF5, OT5, Su5, Gr5, Ad5⟩ := H5
 obtain ⟨OF6, OT6, Su6, Gr6, Ad6⟩ := H6
 obtain ⟨⟨p1, q1, w1⟩, ⟨u1, v1, y1⟩⟩ := x1
 obtain ⟨⟨p2, q2, w2⟩, ⟨u2, v2, y2⟩⟩ := x2
 obtain ⟨⟨p3, q3, w3⟩, ⟨u3, v3, y3⟩⟩ := x3
 obtain ⟨⟨p4, q4, w4⟩, ⟨u4, v4, y4⟩⟩ := x4
 obtain ⟨⟨p5, q5, w5⟩, ⟨u5, v5, y5⟩⟩ := x5
 obtain ⟨⟨p6, q6, w6⟩, ⟨u6, v6, y6⟩⟩ := x6
 dsimp only at *
 exact walk (code := Tryz.f18.body.getD .skip) [eb h, eb h2, c OF1, c OT1, c Su1, cr Gr1, c Ad1, c OF2, c OT2, c Su2, cr Gr2, c Ad2, c OF3, c OT3, c Su3, cr Gr3, c Ad3, c OF4, c OT4, c Su4, cr Gr4, c Ad4, c OF5, c OT5, c Su5, cr Gr5, c Ad5, c OF6, c OT6, c Su6, cr Gr6, c Ad6] fol Tryz.func18 (by kernel_rfl) (fun xs w => Tryz.call18 xs w) (by kernel_rfl)
end Go.Proofs.YtlblfgbpogljoaaGreatDoor

end
