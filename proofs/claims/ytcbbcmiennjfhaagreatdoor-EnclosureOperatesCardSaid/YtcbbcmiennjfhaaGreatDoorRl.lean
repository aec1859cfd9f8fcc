import Derived.Test.YtcbbcmiennjfhaaGreatDoorRe
/- No program in sight: the numbers p + sqrt r and p - sqrt r: signs, comparison, the canonical form. -/
set_option linter.unusedSimpArgs false
set_option linter.unusedVariables false
namespace Vi
open RR
def sgQ (a : Rat) : Int := if a < 0 then -1 else if a = 0 then 0 else 1
theorem sgQ_cases (a : Rat) : (sgQ a = -1 ∧ a < 0) ∨ (sgQ a = 0 ∧ a = 0) ∨ (sgQ a = 1 ∧ 0 < a) := by
 unfold sgQ
 by_cases h : a < 0
 ·exact .inl ⟨if_pos h, h⟩
 ·rw [if_neg h]
  by_cases h2 : a = 0
  ·exact .inr (.inl ⟨if_pos h2, h2⟩)
  ·exact .inr (.inr ⟨if_neg h2, by grind⟩)
theorem sg_rat (a : Rat) : sgR (ofRat a) = sgQ a := by
 rcases sgQ_cases a with ⟨h1, h⟩ | ⟨h1, rfl⟩ | ⟨h1, h⟩ <;> rw [h1]
 ·exact RR.sg_neg (rat_lt.2 h)
 ·exact sg_zero rfl
 ·exact sg_pos (rat_lt.2 h)
def signF (a b r : Rat) : Int :=
 if sgQ b * sgQ r = 0 ∨ sgQ a = sgQ b * sgQ r then sgQ a else if sgQ a = 0 then sgQ b * sgQ r else sgQ a * sgQ (a * a - b * b * r)
theorem signF_eq (a b r : Rat) (hr : 0 ≤ r) : signF a b r = sgR (ofRat a + ofRat b * sqrt r) := by
 have hn : sgR (ofRat b * sqrt r) = sgQ b * sgQ r := by rw [sg_mul, sg_sqrt hr, sg_rat, sg_rat]
 have hm := sg_rat a
 unfold signF
 rw [← hn, ← hm, ← sg_rat (a * a - b * b * r)]
 split
 ·rename_i h
  rcases h with h | h
  ·exact (sg_add_same (.inr h)).symm
  ·exact (sg_add_same (.inl h)).symm
 ·rename_i h
  split
  ·rename_i h0
   have := sg_iff0.1 h0
   rw [this, ring (x := 0 + ofRat b * sqrt r) (y := ofRat b * sqrt r) [b, sqrt r] (by decide +kernel)]
  ·rename_i h0
   rw [sg_add_diff ?_ h0]
   ·have e : ofRat a * ofRat a - ofRat b * sqrt r * (ofRat b * sqrt r) = ofRat (a * a - b * b * r) :=
      ring1 [a, b, r, sqrt r] (sqrt_sq r hr) (-(b * b)) (by decide +kernel)
    rw [e]
   ·rcases sg_cases (ofRat a) with ⟨g1, _⟩ | ⟨g1, _⟩ | ⟨g1, _⟩ <;> rcases sg_cases (ofRat b * sqrt r) with ⟨g2, _⟩ | ⟨g2, _⟩ | ⟨g2, _⟩ <;> rw [g1, g2] at h ⊢ <;> simp_all
theorem RR.sqrt_unique {r : Rat} (hr : 0 ≤ r) {u : RR} (h0 : 0 ≤ u) (h : u * u = ofRat r) : sqrt r = u := by
 have h2 := sqrt_sq r hr
 have e : (sqrt r - u) * (sqrt r + u) = 0 := by
  have : (sqrt r - u) * (sqrt r + u) = sqrt r * sqrt r - u * u := ring [sqrt r, u] (by decide +kernel)
  rw [this, h2, h]; exact ring [r] (by decide +kernel)
 by_cases h3 : sqrt r - u = 0
 ·exact ring1 [sqrt r, u] h3 1 (by decide +kernel)
 ·by_cases h4 : sqrt r + u = 0
  ·
   rcases lt_or_eq h0 with g | g
   ·have := add_pos_of_nonneg g (sqrt_nonneg r)
    rw [RR.add_comm, h4] at this
    exact absurd this (lt_irrefl 0)
   ·rw [← g] at h4 ⊢
    exact ring1 [sqrt r] h4 1 (by decide +kernel)
  ·exact absurd e (mul_ne h3 h4)
theorem RR.sqrt_mul {p q : Rat} (hp : 0 ≤ p) (hq : 0 ≤ q) : sqrt (p * q) = sqrt p * sqrt q := by
 refine RR.sqrt_unique (Rat.mul_nonneg hp hq) (RR.mul_nonneg (sqrt_nonneg p) (sqrt_nonneg q)) ?_
 exact ring2 [sqrt p, sqrt q, p, q] (sqrt_sq p hp) (sqrt q * sqrt q) (sqrt_sq q hq) p (by decide +kernel)
theorem RR.sqrt_sqr {q : Rat} (hq : 0 ≤ q) : sqrt (q * q) = ofRat q := RR.sqrt_unique (Rat.mul_nonneg hq hq) (rat_le.2 hq) rfl
structure Rl where
 p : Rat
 r : Rat
 neg : Bool
namespace Rl
def s (x : Rl) : Rat := if x.neg then -1 else 1
def Ok (x : Rl) : Prop := (x.r = 0 ∧ x.neg = false) ∨ (0 < x.r ∧ ∀ q : Rat, q * q ≠ x.r)
theorem Ok.nonneg {x : Rl} (h : x.Ok) : 0 ≤ x.r := by
 rcases h with ⟨h, _⟩ | ⟨h, _⟩
 ·rw [h]; exact Rat.le_refl
 ·exact Rat.le_of_lt h
theorem s_sq (x : Rl) : x.s * x.s = 1 := by unfold s; split <;> decide +kernel
theorem s_cases (x : Rl) : (x.neg = true ∧ x.s = -1) ∨ (x.neg = false ∧ x.s = 1) := by
 unfold s; cases x.neg <;> simp
noncomputable def val (x : Rl) : RR := ofRat x.p + ofRat x.s * sqrt x.r
noncomputable def cmp (x y : Rl) : Int := sgR (x.val - y.val)
def rat (q : Rat) : Rl := ⟨q, 0, false⟩
theorem rat_ok (q : Rat) : (rat q).Ok := .inl ⟨rfl, rfl⟩
theorem rat_val (q : Rat) : (rat q).val = ofRat q := by
 unfold val
 show ofRat q + ofRat (rat q).s * sqrt 0 = ofRat q
 rw [sqrt_zero]; exact ring [ofRat q, ofRat (rat q).s] (by decide +kernel)
def cmpF (x y : Rl) : Int :=
 if sgQ (-y.s) * sgQ y.r = 0 ∨ signF (x.p - y.p) x.s x.r = sgQ (-y.s) * sgQ y.r then signF (x.p - y.p) x.s x.r
 else if signF (x.p - y.p) x.s x.r = 0 then sgQ (-y.s) * sgQ y.r
 else signF (x.p - y.p) x.s x.r * signF ((x.p - y.p) * (x.p - y.p) + x.r - y.r) (2 * ((x.p - y.p) * x.s)) x.r
theorem opp_of {x y : RR} (h : ¬ (sgR y = 0 ∨ sgR x = sgR y)) (h0 : ¬ sgR x = 0) : sgR x = -sgR y := by
 rcases sg_cases x with ⟨g1, _⟩ | ⟨g1, _⟩ | ⟨g1, _⟩ <;> rcases sg_cases y with ⟨g2, _⟩ | ⟨g2, _⟩ | ⟨g2, _⟩ <;> rw [g1, g2] at h ⊢ <;> simp_all
theorem cmpF_eq (x y : Rl) (hx : 0 ≤ x.r) (hy : 0 ≤ y.r) : cmpF x y = cmp x y := by
 have hn : sgR (ofRat (-y.s) * sqrt y.r) = sgQ (-y.s) * sgQ y.r := by rw [sg_mul, sg_sqrt hy, sg_rat, sg_rat]
 have hm := signF_eq (x.p - y.p) x.s x.r hx
 unfold cmpF cmp
 have e : x.val - y.val = (ofRat (x.p - y.p) + ofRat x.s * sqrt x.r) + ofRat (-y.s) * sqrt y.r := by
  unfold val
  exact ring [x.p, y.p, x.s, y.s, sqrt x.r, sqrt y.r] (by decide +kernel)
 rw [e, ← hn, hm]
 split
 ·rename_i h
  rcases h with h | h
  ·exact (sg_add_same (.inr h)).symm
  ·exact (sg_add_same (.inl h)).symm
 ·rename_i h
  split
  ·rename_i h0
   have := sg_iff0.1 h0
   rw [this, ring (x := 0 + ofRat (-y.s) * sqrt y.r) (y := ofRat (-y.s) * sqrt y.r) [y.s, sqrt y.r] (by decide +kernel)]
  ·rename_i h0
   rw [sg_add_diff (opp_of h h0) h0, signF_eq _ _ _ hx]
   congr 2
   have s1 : ofRat x.s * ofRat x.s = 1 := by rw [← rat_mul, s_sq]; rfl
   have s2 : ofRat y.s * ofRat y.s = 1 := by rw [← rat_mul, s_sq]; rfl
   have r1 := sqrt_sq x.r hx
   have r2 := sqrt_sq y.r hy
   have t1 : ofRat x.s * sqrt x.r * (ofRat x.s * sqrt x.r) = x.r := ring2 [x.s, sqrt x.r, x.r] s1 (sqrt x.r * sqrt x.r) r1 1 (by decide +kernel)
   have t2 : ofRat y.s * sqrt y.r * (ofRat y.s * sqrt y.r) = y.r := ring2 [y.s, sqrt y.r, y.r] s2 (sqrt y.r * sqrt y.r) r2 1 (by decide +kernel)
   exact ring2 [x.p, y.p, x.s, sqrt x.r, y.s, sqrt y.r, x.r, y.r] t1 (-1) t2 1 (by decide +kernel)
def rootsF (s : Int) (a : Rat) (t : Int) (b : Rat) : Int :=
 if s * sgQ a ≠ t * sgQ b then (if s * sgQ a > t * sgQ b then 1 else -1) else s * sgQ a * sgQ (a - b)
def si (x : Rl) : Int := if x.neg then -1 else 1
theorem si_s (x : Rl) : sgQ x.s = x.si := by unfold s si; cases x.neg <;> decide
theorem si_rat (x : Rl) : ((x.si : Int) : Rat) = x.s := by unfold s si; cases x.neg <;> rfl
theorem sg_sub_cases {u v : RR} : sgR (u - v) = if sgR u ≠ sgR v then (if sgR u > sgR v then 1 else -1) else sgR u * sgR (u * u - v * v) := by
 split
 ·rename_i h
  rcases sg_cases u with ⟨g1, h1⟩ | ⟨g1, h1⟩ | ⟨g1, h1⟩ <;> rcases sg_cases v with ⟨g2, h2⟩ | ⟨g2, h2⟩ | ⟨g2, h2⟩ <;> rw [g1, g2] at h ⊢ <;> simp at h <;> simp
  ·refine sg_iff2.2 ?_
   rw [h2, ring (x := u - 0) (y := u) [u] (by decide +kernel)]; exact h1
  ·refine sg_iff2.2 ?_
   rw [lt_zero] at h1 ⊢
   rw [ring (x := -(u - v)) (y := -u + v) [u, v] (by decide +kernel)]; exact add_pos h1 h2
  ·refine sg_iff1.2 ?_
   rw [lt_zero] at h2
   rw [h1, ring (x := 0 - v) (y := -v) [v] (by decide +kernel)]; exact h2
  ·refine sg_iff2.2 ?_
   rw [lt_zero, h1, ring (x := -(0 - v)) (y := v) [v] (by decide +kernel)]; exact h2
  ·refine sg_iff1.2 ?_
   rw [lt_zero] at h2
   rw [sub_eq]; exact add_pos h1 h2
  ·refine sg_iff1.2 ?_
   rw [h2, ring (x := u - 0) (y := u) [u] (by decide +kernel)]; exact h1
 ·rename_i h
  have h : sgR u = sgR v := Classical.not_not.1 h
  by_cases h0 : sgR u = 0
  ·rw [h0] at h ⊢
   have h1 := sg_iff0.1 h0
   have h2 := sg_iff0.1 h.symm
   rw [h1, h2, ring (x := (0 : RR) - 0) (y := 0) [] (by decide +kernel), sg_zero rfl, Int.zero_mul]
  ·have := sg_add_diff (x := u) (y := -v) (by rw [sg_opp, h]; omega) h0
   rw [← sub_eq] at this
   rw [this, ring (x := -v * -v) (y := v * v) [v] (by decide +kernel)]
theorem sr_sq (x : Rl) (hx : 0 ≤ x.r) : ofRat x.s * sqrt x.r * (ofRat x.s * sqrt x.r) = x.r := by
 have s1 : ofRat x.s * ofRat x.s = 1 := by rw [← rat_mul, s_sq]; rfl
 exact ring2 [x.s, sqrt x.r, x.r] s1 (sqrt x.r * sqrt x.r) (sqrt_sq x.r hx) 1 (by decide +kernel)
theorem sr_sg (x : Rl) (hx : 0 ≤ x.r) : sgR (ofRat x.s * sqrt x.r) = x.si * sgQ x.r := by rw [sg_mul, sg_sqrt hx, sg_rat, sg_rat, si_s]
theorem rootsF_eq (x y : Rl) (hx : 0 ≤ x.r) (hy : 0 ≤ y.r) : rootsF x.si x.r y.si y.r = sgR (ofRat x.s * sqrt x.r - ofRat y.s * sqrt y.r) := by
 rw [sg_sub_cases, sr_sg x hx, sr_sg y hy, sr_sq x hx, sr_sq y hy, ← rat_sub, sg_rat]
 rfl
def cmpF3 (x y : Rl) : Int :=
 if sgQ (x.p - y.p) = rootsF x.si x.r y.si y.r ∨ rootsF x.si x.r y.si y.r = 0 then sgQ (x.p - y.p)
 else if sgQ (x.p - y.p) = 0 then rootsF x.si x.r y.si y.r
 else if signF ((x.p - y.p) * (x.p - y.p) - (x.r + y.r)) ((2 * x.si * y.si : Int) : Rat) (x.r * y.r) > 0 then sgQ (x.p - y.p)
 else if signF ((x.p - y.p) * (x.p - y.p) - (x.r + y.r)) ((2 * x.si * y.si : Int) : Rat) (x.r * y.r) < 0 then rootsF x.si x.r y.si y.r
 else 0
theorem cmpF3_eq (x y : Rl) (hx : 0 ≤ x.r) (hy : 0 ≤ y.r) : cmpF3 x y = cmp x y := by
 have e : x.val - y.val = ofRat (x.p - y.p) + (ofRat x.s * sqrt x.r - ofRat y.s * sqrt y.r) := by
  unfold val
  exact ring [x.p, y.p, x.s, y.s, sqrt x.r, sqrt y.r] (by decide +kernel)
 unfold cmpF3 cmp
 rw [e, rootsF_eq x y hx hy, ← sg_rat (x.p - y.p), signF_eq _ _ _ (Rat.mul_nonneg hx hy)]
 have h2 : ((2 * x.si * y.si : Int) : Rat) = 2 * x.s * y.s := by push_cast; rw [si_rat, si_rat]
 rw [h2]
 have h3 : ofRat (x.p - y.p) * ofRat (x.p - y.p) - (ofRat x.s * sqrt x.r - ofRat y.s * sqrt y.r) * (ofRat x.s * sqrt x.r - ofRat y.s * sqrt y.r) = ofRat ((x.p - y.p) * (x.p - y.p) - (x.r + y.r)) + ofRat (2 * x.s * y.s) * sqrt (x.r * y.r) := by
  rw [sqrt_mul hx hy]
  exact ring2 [x.p, y.p, x.s, y.s, sqrt x.r, sqrt y.r, x.r, y.r] (sr_sq x hx) (-1) (sr_sq y hy) (-1) (by decide +kernel)
 rw [← h3]
 generalize ofRat (x.p - y.p) = d
 generalize ofRat x.s * sqrt x.r - ofRat y.s * sqrt y.r = t
 split
 ·rename_i h
  rcases h with h | h
  ·exact (sg_add_same (.inl h)).symm
  ·exact (sg_add_same (.inr h)).symm
 ·rename_i h
  have h : ¬ (sgR t = 0 ∨ sgR d = sgR t) := fun g => h g.symm
  split
  ·rename_i h0
   rw [sg_iff0.1 h0, ring (x := 0 + t) (y := t) [t] (by decide +kernel)]
  ·rename_i h0
   have ho := opp_of h h0
   rw [sg_add_diff ho h0]
   rcases sg_cases (d * d - t * t) with ⟨g1, _⟩ | ⟨g1, _⟩ | ⟨g1, _⟩ <;> rw [g1] <;> simp <;> omega
theorem inj {x y : Rl} (hx : x.Ok) (hy : y.Ok) (h : x.val = y.val) : x = y := by
 have x0 := hx.nonneg
 have y0 := hy.nonneg
 obtain ⟨d, hd⟩ : ∃ d, d = x.p - y.p := ⟨_, rfl⟩
 have e : ofRat d + ofRat x.s * sqrt x.r = ofRat y.s * sqrt y.r := by
  unfold val at h
  rw [hd]
  exact ring1 [x.p, y.p, x.s, y.s, sqrt x.r, sqrt y.r] h 1 (by decide +kernel)
 have e2 : ofRat d + ofRat x.s * sqrt x.r - ofRat y.s * sqrt y.r = 0 := by rw [e]; exact ring [y.s, sqrt y.r] (by decide +kernel)
 have sq : ofRat (2 * d * x.s) * sqrt x.r = ofRat (y.r - x.r - d * d) := by
  have q1 := sr_sq x x0
  have q2 := sr_sq y y0
  have : (ofRat d + ofRat x.s * sqrt x.r) * (ofRat d + ofRat x.s * sqrt x.r) = y.r := by rw [e, q2]
  exact ring2 [d, x.s, sqrt x.r, x.r, y.r] this 1 q1 (-1) (by decide +kernel)
 by_cases hd0 : d = 0
 ·subst hd0
  have hp : x.p = y.p := by grind
  have hr : x.r = y.r := by
   have q1 := sr_sq x x0
   have q2 := sr_sq y y0
   rw [← e, ring (x := (ofRat 0 + ofRat x.s * sqrt x.r) * (ofRat 0 + ofRat x.s * sqrt x.r)) (y := ofRat x.s * sqrt x.r * (ofRat x.s * sqrt x.r)) [x.s, sqrt x.r] (by decide +kernel), q1] at q2
   exact rat_inj q2
  have hn : x.neg = y.neg := by
   rcases hx with ⟨a, b⟩ | ⟨a, b⟩
   ·rcases hy with ⟨c, d⟩ | ⟨c, d⟩
    ·rw [b, d]
    ·rw [← hr, a] at c; exact absurd c Rat.lt_irrefl
   ·have hs := sqrt_pos a
    rw [← hr] at e
    have : (ofRat x.s - ofRat y.s) * sqrt x.r = 0 := ring1 [x.s, y.s, sqrt x.r] e 1 (by decide +kernel)
    have hxy : ofRat x.s - ofRat y.s = 0 := by
     apply Classical.byContradiction
     intro hc
     exact mul_ne hc (ne_of_lt hs).symm this
    rw [← rat_sub] at hxy
    have hxy := rat_inj (q := 0) hxy
    rcases s_cases x with ⟨a1, a2⟩ | ⟨a1, a2⟩ <;> rcases s_cases y with ⟨b1, b2⟩ | ⟨b1, b2⟩ <;> rw [a2, b2] at hxy <;> rw [a1, b1]
    ·exact absurd hxy (by decide +kernel)
    ·exact absurd hxy (by decide +kernel)
  cases x; cases y
  simp_all
 ·
  exfalso
  have hc : 2 * d * x.s ≠ 0 := by
   have := s_sq x
   intro h0
   have : 2 * d * (x.s * x.s) = 0 := by grind
   grind
  obtain ⟨w, hw⟩ : ∃ w : Rat, w = (y.r - x.r - d * d) / (2 * d * x.s) := ⟨_, rfl⟩
  have hw2 : 2 * d * x.s * w = y.r - x.r - d * d := by
   rw [hw, Rat.div_def, Rat.mul_comm, Rat.mul_assoc, Rat.inv_mul_cancel _ hc, Rat.mul_one]
  have hs : sqrt x.r = ofRat w := by
   have h1 : ofRat (2 * d * x.s) * (sqrt x.r - ofRat w) = 0 := by
    rw [← hw2] at sq
    exact ring1 [d, x.s, w, sqrt x.r] sq 1 (by decide +kernel)
   apply Classical.byContradiction
   intro hne
   refine mul_ne (fun h => hc (rat_inj h)) (fun h => hne ?_) h1
   exact ring1 [sqrt x.r, w] h 1 (by decide +kernel)
  have hww : w * w = x.r := by
   have := sqrt_sq x.r x0
   rw [hs] at this
   exact rat_inj this
  rcases hx with ⟨a, b⟩ | ⟨a, b⟩
  ·
   rw [a] at hww
   have w0 : w = 0 := by rcases Rat.mul_eq_zero.1 hww with h | h <;> exact h
   have hyr : y.r = d * d := by rw [w0, a] at hw2; grind
   rcases hy with ⟨c, _⟩ | ⟨c, f⟩
   ·have : d * d = 0 := by rw [← hyr, c]
    rcases Rat.mul_eq_zero.1 this with h | h <;> exact hd0 h
   ·exact f d hyr.symm
  ·exact b w hww
theorem cmp_eq0 {x y : Rl} (hx : x.Ok) (hy : y.Ok) : cmp x y = 0 ↔ x = y := by
 unfold cmp
 rw [sg_iff0]
 constructor
 ·intro h; exact inj hx hy (ring1 [x.val, y.val] h 1 (by decide +kernel))
 ·rintro rfl; exact ring [x.val] (by decide +kernel)
end Rl
end Vi
