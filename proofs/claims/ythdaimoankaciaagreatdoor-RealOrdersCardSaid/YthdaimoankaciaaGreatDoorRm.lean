import Derived.Test.YthdaimoankaciaaGreatDoorRn
import Derived.Test.YthdaimoankaciaaGreatDoorFz
/- No program in sight: the canonical form of p + q * sqrt r, and what follows for moves, inverses and values of quadratics. -/
set_option linter.unusedSimpArgs false
set_option linter.unusedVariables false
namespace Vi
open RR Rl
noncomputable def mkR (p q r : Rat) : Rl := open Classical in
 if h : ∃ w : Rat, 0 ≤ w ∧ w * w = r then ⟨p + q * Classical.choose h, 0, false⟩ else ⟨p, q * q * r, decide (q < 0)⟩
theorem sq_inj {v w : Rat} (hv : 0 ≤ v) (hw : 0 ≤ w) (h : v * v = w * w) : v = w := by
 have h2 : (v - w) * (v + w) = 0 := by grind
 rcases Rat.mul_eq_zero.1 h2 with h3 | h3 <;> grind
theorem mkR_sq (p q r w : Rat) (h0 : 0 ≤ w) (h : w * w = r) : mkR p q r = ⟨p + q * w, 0, false⟩ := by
 unfold mkR
 have hx : ∃ w : Rat, 0 ≤ w ∧ w * w = r := ⟨w, h0, h⟩
 rw [dif_pos hx]
 obtain ⟨h1, h2⟩ := Classical.choose_spec hx
 rw [sq_inj h1 h0 (h2.trans h.symm)]
theorem mkR_irr (p q r : Rat) (h : ∀ w : Rat, w * w ≠ r) : mkR p q r = ⟨p, q * q * r, decide (q < 0)⟩ := by
 unfold mkR
 exact dif_neg fun ⟨w, _, hw⟩ => h w hw
theorem sqr_pos {q : Rat} (h : q ≠ 0) : 0 < q * q := by
 rcases (by grind : q < 0 ∨ 0 < q) with h | h
 ·have := Rat.mul_pos (show 0 < -q by grind) (show 0 < -q by grind); grind
 ·exact Rat.mul_pos h h
theorem irr_scale {q r : Rat} (hq : q ≠ 0) (h : ∀ w : Rat, w * w ≠ r) (w : Rat) : w * w ≠ q * q * r := by
 intro e
 refine h (w / q) ?_
 have : q * q ≠ 0 := fun e => (Rat.lt_irrefl (a := 0)) (by have := sqr_pos hq; rw [e] at this; exact this)
 have e2 : (w / q) * q = w := by rw [Rat.div_mul_cancel hq]
 have e3 : (q * q) * (w / q * (w / q)) = (q * q) * r := by
  rw [← e]
  have : (q * q) * (w / q * (w / q)) = (w / q * q) * (w / q * q) := by grind
  rw [this, e2]
 have h5 : (q * q) * (w / q * (w / q) - r) = 0 := by grind
 rcases Rat.mul_eq_zero.1 h5 with h6 | h6
 ·exact absurd h6 this
 ·grind
theorem mkR_ok (p q r : Rat) (hr : 0 ≤ r) : (mkR p q r).Ok := by
 by_cases h : ∃ w : Rat, w * w = r
 ·obtain ⟨w, hw⟩ := h
  rcases (by grind : 0 ≤ w ∨ 0 ≤ -w) with h0 | h0
  ·rw [mkR_sq p q r w h0 hw]; exact .inl ⟨rfl, rfl⟩
  ·rw [mkR_sq p q r (-w) h0 (by grind)]; exact .inl ⟨rfl, rfl⟩
 ·have h : ∀ w : Rat, w * w ≠ r := fun w hw => h ⟨w, hw⟩
  rw [mkR_irr p q r h]
  have r0 : r ≠ 0 := fun e => h 0 (by rw [e, Rat.mul_zero])
  have rp : 0 < r := by grind
  by_cases hq : q = 0
  ·subst hq; exact .inl ⟨by show (0 : Rat) * 0 * r = 0; grind, by show decide ((0 : Rat) < 0) = false; decide +kernel⟩
  ·exact .inr ⟨Rat.mul_pos (sqr_pos hq) rp, irr_scale hq h⟩
theorem sqrt_scale {q r : Rat} (hr : 0 ≤ r) : sqrt (q * q * r) = ofRat (if q < 0 then -q else q) * sqrt r := by
 rw [RR.sqrt_mul (by rcases (by grind : q < 0 ∨ 0 ≤ q) with h | h; have := Rat.mul_nonneg (show 0 ≤ -q by grind) (show 0 ≤ -q by grind); grind; exact Rat.mul_nonneg h h) hr]
 split
 ·rename_i h
  rw [show q * q = -q * -q by grind, RR.sqrt_sqr (by grind)]
 ·rename_i h
  rw [RR.sqrt_sqr (by grind)]
theorem mkR_val (p q r : Rat) (hr : 0 ≤ r) : (mkR p q r).val = ofRat p + ofRat q * sqrt r := by
 by_cases h : ∃ w : Rat, w * w = r
 ·obtain ⟨w, hw⟩ := h
  have main : ∀ w : Rat, 0 ≤ w → w * w = r → (mkR p q r).val = ofRat p + ofRat q * sqrt r := fun w h0 hw => by
   rw [mkR_sq p q r w h0 hw, ← hw, RR.sqrt_sqr h0]
   have := rat_val (p + q * w)
   unfold rat at this
   rw [this]; rfl
  rcases (by grind : 0 ≤ w ∨ 0 ≤ -w) with h0 | h0
  ·exact main w h0 hw
  ·exact main (-w) h0 (by grind)
 ·have h : ∀ w : Rat, w * w ≠ r := fun w hw => h ⟨w, hw⟩
  rw [mkR_irr p q r h]
  unfold Rl.val Rl.s
  dsimp only
  rw [sqrt_scale hr]
  by_cases hq : q < 0
  ·rw [if_pos hq, if_pos (decide_eq_true hq)]
   exact ring [p, q, sqrt r] (by decide +kernel)
  ·rw [if_neg hq, if_neg (by simpa using hq)]
   exact ring [p, q, sqrt r] (by decide +kernel)
theorem mkR_eq {p q r : Rat} {x : Rl} (hr : 0 ≤ r) (hx : x.Ok) (h : x.val = ofRat p + ofRat q * sqrt r) : mkR p q r = x := inj (mkR_ok p q r hr) hx ((mkR_val p q r hr).trans h.symm)
theorem sz_root {w : Rat} {k : Nat} [h : HasSz (w * w) k] : HasSz w k := by
 have h1 : (w * w).num = w.num * w.num ∧ (w * w).den = w.den * w.den := by
  have hc : Nat.Coprime (w.num * w.num).natAbs (w.den * w.den) := by
   rw [Int.natAbs_mul]
   exact Nat.Coprime.mul_left (Nat.Coprime.mul_right w.reduced w.reduced) (Nat.Coprime.mul_right w.reduced w.reduced)
  have e : w * w = ⟨w.num * w.num, w.den * w.den, Nat.mul_ne_zero w.den_nz w.den_nz, hc⟩ := by
   rw [Rat.mul_def, ← Rat.mk_eq_normalize]
  rw [e]; exact ⟨rfl, rfl⟩
 have h2 := h.sz
 unfold Sz at h2
 rw [h1.1, h1.2, Int.natAbs_mul] at h2
 refine ⟨?_⟩
 unfold Sz
 have a1 := Nat.le_mul_self w.num.natAbs
 have a2 := Nat.le_mul_self w.den
 omega
theorem hz0 : HasSz (0 : Rat) 1 := inferInstance
instance (p q r : Rat) (i j k : Nat) [hp : HasSz p i] [hq : HasSz q j] [hr : HasSz r k] : HasSz (mkR p q r).p (i + (j + k) + 1) := by
 by_cases h : ∃ w : Rat, 0 ≤ w ∧ w * w = r
 ·obtain ⟨w, h0, hw⟩ := h
  rw [mkR_sq p q r w h0 hw]
  subst hw
  haveI : HasSz w k := sz_root
  exact (inferInstance : HasSz (p + q * w) _)
 ·unfold mkR
  rw [dif_neg h]
  exact hs_mono hp (by omega)
instance (p q r : Rat) (i j k : Nat) [hp : HasSz p i] [hq : HasSz q j] [hr : HasSz r k] : HasSz (mkR p q r).r (j + j + k + 1) := by
 by_cases h : ∃ w : Rat, 0 ≤ w ∧ w * w = r
 ·obtain ⟨w, h0, hw⟩ := h
  rw [mkR_sq p q r w h0 hw]
  exact hs_mono hz0 (by omega)
 ·unfold mkR
  rw [dif_neg h]
  exact hs_mono (inferInstance : HasSz (q * q * r) _) (by omega)
theorem mkR_zero (p q : Rat) : mkR p q 0 = rat p := by
 rw [mkR_sq p q 0 0 Rat.le_refl (by decide +kernel)]
 unfold rat
 rw [Rat.mul_zero, Rat.add_zero]
theorem mkR_self {x : Rl} (hx : x.Ok) : mkR x.p x.s x.r = x := mkR_eq hx.nonneg hx rfl
theorem neg_mk {x : Rl} (hx : x.Ok) : mkR (x.p * -1) (-1 * x.s) x.r = x.ngR := by
 refine mkR_eq hx.nonneg (ngR_ok hx) ?_
 rw [ngR_val hx]
 unfold Rl.val
 exact ring [x.p, x.s, sqrt x.r] (by decide +kernel)
theorem shift_mk {x : Rl} (hx : x.Ok) (q : Rat) : mkR (x.p + q) x.s x.r = ⟨x.p + q, x.r, x.neg⟩ := by
 refine mkR_eq hx.nonneg (shift_ok hx q) ?_
 rw [shift_val]
 unfold Rl.val
 exact ring [x.p, q, x.s, sqrt x.r] (by decide +kernel)
theorem scale_mk {x : Rl} (hx : x.Ok) (q : Rat) : mkR (x.p * q) (q * x.s) x.r = x.scR q := by
 refine mkR_eq hx.nonneg (scR_ok hx q) ?_
 rw [scR_val hx]
 unfold Rl.val
 exact ring [x.p, q, x.s, sqrt x.r] (by decide +kernel)
theorem ng_ng {x : Rl} (hx : x.Ok) : x.ngR.ngR = x := by
 refine inj (ngR_ok (ngR_ok hx)) hx ?_
 rw [ngR_val (ngR_ok hx), ngR_val hx]
 exact ring [x.val] (by decide +kernel)
def Rl.cj (x : Rl) : Rl := ⟨x.p, x.r, !x.neg⟩
theorem Rl.cj_s (x : Rl) : x.cj.s = -x.s := by
 obtain ⟨p, r, b⟩ := x
 cases b
 ·show (-1 : Rat) = -(1 : Rat); rfl
 ·show (1 : Rat) = -(-1 : Rat); decide +kernel
def Rl.nm (x : Rl) : Rat := x.p * x.p - x.r
theorem nm_ne {x : Rl} (hx : x.Ok) (h0 : x.r ≠ 0) : x.nm ≠ 0 := by
 rcases hx with ⟨h, _⟩ | ⟨_, h⟩
 ·exact absurd h h0
 ·intro e; exact h x.p (by unfold Rl.nm at e; grind)
theorem val_cj {x : Rl} (hx : x.Ok) : x.val * x.cj.val = ofRat x.nm := by
 have e := sr_sq x hx.nonneg
 have e2 : x.cj.val = ofRat x.p - ofRat x.s * sqrt x.r := by
  unfold Rl.val
  rw [Rl.cj_s]
  show ofRat x.p + ofRat (-x.s) * sqrt x.r = _
  exact ring [x.p, x.s, sqrt x.r] (by decide +kernel)
 rw [e2]
 unfold Rl.val Rl.nm
 exact ring1 [x.p, x.s, sqrt x.r, x.r] e (-1) (by decide +kernel)
theorem cj_ok {x : Rl} (hx : x.Ok) (h0 : x.r ≠ 0) : x.cj.Ok := by
 rcases hx with ⟨h, _⟩ | h
 ·exact absurd h h0
 ·exact .inr h
theorem mul_cancel {a b c : RR} (h : a * b = a * c) (h0 : a ≠ 0) : b = c := by
 have e : a * (b - c) = 0 := ring1 [a, b, c] h 1 (by decide +kernel)
 by_cases h1 : b - c = 0
 ·exact ring1 [b, c] h1 1 (by decide +kernel)
 ·exact absurd e (mul_ne h0 h1)
noncomputable def Rl.inv (x : Rl) : Rl := if x.r = 0 then Rl.rat (1 / x.p) else x.cj.scR (1 / x.nm)
theorem hs_div0 (p q : Rat) (i j : Nat) [h : HasSz p i] [g : HasSz q j] : HasSz (p / q) (i + j + 1) := by
 by_cases h0 : q = 0
 ·rw [h0, show p / 0 = 0 by rw [Rat.div_def]; simp]
  exact hs_mono hz0 (by omega)
 ·exact hs_mono (hs_div p q i j h0) (by omega)
instance (x : Rl) (i j : Nat) [h : HasSz x.p i] [g : HasSz x.r j] : HasSz x.nm (i + i + j + 1) := (inferInstance : HasSz (x.p * x.p - x.r) _)
instance (x : Rl) (i j : Nat) [h : HasSz x.p i] [g : HasSz x.r j] : HasSz x.inv.p (i + (1 + (i + i + j + 1) + 1)) := by
 haveI := hs_div0 1 x.nm 1 (i + i + j + 1)
 haveI := hs_div0 1 x.p 1 i
 unfold Rl.inv
 split
 ·exact hs_mono (inferInstance : HasSz (1 / x.p) _) (by omega)
 ·exact (inferInstance : HasSz (x.p * (1 / x.nm)) _)
instance (x : Rl) (i j : Nat) [h : HasSz x.p i] [g : HasSz x.r j] : HasSz x.inv.r (1 + (i + i + j + 1) + 1 + (1 + (i + i + j + 1) + 1) + j) := by
 haveI := hs_div0 1 x.nm 1 (i + i + j + 1)
 unfold Rl.inv
 split
 ·exact hs_mono hz0 (by omega)
 ·exact (inferInstance : HasSz (1 / x.nm * (1 / x.nm) * x.r) _)
theorem div_mul1 {q : Rat} (h : q ≠ 0) : 1 / q * q = 1 := Rat.div_mul_cancel h
theorem inv_ok {x : Rl} (hx : x.Ok) : x.inv.Ok := by
 unfold Rl.inv
 split
 ·exact rat_ok _
 ·exact scR_ok (cj_ok hx ‹_›) _
theorem val_rat0 {x : Rl} (h : x.r = 0) : x.val = ofRat x.p := by
 unfold Rl.val
 rw [h, sqrt_zero]
 exact ring [x.p, x.s] (by decide +kernel)
theorem val_ne0 {x : Rl} (hx : x.Ok) (h0 : x ≠ Rl.rat 0) : x.val ≠ 0 := by
 intro e
 exact h0 (inj hx (rat_ok 0) (e.trans (rat_val 0).symm))
theorem inv_val {x : Rl} (hx : x.Ok) (h0 : x ≠ Rl.rat 0) : x.inv.val * x.val = 1 := by
 unfold Rl.inv
 split
 ·rename_i h
  rw [rat_val, val_rat0 h, ← rat_mul, div_mul1]
  ·rfl
  ·intro e
   exact val_ne0 hx h0 (by rw [val_rat0 h, e]; rfl)
 ·rename_i h
  have e := val_cj hx
  rw [scR_val (cj_ok hx h)]
  have e2 := div_mul1 (nm_ne hx h)
  have e3 : ofRat (1 / x.nm) * ofRat x.nm = 1 := by rw [← rat_mul, e2]; rfl
  generalize 1 / x.nm = t at *
  exact ring2 [t, x.cj.val, x.val, x.nm] e t e3 1 (by decide +kernel)
theorem inv_ne0 {x : Rl} (hx : x.Ok) (h0 : x ≠ Rl.rat 0) : x.inv ≠ Rl.rat 0 := by
 intro e
 have h := inv_val hx h0
 rw [e, rat_val] at h
 have : (0 : RR) = 1 := by rw [← h]; exact ring [x.val] (by decide +kernel)
 exact absurd (rat_inj (p := 0) (q := 1) this) (by decide +kernel)
theorem inv_inv' {x : Rl} (hx : x.Ok) (h0 : x ≠ Rl.rat 0) : x.inv.inv = x := by
 have h1 := inv_val hx h0
 have h2 := inv_val (inv_ok hx) (inv_ne0 hx h0)
 refine inj (inv_ok (inv_ok hx)) hx ?_
 refine mul_cancel (a := x.inv.val) ?_ (val_ne0 (inv_ok hx) (inv_ne0 hx h0))
 rw [h1, RR.mul_comm, h2]
theorem nm_ne0 {x : Rl} (hx : x.Ok) (h0 : x ≠ Rl.rat 0) : x.nm ≠ 0 := by
 by_cases h : x.r = 0
 ·unfold Rl.nm
  have : x.p ≠ 0 := fun e => val_ne0 hx h0 (by rw [val_rat0 h, e]; rfl)
  have := sqr_pos this
  intro e; grind
 ·exact nm_ne hx h
theorem inv_mk {x : Rl} (hx : x.Ok) (h0 : x ≠ Rl.rat 0) : mkR (x.p / x.nm) (-x.s / x.nm) x.r = x.inv := by
 have hn : x.nm ≠ 0 := nm_ne0 hx h0
 refine mkR_eq hx.nonneg (inv_ok hx) ?_
 have h1 := inv_val hx h0
 refine mul_cancel (a := x.val) ?_ (val_ne0 hx h0)
 rw [RR.mul_comm, h1]
 have e := sr_sq x hx.nonneg
 have e3 : ofRat (1 / x.nm) * ofRat x.nm = 1 := by rw [← rat_mul, div_mul1 hn]; rfl
 have d1 : x.p / x.nm = x.p * (1 / x.nm) := by rw [Rat.div_def, Rat.div_def, Rat.one_mul]
 have d2 : -x.s / x.nm = -x.s * (1 / x.nm) := by rw [Rat.div_def, Rat.div_def, Rat.one_mul]
 rw [d1, d2]
 generalize 1 / x.nm = t at *
 unfold Rl.nm at e3
 unfold Rl.val
 exact ring2 [t, x.p, x.s, sqrt x.r, x.r] e t e3 (-1) (by decide +kernel)
end Vi
set_option linter.unusedSimpArgs false
set_option linter.unusedVariables false
namespace Vi
open RR Rl
theorem val_mul_self {x : Rl} (hx : x.Ok) : x.val * x.val = ofRat (x.p * x.p + x.r) + ofRat (2 * x.p * x.s) * sqrt x.r := by
 have e := sr_sq x hx.nonneg
 unfold Rl.val
 exact ring1 [x.p, x.s, sqrt x.r, x.r] e 1 (by decide +kernel)
theorem eval_mk (a b c : Rat) {x : Rl} (hx : x.Ok) (h : ofRat a + ofRat b * x.val + ofRat c * (x.val * x.val) = 0) :
    mkR (a + (b * x.p + c * (x.p * x.p + x.r))) ((b + 2 * (c * x.p)) * x.s) x.r = Rl.rat 0 := by
 refine mkR_eq hx.nonneg (rat_ok 0) ?_
 rw [rat_val, ← rat_zero] at *
 rw [← h, val_mul_self hx]
 unfold Rl.val
 exact ring [a, b, c, x.p, x.s, sqrt x.r, x.r] (by decide +kernel)
theorem root_lin (a b : Rat) (hb : b ≠ 0) : ofRat a + ofRat b * (Rl.rat (-(a / b))).val + ofRat 0 * ((Rl.rat (-(a / b))).val * (Rl.rat (-(a / b))).val) = 0 := by
 rw [rat_val]
 have e : b * (a / b) = a := by rw [Rat.mul_comm, Rat.div_mul_cancel hb]
 have e2 : a + b * -(a / b) = 0 := by grind
 have e3 : ofRat a + ofRat b * ofRat (-(a / b)) = 0 := by rw [← rat_mul, ← rat_add, e2]; rfl
 generalize -(a / b) = t at *
 exact ring1 [a, b, t] e3 1 (by decide +kernel)
theorem half_eq (b c : Rat) (hc : c ≠ 0) : b = -2 * c * (b / (-2 * c)) := by
 have h2 : -2 * c ≠ 0 := by intro e; rcases Rat.mul_eq_zero.1 e with h | h; exact absurd h (by decide +kernel); exact hc h
 rw [Rat.mul_comm, Rat.div_mul_cancel h2]
theorem disc_eq (a c h d : Rat) (hc : c ≠ 0) (hd : d = h * h - a / c) : a = c * (h * h - d) := by
 have e : c * (a / c) = a := by rw [Rat.mul_comm, Rat.div_mul_cancel hc]
 rw [hd]; grind
theorem root_two (a b c h d s : Rat) (hb : b = -2 * c * h) (ha : a = c * (h * h - d)) (hd : 0 ≤ d) (hs : s * s = 1) :
    ofRat a + ofRat b * (mkR h s d).val + ofRat c * ((mkR h s d).val * (mkR h s d).val) = 0 := by
 rw [mkR_val h s d hd]
 have e := sqrt_sq d hd
 have e2 : ofRat s * ofRat s = 1 := by rw [← rat_mul, hs]; rfl
 subst hb ha
 exact ring2 [c, h, d, s, sqrt d] e (ofRat c * ofRat s * ofRat s) e2 (ofRat c * ofRat d) (by decide +kernel)
theorem root_one (a b c h : Rat) (hb : b = -2 * c * h) (ha : a = c * (h * h - 0)) :
    ofRat a + ofRat b * (Rl.rat h).val + ofRat c * ((Rl.rat h).val * (Rl.rat h).val) = 0 := by
 rw [rat_val]
 subst hb ha
 exact ring [c, h] (by decide +kernel)
theorem roots_cmp (h d : Rat) (hd : 0 < d) : cmp (mkR h (-1) d) (mkR h 1 d) = -1 := by
 unfold Rl.cmp
 rw [mkR_val h _ d (Rat.le_of_lt hd), mkR_val h _ d (Rat.le_of_lt hd)]
 refine RR.sg_neg ?_
 rw [lt_zero]
 have := sqrt_pos hd
 have e : -(ofRat h + ofRat (-1) * sqrt d - (ofRat h + ofRat 1 * sqrt d)) = sqrt d + sqrt d := ring [h, sqrt d] (by decide +kernel)
 rw [e]
 exact add_pos this this
theorem roots_ne (h d : Rat) (hd : 0 < d) : mkR h (-1) d ≠ mkR h 1 d := by
 intro e
 have := roots_cmp h d hd
 rw [e] at this
 rw [(cmp_eq0 (mkR_ok h 1 d (Rat.le_of_lt hd)) (mkR_ok h 1 d (Rat.le_of_lt hd))).2 rfl] at this
 exact absurd this (by decide)
theorem irr_nat (n k : Nat) (h1 : k * k < n) (h2 : n < (k + 1) * (k + 1)) (w : Rat) : w * w ≠ ((n : Nat) : Rat) := by
 intro e
 have hc : Nat.Coprime (w.num * w.num).natAbs (w.den * w.den) := by
  rw [Int.natAbs_mul]
  exact Nat.Coprime.mul_left (Nat.Coprime.mul_right w.reduced w.reduced) (Nat.Coprime.mul_right w.reduced w.reduced)
 have e2 : w * w = ⟨w.num * w.num, w.den * w.den, Nat.mul_ne_zero w.den_nz w.den_nz, hc⟩ := by
  rw [Rat.mul_def, ← Rat.mk_eq_normalize]
 have e3 : (w * w).num = w.num * w.num := by rw [e2]
 have e4 : (((n : Nat) : Rat)).num = (n : Int) := by rfl
 rw [e, e4] at e3
 have e5 : n = w.num.natAbs * w.num.natAbs := by rw [← Int.natAbs_mul, ← e3]; rfl
 generalize w.num.natAbs = m at e5
 rcases Nat.lt_or_ge m (k + 1) with h | h
 ·have := Nat.mul_le_mul (show m ≤ k by omega) (show m ≤ k by omega); omega
 ·have := Nat.mul_le_mul h h; omega
theorem ok_nat (p : Rat) (n k : Nat) (b : Bool) (h0 : 0 < n) (h1 : k * k < n) (h2 : n < (k + 1) * (k + 1)) : (⟨p, ((n : Nat) : Rat), b⟩ : Rl).Ok :=
 .inr ⟨by have : ((0 : Nat) : Rat) < ((n : Nat) : Rat) := Rat.natCast_lt_natCast.2 h0
          exact this, irr_nat n k h1 h2⟩
theorem root_near (isq : Nat → Nat) (hq : ∀ X, isq X * isq X ≤ X ∧ X < (isq X + 1) * (isq X + 1)) (r : Rat) (hr : 0 ≤ r) :
    ofRat (Rat.divInt ((isq (r.num * (r.den : Int)).toNat : Nat) : Int) (r.den : Int)) ≤ sqrt r ∧ sqrt r < ofRat (Rat.divInt ((isq (r.num * (r.den : Int)).toNat : Nat) : Int) (r.den : Int) + 1) := by
 have hb : (0 : Int) < r.den := by have := r.den_nz; omega
 have ha : 0 ≤ r.num := Rat.num_nonneg.2 hr
 obtain ⟨X, hX⟩ : ∃ X : Nat, X = (r.num * (r.den : Int)).toNat := ⟨_, rfl⟩
 have hXi : (X : Int) = r.num * (r.den : Int) := by rw [hX]; exact Int.toNat_of_nonneg (Int.mul_nonneg ha (Int.le_of_lt hb))
 obtain ⟨g1, g2⟩ := hq X
 rw [← hX]
 obtain ⟨w1, w2⟩ := isq_real X (isq X) g1 g2
 generalize isq X = k at *
 have hre : r * (r.den : Rat) = (r.num : Rat) := rat_mul_den r
 have hdq : (0 : Rat) < (r.den : Rat) := by exact_mod_cast hb
 have hXr : (X : Rat) = (r.den : Rat) * (r.den : Rat) * r := by
  have e2 : ((X : Int) : Rat) = (X : Rat) := rfl
  rw [← e2, hXi]
  push_cast
  rw [← hre]
  grind
 have hW : RR.sqrt (X : Rat) = ofRat (r.den : Rat) * sqrt r := by
  rw [hXr, RR.sqrt_mul (Rat.mul_nonneg (Rat.le_of_lt hdq) (Rat.le_of_lt hdq)) hr, RR.sqrt_sqr (Rat.le_of_lt hdq)]
 have ht : (r.den : Rat) * Rat.divInt ((k : Nat) : Int) (r.den : Int) = (k : Rat) := by
  rw [Rat.divInt_eq_div]
  have e1 : ((r.den : Int) : Rat) = (r.den : Rat) := rfl
  have e2 : (((k : Nat) : Int) : Rat) = (k : Rat) := rfl
  rw [e1, e2, Rat.mul_comm, Rat.div_mul_cancel (by grind)]
 have h1q : (1 : Rat) ≤ (r.den : Rat) := by
  have : (1 : Int) ≤ r.den := hb
  exact_mod_cast this
 generalize Rat.divInt ((k : Nat) : Int) (r.den : Int) = t at *
 rw [hW] at w1 w2
 generalize (r.den : Rat) = d at *
 have hd' : (0 : RR) < ofRat d := rat_lt.2 hdq
 constructor
 ·rw [← mul_le_iff hd', ← rat_mul, ht]; exact w1
 ·rw [← mul_lt_iff hd', ← rat_mul]
  refine lt_of_lt_of_le w2 (rat_le.2 ?_)
  rw [Rat.mul_add, ht, Rat.mul_one]
  grind
theorem floor_near {x : Rl} {t : Rat} {m : Int} (h1 : ofRat t ≤ sqrt x.r) (h2 : sqrt x.r < ofRat (t + 1)) (hm : IsFl x.val m) :
    m = (x.p + x.s * t).floor ∨ m = (x.p + x.s * t).floor + 1 ∨ m = (x.p + x.s * t).floor - 1 := by
 have f1 := Rat.floor_le (x.p + x.s * t)
 have f2 := Rat.lt_floor_add_one (x.p + x.s * t)
 generalize (x.p + x.s * t).floor = n at *
 obtain ⟨g1, g2⟩ := hm
 unfold Rl.val at g1 g2
 have up : ofRat x.p + ofRat x.s * sqrt x.r < ofRat (x.p + x.s * t + 1) := by
  rcases s_cases x with ⟨_, e⟩ | ⟨_, e⟩ <;> rw [e]
  ·refine lt_of_le_of_lt (y := ofRat (x.p + -1 * t)) ?_ (rat_lt.2 (by grind))
   refine le_of_nonneg (sqrt x.r - ofRat t) (sub_nonneg.2 h1) ?_
   exact ring [x.p, t, sqrt x.r] (by decide +kernel)
  ·refine lt_of_pos (ofRat (t + 1) - sqrt x.r) (sub_pos.2 h2) ?_
   exact ring [x.p, t, sqrt x.r] (by decide +kernel)
 have lo : ofRat (x.p + x.s * t - 1) < ofRat x.p + ofRat x.s * sqrt x.r := by
  rcases s_cases x with ⟨_, e⟩ | ⟨_, e⟩ <;> rw [e]
  ·refine lt_of_pos (ofRat (t + 1) - sqrt x.r) (sub_pos.2 h2) ?_
   exact ring [x.p, t, sqrt x.r] (by decide +kernel)
  ·refine lt_of_lt_of_le (y := ofRat (x.p + 1 * t)) (rat_lt.2 (by grind)) ?_
   refine le_of_nonneg (sqrt x.r - ofRat t) (sub_nonneg.2 h1) ?_
   exact ring [x.p, t, sqrt x.r] (by decide +kernel)
 have a := rat_lt.1 (lt_of_le_of_lt g1 up)
 have b := rat_lt.1 (lt_trans lo g2)
 have a2 : (m : Rat) < ((n + 2 : Int) : Rat) := by rw [Rat.intCast_add]; have : ((2 : Int) : Rat) = 2 := rfl
                                                   grind
 have b2 : ((n - 1 : Int) : Rat) < ((m + 1 : Int) : Rat) := by rw [Rat.intCast_sub]; have : ((1 : Int) : Rat) = 1 := rfl
                                                               grind
 have a3 : m < n + 2 := by exact_mod_cast a2
 have b3 : n - 1 < m + 1 := by exact_mod_cast b2
 omega
theorem cmp_fl {x : Rl} {m : Int} (hm : IsFl x.val m) : (cmp (Rl.rat (m : Rat)) x ≤ 0) ∧ cmp (Rl.rat ((m + 1 : Int) : Rat)) x = 1 := by
 obtain ⟨g1, g2⟩ := hm
 unfold Rl.cmp
 rw [rat_val, rat_val]
 constructor
 ·rcases sg_cases (ofRat (m : Rat) - x.val) with ⟨h, _⟩ | ⟨h, _⟩ | ⟨h, h2⟩ <;> rw [h]
  ·omega
  ·omega
  ·exact absurd (sub_pos.1 h2) g1
 ·exact sg_pos (sub_pos.2 g2)
theorem cmp_fl_low {x : Rl} {m : Int} (hm : IsFl x.val m) : cmp (Rl.rat ((m - 1 : Int) : Rat)) x = -1 := by
 obtain ⟨g1, g2⟩ := hm
 unfold Rl.cmp
 rw [rat_val]
 refine RR.sg_neg ?_
 rw [lt_zero]
 have h : ofRat ((m - 1 : Int) : Rat) < x.val := by
  refine lt_of_lt_of_le (rat_lt.2 ?_) g1
  rw [Rat.intCast_sub]; have : ((1 : Int) : Rat) = 1 := rfl
  grind
 have e : -(ofRat ((m - 1 : Int) : Rat) - x.val) = x.val - ofRat ((m - 1 : Int) : Rat) := ring [((m - 1 : Int) : Rat), x.val] (by decide +kernel)
 rw [e]
 exact sub_pos.2 h
end Vi
