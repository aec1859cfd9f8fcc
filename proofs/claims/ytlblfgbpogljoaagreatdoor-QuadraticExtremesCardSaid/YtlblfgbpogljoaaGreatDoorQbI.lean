/- Part 9 of the proof; what it holds is said text by text. -/
import Derived.Test.YtlblfgbpogljoaaGreatDoorQbH
import Derived.Test.YtlblfgbpogljoaaGreatDoorQbA
import Derived.Test.YtlblfgbpogljoaaGreatDoorQbE
import Derived.Test.YtlblfgbpogljoaaGreatDoorQbF
set_option linter.unusedSimpArgs false
set_option linter.unusedVariables false
section
/- Sizes of fractions, found by instances; the least and the greatest of fractions; the sign of a fraction. -/
namespace Vi
class HasSz (q : Rat) (k : outParam Nat) : Prop where
 sz : Sz k q
instance (p q : Rat) (i j : Nat) [h : HasSz p i] [g : HasSz q j] : HasSz (p + q) (i + j + 1) := ⟨h.sz.add g.sz⟩
instance (p q : Rat) (i j : Nat) [h : HasSz p i] [g : HasSz q j] : HasSz (p - q) (i + j + 1) := ⟨h.sz.sub g.sz⟩
instance (p q : Rat) (i j : Nat) [h : HasSz p i] [g : HasSz q j] : HasSz (p * q) (i + j) := ⟨h.sz.mul g.sz⟩
instance (p : Rat) (i : Nat) [h : HasSz p i] : HasSz (-p) i := ⟨h.sz.neg⟩
theorem lt_pow_self (n : Nat) : n < 256 ^ (n + 1) := by
 induction n with
 | zero => decide
 | succ n ih => rw [Nat.pow_succ]; omega
theorem int_hs (z : Int) (k : Nat) (h : z.natAbs < 256 ^ (k + 1)) : HasSz (z : Rat) (k + 1) :=
 ⟨by rw [Rat.num_intCast]; exact h, by rw [Rat.den_intCast, Nat.pow_succ]; have := Nat.pow_pos (a := 256) (n := k) (by omega); omega⟩
instance (n : Nat) : HasSz (no_index (OfNat.ofNat n : Rat)) (n + 1) := by
 have := int_hs (n : Int) n (by simpa using lt_pow_self n)
 exact this
instance : HasSz (0 : Rat) 1 := ⟨by unfold Sz; decide⟩
instance : HasSz (1 : Rat) 1 := ⟨by unfold Sz; decide⟩
instance : HasSz (2 : Rat) 1 := ⟨by unfold Sz; decide⟩
instance : HasSz (4 : Rat) 1 := ⟨by unfold Sz; decide⟩
theorem hs_div (p q : Rat) (i j : Nat) [h : HasSz p i] [g : HasSz q j] (h0 : q ≠ 0) : HasSz (p / q) (i + j) := ⟨h.sz.div g.sz (fun e => h0 (Rat.num_eq_zero.1 e))⟩
theorem hs_mono {p : Rat} {i j : Nat} (h : HasSz p i) (hij : i ≤ j) : HasSz p j := ⟨h.sz.mono hij⟩
def minQ (p q : Rat) : Rat := if p ≤ q then p else q
def maxQ (p q : Rat) : Rat := if q ≤ p then p else q
instance (p q : Rat) (i j : Nat) [h : HasSz p i] [g : HasSz q j] : HasSz (minQ p q) (i + j) := by
 unfold minQ; split
 ·exact hs_mono h (by omega)
 ·exact hs_mono g (by omega)
instance (p q : Rat) (i j : Nat) [h : HasSz p i] [g : HasSz q j] : HasSz (maxQ p q) (i + j) := by
 unfold maxQ; split
 ·exact hs_mono h (by omega)
 ·exact hs_mono g (by omega)
end Vi
namespace Go.Proofs.YtlblfgbpogljoaaGreatDoor
open Go Go.RowKit Go.Sy
open Vi
theorem fz {q : Rat} {k : Nat} [h : HasSz q k] (hk : k ≤ 131000 := by first | omega | decide) : Fits q := h.sz.fits hk
theorem cmpI_sg (p : Rat) : cmpI p.num 0 = sgQ p := by
 rcases sgn_cases p with ⟨h1, h2⟩ | ⟨h1, h2⟩ | ⟨h1, h2⟩ <;> rcases sgQ_cases p with ⟨g1, g2⟩ | ⟨g1, g2⟩ | ⟨g1, g2⟩ <;> rw [h1, g1] <;> grind
theorem cmpQ_sg (p q : Rat) : cmpQ p q = sgQ (p - q) := by
 rcases cmpQ_cases p q with ⟨h1, h2⟩ | ⟨h1, h2⟩ | ⟨h1, h2⟩ <;> rcases sgQ_cases (p - q) with ⟨g1, g2⟩ | ⟨g1, g2⟩ | ⟨g1, g2⟩ <;> rw [h1, g1] <;> grind
end Go.Proofs.YtlblfgbpogljoaaGreatDoor

end
section
/- No program in sight: the canonical form of p + q * sqrt r, and what follows for moves, inverses and values of quadratics. -/
namespace Vi
open RR Rl
noncomputable def mkR (p q r : Rat) : Rl := open Classical in
 if h : ∃ w : Rat, 0 ≤ w ∧ w * w = r then ⟨p + q * Classical.choose h, 0, false⟩ else ⟨p, q * q * r, decide (q < 0)⟩
theorem sq_inj {v w : Rat} (hv : 0 ≤ v) (hw : 0 ≤ w) (h : v * v = w * w) : v = w := by
 have h2 : (v - w) * (v + w) = 0 := by grind
 rcases Rat.mul_eq_zero.1 h2 with h3 | h3 <;> grind
theorem mkR_sq (p q r w : Rat) (h0 : 0 ≤ w) (h : w * w = r) : mkR p q r = ⟨p + q * w, 0, false⟩ := by
 unfold mkR
 have hx : ∃ w : Rat, 0 ≤ w ∧ w * w = r := ⟨w, h0, h⟩
 rw [dif_pos hx]
 obtain ⟨h1, h2⟩ := Classical.choose_spec hx
 rw [sq_inj h1 h0 (h2.trans h.symm)]
theorem mkR_irr (p q r : Rat) (h : ∀ w : Rat, w * w ≠ r) : mkR p q r = ⟨p, q * q * r, decide (q < 0)⟩ := by
 unfold mkR
 exact dif_neg fun ⟨w, _, hw⟩ => h w hw
theorem sqr_pos {q : Rat} (h : q ≠ 0) : 0 < q * q := by
 rcases (by grind : q < 0 ∨ 0 < q) with h | h
 ·have := Rat.mul_pos (show 0 < -q by grind) (show 0 < -q by grind); grind
 ·exact Rat.mul_pos h h
theorem irr_scale {q r : Rat} (hq : q ≠ 0) (h : ∀ w : Rat, w * w ≠ r) (w : Rat) : w * w ≠ q * q * r := by
 intro e
 refine h (w / q) ?_
 have : q * q ≠ 0 := fun e => (Rat.lt_irrefl (a := 0)) (by have := sqr_pos hq; rw [e] at this; exact this)
 have e2 : (w / q) * q = w := by rw [Rat.div_mul_cancel hq]
 have e3 : (q * q) * (w / q * (w / q)) = (q * q) * r := by
  rw [← e]
  have : (q * q) * (w / q * (w / q)) = (w / q * q) * (w / q * q) := by grind
  rw [this, e2]
 have h5 : (q * q) * (w / q * (w / q) - r) = 0 := by grind
 rcases Rat.mul_eq_zero.1 h5 with h6 | h6
 ·exact absurd h6 this
 ·grind
theorem mkR_ok (p q r : Rat) (hr : 0 ≤ r) : (mkR p q r).Ok := by
 by_cases h : ∃ w : Rat, w * w = r
 ·obtain ⟨w, hw⟩ := h
  rcases (by grind : 0 ≤ w ∨ 0 ≤ -w) with h0 | h0
  ·rw [mkR_sq p q r w h0 hw]; exact .inl ⟨rfl, rfl⟩
  ·rw [mkR_sq p q r (-w) h0 (by grind)]; exact .inl ⟨rfl, rfl⟩
 ·have h : ∀ w : Rat, w * w ≠ r := fun w hw => h ⟨w, hw⟩
  rw [mkR_irr p q r h]
  have r0 : r ≠ 0 := fun e => h 0 (by rw [e, Rat.mul_zero])
  have rp : 0 < r := by grind
  by_cases hq : q = 0
  ·subst hq; exact .inl ⟨by show (0 : Rat) * 0 * r = 0; grind, by show decide ((0 : Rat) < 0) = false; decide +kernel⟩
  ·exact .inr ⟨Rat.mul_pos (sqr_pos hq) rp, irr_scale hq h⟩
theorem sqrt_scale {q r : Rat} (hr : 0 ≤ r) : sqrt (q * q * r) = ofRat (if q < 0 then -q else q) * sqrt r := by
 rw [RR.sqrt_mul (by rcases (by grind : q < 0 ∨ 0 ≤ q) with h | h; have := Rat.mul_nonneg (show 0 ≤ -q by grind) (show 0 ≤ -q by grind); grind; exact Rat.mul_nonneg h h) hr]
 split
 ·rename_i h
  rw [show q * q = -q * -q by grind, RR.sqrt_sqr (by grind)]
 ·rename_i h
  rw [RR.sqrt_sqr (by grind)]
theorem mkR_val (p q r : Rat) (hr : 0 ≤ r) : (mkR p q r).val = ofRat p + ofRat q * sqrt r := by
 by_cases h : ∃ w : Rat, w * w = r
 ·obtain ⟨w, hw⟩ := h
  have main : ∀ w : Rat, 0 ≤ w → w * w = r → (mkR p q r).val = ofRat p + ofRat q * sqrt r := fun w h0 hw => by
   rw [mkR_sq p q r w h0 hw, ← hw, RR.sqrt_sqr h0]
   have := rat_val (p + q * w)
   unfold rat at this
   rw [this]; rfl
  rcases (by grind : 0 ≤ w ∨ 0 ≤ -w) with h0 | h0
  ·exact main w h0 hw
  ·exact main (-w) h0 (by grind)
 ·have h : ∀ w : Rat, w * w ≠ r := fun w hw => h ⟨w, hw⟩
  rw [mkR_irr p q r h]
  unfold Rl.val Rl.s
  dsimp only
  rw [sqrt_scale hr]
  by_cases hq : q < 0
  ·rw [if_pos hq, if_pos (decide_eq_true hq)]
   exact ring [p, q, sqrt r] (by decide +kernel)
  ·rw [if_neg hq, if_neg (by simpa using hq)]
   exact ring [p, q, sqrt r] (by decide +kernel)
theorem mkR_eq {p q r : Rat} {x : Rl} (hr : 0 ≤ r) (hx : x.Ok) (h : x.val = ofRat p + ofRat q * sqrt r) : mkR p q r = x := inj (mkR_ok p q r hr) hx ((mkR_val p q r hr).trans h.symm)
theorem sz_root {w : Rat} {k : Nat} [h : HasSz (w * w) k] : HasSz w k := by
 have h1 : (w * w).num = w.num * w.num ∧ (w * w).den = w.den * w.den := by
  have hc : Nat.Coprime (w.num * w.num).natAbs (w.den * w.den) := by
   rw [Int.natAbs_mul]
   exact Nat.Coprime.mul_left (Nat.Coprime.mul_right w.reduced w.reduced) (Nat.Coprime.mul_right w.reduced w.reduced)
  have e : w * w = ⟨w.num * w.num, w.den * w.den, Nat.mul_ne_zero w.den_nz w.den_nz, hc⟩ := by
   rw [Rat.mul_def, ← Rat.mk_eq_normalize]
  rw [e]; exact ⟨rfl, rfl⟩
 have h2 := h.sz
 unfold Sz at h2
 rw [h1.1, h1.2, Int.natAbs_mul] at h2
 refine ⟨?_⟩
 unfold Sz
 have a1 := Nat.le_mul_self w.num.natAbs
 have a2 := Nat.le_mul_self w.den
 omega
theorem hz0 : HasSz (0 : Rat) 1 := inferInstance
instance (p q r : Rat) (i j k : Nat) [hp : HasSz p i] [hq : HasSz q j] [hr : HasSz r k] : HasSz (mkR p q r).p (i + (j + k) + 1) := by
 by_cases h : ∃ w : Rat, 0 ≤ w ∧ w * w = r
 ·obtain ⟨w, h0, hw⟩ := h
  rw [mkR_sq p q r w h0 hw]
  subst hw
  haveI : HasSz w k := sz_root
  exact (inferInstance : HasSz (p + q * w) _)
 ·unfold mkR
  rw [dif_neg h]
  exact hs_mono hp (by omega)
instance (p q r : Rat) (i j k : Nat) [hp : HasSz p i] [hq : HasSz q j] [hr : HasSz r k] : HasSz (mkR p q r).r (j + j + k + 1) := by
 by_cases h : ∃ w : Rat, 0 ≤ w ∧ w * w = r
 ·obtain ⟨w, h0, hw⟩ := h
  rw [mkR_sq p q r w h0 hw]
  exact hs_mono hz0 (by omega)
 ·unfold mkR
  rw [dif_neg h]
  exact hs_mono (inferInstance : HasSz (q * q * r) _) (by omega)
theorem mkR_zero (p q : Rat) : mkR p q 0 = rat p := by
 rw [mkR_sq p q 0 0 Rat.le_refl (by decide +kernel)]
 unfold rat
 rw [Rat.mul_zero, Rat.add_zero]
def Rl.cj (x : Rl) : Rl := ⟨x.p, x.r, !x.neg⟩
theorem Rl.cj_s (x : Rl) : x.cj.s = -x.s := by
 obtain ⟨p, r, b⟩ := x
 cases b
 ·show (-1 : Rat) = -(1 : Rat); rfl
 ·show (1 : Rat) = -(-1 : Rat); decide +kernel
def Rl.nm (x : Rl) : Rat := x.p * x.p - x.r
theorem nm_ne {x : Rl} (hx : x.Ok) (h0 : x.r ≠ 0) : x.nm ≠ 0 := by
 rcases hx with ⟨h, _⟩ | ⟨_, h⟩
 ·exact absurd h h0
 ·intro e; exact h x.p (by unfold Rl.nm at e; grind)
theorem val_cj {x : Rl} (hx : x.Ok) : x.val * x.cj.val = ofRat x.nm := by
 have e := sr_sq x hx.nonneg
 have e2 : x.cj.val = ofRat x.p - ofRat x.s * sqrt x.r := by
  unfold Rl.val
  rw [Rl.cj_s]
  show ofRat x.p + ofRat (-x.s) * sqrt x.r = _
  exact ring [x.p, x.s, sqrt x.r] (by decide +kernel)
 rw [e2]
 unfold Rl.val Rl.nm
 exact ring1 [x.p, x.s, sqrt x.r, x.r] e (-1) (by decide +kernel)
theorem cj_ok {x : Rl} (hx : x.Ok) (h0 : x.r ≠ 0) : x.cj.Ok := by
 rcases hx with ⟨h, _⟩ | h
 ·exact absurd h h0
 ·exact .inr h
noncomputable def Rl.inv (x : Rl) : Rl := if x.r = 0 then Rl.rat (1 / x.p) else x.cj.scR (1 / x.nm)
theorem hs_div0 (p q : Rat) (i j : Nat) [h : HasSz p i] [g : HasSz q j] : HasSz (p / q) (i + j + 1) := by
 by_cases h0 : q = 0
 ·rw [h0, show p / 0 = 0 by rw [Rat.div_def]; simp]
  exact hs_mono hz0 (by omega)
 ·exact hs_mono (hs_div p q i j h0) (by omega)
instance (x : Rl) (i j : Nat) [h : HasSz x.p i] [g : HasSz x.r j] : HasSz x.nm (i + i + j + 1) := (inferInstance : HasSz (x.p * x.p - x.r) _)
instance (x : Rl) (i j : Nat) [h : HasSz x.p i] [g : HasSz x.r j] : HasSz x.inv.p (i + (1 + (i + i + j + 1) + 1)) := by
 haveI := hs_div0 1 x.nm 1 (i + i + j + 1)
 haveI := hs_div0 1 x.p 1 i
 unfold Rl.inv
 split
 ·exact hs_mono (inferInstance : HasSz (1 / x.p) _) (by omega)
 ·exact (inferInstance : HasSz (x.p * (1 / x.nm)) _)
instance (x : Rl) (i j : Nat) [h : HasSz x.p i] [g : HasSz x.r j] : HasSz x.inv.r (1 + (i + i + j + 1) + 1 + (1 + (i + i + j + 1) + 1) + j) := by
 haveI := hs_div0 1 x.nm 1 (i + i + j + 1)
 unfold Rl.inv
 split
 ·exact hs_mono hz0 (by omega)
 ·exact (inferInstance : HasSz (1 / x.nm * (1 / x.nm) * x.r) _)
theorem div_mul1 {q : Rat} (h : q ≠ 0) : 1 / q * q = 1 := Rat.div_mul_cancel h
theorem inv_ok {x : Rl} (hx : x.Ok) : x.inv.Ok := by
 unfold Rl.inv
 split
 ·exact rat_ok _
 ·exact scR_ok (cj_ok hx ‹_›) _
theorem val_rat0 {x : Rl} (h : x.r = 0) : x.val = ofRat x.p := by
 unfold Rl.val
 rw [h, sqrt_zero]
 exact ring [x.p, x.s] (by decide +kernel)
theorem val_ne0 {x : Rl} (hx : x.Ok) (h0 : x ≠ Rl.rat 0) : x.val ≠ 0 := by
 intro e
 exact h0 (inj hx (rat_ok 0) (e.trans (rat_val 0).symm))
theorem inv_val {x : Rl} (hx : x.Ok) (h0 : x ≠ Rl.rat 0) : x.inv.val * x.val = 1 := by
 unfold Rl.inv
 split
 ·rename_i h
  rw [rat_val, val_rat0 h, ← rat_mul, div_mul1]
  ·rfl
  ·intro e
   exact val_ne0 hx h0 (by rw [val_rat0 h, e]; rfl)
 ·rename_i h
  have e := val_cj hx
  rw [scR_val (cj_ok hx h)]
  have e2 := div_mul1 (nm_ne hx h)
  have e3 : ofRat (1 / x.nm) * ofRat x.nm = 1 := by rw [← rat_mul, e2]; rfl
  generalize 1 / x.nm = t at *
  exact ring2 [t, x.cj.val, x.val, x.nm] e t e3 1 (by decide +kernel)
end Vi
namespace Vi
open RR Rl
theorem val_mul_self {x : Rl} (hx : x.Ok) : x.val * x.val = ofRat (x.p * x.p + x.r) + ofRat (2 * x.p * x.s) * sqrt x.r := by
 have e := sr_sq x hx.nonneg
 unfold Rl.val
 exact ring1 [x.p, x.s, sqrt x.r, x.r] e 1 (by decide +kernel)
theorem half_eq (b c : Rat) (hc : c ≠ 0) : b = -2 * c * (b / (-2 * c)) := by
 have h2 : -2 * c ≠ 0 := by intro e; rcases Rat.mul_eq_zero.1 e with h | h; exact absurd h (by decide +kernel); exact hc h
 rw [Rat.mul_comm, Rat.div_mul_cancel h2]
theorem disc_eq (a c h d : Rat) (hc : c ≠ 0) (hd : d = h * h - a / c) : a = c * (h * h - d) := by
 have e : c * (a / c) = a := by rw [Rat.mul_comm, Rat.div_mul_cancel hc]
 rw [hd]; grind
theorem irr_nat (n k : Nat) (h1 : k * k < n) (h2 : n < (k + 1) * (k + 1)) (w : Rat) : w * w ≠ ((n : Nat) : Rat) := by
 intro e
 have hc : Nat.Coprime (w.num * w.num).natAbs (w.den * w.den) := by
  rw [Int.natAbs_mul]
  exact Nat.Coprime.mul_left (Nat.Coprime.mul_right w.reduced w.reduced) (Nat.Coprime.mul_right w.reduced w.reduced)
 have e2 : w * w = ⟨w.num * w.num, w.den * w.den, Nat.mul_ne_zero w.den_nz w.den_nz, hc⟩ := by
  rw [Rat.mul_def, ← Rat.mk_eq_normalize]
 have e3 : (w * w).num = w.num * w.num := by rw [e2]
 have e4 : (((n : Nat) : Rat)).num = (n : Int) := by rfl
 rw [e, e4] at e3
 have e5 : n = w.num.natAbs * w.num.natAbs := by rw [← Int.natAbs_mul, ← e3]; rfl
 generalize w.num.natAbs = m at e5
 rcases Nat.lt_or_ge m (k + 1) with h | h
 ·have := Nat.mul_le_mul (show m ≤ k by omega) (show m ≤ k by omega); omega
 ·have := Nat.mul_le_mul h h; omega
end Vi

end
section
/- No program in sight: the value of a quadratic at a number with a root. -/
namespace Go.Proofs.YtlblfgbpogljoaaGreatDoor
open Go Go.RowKit Go.Sy
open Vi RR
def evQ (a b c t : Rat) : Rat := a + t * (b + t * c)
def slQ (b c t : Rat) : Rat := b + (c + c) * t
noncomputable def atQ (a b c : Rat) (x : Rl) : Rl := mkR (evQ a b c x.p + c * x.r) (slQ b c x.p * x.s) x.r
def qval (a b c : Rat) (v : RR) : RR := ofRat a + ofRat b * v + ofRat c * (v * v)
theorem atQ_ok {a b c : Rat} {x : Rl} (hx : x.Ok) : (atQ a b c x).Ok := mkR_ok _ _ _ hx.nonneg
theorem atQ_val {a b c : Rat} {x : Rl} (hx : x.Ok) : (atQ a b c x).val = qval a b c x.val := by
 unfold atQ qval
 rw [mkR_val _ _ _ hx.nonneg, val_mul_self hx]
 unfold Rl.val evQ slQ
 exact ring [a, b, c, x.p, x.s, sqrt x.r, x.r] (by decide +kernel)
theorem atQ_rat (a b c t : Rat) : atQ a b c (Rl.rat t) = Rl.rat (evQ a b c t) := by
 unfold atQ
 show mkR (evQ a b c t + c * 0) _ 0 = _
 rw [mkR_zero, show evQ a b c t + c * 0 = evQ a b c t by grind]
noncomputable def ofR (p r : Rat) (neg : Bool) : Rl := mkR p (if neg then -1 else 1) r
theorem ofR_ok {p r : Rat} {neg : Bool} (h : 0 ≤ r) : (ofR p r neg).Ok := mkR_ok _ _ _ h
theorem ofR_sq (p w : Rat) (h : 0 ≤ w) (neg : Bool) : ofR p (w * w) neg = Rl.rat (p + if neg then -w else w) := by
 unfold ofR
 rw [mkR_sq _ _ _ w h rfl]
 cases neg
 ·show Rl.mk (p + 1 * w) 0 false = Rl.mk (p + w) 0 false
  rw [Rat.one_mul]
 ·show Rl.mk (p + -1 * w) 0 false = Rl.mk (p + -w) 0 false
  rw [show -1 * w = -w by grind]
theorem ofR_irr (p r : Rat) (neg : Bool) (h : ∀ w : Rat, w * w ≠ r) : ofR p r neg = ⟨p, r, neg⟩ := by
 unfold ofR
 rw [mkR_irr _ _ _ h]
 cases neg
 ·show Rl.mk p (1 * 1 * r) (decide ((1 : Rat) < 0)) = _
  rw [show (1 : Rat) * 1 * r = r by grind, show decide ((1 : Rat) < 0) = false by decide +kernel]
 ·show Rl.mk p (-1 * -1 * r) (decide ((-1 : Rat) < 0)) = _
  rw [show (-1 : Rat) * -1 * r = r by grind, show decide ((-1 : Rat) < 0) = true by decide +kernel]
theorem ofR_hsp {p r : Rat} {neg : Bool} {i k : Nat} [hp : HasSz p i] [hr : HasSz r k] : HasSz (ofR p r neg).p (i + k + 1) := by
 unfold ofR
 by_cases h : ∃ w : Rat, 0 ≤ w ∧ w * w = r
 ·obtain ⟨w, h0, hw⟩ := h
  rw [mkR_sq _ _ _ w h0 hw]
  subst hw
  haveI z : HasSz w k := sz_root
  cases neg
  ·have := (inferInstance : HasSz (p + w) (i + k + 1))
   rw [show w = 1 * w by grind] at this
   exact this
  ·have := (inferInstance : HasSz (p + -w) (i + k + 1))
   rw [show -w = -1 * w by grind] at this
   exact this
 ·unfold mkR
  rw [dif_neg h]
  exact hs_mono hp (by omega)
theorem ofR_hsr {p r : Rat} {neg : Bool} {k : Nat} [hr : HasSz r k] (hk : 1 ≤ k) : HasSz (ofR p r neg).r k := by
 by_cases h : ∃ w : Rat, 0 ≤ w ∧ w * w = r
 ·obtain ⟨w, h0, hw⟩ := h
  unfold ofR
  rw [mkR_sq _ _ _ w h0 hw]
  exact hs_mono hz0 hk
 ·have hi : ∀ w : Rat, w * w ≠ r := fun w hw => by
    rcases (by grind : 0 ≤ w ∨ w < 0) with g | g
    ·exact h ⟨w, g, hw⟩
    ·exact h ⟨-w, by grind, by grind⟩
  rw [ofR_irr _ _ _ hi]
  exact hr
def rd0 (a c p r : Rat) : Rat := a + c * (r - p * p)
def rd1 (b c p : Rat) : Rat := b + 2 * (p * c)
theorem refAt {a b c : Rat} {x : Rl} (hx : x.Ok) : ofR (rd0 a c x.p x.r + rd1 b c x.p * x.p) (rd1 b c x.p * rd1 b c x.p * x.r) (x.neg != decide (rd1 b c x.p < 0)) = atQ a b c x := by
 have hr := hx.nonneg
 refine mkR_eq ?_ (atQ_ok hx) ?_
 ·have : 0 ≤ rd1 b c x.p * rd1 b c x.p := by
    rcases (by grind : rd1 b c x.p < 0 ∨ 0 ≤ rd1 b c x.p) with h | h
    ·have := Rat.mul_nonneg (show 0 ≤ -rd1 b c x.p by grind) (show 0 ≤ -rd1 b c x.p by grind)
     grind
    ·exact Rat.mul_nonneg h h
  exact Rat.mul_nonneg this hr
 rw [sqrt_scale hr]
 have hs : x.s = if x.neg then -1 else 1 := rfl
 unfold atQ
 rw [mkR_val _ _ _ hr, hs]
 have e : evQ a b c x.p + c * x.r = rd0 a c x.p x.r + rd1 b c x.p * x.p := by unfold evQ rd0 rd1; grind
 have e1 : slQ b c x.p = rd1 b c x.p := by unfold slQ rd1; grind
 rw [e, e1]
 clear e e1
 generalize rd0 a c x.p x.r + rd1 b c x.p * x.p = t
 generalize rd1 b c x.p = u
 by_cases h : u < 0
 ·rw [if_pos h, decide_eq_true h]
  cases x.neg
  ·show _ + ofRat (u * 1) * _ = _ + ofRat (-1) * _
   exact ring [t, u, sqrt x.r] (by decide +kernel)
  ·show _ + ofRat (u * -1) * _ = _ + ofRat 1 * _
   exact ring [t, u, sqrt x.r] (by decide +kernel)
 ·rw [if_neg h, decide_eq_false h]
  cases x.neg
  ·show _ + ofRat (u * 1) * _ = _ + ofRat 1 * _
   exact ring [t, u, sqrt x.r] (by decide +kernel)
  ·show _ + ofRat (u * -1) * _ = _ + ofRat (-1) * _
   exact ring [t, u, sqrt x.r] (by decide +kernel)
theorem refAt0 {a b c p : Rat} {n : Bool} : ofR (evQ a b c p + 0 * p) (0 * 0 * 0) n = atQ a b c (Rl.rat p) := by
 rw [atQ_rat]
 unfold ofR
 rw [show (0 : Rat) * 0 * 0 = 0 by grind, mkR_zero, show evQ a b c p + 0 * p = evQ a b c p by grind]
theorem refSgn {a b c : Rat} {x : Rl} (hx : x.Ok) : signF (rd0 a c x.p x.r + rd1 b c x.p * x.p) (rd1 b c x.p * x.s) x.r = sgR (atQ a b c x).val := by
 rw [signF_eq _ _ _ hx.nonneg]
 unfold atQ
 rw [mkR_val _ _ _ hx.nonneg]
 have e : evQ a b c x.p + c * x.r = rd0 a c x.p x.r + rd1 b c x.p * x.p := by unfold evQ rd0 rd1; grind
 have e1 : slQ b c x.p = rd1 b c x.p := by unfold slQ rd1; grind
 rw [e, e1]
theorem refSgn0 {a b c p s : Rat} : signF (evQ a b c p + 0 * p) (0 * s) 0 = sgR (atQ a b c (Rl.rat p)).val := by
 rw [signF_eq _ _ _ Rat.le_refl, atQ_rat, Rl.rat_val, show evQ a b c p + 0 * p = evQ a b c p by grind, sqrt_zero]
 congr 1
 exact ring [evQ a b c p, s] (by decide +kernel)
theorem rat_of_r0 {x : Rl} (hx : x.Ok) (h : x.r = 0) : x = Rl.rat x.p := by
 rcases hx with ⟨_, h2⟩ | ⟨h1, _⟩
 ·obtain ⟨p, r, n⟩ := x
  dsimp only at h h2
  subst h h2
  rfl
 ·rw [h] at h1
  exact absurd h1 (Rat.lt_irrefl)
end Go.Proofs.YtlblfgbpogljoaaGreatDoor

end
section
/- No program in sight: the sign of a quadratic between two instants with no root between them. -/
namespace Go.Proofs.YtlblfgbpogljoaaGreatDoor
open Go Go.RowKit Go.Sy
open Vi RR
theorem qfac {a b c h d : Rat} (hc : c ≠ 0) (eh : h = b / (-2 * c)) (ed : d = h * h - a / c) (v : RR) : qval a b c v = ofRat c * ((v - ofRat h) * (v - ofRat h) - ofRat d) := by
 have hb : b = -2 * c * h := by rw [eh]; exact half_eq b c hc
 have ha := disc_eq a c h d hc ed
 clear eh ed
 subst hb ha
 unfold qval
 exact ring [c, h, d, v] (by decide +kernel)
theorem qfac2 {a b c h d : Rat} (hc : c ≠ 0) (eh : h = b / (-2 * c)) (ed : d = h * h - a / c) (hd : 0 ≤ d) (v : RR) : qval a b c v = ofRat c * ((v - (mkR h (-1) d).val) * (v - (mkR h 1 d).val)) := by
 rw [qfac hc eh ed, mkR_val _ _ _ hd, mkR_val _ _ _ hd]
 exact ring1 [c, h, d, v, sqrt d] (sqrt_sq d hd) (ofRat c) (by decide +kernel)
theorem qfac1 {a b : Rat} (hb : b ≠ 0) (v : RR) : qval a b 0 v = ofRat b * (v - ofRat (-(a / b))) := by
 have e : a = b * (a / b) := by rw [Rat.mul_comm, Rat.div_mul_cancel hb]
 obtain ⟨t, ht⟩ : ∃ t, t = a / b := ⟨_, rfl⟩
 rw [← ht] at e ⊢
 clear ht
 subst e
 unfold qval
 exact ring [b, t, v] (by decide +kernel)
theorem qfac0 {a : Rat} (v : RR) : qval a 0 0 v = ofRat a := by
 unfold qval
 exact ring [a, v] (by decide +kernel)
def btwS (sA sB sc : Int) : Int := if sA ≠ 0 then sA else if sB ≠ 0 then sB else 0 - sc
theorem sg_side {A M B r : RR} (h1 : A < M) (h2 : M < B) (h : r ≤ A ∨ B ≤ r) :
    (sgR (M - r) = 1 ∧ (sgR (A - r) = 1 ∨ sgR (A - r) = 0) ∧ sgR (B - r) = 1) ∨ (sgR (M - r) = -1 ∧ sgR (A - r) = -1 ∧ (sgR (B - r) = -1 ∨ sgR (B - r) = 0)) := by
 have neg : ∀ {x y : RR}, x < y → sgR (x - y) = -1 := fun {x y} hxy => RR.sg_neg (lt_of_pos (y - x) (sub_pos.2 hxy) (ring [x, y] (by decide +kernel)))
 have pos : ∀ {x y : RR}, x < y → sgR (y - x) = 1 := fun {x y} hxy => RR.sg_pos (sub_pos.2 hxy)
 have zer : ∀ {x y : RR}, x = y → sgR (y - x) = 0 := fun {x y} hxy => RR.sg_zero (by rw [hxy]; exact ring [y] (by decide +kernel))
 rcases h with h | h
 ·refine .inl ⟨pos (lt_of_le_of_lt h h1), ?_, pos (lt_of_le_of_lt h (lt_trans h1 h2))⟩
  rcases lt_or_eq h with g | g
  ·exact .inl (pos g)
  ·exact .inr (zer g)
 ·refine .inr ⟨neg (lt_of_lt_of_le h2 h), neg (lt_of_lt_of_le (lt_trans h1 h2) h), ?_⟩
  rcases lt_or_eq h with g | g
  ·exact .inl (neg g)
  ·exact .inr (zer g.symm)
theorem sgQ_pm {c : Rat} (h : c ≠ 0) : sgQ c = 1 ∨ sgQ c = -1 := by
 rcases sgQ_cases c with ⟨e, _⟩ | ⟨_, e⟩ | ⟨e, _⟩
 ·exact .inr e
 ·exact absurd e h
 ·exact .inl e
theorem sgF2 {q : RR → RR} {c : Rat} {r1 r2 A M B : RR} (hc : c ≠ 0) (hq : ∀ v, q v = ofRat c * ((v - r1) * (v - r2))) (h1 : A < M) (h2 : M < B) (g1 : r1 ≤ A ∨ B ≤ r1) (g2 : r2 ≤ A ∨ B ≤ r2) :
    sgR (q M) = btwS (sgR (q A)) (sgR (q B)) (sgQ c) := by
 rw [hq, hq, hq, sg_mul, sg_mul, sg_mul, sg_mul, sg_mul, sg_mul, sg_rat]
 unfold btwS
 rcases sgQ_pm hc with e | e <;> rw [e] <;> rcases sg_side h1 h2 g1 with ⟨m1, a1, b1⟩ | ⟨m1, a1, b1⟩ <;> rcases sg_side h1 h2 g2 with ⟨m2, a2, b2⟩ | ⟨m2, a2, b2⟩ <;> rw [m1, m2] <;>
  first
  | (rw [b1, b2]; rcases a1 with a1 | a1 <;> rcases a2 with a2 | a2 <;> rw [a1, a2] <;> decide)
  | (rw [b1, a2]; rcases a1 with a1 | a1 <;> rcases b2 with b2 | b2 <;> rw [a1, b2] <;> decide)
  | (rw [a1, b2]; rcases b1 with b1 | b1 <;> rcases a2 with a2 | a2 <;> rw [b1, a2] <;> decide)
  | (rw [a1, a2]; rcases b1 with b1 | b1 <;> rcases b2 with b2 | b2 <;> rw [b1, b2] <;> decide)
theorem sgF1 {q : RR → RR} {c : Rat} {r A M B : RR} (s : Int) (hc : c ≠ 0) (hq : ∀ v, q v = ofRat c * (v - r)) (h1 : A < M) (h2 : M < B) (g : r ≤ A ∨ B ≤ r) :
    sgR (q M) = btwS (sgR (q A)) (sgR (q B)) s := by
 rw [hq, hq, hq, sg_mul, sg_mul, sg_mul, sg_rat]
 unfold btwS
 rcases sgQ_pm hc with e | e <;> rw [e] <;> rcases sg_side h1 h2 g with ⟨m, a, b⟩ | ⟨m, a, b⟩ <;> rw [m]
 ·rw [b]; rcases a with a | a <;> rw [a] <;> rfl
 ·rw [a]; rfl
 ·rw [b]; rcases a with a | a <;> rw [a] <;> rfl
 ·rw [a]; rfl
theorem sgF0 {q : RR → RR} {A M B : RR} {t : Int} (s : Int) (ht : t ≠ 0) (hq : ∀ v, sgR (q v) = t) : sgR (q M) = btwS (sgR (q A)) (sgR (q B)) s := by
 rw [hq, hq, hq]
 unfold btwS
 rw [if_pos ht]
theorem sg_nosol {a b c h d : Rat} (hc : c ≠ 0) (eh : h = b / (-2 * c)) (ed : d = h * h - a / c) (hd : d < 0) (v : RR) : sgR (qval a b c v) = sgQ c := by
 rw [qfac hc eh ed, sg_mul, sg_rat]
 have : 0 < (v - ofRat h) * (v - ofRat h) - ofRat d := by
  have h1 : (0 : RR) < ofRat (-d) := rat_lt.2 (by grind)
  have h2 : (0 : RR) ≤ (v - ofRat h) * (v - ofRat h) := by
   rcases tri 0 (v - ofRat h) with g | g | g
   ·exact le_of_lt (mul_pos g g)
   ·rw [← g]
    have e : (0 : RR) * 0 = 0 := ring [] (by decide +kernel)
    rw [e]; exact le_refl 0
   ·exact le_of_lt (mul_neg_neg g g)
  refine lt_of_lt_of_le h1 (le_of_nonneg _ h2 ?_)
  exact ring [v, h, d] (by decide +kernel)
 rw [RR.sg_pos this, Int.mul_one]
end Go.Proofs.YtlblfgbpogljoaaGreatDoor

end
section
/- No program in sight: an interval divided at the roots of a function; which part has an instant. -/
namespace Go.Proofs.YtlblfgbpogljoaaGreatDoor
open Go Go.RowKit Go.Sy
open Vi RR
structure Iv where
 F : Rl
 T : Rl
 oF : Bool
 oT : Bool
def Iv.has (i : Iv) (v : RR) : Prop := (i.F.val < v ∨ i.oF = false ∧ i.F.val = v) ∧ (v < i.T.val ∨ i.oT = false ∧ v = i.T.val)
def Iv.full (i : Iv) : Prop := i.F.val < i.T.val ∨ (i.F.val = i.T.val ∧ i.oF = false ∧ i.oT = false)
noncomputable def parts (inn : Iv) (s : Rl → Rl → Int) : List Rl → Rl → Bool → List (Iv × Int)
 | [], f, o => open Classical in if Iv.full ⟨f, inn.T, o, inn.oT⟩ then [(⟨f, inn.T, o, inn.oT⟩, s f inn.T)] else []
 | r :: rs, f, o => open Classical in if inn.has r.val then (if f.val < r.val then [(⟨f, r, o, true⟩, s f r)] else []) ++ ((⟨r, r, false, false⟩, 0) :: parts inn s rs r true) else parts inn s rs f o
end Go.Proofs.YtlblfgbpogljoaaGreatDoor

end
section
/- No program in sight: each part of an interval has the sign that the function has at each of its instants. -/
namespace Go.Proofs.YtlblfgbpogljoaaGreatDoor
open Go Go.RowKit Go.Sy
open Vi RR
structure Sgs (qv : RR → RR) (sc : Int) (all : List Rl) : Prop where
 mid : ∀ A M B : RR, A < M → M < B → (∀ r ∈ all, r.val ≤ A ∨ B ≤ r.val) → sgR (qv M) = btwS (sgR (qv A)) (sgR (qv B)) sc
 ends : ∀ A B : RR, A < B → (∀ r ∈ all, r.val ≤ A ∨ B ≤ r.val) → sgR (qv A) ≠ 0 → sgR (qv B) ≠ 0 → sgR (qv A) = sgR (qv B)
 root : ∀ r ∈ all, sgR (qv r.val) = 0
 only : ∀ v, sgR (qv v) = 0 → ∃ r ∈ all, r.val = v
noncomputable def sBt (qv : RR → RR) (sc : Int) (F T : Rl) : Int := btwS (sgR (qv F.val)) (sgR (qv T.val)) sc
structure Rest (inn : Iv) (all rs : List Rl) (f : Rl) (o : Bool) : Prop where
 from_ : inn.F.val < f.val ∨ inn.F.val = f.val ∧ (inn.oF = true → o = true)
 seen : ∀ x ∈ all, x ∈ rs ∨ x.val < f.val ∨ (x.val = f.val ∧ o = true) ∨ inn.T.val < x.val ∨ (x.val = inn.T.val ∧ inn.oT = true)
theorem Rest.start (inn : Iv) (all : List Rl) : Rest inn all all inn.F inn.oF := ⟨.inr ⟨rfl, id⟩, fun x hx => .inl hx⟩
theorem not_has {inn : Iv} {v : RR} (h : ¬ inn.has v) : v < inn.F.val ∨ (v = inn.F.val ∧ inn.oF = true) ∨ inn.T.val < v ∨ (v = inn.T.val ∧ inn.oT = true) := by
 rcases tri v inn.F.val with h1 | h1 | h1
 ·exact .inl h1
 ·cases ho : inn.oF
  ·rcases tri v inn.T.val with h2 | h2 | h2
   ·exact absurd ⟨.inr ⟨ho, h1.symm⟩, .inl h2⟩ h
   ·cases ht : inn.oT
    ·exact absurd ⟨.inr ⟨ho, h1.symm⟩, .inr ⟨ht, h2⟩⟩ h
    ·exact .inr (.inr (.inr ⟨h2, rfl⟩))
   ·exact .inr (.inr (.inl h2))
  ·exact .inr (.inl ⟨h1, rfl⟩)
 ·rcases tri v inn.T.val with h2 | h2 | h2
  ·exact absurd ⟨.inl h1, .inl h2⟩ h
  ·cases ht : inn.oT
   ·exact absurd ⟨.inl h1, .inr ⟨ht, h2⟩⟩ h
   ·exact .inr (.inr (.inr ⟨h2, rfl⟩))
  ·exact .inr (.inr (.inl h2))
theorem Rest.skip {inn : Iv} {all rs : List Rl} {r f : Rl} {o : Bool} (h : Rest inn all (r :: rs) f o) (hr : ¬ inn.has r.val) : Rest inn all rs f o := by
 refine ⟨h.from_, fun x hx => ?_⟩
 rcases h.seen x hx with h1 | h1
 ·rcases List.mem_cons.1 h1 with rfl | h1
  ·refine .inr ?_
   rcases not_has hr with g | ⟨g, go⟩ | g | g
   ·rcases h.from_ with k | ⟨k, _⟩
    ·exact .inl (lt_trans g k)
    ·exact .inl (k ▸ g)
   ·rcases h.from_ with k | ⟨k, ko⟩
    ·exact .inl (g ▸ k)
    ·exact .inr (.inl ⟨g.trans k, ko go⟩)
   ·exact .inr (.inr (.inl g))
   ·exact .inr (.inr (.inr g))
  ·exact .inl h1
 ·exact .inr h1
theorem has_le {inn : Iv} {v : RR} (h : inn.has v) : inn.F.val ≤ v ∧ v ≤ inn.T.val := by
 refine ⟨?_, ?_⟩
 ·rcases h.1 with g | ⟨_, g⟩
  ·exact le_of_lt g
  ·rw [g]; exact le_refl _
 ·rcases h.2 with g | ⟨_, g⟩
  ·exact le_of_lt g
  ·rw [g]; exact le_refl _
theorem Rest.take {inn : Iv} {all rs : List Rl} {r f : Rl} {o : Bool} (h : Rest inn all (r :: rs) f o) (hr : inn.has r.val) (hf : f.val < r.val ∨ o = false ∧ f.val = r.val) : Rest inn all rs r true := by
 refine ⟨?_, fun x hx => ?_⟩
 ·rcases lt_or_eq (has_le hr).1 with g | g
  ·exact .inl g
  ·exact .inr ⟨g, fun _ => rfl⟩
 ·rcases h.seen x hx with h1 | h1 | ⟨h1, h2⟩ | h1
  ·rcases List.mem_cons.1 h1 with rfl | h1
   ·exact .inr (.inr (.inl ⟨rfl, rfl⟩))
   ·exact .inl h1
  ·rcases hf with g | ⟨_, g⟩
   ·exact .inr (.inl (lt_trans h1 g))
   ·exact .inr (.inl (g ▸ h1))
  ·rcases hf with g | ⟨g, _⟩
   ·exact .inr (.inl (h1 ▸ g))
   ·rw [g] at h2; cases h2
  ·exact .inr (.inr (.inr h1))
theorem Rest.none_before {inn : Iv} {all rs : List Rl} {r f : Rl} {o : Bool} (h : Rest inn all (r :: rs) f o) (hs : (r :: rs).Pairwise (fun x y => x.val < y.val)) (hr : inn.has r.val) : ∀ x ∈ all, x.val ≤ f.val ∨ r.val ≤ x.val := fun x hx => by
 have hs2 := List.pairwise_cons.1 hs
 rcases h.seen x hx with h1 | h1 | ⟨h1, _⟩ | h1 | ⟨h1, _⟩
 ·rcases List.mem_cons.1 h1 with rfl | h1
  ·exact .inr (le_refl _)
  ·exact .inr (le_of_lt (hs2.1 x h1))
 ·exact .inl (le_of_lt h1)
 ·exact .inl (by rw [h1]; exact le_refl _)
 ·exact .inr (le_trans (has_le hr).2 (le_of_lt h1))
 ·exact .inr (by rw [h1]; exact (has_le hr).2)
theorem Rest.none_end {inn : Iv} {all : List Rl} {f : Rl} {o : Bool} (h : Rest inn all [] f o) : ∀ x ∈ all, x.val ≤ f.val ∨ inn.T.val ≤ x.val := fun x hx => by
 rcases h.seen x hx with h1 | h1 | ⟨h1, _⟩ | h1 | ⟨h1, _⟩
 ·cases h1
 ·exact .inl (le_of_lt h1)
 ·exact .inl (by rw [h1]; exact le_refl _)
 ·exact .inr (le_of_lt h1)
 ·exact .inr (by rw [h1]; exact le_refl _)
theorem btwS_left {a b c : Int} (h : a ≠ 0) : btwS a b c = a := if_pos h
end Go.Proofs.YtlblfgbpogljoaaGreatDoor

end
section
/- No program in sight: the roots of each function tell its signs. -/
namespace Go.Proofs.YtlblfgbpogljoaaGreatDoor
open Go Go.RowKit Go.Sy
open Vi RR
theorem side2 {A B r : RR} (h1 : A < B) (h : r ≤ A ∨ B ≤ r) : ((sgR (A - r) = 1 ∨ sgR (A - r) = 0) ∧ sgR (B - r) = 1) ∨ (sgR (A - r) = -1 ∧ (sgR (B - r) = -1 ∨ sgR (B - r) = 0)) := by
 have neg : ∀ {x y : RR}, x < y → sgR (x - y) = -1 := fun {x y} hxy => RR.sg_neg (lt_of_pos (y - x) (sub_pos.2 hxy) (ring [x, y] (by decide +kernel)))
 have pos : ∀ {x y : RR}, x < y → sgR (y - x) = 1 := fun {x y} hxy => RR.sg_pos (sub_pos.2 hxy)
 have zer : ∀ {x y : RR}, x = y → sgR (y - x) = 0 := fun {x y} hxy => RR.sg_zero (by rw [hxy]; exact ring [y] (by decide +kernel))
 rcases h with h | h
 ·refine .inl ⟨?_, pos (lt_of_le_of_lt h h1)⟩
  rcases lt_or_eq h with g | g
  ·exact .inl (pos g)
  ·exact .inr (zer g)
 ·refine .inr ⟨neg (lt_of_lt_of_le h1 h), ?_⟩
  rcases lt_or_eq h with g | g
  ·exact .inl (neg g)
  ·exact .inr (zer g.symm)
theorem eq_of_sg0 {v r : RR} (h : sgR (v - r) = 0) : r = v := by
 have := sg_iff0.1 h
 exact ring1 [v, r] this (-1) (by decide +kernel)
theorem sg_self {r : RR} : sgR (r - r) = 0 := RR.sg_zero (ring [r] (by decide +kernel))
theorem Sgs.two {qv : RR → RR} {c : Rat} (hc : c ≠ 0) (x y : Rl) (hq : ∀ v, qv v = ofRat c * ((v - x.val) * (v - y.val))) : Sgs qv (sgQ c) [x, y] := by
 have sgq : ∀ v, sgR (qv v) = sgQ c * (sgR (v - x.val) * sgR (v - y.val)) := fun v => by rw [hq, sg_mul, sg_mul, sg_rat]
 refine ⟨fun A M B h1 h2 h => sgF2 hc hq h1 h2 (h x (by simp)) (h y (by simp)), fun A B h1 h => ?_, fun r hr => ?_, fun v hv => ?_⟩
 ·rw [sgq, sgq]
  rcases sgQ_pm hc with e | e <;> rw [e] <;> rcases side2 h1 (h x (by simp)) with ⟨a1, b1⟩ | ⟨a1, b1⟩ <;> rcases side2 h1 (h y (by simp)) with ⟨a2, b2⟩ | ⟨a2, b2⟩ <;>
   first
   | (rw [b1, b2]; rcases a1 with a1 | a1 <;> rcases a2 with a2 | a2 <;> rw [a1, a2] <;> decide)
   | (rw [b1, a2]; rcases a1 with a1 | a1 <;> rcases b2 with b2 | b2 <;> rw [a1, b2] <;> decide)
   | (rw [a1, b2]; rcases b1 with b1 | b1 <;> rcases a2 with a2 | a2 <;> rw [b1, a2] <;> decide)
   | (rw [a1, a2]; rcases b1 with b1 | b1 <;> rcases b2 with b2 | b2 <;> rw [b1, b2] <;> decide)
 ·rw [sgq]
  simp only [List.mem_cons, List.not_mem_nil, or_false] at hr
  rcases hr with rfl | rfl
  ·rw [sg_self]; simp
  ·rw [sg_self]; simp
 ·rw [sgq] at hv
  rcases Int.mul_eq_zero.1 hv with h | h
  ·rcases sgQ_pm hc with e | e <;> rw [e] at h <;> omega
  ·rcases Int.mul_eq_zero.1 h with h | h
   ·exact ⟨x, by simp, eq_of_sg0 h⟩
   ·exact ⟨y, by simp, eq_of_sg0 h⟩
theorem Sgs.one {qv : RR → RR} {c : Rat} {s : Int} (hc : c ≠ 0) (x : Rl) (hq : ∀ v, qv v = ofRat c * (v - x.val)) : Sgs qv s [x] := by
 have sgq : ∀ v, sgR (qv v) = sgQ c * sgR (v - x.val) := fun v => by rw [hq, sg_mul, sg_rat]
 refine ⟨fun A M B h1 h2 h => sgF1 s hc hq h1 h2 (h x (by simp)), fun A B h1 h => ?_, fun r hr => ?_, fun v hv => ?_⟩
 ·rw [sgq, sgq]
  rcases sgQ_pm hc with e | e <;> rw [e] <;> rcases side2 h1 (h x (by simp)) with ⟨a1, b1⟩ | ⟨a1, b1⟩
  ·rw [b1]; rcases a1 with a1 | a1 <;> rw [a1] <;> decide
  ·rw [a1]; rcases b1 with b1 | b1 <;> rw [b1] <;> decide
  ·rw [b1]; rcases a1 with a1 | a1 <;> rw [a1] <;> decide
  ·rw [a1]; rcases b1 with b1 | b1 <;> rw [b1] <;> decide
 ·rw [sgq]
  simp only [List.mem_cons, List.not_mem_nil, or_false] at hr
  rcases hr with rfl
  rw [sg_self]; simp
 ·rw [sgq] at hv
  rcases Int.mul_eq_zero.1 hv with h | h
  ·rcases sgQ_pm hc with e | e <;> rw [e] at h <;> omega
  ·exact ⟨x, by simp, eq_of_sg0 h⟩
theorem Sgs.none {qv : RR → RR} {s t : Int} (ht : t ≠ 0) (hq : ∀ v, sgR (qv v) = t) : Sgs qv s [] := by
 refine ⟨fun A M B h1 h2 h => sgF0 s ht hq, fun A B h1 h _ _ => by rw [hq, hq], fun r hr => (by cases hr), fun v hv => ?_⟩
 rw [hq] at hv
 exact absurd hv ht
theorem Sgs.double {qv : RR → RR} {c : Rat} (hc : c ≠ 0) (x : Rl) (hq : ∀ v, qv v = ofRat c * ((v - x.val) * (v - x.val))) : Sgs qv (sgQ c) [x] := by
 have S := Sgs.two hc x x hq
 have m : ∀ r : Rl, r ∈ [x, x] ↔ r ∈ [x] := fun r => by simp
 exact ⟨fun A M B h1 h2 h => S.mid A M B h1 h2 fun r hr => h r ((m r).1 hr), fun A B h1 h => S.ends A B h1 fun r hr => h r ((m r).1 hr), fun r hr => S.root r ((m r).2 hr), fun v hv => by
  obtain ⟨r, hr, e⟩ := S.only v hv
  exact ⟨r, (m r).1 hr, e⟩⟩
inductive IsRoots : Rat → Rat → Rat → List Rl → Prop
 | const {a : Rat} (h : a ≠ 0) : IsRoots a 0 0 []
 | lin {a b : Rat} (h : b ≠ 0) : IsRoots a b 0 [Rl.rat (-(a / b))]
 | no {a b c h d : Rat} (hc : c ≠ 0) (eh : h = b / (-2 * c)) (ed : d = h * h - a / c) (hd : d < 0) : IsRoots a b c []
 | one {a b c h d : Rat} (hc : c ≠ 0) (eh : h = b / (-2 * c)) (ed : d = h * h - a / c) (hd : d = 0) : IsRoots a b c [Rl.rat h]
 | two {a b c h d : Rat} (hc : c ≠ 0) (eh : h = b / (-2 * c)) (ed : d = h * h - a / c) (hd : 0 < d) : IsRoots a b c [mkR h (-1) d, mkR h 1 d]
theorem IsRoots.sgs {a b c : Rat} {l : List Rl} (h : IsRoots a b c l) : Sgs (qval a b c) (sgQ c) l := by
 cases h with
 | const h =>
  refine Sgs.none (t := sgQ a) ?_ fun v => by rw [qfac0, sg_rat]
  rcases sgQ_pm h with e | e <;> rw [e] <;> omega
 | lin h => exact Sgs.one h _ fun v => by rw [qfac1 h, Rl.rat_val]
 | no hc eh ed hd =>
  refine Sgs.none (t := sgQ c) ?_ fun v => sg_nosol hc eh ed hd v
  rcases sgQ_pm hc with e | e <;> rw [e] <;> omega
 | one hc eh ed hd =>
  refine Sgs.double hc _ fun v => ?_
  rw [qfac hc eh ed, hd, Rl.rat_val]
  rename_i h d
  exact ring [c, h, v] (by decide +kernel)
 | two hc eh ed hd => exact Sgs.two hc _ _ fun v => qfac2 hc eh ed (Rat.le_of_lt hd) v
theorem IsRoots.ok {a b c : Rat} {l : List Rl} (h : IsRoots a b c l) : ∀ x ∈ l, x.Ok := by
 cases h with
 | const h => intro x hx; cases hx
 | lin h => intro x hx; rw [List.mem_singleton.1 hx]; exact Rl.rat_ok _
 | no hc eh ed hd => intro x hx; cases hx
 | one hc eh ed hd => intro x hx; rw [List.mem_singleton.1 hx]; exact Rl.rat_ok _
 | two hc eh ed hd =>
  intro x hx
  simp only [List.mem_cons, List.not_mem_nil, or_false] at hx
  rcases hx with rfl | rfl
  ·exact mkR_ok _ _ _ (Rat.le_of_lt hd)
  ·exact mkR_ok _ _ _ (Rat.le_of_lt hd)
theorem two_lt {h d : Rat} (hd : 0 < d) : (mkR h (-1) d).val < (mkR h 1 d).val := by
 rw [mkR_val _ _ _ (Rat.le_of_lt hd), mkR_val _ _ _ (Rat.le_of_lt hd)]
 have := sqrt_pos hd
 refine lt_of_pos (sqrt d + sqrt d) (add_pos this this) ?_
 exact ring [h, sqrt d] (by decide +kernel)
theorem IsRoots.sorted {a b c : Rat} {l : List Rl} (h : IsRoots a b c l) : l.Pairwise (fun x y => x.val < y.val) := by
 cases h with
 | const h => exact .nil
 | lin h => exact List.pairwise_singleton _ _
 | no hc eh ed hd => exact .nil
 | one hc eh ed hd => exact List.pairwise_singleton _ _
 | two hc eh ed hd => simp [two_lt hd]
end Go.Proofs.YtlblfgbpogljoaaGreatDoor

end
section
/- No program in sight: the roots of a function with small coefficients have at most 8 bytes a fraction. -/
namespace Go.Proofs.YtlblfgbpogljoaaGreatDoor
open Go Go.RowKit Go.Sy
open Vi RR
end Go.Proofs.YtlblfgbpogljoaaGreatDoor

end
section
/- No program in sight: extreme values of a quadratic over an interval. -/
namespace Go.Proofs.YtlblfgbpogljoaaGreatDoor
open Go Go.RowKit Go.Sy
open Vi RR
noncomputable def cand (b c : Rat) (F T : Rl) : List Rl := open Classical in
 if c ≠ 0 ∧ F.val < ofRat (b / (-2 * c)) ∧ ofRat (b / (-2 * c)) < T.val then [F, Rl.rat (b / (-2 * c)), T] else [F, T]
noncomputable def ltB (x y : Rl) : Bool := open Classical in decide (x.val < y.val)
theorem ltB_iff {x y : Rl} : ltB x y = true ↔ x.val < y.val := by unfold ltB; simp
end Go.Proofs.YtlblfgbpogljoaaGreatDoor

end
section
/- The reference's square root of an integer, binary digit by binary digit. -/
namespace Go.Proofs.YtlblfgbpogljoaaGreatDoor
open Go Go.RowKit
open Vi
end Go.Proofs.YtlblfgbpogljoaaGreatDoor

end
section
/- Equality of structs, field by field; of bounds. -/
namespace Go.Sy
open Go Go.RowKit
section
variable {P : Program}
inductive FE (P : Program) (d : Nat) (xs ys : Array Value) : List (TypeId × Nat) → Bool → Prop where
 | nil : FE P d xs ys [] true
 | cons {t : TypeId} {off : Nat} {l : List (TypeId × Nat)} {a b : Value} {r q : Bool} (ha : pureRun P (part t xs off) = some a) (hb : pureRun P (part t ys off) = some b)
     (hr : ∀ w, (Op.equalIn d t a b).run P w = .ok r w) (h : FE P d xs ys l q) : FE P d xs ys ((t, off) :: l) (r && q)
theorem FE.run {d : Nat} {xs ys : Array Value} : ∀ {fs : List Field} {l : List (TypeId × Nat)} {q : Bool}, fs.map (fun f => (f.name == "_", f.type, f.offset)) = l.map (fun p => (false, p.1, p.2)) → FE P d xs ys l q →
    ∀ w, (Op.eqFields d xs ys fs).run P w = .ok q w
 | [], [], _, _, h, w => by cases h; rfl
 | f :: fs, [], _, hm, _, _ => by simp at hm
 | [], _ :: _, _, hm, _, _ => by simp at hm
 | f :: fs, _ :: l, _, hm, h, w => by
  cases h with
  | cons ha hb hr h =>
   rename_i t off a b r q
   simp only [List.map_cons, List.cons.injEq, Prod.mk.injEq] at hm
   obtain ⟨⟨h1, h2, h3⟩, hm⟩ := hm
   have hn : f.name ≠ "_" := by simpa using h1
   have ih := FE.run hm h w
   simp only [Op.eqFields, if_pos hn, Sem.run_bind, h2, h3, pureRun_run ha, pureRun_run hb, Result.andThen_ok, hr]
   cases r
   ·simp
   ·simp [ih]
theorem eqStruct {d : Nat} {t : TypeId} {xs ys : Array Value} {l : List (TypeId × Nat)} {q : Bool} (ht : P.underlying t = some (.struct (P.fieldsOf t))) (hp : P.stoodInHeld t = false)
    (hm : (P.fieldsOf t).toList.map (fun f => (f.name == "_", f.type, f.offset)) = l.map (fun p => (false, p.1, p.2))) (h : FE P d xs ys l q) (w : World) : (Op.equalIn (d + 1) t (.agg xs) (.agg ys)).run P w = .ok q w := by
 rw [run_equalIn_agg _ _ _ _ _ ht hp]
 exact h.run hm w
end
end Go.Sy
namespace Go.Proofs.YtlblfgbpogljoaaGreatDoor
open Go Go.RowKit Go.Sy
open Vi
theorem binS {T : TypeId} {xs ys : Array Value} {q : Bool} (h : ∀ w, (Op.equalIn 10000 T (.agg xs) (.agg ys)).run Tryz.prog w = .ok q w) (hg : Tryz.prog.eqGuardType Tryz.prog.depth T = false) : Bin .eql T (.agg xs) (.agg ys) (.bool q) := fun ox oy w => by
 rw [Sem.run_bind, run_eqGuard_agg _ _ _ _ _ _ _ hg, Result.andThen_ok, run_eql_struct, h]
 rfl
end Go.Proofs.YtlblfgbpogljoaaGreatDoor
namespace Go.Proofs.YtlblfgbpogljoaaGreatDoor
open Go Go.RowKit Go.Sy
open Vi
end Go.Proofs.YtlblfgbpogljoaaGreatDoor
namespace Go.Proofs.YtlblfgbpogljoaaGreatDoor
open Go Go.RowKit Go.Sy
open Vi
def lsQ (x y : Rat) : Rat := if y < x then y else x
def grQ (x y : Rat) : Rat := if x < y then y else x
instance (p q : Rat) (i j : Nat) [h : HasSz p i] [g : HasSz q j] : HasSz (lsQ p q) (i + j) := by
 unfold lsQ; split
 ·exact hs_mono g (by omega)
 ·exact hs_mono h (by omega)
instance (p q : Rat) (i j : Nat) [h : HasSz p i] [g : HasSz q j] : HasSz (grQ p q) (i + j) := by
 unfold grQ; split
 ·exact hs_mono g (by omega)
 ·exact hs_mono h (by omega)
end Go.Proofs.YtlblfgbpogljoaaGreatDoor
namespace Go.Proofs.YtlblfgbpogljoaaGreatDoor
open Go Go.RowKit Go.Sy
open Vi
theorem divInt1 (n : Int) : Rat.divInt n 1 = (n : Rat) := by rw [Rat.divInt_eq_div]; show (n : Rat) / 1 = n; grind
end Go.Proofs.YtlblfgbpogljoaaGreatDoor
namespace Go.Proofs.YtlblfgbpogljoaaGreatDoor
open Go Go.RowKit Go.Sy
open Vi
end Go.Proofs.YtlblfgbpogljoaaGreatDoor
namespace Go.Proofs.YtlblfgbpogljoaaGreatDoor
open Go Go.RowKit Go.Sy
open Vi
end Go.Proofs.YtlblfgbpogljoaaGreatDoor
namespace Go.Proofs.YtlblfgbpogljoaaGreatDoor
open Go Go.RowKit Go.Sy
open Vi
noncomputable def isq (X : Nat) : Nat := Classical.choose (isRt_ex X)
theorem isq_spec (X : Nat) : IsRt X (isq X) := Classical.choose_spec (isRt_ex X)
theorem iSqrt (x : Int) (h0 : 0 ≤ x) (hx : (mg x).size ≤ 1048576) : Sp Tryz.prog 166 [] [iV x] (.tuple #[iV ((isq x.toNat : Nat) : Int), nV 0]) [] := by
 have h := isq_spec x.toNat
 have e : x.natAbs = x.toNat := by omega
 exact Sp.of (fun xs w => Tryz.call166 xs w) (by kernel_rfl) (by kernel_rfl) (fun w => Sqrt_c x (isq x.toNat) h0 (by rw [e]; exact h.1) (by rw [e]; exact h.2) w hx)
end Go.Proofs.YtlblfgbpogljoaaGreatDoor
namespace Go.Proofs.YtlblfgbpogljoaaGreatDoor
open Go Go.RowKit Go.Sy
open Vi
end Go.Proofs.YtlblfgbpogljoaaGreatDoor
namespace Go.Proofs.YtlblfgbpogljoaaGreatDoor
open Go Go.RowKit Go.Sy
open Vi
end Go.Proofs.YtlblfgbpogljoaaGreatDoor

end
section
/- The reference's root and Root. -/
namespace Go.Proofs.YtlblfgbpogljoaaGreatDoor
open Go Go.RowKit Go.Sy
open Vi
theorem cmpN_lss {x y : Nat} {b : Bool} (h : decide (x < y) = b) : decide (cmpN x y < 0) = b := by
 rw [← h]; unfold cmpN
 by_cases h1 : x < y
 ·rw [if_pos h1, decide_eq_true h1]; rfl
 ·rw [if_neg h1, decide_eq_false h1]; split <;> rfl
theorem cmpN_leq {x y : Nat} {b : Bool} (h : decide (x ≤ y) = b) : decide (cmpN x y ≤ 0) = b := by
 rw [← h]; unfold cmpN
 by_cases h1 : x < y
 ·have e : decide (x ≤ y) = true := decide_eq_true (by omega)
  rw [if_pos h1, e]; rfl
 ·rw [if_neg h1]
  by_cases h2 : x = y
  ·have e : decide (x ≤ y) = true := decide_eq_true (by omega)
   rw [if_pos h2, e]; rfl
  ·have e : decide (x ≤ y) = false := decide_eq_false (by omega)
   rw [if_neg h2, e]; rfl
theorem cmpN_neq {x y : Nat} {b : Bool} (h : decide (x = y) = b) : (!decide (cmpN x y = 0)) = !b := by
 rw [← h]; unfold cmpN
 by_cases h1 : x < y
 ·have e : decide (x = y) = false := decide_eq_false (by omega)
  rw [if_pos h1, e]; rfl
 ·rw [if_neg h1]
  by_cases h2 : x = y
  ·have e : decide (x = y) = true := decide_eq_true h2
   rw [if_pos h2, e]; rfl
  ·have e : decide (x = y) = false := decide_eq_false h2
   rw [if_neg h2, e]; rfl
def stR (X l h : Nat) : St := ⟨34, 1, [(0, row 1 (nd 256 X)), (3, row 2 (nd 256 l)), (4, row 3 (nd 256 h))], junk, [(1, rws (rD X).1 (rD X).2), (2, rws (rD l).1 (rD l).2), (3, rws (rD h).1 (rD h).2)], 4⟩
def stR1 (r : Nat) : St := ⟨34, 1, [(3, row 1 (nd 256 r))], junk, [(1, rws (rD r).1 (rD r).2)], 2⟩
theorem dPlus1 (x : Nat) (hx : nd 256 x ≤ 4294967296) : Sp Tryz.prog 118 [rD x, (1, [nV 1])] [row 0 (nd 256 x), row 1 1] (row 2 (nd 256 (x + 1))) [rD (x + 1)] := by
 have := dPlus x 1 hx (by rw [nd_small 1 (by omega) (by omega)]; omega)
 rw [nd_small 1 (by omega) (by omega), rD_small 1 (by omega) (by omega)] at this
 exact this
theorem dHalf (x : Nat) (hx : nd 256 x ≤ 1048576) : Sp Tryz.prog 139 [rD x, (1, [nV 2])] [row 0 (nd 256 x), row 1 1] (.tuple #[row 2 (nd 256 (x / 2)), row 3 (nd 256 (x % 2))]) [rD (x / 2), rD (x % 2)] := by
 have := dDivide x 2 (by omega) hx (by rw [nd_small 2 (by omega) (by omega)]; omega)
 rw [nd_small 2 (by omega) (by omega), rD_small 2 (by omega) (by omega)] at this
 exact this
theorem nd_bound {x X : Nat} (h : x ≤ X + 1) : nd 256 x ≤ nd 256 X + 2 := by
 have h1 := nd_mono 256 (by omega) x (X + 1) h
 have h2 := nd_add X 1
 rw [nd_small 1 (by omega) (by omega)] at h2
 omega
theorem root_loop (X : Nat) (hX : nd 256 X ≤ 131000) : ∀ (m l h : Nat), h - l ≤ m → l < h → h ≤ X + 1 → l * l ≤ X → X < h * h →
    ∃ r, IsRt X r ∧ RoundsOk Tryz.prog (nthLoop 0 (Tryz.f170.body.getD .skip)) (stR X l h) (.exit 0) (stR1 r)
 | 0, l, h, hm, hl, _, _, _ => by omega
 | m + 1, l, h, hm, hlh, hhX, h1, h2 => by
  have nl := nd_bound (x := l) (X := X) (by omega)
  have nh := nd_bound hhX
  have nl1 := nd_bound (x := l + 1) (X := X) (by omega)
  have P1 := dPlus1 l (by omega)
  have C1 := dCompare (l + 1) h (by omega) (by omega)
  by_cases hd : l + 1 < h
  ·have e1 := cmpN_lss (x := l + 1) (y := h) (b := true) (decide_eq_true hd)
   have P2 := dPlus l h (by omega) (by omega)
   have n2 := nd_add l h
   have D := dHalf (l + h) (by omega)
   have hmid : (l + h) / 2 < h := by omega
   have hmid2 : l < (l + h) / 2 := by omega
   have nm := nd_bound (x := (l + h) / 2) (X := X) (by omega)
   generalize (l + h) / 2 = M at *
   generalize (l + h) % 2 = R at *
   have T := dTimes M M (by omega) (by omega)
   have nt := nd_mul M M
   have C2 := dCompare (M * M) X (by omega) (by omega)
   by_cases hle : M * M ≤ X
   ·have e2 := cmpN_leq (x := M * M) (y := X) (b := true) (decide_eq_true hle)
    obtain ⟨r, hr, ih⟩ := root_loop X hX m M h (by omega) hmid hhX hle h2
    generalize M * M = MM at *
    generalize l + h = S2 at *
    generalize l + 1 = l1 at *
    exact ⟨r, hr, .more (piece [(1, 1), (2, 8), (3, 3)] [cr P1, cr C1, eb e1, cr P2, cr D, cr T, cr C2, eb e2] fol (by kernel_rfl)) ih⟩
   ·have e2 := cmpN_leq (x := M * M) (y := X) (b := false) (decide_eq_false hle)
    obtain ⟨r, hr, ih⟩ := root_loop X hX m l M (by omega) hmid2 (by omega) h1 (by omega)
    generalize M * M = MM at *
    generalize l + h = S2 at *
    generalize l + 1 = l1 at *
    exact ⟨r, hr, .more (piece [(1, 1), (2, 2), (3, 8)] [cr P1, cr C1, eb e1, cr P2, cr D, cr T, cr C2, eb e2] fol (by kernel_rfl)) ih⟩
  ·have e1 := cmpN_lss (x := l + 1) (y := h) (b := false) (decide_eq_false hd)
   have : h = l + 1 := by omega
   subst this
   exact ⟨l, ⟨h1, h2⟩, .out (by simp) (piece [(1, 2)] [cr P1, cr C1, eb e1] fol (by kernel_rfl))⟩
theorem rD_zero : rD 0 = (0, []) := by unfold rD; rw [nd_zero]; rfl
theorem dRoot (X : Nat) (hX : nd 256 X ≤ 131000) : ∃ r, IsRt X r ∧ Sp Tryz.prog 170 [rD X] [row 0 (nd 256 X)] (row 1 (nd 256 r)) [rD r] := by
 have e : (X + 1) * (X + 1) = X * X + 2 * X + 1 := by grind
 obtain ⟨r, hr, hl⟩ := root_loop X hX (X + 1) 0 (X + 1) (by omega) (by omega) (Nat.le_refl _) (by omega) (by omega)
 have hl := hl.loop
 have P := dPlus1 X (by omega)
 unfold stR at hl
 rw [rD_zero, nd_zero] at hl
 generalize X + 1 = X1 at *
 exact ⟨r, hr, walk (code := Tryz.f170.body.getD .skip) [cr P, lp [(1, 0), (2, 1), (3, 3)] hl] fol Tryz.func170 (by kernel_rfl) (fun xs w => Tryz.call170 xs w) (by kernel_rfl)⟩
theorem rRoot (p : Rat) (hp : Fits p) : (∃ q : Rat, 0 ≤ q ∧ q * q = p ∧ Sp Tryz.prog 132 [] [rV p] (.tuple #[rV q, .bool true]) []) ∨ ((∀ q : Rat, q * q ≠ p) ∧ Sp Tryz.prog 132 [] [rV p] (.tuple #[rZ, .bool false]) []) := by
 have p1 := hp.1
 have p2 := hp.2
 have hO := fOf p hp
 obtain ⟨n, hn, R1⟩ := dRoot p.num.natAbs p1
 obtain ⟨d, hd, R2⟩ := dRoot p.den p2
 have hd0 : 0 < p.den := by have := p.den_nz; omega
 have n1 := Nat.le_mul_self n
 have n2 := Nat.le_mul_self d
 have zn := nd_mono 256 (by omega) n p.num.natAbs (by have := hn.1; omega)
 have zd := nd_mono 256 (by omega) d p.den (by have := hd.1; omega)
 have T1 := dTimes n n (by omega) (by omega)
 have T2 := dTimes d d (by omega) (by omega)
 have m1 := nd_mono 256 (by omega) (n * n) p.num.natAbs hn.1
 have m2 := nd_mono 256 (by omega) (d * d) p.den hd.1
 have C1 := dCompare (n * n) p.num.natAbs (by omega) (by omega)
 have C2 := dCompare (d * d) p.den (by omega) (by omega)
 have isq : ∀ X r s : Nat, IsRt X r → s * s = X → r * r = X := by
  intro X r s ⟨h1, h2⟩ h3
  have : r = s := by
   apply Nat.le_antisymm
   ·apply Nat.le_of_not_lt; intro h
    have := Nat.mul_le_mul (show s + 1 ≤ r by omega) (show s + 1 ≤ r by omega)
    have e : (s + 1) * (s + 1) = s * s + 2 * s + 1 := by grind
    omega
   ·apply Nat.le_of_not_lt; intro h
    have := Nat.mul_le_mul (show r + 1 ≤ s by omega) (show r + 1 ≤ s by omega)
    omega
  rw [this, h3]
 have parts : ∀ q : Rat, q * q = p → q.num * q.num = p.num ∧ q.den * q.den = p.den := by
  intro q hq
  obtain ⟨e1, e2⟩ := sq_parts q
  rw [hq] at e1 e2
  exact ⟨e1.symm, e2.symm⟩
 cases hs : sg p.num
 ·have hnn : 0 ≤ p.num := by unfold sg at hs; simpa using hs
  rw [hs] at hO
  by_cases h1 : n * n = p.num.natAbs
  ·have e1 := cmpN_neq (x := n * n) (y := p.num.natAbs) (b := true) (decide_eq_true h1)
   by_cases h2 : d * d = p.den
   ·have e2 := cmpN_neq (x := d * d) (y := p.den) (b := true) (decide_eq_true h2)
    have dp : 0 < d := by
     rcases Nat.eq_zero_or_pos d with h | h
     ·rw [h] at h2; omega
     ·exact h
    have hC := fCan false n d dp (by omega) (by omega)
    left
    refine ⟨Rat.divInt (n : Int) (d : Int), Rat.divInt_nonneg (by omega) (by omega), ?_, ?_⟩
    ·rw [Rat.divInt_mul_divInt, show (n : Int) * n = p.num by rw [← Int.natCast_mul, h1]; omega, show (d : Int) * d = (p.den : Int) by rw [← Int.natCast_mul, h2]]
     exact Rat.num_divInt_den p
    ·have hC : Sp Tryz.prog 86 [rD n, rD d] [fV false n d] (rV (Rat.divInt (n : Int) (d : Int))) [] := hC
     generalize Rat.divInt (n : Int) (d : Int) = q at *
     generalize n * n = nn at *
     generalize d * d = dd at *
     generalize p.num.natAbs = X at *
     generalize p.den = Y at *
     exact walk (code := Tryz.f132.body.getD .skip) [cr hO, cr R1, cr R2, cr T1, cr C1, eb e1, cr T2, cr C2, eb e2, cr hC] fol Tryz.func132 (by kernel_rfl) (fun xs w => Tryz.call132 xs w) (by kernel_rfl)
   ·right
    refine ⟨fun q hq => h2 (isq p.den d q.den hd (parts q hq).2), ?_⟩
    have e2 := cmpN_neq (x := d * d) (y := p.den) (b := false) (decide_eq_false h2)
    generalize n * n = nn at *
    generalize d * d = dd at *
    generalize p.num.natAbs = X at *
    generalize p.den = Y at *
    exact walk (code := Tryz.f132.body.getD .skip) [cr hO, cr R1, cr R2, cr T1, cr C1, eb e1, cr T2, cr C2, eb e2] fol Tryz.func132 (by kernel_rfl) (fun xs w => Tryz.call132 xs w) (by kernel_rfl)
  ·right
   refine ⟨fun q hq => h1 (isq p.num.natAbs n q.num.natAbs hn ?_), ?_⟩
   ·rw [← (parts q hq).1, Int.natAbs_mul]
   ·have e1 := cmpN_neq (x := n * n) (y := p.num.natAbs) (b := false) (decide_eq_false h1)
    generalize n * n = nn at *
    generalize d * d = dd at *
    generalize p.num.natAbs = X at *
    generalize p.den = Y at *
    exact walk (code := Tryz.f132.body.getD .skip) [cr hO, cr R1, cr R2, cr T1, cr C1, eb e1] fol Tryz.func132 (by kernel_rfl) (fun xs w => Tryz.call132 xs w) (by kernel_rfl)
 ·right
  rw [hs] at hO
  refine ⟨fun q hq => ?_, ?_⟩
  ·have h1 := (parts q hq).1
   have h2 : p.num < 0 := by unfold sg at hs; simpa using hs
   have h3 : 0 ≤ q.num * q.num := by
    rcases Int.le_total 0 q.num with h0 | h0
    ·exact Int.mul_nonneg h0 h0
    ·exact Int.mul_nonneg_of_nonpos_of_nonpos h0 h0
   omega
  ·generalize p.num.natAbs = X at *
   generalize p.den = Y at *
   exact walk (code := Tryz.f132.body.getD .skip) [cr hO, cr R1, cr R2] fol Tryz.func132 (by kernel_rfl) (fun xs w => Tryz.call132 xs w) (by kernel_rfl)
end Go.Proofs.YtlblfgbpogljoaaGreatDoor

end
section
/- No program in sight: bounds of sums, products, squares and quotients. -/
namespace Vi
end Vi
namespace Go.Proofs.YtlblfgbpogljoaaGreatDoor
open Go Go.RowKit Go.Sy
open Vi
end Go.Proofs.YtlblfgbpogljoaaGreatDoor
namespace Go.Proofs.YtlblfgbpogljoaaGreatDoor
open Go Go.RowKit Go.Sy
open Vi
end Go.Proofs.YtlblfgbpogljoaaGreatDoor
namespace Go.Proofs.YtlblfgbpogljoaaGreatDoor
open Go Go.RowKit Go.Sy
open Vi
end Go.Proofs.YtlblfgbpogljoaaGreatDoor
namespace Go.Proofs.YtlblfgbpogljoaaGreatDoor
open Go Go.RowKit Go.Sy
open Vi
end Go.Proofs.YtlblfgbpogljoaaGreatDoor

end
section
/- The program's numbers with a root: signs, comparison, moves. -/
namespace Go.Proofs.YtlblfgbpogljoaaGreatDoor
open Go Go.RowKit Go.Sy
open Vi
def rlV (x : Rl) : Value := .agg #[.bool (sg x.p.num), .string (mg x.p.num), .bool (sg (dn x.p)), .string (mg (dn x.p)), .bool (sg x.r.num), .string (mg x.r.num), .bool (sg (dn x.r)), .string (mg (dn x.r)), .bool x.neg]
theorem sgQ_in (a : Rat) : -1 ≤ sgQ a ∧ sgQ a ≤ 1 := by rcases sgQ_cases a with ⟨h, _⟩ | ⟨h, _⟩ | ⟨h, _⟩ <;> rw [h] <;> omega
theorem sgR_in (a : RR) : -1 ≤ sgR a ∧ sgR a ≤ 1 := by rcases RR.sg_cases a with ⟨h, _⟩ | ⟨h, _⟩ | ⟨h, _⟩ <;> rw [h] <;> omega
theorem mul_in1 {a b : Int} (ha : -1 ≤ a ∧ a ≤ 1) (hb : -1 ≤ b ∧ b ≤ 1) : -1 ≤ a * b ∧ a * b ≤ 1 := by
 rcases (by omega : a = -1 ∨ a = 0 ∨ a = 1) with h | h | h <;> subst h <;> omega
theorem pSgn (p : Rat) : Sp Tryz.prog 98 [] [rV p] (nV (sgQ p)) [] := by
 have := pSign p
 rwa [cmpI_sg] at this
theorem pCmp (p q : Rat) (hp : Fits p) (hq : Fits q) : Sp Tryz.prog 148 [] [rV p, rV q] (nV (sgQ (p - q))) [] := by
 have := pCompare p q hp hq
 rwa [cmpQ_sg] at this
theorem qSign (a b r : Rat) (k : Nat) (hk : k ≤ 20000) [HasSz a k] [HasSz b k] [HasSz r k] : Sp Tryz.prog 97 [] [rV a, rV b, rV r] (nV (signF a b r)) [] := by
 have S1 := pSgn a
 have S2 := pSgn b
 have S3 := pSgn r
 have A := pMul a a fz fz
 have B := pMul b b fz fz
 have C := pMul (b * b) r fz fz
 have D := pCmp (a * a) (b * b * r) fz fz
 have b1 := sgQ_in a
 have b2 := mul_in1 (sgQ_in b) (sgQ_in r)
 have b3 := sgQ_in (a * a - b * b * r)
 have b4 := mul_in1 b1 b3
 obtain ⟨n, hn⟩ : ∃ n, n = sgQ b * sgQ r := ⟨_, rfl⟩
 obtain ⟨v, hv⟩ : ∃ v, v = sgQ a * sgQ (a * a - b * b * r) := ⟨_, rfl⟩
 have w1 : IntKind.i64.wrap (sgQ b * sgQ r) = n := by rw [hn]; exact w64 (by omega) (by omega)
 have w2 : IntKind.i64.wrap (sgQ a * sgQ (a * a - b * b * r)) = v := by rw [hv]; exact w64 (by omega) (by omega)
 unfold signF
 rw [← hn, ← hv]
 clear hn hv b1 b2 b3 b4
 generalize a * a - b * b * r = f at *
 generalize b * b * r = g at *
 generalize b * b = h at *
 generalize a * a = i at *
 generalize sgQ f = j at *
 generalize sgQ a = m at *
 generalize sgQ b = u1 at *
 generalize sgQ r = u2 at *
 by_cases h1 : n = 0
 ·rw [if_pos (.inl h1)]
  have e1 : decide (n = 0) = true := decide_eq_true h1
  clear h1
  exact walk (code := Tryz.f97.body.getD .skip) [c S1, c S2, c S3, Go.Sy.e (congrArg (Value.int IntKind.i64) w1), eb e1] fol Tryz.func97 (by kernel_rfl) (fun xs w => Tryz.call97 xs w) (by kernel_rfl)
 ·have e1 : decide (n = 0) = false := decide_eq_false h1
  by_cases h2 : m = n
  ·rw [if_pos (.inr h2)]
   have e2 : decide (m = n) = true := decide_eq_true h2
   clear h1 h2
   exact walk (code := Tryz.f97.body.getD .skip) [c S1, c S2, c S3, Go.Sy.e (congrArg (Value.int IntKind.i64) w1), eb e1, eb e2] fol Tryz.func97 (by kernel_rfl) (fun xs w => Tryz.call97 xs w) (by kernel_rfl)
  ·rw [if_neg (by rintro (h | h) <;> contradiction)]
   have e2 : decide (m = n) = false := decide_eq_false h2
   by_cases h3 : m = 0
   ·rw [if_pos h3]
    have e3 : decide (m = 0) = true := decide_eq_true h3
    clear h1 h2 h3
    exact walk (code := Tryz.f97.body.getD .skip) [c S1, c S2, c S3, Go.Sy.e (congrArg (Value.int IntKind.i64) w1), eb e1, eb e2, eb e3] fol Tryz.func97 (by kernel_rfl) (fun xs w => Tryz.call97 xs w) (by kernel_rfl)
   ·rw [if_neg h3]
    have e3 : decide (m = 0) = false := decide_eq_false h3
    clear h1 h2 h3
    exact walk (code := Tryz.f97.body.getD .skip) [c S1, c S2, c S3, Go.Sy.e (congrArg (Value.int IntKind.i64) w1), eb e1, eb e2, eb e3, c A, c B, c C, c D, Go.Sy.e (congrArg (Value.int IntKind.i64) w2)] fol Tryz.func97 (by kernel_rfl) (fun xs w => Tryz.call97 xs w) (by kernel_rfl)
theorem qFactor (x : Rl) : Sp Tryz.prog 95 [] [rlV x] (rV x.s) [] := by
 have F1 := pI (-1) (by omega) (by omega)
 have F2 := pI 1 (by omega) (by omega)
 obtain ⟨p, r, neg⟩ := x
 unfold Rl.s
 cases neg
 ·exact walk (code := Tryz.f95.body.getD .skip) [c F2] fol Tryz.func95 (by kernel_rfl) (fun xs w => Tryz.call95 xs w) (by kernel_rfl)
 ·exact walk (code := Tryz.f95.body.getD .skip) [c F1] fol Tryz.func95 (by kernel_rfl) (fun xs w => Tryz.call95 xs w) (by kernel_rfl)
theorem qFromRat (q : Rat) : Sp Tryz.prog 155 [] [rV q] (rlV (Rl.rat q)) [] := by
 have z := rV0
 unfold Rl.rat rlV
 rw [show (0 : Rat).num = 0 from rfl, show dn 0 = 0 from rfl, sg0, mg0]
 exact walk (code := Tryz.f155.body.getD .skip) [] fol Tryz.func155 (by kernel_rfl) (fun xs w => Tryz.call155 xs w) (by kernel_rfl)
theorem qShift (x : Rl) (q : Rat) (hx : Fits x.p) (hq : Fits q) : Sp Tryz.prog 28 [] [rlV x, rV q] (rlV ⟨x.p + q, x.r, x.neg⟩) [] := by
 obtain ⟨p, r, neg⟩ := x
 dsimp only at *
 exact walk (code := Tryz.f28.body.getD .skip) [c (pAdd p q hx hq)] fol Tryz.func28 (by kernel_rfl) (fun xs w => Tryz.call28 xs w) (by kernel_rfl)
instance (x : Rl) : HasSz x.s 1 := by
 unfold Rl.s
 split
 ·exact (inferInstance : HasSz (-(1 : Rat)) 1)
 ·exact (inferInstance : HasSz (1 : Rat) 1)
theorem qCompare (x y : Rl) (k : Nat) (hk : k ≤ 3000) (hk1 : 1 ≤ k) [HasSz x.p k] [HasSz x.r k] [HasSz y.p k] [HasSz y.r k] (hx : 0 ≤ x.r) (hy : 0 ≤ y.r) : Sp Tryz.prog 27 [] [rlV x, rlV y] (nV (Rl.cmp x y)) [] := by
 rw [← Rl.cmpF_eq x y hx hy]
 have D := pSub x.p y.p fz fz
 have F1 := qFactor x
 have F2 := qFactor y
 have N := pNeg y.s
 haveI i1 : HasSz x.r (k + k + 1) := hs_mono ‹HasSz x.r k› (by omega)
 haveI i2 : HasSz x.s (k + k + 1) := hs_mono (inferInstance : HasSz x.s 1) (by omega)
 have S1 := qSign (x.p - y.p) x.s x.r (k + k + 1) (by omega)
 have S2 := pSgn (-y.s)
 have S3 := pSgn y.r
 clear i1 i2
 have A := pMul (x.p - y.p) (x.p - y.p) fz fz
 have B := pAdd ((x.p - y.p) * (x.p - y.p)) x.r fz fz
 have C := pSub ((x.p - y.p) * (x.p - y.p) + x.r) y.r fz fz
 have T := pI 2 (by omega) (by omega)
 have E := pMul (x.p - y.p) x.s fz fz
 have G := pMul 2 ((x.p - y.p) * x.s) fz fz
 haveI i1 : HasSz ((x.p - y.p) * (x.p - y.p) + x.r - y.r) (6 * k + 6) := hs_mono inferInstance (show k + k + 1 + (k + k + 1) + k + 1 + k + 1 ≤ _ by omega)
 haveI i2 : HasSz (2 * ((x.p - y.p) * x.s)) (6 * k + 6) := hs_mono inferInstance (show 1 + (k + k + 1 + 1) ≤ _ by omega)
 haveI i3 : HasSz x.r (6 * k + 6) := hs_mono ‹HasSz x.r k› (by omega)
 have S4 := qSign ((x.p - y.p) * (x.p - y.p) + x.r - y.r) (2 * ((x.p - y.p) * x.s)) x.r (6 * k + 6) (by omega)
 clear i1 i2 i3
 have b1 : -1 ≤ signF (x.p - y.p) x.s x.r ∧ signF (x.p - y.p) x.s x.r ≤ 1 := by rw [signF_eq _ _ _ hx]; exact sgR_in _
 have b2 := mul_in1 (sgQ_in (-y.s)) (sgQ_in y.r)
 have b3 : -1 ≤ signF ((x.p - y.p) * (x.p - y.p) + x.r - y.r) (2 * ((x.p - y.p) * x.s)) x.r ∧ signF ((x.p - y.p) * (x.p - y.p) + x.r - y.r) (2 * ((x.p - y.p) * x.s)) x.r ≤ 1 := by rw [signF_eq _ _ _ hx]; exact sgR_in _
 have b4 := mul_in1 b1 b3
 obtain ⟨n, hn⟩ : ∃ n, n = sgQ (-y.s) * sgQ y.r := ⟨_, rfl⟩
 obtain ⟨v, hv⟩ : ∃ v, v = signF (x.p - y.p) x.s x.r * signF ((x.p - y.p) * (x.p - y.p) + x.r - y.r) (2 * ((x.p - y.p) * x.s)) x.r := ⟨_, rfl⟩
 have w1 : IntKind.i64.wrap (sgQ (-y.s) * sgQ y.r) = n := by rw [hn]; exact w64 (by omega) (by omega)
 have w2 : IntKind.i64.wrap (signF (x.p - y.p) x.s x.r * signF ((x.p - y.p) * (x.p - y.p) + x.r - y.r) (2 * ((x.p - y.p) * x.s)) x.r) = v := by rw [hv]; exact w64 (by omega) (by omega)
 unfold Rl.cmpF
 rw [← hn, ← hv]
 clear hn hv b1 b2 b3 b4
 rw [show ((2 : Int) : Rat) = 2 from rfl] at T
 generalize signF ((x.p - y.p) * (x.p - y.p) + x.r - y.r) (2 * ((x.p - y.p) * x.s)) x.r = s4 at *
 generalize signF (x.p - y.p) x.s x.r = m at *
 generalize sgQ (-y.s) = u1 at *
 generalize sgQ y.r = u2 at *
 generalize 2 * ((x.p - y.p) * x.s) = t1 at *
 generalize (x.p - y.p) * x.s = t2 at *
 generalize (x.p - y.p) * (x.p - y.p) + x.r - y.r = t3 at *
 generalize (x.p - y.p) * (x.p - y.p) + x.r = t4 at *
 generalize (x.p - y.p) * (x.p - y.p) = t5 at *
 generalize x.p - y.p = t6 at *
 generalize -y.s = t7 at *
 generalize x.s = t8 at *
 generalize y.s = t9 at *
 generalize (2 : Rat) = t10 at *
 obtain ⟨xp, xr, xn⟩ := x
 obtain ⟨yp, yr, yn⟩ := y
 dsimp only at *
 by_cases h1 : n = 0
 ·rw [if_pos (.inl h1)]
  have e1 : decide (n = 0) = true := decide_eq_true h1
  clear h1
  exact walk (code := Tryz.f27.body.getD .skip) [c D, c F1, c F2, c N, c S1, c S2, c S3, Go.Sy.e (congrArg (Value.int IntKind.i64) w1), eb e1] fol Tryz.func27 (by kernel_rfl) (fun xs w => Tryz.call27 xs w) (by kernel_rfl)
 ·have e1 : decide (n = 0) = false := decide_eq_false h1
  by_cases h2 : m = n
  ·rw [if_pos (.inr h2)]
   have e2 : decide (m = n) = true := decide_eq_true h2
   clear h1 h2
   exact walk (code := Tryz.f27.body.getD .skip) [c D, c F1, c F2, c N, c S1, c S2, c S3, Go.Sy.e (congrArg (Value.int IntKind.i64) w1), eb e1, eb e2] fol Tryz.func27 (by kernel_rfl) (fun xs w => Tryz.call27 xs w) (by kernel_rfl)
  ·rw [if_neg (by rintro (h | h) <;> contradiction)]
   have e2 : decide (m = n) = false := decide_eq_false h2
   by_cases h3 : m = 0
   ·rw [if_pos h3]
    have e3 : decide (m = 0) = true := decide_eq_true h3
    clear h1 h2 h3
    exact walk (code := Tryz.f27.body.getD .skip) [c D, c F1, c F2, c N, c S1, c S2, c S3, Go.Sy.e (congrArg (Value.int IntKind.i64) w1), eb e1, eb e2, eb e3] fol Tryz.func27 (by kernel_rfl) (fun xs w => Tryz.call27 xs w) (by kernel_rfl)
   ·rw [if_neg h3]
    have e3 : decide (m = 0) = false := decide_eq_false h3
    clear h1 h2 h3
    exact walk (code := Tryz.f27.body.getD .skip) [c D, c F1, c F2, c N, c S1, c S2, c S3, Go.Sy.e (congrArg (Value.int IntKind.i64) w1), eb e1, eb e2, eb e3, c A, c B, c C, c T, c E, c G, c S4, Go.Sy.e (congrArg (Value.int IntKind.i64) w2)] fol Tryz.func27 (by kernel_rfl) (fun xs w => Tryz.call27 xs w) (by kernel_rfl)
end Go.Proofs.YtlblfgbpogljoaaGreatDoor
namespace Go.Proofs.YtlblfgbpogljoaaGreatDoor
open Go Go.RowKit Go.Sy
open Vi
theorem isq_all (X : Nat) : isq X * isq X ≤ X ∧ X < (isq X + 1) * (isq X + 1) := isq_spec X
theorem qNeg (x : Rl) : Sp Tryz.prog 199 [] [rlV x] (rlV x.ngR) [] := by
 have N := pNeg x.p
 obtain ⟨p, r, neg⟩ := x
 unfold Rl.ngR
 by_cases h : r = 0
 ·have B := binR0' r (b := false) (by simp [h])
  rw [decide_eq_true h]
  cases neg <;> exact walk (code := Tryz.f199.body.getD .skip) [c N, x2 B] fol Tryz.func199 (by kernel_rfl) (fun xs w => Tryz.call199 xs w) (by kernel_rfl)
 ·have B := binR0' r (b := true) (by simp [h])
  rw [decide_eq_false h]
  cases neg <;> exact walk (code := Tryz.f199.body.getD .skip) [c N, x2 B] fol Tryz.func199 (by kernel_rfl) (fun xs w => Tryz.call199 xs w) (by kernel_rfl)
theorem qCompareRat (x : Rl) (q : Rat) (k : Nat) (hk : k ≤ 3000) (hk1 : 1 ≤ k) [HasSz x.p k] [HasSz x.r k] [HasSz q k] (hx : 0 ≤ x.r) : Sp Tryz.prog 208 [] [rlV x, rV q] (nV (Rl.cmp x (Rl.rat q))) [] := by
 haveI : HasSz (Rl.rat q).p k := ‹HasSz q k›
 haveI : HasSz (Rl.rat q).r k := hs_mono (inferInstance : HasSz (0 : Rat) 1) hk1
 have C := qCompare x (Rl.rat q) k hk hk1 hx Rat.le_refl
 have F := qFromRat q
 generalize Rl.cmp x (Rl.rat q) = v at *
 exact walk (code := Tryz.f208.body.getD .skip) [c F, c C] fol Tryz.func208 (by kernel_rfl) (fun xs w => Tryz.call208 xs w) (by kernel_rfl)
theorem qScale (x : Rl) (q : Rat) (k : Nat) (hk : k ≤ 3000) [HasSz x.p k] [HasSz x.r k] [HasSz q k] : Sp Tryz.prog 171 [] [rlV x, rV q] (rlV (x.scR q)) [] := by
 have A := pMul q q fz fz
 have B := pMul (q * q) x.r fz fz
 have C := pMul x.p q fz fz
 have D := pSgn q
 have e0 : decide (sgQ q < 0) = decide (q < 0) := by
  rcases sgQ_cases q with ⟨h1, h2⟩ | ⟨h1, h2⟩ | ⟨h1, h2⟩ <;> rw [h1]
  ·rw [decide_eq_true h2]; rfl
  ·rw [show decide (q < 0) = false from decide_eq_false (by grind)]; rfl
  ·rw [show decide (q < 0) = false from decide_eq_false (by grind)]; rfl
 obtain ⟨p, r, neg⟩ := x
 unfold Rl.scR
 dsimp only at *
 by_cases h : q * q * r = 0
 ·have E := binR0' (q * q * r) (b := false) (by simp [h])
  rw [decide_eq_true h]
  clear h
  generalize q * q * r = s at *
  generalize q * q = t at *
  generalize p * q = u at *
  generalize (neg != decide (q < 0)) = v at *
  exact walk (code := Tryz.f171.body.getD .skip) [c A, c B, c C, x2 E] fol Tryz.func171 (by kernel_rfl) (fun xs w => Tryz.call171 xs w) (by kernel_rfl)
 ·have E := binR0' (q * q * r) (b := true) (by simp [h])
  rw [decide_eq_false h]
  clear h
  generalize q * q * r = s at *
  generalize q * q = t at *
  generalize p * q = u at *
  generalize decide (q < 0) = d at *
  generalize sgQ q = z at *
  cases d <;> cases neg <;> exact walk (code := Tryz.f171.body.getD .skip) [c A, c B, c C, x2 E, c D, eb e0] fol Tryz.func171 (by kernel_rfl) (fun xs w => Tryz.call171 xs w) (by kernel_rfl)
end Go.Proofs.YtlblfgbpogljoaaGreatDoor
namespace Go.Proofs.YtlblfgbpogljoaaGreatDoor
open Go Go.RowKit Go.Sy
open Vi
theorem mg_mul (x y : Int) : (mg (x * y)).size ≤ (mg x).size + (mg y).size := by
 rw [mg_nd, mg_nd, mg_nd, Int.natAbs_mul]; exact nd_mul _ _
theorem mg_add (x y : Int) : (mg (x + y)).size ≤ (mg x).size + (mg y).size + 1 := by
 rw [mg_nd, mg_nd, mg_nd]
 exact Nat.le_trans (nd_mono 256 (by omega) _ _ (Int.natAbs_add_le x y)) (nd_add _ _)
theorem mg_neg (x : Int) : (mg (-x)).size = (mg x).size := by rw [mg_nd, mg_nd, Int.natAbs_neg]
theorem mg_sub (x y : Int) : (mg (x - y)).size ≤ (mg x).size + (mg y).size + 1 := by
 rw [Int.sub_eq_add_neg]
 have := mg_add x (-y)
 rw [mg_neg] at this
 exact this
theorem mg_one : (mg 1).size = 1 := by rw [mg1]; rfl
theorem iSub (x y : Int) (hx : (mg x).size ≤ 4294967296) (hy : (mg y).size ≤ 4294967296) : Sp Tryz.prog 197 [] [iV x, iV y] (iV (x - y)) [] := Sp.of (fun xs w => Tryz.call197 xs w) (by kernel_rfl) (by kernel_rfl) (fun w => Sub_c x y w hx hy)
theorem isq_mg (z : Int) : (mg ((isq z.toNat : Nat) : Int)).size ≤ (mg z).size := by
 rw [mg_nd, mg_nd, Int.natAbs_natCast]
 refine nd_mono 256 (by omega) _ _ ?_
 have h1 := (isq_all z.toNat).1
 have h2 := Nat.le_mul_self (isq z.toNat)
 omega
noncomputable abbrev fl (x : Rl) : Int := Rl.flI isq x
theorem fl_ok (x : Rl) (hx : x.Ok) : RR.IsFl x.val (fl x) := Rl.flI_ok isq isq_all x hx
theorem fl_size (x : Rl) (k : Nat) [hp : HasSz x.p k] [hr : HasSz x.r k] : (mg (fl x)).size ≤ 6 * k + 4 := by
 have s1 := hp.sz.num
 have s2 := hp.sz.den
 have s3 := hr.sz.num
 have s4 := hr.sz.den
 have m1 := mg_mul x.p.num x.r.den
 have m2 := mg_mul (x.p.den : Int) (x.p.den : Int)
 have m3 := mg_mul x.r.num x.r.den
 have m4 := mg_mul ((x.p.den : Int) * (x.p.den : Int)) (x.r.num * x.r.den)
 have m5 := isq_mg ((x.p.den : Int) * (x.p.den : Int) * (x.r.num * x.r.den))
 have m6 := mg_add (x.p.num * x.r.den) ((isq ((x.p.den : Int) * (x.p.den : Int) * (x.r.num * x.r.den)).toNat : Nat) : Int)
 have m7 := mg_add ((isq ((x.p.den : Int) * (x.p.den : Int) * (x.r.num * x.r.den)).toNat : Nat) : Int) 1
 have m8 := mg_sub (x.p.num * x.r.den) (((isq ((x.p.den : Int) * (x.p.den : Int) * (x.r.num * x.r.den)).toNat : Nat) : Int) + 1)
 rw [mg_one] at m7
 have ht : (mg (Rl.topI isq x)).size ≤ 6 * k + 4 := by
  unfold Rl.topI
  split <;> omega
 have h4 := Int.natAbs_ediv_le_natAbs (Rl.topI isq x) ((x.p.den : Int) * (x.r.den : Int))
 exact Nat.le_trans (mg_le h4) ht
theorem qFloor (x : Rl) (k : Nat) (hk : k ≤ 20000) (hx : 0 ≤ x.r) [hp : HasSz x.p k] [hr : HasSz x.r k] : Sp Tryz.prog 173 [] [rlV x] (iV (fl x)) [] := by
 have s1 := hp.sz.num
 have s2 := hp.sz.den
 have s3 := hr.sz.num
 have s4 := hr.sz.den
 have m1 := mg_mul x.p.num x.r.den
 have m2 := mg_mul (x.p.den : Int) (x.p.den : Int)
 have m3 := mg_mul x.r.num x.r.den
 have m4 := mg_mul ((x.p.den : Int) * (x.p.den : Int)) (x.r.num * x.r.den)
 have m5 := isq_mg ((x.p.den : Int) * (x.p.den : Int) * (x.r.num * x.r.den))
 have m6 := mg_add (x.p.num * x.r.den) ((isq ((x.p.den : Int) * (x.p.den : Int) * (x.r.num * x.r.den)).toNat : Nat) : Int)
 have m7 := mg_add ((isq ((x.p.den : Int) * (x.p.den : Int) * (x.r.num * x.r.den)).toNat : Nat) : Int) 1
 have m8 := mg_sub (x.p.num * x.r.den) (((isq ((x.p.den : Int) * (x.p.den : Int) * (x.r.num * x.r.den)).toNat : Nat) : Int) + 1)
 have m9 := mg_mul (x.p.den : Int) (x.r.den : Int)
 rw [mg_one] at m7
 have d1 := den_pos' x.p
 have d2 := den_pos' x.r
 have hn : 0 ≤ (x.p.den : Int) * (x.p.den : Int) * (x.r.num * x.r.den) := Int.mul_nonneg (Int.mul_nonneg (Int.le_of_lt d1) (Int.le_of_lt d1)) (Int.mul_nonneg (Rat.num_nonneg.2 hx) (Int.le_of_lt d2))
 have hD : (x.p.den : Int) * (x.r.den : Int) ≠ 0 := Int.ne_of_gt (Int.mul_pos d1 d2)
 have N1 := pNum x.p
 have N2 := pNum x.r
 have D1 := pDen x.p
 have D2 := pDen x.r
 have M1 := iMul (x.p.den : Int) (x.p.den : Int) (by omega) (by omega)
 have M2 := iMul x.r.num (x.r.den : Int) (by omega) (by omega)
 have M3 := iMul ((x.p.den : Int) * (x.p.den : Int)) (x.r.num * x.r.den) (by omega) (by omega)
 have Q := iSqrt _ hn (by omega)
 have M4 := iMul x.p.num (x.r.den : Int) (by omega) (by omega)
 have I := iFromInt 1 (by omega) (by omega)
 have A1 := iAdd ((isq ((x.p.den : Int) * (x.p.den : Int) * (x.r.num * x.r.den)).toNat : Nat) : Int) 1 (by omega) (by rw [mg_one]; omega)
 have A2 := iAdd (x.p.num * x.r.den) ((isq ((x.p.den : Int) * (x.p.den : Int) * (x.r.num * x.r.den)).toNat : Nat) : Int) (by omega) (by omega)
 have B := iSub (x.p.num * x.r.den) (((isq ((x.p.den : Int) * (x.p.den : Int) * (x.r.num * x.r.den)).toNat : Nat) : Int) + 1) (by omega) (by omega)
 have M5 := iMul (x.p.den : Int) (x.r.den : Int) (by omega) (by omega)
 have V1 := iDivMod (x.p.num * x.r.den + ((isq ((x.p.den : Int) * (x.p.den : Int) * (x.r.num * x.r.den)).toNat : Nat) : Int)) ((x.p.den : Int) * (x.r.den : Int)) hD (by omega) (by omega)
 have V2 := iDivMod (x.p.num * x.r.den - (((isq ((x.p.den : Int) * (x.p.den : Int) * (x.r.num * x.r.den)).toNat : Nat) : Int) + 1)) ((x.p.den : Int) * (x.r.den : Int)) hD (by omega) (by omega)
 unfold fl Rl.flI Rl.topI
 clear hx s1 s2 s3 s4 m1 m2 m3 m4 m5 m6 m7 m8 m9 d1 d2 hn hD hp hr
 obtain ⟨p, r, neg⟩ := x
 dsimp only at *
 generalize ((isq ((p.den : Int) * (p.den : Int) * (r.num * r.den)).toNat : Nat) : Int) = rt at *
 generalize (p.den : Int) * (p.den : Int) * (r.num * r.den) = t1 at *
 generalize (p.den : Int) * (p.den : Int) = t2 at *
 generalize r.num * (r.den : Int) = t3 at *
 cases neg
 ·rw [if_neg (by simp)]
  clear V2
  generalize (p.num * (r.den : Int) + rt) / ((p.den : Int) * (r.den : Int)) = q at *
  generalize (p.num * (r.den : Int) + rt) % ((p.den : Int) * (r.den : Int)) = q2 at *
  generalize p.num * (r.den : Int) + rt = t4 at *
  generalize p.num * (r.den : Int) = t5 at *
  generalize (p.den : Int) * (r.den : Int) = t6 at *
  generalize (p.den : Int) = t7 at *
  generalize (r.den : Int) = t8 at *
  exact walk (code := Tryz.f173.body.getD .skip) [c N1, c D1, c N2, c D2, c M1, c M2, c M3, c Q, c M4, c A2, c M5, c V1] fol Tryz.func173 (by kernel_rfl) (fun xs w => Tryz.call173 xs w) (by kernel_rfl)
 ·rw [if_pos rfl]
  clear V1
  generalize (p.num * (r.den : Int) - (rt + 1)) / ((p.den : Int) * (r.den : Int)) = q at *
  generalize (p.num * (r.den : Int) - (rt + 1)) % ((p.den : Int) * (r.den : Int)) = q2 at *
  generalize p.num * (r.den : Int) - (rt + 1) = t4 at *
  generalize p.num * (r.den : Int) = t5 at *
  generalize rt + 1 = t9 at *
  generalize (p.den : Int) * (r.den : Int) = t6 at *
  generalize (p.den : Int) = t7 at *
  generalize (r.den : Int) = t8 at *
  exact walk (code := Tryz.f173.body.getD .skip) [c N1, c D1, c N2, c D2, c M1, c M2, c M3, c Q, c M4, c I, c A1, c B, c M5, c V2] fol Tryz.func173 (by kernel_rfl) (fun xs w => Tryz.call173 xs w) (by kernel_rfl)
theorem qWhole (n : Int) (h : (mg n).size ≤ 100000) : Sp Tryz.prog 172 [] [iV n] (rV (n : Rat)) [] := by
 have M := pMake n 1 (by omega) (by omega) (by rw [mg_one]; omega)
 rw [divInt1] at M
 have I := iFromInt 1 (by omega) (by omega)
 exact walk (code := Tryz.f172.body.getD .skip) [c I, c M] fol Tryz.func172 (by kernel_rfl) (fun xs w => Tryz.call172 xs w) (by kernel_rfl)
end Go.Proofs.YtlblfgbpogljoaaGreatDoor
namespace Go.Proofs.YtlblfgbpogljoaaGreatDoor
open Go Go.RowKit Go.Sy
open Vi
theorem qRational (x : Rl) : Sp Tryz.prog 117 [] [rlV x] (.tuple #[if x.r = 0 then rV x.p else rZ, .bool (decide (x.r = 0))]) [] := by
 obtain ⟨p, r, neg⟩ := x
 dsimp only
 by_cases h : r = 0
 ·have B := binR0' r (b := false) (by simp [h])
  rw [if_pos h, decide_eq_true h]
  clear h
  exact walk (code := Tryz.f117.body.getD .skip) [x2 B] fol Tryz.func117 (by kernel_rfl) (fun xs w => Tryz.call117 xs w) (by kernel_rfl)
 ·have B := binR0' r (b := true) (by simp [h])
  rw [if_neg h, decide_eq_false h]
  clear h
  exact walk (code := Tryz.f117.body.getD .skip) [x2 B] fol Tryz.func117 (by kernel_rfl) (fun xs w => Tryz.call117 xs w) (by kernel_rfl)
end Go.Proofs.YtlblfgbpogljoaaGreatDoor
namespace Go.Proofs.YtlblfgbpogljoaaGreatDoor
open Go Go.RowKit Go.Sy
open Vi
theorem rSgn (p : Rat) : Sp Tryz.prog 26 [] [rV p] (nV (sgQ p)) [] := by
 have := rSign p
 rwa [cmpI_sg] at this
theorem rCmp (p q : Rat) (hp : Fits p) (hq : Fits q) : Sp Tryz.prog 22 [] [rV p, rV q] (nV (sgQ (p - q))) [] := by
 have := rCompare p q hp hq
 rwa [cmpQ_sg] at this
end Go.Proofs.YtlblfgbpogljoaaGreatDoor
namespace Go.Proofs.YtlblfgbpogljoaaGreatDoor
open Go Go.RowKit Go.Sy
open Vi
def rlC (x : Rl) : List Value := [.bool (sg x.p.num), .string (mg x.p.num), .bool (sg (dn x.p)), .string (mg (dn x.p)), .bool (sg x.r.num), .string (mg x.r.num), .bool (sg (dn x.r)), .string (mg (dn x.r)), .bool x.neg]
end Go.Proofs.YtlblfgbpogljoaaGreatDoor
namespace Go.Proofs.YtlblfgbpogljoaaGreatDoor
open Go Go.RowKit Go.Sy
open Vi
end Go.Proofs.YtlblfgbpogljoaaGreatDoor

end
section
/- The program's Check of fractions. -/
namespace Go.Proofs.YtlblfgbpogljoaaGreatDoor
open Go Go.RowKit Go.Sy
open Vi
theorem iCheck (b : Bool) (s : ByteArray) (hs : s.size ≤ 4294967296) : Sp Tryz.prog 160 [] [.agg #[.bool b, .string s]] (nV (if okInt b s then 0 else 5)) [] := Sp.of (fun xs w => Tryz.call160 xs w) (by kernel_rfl) (by kernel_rfl) (fun w => Check_c b s w hs)
theorem pCheck (b1 : Bool) (s1 : ByteArray) (b2 : Bool) (s2 : ByteArray) (h1 : s1.size ≤ 131000) (h2 : s2.size ≤ 131000) : Sp Tryz.prog 123 [] [.agg #[.bool b1, .string s1, .bool b2, .string s2]] (nV (if okRat b1 s1 b2 s2 then 0 else 5)) [] := by
 have c1 := iCheck b1 s1 (by omega)
 have c2 := iCheck b2 s2 (by omega)
 unfold okRat
 cases k1 : okInt b1 s1 <;> rw [k1] at c1
 ·exact walk (code := Tryz.f123.body.getD .skip) [c c1] fol Tryz.func123 (by kernel_rfl) (fun xs w => Tryz.call123 xs w) (by kernel_rfl)
 cases k2 : okInt b2 s2 <;> rw [k2] at c2
 ·exact walk (code := Tryz.f123.body.getD .skip) [c c1, c c2] fol Tryz.func123 (by kernel_rfl) (fun xs w => Tryz.call123 xs w) (by kernel_rfl)
 obtain ⟨x, rfl, rfl⟩ := okInt_num b1 s1 k1
 obtain ⟨y, rfl, rfl⟩ := okInt_num b2 s2 k2
 rw [mg_isEmpty, num_mg, num_mg]
 by_cases h0 : y = 0
 ·subst h0
  rw [show (if (true && true && !sg 0 && ((0 : Int) == 0 || ((0 : Int).natAbs != 1 && Nat.gcd x.natAbs (0 : Int).natAbs == 1))) = true then (0 : Int) else 5) = 0 from rfl]
  have hx := binI0 0 (b := true) rfl
  rw [iV0] at hx
  rw [sg0, mg0] at c2 ⊢
  exact walk (code := Tryz.f123.body.getD .skip) [c c1, c c2, L, x2 hx] fol Tryz.func123 (by kernel_rfl) (fun xs w => Tryz.call123 xs w) (by kernel_rfl)
 ·have hx := binI0 y (b := false) (by simpa using h0)
  have hC := iCompare y 1 (by omega) (by rw [mg1]; show 1 ≤ _; omega)
  rw [show ((y == 0) : Bool) = false by simpa using h0, Bool.false_or]
  by_cases hy : y ≤ 1
  ·have e : (true && true && !sg y && (y.natAbs != 1 && Nat.gcd x.natAbs y.natAbs == 1)) = false := by
     unfold sg
     by_cases hn : y < 0
     ·simp [hn]
     ·have : y.natAbs = 1 := by omega
      simp [this]
   rw [e]
   have ec : decide (cmpI y 1 ≤ 0) = true := decide_eq_true (by unfold cmpI; split; omega; split <;> omega)
   exact walk (code := Tryz.f123.body.getD .skip) [c c1, c c2, L, x2 hx, c pOne, c hC, eb ec] fol Tryz.func123 (by kernel_rfl) (fun xs w => Tryz.call123 xs w) (by kernel_rfl)
  ·have ec : decide (cmpI y 1 ≤ 0) = false := decide_eq_false (by unfold cmpI; rw [if_neg (by omega), if_neg (by omega)]; omega)
   have hG := iGcd x y (by omega) (by omega)
   have e : (true && true && !sg y && (y.natAbs != 1 && Nat.gcd x.natAbs y.natAbs == 1)) = decide ((Nat.gcd x.natAbs y.natAbs : Nat) = 1) := by
    have : sg y = false := by unfold sg; simp; omega
    rw [this]
    have : (y.natAbs != 1) = true := by simp; omega
    rw [this, Bool.eq_iff_iff]
    simp
   rw [e]
   by_cases hg : Nat.gcd x.natAbs y.natAbs = 1
   ·rw [decide_eq_true hg]
    have hx2 := binI1' ((Nat.gcd x.natAbs y.natAbs : Nat) : Int) 1 (b := false) (by rw [hg]; rfl)
    generalize ((Nat.gcd x.natAbs y.natAbs : Nat) : Int) = G at *
    exact walk (code := Tryz.f123.body.getD .skip) [c c1, c c2, L, x2 hx, c pOne, c hC, eb ec, c hG, c pOne, x2 hx2] fol Tryz.func123 (by kernel_rfl) (fun xs w => Tryz.call123 xs w) (by kernel_rfl)
   ·rw [decide_eq_false hg]
    have hx2 := binI1' ((Nat.gcd x.natAbs y.natAbs : Nat) : Int) 1 (b := true) (by simp; omega)
    generalize ((Nat.gcd x.natAbs y.natAbs : Nat) : Int) = G at *
    exact walk (code := Tryz.f123.body.getD .skip) [c c1, c c2, L, x2 hx, c pOne, c hC, eb ec, c hG, c pOne, x2 hx2] fol Tryz.func123 (by kernel_rfl) (fun xs w => Tryz.call123 xs w) (by kernel_rfl)
end Go.Proofs.YtlblfgbpogljoaaGreatDoor
namespace Go.Proofs.YtlblfgbpogljoaaGreatDoor
open Go Go.RowKit Go.Sy
open Vi
theorem rlV_rat (q : Rat) : rlV ⟨q, 0, false⟩ = .agg #[.bool (sg q.num), .string (mg q.num), .bool (sg (dn q)), .string (mg (dn q)), .bool false, .string ⟨#[]⟩, .bool false, .string ⟨#[]⟩, .bool false] := by
 unfold rlV
 rw [show (0 : Rat).num = 0 from rfl, show dn 0 = 0 from rfl, sg0, mg0]
theorem sgQ_lt0 (q : Rat) : decide (sgQ q < 0) = decide (q < 0) := by
 rcases sgQ_cases q with ⟨h1, h2⟩ | ⟨h1, h2⟩ | ⟨h1, h2⟩ <;> rw [h1]
 ·rw [decide_eq_true h2]; rfl
 ·rw [show decide (q < 0) = false from decide_eq_false (by grind)]; rfl
 ·rw [show decide (q < 0) = false from decide_eq_false (by grind)]; rfl
end Go.Proofs.YtlblfgbpogljoaaGreatDoor
namespace Go.Proofs.YtlblfgbpogljoaaGreatDoor
open Go Go.RowKit Go.Sy
open Vi
theorem rlAnd (x y : Rl) : (decide (x.p = y.p) && (decide (x.r = y.r) && ((x.neg == y.neg) && true))) = (open Classical in decide (x = y)) := by
 obtain ⟨a, b, c⟩ := x
 obtain ⟨d, e, f⟩ := y
 rw [Bool.eq_iff_iff]
 simp
theorem eqL_run (d : Nat) (x y : Rl) (w : World) : (Op.equalIn (d + 4) 30 (rlV x) (rlV y)).run Tryz.prog w = .ok (open Classical in decide (x = y)) w := by
 rw [← rlAnd]
 exact eqStruct (l := [(28, 0), (28, 4), (4, 8)]) (by kernel_rfl) (by kernel_rfl) (by kernel_rfl)
  (.cons (a := rV x.p) (b := rV y.p) (by kernel_rfl) (by kernel_rfl) (eqR_run d x.p y.p) (.cons (a := rV x.r) (b := rV y.r) (by kernel_rfl) (by kernel_rfl) (eqR_run d x.r y.r)
   (.cons (a := .bool x.neg) (b := .bool y.neg) (by kernel_rfl) (by kernel_rfl) (fun w => run_equalIn_bool w (d + 2) 4 x.neg y.neg (by kernel_rfl)) .nil))) w
theorem binL (x y : Rl) {q : Bool} (e : (open Classical in decide (x = y)) = q) : Bin .eql 30 (rlV x) (rlV y) (.bool q) := by
 have h := binS (T := 30) (fun w => eqL_run 9996 x y w) (by kernel_rfl)
 rw [e] at h
 exact h
theorem sameL (x : Rl) : Bin .eql 30 (rlV x) (rlV x) (.bool true) := binL x x (by simp)
def qV (a b c : Rat) : Value := .agg #[.bool (sg a.num), .string (mg a.num), .bool (sg (dn a)), .string (mg (dn a)), .bool (sg b.num), .string (mg b.num), .bool (sg (dn b)), .string (mg (dn b)), .bool (sg c.num), .string (mg c.num), .bool (sg (dn c)), .string (mg (dn c))]
theorem eqQ_run (d : Nat) (a b c x y z : Rat) (w : World) : (Op.equalIn (d + 4) 67 (qV a b c) (qV x y z)).run Tryz.prog w = .ok (decide (a = x) && (decide (b = y) && (decide (c = z) && true))) w :=
 eqStruct (l := [(28, 0), (28, 4), (28, 8)]) (by kernel_rfl) (by kernel_rfl) (by kernel_rfl)
  (.cons (a := rV a) (b := rV x) (by kernel_rfl) (by kernel_rfl) (eqR_run d a x) (.cons (a := rV b) (b := rV y) (by kernel_rfl) (by kernel_rfl) (eqR_run d b y)
   (.cons (a := rV c) (b := rV z) (by kernel_rfl) (by kernel_rfl) (eqR_run d c z) .nil))) w
theorem binQ (a b c x y z : Rat) {q : Bool} (e : (decide (a = x) && (decide (b = y) && (decide (c = z) && true))) = q) : Bin .eql 67 (qV a b c) (qV x y z) (.bool q) := by
 have h := binS (T := 67) (fun w => eqQ_run 9996 a b c x y z w) (by kernel_rfl)
 rw [e] at h
 exact h
theorem qSgnR (x : Rl) {i j : Nat} [hi : HasSz x.p i] [hj : HasSz x.r j] (hr : 0 ≤ x.r) (hs : i + j ≤ 5000 := by first | omega | decide) : Sp Tryz.prog 105 [] [rlV x] (nV (sgR x.val)) [] := by
 have e := signF_eq x.p x.s x.r hr
 have e2 : sgR x.val = signF x.p x.s x.r := by rw [e]; rfl
 rw [e2]
 have F := qFactor x
 haveI i1 : HasSz x.p (i + j + 1) := hs_mono hi (by omega)
 haveI i2 : HasSz x.r (i + j + 1) := hs_mono hj (by omega)
 haveI i3 : HasSz x.s (i + j + 1) := hs_mono (inferInstance : HasSz x.s 1) (by omega)
 have S := qSign x.p x.s x.r (i + j + 1) (by omega)
 clear e e2 i1 i2 i3
 generalize signF x.p x.s x.r = v at *
 generalize x.s = s at *
 obtain ⟨p, r, neg⟩ := x
 dsimp only at *
 exact walk (code := Tryz.f105.body.getD .skip) [c F, c S] fol Tryz.func105 (by kernel_rfl) (fun xs w => Tryz.call105 xs w) (by kernel_rfl)
theorem sgQ_neg {q : Rat} (h : q < 0) : sgQ q = -1 := by unfold sgQ; rw [if_pos h]
theorem sgQ_ge (q : Rat) (h : 0 ≤ q) : decide (sgQ q < 0) = false := by
 rw [sgQ_lt0]; exact decide_eq_false (by grind)
theorem qMake (p q r : Rat) {i j k : Nat} [HasSz p i] [HasSz q j] [HasSz r k] (hr : 0 ≤ r) (hs : i + j + j + k ≤ 20000 := by first | omega | decide) : Sp Tryz.prog 104 [] [rV p, rV q, rV r] (.tuple #[rlV (mkR p q r), nV 0]) [] := by
 have S0 := pSgn r
 have e0 := sgQ_ge r hr
 rcases pRoot r fz with ⟨w, h0, hw, R⟩ | ⟨h, R⟩
 ·rw [mkR_sq p q r w h0 hw]
  subst hw
  haveI : HasSz w k := sz_root
  have A := pMul q w fz fz
  have B := pAdd p (q * w) fz fz
  rw [rlV_rat]
  clear h0 hr
  generalize p + q * w = s at *
  generalize q * w = t at *
  generalize w * w = u at *
  generalize sgQ u = z at *
  exact walk (code := Tryz.f104.body.getD .skip) [c S0, eb e0, c R, c A, c B] fol Tryz.func104 (by kernel_rfl) (fun xs w => Tryz.call104 xs w) (by kernel_rfl)
 ·rw [mkR_irr p q r h]
  have A := pMul q q fz fz
  have C := pMul (q * q) r fz fz
  have S := pSgn q
  have e := sgQ_lt0 q
  unfold rlV
  dsimp only
  clear h hr
  generalize q * q * r = s at *
  generalize q * q = t at *
  generalize sgQ q = z at *
  generalize sgQ r = z0 at *
  generalize decide (q < 0) = d at *
  exact walk (code := Tryz.f104.body.getD .skip) [c S0, eb e0, c R, c A, c C, c S, eb e] fol Tryz.func104 (by kernel_rfl) (fun xs w => Tryz.call104 xs w) (by kernel_rfl)
theorem qQuot (a b : Rat) (h0 : b ≠ 0) (ha : Fits a) (hb : Fits b) : Sp Tryz.prog 156 [] [rV a, rV b] (rV (a / b)) [] := by
 have D := pDiv a b h0 ha hb
 generalize a / b = c at *
 exact walk (code := Tryz.f156.body.getD .skip) [Sy.c D] fol Tryz.func156 (by kernel_rfl) (fun xs w => Tryz.call156 xs w) (by kernel_rfl)
theorem sgR_ne {v : RR} (h : v ≠ 0) : decide (sgR v = 0) = false := decide_eq_false fun e => h (RR.sg_iff0.1 e)
theorem qInverse (x : Rl) {i j : Nat} [HasSz x.p i] [HasSz x.r j] (hx : x.Ok) (h0 : x ≠ Rl.rat 0) (hs : i + j ≤ 300 := by first | omega | decide) : Sp Tryz.prog 209 [] [rlV x] (.tuple #[rlV x.inv, nV 0]) [] := by
 have S := qSgnR x hx.nonneg
 have e0 := sgR_ne (val_ne0 hx h0)
 have I := pI 1 (by omega) (by omega)
 rw [show ((1 : Int) : Rat) = 1 from rfl] at I
 unfold Rl.inv
 by_cases h : x.r = 0
 ·rw [if_pos h]
  have hp : x.p ≠ 0 := fun e => val_ne0 hx h0 (by rw [val_rat0 h, e]; rfl)
  have Q := qQuot 1 x.p hp fz fz
  have F := qFromRat (1 / x.p)
  have B := binR0 x.r (b := true) (by simp [h])
  clear h h0 hp hx
  generalize Rl.rat (1 / x.p) = y at *
  generalize 1 / x.p = t at *
  generalize (1 : Rat) = one at *
  generalize sgR x.val = z at *
  obtain ⟨p, r, neg⟩ := x
  dsimp only at *
  exact walk (code := Tryz.f209.body.getD .skip) [c S, eb e0, x2 B, c I, c Q, c F] fol Tryz.func209 (by kernel_rfl) (fun xs w => Tryz.call209 xs w) (by kernel_rfl)
 ·rw [if_neg h]
  have hn := nm_ne hx h
  have B := binR0 x.r (b := false) (by simp [h])
  have M := pMul x.p x.p fz fz
  have U := pSub (x.p * x.p) x.r fz fz
  haveI z0 : HasSz x.nm (i + i + j + 1) := (inferInstance : HasSz (x.p * x.p - x.r) _)
  have Q := qQuot 1 x.nm hn fz fz
  haveI z1 : HasSz (1 / x.nm) (3 * (i + j) + 3) := hs_mono (hs_div 1 x.nm _ _ hn) (by omega)
  haveI z2 : HasSz x.cj.p (3 * (i + j) + 3) := hs_mono ‹HasSz x.p i› (by omega)
  haveI z3 : HasSz x.cj.r (3 * (i + j) + 3) := hs_mono ‹HasSz x.r j› (by omega)
  have C := qScale x.cj (1 / x.nm) (3 * (i + j) + 3) (by omega)
  rw [show x.p * x.p - x.r = x.nm from rfl] at U
  unfold Rl.cj at *
  clear h h0 hn hx z0 z1 z2 z3
  generalize 1 / x.nm = t at *
  generalize Rl.scR _ t = y at *
  generalize x.nm = n at *
  generalize x.p * x.p = t2 at *
  generalize (1 : Rat) = one at *
  generalize sgR x.val = z at *
  obtain ⟨p, r, neg⟩ := x
  dsimp only at *
  exact walk (code := Tryz.f209.body.getD .skip) [c S, eb e0, x2 B, c M, c U, c I, c Q, c C] fol Tryz.func209 (by kernel_rfl) (fun xs w => Tryz.call209 xs w) (by kernel_rfl)
end Go.Proofs.YtlblfgbpogljoaaGreatDoor
namespace Go.Proofs.YtlblfgbpogljoaaGreatDoor
open Go Go.RowKit Go.Sy
open Vi
theorem m2_ne {c : Rat} (hc : c ≠ 0) : (-2 : Rat) * c ≠ 0 := by
 intro e; rcases Rat.mul_eq_zero.1 e with h | h; exact absurd h (by decide +kernel); exact hc h
theorem qRootsNone (a : Rat) (ha : a ≠ 0) : Sp Tryz.prog 108 [] [qV a 0 0] (.tuple #[.slice none 0 0, nV 0]) [] := by
 have B := binR0 0 (b := true) (by simp)
 have A := binR0 a (b := false) (by simp [ha])
 rw [rV0] at B
 have e : qV a 0 0 = .agg #[.bool (sg a.num), .string (mg a.num), .bool (sg (dn a)), .string (mg (dn a)), .bool false, .string ⟨#[]⟩, .bool false, .string ⟨#[]⟩, .bool false, .string ⟨#[]⟩, .bool false, .string ⟨#[]⟩] := by
  unfold qV
  rw [show (0 : Rat).num = 0 from rfl, show dn 0 = 0 from rfl, sg0, mg0]
 rw [e]
 clear ha e
 exact walk (code := Tryz.f108.body.getD .skip) [x2 B, x2 B, x2 A, x2 B, x2 B] fol Tryz.func108 (by kernel_rfl) (fun xs w => Tryz.call108 xs w) (by kernel_rfl)
theorem qRootsLin (a b : Rat) (hb : b ≠ 0) {i j : Nat} [HasSz a i] [HasSz b j] (hs : i + j ≤ 300 := by first | omega | decide) : Sp Tryz.prog 108 [] [qV a b 0] (.tuple #[row 0 1, nV 0]) [(1, rlC (Rl.rat (-(a / b))))] := by
 have Z := binR0 0 (b := true) (by simp)
 have B := binR0 b (b := false) (by simp [hb])
 rw [rV0] at Z
 have e : qV a b 0 = .agg #[.bool (sg a.num), .string (mg a.num), .bool (sg (dn a)), .string (mg (dn a)), .bool (sg b.num), .string (mg b.num), .bool (sg (dn b)), .string (mg (dn b)), .bool false, .string ⟨#[]⟩, .bool false, .string ⟨#[]⟩] := by
  unfold qV
  rw [show (0 : Rat).num = 0 from rfl, show dn 0 = 0 from rfl, sg0, mg0]
 rw [e]
 have Q := qQuot a b hb fz fz
 have N := pNeg (a / b)
 have F := qFromRat (-(a / b))
 unfold rlC
 clear e hb
 generalize Rl.rat (-(a / b)) = y at *
 generalize -(a / b) = t at *
 generalize a / b = u at *
 exact walk (code := Tryz.f108.body.getD .skip) [x2 Z, x2 B, x2 Z, x2 B, x2 Z, c Q, c N, c F] fol Tryz.func108 (by kernel_rfl) (fun xs w => Tryz.call108 xs w) (by kernel_rfl)
theorem qRootsQ (a b c h d : Rat) (hc : c ≠ 0) (eh : h = b / (-2 * c)) (ed : d = h * h - a / c) {i j k : Nat} [HasSz a i] [HasSz b j] [HasSz c k] (hs : i + j + k ≤ 300 := by first | omega | decide) :
    (d < 0 → Sp Tryz.prog 108 [] [qV a b c] (.tuple #[.slice none 0 0, nV 0]) []) ∧
    (d = 0 → Sp Tryz.prog 108 [] [qV a b c] (.tuple #[row 0 1, nV 0]) [(1, rlC (Rl.rat h))]) ∧
    (0 < d → Sp Tryz.prog 108 [] [qV a b c] (.tuple #[row 0 2, nV 0]) [(2, rlC (mkR h (-1) d) ++ rlC (mkR h 1 d))]) := by
 have C := binR0 c (b := false) (by simp [hc])
 have I := pI (-2) (by omega) (by omega)
 rw [show ((-2 : Int) : Rat) = -2 from rfl] at I
 have J := pI 1 (by omega) (by omega)
 rw [show ((1 : Int) : Rat) = 1 from rfl] at J
 have M := pMul (-2) c fz fz
 have N := pNeg 1
 haveI z1 := hs_div b (-2 * c) _ _ (m2_ne hc)
 have Q := qQuot b (-2 * c) (m2_ne hc) fz fz
 rw [← eh] at z1 Q
 have S := pMul h h fz fz
 haveI z2 := hs_div a c _ _ hc
 have Q2 := qQuot a c hc fz fz
 have U := pSub (h * h) (a / c) fz fz
 haveI z3 : HasSz d _ := ed ▸ (inferInstance : HasSz (h * h - a / c) _)
 rw [← ed] at U
 have G := pSgn d
 refine ⟨fun h0 => ?_, fun h0 => ?_, fun h0 => ?_⟩
 ·rw [sgQ_neg h0] at G
  clear z1 z2 z3 hc eh ed h0
  generalize -2 * c = t1 at *
  generalize h * h = t2 at *
  generalize a / c = t3 at *
  generalize (-2 : Rat) = t4 at *
  generalize (1 : Rat) = t5 at *
  exact walk (code := Tryz.f108.body.getD .skip) [x2 C, x2 C, x2 C, Sy.c I, Sy.c M, Sy.c Q, Sy.c S, Sy.c Q2, Sy.c U, Sy.c J, Sy.c G] fol Tryz.func108 (by kernel_rfl) (fun xs w => Tryz.call108 xs w) (by kernel_rfl)
 ·subst h0
  rw [show sgQ 0 = 0 from rfl] at G
  have F := qFromRat h
  unfold rlC
  clear z1 z2 z3 hc eh ed
  generalize Rl.rat h = y at *
  generalize -2 * c = t1 at *
  generalize h * h = t2 at *
  generalize a / c = t3 at *
  generalize (-2 : Rat) = t4 at *
  generalize (1 : Rat) = t5 at *
  generalize (0 : Rat) = t6 at *
  exact walk (code := Tryz.f108.body.getD .skip) [x2 C, x2 C, x2 C, Sy.c I, Sy.c M, Sy.c Q, Sy.c S, Sy.c Q2, Sy.c U, Sy.c J, Sy.c G, Sy.c F] fol Tryz.func108 (by kernel_rfl) (fun xs w => Tryz.call108 xs w) (by kernel_rfl)
 ·rw [show sgQ d = 1 by unfold sgQ; rw [if_neg (by grind), if_neg (by grind)]] at G
  have K1 := qMake h (-1) d (Rat.le_of_lt h0)
  have K2 := qMake h 1 d (Rat.le_of_lt h0)
  unfold rlC
  clear z1 z2 z3 hc eh ed h0
  generalize mkR h (-1) d = y1 at *
  generalize mkR h 1 d = y2 at *
  generalize -2 * c = t1 at *
  generalize h * h = t2 at *
  generalize a / c = t3 at *
  generalize (-2 : Rat) = t4 at *
  generalize (-1 : Rat) = t6 at *
  generalize (1 : Rat) = t5 at *
  exact walk (code := Tryz.f108.body.getD .skip) [x2 C, x2 C, x2 C, Sy.c I, Sy.c M, Sy.c Q, Sy.c S, Sy.c Q2, Sy.c U, Sy.c J, Sy.c G, Sy.c N, Sy.c K1, Sy.c K2] fol Tryz.func108 (by kernel_rfl) (fun xs w => Tryz.call108 xs w) (by kernel_rfl)
end Go.Proofs.YtlblfgbpogljoaaGreatDoor
namespace Go.Proofs.YtlblfgbpogljoaaGreatDoor
open Go Go.RowKit Go.Sy
open Vi
noncomputable def okL (x : Rl) : Bool := open Classical in decide x.Ok
theorem okL_yes {x : Rl} (h : x.Ok) : okL x = true := by unfold okL; simp [h]
theorem okL_no {x : Rl} (h : ¬ x.Ok) : okL x = false := by unfold okL; simp [h]
theorem notOk_neg {p r : Rat} {b : Bool} (h : r < 0) : ¬ (⟨p, r, b⟩ : Rl).Ok := by
 rintro (⟨h1, _⟩ | ⟨h1, _⟩)
 ·have h1 : r = 0 := h1
  subst h1; exact Rat.lt_irrefl h
 ·have h1 : 0 < r := h1
  grind
theorem notOk_z {p : Rat} : ¬ (⟨p, 0, true⟩ : Rl).Ok := by
 rintro (⟨_, h⟩ | ⟨h, _⟩)
 ·cases h
 ·exact Rat.lt_irrefl h
theorem notOk_sq {p r w : Rat} {b : Bool} (h : 0 < r) (hw : w * w = r) : ¬ (⟨p, r, b⟩ : Rl).Ok := by
 rintro (⟨h1, _⟩ | ⟨_, h1⟩)
 ·have h1 : r = 0 := h1
  subst h1; exact Rat.lt_irrefl h
 ·exact h1 w hw
theorem qCheckQ (x : Rl) (h1 : Fits x.p) (h2 : Fits x.r) : Sp Tryz.prog 157 [] [rlV x] (nV (if okL x then 0 else 5)) [] := by
 obtain ⟨p, r, neg⟩ := x
 dsimp only at h1 h2
 have A := pCheck (sg p.num) (mg p.num) (sg (dn p)) (mg (dn p)) h1.mn h1.md
 have B := pCheck (sg r.num) (mg r.num) (sg (dn r)) (mg (dn r)) h2.mn h2.md
 rw [okRat_of, if_pos rfl] at A B
 have S := pSgn r
 rcases sgQ_cases r with ⟨hs, hr⟩ | ⟨hs, hr⟩ | ⟨hs, hr⟩ <;> rw [hs] at S
 ·rw [okL_no (notOk_neg hr), if_neg (by simp)]
  clear hr h1 h2
  exact walk (code := Tryz.f157.body.getD .skip) [c A, c B, c S] fol Tryz.func157 (by kernel_rfl) (fun xs w => Tryz.call157 xs w) (by kernel_rfl)
 ·subst hr
  cases neg
  ·rw [okL_yes (.inl ⟨rfl, rfl⟩), if_pos rfl]
   clear h1 h2
   generalize (0 : Rat) = z at *
   exact walk (code := Tryz.f157.body.getD .skip) [c A, c B, c S] fol Tryz.func157 (by kernel_rfl) (fun xs w => Tryz.call157 xs w) (by kernel_rfl)
  ·rw [okL_no notOk_z, if_neg (by simp)]
   clear h1 h2
   generalize (0 : Rat) = z at *
   exact walk (code := Tryz.f157.body.getD .skip) [c A, c B, c S] fol Tryz.func157 (by kernel_rfl) (fun xs w => Tryz.call157 xs w) (by kernel_rfl)
 ·rcases pRoot r h2 with ⟨w, _, hw, R⟩ | ⟨hw, R⟩
  ·rw [okL_no (notOk_sq hr hw), if_neg (by simp)]
   clear hr hw h1 h2
   exact walk (code := Tryz.f157.body.getD .skip) [c A, c B, c S, c R] fol Tryz.func157 (by kernel_rfl) (fun xs w => Tryz.call157 xs w) (by kernel_rfl)
  ·rw [okL_yes (.inr ⟨hr, hw⟩), if_pos rfl]
   clear hr hw h1 h2
   exact walk (code := Tryz.f157.body.getD .skip) [c A, c B, c S, c R] fol Tryz.func157 (by kernel_rfl) (fun xs w => Tryz.call157 xs w) (by kernel_rfl)
theorem sz_of_mg {q : Rat} {k : Nat} (h1 : (mg q.num).size ≤ k) (h2 : (mg (dn q)).size ≤ k) (hk : 1 ≤ k) : HasSz q k := by
 rw [mg_nd] at h1 h2
 refine ⟨nd_of_x h1, ?_⟩
 unfold dn at h2
 split at h2
 ·next e => rw [e]; exact nd_of_x (Nat.le_trans (by decide) hk)
 ·exact nd_of_x (by simpa using h2)
end Go.Proofs.YtlblfgbpogljoaaGreatDoor
namespace Go.Proofs.YtlblfgbpogljoaaGreatDoor
open Go Go.RowKit Go.Sy
open Vi
theorem qCmp (x y : Rl) {i j k l : Nat} [h1 : HasSz x.p i] [h2 : HasSz x.r j] [h3 : HasSz y.p k] [h4 : HasSz y.r l] (hx : 0 ≤ x.r) (hy : 0 ≤ y.r) (hs : i + j + k + l ≤ 2000 := by first | omega | decide) : Sp Tryz.prog 27 [] [rlV x, rlV y] (nV (Rl.cmp x y)) [] := by
 haveI := hs_mono h1 (show i ≤ i + j + k + l + 1 by omega)
 haveI := hs_mono h2 (show j ≤ i + j + k + l + 1 by omega)
 haveI := hs_mono h3 (show k ≤ i + j + k + l + 1 by omega)
 haveI := hs_mono h4 (show l ≤ i + j + k + l + 1 by omega)
 exact qCompare x y (i + j + k + l + 1) (by omega) (by omega) hx hy
theorem qFlr (x : Rl) {i j : Nat} [h1 : HasSz x.p i] [h2 : HasSz x.r j] (hx : 0 ≤ x.r) (hs : i + j ≤ 5000 := by first | omega | decide) : Sp Tryz.prog 173 [] [rlV x] (iV (fl x)) [] := by
 haveI := hs_mono h1 (show i ≤ i + j by omega)
 haveI := hs_mono h2 (show j ≤ i + j by omega)
 exact qFloor x (i + j) (by omega) hx
theorem simpLast (x y x' y' u : Rl) (q2 q3 q4 l t v one : Rat) (n m n2 m2 s1 s2 c : Int) (e1 : decide (s1 < 0) = false) (e2 : decide (s2 ≤ 0) = false) (ec : decide (c > 0) = false)
    (S1 : Sp Tryz.prog 105 [] [rlV x] (nV s1) []) (S2 : Sp Tryz.prog 105 [] [rlV y] (nV s2) []) (F : Sp Tryz.prog 173 [] [rlV x] (iV n) []) (J : Sp Tryz.prog 128 [] [nV 1] (iV 1) []) (A : Sp Tryz.prog 152 [] [iV n, iV 1] (iV m) [])
    (W : Sp Tryz.prog 172 [] [iV m] (rV q3) []) (C : Sp Tryz.prog 208 [] [rlV y, rV q3] (nV c) []) (W2 : Sp Tryz.prog 172 [] [iV n] (rV q2) []) (N : Sp Tryz.prog 96 [] [rV q2] (rV l) [])
    (H1 : Sp Tryz.prog 28 [] [rlV x, rV l] (rlV x') []) (H2 : Sp Tryz.prog 28 [] [rlV y, rV l] (rlV y') []) (V : Sp Tryz.prog 209 [] [rlV y'] (.tuple #[rlV u, nV 0]) []) (I : Sp Tryz.prog 101 [] [nV 1] (rV one) [])
    (F2 : Sp Tryz.prog 173 [] [rlV u] (iV n2) []) (A2 : Sp Tryz.prog 152 [] [iV n2, iV 1] (iV m2) []) (W3 : Sp Tryz.prog 172 [] [iV m2] (rV q4) []) (S3 : Sp Tryz.prog 105 [] [rlV x'] (nV 0) [])
    (Q : Sp Tryz.prog 156 [] [rV one, rV q4] (rV t) []) (U : Sp Tryz.prog 91 [] [rV t, rV l] (rV v) []) : Sp Tryz.prog 186 [] [rlV x, rlV y] (rV v) [] := by
 obtain ⟨xp, xr, xn⟩ := x
 obtain ⟨yp, yr, yn⟩ := y
 obtain ⟨xp', xr', xn'⟩ := x'
 obtain ⟨yp', yr', yn'⟩ := y'
 exact walk (code := Tryz.f186.body.getD .skip) [Sy.c S1, eb e1, Sy.c S2, eb e2, Sy.c F, Sy.c J, Sy.c A, Sy.c W, Sy.c C, eb ec, Sy.c W2, Sy.c N, Sy.c H1, Sy.c H2, Sy.c V, Sy.c I, Sy.c F2, Sy.c J, Sy.c A2, Sy.c W3, Sy.c S3, Sy.c Q, Sy.c U] fol Tryz.func186 (by kernel_rfl) (fun xs w => Tryz.call186 xs w) (by kernel_rfl)
theorem simpStep (x y x' y' u a : Rl) (q2 q3 q4 q5 l t v one : Rat) (n m n2 m2 s1 s2 s3 c : Int) (e1 : decide (s1 < 0) = false) (e2 : decide (s2 ≤ 0) = false) (ec : decide (c > 0) = false) (e3 : decide (s3 > 0) = true)
    (S1 : Sp Tryz.prog 105 [] [rlV x] (nV s1) []) (S2 : Sp Tryz.prog 105 [] [rlV y] (nV s2) []) (F : Sp Tryz.prog 173 [] [rlV x] (iV n) []) (J : Sp Tryz.prog 128 [] [nV 1] (iV 1) []) (A : Sp Tryz.prog 152 [] [iV n, iV 1] (iV m) [])
    (W : Sp Tryz.prog 172 [] [iV m] (rV q3) []) (C : Sp Tryz.prog 208 [] [rlV y, rV q3] (nV c) []) (W2 : Sp Tryz.prog 172 [] [iV n] (rV q2) []) (N : Sp Tryz.prog 96 [] [rV q2] (rV l) [])
    (H1 : Sp Tryz.prog 28 [] [rlV x, rV l] (rlV x') []) (H2 : Sp Tryz.prog 28 [] [rlV y, rV l] (rlV y') []) (V : Sp Tryz.prog 209 [] [rlV y'] (.tuple #[rlV u, nV 0]) []) (I : Sp Tryz.prog 101 [] [nV 1] (rV one) [])
    (F2 : Sp Tryz.prog 173 [] [rlV u] (iV n2) []) (A2 : Sp Tryz.prog 152 [] [iV n2, iV 1] (iV m2) []) (W3 : Sp Tryz.prog 172 [] [iV m2] (rV q4) []) (S3 : Sp Tryz.prog 105 [] [rlV x'] (nV s3) [])
    (V2 : Sp Tryz.prog 209 [] [rlV x'] (.tuple #[rlV a, nV 0]) []) (R : Sp Tryz.prog 186 [] [rlV u, rlV a] (rV q5) [])
    (Q : Sp Tryz.prog 156 [] [rV one, rV q5] (rV t) []) (U : Sp Tryz.prog 91 [] [rV t, rV l] (rV v) []) : Sp Tryz.prog 186 [] [rlV x, rlV y] (rV v) [] := by
 obtain ⟨xp, xr, xn⟩ := x
 obtain ⟨yp, yr, yn⟩ := y
 obtain ⟨xp', xr', xn'⟩ := x'
 obtain ⟨yp', yr', yn'⟩ := y'
 exact walk (code := Tryz.f186.body.getD .skip) [Sy.c S1, eb e1, Sy.c S2, eb e2, Sy.c F, Sy.c J, Sy.c A, Sy.c W, Sy.c C, eb ec, Sy.c W2, Sy.c N, Sy.c H1, Sy.c H2, Sy.c V, Sy.c I, Sy.c F2, Sy.c J, Sy.c A2, Sy.c W3, Sy.c S3, eb e3, Sy.c V2, Sy.c R, Sy.c Q, Sy.c U] fol Tryz.func186 (by kernel_rfl) (fun xs w => Tryz.call186 xs w) (by kernel_rfl)
theorem simpWhole (x y : Rl) (q3 : Rat) (n m s1 s2 c : Int) (e1 : decide (s1 < 0) = false) (e2 : decide (s2 ≤ 0) = false) (ec : decide (c > 0) = true)
    (S1 : Sp Tryz.prog 105 [] [rlV x] (nV s1) []) (S2 : Sp Tryz.prog 105 [] [rlV y] (nV s2) []) (F : Sp Tryz.prog 173 [] [rlV x] (iV n) []) (J : Sp Tryz.prog 128 [] [nV 1] (iV 1) []) (A : Sp Tryz.prog 152 [] [iV n, iV 1] (iV m) [])
    (W : Sp Tryz.prog 172 [] [iV m] (rV q3) []) (C : Sp Tryz.prog 208 [] [rlV y, rV q3] (nV c) []) : Sp Tryz.prog 186 [] [rlV x, rlV y] (rV q3) [] := by
 obtain ⟨xp, xr, xn⟩ := x
 obtain ⟨yp, yr, yn⟩ := y
 exact walk (code := Tryz.f186.body.getD .skip) [Sy.c S1, eb e1, Sy.c S2, eb e2, Sy.c F, Sy.c J, Sy.c A, Sy.c W, Sy.c C, eb ec] fol Tryz.func186 (by kernel_rfl) (fun xs w => Tryz.call186 xs w) (by kernel_rfl)
theorem cmp_dec {x y : Rl} {v : Int} (hx : 0 ≤ x.r) (hy : 0 ≤ y.r) (h : Rl.cmpF x y = v) : Rl.cmp x y = v := by rw [← h, Rl.cmpF_eq x y hx hy]
instance (p q : Rat) (b : Bool) (k : Nat) [h : HasSz p k] : HasSz (⟨p, q, b⟩ : Rl).p k := h
instance (p q : Rat) (b : Bool) (k : Nat) [h : HasSz q k] : HasSz (⟨p, q, b⟩ : Rl).r k := h
instance (p : Rat) (k : Nat) [h : HasSz p k] : HasSz (Rl.rat p).p k := h
instance (p : Rat) : HasSz (Rl.rat p).r 1 := (inferInstance : HasSz (0 : Rat) 1)
instance : HasSz (3 : Rat) 1 := ⟨by unfold Sz; decide⟩
theorem qBetween (x y : Rl) (v : Rat) (c : Int) (ec : decide (c ≥ 0) = false) (C : Sp Tryz.prog 27 [] [rlV x, rlV y] (nV c) []) (R : Sp Tryz.prog 186 [] [rlV x, rlV y] (rV v) []) : Sp Tryz.prog 158 [] [rlV x, rlV y] (.tuple #[rV v, nV 0]) [] := by
 exact walk (code := Tryz.f158.body.getD .skip) [Sy.c C, eb ec, Sy.c R] fol Tryz.func158 (by kernel_rfl) (fun xs w => Tryz.call158 xs w) (by kernel_rfl)
end Go.Proofs.YtlblfgbpogljoaaGreatDoor
namespace Go.Proofs.YtlblfgbpogljoaaGreatDoor
open Go Go.RowKit Go.Sy
open Vi
theorem int_hs' (z : Int) (k : Nat) (h : (mg z).size ≤ k) (hk : 1 ≤ k) : HasSz (z : Rat) k := by
 refine sz_of_mg (by rw [Rat.num_intCast]; exact h) ?_ hk
 rw [dn_int, mg0]; exact Nat.zero_le _
end Go.Proofs.YtlblfgbpogljoaaGreatDoor

end
