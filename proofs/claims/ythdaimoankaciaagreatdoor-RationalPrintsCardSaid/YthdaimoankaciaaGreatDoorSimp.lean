import Derived.Test.YthdaimoankaciaaGreatDoorFrac
set_option linter.unusedSimpArgs false
set_option linter.unusedVariables false
namespace Go.Proofs.YthdaimoankaciaaGreatDoor
open Vi
def InI (a b : Rat) (oa ob : Bool) (r : Rat) : Prop := (a < r ∨ (oa = false ∧ a = r)) ∧ (r < b ∨ (ob = false ∧ r = b))
def Best (a b : Rat) (oa ob : Bool) (q : Rat) : Prop := InI a b oa ob q ∧ ∀ r, InI a b oa ob r → q.den ≤ r.den ∧ q.num.natAbs ≤ r.num.natAbs
theorem gcd_shift (n m : Int) (d : Nat) (h : Nat.gcd m.natAbs d = 1) : Nat.gcd (n * d + m).natAbs d = 1 := by
 have e : Int.gcd (n * d + m) (d : Int) = Int.gcd m (d : Int) := by
  rw [Int.add_comm, Int.gcd_add_mul_right_left]
 have e2 : Int.gcd m (d : Int) = Nat.gcd m.natAbs d := rfl
 have e3 : Int.gcd (n * d + m) (d : Int) = Nat.gcd (n * d + m).natAbs d := rfl
 rw [← e3, e, e2, h]
theorem add_int (n : Int) (r : Rat) : ((n : Rat) + r).num = n * r.den + r.num ∧ ((n : Rat) + r).den = r.den := by
 have h : (n : Rat) + r = Rat.mk' (n * r.den + r.num) r.den r.den_nz (gcd_shift n r.num r.den r.reduced) := by
  rw [Rat.mk_eq_divInt]
  have e1 : (n : Rat) = Rat.divInt n 1 := (Rat.num_divInt_den (n : Rat)).symm
  have e2 := Rat.num_divInt_den r
  have hd : (r.den : Int) ≠ 0 := by have := r.den_nz; omega
  conv => lhs; rw [e1, ← e2]
  rw [Rat.divInt_add_divInt _ _ (by omega) hd]
  simp
 rw [h]
 exact ⟨rfl, rfl⟩
theorem sub_int (n : Int) (r : Rat) : (r - (n : Rat)).num = r.num - n * r.den ∧ (r - (n : Rat)).den = r.den := by
 have h := add_int (-n) r
 have e : ((-n : Int) : Rat) + r = r - (n : Rat) := by
  rw [Rat.intCast_neg, Rat.add_comm, Rat.sub_eq_add_neg]
 rw [e] at h
 refine ⟨?_, h.2⟩
 rw [h.1, Int.neg_mul]; omega
theorem inv_pos_parts (r : Rat) (h : 0 < r) : ((r⁻¹).num = (r.den : Int)) ∧ (r⁻¹).den = r.num.natAbs := by
 have hn : 0 < r.num := by
  have := (Rat.lt_iff 0 r).1 h
  simpa using this
 constructor
 ·rw [Rat.num_inv, Int.sign_eq_one_of_pos hn, Int.one_mul]
 ·rw [Rat.den_inv, if_neg (by omega)]
theorem num_pos_of (r : Rat) (h : 0 < r) : 0 < r.num := by
 have := (Rat.lt_iff 0 r).1 h
 simpa using this
theorem best_left (a b : Rat) (ob : Bool) (ha : 0 ≤ a) (hd : a.den = 1) (hin : InI a b false ob a) : Best a b false ob a := by
 refine ⟨hin, fun r hr => ⟨by rw [hd]; exact Nat.pos_of_ne_zero r.den_nz, ?_⟩⟩
 have h1 : a ≤ r := by
  rcases hr.1 with h | ⟨_, h⟩
  ·exact Rat.le_of_lt h
  ·rw [h]; exact Rat.le_refl
 have h2 := (Rat.le_iff a r).1 h1
 rw [hd] at h2
 have h3 : 0 ≤ a.num := Rat.num_nonneg.2 ha
 have h4 : 0 < r.den := Nat.pos_of_ne_zero r.den_nz
 have h5 : a.num * 1 ≤ a.num * r.den := Int.mul_le_mul_of_nonneg_left (by omega) h3
 omega
theorem InI.ge {a b r : Rat} {oa ob : Bool} (h : InI a b oa ob r) : a ≤ r ∧ r ≤ b := by
 constructor
 ·rcases h.1 with h | ⟨_, h⟩
  ·exact Rat.le_of_lt h
  ·rw [h]; exact Rat.le_refl
 ·rcases h.2 with h | ⟨_, h⟩
  ·exact Rat.le_of_lt h
  ·rw [h]; exact Rat.le_refl
theorem lt_of_lt_of_le' {a b c : Rat} (h1 : a < b) (h2 : b ≤ c) : a < c := by
 rw [← Rat.not_le]; intro h
 exact Rat.not_le.2 h1 (Rat.le_trans h2 h)
theorem lt_of_le_of_lt' {a b c : Rat} (h1 : a ≤ b) (h2 : b < c) : a < c := by
 rw [← Rat.not_le]; intro h
 exact Rat.not_le.2 h2 (Rat.le_trans h h1)
theorem in_gt_floor {a b r : Rat} {oa ob : Bool} {n : Int} (hn : (n : Rat) ≤ a) (hne : ¬ ((n : Rat) = a ∧ oa = false)) (h : InI a b oa ob r) : (n : Rat) < r := by
 rcases h.1 with h | ⟨h1, h2⟩
 ·exact lt_of_le_of_lt' hn h
 ·rw [← h2]
  exact Rat.lt_of_le_of_ne hn fun e => hne ⟨e, h1⟩
theorem int_lt_num {n : Int} {r : Rat} (h : (n : Rat) < r) : n * r.den < r.num := by
 have := (Rat.lt_iff _ _).1 h
 simpa using this
theorem best_next (a b : Rat) (oa ob : Bool) (n : Int) (h0 : 0 ≤ n) (hn : (n : Rat) ≤ a) (hne : ¬ ((n : Rat) = a ∧ oa = false)) (hin : InI a b oa ob ((n + 1 : Int) : Rat)) : Best a b oa ob ((n + 1 : Int) : Rat) := by
 refine ⟨hin, fun r hr => ⟨?_, ?_⟩⟩
 ·rw [Rat.den_intCast]; exact Nat.pos_of_ne_zero r.den_nz
 ·rw [Rat.num_intCast]
  have h1 := int_lt_num (in_gt_floor hn hne hr)
  have h2 : 0 < r.den := Nat.pos_of_ne_zero r.den_nz
  have h3 : n * 1 ≤ n * r.den := Int.mul_le_mul_of_nonneg_left (by omega) h0
  omega
theorem best_step (a b : Rat) (oa ob : Bool) (n : Int) (h0 : 0 ≤ n) (s : Rat) (hs : 0 < s) (hin : InI a b oa ob ((n : Rat) + s⁻¹)) (hall : ∀ r, InI a b oa ob r → (n : Rat) < r ∧ s.den ≤ ((r - (n : Rat))⁻¹).den ∧ s.num ≤ ((r - (n : Rat))⁻¹).num) : Best a b oa ob ((n : Rat) + s⁻¹) := by
 refine ⟨hin, fun r hr => ?_⟩
 obtain ⟨h1, h2, h3⟩ := hall r hr
 obtain ⟨e1, e2⟩ := add_int n s⁻¹
 obtain ⟨i1, i2⟩ := inv_pos_parts s hs
 have hp : 0 < r - (n : Rat) := (Rat.lt_iff_sub_pos _ _).1 h1
 obtain ⟨j1, j2⟩ := inv_pos_parts _ hp
 obtain ⟨k1, k2⟩ := sub_int n r
 rw [j2] at h2
 rw [j1, k2] at h3
 have hsn := num_pos_of s hs
 have hrn := num_pos_of _ hp
 rw [k1] at h2 hrn
 rw [e1, e2, i1, i2]
 have hm : n * (s.num.natAbs : Int) ≤ n * r.den := Int.mul_le_mul_of_nonneg_left (by omega) h0
 have hm0 : 0 ≤ n * (s.num.natAbs : Int) := Int.mul_nonneg h0 (by omega)
 constructor
 ·omega
 ·omega
theorem inv_lt {x y : Rat} (hx : 0 < x) (h : x < y) : y⁻¹ < x⁻¹ := by
 have hy : 0 < y := lt_of_le_of_lt' (Rat.le_of_lt hx) h
 obtain ⟨i1, i2⟩ := inv_pos_parts x hx
 obtain ⟨j1, j2⟩ := inv_pos_parts y hy
 have hxn := num_pos_of x hx
 have hyn := num_pos_of y hy
 rw [Rat.lt_iff, i1, i2, j1, j2]
 have h2 := (Rat.lt_iff _ _).1 h
 have e1 : (x.num.natAbs : Int) = x.num := by omega
 have e2 : (y.num.natAbs : Int) = y.num := by omega
 rw [e1, e2, Int.mul_comm, Int.mul_comm (x.den : Int)]
 exact h2
theorem inv_pos_of {x : Rat} (hx : 0 < x) : 0 < x⁻¹ := Rat.inv_pos.2 hx
theorem best_inner (a b : Rat) (oa ob : Bool) (n : Int) (h0 : 0 ≤ n) (hn : (n : Rat) < a) (hb : (n : Rat) < b) (s : Rat) (hs : Best ((b - (n : Rat))⁻¹) ((a - (n : Rat))⁻¹) ob oa s) : Best a b oa ob ((n : Rat) + s⁻¹) := by
 have pa : 0 < a - (n : Rat) := (Rat.lt_iff_sub_pos _ _).1 hn
 have pb : 0 < b - (n : Rat) := (Rat.lt_iff_sub_pos _ _).1 hb
 have ps : 0 < s := lt_of_lt_of_le' (inv_pos_of pb) hs.1.ge.1
 have back : ∀ x : Rat, (n : Rat) + (x - (n : Rat)) = x := fun x => by rw [Rat.add_comm, Rat.sub_add_cancel]
 refine best_step a b oa ob n h0 s ps ?_ ?_
 ·have hin := hs.1
  constructor
  ·rcases hin.2 with h | ⟨h1, h2⟩
   ·left
    have h3 := inv_lt ps h
    rw [Rat.inv_inv] at h3
    have h4 := (Rat.add_lt_add_left (c := (n : Rat))).2 h3
    rwa [back] at h4
   ·right
    refine ⟨h1, ?_⟩
    rw [h2, Rat.inv_inv, back]
  ·rcases hin.1 with h | ⟨h1, h2⟩
   ·left
    have h3 := inv_lt (inv_pos_of pb) h
    rw [Rat.inv_inv] at h3
    have h4 := (Rat.add_lt_add_left (c := (n : Rat))).2 h3
    rwa [back] at h4
   ·right
    refine ⟨h1, ?_⟩
    rw [← h2, Rat.inv_inv, back]
 ·intro r hr
  have hnr : (n : Rat) < r := lt_of_lt_of_le' hn hr.ge.1
  have pr : 0 < r - (n : Rat) := (Rat.lt_iff_sub_pos _ _).1 hnr
  have hsub : ∀ x y : Rat, x < y → x - (n : Rat) < y - (n : Rat) := fun x y h => by
   rw [Rat.sub_eq_add_neg, Rat.sub_eq_add_neg]; exact Rat.add_lt_add_right.2 h
  have hi : InI ((b - (n : Rat))⁻¹) ((a - (n : Rat))⁻¹) ob oa ((r - (n : Rat))⁻¹) := by
   constructor
   ·rcases hr.2 with h | ⟨h1, h2⟩
    ·exact .inl (inv_lt pr (hsub _ _ h))
    ·exact .inr ⟨h1, by rw [h2]⟩
   ·rcases hr.1 with h | ⟨h1, h2⟩
    ·exact .inl (inv_lt pa (hsub _ _ h))
    ·exact .inr ⟨h1, by rw [h2]⟩
  obtain ⟨h1, h2⟩ := hs.2 _ hi
  refine ⟨hnr, h1, ?_⟩
  have p1 := num_pos_of s ps
  have p2 := num_pos_of _ (inv_pos_of pr)
  omega
def InU (c : Rat) (oc : Bool) (t : Rat) : Prop := c < t ∨ (oc = false ∧ c = t)
def leastU (c : Rat) (oc : Bool) : Int := if (c.ceil : Rat) = c ∧ oc = true then c.ceil + 1 else c.ceil
theorem leastU_in (c : Rat) (oc : Bool) : InU c oc (leastU c oc : Rat) := by
 unfold leastU InU
 have h := @Rat.le_ceil c
 split
 ·rename_i h1
  left
  rw [Rat.intCast_add, h1.1]
  have := (Rat.add_lt_add_left (a := 0) (b := ((1 : Int) : Rat)) (c := c)).2 (by decide)
  rwa [Rat.add_zero] at this
 ·rename_i h1
  by_cases e : (c.ceil : Rat) = c
  ·right
   refine ⟨?_, e.symm⟩
   cases oc
   ·rfl
   ·exact absurd ⟨e, rfl⟩ h1
  ·left
   exact Rat.lt_of_le_of_ne h fun e2 => e e2.symm
theorem leastU_le (c : Rat) (oc : Bool) (j : Int) (h : InU c oc (j : Rat)) : leastU c oc ≤ j := by
 have h0 : c.ceil ≤ j := Rat.ceil_le_iff.2 (by
  rcases h with h | ⟨_, h⟩
  ·exact Rat.le_of_lt h
  ·rw [h]; exact Rat.le_refl)
 unfold leastU
 split
 ·rename_i h1
  have h2 : c.ceil ≠ j := by
   intro e
   rcases h with h | ⟨h3, _⟩
   ·rw [← e, h1.1] at h; exact Rat.lt_irrefl h
   ·rw [h1.2] at h3; cases h3
  omega
 ·exact h0
theorem best_edge (a b : Rat) (ob : Bool) (n : Int) (h0 : 0 ≤ n) (hn : (n : Rat) = a) (hb : (n : Rat) < b) : Best a b true ob ((n : Rat) + ((leastU ((b - (n : Rat))⁻¹) ob : Int) : Rat)⁻¹) := by
 have pb : 0 < b - (n : Rat) := (Rat.lt_iff_sub_pos _ _).1 hb
 have hU := leastU_in ((b - (n : Rat))⁻¹) ob
 have hL := leastU_le ((b - (n : Rat))⁻¹) ob
 obtain ⟨m, hm⟩ : ∃ m, m = leastU ((b - (n : Rat))⁻¹) ob := ⟨_, rfl⟩
 rw [← hm] at hU hL ⊢
 have pl := inv_pos_of pb
 have ps : 0 < (m : Rat) := by
  rcases hU with h | ⟨_, h⟩
  ·exact lt_of_le_of_lt' (Rat.le_of_lt pl) h
  ·rw [← h]; exact pl
 have back : ∀ x : Rat, (n : Rat) + (x - (n : Rat)) = x := fun x => by rw [Rat.add_comm, Rat.sub_add_cancel]
 refine best_step a b true ob n h0 (m : Rat) ps ?_ ?_
 ·constructor
  ·left
   have := (Rat.add_lt_add_left (c := (n : Rat))).2 (inv_pos_of ps)
   rw [Rat.add_zero] at this
   rw [← hn]; exact this
  ·rcases hU with h | ⟨h1, h2⟩
   ·left
    have h3 := inv_lt pl h
    rw [Rat.inv_inv] at h3
    have h4 := (Rat.add_lt_add_left (c := (n : Rat))).2 h3
    rwa [back] at h4
   ·right
    refine ⟨h1, ?_⟩
    rw [← h2, Rat.inv_inv, back]
 ·intro r hr
  have hnr : (n : Rat) < r := by
   rcases hr.1 with h | ⟨h, _⟩
   ·rw [hn]; exact h
   ·cases h
  have pr : 0 < r - (n : Rat) := (Rat.lt_iff_sub_pos _ _).1 hnr
  have hsub : ∀ x y : Rat, x < y → x - (n : Rat) < y - (n : Rat) := fun x y h => by
   rw [Rat.sub_eq_add_neg, Rat.sub_eq_add_neg]; exact Rat.add_lt_add_right.2 h
  obtain ⟨t, ht⟩ : ∃ t, t = (r - (n : Rat))⁻¹ := ⟨_, rfl⟩
  rw [← ht]
  have pt : 0 < t := by rw [ht]; exact inv_pos_of pr
  have tU : InU ((b - (n : Rat))⁻¹) ob t := by
   rcases hr.2 with h | ⟨h1, h2⟩
   ·left; rw [ht]; exact inv_lt pr (hsub _ _ h)
   ·right; exact ⟨h1, by rw [ht, h2]⟩
  have tle : t ≤ ((t.num : Int) : Rat) := by
   rw [Rat.le_iff]
   simp
   have h1 := num_pos_of t pt
   have h2 : 0 < t.den := Nat.pos_of_ne_zero t.den_nz
   have h3 : t.num * 1 ≤ t.num * t.den := Int.mul_le_mul_of_nonneg_left (by omega) (by omega)
   omega
  refine ⟨hnr, ?_, ?_⟩
  ·rw [Rat.den_intCast]; exact Nat.pos_of_ne_zero t.den_nz
  ·rw [Rat.num_intCast]
   refine hL t.num ?_
   rcases tU with h | ⟨h1, h2⟩
   ·left; exact lt_of_lt_of_le' h tle
   ·by_cases e : t = ((t.num : Int) : Rat)
    ·right; exact ⟨h1, h2.trans e⟩
    ·left; rw [h2]; exact Rat.lt_of_le_of_ne tle e
theorem mediant_in (a b : Rat) (h : a < b) : a < Rat.divInt (a.num + b.num) (a.den + b.den) ∧ Rat.divInt (a.num + b.num) (a.den + b.den) < b := by
 have h1 := (Rat.lt_iff _ _).1 h
 have pa : 0 < (a.den : Int) := by have := a.den_nz; omega
 have pb : 0 < (b.den : Int) := by have := b.den_nz; omega
 have key : ∀ (x : Rat) (n d : Int), 0 < d → ((x < Rat.divInt n d ↔ x.num * d < n * x.den) ∧ (Rat.divInt n d < x ↔ n * x.den < x.num * d)) := by
  intro x n d hd
  have e1 : x = Rat.divInt x.num x.den := (Rat.num_divInt_den x).symm
  have hx : 0 < (x.den : Int) := by have := x.den_nz; omega
  have hxr : (0 : Rat) < ((x.den : Int) : Rat) := Rat.intCast_pos.2 hx
  have hdr : (0 : Rat) < (d : Rat) := Rat.intCast_pos.2 hd
  have e2 : x * ((x.den : Int) : Rat) = ((x.num : Int) : Rat) := by
   obtain ⟨D, hD⟩ : ∃ D, D = (x.den : Int) := ⟨_, rfl⟩
   obtain ⟨M, hM⟩ : ∃ M, M = x.num := ⟨_, rfl⟩
   rw [← hD] at hxr ⊢
   rw [← hM]
   rw [← hD, ← hM, Rat.divInt_eq_div] at e1
   rw [e1]
   exact Rat.div_mul_cancel (Rat.ne_of_gt hxr)
  rw [Rat.divInt_eq_div]
  constructor
  ·rw [Rat.lt_div_iff hdr, ← Rat.mul_lt_mul_right hxr, Rat.mul_assoc, Rat.mul_comm (d : Rat), ← Rat.mul_assoc, e2, ← Rat.intCast_mul, ← Rat.intCast_mul, Rat.intCast_lt_intCast]
  ·rw [Rat.div_lt_iff hdr, ← Rat.mul_lt_mul_right hxr, Rat.mul_assoc x, Rat.mul_comm (d : Rat), ← Rat.mul_assoc, e2, ← Rat.intCast_mul, ← Rat.intCast_mul, Rat.intCast_lt_intCast]
 constructor
 ·rw [(key a _ _ (by omega)).1, Int.mul_add, Int.add_mul]; omega
 ·rw [(key b _ _ (by omega)).2, Int.mul_add, Int.add_mul]; omega
theorem divInt_small (n : Int) (d : Nat) (hd : d ≠ 0) : (Rat.divInt n d).den ≤ d ∧ (Rat.divInt n d).num.natAbs ≤ n.natAbs := by
 obtain ⟨c, hc, h1, h2⟩ : ∃ c : Nat, c ≠ 0 ∧ n = (Rat.divInt n d).num * c ∧ d = (Rat.divInt n d).den * c := by
  have := Rat.normalize_num_den' n d hd
  rw [Rat.normalize_eq_mkRat, ← Rat.divInt_ofNat] at this
  obtain ⟨c, h1, h2, h3⟩ := this
  exact ⟨c, h1, h2, h3⟩
 constructor
 ·conv => rhs; rw [h2]
  exact Nat.le_mul_of_pos_right _ (Nat.pos_of_ne_zero hc)
 ·conv => rhs; rw [h1, Int.natAbs_mul]
  exact Nat.le_mul_of_pos_right _ (by rw [Int.natAbs_natCast]; exact Nat.pos_of_ne_zero hc)
theorem best_bound (a b : Rat) (oa ob : Bool) (q : Rat) (hq : Best a b oa ob q) : q.den ≤ a.den + b.den ∧ q.num.natAbs ≤ a.num.natAbs + b.num.natAbs := by
 have h1 := hq.1.ge
 by_cases h : a < b
 ·obtain ⟨h2, h3⟩ := mediant_in a b h
  have hm := hq.2 _ ⟨.inl h2, .inl h3⟩
  have h4 := divInt_small (a.num + b.num) (a.den + b.den) (by have := a.den_nz; omega)
  push_cast at h4
  obtain ⟨h5, h6⟩ := h4
  have h7 := Int.natAbs_add_le a.num b.num
  omega
 ·have e : a = q := Rat.le_antisymm h1.1 (Rat.le_trans h1.2 (Rat.not_lt.1 h))
  rw [e]
  omega
theorem best_neg (a b : Rat) (oa ob : Bool) (q : Rat) (h : Best (-b) (-a) ob oa q) : Best a b oa ob (-q) := by
 have flip : ∀ (a b : Rat) (oa ob : Bool) (r : Rat), InI a b oa ob r → InI (-b) (-a) ob oa (-r) := by
  intro a b oa ob r h
  constructor
  ·rcases h.2 with h | ⟨h1, h2⟩
   ·exact .inl (Rat.neg_lt_neg h)
   ·exact .inr ⟨h1, by rw [h2]⟩
  ·rcases h.1 with h | ⟨h1, h2⟩
   ·exact .inl (Rat.neg_lt_neg h)
   ·exact .inr ⟨h1, by rw [h2]⟩
 constructor
 ·have := flip _ _ _ _ _ h.1
  rwa [Rat.neg_neg, Rat.neg_neg] at this
 ·intro r hr
  have := h.2 _ (flip _ _ _ _ _ hr)
  rw [Rat.neg_den, Rat.neg_num, Int.natAbs_neg] at this ⊢
  exact this
theorem best_zero (a b : Rat) (oa ob : Bool) (h : InI a b oa ob 0) : Best a b oa ob 0 :=
 ⟨h, fun r _ => ⟨Nat.pos_of_ne_zero r.den_nz, Nat.zero_le _⟩⟩
theorem best_unique (a b : Rat) (oa ob : Bool) (p q : Rat) (h : Best a b oa ob p) (hq : Best a b oa ob q) : p = q := by
 have h1 := h.2 _ hq.1
 have h2 := hq.2 _ h.1
 have hd : p.den = q.den := by omega
 by_cases hn : p.num = q.num
 ·exact Rat.ext hn hd
 ·have hs : p.num = - q.num := by omega
  have hp0 := h.1.ge
  have hq0 := hq.1.ge
  have e : p = -q := Rat.ext (by rw [Rat.neg_num, hs]) (by rw [Rat.neg_den, hd])
  have hz : InI a b oa ob 0 := by
   by_cases hneg : q < 0
   ·have hp : 0 < p := by rw [e]; have := Rat.neg_lt_neg hneg; simpa using this
    exact ⟨.inl (lt_of_le_of_lt' hq0.1 hneg), .inl (lt_of_lt_of_le' hp hp0.2)⟩
   ·have hq1 : q ≠ 0 := by
      intro e0
      rw [e0] at hn e
      rw [e] at hn
      exact hn rfl
    have hq2 : 0 < q := Rat.lt_of_le_of_ne (Rat.not_lt.1 hneg) (fun e2 => hq1 e2.symm)
    have hp : p < 0 := by rw [e]; have := Rat.neg_lt_neg hq2; simpa using this
    exact ⟨.inl (lt_of_le_of_lt' hp0.1 hp), .inl (lt_of_lt_of_le' hq2 hq0.2)⟩
  have z1 := h.2 _ hz
  have z2 := hq.2 _ hz
  have e3 : (0 : Rat).num.natAbs = 0 := rfl
  omega
theorem best_sz (a b : Rat) (oa ob : Bool) (q : Rat) (hq : Best a b oa ob q) (k : Nat) (ha : Sz k a) (hb : Sz k b) : Sz (k + 1) q := by
 obtain ⟨h1, h2⟩ := best_bound a b oa ob q hq
 have e : 256 ^ (k + 1) = 256 ^ k * 256 := by rw [Nat.pow_succ]
 obtain ⟨a1, a2⟩ := ha
 obtain ⟨b1, b2⟩ := hb
 exact ⟨by omega, by omega⟩
end Go.Proofs.YthdaimoankaciaaGreatDoor
