/- The reference's root and Root. -/
import Derived.Test.YthdaimoankaciaaGreatDoorQs
set_option linter.unusedSimpArgs false
set_option linter.unusedVariables false
namespace Go.Proofs.YthdaimoankaciaaGreatDoor
open Go Go.RowKit Go.Sy
open Vi
theorem cmpN_lss {x y : Nat} {b : Bool} (h : decide (x < y) = b) : decide (cmpN x y < 0) = b := by
 rw [← h]; unfold cmpN
 by_cases h1 : x < y
 ·rw [if_pos h1, decide_eq_true h1]; rfl
 ·rw [if_neg h1, decide_eq_false h1]; split <;> rfl
theorem cmpN_leq {x y : Nat} {b : Bool} (h : decide (x ≤ y) = b) : decide (cmpN x y ≤ 0) = b := by
 rw [← h]; unfold cmpN
 by_cases h1 : x < y
 ·have e : decide (x ≤ y) = true := decide_eq_true (by omega)
  rw [if_pos h1, e]; rfl
 ·rw [if_neg h1]
  by_cases h2 : x = y
  ·have e : decide (x ≤ y) = true := decide_eq_true (by omega)
   rw [if_pos h2, e]; rfl
  ·have e : decide (x ≤ y) = false := decide_eq_false (by omega)
   rw [if_neg h2, e]; rfl
theorem cmpN_neq {x y : Nat} {b : Bool} (h : decide (x = y) = b) : (!decide (cmpN x y = 0)) = !b := by
 rw [← h]; unfold cmpN
 by_cases h1 : x < y
 ·have e : decide (x = y) = false := decide_eq_false (by omega)
  rw [if_pos h1, e]; rfl
 ·rw [if_neg h1]
  by_cases h2 : x = y
  ·have e : decide (x = y) = true := decide_eq_true h2
   rw [if_pos h2, e]; rfl
  ·have e : decide (x = y) = false := decide_eq_false h2
   rw [if_neg h2, e]; rfl
def stR (X l h : Nat) : St := ⟨34, 1, [(0, row 1 (nd 256 X)), (3, row 2 (nd 256 l)), (4, row 3 (nd 256 h))], junk, [(1, rws (rD X).1 (rD X).2), (2, rws (rD l).1 (rD l).2), (3, rws (rD h).1 (rD h).2)], 4⟩
def stR1 (r : Nat) : St := ⟨34, 1, [(3, row 1 (nd 256 r))], junk, [(1, rws (rD r).1 (rD r).2)], 2⟩
theorem dPlus1 (x : Nat) (hx : nd 256 x ≤ 4294967296) : Sp Tryz.prog 139 [rD x, (1, [nV 1])] [row 0 (nd 256 x), row 1 1] (row 2 (nd 256 (x + 1))) [rD (x + 1)] := by
 have := dPlus x 1 hx (by rw [nd_small 1 (by omega) (by omega)]; omega)
 rw [nd_small 1 (by omega) (by omega), rD_small 1 (by omega) (by omega)] at this
 exact this
theorem dHalf (x : Nat) (hx : nd 256 x ≤ 1048576) : Sp Tryz.prog 143 [rD x, (1, [nV 2])] [row 0 (nd 256 x), row 1 1] (.tuple #[row 2 (nd 256 (x / 2)), row 3 (nd 256 (x % 2))]) [rD (x / 2), rD (x % 2)] := by
 have := dDivide x 2 (by omega) hx (by rw [nd_small 2 (by omega) (by omega)]; omega)
 rw [nd_small 2 (by omega) (by omega), rD_small 2 (by omega) (by omega)] at this
 exact this
theorem nd_bound {x X : Nat} (h : x ≤ X + 1) : nd 256 x ≤ nd 256 X + 2 := by
 have h1 := nd_mono 256 (by omega) x (X + 1) h
 have h2 := nd_add X 1
 rw [nd_small 1 (by omega) (by omega)] at h2
 omega
theorem root_loop (X : Nat) (hX : nd 256 X ≤ 131000) : ∀ (m l h : Nat), h - l ≤ m → l < h → h ≤ X + 1 → l * l ≤ X → X < h * h →
    ∃ r, IsRt X r ∧ RoundsOk Tryz.prog (nthLoop 0 (Tryz.f159.body.getD .skip)) (stR X l h) (.exit 0) (stR1 r)
 | 0, l, h, hm, hl, _, _, _ => by omega
 | m + 1, l, h, hm, hlh, hhX, h1, h2 => by
  have nl := nd_bound (x := l) (X := X) (by omega)
  have nh := nd_bound hhX
  have nl1 := nd_bound (x := l + 1) (X := X) (by omega)
  have P1 := dPlus1 l (by omega)
  have C1 := dCompare (l + 1) h (by omega) (by omega)
  by_cases hd : l + 1 < h
  ·have e1 := cmpN_lss (x := l + 1) (y := h) (b := true) (decide_eq_true hd)
   have P2 := dPlus l h (by omega) (by omega)
   have n2 := nd_add l h
   have D := dHalf (l + h) (by omega)
   have hmid : (l + h) / 2 < h := by omega
   have hmid2 : l < (l + h) / 2 := by omega
   have nm := nd_bound (x := (l + h) / 2) (X := X) (by omega)
   generalize (l + h) / 2 = M at *
   generalize (l + h) % 2 = R at *
   have T := dTimes M M (by omega) (by omega)
   have nt := nd_mul M M
   have C2 := dCompare (M * M) X (by omega) (by omega)
   by_cases hle : M * M ≤ X
   ·have e2 := cmpN_leq (x := M * M) (y := X) (b := true) (decide_eq_true hle)
    obtain ⟨r, hr, ih⟩ := root_loop X hX m M h (by omega) hmid hhX hle h2
    generalize M * M = MM at *
    generalize l + h = S2 at *
    generalize l + 1 = l1 at *
    exact ⟨r, hr, .more (piece [(1, 1), (2, 8), (3, 3)] [cr P1, cr C1, eb e1, cr P2, cr D, cr T, cr C2, eb e2] fol (by kernel_rfl)) ih⟩
   ·have e2 := cmpN_leq (x := M * M) (y := X) (b := false) (decide_eq_false hle)
    obtain ⟨r, hr, ih⟩ := root_loop X hX m l M (by omega) hmid2 (by omega) h1 (by omega)
    generalize M * M = MM at *
    generalize l + h = S2 at *
    generalize l + 1 = l1 at *
    exact ⟨r, hr, .more (piece [(1, 1), (2, 2), (3, 8)] [cr P1, cr C1, eb e1, cr P2, cr D, cr T, cr C2, eb e2] fol (by kernel_rfl)) ih⟩
  ·have e1 := cmpN_lss (x := l + 1) (y := h) (b := false) (decide_eq_false hd)
   have : h = l + 1 := by omega
   subst this
   exact ⟨l, ⟨h1, h2⟩, .out (by simp) (piece [(1, 2)] [cr P1, cr C1, eb e1] fol (by kernel_rfl))⟩
theorem rD_zero : rD 0 = (0, []) := by unfold rD; rw [nd_zero]; rfl
theorem dRoot (X : Nat) (hX : nd 256 X ≤ 131000) : ∃ r, IsRt X r ∧ Sp Tryz.prog 159 [rD X] [row 0 (nd 256 X)] (row 1 (nd 256 r)) [rD r] := by
 have e : (X + 1) * (X + 1) = X * X + 2 * X + 1 := by grind
 obtain ⟨r, hr, hl⟩ := root_loop X hX (X + 1) 0 (X + 1) (by omega) (by omega) (Nat.le_refl _) (by omega) (by omega)
 have hl := hl.loop
 have P := dPlus1 X (by omega)
 unfold stR at hl
 rw [rD_zero, nd_zero] at hl
 generalize X + 1 = X1 at *
 exact ⟨r, hr, walk (code := Tryz.f159.body.getD .skip) [cr P, lp [(1, 0), (2, 1), (3, 3)] hl] fol Tryz.func159 (by kernel_rfl) (fun xs w => Tryz.call159 xs w) (by kernel_rfl)⟩
theorem rRoot (p : Rat) (hp : Fits p) : (∃ q : Rat, 0 ≤ q ∧ q * q = p ∧ Sp Tryz.prog 120 [] [rV p] (.tuple #[rV q, .bool true]) []) ∨ ((∀ q : Rat, q * q ≠ p) ∧ Sp Tryz.prog 120 [] [rV p] (.tuple #[rZ, .bool false]) []) := by
 have p1 := hp.1
 have p2 := hp.2
 have hO := fOf p hp
 obtain ⟨n, hn, R1⟩ := dRoot p.num.natAbs p1
 obtain ⟨d, hd, R2⟩ := dRoot p.den p2
 have hd0 : 0 < p.den := by have := p.den_nz; omega
 have n1 := Nat.le_mul_self n
 have n2 := Nat.le_mul_self d
 have zn := nd_mono 256 (by omega) n p.num.natAbs (by have := hn.1; omega)
 have zd := nd_mono 256 (by omega) d p.den (by have := hd.1; omega)
 have T1 := dTimes n n (by omega) (by omega)
 have T2 := dTimes d d (by omega) (by omega)
 have m1 := nd_mono 256 (by omega) (n * n) p.num.natAbs hn.1
 have m2 := nd_mono 256 (by omega) (d * d) p.den hd.1
 have C1 := dCompare (n * n) p.num.natAbs (by omega) (by omega)
 have C2 := dCompare (d * d) p.den (by omega) (by omega)
 have isq : ∀ X r s : Nat, IsRt X r → s * s = X → r * r = X := by
  intro X r s ⟨h1, h2⟩ h3
  have : r = s := by
   apply Nat.le_antisymm
   ·apply Nat.le_of_not_lt; intro h
    have := Nat.mul_le_mul (show s + 1 ≤ r by omega) (show s + 1 ≤ r by omega)
    have e : (s + 1) * (s + 1) = s * s + 2 * s + 1 := by grind
    omega
   ·apply Nat.le_of_not_lt; intro h
    have := Nat.mul_le_mul (show r + 1 ≤ s by omega) (show r + 1 ≤ s by omega)
    omega
  rw [this, h3]
 have parts : ∀ q : Rat, q * q = p → q.num * q.num = p.num ∧ q.den * q.den = p.den := by
  intro q hq
  obtain ⟨e1, e2⟩ := sq_parts q
  rw [hq] at e1 e2
  exact ⟨e1.symm, e2.symm⟩
 cases hs : sg p.num
 ·have hnn : 0 ≤ p.num := by unfold sg at hs; simpa using hs
  rw [hs] at hO
  by_cases h1 : n * n = p.num.natAbs
  ·have e1 := cmpN_neq (x := n * n) (y := p.num.natAbs) (b := true) (decide_eq_true h1)
   by_cases h2 : d * d = p.den
   ·have e2 := cmpN_neq (x := d * d) (y := p.den) (b := true) (decide_eq_true h2)
    have dp : 0 < d := by
     rcases Nat.eq_zero_or_pos d with h | h
     ·rw [h] at h2; omega
     ·exact h
    have hC := fCan false n d dp (by omega) (by omega)
    left
    refine ⟨Rat.divInt (n : Int) (d : Int), Rat.divInt_nonneg (by omega) (by omega), ?_, ?_⟩
    ·rw [Rat.divInt_mul_divInt, show (n : Int) * n = p.num by rw [← Int.natCast_mul, h1]; omega, show (d : Int) * d = (p.den : Int) by rw [← Int.natCast_mul, h2]]
     exact Rat.num_divInt_den p
    ·have hC : Sp Tryz.prog 131 [rD n, rD d] [fV false n d] (rV (Rat.divInt (n : Int) (d : Int))) [] := hC
     generalize Rat.divInt (n : Int) (d : Int) = q at *
     generalize n * n = nn at *
     generalize d * d = dd at *
     generalize p.num.natAbs = X at *
     generalize p.den = Y at *
     exact walk (code := Tryz.f120.body.getD .skip) [cr hO, cr R1, cr R2, cr T1, cr C1, eb e1, cr T2, cr C2, eb e2, cr hC] fol Tryz.func120 (by kernel_rfl) (fun xs w => Tryz.call120 xs w) (by kernel_rfl)
   ·right
    refine ⟨fun q hq => h2 (isq p.den d q.den hd (parts q hq).2), ?_⟩
    have e2 := cmpN_neq (x := d * d) (y := p.den) (b := false) (decide_eq_false h2)
    generalize n * n = nn at *
    generalize d * d = dd at *
    generalize p.num.natAbs = X at *
    generalize p.den = Y at *
    exact walk (code := Tryz.f120.body.getD .skip) [cr hO, cr R1, cr R2, cr T1, cr C1, eb e1, cr T2, cr C2, eb e2] fol Tryz.func120 (by kernel_rfl) (fun xs w => Tryz.call120 xs w) (by kernel_rfl)
  ·right
   refine ⟨fun q hq => h1 (isq p.num.natAbs n q.num.natAbs hn ?_), ?_⟩
   ·rw [← (parts q hq).1, Int.natAbs_mul]
   ·have e1 := cmpN_neq (x := n * n) (y := p.num.natAbs) (b := false) (decide_eq_false h1)
    generalize n * n = nn at *
    generalize d * d = dd at *
    generalize p.num.natAbs = X at *
    generalize p.den = Y at *
    exact walk (code := Tryz.f120.body.getD .skip) [cr hO, cr R1, cr R2, cr T1, cr C1, eb e1] fol Tryz.func120 (by kernel_rfl) (fun xs w => Tryz.call120 xs w) (by kernel_rfl)
 ·right
  rw [hs] at hO
  refine ⟨fun q hq => ?_, ?_⟩
  ·have h1 := (parts q hq).1
   have h2 : p.num < 0 := by unfold sg at hs; simpa using hs
   have h3 : 0 ≤ q.num * q.num := by
    rcases Int.le_total 0 q.num with h0 | h0
    ·exact Int.mul_nonneg h0 h0
    ·exact Int.mul_nonneg_of_nonpos_of_nonpos h0 h0
   omega
  ·generalize p.num.natAbs = X at *
   generalize p.den = Y at *
   exact walk (code := Tryz.f120.body.getD .skip) [cr hO, cr R1, cr R2] fol Tryz.func120 (by kernel_rfl) (fun xs w => Tryz.call120 xs w) (by kernel_rfl)
theorem sq_unique {p q : Rat} (hp : 0 ≤ p) (hq : 0 ≤ q) (h : p * p = q * q) : p = q := by
 obtain ⟨a1, a2⟩ := sq_parts p
 obtain ⟨b1, b2⟩ := sq_parts q
 rw [h] at a1 a2
 have u : ∀ x y : Nat, x * x = y * y → x = y := fun x y e => by
  apply Nat.le_antisymm
  ·apply Nat.le_of_not_lt; intro h
   have := Nat.mul_le_mul (show y + 1 ≤ x by omega) (show y + 1 ≤ x by omega)
   have e : (y + 1) * (y + 1) = y * y + 2 * y + 1 := by grind
   omega
  ·apply Nat.le_of_not_lt; intro h
   have := Nat.mul_le_mul (show x + 1 ≤ y by omega) (show x + 1 ≤ y by omega)
   have e : (x + 1) * (x + 1) = x * x + 2 * x + 1 := by grind
   omega
 have hn := Rat.num_nonneg.2 hp
 have hm := Rat.num_nonneg.2 hq
 have e1 : p.num.natAbs = q.num.natAbs := u _ _ (by rw [← Int.natAbs_mul, ← Int.natAbs_mul, ← a1, ← b1])
 exact Rat.ext (by omega) (u _ _ (by rw [← a2, ← b2]))
end Go.Proofs.YthdaimoankaciaaGreatDoor
