/- Part 9 of the proof; what it holds is said text by text. -/
import Derived.Test.YthdaimoankaciaaGreatDoorRqG
import Derived.Test.YthdaimoankaciaaGreatDoorRqH
import Derived.Shelf.Small.Wraps
import Derived.Shelf.LaysM
import Derived.Shelf.Strings.Shaped
import Derived.Test.YthdaimoankaciaaGreatDoorProg
import Derived.Test.YthdaimoankaciaaGreatDoorRqC
section
/- The reference's root and Root. -/
set_option linter.unusedSimpArgs false
set_option linter.unusedVariables false
namespace Go.Proofs.YthdaimoankaciaaGreatDoor
open Go Go.RowKit Go.Sy
open Vi
theorem cmpN_lss {x y : Nat} {b : Bool} (h : decide (x < y) = b) : decide (cmpN x y < 0) = b := by
 rw [← h]; unfold cmpN
 by_cases h1 : x < y
 ·rw [if_pos h1, decide_eq_true h1]; rfl
 ·rw [if_neg h1, decide_eq_false h1]; split <;> rfl
theorem cmpN_leq {x y : Nat} {b : Bool} (h : decide (x ≤ y) = b) : decide (cmpN x y ≤ 0) = b := by
 rw [← h]; unfold cmpN
 by_cases h1 : x < y
 ·have e : decide (x ≤ y) = true := decide_eq_true (by omega)
  rw [if_pos h1, e]; rfl
 ·rw [if_neg h1]
  by_cases h2 : x = y
  ·have e : decide (x ≤ y) = true := decide_eq_true (by omega)
   rw [if_pos h2, e]; rfl
  ·have e : decide (x ≤ y) = false := decide_eq_false (by omega)
   rw [if_neg h2, e]; rfl
theorem cmpN_neq {x y : Nat} {b : Bool} (h : decide (x = y) = b) : (!decide (cmpN x y = 0)) = !b := by
 rw [← h]; unfold cmpN
 by_cases h1 : x < y
 ·have e : decide (x = y) = false := decide_eq_false (by omega)
  rw [if_pos h1, e]; rfl
 ·rw [if_neg h1]
  by_cases h2 : x = y
  ·have e : decide (x = y) = true := decide_eq_true h2
   rw [if_pos h2, e]; rfl
  ·have e : decide (x = y) = false := decide_eq_false h2
   rw [if_neg h2, e]; rfl
def stR (X l h : Nat) : St := ⟨34, 1, [(0, row 1 (nd 256 X)), (3, row 2 (nd 256 l)), (4, row 3 (nd 256 h))], junk, [(1, rws (rD X).1 (rD X).2), (2, rws (rD l).1 (rD l).2), (3, rws (rD h).1 (rD h).2)], 4⟩
def stR1 (r : Nat) : St := ⟨34, 1, [(3, row 1 (nd 256 r))], junk, [(1, rws (rD r).1 (rD r).2)], 2⟩
theorem dPlus1 (x : Nat) (hx : nd 256 x ≤ 4294967296) : Sp Tryz.prog 139 [rD x, (1, [nV 1])] [row 0 (nd 256 x), row 1 1] (row 2 (nd 256 (x + 1))) [rD (x + 1)] := by
 have := dPlus x 1 hx (by rw [nd_small 1 (by omega) (by omega)]; omega)
 rw [nd_small 1 (by omega) (by omega), rD_small 1 (by omega) (by omega)] at this
 exact this
theorem dHalf (x : Nat) (hx : nd 256 x ≤ 1048576) : Sp Tryz.prog 143 [rD x, (1, [nV 2])] [row 0 (nd 256 x), row 1 1] (.tuple #[row 2 (nd 256 (x / 2)), row 3 (nd 256 (x % 2))]) [rD (x / 2), rD (x % 2)] := by
 have := dDivide x 2 (by omega) hx (by rw [nd_small 2 (by omega) (by omega)]; omega)
 rw [nd_small 2 (by omega) (by omega), rD_small 2 (by omega) (by omega)] at this
 exact this
theorem nd_bound {x X : Nat} (h : x ≤ X + 1) : nd 256 x ≤ nd 256 X + 2 := by
 have h1 := nd_mono 256 (by omega) x (X + 1) h
 have h2 := nd_add X 1
 rw [nd_small 1 (by omega) (by omega)] at h2
 omega
theorem root_loop (X : Nat) (hX : nd 256 X ≤ 131000) : ∀ (m l h : Nat), h - l ≤ m → l < h → h ≤ X + 1 → l * l ≤ X → X < h * h →
    ∃ r, IsRt X r ∧ RoundsOk Tryz.prog (nthLoop 0 (Tryz.f159.body.getD .skip)) (stR X l h) (.exit 0) (stR1 r)
 | 0, l, h, hm, hl, _, _, _ => by omega
 | m + 1, l, h, hm, hlh, hhX, h1, h2 => by
  have nl := nd_bound (x := l) (X := X) (by omega)
  have nh := nd_bound hhX
  have nl1 := nd_bound (x := l + 1) (X := X) (by omega)
  have P1 := dPlus1 l (by omega)
  have C1 := dCompare (l + 1) h (by omega) (by omega)
  by_cases hd : l + 1 < h
  ·have e1 := cmpN_lss (x := l + 1) (y := h) (b := true) (decide_eq_true hd)
   have P2 := dPlus l h (by omega) (by omega)
   have n2 := nd_add l h
   have D := dHalf (l + h) (by omega)
   have hmid : (l + h) / 2 < h := by omega
   have hmid2 : l < (l + h) / 2 := by omega
   have nm := nd_bound (x := (l + h) / 2) (X := X) (by omega)
   generalize (l + h) / 2 = M at *
   generalize (l + h) % 2 = R at *
   have T := dTimes M M (by omega) (by omega)
   have nt := nd_mul M M
   have C2 := dCompare (M * M) X (by omega) (by omega)
   by_cases hle : M * M ≤ X
   ·have e2 := cmpN_leq (x := M * M) (y := X) (b := true) (decide_eq_true hle)
    obtain ⟨r, hr, ih⟩ := root_loop X hX m M h (by omega) hmid hhX hle h2
    generalize M * M = MM at *
    generalize l + h = S2 at *
    generalize l + 1 = l1 at *
    exact ⟨r, hr, .more (piece [(1, 1), (2, 8), (3, 3)] [cr P1, cr C1, eb e1, cr P2, cr D, cr T, cr C2, eb e2] fol (by kernel_rfl)) ih⟩
   ·have e2 := cmpN_leq (x := M * M) (y := X) (b := false) (decide_eq_false hle)
    obtain ⟨r, hr, ih⟩ := root_loop X hX m l M (by omega) hmid2 (by omega) h1 (by omega)
    generalize M * M = MM at *
    generalize l + h = S2 at *
    generalize l + 1 = l1 at *
    exact ⟨r, hr, .more (piece [(1, 1), (2, 2), (3, 8)] [cr P1, cr C1, eb e1, cr P2, cr D, cr T, cr C2, eb e2] fol (by kernel_rfl)) ih⟩
  ·have e1 := cmpN_lss (x := l + 1) (y := h) (b := false) (decide_eq_false hd)
   have : h = l + 1 := by omega
   subst this
   exact ⟨l, ⟨h1, h2⟩, .out (by simp) (piece [(1, 2)] [cr P1, cr C1, eb e1] fol (by kernel_rfl))⟩
theorem rD_zero : rD 0 = (0, []) := by unfold rD; rw [nd_zero]; rfl
theorem dRoot (X : Nat) (hX : nd 256 X ≤ 131000) : ∃ r, IsRt X r ∧ Sp Tryz.prog 159 [rD X] [row 0 (nd 256 X)] (row 1 (nd 256 r)) [rD r] := by
 have e : (X + 1) * (X + 1) = X * X + 2 * X + 1 := by grind
 obtain ⟨r, hr, hl⟩ := root_loop X hX (X + 1) 0 (X + 1) (by omega) (by omega) (Nat.le_refl _) (by omega) (by omega)
 have hl := hl.loop
 have P := dPlus1 X (by omega)
 unfold stR at hl
 rw [rD_zero, nd_zero] at hl
 generalize X + 1 = X1 at *
 exact ⟨r, hr, walk (code := Tryz.f159.body.getD .skip) [cr P, lp [(1, 0), (2, 1), (3, 3)] hl] fol Tryz.func159 (by kernel_rfl) (fun xs w => Tryz.call159 xs w) (by kernel_rfl)⟩
theorem rRoot (p : Rat) (hp : Fits p) : (∃ q : Rat, 0 ≤ q ∧ q * q = p ∧ Sp Tryz.prog 120 [] [rV p] (.tuple #[rV q, .bool true]) []) ∨ ((∀ q : Rat, q * q ≠ p) ∧ Sp Tryz.prog 120 [] [rV p] (.tuple #[rZ, .bool false]) []) := by
 have p1 := hp.1
 have p2 := hp.2
 have hO := fOf p hp
 obtain ⟨n, hn, R1⟩ := dRoot p.num.natAbs p1
 obtain ⟨d, hd, R2⟩ := dRoot p.den p2
 have hd0 : 0 < p.den := by have := p.den_nz; omega
 have n1 := Nat.le_mul_self n
 have n2 := Nat.le_mul_self d
 have zn := nd_mono 256 (by omega) n p.num.natAbs (by have := hn.1; omega)
 have zd := nd_mono 256 (by omega) d p.den (by have := hd.1; omega)
 have T1 := dTimes n n (by omega) (by omega)
 have T2 := dTimes d d (by omega) (by omega)
 have m1 := nd_mono 256 (by omega) (n * n) p.num.natAbs hn.1
 have m2 := nd_mono 256 (by omega) (d * d) p.den hd.1
 have C1 := dCompare (n * n) p.num.natAbs (by omega) (by omega)
 have C2 := dCompare (d * d) p.den (by omega) (by omega)
 have isq : ∀ X r s : Nat, IsRt X r → s * s = X → r * r = X := by
  intro X r s ⟨h1, h2⟩ h3
  have : r = s := by
   apply Nat.le_antisymm
   ·apply Nat.le_of_not_lt; intro h
    have := Nat.mul_le_mul (show s + 1 ≤ r by omega) (show s + 1 ≤ r by omega)
    have e : (s + 1) * (s + 1) = s * s + 2 * s + 1 := by grind
    omega
   ·apply Nat.le_of_not_lt; intro h
    have := Nat.mul_le_mul (show r + 1 ≤ s by omega) (show r + 1 ≤ s by omega)
    omega
  rw [this, h3]
 have parts : ∀ q : Rat, q * q = p → q.num * q.num = p.num ∧ q.den * q.den = p.den := by
  intro q hq
  obtain ⟨e1, e2⟩ := sq_parts q
  rw [hq] at e1 e2
  exact ⟨e1.symm, e2.symm⟩
 cases hs : sg p.num
 ·have hnn : 0 ≤ p.num := by unfold sg at hs; simpa using hs
  rw [hs] at hO
  by_cases h1 : n * n = p.num.natAbs
  ·have e1 := cmpN_neq (x := n * n) (y := p.num.natAbs) (b := true) (decide_eq_true h1)
   by_cases h2 : d * d = p.den
   ·have e2 := cmpN_neq (x := d * d) (y := p.den) (b := true) (decide_eq_true h2)
    have dp : 0 < d := by
     rcases Nat.eq_zero_or_pos d with h | h
     ·rw [h] at h2; omega
     ·exact h
    have hC := fCan false n d dp (by omega) (by omega)
    left
    refine ⟨Rat.divInt (n : Int) (d : Int), Rat.divInt_nonneg (by omega) (by omega), ?_, ?_⟩
    ·rw [Rat.divInt_mul_divInt, show (n : Int) * n = p.num by rw [← Int.natCast_mul, h1]; omega, show (d : Int) * d = (p.den : Int) by rw [← Int.natCast_mul, h2]]
     exact Rat.num_divInt_den p
    ·have hC : Sp Tryz.prog 131 [rD n, rD d] [fV false n d] (rV (Rat.divInt (n : Int) (d : Int))) [] := hC
     generalize Rat.divInt (n : Int) (d : Int) = q at *
     generalize n * n = nn at *
     generalize d * d = dd at *
     generalize p.num.natAbs = X at *
     generalize p.den = Y at *
     exact walk (code := Tryz.f120.body.getD .skip) [cr hO, cr R1, cr R2, cr T1, cr C1, eb e1, cr T2, cr C2, eb e2, cr hC] fol Tryz.func120 (by kernel_rfl) (fun xs w => Tryz.call120 xs w) (by kernel_rfl)
   ·right
    refine ⟨fun q hq => h2 (isq p.den d q.den hd (parts q hq).2), ?_⟩
    have e2 := cmpN_neq (x := d * d) (y := p.den) (b := false) (decide_eq_false h2)
    generalize n * n = nn at *
    generalize d * d = dd at *
    generalize p.num.natAbs = X at *
    generalize p.den = Y at *
    exact walk (code := Tryz.f120.body.getD .skip) [cr hO, cr R1, cr R2, cr T1, cr C1, eb e1, cr T2, cr C2, eb e2] fol Tryz.func120 (by kernel_rfl) (fun xs w => Tryz.call120 xs w) (by kernel_rfl)
  ·right
   refine ⟨fun q hq => h1 (isq p.num.natAbs n q.num.natAbs hn ?_), ?_⟩
   ·rw [← (parts q hq).1, Int.natAbs_mul]
   ·have e1 := cmpN_neq (x := n * n) (y := p.num.natAbs) (b := false) (decide_eq_false h1)
    generalize n * n = nn at *
    generalize d * d = dd at *
    generalize p.num.natAbs = X at *
    generalize p.den = Y at *
    exact walk (code := Tryz.f120.body.getD .skip) [cr hO, cr R1, cr R2, cr T1, cr C1, eb e1] fol Tryz.func120 (by kernel_rfl) (fun xs w => Tryz.call120 xs w) (by kernel_rfl)
 ·right
  rw [hs] at hO
  refine ⟨fun q hq => ?_, ?_⟩
  ·have h1 := (parts q hq).1
   have h2 : p.num < 0 := by unfold sg at hs; simpa using hs
   have h3 : 0 ≤ q.num * q.num := by
    rcases Int.le_total 0 q.num with h0 | h0
    ·exact Int.mul_nonneg h0 h0
    ·exact Int.mul_nonneg_of_nonpos_of_nonpos h0 h0
   omega
  ·generalize p.num.natAbs = X at *
   generalize p.den = Y at *
   exact walk (code := Tryz.f120.body.getD .skip) [cr hO, cr R1, cr R2] fol Tryz.func120 (by kernel_rfl) (fun xs w => Tryz.call120 xs w) (by kernel_rfl)
end Go.Proofs.YthdaimoankaciaaGreatDoor

end
section
/- No program in sight: bounds of sums, products, squares and quotients. -/
set_option linter.unusedSimpArgs false
set_option linter.unusedVariables false
namespace Vi
end Vi
set_option linter.unusedSimpArgs false
set_option linter.unusedVariables false
namespace Go.Proofs.YthdaimoankaciaaGreatDoor
open Go Go.RowKit Go.Sy
open Vi
end Go.Proofs.YthdaimoankaciaaGreatDoor
set_option linter.unusedSimpArgs false
set_option linter.unusedVariables false
namespace Go.Proofs.YthdaimoankaciaaGreatDoor
open Go Go.RowKit Go.Sy
open Vi
end Go.Proofs.YthdaimoankaciaaGreatDoor
set_option linter.unusedSimpArgs false
set_option linter.unusedVariables false
namespace Go.Proofs.YthdaimoankaciaaGreatDoor
open Go Go.RowKit Go.Sy
open Vi
end Go.Proofs.YthdaimoankaciaaGreatDoor
set_option linter.unusedSimpArgs false
set_option linter.unusedVariables false
namespace Go.Proofs.YthdaimoankaciaaGreatDoor
open Go Go.RowKit Go.Sy
open Vi
end Go.Proofs.YthdaimoankaciaaGreatDoor

end
section
/- The program's numbers with a root: signs, comparison, moves. -/
set_option linter.unusedSimpArgs false
set_option linter.unusedVariables false
namespace Go.Proofs.YthdaimoankaciaaGreatDoor
open Go Go.RowKit Go.Sy
open Vi
def rlV (x : Rl) : Value := .agg #[.bool (sg x.p.num), .string (mg x.p.num), .bool (sg (dn x.p)), .string (mg (dn x.p)), .bool (sg x.r.num), .string (mg x.r.num), .bool (sg (dn x.r)), .string (mg (dn x.r)), .bool x.neg]
theorem sgQ_in (a : Rat) : -1 ≤ sgQ a ∧ sgQ a ≤ 1 := by rcases sgQ_cases a with ⟨h, _⟩ | ⟨h, _⟩ | ⟨h, _⟩ <;> rw [h] <;> omega
theorem sgR_in (a : RR) : -1 ≤ sgR a ∧ sgR a ≤ 1 := by rcases RR.sg_cases a with ⟨h, _⟩ | ⟨h, _⟩ | ⟨h, _⟩ <;> rw [h] <;> omega
theorem mul_in1 {a b : Int} (ha : -1 ≤ a ∧ a ≤ 1) (hb : -1 ≤ b ∧ b ≤ 1) : -1 ≤ a * b ∧ a * b ≤ 1 := by
 rcases (by omega : a = -1 ∨ a = 0 ∨ a = 1) with h | h | h <;> subst h <;> omega
theorem pSgn (p : Rat) : Sp Tryz.prog 86 [] [rV p] (nV (sgQ p)) [] := by
 have := pSign p
 rwa [cmpI_sg] at this
theorem pCmp (p q : Rat) (hp : Fits p) (hq : Fits q) : Sp Tryz.prog 123 [] [rV p, rV q] (nV (sgQ (p - q))) [] := by
 have := pCompare p q hp hq
 rwa [cmpQ_sg] at this
theorem qSign (a b r : Rat) (k : Nat) (hk : k ≤ 20000) [HasSz a k] [HasSz b k] [HasSz r k] : Sp Tryz.prog 94 [] [rV a, rV b, rV r] (nV (signF a b r)) [] := by
 have S1 := pSgn a
 have S2 := pSgn b
 have S3 := pSgn r
 have A := pMul a a fz fz
 have B := pMul b b fz fz
 have C := pMul (b * b) r fz fz
 have D := pCmp (a * a) (b * b * r) fz fz
 have b1 := sgQ_in a
 have b2 := mul_in1 (sgQ_in b) (sgQ_in r)
 have b3 := sgQ_in (a * a - b * b * r)
 have b4 := mul_in1 b1 b3
 obtain ⟨n, hn⟩ : ∃ n, n = sgQ b * sgQ r := ⟨_, rfl⟩
 obtain ⟨v, hv⟩ : ∃ v, v = sgQ a * sgQ (a * a - b * b * r) := ⟨_, rfl⟩
 have w1 : IntKind.i64.wrap (sgQ b * sgQ r) = n := by rw [hn]; exact w64 (by omega) (by omega)
 have w2 : IntKind.i64.wrap (sgQ a * sgQ (a * a - b * b * r)) = v := by rw [hv]; exact w64 (by omega) (by omega)
 unfold signF
 rw [← hn, ← hv]
 clear hn hv b1 b2 b3 b4
 generalize a * a - b * b * r = f at *
 generalize b * b * r = g at *
 generalize b * b = h at *
 generalize a * a = i at *
 generalize sgQ f = j at *
 generalize sgQ a = m at *
 generalize sgQ b = u1 at *
 generalize sgQ r = u2 at *
 by_cases h1 : n = 0
 ·rw [if_pos (.inl h1)]
  have e1 : decide (n = 0) = true := decide_eq_true h1
  clear h1
  exact walk (code := Tryz.f94.body.getD .skip) [c S1, c S2, c S3, Go.Sy.e (congrArg (Value.int IntKind.i64) w1), eb e1] fol Tryz.func94 (by kernel_rfl) (fun xs w => Tryz.call94 xs w) (by kernel_rfl)
 ·have e1 : decide (n = 0) = false := decide_eq_false h1
  by_cases h2 : m = n
  ·rw [if_pos (.inr h2)]
   have e2 : decide (m = n) = true := decide_eq_true h2
   clear h1 h2
   exact walk (code := Tryz.f94.body.getD .skip) [c S1, c S2, c S3, Go.Sy.e (congrArg (Value.int IntKind.i64) w1), eb e1, eb e2] fol Tryz.func94 (by kernel_rfl) (fun xs w => Tryz.call94 xs w) (by kernel_rfl)
  ·rw [if_neg (by rintro (h | h) <;> contradiction)]
   have e2 : decide (m = n) = false := decide_eq_false h2
   by_cases h3 : m = 0
   ·rw [if_pos h3]
    have e3 : decide (m = 0) = true := decide_eq_true h3
    clear h1 h2 h3
    exact walk (code := Tryz.f94.body.getD .skip) [c S1, c S2, c S3, Go.Sy.e (congrArg (Value.int IntKind.i64) w1), eb e1, eb e2, eb e3] fol Tryz.func94 (by kernel_rfl) (fun xs w => Tryz.call94 xs w) (by kernel_rfl)
   ·rw [if_neg h3]
    have e3 : decide (m = 0) = false := decide_eq_false h3
    clear h1 h2 h3
    exact walk (code := Tryz.f94.body.getD .skip) [c S1, c S2, c S3, Go.Sy.e (congrArg (Value.int IntKind.i64) w1), eb e1, eb e2, eb e3, c A, c B, c C, c D, Go.Sy.e (congrArg (Value.int IntKind.i64) w2)] fol Tryz.func94 (by kernel_rfl) (fun xs w => Tryz.call94 xs w) (by kernel_rfl)
theorem qFactor (x : Rl) : Sp Tryz.prog 93 [] [rlV x] (rV x.s) [] := by
 have F1 := pI (-1) (by omega) (by omega)
 have F2 := pI 1 (by omega) (by omega)
 obtain ⟨p, r, neg⟩ := x
 unfold Rl.s
 cases neg
 ·exact walk (code := Tryz.f93.body.getD .skip) [c F2] fol Tryz.func93 (by kernel_rfl) (fun xs w => Tryz.call93 xs w) (by kernel_rfl)
 ·exact walk (code := Tryz.f93.body.getD .skip) [c F1] fol Tryz.func93 (by kernel_rfl) (fun xs w => Tryz.call93 xs w) (by kernel_rfl)
theorem qFromRat (q : Rat) : Sp Tryz.prog 68 [] [rV q] (rlV (Rl.rat q)) [] := by
 have z := rV0
 unfold Rl.rat rlV
 rw [show (0 : Rat).num = 0 from rfl, show dn 0 = 0 from rfl, sg0, mg0]
 exact walk (code := Tryz.f68.body.getD .skip) [] fol Tryz.func68 (by kernel_rfl) (fun xs w => Tryz.call68 xs w) (by kernel_rfl)
theorem qShift (x : Rl) (q : Rat) (hx : Fits x.p) (hq : Fits q) : Sp Tryz.prog 30 [] [rlV x, rV q] (rlV ⟨x.p + q, x.r, x.neg⟩) [] := by
 obtain ⟨p, r, neg⟩ := x
 dsimp only at *
 exact walk (code := Tryz.f30.body.getD .skip) [c (pAdd p q hx hq)] fol Tryz.func30 (by kernel_rfl) (fun xs w => Tryz.call30 xs w) (by kernel_rfl)
instance (x : Rl) : HasSz x.s 1 := by
 unfold Rl.s
 split
 ·exact (inferInstance : HasSz (-(1 : Rat)) 1)
 ·exact (inferInstance : HasSz (1 : Rat) 1)
theorem qCompare (x y : Rl) (k : Nat) (hk : k ≤ 3000) (hk1 : 1 ≤ k) [HasSz x.p k] [HasSz x.r k] [HasSz y.p k] [HasSz y.r k] (hx : 0 ≤ x.r) (hy : 0 ≤ y.r) : Sp Tryz.prog 26 [] [rlV x, rlV y] (nV (Rl.cmp x y)) [] := by
 rw [← Rl.cmpF_eq x y hx hy]
 have D := pSub x.p y.p fz fz
 have F1 := qFactor x
 have F2 := qFactor y
 have N := pNeg y.s
 haveI i1 : HasSz x.r (k + k + 1) := hs_mono ‹HasSz x.r k› (by omega)
 haveI i2 : HasSz x.s (k + k + 1) := hs_mono (inferInstance : HasSz x.s 1) (by omega)
 have S1 := qSign (x.p - y.p) x.s x.r (k + k + 1) (by omega)
 have S2 := pSgn (-y.s)
 have S3 := pSgn y.r
 clear i1 i2
 have A := pMul (x.p - y.p) (x.p - y.p) fz fz
 have B := pAdd ((x.p - y.p) * (x.p - y.p)) x.r fz fz
 have C := pSub ((x.p - y.p) * (x.p - y.p) + x.r) y.r fz fz
 have T := pI 2 (by omega) (by omega)
 have E := pMul (x.p - y.p) x.s fz fz
 have G := pMul 2 ((x.p - y.p) * x.s) fz fz
 haveI i1 : HasSz ((x.p - y.p) * (x.p - y.p) + x.r - y.r) (6 * k + 6) := hs_mono inferInstance (show k + k + 1 + (k + k + 1) + k + 1 + k + 1 ≤ _ by omega)
 haveI i2 : HasSz (2 * ((x.p - y.p) * x.s)) (6 * k + 6) := hs_mono inferInstance (show 1 + (k + k + 1 + 1) ≤ _ by omega)
 haveI i3 : HasSz x.r (6 * k + 6) := hs_mono ‹HasSz x.r k› (by omega)
 have S4 := qSign ((x.p - y.p) * (x.p - y.p) + x.r - y.r) (2 * ((x.p - y.p) * x.s)) x.r (6 * k + 6) (by omega)
 clear i1 i2 i3
 have b1 : -1 ≤ signF (x.p - y.p) x.s x.r ∧ signF (x.p - y.p) x.s x.r ≤ 1 := by rw [signF_eq _ _ _ hx]; exact sgR_in _
 have b2 := mul_in1 (sgQ_in (-y.s)) (sgQ_in y.r)
 have b3 : -1 ≤ signF ((x.p - y.p) * (x.p - y.p) + x.r - y.r) (2 * ((x.p - y.p) * x.s)) x.r ∧ signF ((x.p - y.p) * (x.p - y.p) + x.r - y.r) (2 * ((x.p - y.p) * x.s)) x.r ≤ 1 := by rw [signF_eq _ _ _ hx]; exact sgR_in _
 have b4 := mul_in1 b1 b3
 obtain ⟨n, hn⟩ : ∃ n, n = sgQ (-y.s) * sgQ y.r := ⟨_, rfl⟩
 obtain ⟨v, hv⟩ : ∃ v, v = signF (x.p - y.p) x.s x.r * signF ((x.p - y.p) * (x.p - y.p) + x.r - y.r) (2 * ((x.p - y.p) * x.s)) x.r := ⟨_, rfl⟩
 have w1 : IntKind.i64.wrap (sgQ (-y.s) * sgQ y.r) = n := by rw [hn]; exact w64 (by omega) (by omega)
 have w2 : IntKind.i64.wrap (signF (x.p - y.p) x.s x.r * signF ((x.p - y.p) * (x.p - y.p) + x.r - y.r) (2 * ((x.p - y.p) * x.s)) x.r) = v := by rw [hv]; exact w64 (by omega) (by omega)
 unfold Rl.cmpF
 rw [← hn, ← hv]
 clear hn hv b1 b2 b3 b4
 rw [show ((2 : Int) : Rat) = 2 from rfl] at T
 generalize signF ((x.p - y.p) * (x.p - y.p) + x.r - y.r) (2 * ((x.p - y.p) * x.s)) x.r = s4 at *
 generalize signF (x.p - y.p) x.s x.r = m at *
 generalize sgQ (-y.s) = u1 at *
 generalize sgQ y.r = u2 at *
 generalize 2 * ((x.p - y.p) * x.s) = t1 at *
 generalize (x.p - y.p) * x.s = t2 at *
 generalize (x.p - y.p) * (x.p - y.p) + x.r - y.r = t3 at *
 generalize (x.p - y.p) * (x.p - y.p) + x.r = t4 at *
 generalize (x.p - y.p) * (x.p - y.p) = t5 at *
 generalize x.p - y.p = t6 at *
 generalize -y.s = t7 at *
 generalize x.s = t8 at *
 generalize y.s = t9 at *
 generalize (2 : Rat) = t10 at *
 obtain ⟨xp, xr, xn⟩ := x
 obtain ⟨yp, yr, yn⟩ := y
 dsimp only at *
 by_cases h1 : n = 0
 ·rw [if_pos (.inl h1)]
  have e1 : decide (n = 0) = true := decide_eq_true h1
  clear h1
  exact walk (code := Tryz.f26.body.getD .skip) [c D, c F1, c F2, c N, c S1, c S2, c S3, Go.Sy.e (congrArg (Value.int IntKind.i64) w1), eb e1] fol Tryz.func26 (by kernel_rfl) (fun xs w => Tryz.call26 xs w) (by kernel_rfl)
 ·have e1 : decide (n = 0) = false := decide_eq_false h1
  by_cases h2 : m = n
  ·rw [if_pos (.inr h2)]
   have e2 : decide (m = n) = true := decide_eq_true h2
   clear h1 h2
   exact walk (code := Tryz.f26.body.getD .skip) [c D, c F1, c F2, c N, c S1, c S2, c S3, Go.Sy.e (congrArg (Value.int IntKind.i64) w1), eb e1, eb e2] fol Tryz.func26 (by kernel_rfl) (fun xs w => Tryz.call26 xs w) (by kernel_rfl)
  ·rw [if_neg (by rintro (h | h) <;> contradiction)]
   have e2 : decide (m = n) = false := decide_eq_false h2
   by_cases h3 : m = 0
   ·rw [if_pos h3]
    have e3 : decide (m = 0) = true := decide_eq_true h3
    clear h1 h2 h3
    exact walk (code := Tryz.f26.body.getD .skip) [c D, c F1, c F2, c N, c S1, c S2, c S3, Go.Sy.e (congrArg (Value.int IntKind.i64) w1), eb e1, eb e2, eb e3] fol Tryz.func26 (by kernel_rfl) (fun xs w => Tryz.call26 xs w) (by kernel_rfl)
   ·rw [if_neg h3]
    have e3 : decide (m = 0) = false := decide_eq_false h3
    clear h1 h2 h3
    exact walk (code := Tryz.f26.body.getD .skip) [c D, c F1, c F2, c N, c S1, c S2, c S3, Go.Sy.e (congrArg (Value.int IntKind.i64) w1), eb e1, eb e2, eb e3, c A, c B, c C, c T, c E, c G, c S4, Go.Sy.e (congrArg (Value.int IntKind.i64) w2)] fol Tryz.func26 (by kernel_rfl) (fun xs w => Tryz.call26 xs w) (by kernel_rfl)
end Go.Proofs.YthdaimoankaciaaGreatDoor
set_option linter.unusedSimpArgs false
set_option linter.unusedVariables false
namespace Go.Proofs.YthdaimoankaciaaGreatDoor
open Go Go.RowKit Go.Sy
open Vi
theorem isq_all (X : Nat) : isq X * isq X ≤ X ∧ X < (isq X + 1) * (isq X + 1) := isq_spec X
theorem qCompareRat (x : Rl) (q : Rat) (k : Nat) (hk : k ≤ 3000) (hk1 : 1 ≤ k) [HasSz x.p k] [HasSz x.r k] [HasSz q k] (hx : 0 ≤ x.r) : Sp Tryz.prog 49 [] [rlV x, rV q] (nV (Rl.cmp x (Rl.rat q))) [] := by
 haveI : HasSz (Rl.rat q).p k := ‹HasSz q k›
 haveI : HasSz (Rl.rat q).r k := hs_mono (inferInstance : HasSz (0 : Rat) 1) hk1
 have C := qCompare x (Rl.rat q) k hk hk1 hx Rat.le_refl
 have F := qFromRat q
 generalize Rl.cmp x (Rl.rat q) = v at *
 exact walk (code := Tryz.f49.body.getD .skip) [c F, c C] fol Tryz.func49 (by kernel_rfl) (fun xs w => Tryz.call49 xs w) (by kernel_rfl)
theorem qScale (x : Rl) (q : Rat) (k : Nat) (hk : k ≤ 3000) [HasSz x.p k] [HasSz x.r k] [HasSz q k] : Sp Tryz.prog 31 [] [rlV x, rV q] (rlV (x.scR q)) [] := by
 have A := pMul q q fz fz
 have B := pMul (q * q) x.r fz fz
 have C := pMul x.p q fz fz
 have D := pSgn q
 have e0 : decide (sgQ q < 0) = decide (q < 0) := by
  rcases sgQ_cases q with ⟨h1, h2⟩ | ⟨h1, h2⟩ | ⟨h1, h2⟩ <;> rw [h1]
  ·rw [decide_eq_true h2]; rfl
  ·rw [show decide (q < 0) = false from decide_eq_false (by grind)]; rfl
  ·rw [show decide (q < 0) = false from decide_eq_false (by grind)]; rfl
 obtain ⟨p, r, neg⟩ := x
 unfold Rl.scR
 dsimp only at *
 by_cases h : q * q * r = 0
 ·have E := binR0' (q * q * r) (b := false) (by simp [h])
  rw [decide_eq_true h]
  clear h
  generalize q * q * r = s at *
  generalize q * q = t at *
  generalize p * q = u at *
  generalize (neg != decide (q < 0)) = v at *
  exact walk (code := Tryz.f31.body.getD .skip) [c A, c B, c C, x2 E] fol Tryz.func31 (by kernel_rfl) (fun xs w => Tryz.call31 xs w) (by kernel_rfl)
 ·have E := binR0' (q * q * r) (b := true) (by simp [h])
  rw [decide_eq_false h]
  clear h
  generalize q * q * r = s at *
  generalize q * q = t at *
  generalize p * q = u at *
  generalize decide (q < 0) = d at *
  generalize sgQ q = z at *
  cases d <;> cases neg <;> exact walk (code := Tryz.f31.body.getD .skip) [c A, c B, c C, x2 E, c D, eb e0] fol Tryz.func31 (by kernel_rfl) (fun xs w => Tryz.call31 xs w) (by kernel_rfl)
end Go.Proofs.YthdaimoankaciaaGreatDoor
set_option linter.unusedSimpArgs false
set_option linter.unusedVariables false
namespace Go.Proofs.YthdaimoankaciaaGreatDoor
open Go Go.RowKit Go.Sy
open Vi
theorem mg_mul (x y : Int) : (mg (x * y)).size ≤ (mg x).size + (mg y).size := by
 rw [mg_nd, mg_nd, mg_nd, Int.natAbs_mul]; exact nd_mul _ _
theorem mg_add (x y : Int) : (mg (x + y)).size ≤ (mg x).size + (mg y).size + 1 := by
 rw [mg_nd, mg_nd, mg_nd]
 exact Nat.le_trans (nd_mono 256 (by omega) _ _ (Int.natAbs_add_le x y)) (nd_add _ _)
theorem mg_neg (x : Int) : (mg (-x)).size = (mg x).size := by rw [mg_nd, mg_nd, Int.natAbs_neg]
theorem mg_sub (x y : Int) : (mg (x - y)).size ≤ (mg x).size + (mg y).size + 1 := by
 rw [Int.sub_eq_add_neg]
 have := mg_add x (-y)
 rw [mg_neg] at this
 exact this
theorem mg_one : (mg 1).size = 1 := by rw [mg1]; rfl
theorem iSub (x y : Int) (hx : (mg x).size ≤ 4294967296) (hy : (mg y).size ≤ 4294967296) : Sp Tryz.prog 108 [] [iV x, iV y] (iV (x - y)) [] := Sp.of (fun xs w => Tryz.call108 xs w) (by kernel_rfl) (by kernel_rfl) (fun w => Sub_c x y w hx hy)
theorem isq_mg (z : Int) : (mg ((isq z.toNat : Nat) : Int)).size ≤ (mg z).size := by
 rw [mg_nd, mg_nd, Int.natAbs_natCast]
 refine nd_mono 256 (by omega) _ _ ?_
 have h1 := (isq_all z.toNat).1
 have h2 := Nat.le_mul_self (isq z.toNat)
 omega
noncomputable abbrev fl (x : Rl) : Int := Rl.flI isq x
theorem fl_ok (x : Rl) (hx : x.Ok) : RR.IsFl x.val (fl x) := Rl.flI_ok isq isq_all x hx
theorem qFloor (x : Rl) (k : Nat) (hk : k ≤ 20000) (hx : 0 ≤ x.r) [hp : HasSz x.p k] [hr : HasSz x.r k] : Sp Tryz.prog 45 [] [rlV x] (iV (fl x)) [] := by
 have s1 := hp.sz.num
 have s2 := hp.sz.den
 have s3 := hr.sz.num
 have s4 := hr.sz.den
 have m1 := mg_mul x.p.num x.r.den
 have m2 := mg_mul (x.p.den : Int) (x.p.den : Int)
 have m3 := mg_mul x.r.num x.r.den
 have m4 := mg_mul ((x.p.den : Int) * (x.p.den : Int)) (x.r.num * x.r.den)
 have m5 := isq_mg ((x.p.den : Int) * (x.p.den : Int) * (x.r.num * x.r.den))
 have m6 := mg_add (x.p.num * x.r.den) ((isq ((x.p.den : Int) * (x.p.den : Int) * (x.r.num * x.r.den)).toNat : Nat) : Int)
 have m7 := mg_add ((isq ((x.p.den : Int) * (x.p.den : Int) * (x.r.num * x.r.den)).toNat : Nat) : Int) 1
 have m8 := mg_sub (x.p.num * x.r.den) (((isq ((x.p.den : Int) * (x.p.den : Int) * (x.r.num * x.r.den)).toNat : Nat) : Int) + 1)
 have m9 := mg_mul (x.p.den : Int) (x.r.den : Int)
 rw [mg_one] at m7
 have d1 := den_pos' x.p
 have d2 := den_pos' x.r
 have hn : 0 ≤ (x.p.den : Int) * (x.p.den : Int) * (x.r.num * x.r.den) := Int.mul_nonneg (Int.mul_nonneg (Int.le_of_lt d1) (Int.le_of_lt d1)) (Int.mul_nonneg (Rat.num_nonneg.2 hx) (Int.le_of_lt d2))
 have hD : (x.p.den : Int) * (x.r.den : Int) ≠ 0 := Int.ne_of_gt (Int.mul_pos d1 d2)
 have N1 := pNum x.p
 have N2 := pNum x.r
 have D1 := pDen x.p
 have D2 := pDen x.r
 have M1 := iMul (x.p.den : Int) (x.p.den : Int) (by omega) (by omega)
 have M2 := iMul x.r.num (x.r.den : Int) (by omega) (by omega)
 have M3 := iMul ((x.p.den : Int) * (x.p.den : Int)) (x.r.num * x.r.den) (by omega) (by omega)
 have Q := iSqrt _ hn (by omega)
 have M4 := iMul x.p.num (x.r.den : Int) (by omega) (by omega)
 have I := iFromInt 1 (by omega) (by omega)
 have A1 := iAdd ((isq ((x.p.den : Int) * (x.p.den : Int) * (x.r.num * x.r.den)).toNat : Nat) : Int) 1 (by omega) (by rw [mg_one]; omega)
 have A2 := iAdd (x.p.num * x.r.den) ((isq ((x.p.den : Int) * (x.p.den : Int) * (x.r.num * x.r.den)).toNat : Nat) : Int) (by omega) (by omega)
 have B := iSub (x.p.num * x.r.den) (((isq ((x.p.den : Int) * (x.p.den : Int) * (x.r.num * x.r.den)).toNat : Nat) : Int) + 1) (by omega) (by omega)
 have M5 := iMul (x.p.den : Int) (x.r.den : Int) (by omega) (by omega)
 have V1 := iDivMod (x.p.num * x.r.den + ((isq ((x.p.den : Int) * (x.p.den : Int) * (x.r.num * x.r.den)).toNat : Nat) : Int)) ((x.p.den : Int) * (x.r.den : Int)) hD (by omega) (by omega)
 have V2 := iDivMod (x.p.num * x.r.den - (((isq ((x.p.den : Int) * (x.p.den : Int) * (x.r.num * x.r.den)).toNat : Nat) : Int) + 1)) ((x.p.den : Int) * (x.r.den : Int)) hD (by omega) (by omega)
 unfold fl Rl.flI Rl.topI
 clear hx s1 s2 s3 s4 m1 m2 m3 m4 m5 m6 m7 m8 m9 d1 d2 hn hD hp hr
 obtain ⟨p, r, neg⟩ := x
 dsimp only at *
 generalize ((isq ((p.den : Int) * (p.den : Int) * (r.num * r.den)).toNat : Nat) : Int) = rt at *
 generalize (p.den : Int) * (p.den : Int) * (r.num * r.den) = t1 at *
 generalize (p.den : Int) * (p.den : Int) = t2 at *
 generalize r.num * (r.den : Int) = t3 at *
 cases neg
 ·rw [if_neg (by simp)]
  clear V2
  generalize (p.num * (r.den : Int) + rt) / ((p.den : Int) * (r.den : Int)) = q at *
  generalize (p.num * (r.den : Int) + rt) % ((p.den : Int) * (r.den : Int)) = q2 at *
  generalize p.num * (r.den : Int) + rt = t4 at *
  generalize p.num * (r.den : Int) = t5 at *
  generalize (p.den : Int) * (r.den : Int) = t6 at *
  generalize (p.den : Int) = t7 at *
  generalize (r.den : Int) = t8 at *
  exact walk (code := Tryz.f45.body.getD .skip) [c N1, c D1, c N2, c D2, c M1, c M2, c M3, c Q, c M4, c A2, c M5, c V1] fol Tryz.func45 (by kernel_rfl) (fun xs w => Tryz.call45 xs w) (by kernel_rfl)
 ·rw [if_pos rfl]
  clear V1
  generalize (p.num * (r.den : Int) - (rt + 1)) / ((p.den : Int) * (r.den : Int)) = q at *
  generalize (p.num * (r.den : Int) - (rt + 1)) % ((p.den : Int) * (r.den : Int)) = q2 at *
  generalize p.num * (r.den : Int) - (rt + 1) = t4 at *
  generalize p.num * (r.den : Int) = t5 at *
  generalize rt + 1 = t9 at *
  generalize (p.den : Int) * (r.den : Int) = t6 at *
  generalize (p.den : Int) = t7 at *
  generalize (r.den : Int) = t8 at *
  exact walk (code := Tryz.f45.body.getD .skip) [c N1, c D1, c N2, c D2, c M1, c M2, c M3, c Q, c M4, c I, c A1, c B, c M5, c V2] fol Tryz.func45 (by kernel_rfl) (fun xs w => Tryz.call45 xs w) (by kernel_rfl)
theorem qWhole (n : Int) (h : (mg n).size ≤ 100000) : Sp Tryz.prog 117 [] [iV n] (rV (n : Rat)) [] := by
 have M := pMake n 1 (by omega) (by omega) (by rw [mg_one]; omega)
 rw [divInt1] at M
 have I := iFromInt 1 (by omega) (by omega)
 exact walk (code := Tryz.f117.body.getD .skip) [c I, c M] fol Tryz.func117 (by kernel_rfl) (fun xs w => Tryz.call117 xs w) (by kernel_rfl)
end Go.Proofs.YthdaimoankaciaaGreatDoor
set_option linter.unusedSimpArgs false
set_option linter.unusedVariables false
namespace Go.Proofs.YthdaimoankaciaaGreatDoor
open Go Go.RowKit Go.Sy
open Vi
end Go.Proofs.YthdaimoankaciaaGreatDoor
set_option linter.unusedSimpArgs false
set_option linter.unusedVariables false
namespace Go.Proofs.YthdaimoankaciaaGreatDoor
open Go Go.RowKit Go.Sy
open Vi
theorem rSgn (p : Rat) : Sp Tryz.prog 60 [] [rV p] (nV (sgQ p)) [] := by
 have := rSign p
 rwa [cmpI_sg] at this
end Go.Proofs.YthdaimoankaciaaGreatDoor
set_option linter.unusedSimpArgs false
set_option linter.unusedVariables false
namespace Go.Proofs.YthdaimoankaciaaGreatDoor
open Go Go.RowKit Go.Sy
open Vi
def rlC (x : Rl) : List Value := [.bool (sg x.p.num), .string (mg x.p.num), .bool (sg (dn x.p)), .string (mg (dn x.p)), .bool (sg x.r.num), .string (mg x.r.num), .bool (sg (dn x.r)), .string (mg (dn x.r)), .bool x.neg]
end Go.Proofs.YthdaimoankaciaaGreatDoor
set_option linter.unusedSimpArgs false
set_option linter.unusedVariables false
namespace Go.Proofs.YthdaimoankaciaaGreatDoor
open Go Go.RowKit Go.Sy
open Vi
end Go.Proofs.YthdaimoankaciaaGreatDoor

end
section
/- The program's Check of fractions. -/
set_option linter.unusedSimpArgs false
set_option linter.unusedVariables false
namespace Go.Proofs.YthdaimoankaciaaGreatDoor
open Go Go.RowKit Go.Sy
open Vi
theorem iCheck (b : Bool) (s : ByteArray) (hs : s.size ≤ 4294967296) : Sp Tryz.prog 160 [] [.agg #[.bool b, .string s]] (nV (if okInt b s then 0 else 5)) [] := Sp.of (fun xs w => Tryz.call160 xs w) (by kernel_rfl) (by kernel_rfl) (fun w => Check_c b s w hs)
theorem pCheck (b1 : Bool) (s1 : ByteArray) (b2 : Bool) (s2 : ByteArray) (h1 : s1.size ≤ 131000) (h2 : s2.size ≤ 131000) : Sp Tryz.prog 121 [] [.agg #[.bool b1, .string s1, .bool b2, .string s2]] (nV (if okRat b1 s1 b2 s2 then 0 else 5)) [] := by
 have c1 := iCheck b1 s1 (by omega)
 have c2 := iCheck b2 s2 (by omega)
 unfold okRat
 cases k1 : okInt b1 s1 <;> rw [k1] at c1
 ·exact walk (code := Tryz.f121.body.getD .skip) [c c1] fol Tryz.func121 (by kernel_rfl) (fun xs w => Tryz.call121 xs w) (by kernel_rfl)
 cases k2 : okInt b2 s2 <;> rw [k2] at c2
 ·exact walk (code := Tryz.f121.body.getD .skip) [c c1, c c2] fol Tryz.func121 (by kernel_rfl) (fun xs w => Tryz.call121 xs w) (by kernel_rfl)
 obtain ⟨x, rfl, rfl⟩ := okInt_num b1 s1 k1
 obtain ⟨y, rfl, rfl⟩ := okInt_num b2 s2 k2
 rw [mg_isEmpty, num_mg, num_mg]
 by_cases h0 : y = 0
 ·subst h0
  rw [show (if (true && true && !sg 0 && ((0 : Int) == 0 || ((0 : Int).natAbs != 1 && Nat.gcd x.natAbs (0 : Int).natAbs == 1))) = true then (0 : Int) else 5) = 0 from rfl]
  have hx := binI0 0 (b := true) rfl
  rw [iV0] at hx
  rw [sg0, mg0] at c2 ⊢
  exact walk (code := Tryz.f121.body.getD .skip) [c c1, c c2, L, x2 hx] fol Tryz.func121 (by kernel_rfl) (fun xs w => Tryz.call121 xs w) (by kernel_rfl)
 ·have hx := binI0 y (b := false) (by simpa using h0)
  have hC := iCompare y 1 (by omega) (by rw [mg1]; show 1 ≤ _; omega)
  rw [show ((y == 0) : Bool) = false by simpa using h0, Bool.false_or]
  by_cases hy : y ≤ 1
  ·have e : (true && true && !sg y && (y.natAbs != 1 && Nat.gcd x.natAbs y.natAbs == 1)) = false := by
     unfold sg
     by_cases hn : y < 0
     ·simp [hn]
     ·have : y.natAbs = 1 := by omega
      simp [this]
   rw [e]
   have ec : decide (cmpI y 1 ≤ 0) = true := decide_eq_true (by unfold cmpI; split; omega; split <;> omega)
   exact walk (code := Tryz.f121.body.getD .skip) [c c1, c c2, L, x2 hx, c pOne, c hC, eb ec] fol Tryz.func121 (by kernel_rfl) (fun xs w => Tryz.call121 xs w) (by kernel_rfl)
  ·have ec : decide (cmpI y 1 ≤ 0) = false := decide_eq_false (by unfold cmpI; rw [if_neg (by omega), if_neg (by omega)]; omega)
   have hG := iGcd x y (by omega) (by omega)
   have e : (true && true && !sg y && (y.natAbs != 1 && Nat.gcd x.natAbs y.natAbs == 1)) = decide ((Nat.gcd x.natAbs y.natAbs : Nat) = 1) := by
    have : sg y = false := by unfold sg; simp; omega
    rw [this]
    have : (y.natAbs != 1) = true := by simp; omega
    rw [this, Bool.eq_iff_iff]
    simp
   rw [e]
   by_cases hg : Nat.gcd x.natAbs y.natAbs = 1
   ·rw [decide_eq_true hg]
    have hx2 := binI1' ((Nat.gcd x.natAbs y.natAbs : Nat) : Int) 1 (b := false) (by rw [hg]; rfl)
    generalize ((Nat.gcd x.natAbs y.natAbs : Nat) : Int) = G at *
    exact walk (code := Tryz.f121.body.getD .skip) [c c1, c c2, L, x2 hx, c pOne, c hC, eb ec, c hG, c pOne, x2 hx2] fol Tryz.func121 (by kernel_rfl) (fun xs w => Tryz.call121 xs w) (by kernel_rfl)
   ·rw [decide_eq_false hg]
    have hx2 := binI1' ((Nat.gcd x.natAbs y.natAbs : Nat) : Int) 1 (b := true) (by simp; omega)
    generalize ((Nat.gcd x.natAbs y.natAbs : Nat) : Int) = G at *
    exact walk (code := Tryz.f121.body.getD .skip) [c c1, c c2, L, x2 hx, c pOne, c hC, eb ec, c hG, c pOne, x2 hx2] fol Tryz.func121 (by kernel_rfl) (fun xs w => Tryz.call121 xs w) (by kernel_rfl)
end Go.Proofs.YthdaimoankaciaaGreatDoor
set_option linter.unusedSimpArgs false
set_option linter.unusedVariables false
namespace Go.Proofs.YthdaimoankaciaaGreatDoor
open Go Go.RowKit Go.Sy
open Vi
theorem rlV_rat (q : Rat) : rlV ⟨q, 0, false⟩ = .agg #[.bool (sg q.num), .string (mg q.num), .bool (sg (dn q)), .string (mg (dn q)), .bool false, .string ⟨#[]⟩, .bool false, .string ⟨#[]⟩, .bool false] := by
 unfold rlV
 rw [show (0 : Rat).num = 0 from rfl, show dn 0 = 0 from rfl, sg0, mg0]
theorem int1_hs {z : Int} (h : -255 ≤ z ∧ z ≤ 255) : HasSz (z : Rat) 1 := int_hs z 0 (by
 have : (256 : Nat) ^ (0 + 1) = 256 := by decide
 omega)
theorem gWhole (n : Int) (h1 : -9223372036854775808 ≤ n) (h2 : n ≤ 9223372036854775807) : Sp Tryz.prog 66 [] [nV n] (rV (n : Rat)) [] := by
 have I := rInt n h1 h2
 rw [rV_int]
 exact walk (code := Tryz.f66.body.getD .skip) [c I] fol Tryz.func66 (by kernel_rfl) (fun xs w => Tryz.call66 xs w) (by kernel_rfl)
theorem gZero : Sp Tryz.prog 40 [] [] (rV 0) [] := by
 rw [rV0]
 exact walk (code := Tryz.f40.body.getD .skip) [] fol Tryz.func40 (by kernel_rfl) (fun xs w => Tryz.call40 xs w) (by kernel_rfl)
theorem gOf (q : Rat) : Sp Tryz.prog 50 [] [rV q] (rlV (Rl.rat q)) [] := by
 unfold Rl.rat
 rw [rlV_rat]
 exact walk (code := Tryz.f50.body.getD .skip) [] fol Tryz.func50 (by kernel_rfl) (fun xs w => Tryz.call50 xs w) (by kernel_rfl)
theorem sgQ_lt0 (q : Rat) : decide (sgQ q < 0) = decide (q < 0) := by
 rcases sgQ_cases q with ⟨h1, h2⟩ | ⟨h1, h2⟩ | ⟨h1, h2⟩ <;> rw [h1]
 ·rw [decide_eq_true h2]; rfl
 ·rw [show decide (q < 0) = false from decide_eq_false (by grind)]; rfl
 ·rw [show decide (q < 0) = false from decide_eq_false (by grind)]; rfl
theorem gMake (p q r : Rat) {i j k : Nat} [HasSz p i] [HasSz q j] [HasSz r k] (hs : i + j + j + k ≤ 20000 := by first | omega | decide) : Sp Tryz.prog 61 [] [rV p, rV q, rV r] (rlV (mkR p q r)) [] := by
 rcases rRoot r fz with ⟨w, h0, hw, R⟩ | ⟨h, R⟩
 ·rw [mkR_sq p q r w h0 hw]
  subst hw
  haveI : HasSz w k := sz_root
  have A := rMul q w fz fz
  have B := rAdd p (q * w) fz fz
  rw [rlV_rat]
  clear h0
  generalize p + q * w = s at *
  generalize q * w = t at *
  generalize w * w = u at *
  exact walk (code := Tryz.f61.body.getD .skip) [c R, c A, c B] fol Tryz.func61 (by kernel_rfl) (fun xs w => Tryz.call61 xs w) (by kernel_rfl)
 ·rw [mkR_irr p q r h]
  have Z := gZero
  by_cases hq : q = 0
  ·subst hq
   have B := binR1 0 0 (b := true) (by simp)
   rw [show (0 : Rat) * 0 * r = 0 by grind, show decide ((0 : Rat) < 0) = false by decide +kernel, rlV_rat]
   clear h
   generalize (0 : Rat) = z at *
   exact walk (code := Tryz.f61.body.getD .skip) [c R, c Z, x2 B] fol Tryz.func61 (by kernel_rfl) (fun xs w => Tryz.call61 xs w) (by kernel_rfl)
  ·have B := binR1 q 0 (b := false) (by simp [hq])
   have A := rMul q q fz fz
   have C := rMul (q * q) r fz fz
   have S := rSgn q
   have e := sgQ_lt0 q
   unfold rlV
   dsimp only
   clear h hq
   generalize q * q * r = s at *
   generalize q * q = t at *
   generalize sgQ q = z at *
   generalize decide (q < 0) = d at *
   generalize (0 : Rat) = z0 at *
   exact walk (code := Tryz.f61.body.getD .skip) [c R, c Z, x2 B, c A, c C, c S, eb e] fol Tryz.func61 (by kernel_rfl) (fun xs w => Tryz.call61 xs w) (by kernel_rfl)
end Go.Proofs.YthdaimoankaciaaGreatDoor
set_option linter.unusedSimpArgs false
set_option linter.unusedVariables false
namespace Go.Proofs.YthdaimoankaciaaGreatDoor
open Go Go.RowKit Go.Sy
open Vi
theorem rlAnd (x y : Rl) : (decide (x.p = y.p) && (decide (x.r = y.r) && ((x.neg == y.neg) && true))) = (open Classical in decide (x = y)) := by
 obtain ⟨a, b, c⟩ := x
 obtain ⟨d, e, f⟩ := y
 rw [Bool.eq_iff_iff]
 simp
theorem eqL_run (d : Nat) (x y : Rl) (w : World) : (Op.equalIn (d + 4) 27 (rlV x) (rlV y)).run Tryz.prog w = .ok (open Classical in decide (x = y)) w := by
 rw [← rlAnd]
 exact eqStruct (l := [(25, 0), (25, 4), (4, 8)]) (by kernel_rfl) (by kernel_rfl) (by kernel_rfl)
  (.cons (a := rV x.p) (b := rV y.p) (by kernel_rfl) (by kernel_rfl) (eqR_run d x.p y.p) (.cons (a := rV x.r) (b := rV y.r) (by kernel_rfl) (by kernel_rfl) (eqR_run d x.r y.r)
   (.cons (a := .bool x.neg) (b := .bool y.neg) (by kernel_rfl) (by kernel_rfl) (fun w => run_equalIn_bool w (d + 2) 4 x.neg y.neg (by kernel_rfl)) .nil))) w
theorem binL (x y : Rl) {q : Bool} (e : (open Classical in decide (x = y)) = q) : Bin .eql 27 (rlV x) (rlV y) (.bool q) := by
 have h := binS (T := 27) (fun w => eqL_run 9996 x y w) (by kernel_rfl)
 rw [e] at h
 exact h
theorem sameL (x : Rl) : Bin .eql 27 (rlV x) (rlV x) (.bool true) := binL x x (by simp)
def lZ : Value := .agg #[.bool false, .string ⟨#[]⟩, .bool false, .string ⟨#[]⟩, .bool false, .string ⟨#[]⟩, .bool false, .string ⟨#[]⟩, .bool false]
theorem rlV0 : rlV (Rl.rat 0) = lZ := by
 unfold Rl.rat
 rw [rlV_rat, show (0 : Rat).num = 0 from rfl, show dn 0 = 0 from rfl, sg0, mg0]; rfl
theorem sameLZ : Bin .eql 27 lZ lZ (.bool true) := by rw [← rlV0]; exact sameL _
def qV (a b c : Rat) : Value := .agg #[.bool (sg a.num), .string (mg a.num), .bool (sg (dn a)), .string (mg (dn a)), .bool (sg b.num), .string (mg b.num), .bool (sg (dn b)), .string (mg (dn b)), .bool (sg c.num), .string (mg c.num), .bool (sg (dn c)), .string (mg (dn c))]
theorem qSgnR (x : Rl) {i j : Nat} [hi : HasSz x.p i] [hj : HasSz x.r j] (hr : 0 ≤ x.r) (hs : i + j ≤ 5000 := by first | omega | decide) : Sp Tryz.prog 51 [] [rlV x] (nV (sgR x.val)) [] := by
 have e := signF_eq x.p x.s x.r hr
 have e2 : sgR x.val = signF x.p x.s x.r := by rw [e]; rfl
 rw [e2]
 have F := qFactor x
 haveI i1 : HasSz x.p (i + j + 1) := hs_mono hi (by omega)
 haveI i2 : HasSz x.r (i + j + 1) := hs_mono hj (by omega)
 haveI i3 : HasSz x.s (i + j + 1) := hs_mono (inferInstance : HasSz x.s 1) (by omega)
 have S := qSign x.p x.s x.r (i + j + 1) (by omega)
 clear e e2 i1 i2 i3
 generalize signF x.p x.s x.r = v at *
 generalize x.s = s at *
 obtain ⟨p, r, neg⟩ := x
 dsimp only at *
 exact walk (code := Tryz.f51.body.getD .skip) [c F, c S] fol Tryz.func51 (by kernel_rfl) (fun xs w => Tryz.call51 xs w) (by kernel_rfl)
theorem sgQ_neg {q : Rat} (h : q < 0) : sgQ q = -1 := by unfold sgQ; rw [if_pos h]
theorem sgQ_ge (q : Rat) (h : 0 ≤ q) : decide (sgQ q < 0) = false := by
 rw [sgQ_lt0]; exact decide_eq_false (by grind)
theorem qMake (p q r : Rat) {i j k : Nat} [HasSz p i] [HasSz q j] [HasSz r k] (hr : 0 ≤ r) (hs : i + j + j + k ≤ 20000 := by first | omega | decide) : Sp Tryz.prog 59 [] [rV p, rV q, rV r] (.tuple #[rlV (mkR p q r), nV 0]) [] := by
 have S0 := pSgn r
 have e0 := sgQ_ge r hr
 rcases pRoot r fz with ⟨w, h0, hw, R⟩ | ⟨h, R⟩
 ·rw [mkR_sq p q r w h0 hw]
  subst hw
  haveI : HasSz w k := sz_root
  have A := pMul q w fz fz
  have B := pAdd p (q * w) fz fz
  rw [rlV_rat]
  clear h0 hr
  generalize p + q * w = s at *
  generalize q * w = t at *
  generalize w * w = u at *
  generalize sgQ u = z at *
  exact walk (code := Tryz.f59.body.getD .skip) [c S0, eb e0, c R, c A, c B] fol Tryz.func59 (by kernel_rfl) (fun xs w => Tryz.call59 xs w) (by kernel_rfl)
 ·rw [mkR_irr p q r h]
  have A := pMul q q fz fz
  have C := pMul (q * q) r fz fz
  have S := pSgn q
  have e := sgQ_lt0 q
  unfold rlV
  dsimp only
  clear h hr
  generalize q * q * r = s at *
  generalize q * q = t at *
  generalize sgQ q = z at *
  generalize sgQ r = z0 at *
  generalize decide (q < 0) = d at *
  exact walk (code := Tryz.f59.body.getD .skip) [c S0, eb e0, c R, c A, c C, c S, eb e] fol Tryz.func59 (by kernel_rfl) (fun xs w => Tryz.call59 xs w) (by kernel_rfl)
theorem qQuot (a b : Rat) (h0 : b ≠ 0) (ha : Fits a) (hb : Fits b) : Sp Tryz.prog 82 [] [rV a, rV b] (rV (a / b)) [] := by
 have D := pDiv a b h0 ha hb
 generalize a / b = c at *
 exact walk (code := Tryz.f82.body.getD .skip) [Sy.c D] fol Tryz.func82 (by kernel_rfl) (fun xs w => Tryz.call82 xs w) (by kernel_rfl)
theorem sgR_ne {v : RR} (h : v ≠ 0) : decide (sgR v = 0) = false := decide_eq_false fun e => h (RR.sg_iff0.1 e)
theorem qInverse (x : Rl) {i j : Nat} [HasSz x.p i] [HasSz x.r j] (hx : x.Ok) (h0 : x ≠ Rl.rat 0) (hs : i + j ≤ 300 := by first | omega | decide) : Sp Tryz.prog 36 [] [rlV x] (.tuple #[rlV x.inv, nV 0]) [] := by
 have S := qSgnR x hx.nonneg
 have e0 := sgR_ne (val_ne0 hx h0)
 have I := pI 1 (by omega) (by omega)
 rw [show ((1 : Int) : Rat) = 1 from rfl] at I
 unfold Rl.inv
 by_cases h : x.r = 0
 ·rw [if_pos h]
  have hp : x.p ≠ 0 := fun e => val_ne0 hx h0 (by rw [val_rat0 h, e]; rfl)
  have Q := qQuot 1 x.p hp fz fz
  have F := qFromRat (1 / x.p)
  have B := binR0 x.r (b := true) (by simp [h])
  clear h h0 hp hx
  generalize Rl.rat (1 / x.p) = y at *
  generalize 1 / x.p = t at *
  generalize (1 : Rat) = one at *
  generalize sgR x.val = z at *
  obtain ⟨p, r, neg⟩ := x
  dsimp only at *
  exact walk (code := Tryz.f36.body.getD .skip) [c S, eb e0, x2 B, c I, c Q, c F] fol Tryz.func36 (by kernel_rfl) (fun xs w => Tryz.call36 xs w) (by kernel_rfl)
 ·rw [if_neg h]
  have hn := nm_ne hx h
  have B := binR0 x.r (b := false) (by simp [h])
  have M := pMul x.p x.p fz fz
  have U := pSub (x.p * x.p) x.r fz fz
  haveI z0 : HasSz x.nm (i + i + j + 1) := (inferInstance : HasSz (x.p * x.p - x.r) _)
  have Q := qQuot 1 x.nm hn fz fz
  haveI z1 : HasSz (1 / x.nm) (3 * (i + j) + 3) := hs_mono (hs_div 1 x.nm _ _ hn) (by omega)
  haveI z2 : HasSz x.cj.p (3 * (i + j) + 3) := hs_mono ‹HasSz x.p i› (by omega)
  haveI z3 : HasSz x.cj.r (3 * (i + j) + 3) := hs_mono ‹HasSz x.r j› (by omega)
  have C := qScale x.cj (1 / x.nm) (3 * (i + j) + 3) (by omega)
  rw [show x.p * x.p - x.r = x.nm from rfl] at U
  unfold Rl.cj at *
  clear h h0 hn hx z0 z1 z2 z3
  generalize 1 / x.nm = t at *
  generalize Rl.scR _ t = y at *
  generalize x.nm = n at *
  generalize x.p * x.p = t2 at *
  generalize (1 : Rat) = one at *
  generalize sgR x.val = z at *
  obtain ⟨p, r, neg⟩ := x
  dsimp only at *
  exact walk (code := Tryz.f36.body.getD .skip) [c S, eb e0, x2 B, c M, c U, c I, c Q, c C] fol Tryz.func36 (by kernel_rfl) (fun xs w => Tryz.call36 xs w) (by kernel_rfl)
end Go.Proofs.YthdaimoankaciaaGreatDoor
set_option linter.unusedSimpArgs false
set_option linter.unusedVariables false
namespace Go.Proofs.YthdaimoankaciaaGreatDoor
open Go Go.RowKit Go.Sy
open Vi
theorem m2_ne {c : Rat} (hc : c ≠ 0) : (-2 : Rat) * c ≠ 0 := by
 intro e; rcases Rat.mul_eq_zero.1 e with h | h; exact absurd h (by decide +kernel); exact hc h
theorem qRootsQ (a b c h d : Rat) (hc : c ≠ 0) (eh : h = b / (-2 * c)) (ed : d = h * h - a / c) {i j k : Nat} [HasSz a i] [HasSz b j] [HasSz c k] (hs : i + j + k ≤ 300 := by first | omega | decide) :
    (d < 0 → Sp Tryz.prog 23 [] [qV a b c] (.tuple #[.slice none 0 0, nV 0]) []) ∧
    (d = 0 → Sp Tryz.prog 23 [] [qV a b c] (.tuple #[row 0 1, nV 0]) [(1, rlC (Rl.rat h))]) ∧
    (0 < d → Sp Tryz.prog 23 [] [qV a b c] (.tuple #[row 0 2, nV 0]) [(2, rlC (mkR h (-1) d) ++ rlC (mkR h 1 d))]) := by
 have C := binR0 c (b := false) (by simp [hc])
 have I := pI (-2) (by omega) (by omega)
 rw [show ((-2 : Int) : Rat) = -2 from rfl] at I
 have J := pI 1 (by omega) (by omega)
 rw [show ((1 : Int) : Rat) = 1 from rfl] at J
 have M := pMul (-2) c fz fz
 have N := pNeg 1
 haveI z1 := hs_div b (-2 * c) _ _ (m2_ne hc)
 have Q := qQuot b (-2 * c) (m2_ne hc) fz fz
 rw [← eh] at z1 Q
 have S := pMul h h fz fz
 haveI z2 := hs_div a c _ _ hc
 have Q2 := qQuot a c hc fz fz
 have U := pSub (h * h) (a / c) fz fz
 haveI z3 : HasSz d _ := ed ▸ (inferInstance : HasSz (h * h - a / c) _)
 rw [← ed] at U
 have G := pSgn d
 refine ⟨fun h0 => ?_, fun h0 => ?_, fun h0 => ?_⟩
 ·rw [sgQ_neg h0] at G
  clear z1 z2 z3 hc eh ed h0
  generalize -2 * c = t1 at *
  generalize h * h = t2 at *
  generalize a / c = t3 at *
  generalize (-2 : Rat) = t4 at *
  generalize (1 : Rat) = t5 at *
  exact walk (code := Tryz.f23.body.getD .skip) [x2 C, x2 C, x2 C, Sy.c I, Sy.c M, Sy.c Q, Sy.c S, Sy.c Q2, Sy.c U, Sy.c J, Sy.c G] fol Tryz.func23 (by kernel_rfl) (fun xs w => Tryz.call23 xs w) (by kernel_rfl)
 ·subst h0
  rw [show sgQ 0 = 0 from rfl] at G
  have F := qFromRat h
  unfold rlC
  clear z1 z2 z3 hc eh ed
  generalize Rl.rat h = y at *
  generalize -2 * c = t1 at *
  generalize h * h = t2 at *
  generalize a / c = t3 at *
  generalize (-2 : Rat) = t4 at *
  generalize (1 : Rat) = t5 at *
  generalize (0 : Rat) = t6 at *
  exact walk (code := Tryz.f23.body.getD .skip) [x2 C, x2 C, x2 C, Sy.c I, Sy.c M, Sy.c Q, Sy.c S, Sy.c Q2, Sy.c U, Sy.c J, Sy.c G, Sy.c F] fol Tryz.func23 (by kernel_rfl) (fun xs w => Tryz.call23 xs w) (by kernel_rfl)
 ·rw [show sgQ d = 1 by unfold sgQ; rw [if_neg (by grind), if_neg (by grind)]] at G
  have K1 := qMake h (-1) d (Rat.le_of_lt h0)
  have K2 := qMake h 1 d (Rat.le_of_lt h0)
  unfold rlC
  clear z1 z2 z3 hc eh ed h0
  generalize mkR h (-1) d = y1 at *
  generalize mkR h 1 d = y2 at *
  generalize -2 * c = t1 at *
  generalize h * h = t2 at *
  generalize a / c = t3 at *
  generalize (-2 : Rat) = t4 at *
  generalize (-1 : Rat) = t6 at *
  generalize (1 : Rat) = t5 at *
  exact walk (code := Tryz.f23.body.getD .skip) [x2 C, x2 C, x2 C, Sy.c I, Sy.c M, Sy.c Q, Sy.c S, Sy.c Q2, Sy.c U, Sy.c J, Sy.c G, Sy.c N, Sy.c K1, Sy.c K2] fol Tryz.func23 (by kernel_rfl) (fun xs w => Tryz.call23 xs w) (by kernel_rfl)
end Go.Proofs.YthdaimoankaciaaGreatDoor
set_option linter.unusedSimpArgs false
set_option linter.unusedVariables false
namespace Go.Proofs.YthdaimoankaciaaGreatDoor
open Go Go.RowKit Go.Sy
open Vi
noncomputable def okL (x : Rl) : Bool := open Classical in decide x.Ok
theorem okL_yes {x : Rl} (h : x.Ok) : okL x = true := by unfold okL; simp [h]
theorem okL_no {x : Rl} (h : ¬ x.Ok) : okL x = false := by unfold okL; simp [h]
theorem notOk_neg {p r : Rat} {b : Bool} (h : r < 0) : ¬ (⟨p, r, b⟩ : Rl).Ok := by
 rintro (⟨h1, _⟩ | ⟨h1, _⟩)
 ·have h1 : r = 0 := h1
  subst h1; exact Rat.lt_irrefl h
 ·have h1 : 0 < r := h1
  grind
theorem notOk_z {p : Rat} : ¬ (⟨p, 0, true⟩ : Rl).Ok := by
 rintro (⟨_, h⟩ | ⟨h, _⟩)
 ·cases h
 ·exact Rat.lt_irrefl h
theorem notOk_sq {p r w : Rat} {b : Bool} (h : 0 < r) (hw : w * w = r) : ¬ (⟨p, r, b⟩ : Rl).Ok := by
 rintro (⟨h1, _⟩ | ⟨_, h1⟩)
 ·have h1 : r = 0 := h1
  subst h1; exact Rat.lt_irrefl h
 ·exact h1 w hw
theorem gCheckQ (x : Rl) (h1 : Fits x.p) (h2 : Fits x.r) : Sp Tryz.prog 64 [] [rlV x] (.bool (okL x)) [] := by
 obtain ⟨p, r, neg⟩ := x
 dsimp only at h1 h2
 have A := rCheckQ p h1
 have B := rCheckQ r h2
 have S := rSgn r
 have Z := gZero
 rcases sgQ_cases r with ⟨hs, hr⟩ | ⟨hs, hr⟩ | ⟨hs, hr⟩ <;> rw [hs] at S
 ·rw [okL_no (notOk_neg hr)]
  have E := binR1 r 0 (b := false) (by simp; grind)
  clear hr h1 h2
  generalize (0 : Rat) = z at *
  exact walk (code := Tryz.f64.body.getD .skip) [c A, c B, c S, c Z, x2 E] fol Tryz.func64 (by kernel_rfl) (fun xs w => Tryz.call64 xs w) (by kernel_rfl)
 ·subst hr
  have E := binR1 0 0 (b := true) (by simp)
  cases neg
  ·rw [okL_yes (.inl ⟨rfl, rfl⟩)]
   clear h1 h2
   generalize (0 : Rat) = z at *
   exact walk (code := Tryz.f64.body.getD .skip) [c A, c B, c S, c Z, x2 E] fol Tryz.func64 (by kernel_rfl) (fun xs w => Tryz.call64 xs w) (by kernel_rfl)
  ·rw [okL_no notOk_z]
   clear h1 h2
   generalize (0 : Rat) = z at *
   exact walk (code := Tryz.f64.body.getD .skip) [c A, c B, c S, c Z, x2 E] fol Tryz.func64 (by kernel_rfl) (fun xs w => Tryz.call64 xs w) (by kernel_rfl)
 ·rcases rRoot r h2 with ⟨w, _, hw, R⟩ | ⟨hw, R⟩
  ·rw [okL_no (notOk_sq hr hw)]
   clear hr hw h1 h2
   exact walk (code := Tryz.f64.body.getD .skip) [c A, c B, c S, c R] fol Tryz.func64 (by kernel_rfl) (fun xs w => Tryz.call64 xs w) (by kernel_rfl)
  ·rw [okL_yes (.inr ⟨hr, hw⟩)]
   clear hr hw h1 h2
   exact walk (code := Tryz.f64.body.getD .skip) [c A, c B, c S, c R] fol Tryz.func64 (by kernel_rfl) (fun xs w => Tryz.call64 xs w) (by kernel_rfl)
theorem qCheckQ (x : Rl) (h1 : Fits x.p) (h2 : Fits x.r) : Sp Tryz.prog 62 [] [rlV x] (nV (if okL x then 0 else 5)) [] := by
 obtain ⟨p, r, neg⟩ := x
 dsimp only at h1 h2
 have A := pCheck (sg p.num) (mg p.num) (sg (dn p)) (mg (dn p)) h1.mn h1.md
 have B := pCheck (sg r.num) (mg r.num) (sg (dn r)) (mg (dn r)) h2.mn h2.md
 rw [okRat_of, if_pos rfl] at A B
 have S := pSgn r
 rcases sgQ_cases r with ⟨hs, hr⟩ | ⟨hs, hr⟩ | ⟨hs, hr⟩ <;> rw [hs] at S
 ·rw [okL_no (notOk_neg hr), if_neg (by simp)]
  clear hr h1 h2
  exact walk (code := Tryz.f62.body.getD .skip) [c A, c B, c S] fol Tryz.func62 (by kernel_rfl) (fun xs w => Tryz.call62 xs w) (by kernel_rfl)
 ·subst hr
  cases neg
  ·rw [okL_yes (.inl ⟨rfl, rfl⟩), if_pos rfl]
   clear h1 h2
   generalize (0 : Rat) = z at *
   exact walk (code := Tryz.f62.body.getD .skip) [c A, c B, c S] fol Tryz.func62 (by kernel_rfl) (fun xs w => Tryz.call62 xs w) (by kernel_rfl)
  ·rw [okL_no notOk_z, if_neg (by simp)]
   clear h1 h2
   generalize (0 : Rat) = z at *
   exact walk (code := Tryz.f62.body.getD .skip) [c A, c B, c S] fol Tryz.func62 (by kernel_rfl) (fun xs w => Tryz.call62 xs w) (by kernel_rfl)
 ·rcases pRoot r h2 with ⟨w, _, hw, R⟩ | ⟨hw, R⟩
  ·rw [okL_no (notOk_sq hr hw), if_neg (by simp)]
   clear hr hw h1 h2
   exact walk (code := Tryz.f62.body.getD .skip) [c A, c B, c S, c R] fol Tryz.func62 (by kernel_rfl) (fun xs w => Tryz.call62 xs w) (by kernel_rfl)
  ·rw [okL_yes (.inr ⟨hr, hw⟩), if_pos rfl]
   clear hr hw h1 h2
   exact walk (code := Tryz.f62.body.getD .skip) [c A, c B, c S, c R] fol Tryz.func62 (by kernel_rfl) (fun xs w => Tryz.call62 xs w) (by kernel_rfl)
end Go.Proofs.YthdaimoankaciaaGreatDoor
set_option linter.unusedSimpArgs false
set_option linter.unusedVariables false
namespace Go.Proofs.YthdaimoankaciaaGreatDoor
open Go Go.RowKit Go.Sy
open Vi
theorem qCmp (x y : Rl) {i j k l : Nat} [h1 : HasSz x.p i] [h2 : HasSz x.r j] [h3 : HasSz y.p k] [h4 : HasSz y.r l] (hx : 0 ≤ x.r) (hy : 0 ≤ y.r) (hs : i + j + k + l ≤ 2000 := by first | omega | decide) : Sp Tryz.prog 26 [] [rlV x, rlV y] (nV (Rl.cmp x y)) [] := by
 haveI := hs_mono h1 (show i ≤ i + j + k + l + 1 by omega)
 haveI := hs_mono h2 (show j ≤ i + j + k + l + 1 by omega)
 haveI := hs_mono h3 (show k ≤ i + j + k + l + 1 by omega)
 haveI := hs_mono h4 (show l ≤ i + j + k + l + 1 by omega)
 exact qCompare x y (i + j + k + l + 1) (by omega) (by omega) hx hy
theorem qCmpR (x : Rl) (q : Rat) {i j k : Nat} [h1 : HasSz x.p i] [h2 : HasSz x.r j] [h3 : HasSz q k] (hx : 0 ≤ x.r) (hs : i + j + k ≤ 2000 := by first | omega | decide) : Sp Tryz.prog 49 [] [rlV x, rV q] (nV (Rl.cmp x (Rl.rat q))) [] := by
 haveI := hs_mono h1 (show i ≤ i + j + k + 1 by omega)
 haveI := hs_mono h2 (show j ≤ i + j + k + 1 by omega)
 haveI := hs_mono h3 (show k ≤ i + j + k + 1 by omega)
 exact qCompareRat x q (i + j + k + 1) (by omega) (by omega) hx
theorem qFlr (x : Rl) {i j : Nat} [h1 : HasSz x.p i] [h2 : HasSz x.r j] (hx : 0 ≤ x.r) (hs : i + j ≤ 5000 := by first | omega | decide) : Sp Tryz.prog 45 [] [rlV x] (iV (fl x)) [] := by
 haveI := hs_mono h1 (show i ≤ i + j by omega)
 haveI := hs_mono h2 (show j ≤ i + j by omega)
 exact qFloor x (i + j) (by omega) hx
theorem simpLast (x y x' y' u : Rl) (q2 q3 q4 l t v one : Rat) (n m n2 m2 s1 s2 c : Int) (e1 : decide (s1 < 0) = false) (e2 : decide (s2 ≤ 0) = false) (ec : decide (c > 0) = false)
    (S1 : Sp Tryz.prog 51 [] [rlV x] (nV s1) []) (S2 : Sp Tryz.prog 51 [] [rlV y] (nV s2) []) (F : Sp Tryz.prog 45 [] [rlV x] (iV n) []) (J : Sp Tryz.prog 110 [] [nV 1] (iV 1) []) (A : Sp Tryz.prog 109 [] [iV n, iV 1] (iV m) [])
    (W : Sp Tryz.prog 117 [] [iV m] (rV q3) []) (C : Sp Tryz.prog 49 [] [rlV y, rV q3] (nV c) []) (W2 : Sp Tryz.prog 117 [] [iV n] (rV q2) []) (N : Sp Tryz.prog 81 [] [rV q2] (rV l) [])
    (H1 : Sp Tryz.prog 30 [] [rlV x, rV l] (rlV x') []) (H2 : Sp Tryz.prog 30 [] [rlV y, rV l] (rlV y') []) (V : Sp Tryz.prog 36 [] [rlV y'] (.tuple #[rlV u, nV 0]) []) (I : Sp Tryz.prog 84 [] [nV 1] (rV one) [])
    (F2 : Sp Tryz.prog 45 [] [rlV u] (iV n2) []) (A2 : Sp Tryz.prog 109 [] [iV n2, iV 1] (iV m2) []) (W3 : Sp Tryz.prog 117 [] [iV m2] (rV q4) []) (S3 : Sp Tryz.prog 51 [] [rlV x'] (nV 0) [])
    (Q : Sp Tryz.prog 82 [] [rV one, rV q4] (rV t) []) (U : Sp Tryz.prog 85 [] [rV t, rV l] (rV v) []) : Sp Tryz.prog 98 [] [rlV x, rlV y] (rV v) [] := by
 obtain ⟨xp, xr, xn⟩ := x
 obtain ⟨yp, yr, yn⟩ := y
 obtain ⟨xp', xr', xn'⟩ := x'
 obtain ⟨yp', yr', yn'⟩ := y'
 exact walk (code := Tryz.f98.body.getD .skip) [Sy.c S1, eb e1, Sy.c S2, eb e2, Sy.c F, Sy.c J, Sy.c A, Sy.c W, Sy.c C, eb ec, Sy.c W2, Sy.c N, Sy.c H1, Sy.c H2, Sy.c V, Sy.c I, Sy.c F2, Sy.c J, Sy.c A2, Sy.c W3, Sy.c S3, Sy.c Q, Sy.c U] fol Tryz.func98 (by kernel_rfl) (fun xs w => Tryz.call98 xs w) (by kernel_rfl)
theorem simpStep (x y x' y' u a : Rl) (q2 q3 q4 q5 l t v one : Rat) (n m n2 m2 s1 s2 s3 c : Int) (e1 : decide (s1 < 0) = false) (e2 : decide (s2 ≤ 0) = false) (ec : decide (c > 0) = false) (e3 : decide (s3 > 0) = true)
    (S1 : Sp Tryz.prog 51 [] [rlV x] (nV s1) []) (S2 : Sp Tryz.prog 51 [] [rlV y] (nV s2) []) (F : Sp Tryz.prog 45 [] [rlV x] (iV n) []) (J : Sp Tryz.prog 110 [] [nV 1] (iV 1) []) (A : Sp Tryz.prog 109 [] [iV n, iV 1] (iV m) [])
    (W : Sp Tryz.prog 117 [] [iV m] (rV q3) []) (C : Sp Tryz.prog 49 [] [rlV y, rV q3] (nV c) []) (W2 : Sp Tryz.prog 117 [] [iV n] (rV q2) []) (N : Sp Tryz.prog 81 [] [rV q2] (rV l) [])
    (H1 : Sp Tryz.prog 30 [] [rlV x, rV l] (rlV x') []) (H2 : Sp Tryz.prog 30 [] [rlV y, rV l] (rlV y') []) (V : Sp Tryz.prog 36 [] [rlV y'] (.tuple #[rlV u, nV 0]) []) (I : Sp Tryz.prog 84 [] [nV 1] (rV one) [])
    (F2 : Sp Tryz.prog 45 [] [rlV u] (iV n2) []) (A2 : Sp Tryz.prog 109 [] [iV n2, iV 1] (iV m2) []) (W3 : Sp Tryz.prog 117 [] [iV m2] (rV q4) []) (S3 : Sp Tryz.prog 51 [] [rlV x'] (nV s3) [])
    (V2 : Sp Tryz.prog 36 [] [rlV x'] (.tuple #[rlV a, nV 0]) []) (R : Sp Tryz.prog 98 [] [rlV u, rlV a] (rV q5) [])
    (Q : Sp Tryz.prog 82 [] [rV one, rV q5] (rV t) []) (U : Sp Tryz.prog 85 [] [rV t, rV l] (rV v) []) : Sp Tryz.prog 98 [] [rlV x, rlV y] (rV v) [] := by
 obtain ⟨xp, xr, xn⟩ := x
 obtain ⟨yp, yr, yn⟩ := y
 obtain ⟨xp', xr', xn'⟩ := x'
 obtain ⟨yp', yr', yn'⟩ := y'
 exact walk (code := Tryz.f98.body.getD .skip) [Sy.c S1, eb e1, Sy.c S2, eb e2, Sy.c F, Sy.c J, Sy.c A, Sy.c W, Sy.c C, eb ec, Sy.c W2, Sy.c N, Sy.c H1, Sy.c H2, Sy.c V, Sy.c I, Sy.c F2, Sy.c J, Sy.c A2, Sy.c W3, Sy.c S3, eb e3, Sy.c V2, Sy.c R, Sy.c Q, Sy.c U] fol Tryz.func98 (by kernel_rfl) (fun xs w => Tryz.call98 xs w) (by kernel_rfl)
theorem sgn_dec {x : Rl} {v : Int} (hr : 0 ≤ x.r) (h : signF x.p x.s x.r = v) : sgR x.val = v := by rw [← h, signF_eq _ _ _ hr]; rfl
theorem cmp_dec {x y : Rl} {v : Int} (hx : 0 ≤ x.r) (hy : 0 ≤ y.r) (h : Rl.cmpF x y = v) : Rl.cmp x y = v := by rw [← h, Rl.cmpF_eq x y hx hy]
theorem isq_eq2 {n k : Nat} (h1 : k * k ≤ n) (h2 : n < (k + 1) * (k + 1)) : isq n = k := by
 obtain ⟨h3, h4⟩ := isq_spec n
 rcases Nat.lt_trichotomy (isq n) k with h | h | h
 ·have := Nat.mul_le_mul (show isq n + 1 ≤ k by omega) (show isq n + 1 ≤ k by omega); omega
 ·exact h
 ·have := Nat.mul_le_mul (show k + 1 ≤ isq n by omega) (show k + 1 ≤ isq n by omega); omega
theorem fl_eq {x : Rl} {n : Int} (hx : x.Ok) (h : RR.IsFl x.val n) : fl x = n := (fl_ok x hx).unique h
theorem isFl_rat (n : Int) : RR.IsFl (RR.ofRat (n : Rat)) n := ⟨RR.le_refl _, RR.rat_lt.2 (by rw [Rat.intCast_add]; have : ((1 : Int) : Rat) = 1 := rfl
                                                                                              grind)⟩
theorem fl_rat (n : Int) : fl (Rl.rat (n : Rat)) = n := fl_eq (Rl.rat_ok _) (by rw [Rl.rat_val]; exact isFl_rat n)
theorem ok2 (p : Rat) : (⟨p, 2, false⟩ : Rl).Ok := ok_nat p 2 1 false (by omega) (by omega) (by omega)
theorem fl_r2 : fl ⟨0, 2, false⟩ = 1 := by
 show (0 * 1 + ((isq 2 : Nat) : Int)) / (1 * 1) = 1
 rw [isq_eq2 (k := 1) (by omega) (by omega)]; rfl
theorem fl_r12 : fl ⟨1, 2, false⟩ = 2 := by
 show (1 * 1 + ((isq 2 : Nat) : Int)) / (1 * 1) = 2
 rw [isq_eq2 (k := 1) (by omega) (by omega)]; rfl
theorem two0 : (0 : Rat) ≤ 2 := by decide +kernel
instance (p q : Rat) (b : Bool) (k : Nat) [h : HasSz p k] : HasSz (⟨p, q, b⟩ : Rl).p k := h
instance (p q : Rat) (b : Bool) (k : Nat) [h : HasSz q k] : HasSz (⟨p, q, b⟩ : Rl).r k := h
instance (p : Rat) (k : Nat) [h : HasSz p k] : HasSz (Rl.rat p).p k := h
instance (p : Rat) : HasSz (Rl.rat p).r 1 := (inferInstance : HasSz (0 : Rat) 1)
instance : HasSz (3 : Rat) 1 := ⟨by unfold Sz; decide⟩
theorem hsc {q : Rat} (h : q.num.natAbs < 256 ∧ q.den < 256) : HasSz q 1 := ⟨by rw [Nat.pow_one]; exact h.1, by rw [Nat.pow_one]; exact h.2⟩
theorem size_small {x : Int} (h : x.natAbs < 256) : (mg x).size ≤ 1 := by rw [mg_nd]; exact nd_le 256 (by omega) _ 1 (by omega)
theorem simp2 : Sp Tryz.prog 98 [] [rlV (Rl.rat 2), rlV ⟨1, 2, false⟩] (rV (7 / 3)) [] := by
 haveI z1 : HasSz ((1 : Rat) / 3) 1 := hsc (by decide +kernel)
 have S1 := qSgnR (Rl.rat 2) Rat.le_refl
 rw [sgn_dec (v := 1) Rat.le_refl (by decide +kernel)] at S1
 have S2 := qSgnR ⟨1, 2, false⟩ two0
 rw [sgn_dec (v := 1) two0 (by decide +kernel)] at S2
 have F := qFlr (Rl.rat 2) Rat.le_refl
 rw [show fl (Rl.rat 2) = 2 from fl_rat 2] at F
 have A := iAdd 2 1 (Nat.le_trans (size_small (by decide)) (by omega)) (Nat.le_trans (size_small (by decide)) (by omega))
 have W := qWhole 3 (Nat.le_trans (size_small (by decide)) (by omega))
 have C := qCmpR ⟨1, 2, false⟩ 3 two0
 rw [cmp_dec (v := -1) two0 Rat.le_refl (by decide +kernel)] at C
 have W2 := qWhole 2 (Nat.le_trans (size_small (by decide)) (by omega))
 have N := pNeg 2
 have H1 := qShift (Rl.rat 2) (-2) fz fz
 rw [show (⟨(Rl.rat 2).p + -2, (Rl.rat 2).r, (Rl.rat 2).neg⟩ : Rl) = Rl.rat 0 by unfold Rl.rat; simp; decide +kernel] at H1
 have H2 := qShift ⟨1, 2, false⟩ (-2) fz fz
 rw [show (1 : Rat) + -2 = -1 by decide +kernel] at H2
 have V := qInverse ⟨-1, 2, false⟩ (ok2 _) (by intro e; have := congrArg Rl.r e; exact absurd this (by decide +kernel))
 rw [show Rl.inv ⟨-1, 2, false⟩ = ⟨1, 2, false⟩ by
  unfold Rl.inv Rl.cj Rl.scR Rl.nm
  rw [if_neg (by decide +kernel)]
  simp only [Rl.mk.injEq]
  refine ⟨by decide +kernel, by decide +kernel, by decide +kernel⟩] at V
 have F2 := qFlr ⟨1, 2, false⟩ two0
 rw [fl_r12] at F2
 have S3 := qSgnR (Rl.rat 0) Rat.le_refl
 rw [sgn_dec (v := 0) Rat.le_refl (by decide +kernel)] at S3
 have I := pI 1 (by omega) (by omega)
 have Q := qQuot 1 3 (by decide +kernel) fz fz
 have U := pSub (1 / 3) (-2) fz fz
 rw [show (1 : Rat) / 3 - -2 = 7 / 3 by decide +kernel] at U
 exact simpLast _ _ _ _ _ _ _ _ _ _ _ _ _ _ _ _ _ _ _ rfl rfl rfl S1 S2 F (iFromInt 1 (by omega) (by omega)) A W C W2 N H1 H2 V I F2 A W S3 Q U
theorem simp1 : Sp Tryz.prog 98 [] [rlV ⟨0, 2, false⟩, rlV (Rl.rat (3 / 2))] (rV (10 / 7)) [] := by
 haveI z0 : HasSz ((3 : Rat) / 2) 1 := hsc (by decide +kernel)
 haveI z1 : HasSz ((1 : Rat) / 2) 1 := hsc (by decide +kernel)
 haveI z2 : HasSz ((7 : Rat) / 3) 1 := hsc (by decide +kernel)
 haveI z3 : HasSz ((3 : Rat) / 7) 1 := hsc (by decide +kernel)
 have S1 := qSgnR ⟨0, 2, false⟩ two0
 rw [sgn_dec (v := 1) two0 (by decide +kernel)] at S1
 have S2 := qSgnR (Rl.rat (3 / 2)) Rat.le_refl
 rw [sgn_dec (v := 1) Rat.le_refl (by decide +kernel)] at S2
 have F := qFlr ⟨0, 2, false⟩ two0
 rw [fl_r2] at F
 have A := iAdd 1 1 (Nat.le_trans (size_small (by decide)) (by omega)) (Nat.le_trans (size_small (by decide)) (by omega))
 have W := qWhole 2 (Nat.le_trans (size_small (by decide)) (by omega))
 have C := qCmpR (Rl.rat (3 / 2)) 2 Rat.le_refl
 rw [cmp_dec (v := -1) Rat.le_refl Rat.le_refl (by decide +kernel)] at C
 have W2 := qWhole 1 (Nat.le_trans (size_small (by decide)) (by omega))
 have N := pNeg 1
 have H1 := qShift ⟨0, 2, false⟩ (-1) fz fz
 rw [show (0 : Rat) + -1 = -1 by decide +kernel] at H1
 have H2 := qShift (Rl.rat (3 / 2)) (-1) fz fz
 rw [show (⟨(Rl.rat (3 / 2)).p + -1, (Rl.rat (3 / 2)).r, (Rl.rat (3 / 2)).neg⟩ : Rl) = Rl.rat (1 / 2) by unfold Rl.rat; simp; decide +kernel] at H2
 have V := qInverse (Rl.rat (1 / 2)) (Rl.rat_ok _) (by intro e; have := congrArg Rl.p e; exact absurd this (by decide +kernel))
 rw [show Rl.inv (Rl.rat (1 / 2)) = Rl.rat 2 by unfold Rl.inv; rw [if_pos (show (Rl.rat (1 / 2)).r = 0 from rfl)]; unfold Rl.rat; simp only [Rl.mk.injEq]; exact ⟨by decide +kernel, trivial, trivial⟩] at V
 have F2 := qFlr (Rl.rat 2) Rat.le_refl
 rw [show fl (Rl.rat 2) = 2 from fl_rat 2] at F2
 have A2 := iAdd 2 1 (Nat.le_trans (size_small (by decide)) (by omega)) (Nat.le_trans (size_small (by decide)) (by omega))
 have W3 := qWhole 3 (Nat.le_trans (size_small (by decide)) (by omega))
 have S3 := qSgnR ⟨-1, 2, false⟩ two0
 rw [sgn_dec (v := 1) two0 (by decide +kernel)] at S3
 have V2 := qInverse ⟨-1, 2, false⟩ (ok2 _) (by intro e; have := congrArg Rl.r e; exact absurd this (by decide +kernel))
 rw [show Rl.inv ⟨-1, 2, false⟩ = ⟨1, 2, false⟩ by
  unfold Rl.inv Rl.cj Rl.scR Rl.nm
  rw [if_neg (by decide +kernel)]
  simp only [Rl.mk.injEq]
  refine ⟨by decide +kernel, by decide +kernel, by decide +kernel⟩] at V2
 have I := pI 1 (by omega) (by omega)
 have Q := qQuot 1 (7 / 3) (by decide +kernel) fz fz
 rw [show (1 : Rat) / (7 / 3) = 3 / 7 by decide +kernel] at Q
 have U := pSub (3 / 7) (-1) fz fz
 rw [show (3 : Rat) / 7 - -1 = 10 / 7 by decide +kernel] at U
 exact simpStep _ _ _ _ _ _ _ _ _ _ _ _ _ _ _ _ _ _ _ _ _ _ rfl rfl rfl rfl S1 S2 F (iFromInt 1 (by omega) (by omega)) A W C W2 N H1 H2 V I F2 A2 W3 S3 V2 simp2 Q U
theorem vRoot3 (p q r : Int) (hp : -255 ≤ p ∧ p ≤ 255) (hq : -255 ≤ q ∧ q ≤ 255) (hr : -255 ≤ r ∧ r ≤ 255) : Sp Tryz.prog 79 [] [nV p, nV q, nV r] (rlV (mkR (p : Rat) (q : Rat) (r : Rat))) [] := by
 have A := gWhole p (by omega) (by omega)
 have B := gWhole q (by omega) (by omega)
 have C := gWhole r (by omega) (by omega)
 haveI z1 : HasSz (p : Rat) 1 := int1_hs hp
 haveI z2 : HasSz (q : Rat) 1 := int1_hs hq
 haveI z3 : HasSz (r : Rat) 1 := int1_hs hr
 have K := gMake (p : Rat) (q : Rat) (r : Rat)
 clear z1 z2 z3 hp hq hr
 generalize mkR (p : Rat) (q : Rat) (r : Rat) = y at *
 generalize (p : Rat) = t1 at *
 generalize (q : Rat) = t2 at *
 generalize (r : Rat) = t3 at *
 exact walk (code := Tryz.f79.body.getD .skip) [c A, c B, c C, c K] fol Tryz.func79 (by kernel_rfl) (fun xs w => Tryz.call79 xs w) (by kernel_rfl)
theorem qBetween (x y : Rl) (v : Rat) (c : Int) (ec : decide (c ≥ 0) = false) (C : Sp Tryz.prog 26 [] [rlV x, rlV y] (nV c) []) (R : Sp Tryz.prog 98 [] [rlV x, rlV y] (rV v) []) : Sp Tryz.prog 39 [] [rlV x, rlV y] (.tuple #[rV v, nV 0]) [] := by
 exact walk (code := Tryz.f39.body.getD .skip) [Sy.c C, eb ec, Sy.c R] fol Tryz.func39 (by kernel_rfl) (fun xs w => Tryz.call39 xs w) (by kernel_rfl)
theorem vKnown3 : Sp Tryz.prog 17 [] [] (.bool true) [] := by
 have i2 : ∀ w : Rat, w * w ≠ 2 := irr_nat 2 1 (by omega) (by omega)
 have i8 : ∀ w : Rat, w * w ≠ 8 := irr_nat 8 2 (by omega) (by omega)
 have mA : mkR 1 (-1) 2 = ⟨1, 2, true⟩ := by rw [mkR_irr _ _ _ i2]; simp only [Rl.mk.injEq]; exact ⟨trivial, by decide +kernel, by decide +kernel⟩
 have mB : mkR 1 1 2 = ⟨1, 2, false⟩ := by rw [mkR_irr _ _ _ i2]; simp only [Rl.mk.injEq]; exact ⟨trivial, by decide +kernel, by decide +kernel⟩
 have mC : mkR 0 1 2 = ⟨0, 2, false⟩ := by rw [mkR_irr _ _ _ i2]; simp only [Rl.mk.injEq]; exact ⟨trivial, by decide +kernel, by decide +kernel⟩
 have mD : mkR 0 3 8 = ⟨0, 72, false⟩ := by rw [mkR_irr _ _ _ i8]; simp only [Rl.mk.injEq]; exact ⟨trivial, by decide +kernel, by decide +kernel⟩
 haveI z8 : HasSz (8 : Rat) 1 := hsc (by decide +kernel)
 haveI z0 : HasSz ((3 : Rat) / 2) 1 := hsc (by decide +kernel)
 have W1 := gWhole (-1) (by omega) (by omega)
 have W2 := gWhole (-2) (by omega) (by omega)
 have W3 := gWhole 1 (by omega) (by omega)
 have W4 := gWhole 72 (by omega) (by omega)
 have R := (qRootsQ (-1) (-2) 1 1 2 (by decide +kernel) (by decide +kernel) (by decide +kernel)).2.2 (by decide +kernel)
 have P0 := pI 0 (by omega) (by omega)
 have V0 := gWhole 0 (by omega) (by omega)
 have V3 := gWhole 3 (by omega) (by omega)
 have V8 := gWhole 8 (by omega) (by omega)
 have M := qMake 0 3 8 (by decide +kernel)
 have D := rOf 3 2 (by omega) (by omega) (by omega) (by omega) (by omega)
 have e32 : Rat.divInt 3 2 = 3 / 2 := by decide +kernel
 rw [e32] at D
 have D2 := rOf 10 7 (by omega) (by omega) (by omega) (by omega) (by omega)
 have e107 : Rat.divInt 10 7 = 10 / 7 := by decide +kernel
 rw [e107] at D2
 have G := gOf (3 / 2)
 have Q1 := vRoot3 0 1 2 (by omega) (by omega) (by omega)
 have Q2 := vRoot3 1 (-1) 2 (by omega) (by omega) (by omega)
 have Q3 := vRoot3 1 1 2 (by omega) (by omega) (by omega)
 rw [show mkR ((0 : Int) : Rat) ((1 : Int) : Rat) ((2 : Int) : Rat) = ⟨0, 2, false⟩ from mC] at Q1
 rw [show mkR ((1 : Int) : Rat) ((-1 : Int) : Rat) ((2 : Int) : Rat) = ⟨1, 2, true⟩ from mA] at Q2
 rw [show mkR ((1 : Int) : Rat) ((1 : Int) : Rat) ((2 : Int) : Rat) = ⟨1, 2, false⟩ from mB] at Q3
 rw [mA, mB] at R
 rw [mD] at M
 have C := qCmp ⟨0, 2, false⟩ (Rl.rat (3 / 2)) two0 Rat.le_refl
 rw [cmp_dec (v := -1) two0 Rat.le_refl (by decide +kernel)] at C
 have B := qBetween _ _ _ _ rfl C simp1
 have C2 := qCmp ⟨1, 2, true⟩ ⟨1, 2, false⟩ two0 two0
 rw [cmp_dec (v := -1) two0 two0 (by decide +kernel)] at C2
 have x1 := sameL ⟨1, 2, true⟩
 have x2 := sameL ⟨1, 2, false⟩
 have x3 := same (10 / 7)
 have e72 : rlV ⟨0, 72, false⟩ = .agg #[.bool false, .string ⟨#[]⟩, .bool false, .string ⟨#[]⟩, .bool (sg (72 : Rat).num), .string (mg (72 : Rat).num), .bool (sg (dn 72)), .string (mg (dn 72)), .bool false] := by
  unfold rlV
  rw [show (0 : Rat).num = 0 from rfl, show dn 0 = 0 from rfl, sg0, mg0]
 have x4 := sameL ⟨0, 72, false⟩
 rw [e72] at x4 M
 rw [show ((-1 : Int) : Rat) = -1 from rfl] at W1
 rw [show ((-2 : Int) : Rat) = -2 from rfl] at W2
 rw [show ((1 : Int) : Rat) = 1 from rfl] at W3
 rw [show ((72 : Int) : Rat) = 72 from rfl] at W4
 rw [show ((0 : Int) : Rat) = 0 from rfl] at V0
 rw [show ((3 : Int) : Rat) = 3 from rfl] at V3
 rw [show ((8 : Int) : Rat) = 8 from rfl] at V8
 clear C mA mB mC mD i2 i8 z8 z0 e32 e107 e72 P0
 generalize Rl.rat (3 / 2) = y1 at *
 generalize (⟨1, 2, true⟩ : Rl) = y2 at *
 generalize (⟨1, 2, false⟩ : Rl) = y3 at *
 generalize (⟨0, 2, false⟩ : Rl) = y4 at *
 generalize (10 / 7 : Rat) = t1 at *
 generalize (3 / 2 : Rat) = t2 at *
 generalize (-1 : Rat) = t3 at *
 generalize (-2 : Rat) = t4 at *
 generalize (72 : Rat) = t5 at *
 generalize (8 : Rat) = t6 at *
 generalize (3 : Rat) = t7 at *
 generalize (1 : Rat) = t8 at *
 generalize (0 : Rat) = t9 at *
 exact walk (code := Tryz.f17.body.getD .skip) [c W1, c W2, c W3, cr R, c V0, c V3, c V8, c M, c Q1, c D, c G, c B, c Q2, Sy.x2 x1, c Q3, Sy.x2 x2, c W4, Sy.x2 x4, c D2, Sy.x2 x3, c C2] fol Tryz.func17 (by kernel_rfl) (fun xs w => Tryz.call17 xs w) (by kernel_rfl)
end Go.Proofs.YthdaimoankaciaaGreatDoor
set_option linter.unusedSimpArgs false
set_option linter.unusedVariables false
namespace Go.Proofs.YthdaimoankaciaaGreatDoor
open Go Go.RowKit Go.Sy
open Vi
end Go.Proofs.YthdaimoankaciaaGreatDoor

end
section
/- The kit's shelf contracts that this proof uses, laid at this dump by the kit's own tool. -/
namespace Go.Proofs
open Go.Shelf
def Tryz.lays104_ren : Go.Shelf.Ren := ⟨fun | 104 => 133 | 211 => 171 | 207 => 189 | n => n, fun | 9 => 9 | 4 => 4 | 24 => 122 | 3 => 3 | n => n, fun | n => n⟩
theorem Tryz.lays104 : Go.Proofs.Lays.n104 Tryz.prog Tryz.lays104_ren := {
  mixed := by kernel_rfl
  f104 := Tryz.func133.trans (congrArg some (by kernel_rfl))
  f207 := Tryz.func189.trans (congrArg some (by kernel_rfl))
  f211 := Tryz.func171.trans (congrArg some (by kernel_rfl))
  t3 := Tryz.underlying3
  a3 := Tryz.isAgg3
  z3 := Tryz.sizeOf3
  v3 := Tryz.zeroValue3
  t4 := Tryz.underlying4
  a4 := Tryz.isAgg4
  z4 := Tryz.sizeOf4
  v4 := Tryz.zeroValue4
  t9 := Tryz.underlying9
  a9 := Tryz.isAgg9
  z9 := Tryz.sizeOf9
  v9 := Tryz.zeroValue9
  t24 := Tryz.underlying122
  a24 := Tryz.isAgg122
  z24 := Tryz.sizeOf122
  v24 := Tryz.zeroValue122 }
open Go.RowKit in
theorem Tryz.strings_CutSuffix (s p : ByteArray) (w : World) (hs : s.size ≤ 9223372036854775807) :
    Calls Tryz.prog 133 #[.string s, .string p] w fun e w' => e = .returned (.tuple #[.string ⟨(Lib.trimSuffix s.data.toList p.data.toList).toArray⟩, .bool (Lib.hasSuffix s.data.toList p.data.toList)]) ∧ w' = w := Any.strings_CutSuffix Tryz.lays104 s p w hs
def Tryz.laysM145_ren : Go.Shelf.Ren := ⟨fun | 145 => 127 | 220 => 169 | 219 => 188 | 217 => 201 | 225 => 202 | 224 => 203 | 267 => 204 | 266 => 213 | 314 => 214 | n => n, fun | 9 => 9 | 4 => 4 | 59 => 124 | 3 => 3 | 5 => 5 | 46 => 173 | 146 => 200 | 51 => 162 | n => n, fun | 1 => 0 | n => n⟩
theorem Tryz.laysM145 : Go.Proofs.LaysM.n145 Tryz.prog Tryz.laysM145_ren := {
  mixed := by kernel_rfl
  f145 := Tryz.func127.trans (congrArg some (by kernel_rfl))
  f217 := Tryz.func201.trans (congrArg some (by kernel_rfl))
  f219 := Tryz.func188.trans (congrArg some (by kernel_rfl))
  f220 := Tryz.func169.trans (congrArg some (by kernel_rfl))
  f224 := Tryz.func203.trans (congrArg some (by kernel_rfl))
  f225 := Tryz.func202.trans (congrArg some (by kernel_rfl))
  f266 := Tryz.func213.trans (congrArg some (by kernel_rfl))
  f267 := Tryz.func204.trans (congrArg some (by kernel_rfl))
  f314 := Tryz.func214.trans (congrArg some (by kernel_rfl))
  t3 := Tryz.underlying3
  a3 := Tryz.isAgg3
  z3 := Tryz.sizeOf3
  v3 := Tryz.zeroValue3
  t4 := Tryz.underlying4
  a4 := Tryz.isAgg4
  z4 := Tryz.sizeOf4
  v4 := Tryz.zeroValue4
  t5 := Tryz.underlying5
  a5 := Tryz.isAgg5
  z5 := Tryz.sizeOf5
  v5 := Tryz.zeroValue5
  t9 := Tryz.underlying9
  a9 := Tryz.isAgg9
  z9 := Tryz.sizeOf9
  v9 := Tryz.zeroValue9
  t46 := Tryz.underlying173
  a46 := Tryz.isAgg173
  z46 := Tryz.sizeOf173
  v46 := Tryz.zeroValue173
  t51 := Tryz.underlying162
  a51 := Tryz.isAgg162
  z51 := Tryz.sizeOf162
  v51 := Tryz.zeroValue162
  t59 := Tryz.underlying124
  a59 := Tryz.isAgg124
  z59 := Tryz.sizeOf124
  v59 := Tryz.zeroValue124
  t146 := Tryz.underlying200
  a146 := Tryz.isAgg200
  z146 := Tryz.sizeOf200
  v146 := Tryz.zeroValue200
  g1 := by kernel_rfl
  i3 := by kernel_rfl
  i4 := by kernel_rfl
  i5 := by kernel_rfl
  i9 := by kernel_rfl
  i46 := by kernel_rfl
  i51 := by kernel_rfl
  i59 := by kernel_rfl
  i146 := by kernel_rfl
  m1 := by kernel_rfl
  s1_3 := fun w h => Go.Proofs.cell_of_shapedOpen_int (zero := #[.int .i64 0]) (t := 3) h (of_decide_eq_true (by kernel_rfl)) (by kernel_rfl) rfl (by kernel_rfl) (by kernel_rfl) Tryz.underlying3 }
open Go.RowKit Go.Lib in
theorem Tryz.strings_Cut_shaped (s sep : ByteArray) (w : World) (h : w.ShapedOpen Tryz.prog) (hs : s.size < 4294967281) :
    Calls Tryz.prog 127 #[.string s, .string sep] w fun e w' => e = .returned (.tuple #[.string ⟨(Lib.cut s.data.toList sep.data.toList).1.toArray⟩, .string ⟨(Lib.cut s.data.toList sep.data.toList).2.1.toArray⟩, .bool (Lib.cut s.data.toList sep.data.toList).2.2]) ∧ ∃ n, w' = w.drewN n := Any.strings_Cut_shaped Tryz.laysM145 s sep w h hs
end Go.Proofs

end
section
/- The program's Print and Parse of numbers with a root. -/
set_option linter.unusedSimpArgs false
set_option linter.unusedVariables false
namespace Go.Proofs.YthdaimoankaciaaGreatDoor
open Go Go.RowKit Go.Sy
open Vi
def sqS : ByteArray := ⟨#[115, 113, 114, 116, 40]⟩
def rcA (s : ByteArray) : ByteArray := ⟨(Lib.cut s.data.toList sqL).1.toArray⟩
def rcB (s : ByteArray) : ByteArray := ⟨(Lib.cut s.data.toList sqL).2.1.toArray⟩
def rcH (s : ByteArray) : Bool := (Lib.cut s.data.toList sqL).2.2
def tpS (s : ByteArray) : ByteArray := ⟨(Lib.trimSuffix s.data.toList [41]).toArray⟩
def tpH (s : ByteArray) : Bool := Lib.hasSuffix s.data.toList [41]
theorem lCutR (s : ByteArray) (hs : s.size ≤ 4096) : Sp Tryz.prog 127 [] [.string s, .string ⟨#[115, 113, 114, 116, 40]⟩] (.tuple #[.string (rcA s), .string (rcB s), .bool (rcH s)]) [] :=
 Sp.ofW (fun xs w => Tryz.call127 xs w) (by kernel_rfl) (by kernel_rfl) fun w hw => (Tryz.strings_Cut_shaped s ⟨#[115, 113, 114, 116, 40]⟩ w hw (by omega)).mono fun e w' ⟨h1, n, h2⟩ => ⟨h1, h2 ▸ below_drewN (Below.refl _ _) n⟩
theorem lCutSuffix (s : ByteArray) (hs : s.size ≤ 4096) : Sp Tryz.prog 133 [] [.string s, .string ⟨#[41]⟩] (.tuple #[.string (tpS s), .bool (tpH s)]) [] := Sp.of (fun xs w => Tryz.call133 xs w) (by kernel_rfl) (by kernel_rfl) (fun w => (Tryz.strings_CutSuffix s ⟨#[41]⟩ w (by omega)).mono fun e w' h => ⟨h.1, by rw [h.2]; exact Below.refl _ _⟩)
theorem rcA_size (s : ByteArray) : (rcA s).size ≤ s.size := by
 show (Lib.cut s.data.toList sqL).1.length ≤ s.size
 rw [Lib.size_eq s]
 unfold Lib.cut
 split
 ·exact List.length_take_le' _ _
 ·exact Nat.le_refl _
theorem rcB_size (s : ByteArray) : (rcB s).size ≤ s.size := by
 show (Lib.cut s.data.toList sqL).2.1.length ≤ s.size
 rw [Lib.size_eq s]
 unfold Lib.cut
 split
 ·show (List.drop _ _).length ≤ _; rw [List.length_drop]; omega
 ·exact Nat.zero_le _
theorem tpS_size (s : ByteArray) : (tpS s).size ≤ s.size := by
 show (Lib.trimSuffix s.data.toList [41]).length ≤ s.size
 rw [Lib.size_eq s]
 unfold Lib.trimSuffix
 split
 ·exact List.length_take_le' _ _
 ·exact Nat.le_refl _
theorem qPrint (x : Rl) {i j : Nat} [hp : HasSz x.p i] [hr : HasSz x.r j] (h : i + j ≤ 1000 := by first | omega | decide) : Sp Tryz.prog 19 [] [rlV x] (.string (printL x)) [] := by
 have A := pPrint x.p fz
 have B := pPrint x.r fz
 have l1 := printQ_ln x.p (i + 1) (hp.sz.mono (by omega)) (by omega)
 have l2 := printQ_ln x.r (j + 1) (hr.sz.mono (by omega)) (by omega)
 by_cases h0 : x.r = 0
 ·rw [printL_rat h0]
  have B0 := binR0 x.r (b := true) (by simp [h0])
  clear h0 l1 l2 hp hr
  generalize printQ x.p = t1 at *
  generalize printQ x.r = t2 at *
  obtain ⟨p, r, neg⟩ := x
  dsimp only at *
  exact walk (code := Tryz.f19.body.getD .skip) [x2 B0, c A] fol Tryz.func19 (by kernel_rfl) (fun xs w => Tryz.call19 xs w) (by kernel_rfl)
 ·rw [printL_root h0]
  have B0 := binR0 x.r (b := false) (by simp [h0])
  have c1 := fun b : Bool => bin_cat (printQ x.p) ⟨#[sgnB b, 115, 113, 114, 116, 40]⟩ (by show _ + 6 ≤ _; omega)
  have c2 := fun b : Bool => bin_cat (printQ x.p ++ ⟨#[sgnB b, 115, 113, 114, 116, 40]⟩) (printQ x.r) (by rw [ByteArray.size_append]; show _ + 6 + _ ≤ _; omega)
  have c3 := fun b : Bool => bin_cat (printQ x.p ++ ⟨#[sgnB b, 115, 113, 114, 116, 40]⟩ ++ printQ x.r) ⟨#[41]⟩ (by rw [ByteArray.size_append, ByteArray.size_append]; show _ + 6 + _ + 1 ≤ _; omega)
  clear h0 l1 l2 hp hr
  generalize printQ x.p = t1 at *
  generalize printQ x.r = t2 at *
  obtain ⟨p, r, neg⟩ := x
  dsimp only at *
  cases neg
  ·have d1 := c1 false
   have d2 := c2 false
   have d3 := c3 false
   clear c1 c2 c3
   rw [show sgnB false = 43 from rfl] at d1 d2 d3 ⊢
   exact walk (code := Tryz.f19.body.getD .skip) [x2 B0, c A, x2 d1, c B, x2 d2, x2 d3] fol Tryz.func19 (by kernel_rfl) (fun xs w => Tryz.call19 xs w) (by kernel_rfl)
  ·have d1 := c1 true
   have d2 := c2 true
   have d3 := c3 true
   clear c1 c2 c3
   rw [show sgnB true = 45 from rfl] at d1 d2 d3 ⊢
   exact walk (code := Tryz.f19.body.getD .skip) [x2 B0, c A, x2 d1, c B, x2 d2, x2 d3] fol Tryz.func19 (by kernel_rfl) (fun xs w => Tryz.call19 xs w) (by kernel_rfl)
end Go.Proofs.YthdaimoankaciaaGreatDoor

end
section
/- The program's Parse of numbers with a root. -/
set_option linter.unusedSimpArgs false
set_option linter.unusedVariables false
namespace Go.Proofs.YthdaimoankaciaaGreatDoor
open Go Go.RowKit Go.Sy
open Vi
theorem rc_of (x : Rl) (hx : x.r = 0) : rcA (printL x) = printL x ∧ rcH (printL x) = false := by
 unfold rcA rcH printL prLL
 rw [if_pos hx, List.append_nil]
 show (⟨(Lib.cut (prL x.p) sqL).1.toArray⟩ : ByteArray) = _ ∧ (Lib.cut (prL x.p) sqL).2.2 = false
 rw [cut_rat]
 exact ⟨rfl, rfl⟩
theorem rc_root (x : Rl) (hx : x.r ≠ 0) : rcA (printL x) = ⟨(prL x.p ++ [sgnB x.neg]).toArray⟩ ∧ rcH (printL x) = true ∧ tpS (rcB (printL x)) = printQ x.r ∧ tpH (rcB (printL x)) = true := by
 have e : Lib.cut (prLL x) sqL = (prL x.p ++ [sgnB x.neg], prL x.r ++ [41], true) := by
  unfold prLL
  rw [if_neg hx]
  exact cut_root x.p x.neg (prL x.r ++ [41])
 obtain ⟨t1, t2⟩ := trim_par (prL x.r)
 unfold rcA rcH rcB tpS tpH printL
 show (⟨(Lib.cut (prLL x) sqL).1.toArray⟩ : ByteArray) = _ ∧ (Lib.cut (prLL x) sqL).2.2 = true ∧ (⟨(Lib.trimSuffix (Lib.cut (prLL x) sqL).2.1 [41]).toArray⟩ : ByteArray) = _ ∧ Lib.hasSuffix (Lib.cut (prLL x) sqL).2.1 [41] = true
 rw [e, printQ_list]
 exact ⟨rfl, rfl, by show (⟨(Lib.trimSuffix (prL x.r ++ [41]) [41]).toArray⟩ : ByteArray) = _; rw [t1], t2⟩
theorem pCore (s : ByteArray) (hs : s.size ≤ 200) : ∃ (x : Rl) (ok : Bool), HasSz x.p 201 ∧ HasSz x.r 201 ∧ Sp Tryz.prog 80 [] [.string s] (.tuple #[rlV x, .bool ok]) [] ∧ ∀ y : Rl, y.Ok → printL y = s → x = y ∧ ok = true := by
 have C := lCutR s (by omega)
 have zA := rcA_size s
 have zB := rcB_size s
 cases hH : rcH s
 ·rw [hH] at C
  have Q := pParse s
  have F := qFromRat (parseQ s).1
  have z1 := parseQ_sz s 201 (by omega) (by omega)
  refine ⟨Rl.rat (parseQ s).1, decide ((parseQ s).2 = 0), z1, hs_mono hz0 (by omega), ?_, fun y hy e => ?_⟩
  ·clear z1 zA zB hs hH
   generalize Rl.rat (parseQ s).1 = y at *
   generalize (parseQ s).1 = q at *
   generalize (parseQ s).2 = z at *
   exact walk (code := Tryz.f80.body.getD .skip) [c C, c Q, c F] fol Tryz.func80 (by kernel_rfl) (fun xs w => Tryz.call80 xs w) (by kernel_rfl)
  ·by_cases h0 : y.r = 0
   ·have h1 := printL_rat h0
    have h2 := parse_print y.p (by rw [← h1, e]; omega)
    rw [← h1, e] at h2
    rw [h2]
    refine ⟨?_, rfl⟩
    rcases hy with ⟨_, hn⟩ | ⟨hn, _⟩
    ·obtain ⟨p, r, n⟩ := y
     dsimp only at h0 hn
     subst h0 hn; rfl
    ·rw [h0] at hn; exact absurd hn Rat.lt_irrefl
   ·have := (rc_root y h0).2.1
    rw [e, hH] at this
    cases this
 rw [hH] at C
 have zT := tpS_size (rcB s)
 have U := lCutSuffix (rcB s) (by omega)
 cases hc : tpH (rcB s)
 ·rw [hc] at U
  refine ⟨Rl.rat 0, false, hs_mono hz0 (by omega), hs_mono hz0 (by omega), ?_, fun y hy e => ?_⟩
  ·rw [rlV0]
   cases ea : ((rcA s).toList == (⟨#[]⟩ : ByteArray).toList)
   ·clear zA zB hs hH hc zT
    generalize rcA s = a at *
    generalize tpS (rcB s) = t at *
    generalize rcB s = b at *
    exact walk (code := Tryz.f80.body.getD .skip) [c C, c U, eb ea] fol Tryz.func80 (by kernel_rfl) (fun xs w => Tryz.call80 xs w) (by kernel_rfl)
   ·clear zA zB hs hH hc zT
    generalize rcA s = a at *
    generalize tpS (rcB s) = t at *
    generalize rcB s = b at *
    exact walk (code := Tryz.f80.body.getD .skip) [c C, c U, eb ea] fol Tryz.func80 (by kernel_rfl) (fun xs w => Tryz.call80 xs w) (by kernel_rfl)
  ·by_cases h0 : y.r = 0
   ·have := (rc_of y h0).2
    rw [e, hH] at this
    cases this
   ·have := (rc_root y h0).2.2.2
    rw [e, hc] at this
    cases this
 rw [hc] at U
 cases ea : ((rcA s).toList == (⟨#[]⟩ : ByteArray).toList)
 ·have hpos : 0 < (rcA s).size := by
    rcases Nat.eq_zero_or_pos (rcA s).size with h | h
    ·have : rcA s = ⟨#[]⟩ := by
       apply ByteArray.ext
       exact Array.size_eq_zero_iff.1 h
     rw [this] at ea
     simp at ea
    ·exact h
  obtain ⟨k, hk⟩ : ∃ k, (rcA s).size = k + 1 := ⟨(rcA s).size - 1, by omega⟩
  have g1 := @idxG (rcA s) k (.tmp 44) (.tmp 47) (by omega)
  have g2 := @slH2 (rcA s) (k : Int) (.tmp 50) (.tmp 53) (by omega) (by omega)
  rw [Int.toNat_natCast] at g2
  have w1 : IntKind.i64.wrap (((rcA s).size : Int) - 1) = (k : Int) := by rw [w64 (by omega) (by omega)]; omega
  have zE : ((rcA s).extract 0 k).size ≤ 201 := by rw [ByteArray.size_extract]; omega
  have P1 := pParse ((rcA s).extract 0 k)
  have P2 := pParse (tpS (rcB s))
  have y1 := parseQ_sz ((rcA s).extract 0 k) 201 zE (by omega)
  have y2 := parseQ_sz (tpS (rcB s)) 201 (by omega) (by omega)
  refine ⟨⟨(parseQ ((rcA s).extract 0 k)).1, (parseQ (tpS (rcB s))).1, decide (((((rcA s)[k]'(by omega)).toNat : Nat) : Int) = 45)⟩, decide ((parseQ ((rcA s).extract 0 k)).2 = 0) && decide ((parseQ (tpS (rcB s))).2 = 0), y1, y2, ?_, fun y hy e => ?_⟩
  ·unfold rlV
   dsimp only
   generalize ((((rcA s)[k]'(by omega)).toNat : Nat) : Int) = b at *
   generalize (parseQ ((rcA s).extract 0 k)).1 = q1 at *
   generalize (parseQ ((rcA s).extract 0 k)).2 = e1 at *
   generalize (parseQ (tpS (rcB s))).1 = q2 at *
   generalize (parseQ (tpS (rcB s))).2 = e2 at *
   generalize (rcA s).extract 0 k = a2 at *
   clear zA zB hs hH hc zT zE y1 y2 hpos hk
   generalize rcA s = a at *
   generalize tpS (rcB s) = t at *
   generalize rcB s = b0 at *
   cases c1 : decide (e1 = 0)
   ·exact walk (code := Tryz.f80.body.getD .skip) [c C, c U, eb ea, L, L, Go.Sy.e (congrArg (Value.int IntKind.i64) w1), gx _ 5 _ _ g1, L, Go.Sy.e (congrArg (Value.int IntKind.i64) w1), gx _ 9 _ _ g2, c P1, c P2, L, eb c1] fol Tryz.func80 (by kernel_rfl) (fun xs w => Tryz.call80 xs w) (by kernel_rfl)
   ·exact walk (code := Tryz.f80.body.getD .skip) [c C, c U, eb ea, L, L, Go.Sy.e (congrArg (Value.int IntKind.i64) w1), gx _ 5 _ _ g1, L, Go.Sy.e (congrArg (Value.int IntKind.i64) w1), gx _ 9 _ _ g2, c P1, c P2, L, eb c1] fol Tryz.func80 (by kernel_rfl) (fun xs w => Tryz.call80 xs w) (by kernel_rfl)
  ·by_cases h0 : y.r = 0
   ·have := (rc_of y h0).2
    rw [e, hH] at this
    cases this
   ·obtain ⟨r1, _, r3, _⟩ := rc_root y h0
    have sz := printL_sizes 200 (by rw [e]; exact hs) (by omega) (by omega) hy
    rw [e] at r1 r3
    have p1 := parse_print y.p (by have := sz.2.2.1; omega)
    have p2 := parse_print y.r (by have := sz.2.2.2 h0; omega)
    have hk2 : k = (prL y.p).length := by
     have : (rcA s).size = (prL y.p).length + 1 := by
      rw [r1]; show (prL y.p ++ [sgnB y.neg]).length = _; simp
     omega
    have hx : (rcA s).extract 0 k = printQ y.p := by
     rw [r1, Lib.extract_mk, printQ_list, hk2]
     simp
    have hb : (rcA s)[k]'(by omega) = sgnB y.neg := by
     have : (rcA s).data.toList[k]? = some (sgnB y.neg) := by
      rw [r1]
      show (prL y.p ++ [sgnB y.neg])[k]? = _
      rw [hk2, List.getElem?_append_right (Nat.le_refl _), Nat.sub_self]; rfl
     rw [List.getElem?_eq_getElem (by show k < (rcA s).data.toList.length; rw [← Lib.size_eq]; omega)] at this
     exact Option.some.inj this
    rw [hx, r3, p1, p2, hb]
    refine ⟨?_, rfl⟩
    obtain ⟨p, r, n⟩ := y
    cases n <;> rfl
 ·refine ⟨Rl.rat 0, false, hs_mono hz0 (by omega), hs_mono hz0 (by omega), ?_, fun y hy e => ?_⟩
  ·rw [rlV0]
   clear zA zB hs hH hc zT
   generalize rcA s = a at *
   generalize tpS (rcB s) = t at *
   generalize rcB s = b at *
   exact walk (code := Tryz.f80.body.getD .skip) [c C, c U, eb ea] fol Tryz.func80 (by kernel_rfl) (fun xs w => Tryz.call80 xs w) (by kernel_rfl)
  ·by_cases h0 : y.r = 0
   ·have := (rc_of y h0).2
    rw [e, hH] at this
    cases this
   ·have r1 := (rc_root y h0).1
    rw [e] at r1
    rw [r1] at ea
    have h3 : (⟨(prL y.p ++ [sgnB y.neg]).toArray⟩ : ByteArray).toList = prL y.p ++ [sgnB y.neg] := by
     rw [Lib.toList_data]
    rw [h3] at ea
    have h4 : (⟨#[]⟩ : ByteArray).toList = [] := by rw [Lib.toList_data]
    rw [h4] at ea
    simp at ea
end Go.Proofs.YthdaimoankaciaaGreatDoor

end
section
/- Print and Parse of numbers with a root: the program's and the reference's. -/
set_option linter.unusedSimpArgs false
set_option linter.unusedVariables false
namespace Go.Proofs.YthdaimoankaciaaGreatDoor
open Go Go.RowKit Go.Sy
open Vi
theorem strNe {a b : ByteArray} (h : a ≠ b) : (a.toList == b.toList) = false := by
 rw [beq_eq_false_iff_ne, Lib.toList_data, Lib.toList_data]
 intro e
 exact h (ByteArray.ext (Array.toList_inj.1 e))
theorem strEq2 {a b : ByteArray} (h : a = b) : (a.toList == b.toList) = true := by rw [h]; exact beq_self_eq_true _
theorem strNe' {a b : ByteArray} (h : a ≠ b) : (!(a.toList == b.toList)) = true := by rw [strNe h]; rfl
theorem strEq' {a b : ByteArray} (h : a = b) : (!(a.toList == b.toList)) = false := by rw [strEq2 h]; rfl
theorem printL_inj {x y : Rl} (hx : x.Ok) (hy : y.Ok) (h : printL x = printL y) (hs : (printL x).size ≤ 200) : x = y := by
 obtain ⟨z, ok, _, _, _, hc⟩ := pCore (printL x) hs
 rw [← (hc x hx rfl).1, ← (hc y hy h.symm).1]
theorem qParse (s : ByteArray) (hs : s.size ≤ 200) : (∃ y : Rl, y.Ok ∧ printL y = s ∧ HasSz y.p 201 ∧ HasSz y.r 201 ∧ Sp Tryz.prog 20 [] [.string s] (.tuple #[rlV y, nV 0]) []) ∨ ((∀ y : Rl, y.Ok → printL y ≠ s) ∧ Sp Tryz.prog 20 [] [.string s] (.tuple #[lZ, nV 15]) []) := by
 obtain ⟨x, ok, z1, z2, C, hc⟩ := pCore s hs
 cases ok
 ·right
  refine ⟨fun y hy e => absurd (hc y hy e).2 (by decide), ?_⟩
  clear hc z1 z2 hs
  exact walk (code := Tryz.f20.body.getD .skip) [c C] fol Tryz.func20 (by kernel_rfl) (fun xs w => Tryz.call20 xs w) (by kernel_rfl)
 have D := qCheckQ x fz fz
 by_cases ho : x.Ok
 ·rw [okL_yes ho, if_pos rfl] at D
  have Q := qPrint x
  by_cases e : printL x = s
  ·left
   have x1 := strEq' e
   refine ⟨x, ho, e, z1, z2, ?_⟩
   clear hc z1 z2 ho hs e
   generalize printL x = t at *
   obtain ⟨p, r, n⟩ := x
   exact walk (code := Tryz.f20.body.getD .skip) [c C, c D, c Q, eb x1] fol Tryz.func20 (by kernel_rfl) (fun xs w => Tryz.call20 xs w) (by kernel_rfl)
  ·right
   refine ⟨fun y hy e2 => e (by rw [(hc y hy e2).1]; exact e2), ?_⟩
   have x1 := strNe' e
   clear hc z1 z2 ho hs e
   generalize printL x = t at *
   obtain ⟨p, r, n⟩ := x
   exact walk (code := Tryz.f20.body.getD .skip) [c C, c D, c Q, eb x1] fol Tryz.func20 (by kernel_rfl) (fun xs w => Tryz.call20 xs w) (by kernel_rfl)
 ·rw [okL_no ho, if_neg (by simp)] at D
  right
  refine ⟨fun y hy e2 => ho (by rw [(hc y hy e2).1]; exact hy), ?_⟩
  clear hc z1 z2 ho hs
  obtain ⟨p, r, n⟩ := x
  exact walk (code := Tryz.f20.body.getD .skip) [c C, c D] fol Tryz.func20 (by kernel_rfl) (fun xs w => Tryz.call20 xs w) (by kernel_rfl)
theorem gPrint (x : Rl) {i j : Nat} [hp : HasSz x.p i] [hr : HasSz x.r j] (h : i + j ≤ 1000 := by first | omega | decide) : Sp Tryz.prog 21 [] [rlV x] (.string (printL x)) [] := by
 have A := rPrint x.p fz
 have B := rPrint x.r fz
 have Z := gZero
 have l1 := printQ_ln x.p (i + 1) (hp.sz.mono (by omega)) (by omega)
 have l2 := printQ_ln x.r (j + 1) (hr.sz.mono (by omega)) (by omega)
 by_cases h0 : x.r = 0
 ·rw [printL_rat h0]
  have B0 := binR1 x.r 0 (b := true) (by simp [h0])
  clear h0 l1 l2 hp hr
  generalize (0 : Rat) = zero at *
  generalize printQ x.p = t1 at *
  generalize printQ x.r = t2 at *
  obtain ⟨p, r, neg⟩ := x
  dsimp only at *
  exact walk (code := Tryz.f21.body.getD .skip) [c A, c Z, x2 B0] fol Tryz.func21 (by kernel_rfl) (fun xs w => Tryz.call21 xs w) (by kernel_rfl)
 ·rw [printL_root h0]
  have B0 := binR1 x.r 0 (b := false) (by simp [h0])
  have c1 := fun b : Bool => bin_cat (printQ x.p) ⟨#[sgnB b, 115, 113, 114, 116, 40]⟩ (by show _ + 6 ≤ _; omega)
  have c2 := fun b : Bool => bin_cat (printQ x.p ++ ⟨#[sgnB b, 115, 113, 114, 116, 40]⟩) (printQ x.r) (by rw [ByteArray.size_append]; show _ + 6 + _ ≤ _; omega)
  have c3 := fun b : Bool => bin_cat (printQ x.p ++ ⟨#[sgnB b, 115, 113, 114, 116, 40]⟩ ++ printQ x.r) ⟨#[41]⟩ (by rw [ByteArray.size_append, ByteArray.size_append]; show _ + 6 + _ + 1 ≤ _; omega)
  clear h0 l1 l2 hp hr
  generalize (0 : Rat) = zero at *
  generalize printQ x.p = t1 at *
  generalize printQ x.r = t2 at *
  obtain ⟨p, r, neg⟩ := x
  dsimp only at *
  cases neg
  ·have d1 := c1 false
   have d2 := c2 false
   have d3 := c3 false
   clear c1 c2 c3
   rw [show sgnB false = 43 from rfl] at d1 d2 d3 ⊢
   exact walk (code := Tryz.f21.body.getD .skip) [c A, c Z, x2 B0, x2 d1, c B, x2 d2, x2 d3] fol Tryz.func21 (by kernel_rfl) (fun xs w => Tryz.call21 xs w) (by kernel_rfl)
  ·have d1 := c1 true
   have d2 := c2 true
   have d3 := c3 true
   clear c1 c2 c3
   rw [show sgnB true = 45 from rfl] at d1 d2 d3 ⊢
   exact walk (code := Tryz.f21.body.getD .skip) [c A, c Z, x2 B0, x2 d1, c B, x2 d2, x2 d3] fol Tryz.func21 (by kernel_rfl) (fun xs w => Tryz.call21 xs w) (by kernel_rfl)
theorem slB2 {s : ByteArray} {i j : Int} {x y z : Operand} (h0 : 0 ≤ i) (h1 : i ≤ j) (h2 : j ≤ s.size) : ∀ (o : Oper), o.op = .slice 9 x (some y) (some z) none → ∀ (ρ : Operand → Value) (w : World), (Op.operands (.slice 9 x (some y) (some z) none)).toList.map ρ = [.string s, .int .i64 i, .int .i64 j] → (execOp ρ o).run Tryz.prog w = .ok (.value (.string (s.extract i.toNat j.toNat))) w := by
 intro o ho ρ w hl
 simp [Op.operands] at hl
 unfold execOp
 rw [ho]
 have h := run_slice_string (P := Tryz.prog) w 9 s .i64 .i64 i j (by kernel_rfl) h0 h1 h2
 have h3 := run_sliceAt_string (P := Tryz.prog) (w := w) 9 (.string s) (some (.int .i64 i)) (some (.int .i64 j)) none (by kernel_rfl)
 simp [hl, h, h3]
def stK (s : ByteArray) (k : Nat) : St := ⟨115, 0, [(0, .string s), (2, ptr 0 0), (4, nV k)], junk, [(0, blk 27 [.bool false, .string ⟨#[]⟩, .bool false, .string ⟨#[]⟩, .bool false, .string ⟨#[]⟩, .bool false, .string ⟨#[]⟩, .bool false])], 1⟩
theorem s_loop (s : ByteArray) (hs : s.size ≤ 5000) (K : Nat) (hK : K = s.size ∨ ∃ h : K < s.size, (s[K]'h).toNat = 115) : ∀ m k, k + m = K → (∀ j (h : j < s.size), j < K → (s[j]'h).toNat ≠ 115) →
    RoundsOk Tryz.prog (nthLoop 0 (Tryz.f27.body.getD .skip)) (stK s k) (.exit 0) (stK s K)
 | 0, k, hk, hn => by
  obtain rfl : k = K := by omega
  refine .out (by simp) ?_
  rcases hK with rfl | ⟨h, hb⟩
  ·have c1 : decide ((s.size : Int) < (s.size : Int)) = false := decide_eq_false (by omega)
   clear hn hk hs
   unfold stK
   exact piece [(0, 0)] [L, eb c1] fol (by kernel_rfl)
  ·have c1 : decide ((k : Int) < (s.size : Int)) = true := decide_eq_true (by omega)
   have g1 := @idxG s k (.tmp 17) (.tmp 18) h
   rw [hb] at g1
   clear hn hk hs hb
   unfold stK
   exact piece [(0, 0)] [L, eb c1, gx _ 5 _ _ g1] fol (by kernel_rfl)
 | m + 1, k, hk, hn => by
  have hlt : k < s.size := by rcases hK with h | ⟨h, _⟩ <;> omega
  have c1 : decide ((k : Int) < (s.size : Int)) = true := decide_eq_true (by omega)
  have w1 : IntKind.i64.wrap ((k : Int) + 1) = ((k + 1 : Nat) : Int) := by rw [w64 (by omega) (by omega)]; omega
  have g1 := @idxG s k (.tmp 17) (.tmp 18) hlt
  have hb := hn k hlt (by omega)
  have c2 : ((((s[k]'hlt).toNat : Nat) : Int) != 115) = true := by simp; omega
  have ih := s_loop s hs K hK m (k + 1) (by omega) hn
  refine .more ?_ ih
  clear ih hn hb hK hk hs
  generalize (((s[k]'hlt).toNat : Nat) : Int) = b at *
  unfold stK
  exact piece [(0, 0)] [L, eb c1, gx _ 5 _ _ g1, eb c2, Go.Sy.e (congrArg (Value.int IntKind.i64) w1)] fol (by kernel_rfl)
theorem first_s (s : ByteArray) : ∀ m k, k + m = s.size → (∀ j (h : j < s.size), j < k → (s[j]'h).toNat ≠ 115) → ∃ K : Nat, (K = s.size ∨ ∃ h : K < s.size, (s[K]'h).toNat = 115) ∧ ∀ j (h : j < s.size), j < K → (s[j]'h).toNat ≠ 115
 | 0, k, hk, hn => ⟨s.size, .inl rfl, fun j h hj => hn j h (by omega)⟩
 | m + 1, k, hk, hn => by
  by_cases h : (s[k]'(by omega)).toNat = 115
  ·exact ⟨k, .inr ⟨by omega, h⟩, hn⟩
  ·exact first_s s m (k + 1) (by omega) fun j hj hjk => by
     rcases (by omega : j < k ∨ j = k) with h1 | rfl
     ·exact hn j hj h1
     ·exact h
theorem root_facts {y : Rl} (h0 : y.r ≠ 0) {s : ByteArray} (e : printL y = s) {K : Nat} (hK : K = s.size ∨ ∃ h : K < s.size, (s[K]'h).toNat = 115) (hn : ∀ j (h : j < s.size), j < K → (s[j]'h).toNat ≠ 115) :
    2 ≤ K ∧ K + 7 ≤ s.size ∧ s.extract K (K + 5) = sqS ∧ (∀ h : s.size - 1 < s.size, (s[s.size - 1]'h).toNat = 41) ∧ s.extract 0 (K - 1) = printQ y.p ∧ s.extract (K + 5) (s.size - 1) = printQ y.r ∧ ∀ h : K - 1 < s.size, s[K - 1]'h = sgnB y.neg := by
 subst e
 have hl : (printL y).data.toList = prL y.p ++ sgnB y.neg :: (sqL ++ (prL y.r ++ [41])) := by
  unfold printL prLL
  rw [if_neg h0]
 have hsz : (printL y).size = (prL y.p).length + (prL y.r).length + 7 := by
  rw [Lib.size_eq, hl, List.length_append, List.length_cons, List.length_append, List.length_append]
  show _ + (5 + (_ + 1) + 1) = _
  omega
 have hget : ∀ j (h : j < (printL y).size), (prL y.p ++ sgnB y.neg :: (sqL ++ (prL y.r ++ [41])))[j]? = some ((printL y)[j]'h) := fun j h => by
  rw [← hl, List.getElem?_eq_getElem (by rw [← Lib.size_eq]; exact h)]; rfl
 have get_of : ∀ j b, (prL y.p ++ sgnB y.neg :: (sqL ++ (prL y.r ++ [41])))[j]? = some b → ∀ h : j < (printL y).size, (printL y)[j]'h = b := fun j b h1 h => Option.some.inj ((hget j h).symm.trans h1)
 have np := prL_ne y.p
 have nr := prL_ne y.r
 have l1 : (prL y.p ++ sgnB y.neg :: (sqL ++ (prL y.r ++ [41])))[(prL y.p).length + 1]? = some 115 := by
  rw [List.getElem?_append_right (by omega), show (prL y.p).length + 1 - (prL y.p).length = 1 by omega]; rfl
 have l0 : (prL y.p ++ sgnB y.neg :: (sqL ++ (prL y.r ++ [41])))[(prL y.p).length]? = some (sgnB y.neg) := by
  rw [List.getElem?_append_right (Nat.le_refl _), Nat.sub_self]; rfl
 have at1 : ∀ h : (prL y.p).length + 1 < (printL y).size, ((printL y)[(prL y.p).length + 1]'h).toNat = 115 := fun h => by
  rw [get_of _ _ l1 h]; rfl
 have before : ∀ j (h : j < (printL y).size), j < (prL y.p).length + 1 → ((printL y)[j]'h).toNat ≠ 115 := fun j h hj => by
  rcases (by omega : j < (prL y.p).length ∨ j = (prL y.p).length) with h3 | h3
  ·have h2 := hget j h
   rw [List.getElem?_append_left h3] at h2
   have := prL_lt y.p _ (List.mem_of_getElem? h2)
   omega
  ·rw [get_of j (sgnB y.neg) (by rw [h3]; exact l0) h]
   have h4 := sgnB_lt y.neg
   omega
 have hKe : K = (prL y.p).length + 1 := by
  rcases Nat.lt_trichotomy K ((prL y.p).length + 1) with h | h | h
  ·rcases hK with h2 | ⟨h2, h3⟩
   ·omega
   ·exact absurd h3 (before K h2 h)
  ·exact h
  ·exact absurd (at1 (by omega)) (hn _ (by omega) h)
 have ext : ∀ a b, (printL y).extract a b = ⟨(((prL y.p ++ sgnB y.neg :: (sqL ++ (prL y.r ++ [41]))).drop a).take (b - a)).toArray⟩ := fun a b => by
  have h2 : printL y = ⟨(prL y.p ++ sgnB y.neg :: (sqL ++ (prL y.r ++ [41]))).toArray⟩ := by
   unfold printL prLL
   rw [if_neg h0]
  rw [h2, Lib.extract_mk]
 have dr : ∀ n, (prL y.p ++ sgnB y.neg :: (sqL ++ (prL y.r ++ [41]))).drop ((prL y.p).length + n) = (sgnB y.neg :: (sqL ++ (prL y.r ++ [41]))).drop n := fun n => by
  rw [List.drop_append, List.drop_of_length_le (by omega), List.nil_append, show (prL y.p).length + n - (prL y.p).length = n by omega]
 refine ⟨by omega, by omega, ?_, fun h => ?_, ?_, ?_, fun h => ?_⟩
 ·rw [ext, hKe, dr, show (prL y.p).length + 1 + 5 - ((prL y.p).length + 1) = 5 by omega]; rfl
 ·have h3 : (printL y).size - 1 = (prL y.p).length + (6 + (prL y.r).length) := by omega
  have h4 : (sgnB y.neg :: (sqL ++ (prL y.r ++ [41]))).drop (6 + (prL y.r).length) = [41] := by
   show ([sgnB y.neg, 115, 113, 114, 116, 40] ++ (prL y.r ++ [41])).drop (6 + (prL y.r).length) = [41]
   rw [List.drop_append, List.drop_of_length_le (by show 6 ≤ _; omega), List.nil_append, show 6 + (prL y.r).length - [sgnB y.neg, 115, 113, 114, 116, 40].length = (prL y.r).length by show 6 + _ - 6 = _; omega, List.drop_append, List.drop_of_length_le (Nat.le_refl _), Nat.sub_self]; rfl
  rw [get_of _ 41 (by rw [h3, ← List.head?_drop, dr, h4]; rfl) h]; rfl
 ·rw [ext, hKe, printQ_list, List.drop_zero, show (prL y.p).length + 1 - 1 - 0 = (prL y.p).length by omega, List.take_append, List.take_of_length_le (Nat.le_refl _), Nat.sub_self]; simp
 ·rw [ext, hKe, show (prL y.p).length + 1 + 5 = (prL y.p).length + 6 by omega, dr, printQ_list, show (printL y).size - 1 - ((prL y.p).length + 6) = (prL y.r).length by omega]
  show (⟨((prL y.r ++ [41]).take (prL y.r).length).toArray⟩ : ByteArray) = _
  rw [List.take_append, List.take_of_length_le (Nat.le_refl _), Nat.sub_self]; simp
 ·exact get_of _ _ (by rw [show K - 1 = (prL y.p).length by omega]; exact l0) h
end Go.Proofs.YthdaimoankaciaaGreatDoor

end
section
/- The reference's Parse of numbers with a root; chapter 3's laws about strings. -/
set_option linter.unusedSimpArgs false
set_option linter.unusedVariables false
namespace Go.Proofs.YthdaimoankaciaaGreatDoor
open Go Go.RowKit Go.Sy
open Vi
set_option maxHeartbeats 2000000 in
theorem gParse (s : ByteArray) (hs : s.size ≤ 200) : (∃ y : Rl, y.Ok ∧ printL y = s ∧ HasSz y.p 201 ∧ HasSz y.r 201 ∧ Sp Tryz.prog 27 [] [.string s] (.tuple #[rlV y, .bool true]) []) ∨ ((∀ y : Rl, y.Ok → printL y ≠ s) ∧ ∃ v : Rl, Sp Tryz.prog 27 [] [.string s] (.tuple #[rlV v, .bool false]) []) := by
 obtain ⟨K, hK, hn⟩ := first_s s s.size 0 (by omega) (fun j h hj => by omega)
 have hlp := (s_loop s (by omega) K hK K 0 (by omega) hn).loop
 unfold stK at hlp
 by_cases hKs : K = s.size
 ·
  have c1 : decide ((K : Int) = (s.size : Int)) = true := decide_eq_true (by omega)
  have noroot : ∀ y : Rl, printL y = s → y.r = 0 := fun y e => Classical.byContradiction fun h0 => by
   have := (root_facts h0 e hK hn).2.1
   omega
  have P := rParse s
  have z1 := parseQ_sz s 201 (by omega) (by omega)
  have O := gOf (parseQ s).1
  have Q := rPrint (parseQ s).1 fz
  by_cases he : (parseQ s).2 = 0
  ·have c2 : decide ((parseQ s).2 = 0) = true := decide_eq_true he
   by_cases e : printQ (parseQ s).1 = s
   ·left
    refine ⟨Rl.rat (parseQ s).1, Rl.rat_ok _, (printL_rat rfl).trans e, z1, hs_mono hz0 (by omega), ?_⟩
    have x1 := strEq2 e
    clear hs hK hn noroot z1 hKs e he
    generalize Rl.rat (parseQ s).1 = y at *
    generalize printQ (parseQ s).1 = t at *
    generalize (parseQ s).1 = q at *
    generalize (parseQ s).2 = z at *
    exact walk (code := Tryz.f27.body.getD .skip) [lp [(0, 0)] hlp, L, eb c1, c P, c O, eb c2, c Q, eb x1] fol Tryz.func27 (by kernel_rfl) (fun xs w => Tryz.call27 xs w) (by kernel_rfl)
   ·right
    refine ⟨fun y hy e2 => e ?_, Rl.rat (parseQ s).1, ?_⟩
    ·have h0 := noroot y e2
     rw [printL_rat h0] at e2
     have := parse_print y.p (by rw [e2]; omega)
     rw [e2] at this
     rw [this]; exact e2
    ·have x1 := strNe e
     clear hs hK hn noroot z1 hKs e he
     generalize Rl.rat (parseQ s).1 = y at *
     generalize printQ (parseQ s).1 = t at *
     generalize (parseQ s).1 = q at *
     generalize (parseQ s).2 = z at *
     exact walk (code := Tryz.f27.body.getD .skip) [lp [(0, 0)] hlp, L, eb c1, c P, c O, eb c2, c Q, eb x1] fol Tryz.func27 (by kernel_rfl) (fun xs w => Tryz.call27 xs w) (by kernel_rfl)
  ·right
   refine ⟨fun y hy e2 => he ?_, Rl.rat (parseQ s).1, ?_⟩
   ·have h0 := noroot y e2
    rw [printL_rat h0] at e2
    have := parse_print y.p (by rw [e2]; omega)
    rw [e2] at this
    rw [this]
   ·have c2 : decide ((parseQ s).2 = 0) = false := decide_eq_false he
    clear hs hK hn noroot z1 hKs he
    generalize Rl.rat (parseQ s).1 = y at *
    generalize printQ (parseQ s).1 = t at *
    generalize (parseQ s).1 = q at *
    generalize (parseQ s).2 = z at *
    exact walk (code := Tryz.f27.body.getD .skip) [lp [(0, 0)] hlp, L, eb c1, c P, c O, eb c2] fol Tryz.func27 (by kernel_rfl) (fun xs w => Tryz.call27 xs w) (by kernel_rfl)
 have hlt : K < s.size := by rcases hK with h | ⟨h, _⟩ <;> omega
 have c1 : decide ((K : Int) = (s.size : Int)) = false := decide_eq_false (by omega)
 have isroot : ∀ y : Rl, printL y = s → y.r ≠ 0 := fun y e h0 => by
  obtain ⟨h, h2⟩ : ∃ h : K < s.size, (s[K]'h).toNat = 115 := by rcases hK with h | h; exact absurd h hKs; exact h
  rw [printL_rat h0, printQ_list] at e
  have h3 : (prL y.p)[K]? = some (s[K]'h) := by
   have h4 : s.data.toList = prL y.p := by rw [← e]
   rw [← h4, List.getElem?_eq_getElem (by rw [← Lib.size_eq]; exact h)]; rfl
  have := prL_lt y.p _ (List.mem_of_getElem? h3)
  omega
 have facts : ∀ y : Rl, printL y = s → _ := fun y e => root_facts (isroot y e) e hK hn
 have wz : ∀ v : Value, v = lZ → v = rlV (Rl.rat 0) := fun v h => h.trans rlV0.symm
 by_cases k2 : K < 2
 ·right
  refine ⟨fun y hy e => by have := (facts y e).1; omega, Rl.rat 0, ?_⟩
  rw [rlV0]
  have c2 : decide ((K : Int) < 2) = true := decide_eq_true (by omega)
  clear hs hK hn isroot facts wz hKs k2 hlt
  exact walk (code := Tryz.f27.body.getD .skip) [lp [(0, 0)] hlp, L, eb c1, eb c2] fol Tryz.func27 (by kernel_rfl) (fun xs w => Tryz.call27 xs w) (by kernel_rfl)
 have c2 : decide ((K : Int) < 2) = false := decide_eq_false (by omega)
 have w1 : IntKind.i64.wrap ((K : Int) + 7) = ((K + 7 : Nat) : Int) := by rw [w64 (by omega) (by omega)]; omega
 by_cases k7 : s.size < K + 7
 ·right
  refine ⟨fun y hy e => by have := (facts y e).2.1; omega, Rl.rat 0, ?_⟩
  rw [rlV0]
  have c3 : decide ((s.size : Int) < ((K + 7 : Nat) : Int)) = true := decide_eq_true (by omega)
  clear hs hK hn isroot facts wz hKs k2 hlt k7
  exact walk (code := Tryz.f27.body.getD .skip) [lp [(0, 0)] hlp, L, eb c1, eb c2, L, Go.Sy.e (congrArg (Value.int IntKind.i64) w1), eb c3] fol Tryz.func27 (by kernel_rfl) (fun xs w => Tryz.call27 xs w) (by kernel_rfl)
 have c3 : decide ((s.size : Int) < ((K + 7 : Nat) : Int)) = false := decide_eq_false (by omega)
 have w2 : IntKind.i64.wrap ((K : Int) + 5) = ((K + 5 : Nat) : Int) := by rw [w64 (by omega) (by omega)]; omega
 have g1 := @slB2 s (K : Int) ((K + 5 : Nat) : Int) (.tmp 53) (.tmp 54) (.tmp 56) (by omega) (by omega) (by omega)
 rw [Int.toNat_natCast, Int.toNat_natCast] at g1
 by_cases kq : s.extract K (K + 5) = sqS
 rotate_left
 ·right
  refine ⟨fun y hy e => kq (facts y e).2.2.1, Rl.rat 0, ?_⟩
  rw [rlV0]
  have c4 := strNe' kq
  unfold sqS at c4
  clear hs hK hn isroot facts wz hKs k2 hlt k7 kq
  generalize s.extract K (K + 5) = a at *
  exact walk (code := Tryz.f27.body.getD .skip) [lp [(0, 0)] hlp, L, eb c1, eb c2, L, Go.Sy.e (congrArg (Value.int IntKind.i64) w1), eb c3, Go.Sy.e (congrArg (Value.int IntKind.i64) w2), gx _ 9 _ _ g1, eb c4] fol Tryz.func27 (by kernel_rfl) (fun xs w => Tryz.call27 xs w) (by kernel_rfl)
 have c4 := strEq' kq
 unfold sqS at c4
 obtain ⟨n, hn1⟩ : ∃ n, s.size = n + 1 := ⟨s.size - 1, by omega⟩
 have hn2 : n < s.size := by omega
 have g2 := @idxG s n (.tmp 61) (.tmp 64) hn2
 have w3 : IntKind.i64.wrap ((s.size : Int) - 1) = (n : Int) := by rw [w64 (by omega) (by omega)]; omega
 by_cases kb : (s[n]'hn2).toNat = 41
 rotate_left
 ·right
  refine ⟨fun y hy e => kb ?_, Rl.rat 0, ?_⟩
  ·have := (facts y e).2.2.2.1 (by omega)
   have e2 : s.size - 1 = n := by omega
   simp only [e2] at this
   exact this
  rw [rlV0]
  have c5 : ((((s[n]'hn2).toNat : Nat) : Int) != 41) = true := by simp; omega
  clear hs hK hn isroot facts wz hKs k2 hlt k7 kq kb
  generalize s.extract K (K + 5) = a at *
  generalize ((s[n]'hn2).toNat : Nat) = b at *
  exact walk (code := Tryz.f27.body.getD .skip) [lp [(0, 0)] hlp, L, eb c1, eb c2, L, Go.Sy.e (congrArg (Value.int IntKind.i64) w1), eb c3, Go.Sy.e (congrArg (Value.int IntKind.i64) w2), gx _ 9 _ _ g1, eb c4, L, Go.Sy.e (congrArg (Value.int IntKind.i64) w3), gx _ 5 _ _ g2, eb c5] fol Tryz.func27 (by kernel_rfl) (fun xs w => Tryz.call27 xs w) (by kernel_rfl)
 rw [kb] at g2
 obtain ⟨m, hm1⟩ : ∃ m, K = m + 1 := ⟨K - 1, by omega⟩
 have w4 : IntKind.i64.wrap ((K : Int) - 1) = (m : Int) := by rw [w64 (by omega) (by omega)]; omega
 have g3 := @slH2 s (m : Int) (.tmp 70) (.tmp 72) (by omega) (by omega)
 rw [Int.toNat_natCast] at g3
 have g4 := @slB2 s ((K + 5 : Nat) : Int) (n : Int) (.tmp 78) (.tmp 80) (.tmp 83) (by omega) (by omega) (by omega)
 rw [Int.toNat_natCast, Int.toNat_natCast] at g4
 have hm2 : m < s.size := by omega
 have g5 := @idxG s m (.tmp 90) (.tmp 92) hm2
 have z1 := parseQ_sz (s.extract 0 m) 201 (by rw [ByteArray.size_extract]; omega) (by omega)
 have z2 := parseQ_sz (s.extract (K + 5) n) 201 (by rw [ByteArray.size_extract]; omega) (by omega)
 have P1 := rParse (s.extract 0 m)
 have P2 := rParse (s.extract (K + 5) n)
 have facts2 : ∀ y : Rl, y.Ok → printL y = s → parseQ (s.extract 0 m) = (y.p, 0) ∧ parseQ (s.extract (K + 5) n) = (y.r, 0) ∧ decide (((((s[m]'hm2).toNat : Nat) : Int)) = 45) = y.neg := fun y hy e => by
  obtain ⟨f1, f2, f3, f4, f5, f6, f7⟩ := facts y e
  have e1 : K - 1 = m := by omega
  have e2 : s.size - 1 = n := by omega
  have sz := printL_sizes 200 (by rw [e]; exact hs) (by omega) (by omega) hy
  rw [e1] at f5
  rw [e2] at f6
  rw [f5, f6]
  refine ⟨parse_print y.p (by have := sz.2.2.1; omega), parse_print y.r (by have := sz.2.2.2 (isroot y e); omega), ?_⟩
  have f8 : s[m]'hm2 = sgnB y.neg := by
   have := f7 (by omega)
   simp only [e1] at this
   exact this
  rw [f8]
  cases y.neg <;> rfl
 clear facts isroot wz
 obtain ⟨x, hx⟩ : ∃ x : Rl, x = ⟨(parseQ (s.extract 0 m)).1, (parseQ (s.extract (K + 5) n)).1, decide (((((s[m]'hm2).toNat : Nat) : Int)) = 45)⟩ := ⟨_, rfl⟩
 haveI z3 : HasSz x.p 201 := by rw [hx]; exact z1
 haveI z4 : HasSz x.r 201 := by rw [hx]; exact z2
 have same : ∀ y : Rl, y.Ok → printL y = s → x = y := fun y hy e => by
  obtain ⟨f1, f2, f3⟩ := facts2 y hy e
  rw [hx, f1, f2, f3]
 have D := gCheckQ x fz fz
 have R := gPrint x
 have e1 : (∀ y : Rl, y.Ok → printL y = s → (parseQ (s.extract 0 m)).2 = 0) := fun y hy e => by rw [(facts2 y hy e).1]
 have e2 : (∀ y : Rl, y.Ok → printL y = s → (parseQ (s.extract (K + 5) n)).2 = 0) := fun y hy e => by rw [(facts2 y hy e).2.1]
 have back : printL x = s → x.Ok → True := fun _ _ => trivial
 have xv : rlV x = .agg #[.bool (sg (parseQ (s.extract 0 m)).1.num), .string (mg (parseQ (s.extract 0 m)).1.num), .bool (sg (dn (parseQ (s.extract 0 m)).1)), .string (mg (dn (parseQ (s.extract 0 m)).1)), .bool (sg (parseQ (s.extract (K + 5) n)).1.num), .string (mg (parseQ (s.extract (K + 5) n)).1.num), .bool (sg (dn (parseQ (s.extract (K + 5) n)).1)), .string (mg (dn (parseQ (s.extract (K + 5) n)).1)), .bool (decide (((((s[m]'hm2).toNat : Nat) : Int)) = 45))] := by rw [hx]; rfl
 have c5 : ((41 : Int) != 41) = false := rfl
 have c5' : (((41 : Nat) : Int) != 41) = false := rfl
 clear facts2 z1 z2 hx kq kb back
 rw [xv] at D R
 have fin : ∀ b : Bool, Sp Tryz.prog 27 [] [.string s] (.tuple #[.agg #[.bool (sg (parseQ (s.extract 0 m)).1.num), .string (mg (parseQ (s.extract 0 m)).1.num), .bool (sg (dn (parseQ (s.extract 0 m)).1)), .string (mg (dn (parseQ (s.extract 0 m)).1)), .bool (sg (parseQ (s.extract (K + 5) n)).1.num), .string (mg (parseQ (s.extract (K + 5) n)).1.num), .bool (sg (dn (parseQ (s.extract (K + 5) n)).1)), .string (mg (dn (parseQ (s.extract (K + 5) n)).1)), .bool (decide (((((s[m]'hm2).toNat : Nat) : Int)) = 45))], .bool b]) [] → Sp Tryz.prog 27 [] [.string s] (.tuple #[rlV x, .bool b]) [] := fun b h => by rw [xv]; exact h
 by_cases h1 : (parseQ (s.extract 0 m)).2 = 0
 rotate_left
 ·right
  refine ⟨fun y hy e => h1 (e1 y hy e), Rl.rat 0, ?_⟩
  rw [rlV0]
  have c6 : ((parseQ (s.extract 0 m)).2 != 0) = true := by simp [h1]
  clear hs hK hn hKs k2 hlt k7 z3 z4 same e1 e2 h1 xv fin D R
  generalize s.extract K (K + 5) = a1 at *
  generalize ((s[m]'hm2).toNat : Nat) = b2 at *
  generalize s.extract 0 m = a2 at *
  generalize s.extract (K + 5) n = a3 at *
  generalize (parseQ a2).1 = q1 at *
  generalize (parseQ a2).2 = o1 at *
  generalize (parseQ a3).1 = q2 at *
  generalize (parseQ a3).2 = o2 at *
  exact walk (code := Tryz.f27.body.getD .skip) [lp [(0, 0)] hlp, L, eb c1, eb c2, L, Go.Sy.e (congrArg (Value.int IntKind.i64) w1), eb c3, Go.Sy.e (congrArg (Value.int IntKind.i64) w2), gx _ 9 _ _ g1, eb c4, L, Go.Sy.e (congrArg (Value.int IntKind.i64) w3), gx _ 5 _ _ g2, L, Go.Sy.e (congrArg (Value.int IntKind.i64) w4), gx _ 9 _ _ g3, c P1, Go.Sy.e (congrArg (Value.int IntKind.i64) w2), L, Go.Sy.e (congrArg (Value.int IntKind.i64) w3), gx _ 9 _ _ g4, c P2, Go.Sy.e (congrArg (Value.int IntKind.i64) w4), gx _ 5 _ _ g5, L, eb c6] fol Tryz.func27 (by kernel_rfl) (fun xs w => Tryz.call27 xs w) (by kernel_rfl)
 have c6 : ((parseQ (s.extract 0 m)).2 != 0) = false := by simp [h1]
 by_cases h2 : (parseQ (s.extract (K + 5) n)).2 = 0
 rotate_left
 ·right
  refine ⟨fun y hy e => h2 (e2 y hy e), Rl.rat 0, ?_⟩
  rw [rlV0]
  have c7 : ((parseQ (s.extract (K + 5) n)).2 != 0) = true := by simp [h2]
  clear hs hK hn hKs k2 hlt k7 z3 z4 same e1 e2 h1 h2 xv fin D R
  generalize s.extract K (K + 5) = a1 at *
  generalize ((s[m]'hm2).toNat : Nat) = b2 at *
  generalize s.extract 0 m = a2 at *
  generalize s.extract (K + 5) n = a3 at *
  generalize (parseQ a2).1 = q1 at *
  generalize (parseQ a2).2 = o1 at *
  generalize (parseQ a3).1 = q2 at *
  generalize (parseQ a3).2 = o2 at *
  exact walk (code := Tryz.f27.body.getD .skip) [lp [(0, 0)] hlp, L, eb c1, eb c2, L, Go.Sy.e (congrArg (Value.int IntKind.i64) w1), eb c3, Go.Sy.e (congrArg (Value.int IntKind.i64) w2), gx _ 9 _ _ g1, eb c4, L, Go.Sy.e (congrArg (Value.int IntKind.i64) w3), gx _ 5 _ _ g2, L, Go.Sy.e (congrArg (Value.int IntKind.i64) w4), gx _ 9 _ _ g3, c P1, Go.Sy.e (congrArg (Value.int IntKind.i64) w2), L, Go.Sy.e (congrArg (Value.int IntKind.i64) w3), gx _ 9 _ _ g4, c P2, Go.Sy.e (congrArg (Value.int IntKind.i64) w4), gx _ 5 _ _ g5, L, eb c6, eb c7] fol Tryz.func27 (by kernel_rfl) (fun xs w => Tryz.call27 xs w) (by kernel_rfl)
 have c7 : ((parseQ (s.extract (K + 5) n)).2 != 0) = false := by simp [h2]
 by_cases h3 : x.Ok
 rotate_left
 ·right
  refine ⟨fun y hy e => h3 (by rw [same y hy e]; exact hy), Rl.rat 0, ?_⟩
  rw [rlV0]
  rw [okL_no h3] at D
  clear hs hK hn hKs k2 hlt k7 z3 z4 same e1 e2 h1 h2 xv fin R h3
  generalize s.extract K (K + 5) = a1 at *
  generalize ((s[m]'hm2).toNat : Nat) = b2 at *
  generalize s.extract 0 m = a2 at *
  generalize s.extract (K + 5) n = a3 at *
  generalize (parseQ a2).1 = q1 at *
  generalize (parseQ a2).2 = o1 at *
  generalize (parseQ a3).1 = q2 at *
  generalize (parseQ a3).2 = o2 at *
  exact walk (code := Tryz.f27.body.getD .skip) [lp [(0, 0)] hlp, L, eb c1, eb c2, L, Go.Sy.e (congrArg (Value.int IntKind.i64) w1), eb c3, Go.Sy.e (congrArg (Value.int IntKind.i64) w2), gx _ 9 _ _ g1, eb c4, L, Go.Sy.e (congrArg (Value.int IntKind.i64) w3), gx _ 5 _ _ g2, L, Go.Sy.e (congrArg (Value.int IntKind.i64) w4), gx _ 9 _ _ g3, c P1, Go.Sy.e (congrArg (Value.int IntKind.i64) w2), L, Go.Sy.e (congrArg (Value.int IntKind.i64) w3), gx _ 9 _ _ g4, c P2, Go.Sy.e (congrArg (Value.int IntKind.i64) w4), gx _ 5 _ _ g5, L, eb c6, eb c7, c D] fol Tryz.func27 (by kernel_rfl) (fun xs w => Tryz.call27 xs w) (by kernel_rfl)
 rw [okL_yes h3] at D
 by_cases h4 : printL x = s
 ·left
  refine ⟨x, h3, h4, z3, z4, fin true ?_⟩
  have c8 := strEq' h4
  clear hs hK hn hKs k2 hlt k7 z3 z4 same e1 e2 h1 h2 xv fin h3 h4
  generalize printL x = t at *
  generalize s.extract K (K + 5) = a1 at *
  generalize ((s[m]'hm2).toNat : Nat) = b2 at *
  generalize s.extract 0 m = a2 at *
  generalize s.extract (K + 5) n = a3 at *
  generalize (parseQ a2).1 = q1 at *
  generalize (parseQ a2).2 = o1 at *
  generalize (parseQ a3).1 = q2 at *
  generalize (parseQ a3).2 = o2 at *
  exact walk (code := Tryz.f27.body.getD .skip) [lp [(0, 0)] hlp, L, eb c1, eb c2, L, Go.Sy.e (congrArg (Value.int IntKind.i64) w1), eb c3, Go.Sy.e (congrArg (Value.int IntKind.i64) w2), gx _ 9 _ _ g1, eb c4, L, Go.Sy.e (congrArg (Value.int IntKind.i64) w3), gx _ 5 _ _ g2, L, Go.Sy.e (congrArg (Value.int IntKind.i64) w4), gx _ 9 _ _ g3, c P1, Go.Sy.e (congrArg (Value.int IntKind.i64) w2), L, Go.Sy.e (congrArg (Value.int IntKind.i64) w3), gx _ 9 _ _ g4, c P2, Go.Sy.e (congrArg (Value.int IntKind.i64) w4), gx _ 5 _ _ g5, L, eb c6, eb c7, c D, c R, eb c8] fol Tryz.func27 (by kernel_rfl) (fun xs w => Tryz.call27 xs w) (by kernel_rfl)
 ·right
  refine ⟨fun y hy e => h4 (by rw [same y hy e]; exact e), Rl.rat 0, ?_⟩
  rw [rlV0]
  have c8 := strNe' h4
  clear hs hK hn hKs k2 hlt k7 z3 z4 same e1 e2 h1 h2 xv fin h3 h4
  generalize printL x = t at *
  generalize s.extract K (K + 5) = a1 at *
  generalize ((s[m]'hm2).toNat : Nat) = b2 at *
  generalize s.extract 0 m = a2 at *
  generalize s.extract (K + 5) n = a3 at *
  generalize (parseQ a2).1 = q1 at *
  generalize (parseQ a2).2 = o1 at *
  generalize (parseQ a3).1 = q2 at *
  generalize (parseQ a3).2 = o2 at *
  exact walk (code := Tryz.f27.body.getD .skip) [lp [(0, 0)] hlp, L, eb c1, eb c2, L, Go.Sy.e (congrArg (Value.int IntKind.i64) w1), eb c3, Go.Sy.e (congrArg (Value.int IntKind.i64) w2), gx _ 9 _ _ g1, eb c4, L, Go.Sy.e (congrArg (Value.int IntKind.i64) w3), gx _ 5 _ _ g2, L, Go.Sy.e (congrArg (Value.int IntKind.i64) w4), gx _ 9 _ _ g3, c P1, Go.Sy.e (congrArg (Value.int IntKind.i64) w2), L, Go.Sy.e (congrArg (Value.int IntKind.i64) w3), gx _ 9 _ _ g4, c P2, Go.Sy.e (congrArg (Value.int IntKind.i64) w4), gx _ 5 _ _ g5, L, eb c6, eb c7, c D, c R, eb c8] fol Tryz.func27 (by kernel_rfl) (fun xs w => Tryz.call27 xs w) (by kernel_rfl)
theorem RealParses_s (s : ByteArray) (hs : s.size ≤ 9223372036854775807) : Sp Tryz.prog 5 [] [.string s] (.bool true) [] := by
 have K := vKnown3
 by_cases h : s.size ≤ 60
 ·have c1 : decide ((s.size : Int) > 60) = false := decide_eq_false (by omega)
  rcases qParse s (by omega) with ⟨y, hy, e, z1, z2, Q⟩ | ⟨hno, Q⟩
  ·rcases gParse s (by omega) with ⟨y2, hy2, e2, _, _, G⟩ | ⟨hno, _⟩
   ·have := printL_inj hy hy2 (e.trans e2.symm) (by rw [e]; omega)
    subst this
    have x2 := sameL y
    clear e e2 hy hy2 z1 z2 h hs
    obtain ⟨p, r, neg⟩ := y
    exact walk (code := Tryz.f5.body.getD .skip) [c K, L, L, eb c1, c Q, c G, Sy.x2 x2] fol Tryz.func5 (by kernel_rfl) (fun xs w => Tryz.call5 xs w) (by kernel_rfl)
   ·exact absurd e (hno y hy)
  ·rcases gParse s (by omega) with ⟨y2, hy2, e2, _, _, G⟩ | ⟨_, v, G⟩
   ·exact absurd e2 (hno y2 hy2)
   ·have x2 := sameLZ
    clear hno h hs
    obtain ⟨p, r, neg⟩ := v
    exact walk (code := Tryz.f5.body.getD .skip) [c K, L, L, eb c1, c Q, c G, Sy.x2 x2] fol Tryz.func5 (by kernel_rfl) (fun xs w => Tryz.call5 xs w) (by kernel_rfl)
 ·have c1 : decide ((s.size : Int) > 60) = true := decide_eq_true (by omega)
  clear h hs
  exact walk (code := Tryz.f5.body.getD .skip) [c K, L, L, eb c1, c K] fol Tryz.func5 (by kernel_rfl) (fun xs w => Tryz.call5 xs w) (by kernel_rfl)
theorem RealParses_c (s : ByteArray) (w : World) (hw : w.ShapedOpen Tryz.prog) (hs : s.size ≤ 9223372036854775807) : Calls Tryz.prog 5 #[.string s] w fun e w' => e = .returned (.bool true) ∧ Below w.heap.size w w' := (RealParses_s s hs).calls rfl rfl w hw
end Go.Proofs.YthdaimoankaciaaGreatDoor

end
