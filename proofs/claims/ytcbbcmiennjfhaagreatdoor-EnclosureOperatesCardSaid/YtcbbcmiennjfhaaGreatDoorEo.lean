import Derived.Test.YtcbbcmiennjfhaaGreatDoorEB
/- Chapter 5's law about operations. -/
set_option linter.unusedSimpArgs false
set_option linter.unusedVariables false
namespace Go.Proofs.YtcbbcmiennjfhaaGreatDoor
open Go Go.RowKit Go.Sy
open Vi
theorem fLeast3 (a b c : Rat) (k : Nat) (hk : k ≤ 1000) [HasSz a k] [HasSz b k] [HasSz c k] : Sp Tryz.prog 155 [(3, rC a ++ rC b ++ rC c)] [row 0 3] (rV (lsQ (lsQ a b) c)) [] := by
 have C0 := rCmp0 a fz
 have C1 := rCompare b a fz fz
 have C2 := rCompare c (lsQ a b) fz fz
 rcases lsQ_cases a b with ⟨h1, g1⟩ | ⟨h1, g1⟩
 ·have e1 := cmpQ_lss h1
  rw [g1] at C2 ⊢
  rcases lsQ_cases b c with ⟨h2, g2⟩ | ⟨h2, g2⟩
  ·have e2 := cmpQ_lss h2
   rw [g2]
   clear h1 h2 g1 g2
   exact walk (code := Tryz.f155.body.getD .skip) [Sy.c C0, Sy.c C1, eb e1, Sy.c C2, eb e2] fol Tryz.func155 (by kernel_rfl) (fun xs w => Tryz.call155 xs w) (by kernel_rfl)
  ·have e2 := cmpQ_lss h2
   rw [g2]
   clear h1 h2 g1 g2
   exact walk (code := Tryz.f155.body.getD .skip) [Sy.c C0, Sy.c C1, eb e1, Sy.c C2, eb e2] fol Tryz.func155 (by kernel_rfl) (fun xs w => Tryz.call155 xs w) (by kernel_rfl)
 ·have e1 := cmpQ_lss h1
  rw [g1] at C2 ⊢
  rcases lsQ_cases a c with ⟨h2, g2⟩ | ⟨h2, g2⟩
  ·have e2 := cmpQ_lss h2
   rw [g2]
   clear h1 h2 g1 g2
   exact walk (code := Tryz.f155.body.getD .skip) [Sy.c C0, Sy.c C1, eb e1, Sy.c C2, eb e2] fol Tryz.func155 (by kernel_rfl) (fun xs w => Tryz.call155 xs w) (by kernel_rfl)
  ·have e2 := cmpQ_lss h2
   rw [g2]
   clear h1 h2 g1 g2
   exact walk (code := Tryz.f155.body.getD .skip) [Sy.c C0, Sy.c C1, eb e1, Sy.c C2, eb e2] fol Tryz.func155 (by kernel_rfl) (fun xs w => Tryz.call155 xs w) (by kernel_rfl)
theorem fGreatest3 (a b c : Rat) (k : Nat) (hk : k ≤ 1000) [HasSz a k] [HasSz b k] [HasSz c k] : Sp Tryz.prog 156 [(3, rC a ++ rC b ++ rC c)] [row 0 3] (rV (grQ (grQ a b) c)) [] := by
 have C0 := rCmp0 a fz
 have C1 := rCompare b a fz fz
 have C2 := rCompare c (grQ a b) fz fz
 rcases grQ_cases a b with ⟨h1, g1⟩ | ⟨h1, g1⟩
 ·have e1 := cmpQ_gtr h1
  rw [g1] at C2 ⊢
  rcases grQ_cases b c with ⟨h2, g2⟩ | ⟨h2, g2⟩
  ·have e2 := cmpQ_gtr h2
   rw [g2]
   clear h1 h2 g1 g2
   exact walk (code := Tryz.f156.body.getD .skip) [Sy.c C0, Sy.c C1, eb e1, Sy.c C2, eb e2] fol Tryz.func156 (by kernel_rfl) (fun xs w => Tryz.call156 xs w) (by kernel_rfl)
  ·have e2 := cmpQ_gtr h2
   rw [g2]
   clear h1 h2 g1 g2
   exact walk (code := Tryz.f156.body.getD .skip) [Sy.c C0, Sy.c C1, eb e1, Sy.c C2, eb e2] fol Tryz.func156 (by kernel_rfl) (fun xs w => Tryz.call156 xs w) (by kernel_rfl)
 ·have e1 := cmpQ_gtr h1
  rw [g1] at C2 ⊢
  rcases grQ_cases a c with ⟨h2, g2⟩ | ⟨h2, g2⟩
  ·have e2 := cmpQ_gtr h2
   rw [g2]
   clear h1 h2 g1 g2
   exact walk (code := Tryz.f156.body.getD .skip) [Sy.c C0, Sy.c C1, eb e1, Sy.c C2, eb e2] fol Tryz.func156 (by kernel_rfl) (fun xs w => Tryz.call156 xs w) (by kernel_rfl)
  ·have e2 := cmpQ_gtr h2
   rw [g2]
   clear h1 h2 g1 g2
   exact walk (code := Tryz.f156.body.getD .skip) [Sy.c C0, Sy.c C1, eb e1, Sy.c C2, eb e2] fol Tryz.func156 (by kernel_rfl) (fun xs w => Tryz.call156 xs w) (by kernel_rfl)
theorem fAround3 (a b c : Rat) (k : Nat) (hk : k ≤ 1000) [HasSz a k] [HasSz b k] [HasSz c k] : Sp Tryz.prog 110 [(3, rC a ++ rC b ++ rC c)] [row 0 3] (oV (lsQ (lsQ a b) c) (grQ (grQ a b) c)) [] := by
 have L1 := fLeast3 a b c k hk
 have G1 := fGreatest3 a b c k hk
 generalize lsQ (lsQ a b) c = x at *
 generalize grQ (grQ a b) c = y at *
 exact walk (code := Tryz.f110.body.getD .skip) [cr L1, cr G1] fol Tryz.func110 (by kernel_rfl) (fun xs w => Tryz.call110 xs w) (by kernel_rfl)
theorem lsQ_min (x y : Rat) : lsQ x y = minQ x y := by unfold lsQ minQ; grind
theorem grQ_max (x y : Rat) : grQ x y = maxQ x y := by unfold grQ maxQ; grind
theorem sq_nn (x : Rat) : 0 ≤ x * x := by
 by_cases h : 0 ≤ x
 ·exact Rat.mul_nonneg h h
 ·have := Rat.mul_nonneg (a := -x) (b := -x) (by grind) (by grind)
  rwa [Rat.neg_mul, Rat.mul_neg, Rat.neg_neg] at this
theorem sq_low {l h : Rat} (hlh : l ≤ h) (h0 : l ≤ 0 ∧ 0 ≤ h) : lsQ (lsQ (l * l) (h * h)) 0 = 0 := by
 have a := sq_nn l
 have b := sq_nn h
 unfold lsQ
 grind
theorem sq_high (l h : Rat) : grQ (grQ (l * l) (h * h)) 0 = maxQ (l * l) (h * h) := by
 have a := sq_nn l
 have b := sq_nn h
 rw [grQ_max]
 unfold grQ maxQ
 grind
theorem fSquare (l h : Rat) (k : Nat) (hk : k ≤ 200) (hlh : l ≤ h) [HasSz l k] [HasSz h k] : Sp Tryz.prog 46 [] [oV l h] (oV (sqLow l h) (maxQ (l * l) (h * h))) [] := by
 have M1 := rMul l l fz fz
 have M2 := rMul h h fz fz
 have C := fContains l h 0 fz fz fz
 rw [rV0] at C
 unfold sqLow
 by_cases h1 : l ≤ 0 ∧ 0 ≤ h
 ·rw [if_pos h1]
  rw [decide_eq_true h1.1, decide_eq_true h1.2, Bool.and_self] at C
  have A : Sp Tryz.prog 110 [(3, rC (l * l) ++ rC (h * h) ++ rC 0)] [row 0 3] (oV (lsQ (lsQ (l * l) (h * h)) 0) (grQ (grQ (l * l) (h * h)) 0)) [] := by
   haveI : HasSz (l * l) (k + k + 1) := hs_mono (i := k + k) inferInstance (by omega)
   haveI : HasSz (h * h) (k + k + 1) := hs_mono (i := k + k) inferInstance (by omega)
   haveI : HasSz (0 : Rat) (k + k + 1) := hs_mono (i := 1) inferInstance (by omega)
   exact fAround3 (l * l) (h * h) 0 (k + k + 1) (by omega)
  rw [sq_low hlh h1, sq_high, show rC 0 = [.bool (sg 0), .string (mg 0), .bool (sg 0), .string (mg 0)] from rfl, sg0, mg0] at A
  generalize maxQ (l * l) (h * h) = m at *
  generalize l * l = u at *
  generalize h * h = v at *
  clear h1 hlh
  exact walk (code := Tryz.f46.body.getD .skip) [c M1, c M2, OW, c C, cr A] fol Tryz.func46 (by kernel_rfl) (fun xs w => Tryz.call46 xs w) (by kernel_rfl)
 ·rw [if_neg h1]
  have e : (decide (l ≤ 0) && decide (0 ≤ h)) = false := by
   rw [← Bool.decide_and, decide_eq_false h1]
  rw [e] at C
  have A := fAround2 (l * l) (h * h) (k + k) (by omega)
  rw [lsQ_min, grQ_max] at A
  generalize maxQ (l * l) (h * h) = m at *
  generalize minQ (l * l) (h * h) = n at *
  generalize l * l = u at *
  generalize h * h = v at *
  clear h1 hlh e
  exact walk (code := Tryz.f46.body.getD .skip) [c M1, c M2, OW, c C, cr A] fol Tryz.func46 (by kernel_rfl) (fun xs w => Tryz.call46 xs w) (by kernel_rfl)
theorem mul_chain (a b c d : Rat) : lsQ (lsQ (lsQ a b) c) d = minQ (minQ (minQ a b) c) d ∧ grQ (grQ (grQ a b) c) d = maxQ (maxQ (maxQ a b) c) d := by
 constructor <;> simp only [lsQ_min, grQ_max]
theorem oSub0 (l h : Rat) (hlh : l ≤ h) : lsQ (0 - h) (0 - l) = -h ∧ grQ (0 - h) (0 - l) = -l := by unfold lsQ grQ; grind
theorem oAddE {a b c d : Rat} (h1 : a ≤ b) (h2 : c ≤ d) : lsQ (a + c) (b + d) = a + c ∧ grQ (a + c) (b + d) = b + d := by unfold lsQ grQ; grind
theorem oSubE {a b c d : Rat} (h1 : a ≤ b) (h2 : c ≤ d) : lsQ (a - d) (b - c) = a + -d ∧ grQ (a - d) (b - c) = b + -c := by unfold lsQ grQ; grind
theorem div_chain (a b x y : Rat) : lsQ (lsQ (lsQ (a / x) (a / y)) (b / x)) (b / y) = minQ (minQ (minQ (a * (1 / y)) (a * (1 / x))) (b * (1 / y))) (b * (1 / x)) ∧ grQ (grQ (grQ (a / x) (a / y)) (b / x)) (b / y) = maxQ (maxQ (maxQ (a * (1 / y)) (a * (1 / x))) (b * (1 / y))) (b * (1 / x)) := by
 have d1 : ∀ u v : Rat, u / v = u * (1 / v) := fun u v => by rw [Rat.div_def, Rat.div_def, Rat.one_mul]
 rw [d1 a x, d1 a y, d1 b x, d1 b y]
 generalize a * (1 / x) = p
 generalize a * (1 / y) = q
 generalize b * (1 / x) = r
 generalize b * (1 / y) = s
 simp only [lsQ_min, grQ_max]
 unfold minQ maxQ
 grind
theorem EnclosureOperates_s (n1 d1 n2 d2 n3 d3 n4 d4 n5 d5 : Int) (hp : PairOk n1 d1 n2 d2) (hq : PairOk n3 d3 n4 d4) (hr : PartOk n5 d5) : Sp Tryz.prog 7 [] [pairV n1 d1 n2 d2, pairV n3 d3 n4 d4, .agg #[.int .i32 n5, .int .u16 d5]] (.bool true) [] := by
 obtain ⟨l, h, sl, sh, hlh, kp⟩ := vPair n1 d1 n2 d2 hp.1 hp.2.1 hp.2.2.1 hp.2.2.2
 obtain ⟨m, k, sm, sk, hmk, kq⟩ := vPair n3 d3 n4 d4 hq.1 hq.2.1 hq.2.2.1 hq.2.2.2
 obtain ⟨x, sx, _, kx⟩ := vPart n5 d5 hr.1 hr.2
 have K := vKnown5
 unfold pairV
 have A1 := eAdd l h m k fz fz fz fz
 have A2 := fAdd l h m k 4 (by omega)
 rw [(oAddE hlh hmk).1, (oAddE hlh hmk).2] at A2
 have B1 := eSub l h m k fz fz fz fz
 have B2 := fSub l h m k 4 (by omega)
 rw [(oSubE hlh hmk).1, (oSubE hlh hmk).2] at B2
 have M1 := eMul l h m k 4 (by omega)
 have M2 := fMul l h m k 4 (by omega)
 rw [(mul_chain _ _ _ _).1, (mul_chain _ _ _ _).2] at M2
 have S1 := eSquare l h 4 (by omega)
 have S2 := fSquare l h 4 (by omega) hlh
 have N1 := eNeg l h
 have N2 : Sp Tryz.prog 42 [] [oV 0 0, oV l h] (oV (lsQ (0 - h) (0 - l)) (grQ (0 - h) (0 - l))) [] := by
  haveI : HasSz (0 : Rat) 4 := hs_mono (i := 1) inferInstance (by omega)
  exact fSub 0 0 l h 4 (by omega)
 rw [(oSub0 l h hlh).1, (oSub0 l h hlh).2] at N2
 have R1 := eScale l h x 4 (by omega)
 have R2 := fMul l h x x 4 (by omega)
 rw [(mul_chain _ _ _ _).1, (mul_chain _ _ _ _).2] at R2
 have V1 := vLow l h
 have V2 := vLow m k
 have C := fContains m k 0 fz fz fz
 rw [rV0] at C
 unfold oV at N2
 rw [show (0 : Rat).num = 0 from rfl, show dn 0 = 0 from rfl, sg0, mg0] at N2
 generalize (minQ (minQ (minQ (l * m) (l * k)) (h * m)) (h * k)) = u1 at *
 generalize (maxQ (maxQ (maxQ (l * m) (l * k)) (h * m)) (h * k)) = u2 at *
 generalize (minQ (minQ (minQ (l * x) (l * x)) (h * x)) (h * x)) = u3 at *
 generalize (maxQ (maxQ (maxQ (l * x) (l * x)) (h * x)) (h * x)) = u4 at *
 generalize sqLow l h = u5 at *
 generalize maxQ (l * l) (h * h) = u6 at *
 by_cases h1 : m ≤ 0 ∧ 0 ≤ k
 ·rw [decide_eq_true h1.1, decide_eq_true h1.2, Bool.and_self] at C
  have D := eDiv0 l h m k 4 (by omega) h1
  clear h1
  generalize l + m = u7 at *
  generalize h + k = u8 at *
  generalize l + -k = u9 at *
  generalize h + -m = v1 at *
  generalize -h = v2 at *
  generalize -l = v3 at *
  exact walk (code := Tryz.f7.body.getD .skip) [c kp, c kq, c kx, c K, c A1, c V1, c V2, c A2, c (vSame u7 u8), c B1, c V1, c V2, c B2, c (vSame u9 v1), c M1, c V1, c V2, c M2, c (vSame u1 u2), c S1, c V1, c S2, c (vSame u5 u6), c N1, c V1, c N2, c (vSame v2 v3), c R1, c V1, c R2, c (vSame u3 u4), c D, c V2, c C, L, x2 binOZ] fol Tryz.func7 (by kernel_rfl) (fun xs w => Tryz.call7 xs w) (by kernel_rfl)
 ·have e : (decide (m ≤ 0) && decide (0 ≤ k)) = false := by
    rw [← Bool.decide_and, decide_eq_false h1]
  rw [e] at C
  have m0 : m ≠ 0 := fun e => h1 (by grind)
  have k0 : k ≠ 0 := fun e => h1 (by grind)
  have D1 := eDiv l h m k 4 (by omega) h1 m0 k0
  have D2 := fDiv l h m k 4 (by omega) m0 k0
  rw [(div_chain _ _ _ _).1, (div_chain _ _ _ _).2] at D2
  generalize (minQ (minQ (minQ (l * (1 / k)) (l * (1 / m))) (h * (1 / k))) (h * (1 / m))) = u10 at *
  generalize (maxQ (maxQ (maxQ (l * (1 / k)) (l * (1 / m))) (h * (1 / k))) (h * (1 / m))) = u11 at *
  clear h1 e m0 k0
  generalize l + m = u7 at *
  generalize h + k = u8 at *
  generalize l + -k = u9 at *
  generalize h + -m = v1 at *
  generalize -h = v2 at *
  generalize -l = v3 at *
  exact walk (code := Tryz.f7.body.getD .skip) [c kp, c kq, c kx, c K, c A1, c V1, c V2, c A2, c (vSame u7 u8), c B1, c V1, c V2, c B2, c (vSame u9 v1), c M1, c V1, c V2, c M2, c (vSame u1 u2), c S1, c V1, c S2, c (vSame u5 u6), c N1, c V1, c N2, c (vSame v2 v3), c R1, c V1, c R2, c (vSame u3 u4), c D1, c V2, c C, c V1, c V2, c D2, c (vSame u10 u11)] fol Tryz.func7 (by kernel_rfl) (fun xs w => Tryz.call7 xs w) (by kernel_rfl)
theorem EnclosureOperates_c (n1 d1 n2 d2 n3 d3 n4 d4 n5 d5 : Int) (w : World) (hp : PairOk n1 d1 n2 d2) (hq : PairOk n3 d3 n4 d4) (hr : PartOk n5 d5) : Calls Tryz.prog 7 #[pairV n1 d1 n2 d2, pairV n3 d3 n4 d4, .agg #[.int .i32 n5, .int .u16 d5]] w fun e w' => e = .returned (.bool true) ∧ Below w.heap.size w w' := (EnclosureOperates_s n1 d1 n2 d2 n3 d3 n4 d4 n5 d5 hp hq hr).calls rfl rfl w
end Go.Proofs.YtcbbcmiennjfhaaGreatDoor
