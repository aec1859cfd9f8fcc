/- Chapter 2's law about the simplest fraction between two fractions and around one. -/
import Derived.Test.YtgkccbnnkkklmaaGreatDoorQV
set_option linter.unusedSimpArgs false
set_option linter.unusedVariables false
namespace Go.Proofs.YtgkccbnnkkklmaaGreatDoor
open Go Go.RowKit Go.Sy
open Vi
theorem mul_dn (q : Rat) : q * ((q.den : Int) : Rat) = ((q.num : Int) : Rat) := by
  rw [mul_of, Rat.num_intCast, Rat.den_intCast, show ((1 : Nat) : Int) = 1 from rfl, Int.mul_one]
  have := Rat.divInt_mul_right (n := q.num) (d := 1) (a := (q.den : Int)) (by have := den_pos q; omega)
  rw [Int.one_mul, int_frac] at this
  exact this
theorem near_key (A B d e x : Nat) (hd : 0 < d) (h1 : 4 * d * x ≤ e) (h2 : A * e ≤ B * d + x) (hx : 0 < x) : d ≤ e ∧ A ≤ B := by
  have e1 : d * 1 ≤ d * x := Nat.mul_le_mul_left d hx
  have e2 : 1 * x ≤ d * x := Nat.mul_le_mul_right x hd
  rw [Nat.mul_assoc] at h1
  refine ⟨by omega, Nat.le_of_not_lt fun h => ?_⟩
  have e3 : (B + 1) * e ≤ A * e := Nat.mul_le_mul_right e h
  have e4 : B * d ≤ B * e := Nat.mul_le_mul_left B (by omega)
  rw [Nat.add_mul] at e3
  omega
/-- A quarter of the square of the denominator's inverse. -/
def nearQ (a : Rat) : Rat := Rat.divInt 1 4 / (((a.den : Int) : Rat) * ((a.den : Int) : Rat))
theorem den_pos_r (a : Rat) : 0 < ((a.den : Int) : Rat) := Rat.intCast_pos.2 (den_pos a)
theorem near_pos (a : Rat) : 0 < nearQ a := by
  unfold nearQ
  rw [Rat.div_def]
  exact Rat.mul_pos (by decide +kernel) (inv_pos_of (Rat.mul_pos (den_pos_r a) (den_pos_r a)))
theorem near_mul (a : Rat) : nearQ a * (((a.den : Int) : Rat) * ((a.den : Int) : Rat)) * ((4 : Int) : Rat) = 1 := by
  unfold nearQ
  rw [div_mul _ _ (Rat.ne_of_gt (Rat.mul_pos (den_pos_r a) (den_pos_r a)))]
  decide +kernel
theorem near_int (a r : Rat) (h : a - r ≤ nearQ a) : 4 * (a.den : Int) * (a.num * r.den - r.num * a.den) ≤ r.den := by
  have e1 := mul_dn a
  have e2 := mul_dn r
  have e3 := near_mul a
  have hD := den_pos_r a
  have hE := den_pos_r r
  have h1 := Rat.mul_le_mul_of_nonneg_right h (Rat.le_of_lt (Rat.mul_pos (Rat.mul_pos (show (0 : Rat) < ((4 : Int) : Rat) by decide +kernel) (Rat.mul_pos hD hD)) hE))
  rw [← Rat.intCast_le_intCast]
  simp only [Rat.intCast_mul, Rat.intCast_sub]
  generalize ((a.den : Int) : Rat) = D at *
  generalize ((r.den : Int) : Rat) = E at *
  generalize ((a.num : Int) : Rat) = n at *
  generalize ((r.num : Int) : Rat) = m at *
  generalize ((4 : Int) : Rat) = f at *
  generalize nearQ a = t at *
  have e4 : (a - r) * (f * (D * D) * E) = f * D * (n * E - m * D) := by rw [← e1, ← e2]; grind
  have e5 : t * (f * (D * D) * E) = E := by
    have : t * (f * (D * D) * E) = t * (D * D) * f * E := by grind
    rw [this, e3, Rat.one_mul]
  rw [e4, e5] at h1
  exact h1
theorem near_int' (a r : Rat) (h : r - a ≤ nearQ a) : 4 * (a.den : Int) * (r.num * a.den - a.num * r.den) ≤ r.den := by
  have e1 := mul_dn a
  have e2 := mul_dn r
  have e3 := near_mul a
  have hD := den_pos_r a
  have hE := den_pos_r r
  have h1 := Rat.mul_le_mul_of_nonneg_right h (Rat.le_of_lt (Rat.mul_pos (Rat.mul_pos (show (0 : Rat) < ((4 : Int) : Rat) by decide +kernel) (Rat.mul_pos hD hD)) hE))
  rw [← Rat.intCast_le_intCast]
  simp only [Rat.intCast_mul, Rat.intCast_sub]
  generalize ((a.den : Int) : Rat) = D at *
  generalize ((r.den : Int) : Rat) = E at *
  generalize ((a.num : Int) : Rat) = n at *
  generalize ((r.num : Int) : Rat) = m at *
  generalize ((4 : Int) : Rat) = f at *
  generalize nearQ a = t at *
  have e4 : (r - a) * (f * (D * D) * E) = f * D * (m * D - n * E) := by rw [← e1, ← e2]; grind
  have e5 : t * (f * (D * D) * E) = E := by
    have : t * (f * (D * D) * E) = t * (D * D) * f * E := by grind
    rw [this, e3, Rat.one_mul]
  rw [e4, e5] at h1
  exact h1
theorem best_near (a : Rat) : Best (a - nearQ a) (a + nearQ a) false false a := by
  have hp := near_pos a
  refine ⟨⟨.inl ?_, .inl ?_⟩, fun r hr => ?_⟩
  · rw [← Rat.add_lt_add_right (c := nearQ a), sub_add]
    have := (Rat.add_lt_add_left (c := a)).2 hp
    rw [Rat.add_zero] at this
    exact this
  · have := (Rat.add_lt_add_left (c := a)).2 hp
    rw [Rat.add_zero] at this
    exact this
  · have l1 : a - nearQ a ≤ r := by
      rcases hr.1 with h | ⟨_, h⟩
      · exact Rat.le_of_lt h
      · rw [h]; exact Rat.le_refl
    have l2 : r ≤ a + nearQ a := by
      rcases hr.2 with h | ⟨_, h⟩
      · exact Rat.le_of_lt h
      · rw [h]; exact Rat.le_refl
    have k1 := near_int a r (by grind)
    have k2 := near_int' a r (by grind)
    have hd := den_pos a
    have he := den_pos r
    obtain ⟨X, hX⟩ : ∃ X, X = a.num * r.den - r.num * a.den := ⟨_, rfl⟩
    rw [← hX] at k1
    rw [show r.num * (a.den : Int) - a.num * r.den = -X by rw [hX]; omega] at k2
    by_cases h0 : X = 0
    · have e : a = r := by
        rw [← divInt_num a, ← divInt_num r]
        exact (Rat.divInt_eq_divInt_iff (by omega) (by omega)).2 (by omega)
      rw [e]
      exact ⟨Nat.le_refl _, Nat.le_refl _⟩
    · refine near_key a.num.natAbs r.num.natAbs a.den r.den X.natAbs (by omega) ?_ ?_ (by omega)
      · rcases Int.natAbs_eq X with h | h
        · have : ((4 * a.den * X.natAbs : Nat) : Int) = 4 * (a.den : Int) * X := by rw [Int.natCast_mul, Int.natCast_mul, ← h]; rfl
          omega
        · have : ((4 * a.den * X.natAbs : Nat) : Int) = 4 * (a.den : Int) * -X := by rw [Int.natCast_mul, Int.natCast_mul, show ((X.natAbs : Nat) : Int) = -X by omega]; rfl
          omega
      · have e1 : (a.num * (r.den : Int)).natAbs = a.num.natAbs * r.den := by rw [Int.natAbs_mul, Int.natAbs_natCast]
        have e2 : (r.num * (a.den : Int)).natAbs = r.num.natAbs * a.den := by rw [Int.natAbs_mul, Int.natAbs_natCast]
        rw [← e1, ← e2]
        omega
theorem cmp_gt {p q : Rat} {b : Bool} (h : decide (q < p) = b) : decide (cmpQ p q > 0) = b := by
  rw [← h]
  rcases cmpQ_cases p q with ⟨h1, h2⟩ | ⟨h1, h2⟩ | ⟨h1, h2⟩ <;> rw [h1]
  · rw [decide_eq_false (Rat.not_lt.2 (Rat.le_of_lt h2))]; rfl
  · rw [h2, decide_eq_false Rat.lt_irrefl]; rfl
  · rw [decide_eq_true h2]; rfl
theorem RationalDeep_s (a1 a2 a3 a4 b1 b2 b3 b4 : Int) (ha : FracOk a1 a2 a3 a4) (hb : FracOk b1 b2 b3 b4) : Sp Tryz.prog 7 [] [.agg #[.int .i64 a1, .int .i64 a2, .int .u8 a3, .int .u8 a4], .agg #[.int .i64 b1, .int .i64 b2, .int .u8 b3, .int .u8 b4]] (.bool true) [] := by
  obtain ⟨p, sp, kp⟩ := vFrac a1 a2 a3 a4 ha
  obtain ⟨q, sq, kq⟩ := vFrac b1 b2 b3 b4 hb
  have fp := sp.fits (by omega)
  have fq := sq.fits (by omega)
  have hk := vKnown
  have C1 := rCompare p q fp fq
  have Q4 := rOf 1 4 (by omega) (by omega) (by omega) (by omega) (by omega)
  have s4 : Sz 1 (Rat.divInt 1 4) := szk _ (by decide +kernel) (by decide +kernel)
  have main : ∀ a b : Rat, Sz 16 a → Sz 16 b → a < b → ∃ m s, Sp Tryz.prog 31 [] [rV a, rV b, .bool true, .bool true] (.tuple #[rV m, nV 0]) [] ∧ Sp Tryz.prog 34 [] [rV a] (iV a.den) [] ∧ Sp Tryz.prog 36 [] [rV ((a.den : Int) : Rat), rV ((a.den : Int) : Rat)] (rV (((a.den : Int) : Rat) * ((a.den : Int) : Rat))) [] ∧
      Sp Tryz.prog 35 [] [rV (Rat.divInt 1 4), rV (((a.den : Int) : Rat) * ((a.den : Int) : Rat))] (rV s) [] ∧ Sp Tryz.prog 25 [] [rV a, rV s] (rV (a - s)) [] ∧ Sp Tryz.prog 24 [] [rV a, rV s] (rV (a + s)) [] ∧
      Sp Tryz.prog 31 [] [rV (a - s), rV (a + s), .bool false, .bool false] (.tuple #[rV a, nV 0]) [] ∧ Sp Tryz.prog 37 [] [rV m] (.bool true) [] ∧ Sp Tryz.prog 33 [] [rV m, rV a, rV b, .bool true, .bool true] (.bool true) [] := by
    intro a b sa sb hab
    obtain ⟨m, hm, hs⟩ := pSimplestSome a b true true (.inl hab) 16 (by omega) sa sb
    have sm := best_sz a b true true m hm 16 sa sb
    have fm := sm.fits (by omega)
    have fa := sa.fits (by omega)
    have fb := sb.fits (by omega)
    have sD : Sz 17 ((a.den : Int) : Rat) := int_sz (by rw [Int.natAbs_natCast]; have := sa.2; rw [Nat.pow_succ]; omega)
    have sDD := sD.mul sD
    have hDn : (((a.den : Int) : Rat) * ((a.den : Int) : Rat)) ≠ 0 := Rat.ne_of_gt (Rat.mul_pos (den_pos_r a) (den_pos_r a))
    have sN := s4.div sDD (fun h => hDn (Rat.num_eq_zero.1 h))
    have D1 := rDiv (Rat.divInt 1 4) (((a.den : Int) : Rat) * ((a.den : Int) : Rat)) hDn (s4.fits (by omega)) (sDD.fits (by omega))
    have hp := near_pos a
    have hbest := best_near a
    have e0 : nearQ a = Rat.divInt 1 4 / (((a.den : Int) : Rat) * ((a.den : Int) : Rat)) := rfl
    rw [← e0] at D1 sN
    have s1 := sa.sub sN
    have s2 := sa.add sN
    have hlt : a - nearQ a < a + nearQ a := by grind
    obtain ⟨z, hz, hzs⟩ := pSimplestSome (a - nearQ a) (a + nearQ a) false false (.inl hlt) 100 (by omega) (s1.mono (by omega)) (s2.mono (by omega))
    have ez := best_unique _ _ _ _ _ _ hz hbest
    rw [ez] at hzs
    have W := rWithin m a b true true fm fa fb
    rw [(within_iff m a b true true).2 hm.1] at W
    exact ⟨m, nearQ a, hs, vDen a, rMul _ _ (sD.fits (by omega)) (sD.fits (by omega)), D1, rSub a (nearQ a) fa (sN.fits (by omega)), rAdd a (nearQ a) fa (sN.fits (by omega)), hzs, rCheckQ m fm, W⟩
  rcases cmpQ_cases p q with ⟨h1, h2⟩ | ⟨h1, h2⟩ | ⟨h1, h2⟩ <;> rw [h1] at C1
  · obtain ⟨m, s, H1, H2, H3, H4, H5, H6, H7, H8, H9⟩ := main p q sp sq h2
    have xe := binR1 p q (b := false) (decide_eq_false (Rat.ne_of_lt h2))
    generalize p - s = u at *
    generalize p + s = v at *
    generalize ((p.den : Int) : Rat) * ((p.den : Int) : Rat) = dd at *
    exact walk (code := Tryz.f7.body.getD .skip) [c kp, c kq, c C1, c hk, c H1, x2 xe, c H2, c Q4, c H3, c H4, c H5, c H6, c H7, L, c H8, c H9, L, x2 (same p)] fol Tryz.func7 (by kernel_rfl) (fun xs w => Tryz.call7 xs w) (by kernel_rfl)
  · subst h2
    have N := pSimplestNone p p true true (.inr ⟨rfl, .inl rfl⟩) fp fp
    exact walk (code := Tryz.f7.body.getD .skip) [c kp, c kq, c C1, c hk, c N, x2 (same p)] fol Tryz.func7 (by kernel_rfl) (fun xs w => Tryz.call7 xs w) (by kernel_rfl)
  · obtain ⟨m, s, H1, H2, H3, H4, H5, H6, H7, H8, H9⟩ := main q p sq sp h2
    have xe := binR1 q p (b := false) (decide_eq_false (Rat.ne_of_lt h2))
    generalize q - s = u at *
    generalize q + s = v at *
    generalize ((q.den : Int) : Rat) * ((q.den : Int) : Rat) = dd at *
    exact walk (code := Tryz.f7.body.getD .skip) [c kp, c kq, c C1, c hk, c H1, x2 xe, c H2, c Q4, c H3, c H4, c H5, c H6, c H7, L, c H8, c H9, L, x2 (same q)] fol Tryz.func7 (by kernel_rfl) (fun xs w => Tryz.call7 xs w) (by kernel_rfl)
theorem RationalDeep_c (a1 a2 a3 a4 b1 b2 b3 b4 : Int) (w : World) (ha : FracOk a1 a2 a3 a4) (hb : FracOk b1 b2 b3 b4) : Calls Tryz.prog 7 #[.agg #[.int .i64 a1, .int .i64 a2, .int .u8 a3, .int .u8 a4], .agg #[.int .i64 b1, .int .i64 b2, .int .u8 b3, .int .u8 b4]] w fun e w' => e = .returned (.bool true) ∧ Below w.heap.size w w' := (RationalDeep_s a1 a2 a3 a4 b1 b2 b3 b4 ha hb).calls rfl rfl w
end Go.Proofs.YtgkccbnnkkklmaaGreatDoor
