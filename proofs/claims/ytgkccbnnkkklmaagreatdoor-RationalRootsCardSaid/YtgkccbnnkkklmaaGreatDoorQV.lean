/- Chapter 2's laws about Make, Floor, Compare and Check. -/
import Derived.Test.YtgkccbnnkkklmaaGreatDoorQU
set_option linter.unusedSimpArgs false
set_option linter.unusedVariables false
namespace Go.Proofs.YtgkccbnnkkklmaaGreatDoor
open Go Go.RowKit Go.Sy
open Vi
theorem cmp_le {p q : Rat} {b : Bool} (h : decide (p ≤ q) = b) : decide (cmpQ p q ≤ 0) = b := by
  rw [← h]
  rcases cmpQ_cases p q with ⟨h1, h2⟩ | ⟨h1, h2⟩ | ⟨h1, h2⟩ <;> rw [h1]
  · rw [decide_eq_true (Rat.le_of_lt h2)]; rfl
  · rw [h2, decide_eq_true Rat.le_refl]; rfl
  · rw [decide_eq_false (Rat.not_le.2 h2)]; rfl
theorem cmp_lt {p q : Rat} {b : Bool} (h : decide (p < q) = b) : decide (cmpQ p q < 0) = b := by
  rw [← h]
  rcases cmpQ_cases p q with ⟨h1, h2⟩ | ⟨h1, h2⟩ | ⟨h1, h2⟩ <;> rw [h1]
  · rw [decide_eq_true h2]; rfl
  · rw [h2, decide_eq_false Rat.lt_irrefl]; rfl
  · rw [decide_eq_false (Rat.not_lt.2 (Rat.le_of_lt h2))]; rfl
theorem floor_abs (p : Rat) : p.floor.natAbs ≤ p.num.natAbs := by rw [floor_of]; exact Int.natAbs_ediv_le_natAbs _ _
theorem ceil_abs (p : Rat) : p.ceil.natAbs ≤ p.num.natAbs := by
  rw [Rat.ceil_eq_neg_floor_neg, Int.natAbs_neg]
  have := floor_abs (-p)
  rw [Rat.neg_num, Int.natAbs_neg] at this
  exact this
theorem szI {k : Nat} {z : Int} {p : Rat} (h : z.natAbs ≤ p.num.natAbs) (hp : Sz k p) : Sz (k + 1) (z : Rat) := int_sz (by rw [Nat.pow_succ]; have := hp.1; omega)
theorem RationalFloors_s (a1 a2 a3 a4 : Int) (ha : FracOk a1 a2 a3 a4) : Sp Tryz.prog 5 [] [.agg #[.int .i64 a1, .int .i64 a2, .int .u8 a3, .int .u8 a4]] (.bool true) [] := by
  obtain ⟨p, sp, kp⟩ := vFrac a1 a2 a3 a4 ha
  have fp := sp.fits (by omega)
  have sl := szI (floor_abs p) sp
  have sh := szI (ceil_abs p) sp
  have fl := sl.fits (by omega)
  have fh := sh.fits (by omega)
  have s1 := sz_one 0
  have H1 := pFloor p fp
  have H2 := pCeil p fp
  have H3 := vValid (p.floor : Rat) (p.ceil : Rat) fl fh
  have H4 := rFloor p fp
  have H5 := rCompare (p.floor : Rat) p fl fp
  have H6 := rAdd (p.floor : Rat) 1 fl (s1.fits (by omega))
  have H7 := rCompare p ((p.floor : Rat) + 1) fp ((sl.add s1).fits (by omega))
  have H8 := rCompare p (p.ceil : Rat) fp fh
  have H9 := rSub (p.ceil : Rat) 1 fh (s1.fits (by omega))
  have H10 := rCompare ((p.ceil : Rat) - 1) p ((sh.sub s1).fits (by omega)) fp
  have e1 := cmp_le (b := true) (decide_eq_true (Rat.floor_le p))
  have e2 := cmp_lt (b := true) (decide_eq_true (show p < (p.floor : Rat) + 1 by have := Rat.lt_floor_add_one p; rw [Rat.intCast_add] at this; exact this))
  have e3 := cmp_le (b := true) (decide_eq_true (@Rat.le_ceil p))
  have e4 := cmp_lt (b := true) (decide_eq_true (show (p.ceil : Rat) - 1 < p by
    have := @Rat.ceil_lt p
    rw [← Rat.add_lt_add_right (c := 1), sub_add]
    exact this))
  have hk := vKnown
  have ho := rOne
  have c1 := same (p.floor : Rat)
  generalize p.floor = F at *
  generalize p.ceil = C at *
  exact walk (code := Tryz.f5.body.getD .skip) [c kp, c H1, c H2, c ho, c hk, cr H3, c H4, x2 c1, c H5, eb e1, c H6, c H7, eb e2, c H8, eb e3, c H9, c H10, eb e4] fol Tryz.func5 (by kernel_rfl) (fun xs w => Tryz.call5 xs w) (by kernel_rfl)
theorem int_frac (n : Int) : Rat.divInt n 1 = (n : Rat) := by
  have := divInt_num (n : Rat)
  rw [Rat.num_intCast, Rat.den_intCast] at this
  exact this
theorem zz : Bin .neq 27 rZ rZ (.bool false) := by
  have := binR0' 0 (b := false) (by simp)
  rw [rV0] at this
  exact this
theorem zy : Bin .eql 27 rZ rZ (.bool true) := by
  have := binR0 0 (b := true) (by simp)
  rw [rV0] at this
  exact this
theorem ne0 {d : Int} (h : d ≠ 0) : (!decide (d = 0)) = true := by rw [decide_eq_false h]; rfl
theorem RationalMakes_s (n d : Int) (b0 : Bool) (s0 : ByteArray) (b1 : Bool) (s1 : ByteArray) (hn1 : -9223372036854775808 ≤ n) (hn2 : n ≤ 9223372036854775807) (hd1 : -9223372036854775808 ≤ d) (hd2 : d ≤ 9223372036854775807) (hs0 : s0.size ≤ 9223372036854775807) (hs1 : s1.size ≤ 9223372036854775807) : Sp Tryz.prog 3 [] [.int .i64 n, .int .i64 d, .agg #[.bool b0, .string s0, .bool b1, .string s1]] (.bool true) [] := by
  have hk := vKnown
  have FI := pFromInt n hn1 hn2
  have O1 := rOf n 1 hn1 hn2 (by omega) (by omega) (by omega)
  rw [int_frac] at O1
  have I0 := rIsInt b0 s0 hs0
  have I1 := rIsInt b1 s1 hs1
  have x1 := same' (n : Rat)
  cases k0 : okInt b0 s0 <;> rw [k0] at I0
  · by_cases h0 : d = 0
    · subst h0
      exact walk (code := Tryz.f3.body.getD .skip) [c hk, c (pFromInts0 n hn1 hn2), L, x2 zz, c FI, c O1, x2 x1, c I0] fol Tryz.func3 (by kernel_rfl) (fun xs w => Tryz.call3 xs w) (by kernel_rfl)
    · have F := pFromInts n d hn1 hn2 hd1 hd2 h0
      have O := rOf n d hn1 hn2 hd1 hd2 h0
      have x3 := same' (Rat.divInt n d)
      generalize Rat.divInt n d = q at *
      exact walk (code := Tryz.f3.body.getD .skip) [c hk, c F, eb (decide_eq_false h0), eb (ne0 h0), c O, x2 x3, c FI, c O1, x2 x1, c I0] fol Tryz.func3 (by kernel_rfl) (fun xs w => Tryz.call3 xs w) (by kernel_rfl)
  cases k1 : okInt b1 s1 <;> rw [k1] at I1
  · by_cases h0 : d = 0
    · subst h0
      exact walk (code := Tryz.f3.body.getD .skip) [c hk, c (pFromInts0 n hn1 hn2), L, x2 zz, c FI, c O1, x2 x1, c I0, c I1] fol Tryz.func3 (by kernel_rfl) (fun xs w => Tryz.call3 xs w) (by kernel_rfl)
    · have F := pFromInts n d hn1 hn2 hd1 hd2 h0
      have O := rOf n d hn1 hn2 hd1 hd2 h0
      have x3 := same' (Rat.divInt n d)
      generalize Rat.divInt n d = q at *
      exact walk (code := Tryz.f3.body.getD .skip) [c hk, c F, eb (decide_eq_false h0), eb (ne0 h0), c O, x2 x3, c FI, c O1, x2 x1, c I0, c I1] fol Tryz.func3 (by kernel_rfl) (fun xs w => Tryz.call3 xs w) (by kernel_rfl)
  obtain ⟨z0, rfl, rfl⟩ := okInt_num b0 s0 k0
  obtain ⟨z1, rfl, rfl⟩ := okInt_num b1 s1 k1
  by_cases l0 : (mg z0).size ≤ 40
  · have e0 : decide (((mg z0).size : Int) > 40) = false := decide_eq_false (by omega)
    by_cases l1 : (mg z1).size ≤ 40
    · have e1 : decide (((mg z1).size : Int) > 40) = false := decide_eq_false (by omega)
      by_cases hz : z1 = 0
      · subst hz
        have M := pMake0 z0
        have e2 : ((mg 0).toList == []) = true := by rw [mg_eq0]; rfl
        by_cases h0 : d = 0
        · subst h0
          exact walk (code := Tryz.f3.body.getD .skip) [c hk, c (pFromInts0 n hn1 hn2), L, x2 zz, c FI, c O1, x2 x1, c I0, c I1, L, L, eb e0, L, eb e1, c M, eb e2, x2 zy] fol Tryz.func3 (by kernel_rfl) (fun xs w => Tryz.call3 xs w) (by kernel_rfl)
        · have F := pFromInts n d hn1 hn2 hd1 hd2 h0
          have O := rOf n d hn1 hn2 hd1 hd2 h0
          have x3 := same' (Rat.divInt n d)
          generalize Rat.divInt n d = q at *
          exact walk (code := Tryz.f3.body.getD .skip) [c hk, c F, eb (decide_eq_false h0), eb (ne0 h0), c O, x2 x3, c FI, c O1, x2 x1, c I0, c I1, L, L, eb e0, L, eb e1, c M, eb e2, x2 zy] fol Tryz.func3 (by kernel_rfl) (fun xs w => Tryz.call3 xs w) (by kernel_rfl)
      · have M := pMake z0 z1 hz (by omega) (by omega)
        have R := rMake z0 z1 hz (by rw [← mg_nd]; omega) (by rw [← mg_nd]; omega)
        have e2 : ((mg z1).toList == []) = false := by rw [mg_eq0]; simpa using hz
        have x4 := same (Rat.divInt z0 z1)
        generalize Rat.divInt z0 z1 = y at *
        by_cases h0 : d = 0
        · subst h0
          exact walk (code := Tryz.f3.body.getD .skip) [c hk, c (pFromInts0 n hn1 hn2), L, x2 zz, c FI, c O1, x2 x1, c I0, c I1, L, L, eb e0, L, eb e1, c M, eb e2, c R, x2 x4] fol Tryz.func3 (by kernel_rfl) (fun xs w => Tryz.call3 xs w) (by kernel_rfl)
        · have F := pFromInts n d hn1 hn2 hd1 hd2 h0
          have O := rOf n d hn1 hn2 hd1 hd2 h0
          have x3 := same' (Rat.divInt n d)
          generalize Rat.divInt n d = q at *
          exact walk (code := Tryz.f3.body.getD .skip) [c hk, c F, eb (decide_eq_false h0), eb (ne0 h0), c O, x2 x3, c FI, c O1, x2 x1, c I0, c I1, L, L, eb e0, L, eb e1, c M, eb e2, c R, x2 x4] fol Tryz.func3 (by kernel_rfl) (fun xs w => Tryz.call3 xs w) (by kernel_rfl)
    · have e1 : decide (((mg z1).size : Int) > 40) = true := decide_eq_true (by omega)
      by_cases h0 : d = 0
      · subst h0
        exact walk (code := Tryz.f3.body.getD .skip) [c hk, c (pFromInts0 n hn1 hn2), L, x2 zz, c FI, c O1, x2 x1, c I0, c I1, L, L, eb e0, L, eb e1] fol Tryz.func3 (by kernel_rfl) (fun xs w => Tryz.call3 xs w) (by kernel_rfl)
      · have F := pFromInts n d hn1 hn2 hd1 hd2 h0
        have O := rOf n d hn1 hn2 hd1 hd2 h0
        have x3 := same' (Rat.divInt n d)
        generalize Rat.divInt n d = q at *
        exact walk (code := Tryz.f3.body.getD .skip) [c hk, c F, eb (decide_eq_false h0), eb (ne0 h0), c O, x2 x3, c FI, c O1, x2 x1, c I0, c I1, L, L, eb e0, L, eb e1] fol Tryz.func3 (by kernel_rfl) (fun xs w => Tryz.call3 xs w) (by kernel_rfl)
  · have e0 : decide (((mg z0).size : Int) > 40) = true := decide_eq_true (by omega)
    by_cases h0 : d = 0
    · subst h0
      exact walk (code := Tryz.f3.body.getD .skip) [c hk, c (pFromInts0 n hn1 hn2), L, x2 zz, c FI, c O1, x2 x1, c I0, c I1, L, L, eb e0] fol Tryz.func3 (by kernel_rfl) (fun xs w => Tryz.call3 xs w) (by kernel_rfl)
    · have F := pFromInts n d hn1 hn2 hd1 hd2 h0
      have O := rOf n d hn1 hn2 hd1 hd2 h0
      have x3 := same' (Rat.divInt n d)
      generalize Rat.divInt n d = q at *
      exact walk (code := Tryz.f3.body.getD .skip) [c hk, c F, eb (decide_eq_false h0), eb (ne0 h0), c O, x2 x3, c FI, c O1, x2 x1, c I0, c I1, L, L, eb e0] fol Tryz.func3 (by kernel_rfl) (fun xs w => Tryz.call3 xs w) (by kernel_rfl)
theorem cmp_add (p q r : Rat) : cmpQ (p + r) (q + r) = cmpQ p q := by
  have h : p + r < q + r ↔ p < q := Rat.add_lt_add_right
  have h2 : p + r = q + r ↔ p = q := ⟨fun e => by rw [← add_sub p r, e, add_sub], fun e => by rw [e]⟩
  unfold cmpQ
  simp only [h, h2]
theorem cmp_swap (p q : Rat) : cmpQ q p = -cmpQ p q := by
  rcases cmpQ_cases p q with ⟨h1, h2⟩ | ⟨h1, h2⟩ | ⟨h1, h2⟩ <;> rw [h1]
  · unfold cmpQ; rw [if_neg (Rat.not_lt.2 (Rat.le_of_lt h2)), if_neg (Rat.ne_of_gt h2)]; rfl
  · rw [h2]; unfold cmpQ; rw [if_neg Rat.lt_irrefl, if_pos rfl]; rfl
  · unfold cmpQ; rw [if_pos h2]
theorem RationalCompares_s (a1 a2 a3 a4 b1 b2 b3 b4 c1 c2 c3 c4 : Int) (ha : FracOk a1 a2 a3 a4) (hb : FracOk b1 b2 b3 b4) (hc : FracOk c1 c2 c3 c4) : Sp Tryz.prog 12 [] [.agg #[.int .i64 a1, .int .i64 a2, .int .u8 a3, .int .u8 a4], .agg #[.int .i64 b1, .int .i64 b2, .int .u8 b3, .int .u8 b4], .agg #[.int .i64 c1, .int .i64 c2, .int .u8 c3, .int .u8 c4]] (.bool true) [] := by
  obtain ⟨p, sp, kp⟩ := vFrac a1 a2 a3 a4 ha
  obtain ⟨q, sq, kq⟩ := vFrac b1 b2 b3 b4 hb
  obtain ⟨r, sr, kr⟩ := vFrac c1 c2 c3 c4 hc
  have fp := sp.fits (by omega)
  have fq := sq.fits (by omega)
  have fr := sr.fits (by omega)
  have hk := vKnown
  have C1 := pCompare p q fp fq
  have C2 := rCompare p q fp fq
  have C3 := pCompare q p fq fp
  rw [cmp_swap p q] at C3
  have G1 := pSign p
  have G2 := rSign p
  have N1 := pNeg p
  have N2 := rNeg p
  have xn := same' (-p)
  have Mi := pMin p q fp fq
  have Ma := pMax p q fp fq
  have Ab := pAbs p
  have C4 := pCompare q r fq fr
  have A1 := pAdd p r fp fr
  have A2 := pAdd q r fq fr
  have C5 := pCompare (p + r) (q + r) ((sp.add sr).fits (by omega)) ((sq.add sr).fits (by omega))
  rw [cmp_add] at C5
  have C6 := pCompare p r fp fr
  have xp := same' p
  have xq := same' q
  have xe := binR p q
  -- the magnitude, by the sign
  have habs : (cmpI p.num 0 = -1 ∧ qabs p = -p) ∨ ((cmpI p.num 0 = 0 ∨ cmpI p.num 0 = 1) ∧ qabs p = p) := by
    unfold qabs
    rcases sgn_cases p with ⟨h1, h2⟩ | ⟨h1, h2⟩ | ⟨h1, h2⟩
    · exact .inl ⟨h1, by rw [if_pos h2]⟩
    · exact .inr ⟨.inl h1, by rw [h2, if_neg Rat.lt_irrefl]⟩
    · exact .inr ⟨.inr h1, by rw [if_neg (Rat.not_lt.2 (Rat.le_of_lt h2))]⟩
  have hle : ∀ {b : Bool}, decide (p ≤ r) = b → decide (cmpQ p r ≤ 0) = b := fun h => cmp_le h
  have hm : (cmpQ q r = 1) ∨ ((cmpQ q r = -1 ∨ cmpQ q r = 0) ∧ q ≤ r) := by
    rcases cmpQ_cases q r with ⟨h1, h2⟩ | ⟨h1, h2⟩ | ⟨h1, h2⟩
    · exact .inr ⟨.inl h1, Rat.le_of_lt h2⟩
    · exact .inr ⟨.inr h1, by rw [h2]; exact Rat.le_refl⟩
    · exact .inl h1
  generalize p + r = u at *
  generalize q + r = v at *
  generalize qabs p = ab at *
  rcases cmpQ_cases p q with ⟨h1, h2⟩ | ⟨h1, h2⟩ | ⟨h1, h2⟩ <;> rw [h1] at C1 C2 C3 C5
  · rw [if_pos (Rat.le_of_lt h2)] at Mi
    rw [if_neg (Rat.not_le.2 h2)] at Ma
    rw [decide_eq_false (Rat.ne_of_lt h2)] at xe
    rcases habs with ⟨g, rfl⟩ | ⟨g | g, rfl⟩ <;> rw [g] at G1 G2 <;> rcases hm with m | ⟨m | m, hqr⟩ <;> rw [m] at C4
    · exact walk (code := Tryz.f12.body.getD .skip) [c kp, c kq, c kr, c C1, c hk, c C2, c C3, c G1, c G2, c N1, c N2, x2 xn, c G2, c N2, c Mi, x2 xp, c Ma, x2 xq, c Ab, x2 xn, L, x2 xe, c C4, c A1, c A2, c C5] fol Tryz.func12 (by kernel_rfl) (fun xs w => Tryz.call12 xs w) (by kernel_rfl)
    · exact walk (code := Tryz.f12.body.getD .skip) [c kp, c kq, c kr, c C1, c hk, c C2, c C3, c G1, c G2, c N1, c N2, x2 xn, c G2, c N2, c Mi, x2 xp, c Ma, x2 xq, c Ab, x2 xn, L, x2 xe, c C4, c A1, c A2, c C5, c C6, eb (hle (decide_eq_true (Rat.le_trans (Rat.le_of_lt h2) hqr)))] fol Tryz.func12 (by kernel_rfl) (fun xs w => Tryz.call12 xs w) (by kernel_rfl)
    · exact walk (code := Tryz.f12.body.getD .skip) [c kp, c kq, c kr, c C1, c hk, c C2, c C3, c G1, c G2, c N1, c N2, x2 xn, c G2, c N2, c Mi, x2 xp, c Ma, x2 xq, c Ab, x2 xn, L, x2 xe, c C4, c A1, c A2, c C5, c C6, eb (hle (decide_eq_true (Rat.le_trans (Rat.le_of_lt h2) hqr)))] fol Tryz.func12 (by kernel_rfl) (fun xs w => Tryz.call12 xs w) (by kernel_rfl)
    · exact walk (code := Tryz.f12.body.getD .skip) [c kp, c kq, c kr, c C1, c hk, c C2, c C3, c G1, c G2, c N1, c N2, x2 xn, c G2, c Mi, x2 xp, c Ma, x2 xq, c Ab, x2 xp, L, x2 xe, c C4, c A1, c A2, c C5] fol Tryz.func12 (by kernel_rfl) (fun xs w => Tryz.call12 xs w) (by kernel_rfl)
    · exact walk (code := Tryz.f12.body.getD .skip) [c kp, c kq, c kr, c C1, c hk, c C2, c C3, c G1, c G2, c N1, c N2, x2 xn, c G2, c Mi, x2 xp, c Ma, x2 xq, c Ab, x2 xp, L, x2 xe, c C4, c A1, c A2, c C5, c C6, eb (hle (decide_eq_true (Rat.le_trans (Rat.le_of_lt h2) hqr)))] fol Tryz.func12 (by kernel_rfl) (fun xs w => Tryz.call12 xs w) (by kernel_rfl)
    · exact walk (code := Tryz.f12.body.getD .skip) [c kp, c kq, c kr, c C1, c hk, c C2, c C3, c G1, c G2, c N1, c N2, x2 xn, c G2, c Mi, x2 xp, c Ma, x2 xq, c Ab, x2 xp, L, x2 xe, c C4, c A1, c A2, c C5, c C6, eb (hle (decide_eq_true (Rat.le_trans (Rat.le_of_lt h2) hqr)))] fol Tryz.func12 (by kernel_rfl) (fun xs w => Tryz.call12 xs w) (by kernel_rfl)
    · exact walk (code := Tryz.f12.body.getD .skip) [c kp, c kq, c kr, c C1, c hk, c C2, c C3, c G1, c G2, c N1, c N2, x2 xn, c G2, c Mi, x2 xp, c Ma, x2 xq, c Ab, x2 xp, L, x2 xe, c C4, c A1, c A2, c C5] fol Tryz.func12 (by kernel_rfl) (fun xs w => Tryz.call12 xs w) (by kernel_rfl)
    · exact walk (code := Tryz.f12.body.getD .skip) [c kp, c kq, c kr, c C1, c hk, c C2, c C3, c G1, c G2, c N1, c N2, x2 xn, c G2, c Mi, x2 xp, c Ma, x2 xq, c Ab, x2 xp, L, x2 xe, c C4, c A1, c A2, c C5, c C6, eb (hle (decide_eq_true (Rat.le_trans (Rat.le_of_lt h2) hqr)))] fol Tryz.func12 (by kernel_rfl) (fun xs w => Tryz.call12 xs w) (by kernel_rfl)
    · exact walk (code := Tryz.f12.body.getD .skip) [c kp, c kq, c kr, c C1, c hk, c C2, c C3, c G1, c G2, c N1, c N2, x2 xn, c G2, c Mi, x2 xp, c Ma, x2 xq, c Ab, x2 xp, L, x2 xe, c C4, c A1, c A2, c C5, c C6, eb (hle (decide_eq_true (Rat.le_trans (Rat.le_of_lt h2) hqr)))] fol Tryz.func12 (by kernel_rfl) (fun xs w => Tryz.call12 xs w) (by kernel_rfl)
  · subst h2
    rw [if_pos Rat.le_refl] at Mi Ma
    rw [decide_eq_true rfl] at xe
    rcases habs with ⟨g, rfl⟩ | ⟨g | g, rfl⟩ <;> rw [g] at G1 G2 <;> rcases hm with m | ⟨m | m, hqr⟩ <;> rw [m] at C4
    · exact walk (code := Tryz.f12.body.getD .skip) [c kp, c kq, c kr, c C1, c hk, c C2, c C3, c G1, c G2, c N1, c N2, x2 xn, c G2, c N2, c Mi, x2 xp, c Ma, x2 xq, c Ab, x2 xn, L, x2 xe, c C4, c A1, c A2, c C5] fol Tryz.func12 (by kernel_rfl) (fun xs w => Tryz.call12 xs w) (by kernel_rfl)
    · exact walk (code := Tryz.f12.body.getD .skip) [c kp, c kq, c kr, c C1, c hk, c C2, c C3, c G1, c G2, c N1, c N2, x2 xn, c G2, c N2, c Mi, x2 xp, c Ma, x2 xq, c Ab, x2 xn, L, x2 xe, c C4, c A1, c A2, c C5, c C6, eb (hle (decide_eq_true hqr))] fol Tryz.func12 (by kernel_rfl) (fun xs w => Tryz.call12 xs w) (by kernel_rfl)
    · exact walk (code := Tryz.f12.body.getD .skip) [c kp, c kq, c kr, c C1, c hk, c C2, c C3, c G1, c G2, c N1, c N2, x2 xn, c G2, c N2, c Mi, x2 xp, c Ma, x2 xq, c Ab, x2 xn, L, x2 xe, c C4, c A1, c A2, c C5, c C6, eb (hle (decide_eq_true hqr))] fol Tryz.func12 (by kernel_rfl) (fun xs w => Tryz.call12 xs w) (by kernel_rfl)
    · exact walk (code := Tryz.f12.body.getD .skip) [c kp, c kq, c kr, c C1, c hk, c C2, c C3, c G1, c G2, c N1, c N2, x2 xn, c G2, c Mi, x2 xp, c Ma, x2 xq, c Ab, x2 xp, L, x2 xe, c C4, c A1, c A2, c C5] fol Tryz.func12 (by kernel_rfl) (fun xs w => Tryz.call12 xs w) (by kernel_rfl)
    · exact walk (code := Tryz.f12.body.getD .skip) [c kp, c kq, c kr, c C1, c hk, c C2, c C3, c G1, c G2, c N1, c N2, x2 xn, c G2, c Mi, x2 xp, c Ma, x2 xq, c Ab, x2 xp, L, x2 xe, c C4, c A1, c A2, c C5, c C6, eb (hle (decide_eq_true hqr))] fol Tryz.func12 (by kernel_rfl) (fun xs w => Tryz.call12 xs w) (by kernel_rfl)
    · exact walk (code := Tryz.f12.body.getD .skip) [c kp, c kq, c kr, c C1, c hk, c C2, c C3, c G1, c G2, c N1, c N2, x2 xn, c G2, c Mi, x2 xp, c Ma, x2 xq, c Ab, x2 xp, L, x2 xe, c C4, c A1, c A2, c C5, c C6, eb (hle (decide_eq_true hqr))] fol Tryz.func12 (by kernel_rfl) (fun xs w => Tryz.call12 xs w) (by kernel_rfl)
    · exact walk (code := Tryz.f12.body.getD .skip) [c kp, c kq, c kr, c C1, c hk, c C2, c C3, c G1, c G2, c N1, c N2, x2 xn, c G2, c Mi, x2 xp, c Ma, x2 xq, c Ab, x2 xp, L, x2 xe, c C4, c A1, c A2, c C5] fol Tryz.func12 (by kernel_rfl) (fun xs w => Tryz.call12 xs w) (by kernel_rfl)
    · exact walk (code := Tryz.f12.body.getD .skip) [c kp, c kq, c kr, c C1, c hk, c C2, c C3, c G1, c G2, c N1, c N2, x2 xn, c G2, c Mi, x2 xp, c Ma, x2 xq, c Ab, x2 xp, L, x2 xe, c C4, c A1, c A2, c C5, c C6, eb (hle (decide_eq_true hqr))] fol Tryz.func12 (by kernel_rfl) (fun xs w => Tryz.call12 xs w) (by kernel_rfl)
    · exact walk (code := Tryz.f12.body.getD .skip) [c kp, c kq, c kr, c C1, c hk, c C2, c C3, c G1, c G2, c N1, c N2, x2 xn, c G2, c Mi, x2 xp, c Ma, x2 xq, c Ab, x2 xp, L, x2 xe, c C4, c A1, c A2, c C5, c C6, eb (hle (decide_eq_true hqr))] fol Tryz.func12 (by kernel_rfl) (fun xs w => Tryz.call12 xs w) (by kernel_rfl)
  · rw [if_neg (Rat.not_le.2 h2)] at Mi
    rw [if_pos (Rat.le_of_lt h2)] at Ma
    rw [decide_eq_false (Rat.ne_of_gt h2)] at xe
    rcases habs with ⟨g, rfl⟩ | ⟨g | g, rfl⟩ <;> rw [g] at G1 G2
    · exact walk (code := Tryz.f12.body.getD .skip) [c kp, c kq, c kr, c C1, c hk, c C2, c C3, c G1, c G2, c N1, c N2, x2 xn, c G2, c N2, c Mi, x2 xq, c Ma, x2 xp, c Ab, x2 xn, L, x2 xe, c C4, c A1, c A2, c C5] fol Tryz.func12 (by kernel_rfl) (fun xs w => Tryz.call12 xs w) (by kernel_rfl)
    · exact walk (code := Tryz.f12.body.getD .skip) [c kp, c kq, c kr, c C1, c hk, c C2, c C3, c G1, c G2, c N1, c N2, x2 xn, c G2, c Mi, x2 xq, c Ma, x2 xp, c Ab, x2 xp, L, x2 xe, c C4, c A1, c A2, c C5] fol Tryz.func12 (by kernel_rfl) (fun xs w => Tryz.call12 xs w) (by kernel_rfl)
    · exact walk (code := Tryz.f12.body.getD .skip) [c kp, c kq, c kr, c C1, c hk, c C2, c C3, c G1, c G2, c N1, c N2, x2 xn, c G2, c Mi, x2 xq, c Ma, x2 xp, c Ab, x2 xp, L, x2 xe, c C4, c A1, c A2, c C5] fol Tryz.func12 (by kernel_rfl) (fun xs w => Tryz.call12 xs w) (by kernel_rfl)
theorem iCheck (b : Bool) (s : ByteArray) (hs : s.size ≤ 4294967296) : Sp Tryz.prog 89 [] [.agg #[.bool b, .string s]] (nV (if okInt b s then 0 else 5)) [] := Sp.of (fun xs w => Tryz.call89 xs w) (by kernel_rfl) (by kernel_rfl) (fun w => Check_c b s w hs)
theorem pCheck (b1 : Bool) (s1 : ByteArray) (b2 : Bool) (s2 : ByteArray) (h1 : s1.size ≤ 131000) (h2 : s2.size ≤ 131000) : Sp Tryz.prog 55 [] [.agg #[.bool b1, .string s1, .bool b2, .string s2]] (nV (if okRat b1 s1 b2 s2 then 0 else 5)) [] := by
  have c1 := iCheck b1 s1 (by omega)
  have c2 := iCheck b2 s2 (by omega)
  unfold okRat
  cases k1 : okInt b1 s1 <;> rw [k1] at c1
  · exact walk (code := Tryz.f55.body.getD .skip) [c c1] fol Tryz.func55 (by kernel_rfl) (fun xs w => Tryz.call55 xs w) (by kernel_rfl)
  cases k2 : okInt b2 s2 <;> rw [k2] at c2
  · exact walk (code := Tryz.f55.body.getD .skip) [c c1, c c2] fol Tryz.func55 (by kernel_rfl) (fun xs w => Tryz.call55 xs w) (by kernel_rfl)
  obtain ⟨x, rfl, rfl⟩ := okInt_num b1 s1 k1
  obtain ⟨y, rfl, rfl⟩ := okInt_num b2 s2 k2
  rw [mg_isEmpty, num_mg, num_mg]
  by_cases h0 : y = 0
  · subst h0
    rw [show (if (true && true && !sg 0 && ((0 : Int) == 0 || ((0 : Int).natAbs != 1 && Nat.gcd x.natAbs (0 : Int).natAbs == 1))) = true then (0 : Int) else 5) = 0 from rfl]
    have hx := binI0 0 (b := true) rfl
    rw [iV0] at hx
    rw [sg0, mg0] at c2 ⊢
    exact walk (code := Tryz.f55.body.getD .skip) [c c1, c c2, L, x2 hx] fol Tryz.func55 (by kernel_rfl) (fun xs w => Tryz.call55 xs w) (by kernel_rfl)
  · have hx := binI0 y (b := false) (by simpa using h0)
    have hC := iCompare y 1 (by omega) (by rw [mg1]; show 1 ≤ _; omega)
    rw [show ((y == 0) : Bool) = false by simpa using h0, Bool.false_or]
    by_cases hy : y ≤ 1
    · have e : (true && true && !sg y && (y.natAbs != 1 && Nat.gcd x.natAbs y.natAbs == 1)) = false := by
        unfold sg
        by_cases hn : y < 0
        · simp [hn]
        · have : y.natAbs = 1 := by omega
          simp [this]
      rw [e]
      have ec : decide (cmpI y 1 ≤ 0) = true := decide_eq_true (by unfold cmpI; split; omega; split <;> omega)
      exact walk (code := Tryz.f55.body.getD .skip) [c c1, c c2, L, x2 hx, c pOne, c hC, eb ec] fol Tryz.func55 (by kernel_rfl) (fun xs w => Tryz.call55 xs w) (by kernel_rfl)
    · have ec : decide (cmpI y 1 ≤ 0) = false := decide_eq_false (by unfold cmpI; rw [if_neg (by omega), if_neg (by omega)]; omega)
      have hG := iGcd x y (by omega) (by omega)
      have e : (true && true && !sg y && (y.natAbs != 1 && Nat.gcd x.natAbs y.natAbs == 1)) = decide ((Nat.gcd x.natAbs y.natAbs : Nat) = 1) := by
        have : sg y = false := by unfold sg; simp; omega
        rw [this]
        have : (y.natAbs != 1) = true := by simp; omega
        rw [this, Bool.eq_iff_iff]
        simp
      rw [e]
      by_cases hg : Nat.gcd x.natAbs y.natAbs = 1
      · rw [decide_eq_true hg]
        have hx2 := binI1' ((Nat.gcd x.natAbs y.natAbs : Nat) : Int) 1 (b := false) (by rw [hg]; rfl)
        generalize ((Nat.gcd x.natAbs y.natAbs : Nat) : Int) = G at *
        exact walk (code := Tryz.f55.body.getD .skip) [c c1, c c2, L, x2 hx, c pOne, c hC, eb ec, c hG, c pOne, x2 hx2] fol Tryz.func55 (by kernel_rfl) (fun xs w => Tryz.call55 xs w) (by kernel_rfl)
      · rw [decide_eq_false hg]
        have hx2 := binI1' ((Nat.gcd x.natAbs y.natAbs : Nat) : Int) 1 (b := true) (by simp; omega)
        generalize ((Nat.gcd x.natAbs y.natAbs : Nat) : Int) = G at *
        exact walk (code := Tryz.f55.body.getD .skip) [c c1, c c2, L, x2 hx, c pOne, c hC, eb ec, c hG, c pOne, x2 hx2] fol Tryz.func55 (by kernel_rfl) (fun xs w => Tryz.call55 xs w) (by kernel_rfl)
theorem RationalChecks_s (b1 : Bool) (s1 : ByteArray) (b2 : Bool) (s2 : ByteArray) (h1 : s1.size ≤ 9223372036854775807) (h2 : s2.size ≤ 9223372036854775807) : Sp Tryz.prog 13 [] [.agg #[.bool b1, .string s1, .bool b2, .string s2]] (.bool true) [] := by
  have hk := vKnown
  have hs := vShort b1 s1 b2 s2
  by_cases h : s1.size ≤ 40 ∧ s2.size ≤ 40
  · obtain ⟨h1, h2⟩ := h
    rw [decide_eq_true h1, decide_eq_true h2] at hs
    have R := rCheck b1 s1 b2 s2 (by omega) (by omega)
    have Q := pCheck b1 s1 b2 s2 (by omega) (by omega)
    cases k : okRat b1 s1 b2 s2 <;> rw [k] at R Q
    · exact walk (code := Tryz.f13.body.getD .skip) [c hk, c hs, c R, c Q] fol Tryz.func13 (by kernel_rfl) (fun xs w => Tryz.call13 xs w) (by kernel_rfl)
    · obtain ⟨q, rfl, rfl, rfl, rfl⟩ := okRat_rat _ _ _ _ k
      have N := pNum q
      have D := pDen q
      have M := pMake q.num q.den (by have := den_pos q; omega) (by omega) (by
        have : (mg (q.den : Int)).size ≤ 41 := by
          by_cases hd : q.den = 1
          · rw [hd]; show (mg 1).size ≤ 41; rw [mg1]; show 1 ≤ 41; omega
          · have : dn q = (q.den : Int) := by unfold dn; rw [if_neg hd]
            rw [← this]; omega
        omega)
      rw [show Rat.divInt q.num (q.den : Int) = q from divInt_num q] at M
      have E := vDen q
      have xn := binI1 q.num q.num (b := true) (by simp)
      have xd := binI1 q.den q.den (b := true) (by simp)
      exact walk (code := Tryz.f13.body.getD .skip) [c hk, c hs, c R, c N, c D, c M, c Q, L, L, x2 (same q), c N, x2 xn, c D, c E, x2 xd] fol Tryz.func13 (by kernel_rfl) (fun xs w => Tryz.call13 xs w) (by kernel_rfl)
  · have e : (decide (s1.size ≤ 40) && decide (s2.size ≤ 40)) = false := by
      rw [Bool.and_eq_false_iff]
      by_cases h1 : s1.size ≤ 40
      · exact .inr (decide_eq_false fun h2 => h ⟨h1, h2⟩)
      · exact .inl (decide_eq_false h1)
    rw [e] at hs
    exact walk (code := Tryz.f13.body.getD .skip) [c hk, c hs, c hk] fol Tryz.func13 (by kernel_rfl) (fun xs w => Tryz.call13 xs w) (by kernel_rfl)
theorem RationalFloors_c (a1 a2 a3 a4 : Int) (w : World) (ha : FracOk a1 a2 a3 a4) : Calls Tryz.prog 5 #[.agg #[.int .i64 a1, .int .i64 a2, .int .u8 a3, .int .u8 a4]] w fun e w' => e = .returned (.bool true) ∧ Below w.heap.size w w' := (RationalFloors_s a1 a2 a3 a4 ha).calls rfl rfl w
theorem RationalMakes_c (n d : Int) (b0 : Bool) (s0 : ByteArray) (b1 : Bool) (s1 : ByteArray) (w : World) (hn1 : -9223372036854775808 ≤ n) (hn2 : n ≤ 9223372036854775807) (hd1 : -9223372036854775808 ≤ d) (hd2 : d ≤ 9223372036854775807) (hs0 : s0.size ≤ 9223372036854775807) (hs1 : s1.size ≤ 9223372036854775807) : Calls Tryz.prog 3 #[.int .i64 n, .int .i64 d, .agg #[.bool b0, .string s0, .bool b1, .string s1]] w fun e w' => e = .returned (.bool true) ∧ Below w.heap.size w w' := (RationalMakes_s n d b0 s0 b1 s1 hn1 hn2 hd1 hd2 hs0 hs1).calls rfl rfl w
theorem RationalCompares_c (a1 a2 a3 a4 b1 b2 b3 b4 c1 c2 c3 c4 : Int) (w : World) (ha : FracOk a1 a2 a3 a4) (hb : FracOk b1 b2 b3 b4) (hc : FracOk c1 c2 c3 c4) : Calls Tryz.prog 12 #[.agg #[.int .i64 a1, .int .i64 a2, .int .u8 a3, .int .u8 a4], .agg #[.int .i64 b1, .int .i64 b2, .int .u8 b3, .int .u8 b4], .agg #[.int .i64 c1, .int .i64 c2, .int .u8 c3, .int .u8 c4]] w fun e w' => e = .returned (.bool true) ∧ Below w.heap.size w w' := (RationalCompares_s a1 a2 a3 a4 b1 b2 b3 b4 c1 c2 c3 c4 ha hb hc).calls rfl rfl w
theorem RationalChecks_c (b1 : Bool) (s1 : ByteArray) (b2 : Bool) (s2 : ByteArray) (w : World) (h1 : s1.size ≤ 9223372036854775807) (h2 : s2.size ≤ 9223372036854775807) : Calls Tryz.prog 13 #[.agg #[.bool b1, .string s1, .bool b2, .string s2]] w fun e w' => e = .returned (.bool true) ∧ Below w.heap.size w w' := (RationalChecks_s b1 s1 b2 s2 h1 h2).calls rfl rfl w
end Go.Proofs.YtgkccbnnkkklmaaGreatDoor
