/- Part 12 of the proof; what it holds is said text by text. -/
import Derived.Test.YtlblfgbpogljoaaGreatDoorQbK
import Derived.Test.YtlblfgbpogljoaaGreatDoorQbI
set_option linter.unusedSimpArgs false
set_option linter.unusedVariables false
section
/- The package quadratic: Where over five parts; Where. -/
namespace Go.Proofs.YtlblfgbpogljoaaGreatDoor
open Go Go.RowKit Go.Sy
open Vi
theorem wh_mrmrm (a b c : Rat) (F T : Rl) (oF oT : Bool) (i1 i2 i3 i4 i5 : Iv) (s1 s3 s5 : Int) (h1 : s1 = 1 ∨ s1 = -1) (h3 : s3 = 1 ∨ s3 = -1) (h5 : s5 = 1 ∨ s5 = -1) (n z p : Bool)
    (S : Sp Tryz.prog 44 [] [qV a b c, ivV F T oF oT] (.tuple #[row 0 5, nV 0]) [(5, pcs [(i1, s1), (i2, 0), (i3, s3), (i4, 0), (i5, s5)])]) : WhereSp a b c F T oF oT n z p (whr (wB n z p) [(i1, s1), (i2, 0), (i3, s3), (i4, 0), (i5, s5)]) := by
 obtain ⟨Fp, Fr, Fn⟩ := F
 obtain ⟨Tp, Tr, Tn⟩ := T
 obtain ⟨⟨p1, q1, n1⟩, ⟨u1, v1, m1⟩, o1, e1⟩ := i1
 obtain ⟨⟨p2, q2, n2⟩, ⟨u2, v2, m2⟩, o2, e2⟩ := i2
 obtain ⟨⟨p3, q3, n3⟩, ⟨u3, v3, m3⟩, o3, e3⟩ := i3
 obtain ⟨⟨p4, q4, n4⟩, ⟨u4, v4, m4⟩, o4, e4⟩ := i4
 obtain ⟨⟨p5, q5, n5⟩, ⟨u5, v5, m5⟩, o5, e5⟩ := i5
 rcases h1 with rfl | rfl <;> rcases h3 with rfl | rfl <;> rcases h5 with rfl | rfl <;> cases n <;> cases z <;> cases p <;>
 (show Sp _ _ _ _ _ _; exact walk (code := Tryz.f48.body.getD .skip) [cr S] fol Tryz.func48 (by kernel_rfl) (fun xs w => Tryz.call48 xs w) (by kernel_rfl))
theorem uWhere {a b c : Rat} {l : List Rl} (hl : IsRoots a b c l) [ha : HasSz a 2] [hb : HasSz b 2] [hc : HasSz c 2] (hz : ∀ x ∈ l, HasSz x.p 8 ∧ HasSz x.r 8) (inn : Iv) [h1 : HasSz inn.F.p 8] [h2 : HasSz inn.F.r 8] [h3 : HasSz inn.T.p 8] [h4 : HasSz inn.T.r 8] (hF : inn.F.Ok) (hT : inn.T.Ok) (hi : inn.full) (n z p : Bool) :
    WhereSp a b c inn.F inn.T inn.oF inn.oT n z p (whr (wB n z p) (parts inn (sBt (qval a b c) (sgQ c)) l inn.F inn.oF)) := by
 refine parts_cases hl inn hi (Φ := fun L => Sp Tryz.prog 44 [] [qV a b c, ivV inn.F inn.T inn.oF inn.oT] (.tuple #[row 0 L.length, nV 0]) [(L.length, pcs L)] → WhereSp a b c inn.F inn.T inn.oF inn.oT n z p (whr (wB n z p) L)) ?_ ?_ ?_ ?_ ?_ ?_ ?_ ?_ ?_ (uSigns hl hz inn hF hT hi)
 ·exact fun p s h S => wh_m a b c _ _ _ _ _ _ h _ _ _ S
 ·exact fun p S => wh_r a b c _ _ _ _ _ _ _ _ S
 ·exact fun p s q h S => wh_mr a b c _ _ _ _ _ _ _ h _ _ _ S
 ·exact fun q p s h S => wh_rm a b c _ _ _ _ _ _ _ h _ _ _ S
 ·exact fun p s q p' s' h h' S => wh_mrm a b c _ _ _ _ _ _ _ _ _ h h' _ _ _ S
 ·exact fun q p s q' h S => wh_rmr a b c _ _ _ _ _ _ _ _ h _ _ _ S
 ·exact fun p s q p' s' q' h h' S => wh_mrmr a b c _ _ _ _ _ _ _ _ _ _ h h' _ _ _ S
 ·exact fun q p s q' p' s' h h' S => wh_rmrm a b c _ _ _ _ _ _ _ _ _ _ h h' _ _ _ S
 ·exact fun p s q p' s' q' p'' s'' h h' h'' S => wh_mrmrm a b c _ _ _ _ _ _ _ _ _ _ _ _ h h' h'' _ _ _ S
end Go.Proofs.YtlblfgbpogljoaaGreatDoor

end
section
/- Reference 04: the walks of Where. -/
namespace Go.Proofs.YtlblfgbpogljoaaGreatDoor
open Go Go.RowKit Go.Sy
open Vi
end Go.Proofs.YtlblfgbpogljoaaGreatDoor

end
section
/- Reference 04: Where over five parts; Where. -/
namespace Go.Proofs.YtlblfgbpogljoaaGreatDoor
open Go Go.RowKit Go.Sy
open Vi
end Go.Proofs.YtlblfgbpogljoaaGreatDoor

end
section
/- Chapter 4: the example with which its laws begin. -/
namespace Go.Proofs.YtlblfgbpogljoaaGreatDoor
open Go Go.RowKit Go.Sy
open Vi
theorem eqX_run (d : Nat) (V A V' A' : Rl) (a a' : Bool) (w : World) : (Op.equalIn (d + 5) 101 (exV V A a) (exV V' A' a')).run Tryz.prog w = .ok ((open Classical in decide (V = V')) && ((open Classical in decide (A = A')) && ((a == a') && true))) w :=
 eqStruct (l := [(30, 0), (30, 9), (4, 18)]) (by kernel_rfl) (by kernel_rfl) (by kernel_rfl)
  (.cons (a := rlV V) (b := rlV V') (by kernel_rfl) (by kernel_rfl) (eqL_run d V V') (.cons (a := rlV A) (b := rlV A') (by kernel_rfl) (by kernel_rfl) (eqL_run d A A')
   (.cons (a := .bool a) (b := .bool a') (by kernel_rfl) (by kernel_rfl) (fun w => run_equalIn_bool w (d + 3) 4 a a' (by kernel_rfl)) .nil))) w
theorem sameX (V A : Rl) (a : Bool) : Bin .eql 101 (exV V A a) (exV V A a) (.bool true) := by
 have h := binS (T := 101) (fun w => eqX_run 9995 V A V A a a w) (by kernel_rfl)
 simp at h
 exact h
theorem lt_dec {x y : Rl} (hx : 0 ≤ x.r) (hy : 0 ≤ y.r) (h : Rl.cmpF x y = -1) : x.val < y.val := (cmp_lss x y).1 (by rw [cmp_dec hx hy h]; decide)
theorem sg_at (a b c t : Rat) : sgR (qval a b c (Rl.rat t).val) = sgQ (evQ a b c t) := by
 rw [← atQ_val (Rl.rat_ok t), atQ_rat, Rl.rat_val, sg_rat]
theorem vKnown4 : Sp Tryz.prog 32 [] [] (.bool true) [] := by
 have i2 : ∀ w : Rat, w * w ≠ 2 := irr_nat 2 1 (by omega) (by omega)
 have mA : mkR 0 (-1) 2 = ⟨0, 2, true⟩ := by rw [mkR_irr _ _ _ i2]; simp only [Rl.mk.injEq]; exact ⟨trivial, by decide +kernel, by decide +kernel⟩
 have mB : mkR 0 1 2 = ⟨0, 2, false⟩ := by rw [mkR_irr _ _ _ i2]; simp only [Rl.mk.injEq]; exact ⟨trivial, by decide +kernel, by decide +kernel⟩
 have hl : IsRoots (-2) 0 1 [⟨0, 2, true⟩, ⟨0, 2, false⟩] := by
  rw [← mA, ← mB]
  exact .two (h := 0) (d := 2) (by decide +kernel) (by decide +kernel) (by decide +kernel) (by decide +kernel)
 have ok2 : ∀ n, (⟨0, 2, n⟩ : Rl).Ok := fun n => .inr ⟨by show (0 : Rat) < 2; decide +kernel, i2⟩
 haveI z0 : HasSz (0 : Rat) 2 := ⟨by decide +kernel, by decide +kernel⟩
 haveI z1 : HasSz (1 : Rat) 2 := ⟨by decide +kernel, by decide +kernel⟩
 haveI z2 : HasSz (-2 : Rat) 2 := ⟨by decide +kernel, by decide +kernel⟩
 have s0 : HasSz (0 : Rat) 8 := ⟨by decide +kernel, by decide +kernel⟩
 have s2 : HasSz (2 : Rat) 8 := ⟨by decide +kernel, by decide +kernel⟩
 have n0 : (0 : Rat) ≤ (Rl.rat 0).r := Rat.le_refl
 have n2 : (0 : Rat) ≤ (Rl.rat 2).r := Rat.le_refl
 have two0 : ∀ n, (0 : Rat) ≤ (⟨0, 2, n⟩ : Rl).r := fun n => by show (0 : Rat) ≤ 2; decide +kernel
 have R := uRoots (-2) 0 1 _ hl
 have l0 : (⟨0, 2, true⟩ : Rl).val < (Rl.rat 0).val := lt_dec (two0 _) n0 (by decide +kernel)
 have l1 : (Rl.rat 0).val < (⟨0, 2, false⟩ : Rl).val := lt_dec n0 (two0 _) (by decide +kernel)
 have l2 : (⟨0, 2, false⟩ : Rl).val < (Rl.rat 2).val := lt_dec (two0 _) n2 (by decide +kernel)
 obtain ⟨inn, hinn⟩ : ∃ inn : Iv, inn = ⟨Rl.rat 0, Rl.rat 2, false, false⟩ := ⟨_, rfl⟩
 have eF : inn.F = Rl.rat 0 := by rw [hinn]
 have eT : inn.T = Rl.rat 2 := by rw [hinn]
 have eo : inn.oF = false := by rw [hinn]
 have ep : inn.oT = false := by rw [hinn]
 haveI : HasSz inn.F.p 8 := by rw [eF]; exact s0
 haveI : HasSz inn.F.r 8 := by rw [eF]; exact s0
 haveI : HasSz inn.T.p 8 := by rw [eT]; exact s2
 haveI : HasSz inn.T.r 8 := by rw [eT]; exact s0
 have W := uWhere hl (ha := z2) (hb := z0) (hc := z1) (fun x hx => by
  simp only [List.mem_cons, List.not_mem_nil, or_false] at hx
  rcases hx with rfl | rfl
  ·exact ⟨s0, s2⟩
  ·exact ⟨s0, s2⟩) inn (by rw [eF]; exact Rl.rat_ok _) (by rw [eT]; exact Rl.rat_ok _) (.inl (by rw [eF, eT]; exact RR.lt_trans l1 l2)) true true false
 have h1 : ¬ inn.has (⟨0, 2, true⟩ : Rl).val := fun h => by
  rcases h.1 with g | ⟨_, g⟩
  ·rw [eF] at g; exact RR.lt_irrefl _ (RR.lt_trans g l0)
  ·rw [eF] at g; rw [← g] at l0; exact RR.lt_irrefl _ l0
 have h2 : inn.has (⟨0, 2, false⟩ : Rl).val := ⟨.inl (by rw [eF]; exact l1), .inl (by rw [eT]; exact l2)⟩
 have q0 : sgQ (evQ (-2) 0 1 0) = -1 := by decide +kernel
 have q2 : sgQ (evQ (-2) 0 1 2) = 1 := by decide +kernel
 have e1 : sBt (qval (-2) 0 1) (sgQ 1) inn.F ⟨0, 2, false⟩ = -1 := by
  unfold sBt
  rw [eF, sg_at, q0, btwS_left (by omega)]
 have e2 : sBt (qval (-2) 0 1) (sgQ 1) ⟨0, 2, false⟩ inn.T = 1 := by
  unfold sBt
  rw [eT, sg_at, q2, hl.sgs.root _ (by simp)]
  rfl
 rw [parts_n h1, parts_l h2 (by rw [eF]; exact l1), parts_f (show Iv.full ⟨⟨0, 2, false⟩, inn.T, true, inn.oT⟩ from .inl (by rw [eT]; exact l2)), e1, e2, eF, eT, eo, ep] at W
 have W : Sp Tryz.prog 48 [] [qV (-2) 0 1, ivV (Rl.rat 0) (Rl.rat 2) false false, .bool true, .bool true, .bool false] (.tuple #[row 0 1, nV 0]) [(1, ivC ⟨Rl.rat 0, ⟨0, 2, false⟩, false, false⟩)] := W
 obtain ⟨J, hJ⟩ : ∃ J : Iv, J = ⟨Rl.rat 0, Rl.rat 2, true, false⟩ := ⟨_, rfl⟩
 have fF : J.F = Rl.rat 0 := by rw [hJ]
 have fT : J.T = Rl.rat 2 := by rw [hJ]
 have fo : J.oF = true := by rw [hJ]
 have fp : J.oT = false := by rw [hJ]
 haveI : HasSz J.F.p 8 := by rw [fF]; exact s0
 haveI : HasSz J.F.r 8 := by rw [fF]; exact s0
 haveI : HasSz J.T.p 8 := by rw [fT]; exact s2
 haveI : HasSz J.T.r 8 := by rw [fT]; exact s0
 have X := uLeast (-2) 0 1 J (ha := z2) (hb := z0) (hc := z1) (by rw [fF]; exact Rl.rat_ok _) (by rw [fT]; exact Rl.rat_ok _) (.inl (by rw [fF, fT]; exact RR.lt_trans l1 l2))
 have v0 : atQ (-2) 0 1 (Rl.rat 0) = Rl.rat (-2) := by rw [atQ_rat, show evQ (-2) 0 1 0 = -2 by decide +kernel]
 have v2 : atQ (-2) 0 1 (Rl.rat 2) = Rl.rat 2 := by rw [atQ_rat, show evQ (-2) 0 1 2 = 2 by decide +kernel]
 have lm : (Rl.rat (-2)).val < (Rl.rat 2).val := by rw [Rl.rat_val, Rl.rat_val]; exact RR.rat_lt.2 (by decide +kernel)
 have b0 : ltB (Rl.rat (-2)) (Rl.rat (-2)) = false := by
  have := mt (ltB_iff (x := Rl.rat (-2)) (y := Rl.rat (-2))).1 (RR.lt_irrefl _)
  simpa using this
 have b2 : ltB (Rl.rat 2) (Rl.rat (-2)) = false := by
  have := mt (ltB_iff (x := Rl.rat 2) (y := Rl.rat (-2))).1 (fun h => RR.lt_irrefl _ (RR.lt_trans h lm))
  simpa using this
 have ec : cand 0 1 J.F J.T = [Rl.rat 0, Rl.rat 2] := by
  unfold cand
  rw [if_neg, fF, fT]
  rw [fF, Rl.rat_val, show (0 : Rat) / (-2 * 1) = 0 by decide +kernel]
  exact fun h => RR.lt_irrefl _ h.2.1
 have eA : exA ltB (-2) 0 1 J = Rl.rat 0 := by
  unfold exA
  rw [ec, fF]
  unfold pk
  rw [v0, b0, if_neg (by simp)]
  unfold pk
  rw [v0, v2, b2, if_neg (by simp)]
  rfl
 have eM : exM ltB (-2) 0 1 J = false := by
  unfold exM
  rw [eA, v0, ec, show decide (dgQ (-2) 0 1 < 1) = false by decide +kernel]
  unfold rch
  have c0 : hiB J (Rl.rat 0) = false := by
   unfold hiB
   rw [fF, fT, fo, fp, cmp_dec (v := 0) n0 n0 (by decide +kernel), cmp_dec (v := -1) n0 n2 (by decide +kernel)]
   rfl
  rw [c0, Bool.false_and, Bool.false_or]
  unfold rch
  have : eqB (atQ (-2) 0 1 (Rl.rat 2)) (Rl.rat (-2)) = false := by
   rw [v2]
   unfold eqB
   simp only [decide_eq_false_iff_not]
   exact fun h => by rw [h] at lm; exact RR.lt_irrefl _ lm
  simp only [this, Bool.and_false, Bool.or_false]
  rfl
 rw [eA, eM, v0, fF, fT, fo, fp] at X
 haveI : HasSz (⟨1, 3, false⟩ : Rl).p 2 := z1
 haveI : HasSz (⟨1, 3, false⟩ : Rl).r 2 := ⟨by decide +kernel, by decide +kernel⟩
 have D := uReduce (-2) 0 1 ⟨1, 3, false⟩
 have eD : redV (-2) 0 1 ⟨1, 3, false⟩ = qV 0 2 0 := by
  unfold redV
  rw [if_neg (by decide +kernel), show rd0 (-2) 1 1 3 = 0 by decide +kernel, show rd1 0 1 1 = 2 by decide +kernel]
 rw [eD] at D
 have N1 := wnumber (-2) (by omega) (by omega)
 have N2 := wnumber 1 (by omega) (by omega)
 have N3 := wnumber 2 (by omega) (by omega)
 have N4 := wnumber 3 (by omega) (by omega)
 rw [show ((-2 : Int) : Rat) = -2 from rfl] at N1
 rw [show ((1 : Int) : Rat) = 1 from rfl] at N2
 rw [show ((2 : Int) : Rat) = 2 from rfl] at N3
 rw [show ((3 : Int) : Rat) = 3 from rfl] at N4
 have x1 := sameL ⟨0, 2, true⟩
 have x2 := sameI (Rl.rat 0) ⟨0, 2, false⟩ false false
 have x3 := sameX (Rl.rat (-2)) (Rl.rat 0) false
 have x4 := binQ 0 2 0 0 2 0 (q := true) (by simp)
 have R : Sp Tryz.prog 39 [] [qV (-2) 0 1] (.tuple #[row 0 2, nV 0]) [(2, rlC ⟨0, 2, true⟩ ++ rlC ⟨0, 2, false⟩)] := R
 clear i2 mA mB hl ok2 z0 z1 z2 s0 s2 n0 n2 two0 l0 l1 l2 hinn eF eT eo ep h1 h2 q0 q2 e1 e2 hJ fF fT fo fp v0 v2 lm b0 b2 ec eA eM eD
 clear this
 simp only [qV, rlV, ivV, ivC, exV, exC, rlC, Rl.rat, show (0 : Rat).num = 0 from rfl, show dn 0 = 0 from rfl, sg0, mg0, List.cons_append, List.nil_append] at *
 generalize (-2 : Rat) = m2 at *
 generalize (1 : Rat) = one at *
 generalize (2 : Rat) = two at *
 generalize (3 : Rat) = three at *
 exact walk (code := Tryz.f32.body.getD .skip) [c N1, c N2, cr R, c N3, cr W, c N3, c X, c N2, c N4, c D, c N3, Sy.x2 x1, c N3, Sy.x2 x2, c N1, Sy.x2 x3, c N3, Sy.x2 x4] fol Tryz.func32 (by kernel_rfl) (fun xs w => Tryz.call32 xs w) (by kernel_rfl)
end Go.Proofs.YtlblfgbpogljoaaGreatDoor

end
section
/- No program in sight: a reduced function is zero exactly where the function is. -/
namespace Go.Proofs.YtlblfgbpogljoaaGreatDoor
open Go Go.RowKit Go.Sy
open Vi RR
end Go.Proofs.YtlblfgbpogljoaaGreatDoor

end
section
/- Chapter 4's law about reduced functions. -/
namespace Go.Proofs.YtlblfgbpogljoaaGreatDoor
open Go Go.RowKit Go.Sy
open Vi
end Go.Proofs.YtlblfgbpogljoaaGreatDoor

end
