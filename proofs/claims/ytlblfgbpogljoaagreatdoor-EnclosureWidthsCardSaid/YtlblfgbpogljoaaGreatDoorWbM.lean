/- Part 13 of the proof; what it holds is said text by text. -/
import Derived.Test.YtlblfgbpogljoaaGreatDoorWbL
import Derived.Test.YtlblfgbpogljoaaGreatDoorWbA
import Derived.Deep.Slices
import Derived.Carry
set_option linter.unusedSimpArgs false
set_option linter.unusedVariables false
section
/- Both laws for 4 elements. -/
namespace Go.Proofs.YtlblfgbpogljoaaGreatDoor
open Go Go.RowKit Go.Sy
open Vi
theorem lw4 (b : Int) (q1 q2 q3 q4 : En) (h1 : EnOk q1) (h2 : EnOk q2) (h3 : EnOk q3) (h4 : EnOk q4) : SpG Tryz.prog 4 [(4, enS [q1, q2, q3, q4])] [row 0 4, nV b] (.bool true) := by
 have K := vKnown5
 obtain ⟨x1, ox1, I1⟩ := vInterval q1 h1
 obtain ⟨x2, ox2, I2⟩ := vInterval q2 h2
 obtain ⟨x3, ox3, I3⟩ := vInterval q3 h3
 obtain ⟨x4, ox4, I4⟩ := vInterval q4 h4
 by_cases g1 : b < 0
 ·have e1 : decide (b < 0) = true := decide_eq_true g1
  have L := eLenA b e1 4 (its [x1, x2, x3, x4])
  clear h1 ox1 h2 ox2 h3 ox3 h4 ox4
  unfold enI at I1
  obtain ⟨⟨p1, r1, w1⟩, ⟨u1, v1, y1⟩⟩ := x1
  obtain ⟨qa1, qb1, qc1, qd1, qm1, qe1, qf1, qg1, qh1, qn1⟩ := q1
  unfold enI at I2
  obtain ⟨⟨p2, r2, w2⟩, ⟨u2, v2, y2⟩⟩ := x2
  obtain ⟨qa2, qb2, qc2, qd2, qm2, qe2, qf2, qg2, qh2, qn2⟩ := q2
  unfold enI at I3
  obtain ⟨⟨p3, r3, w3⟩, ⟨u3, v3, y3⟩⟩ := x3
  obtain ⟨qa3, qb3, qc3, qd3, qm3, qe3, qf3, qg3, qh3, qn3⟩ := q3
  unfold enI at I4
  obtain ⟨⟨p4, r4, w4⟩, ⟨u4, v4, y4⟩⟩ := x4
  obtain ⟨qa4, qb4, qc4, qd4, qm4, qe4, qf4, qg4, qh4, qn4⟩ := q4
  dsimp only at *
  exact walkG (code := Tryz.f4.body.getD .skip) [c K, c I1, c I2, c I3, c I4, cr L, eb e1, Sy.L, x2 binOZ] fol Tryz.func4 (by kernel_rfl) (by kernel_rfl) (by kernel_rfl)
 by_cases g2 : b > 128
 ·have e1 : decide (b < 0) = false := decide_eq_false g1
  have e2 : decide (b > 128) = true := decide_eq_true g2
  have L := eLenB b e1 e2 4 (its [x1, x2, x3, x4])
  clear h1 ox1 h2 ox2 h3 ox3 h4 ox4
  unfold enI at I1
  obtain ⟨⟨p1, r1, w1⟩, ⟨u1, v1, y1⟩⟩ := x1
  obtain ⟨qa1, qb1, qc1, qd1, qm1, qe1, qf1, qg1, qh1, qn1⟩ := q1
  unfold enI at I2
  obtain ⟨⟨p2, r2, w2⟩, ⟨u2, v2, y2⟩⟩ := x2
  obtain ⟨qa2, qb2, qc2, qd2, qm2, qe2, qf2, qg2, qh2, qn2⟩ := q2
  unfold enI at I3
  obtain ⟨⟨p3, r3, w3⟩, ⟨u3, v3, y3⟩⟩ := x3
  obtain ⟨qa3, qb3, qc3, qd3, qm3, qe3, qf3, qg3, qh3, qn3⟩ := q3
  unfold enI at I4
  obtain ⟨⟨p4, r4, w4⟩, ⟨u4, v4, y4⟩⟩ := x4
  obtain ⟨qa4, qb4, qc4, qd4, qm4, qe4, qf4, qg4, qh4, qn4⟩ := q4
  dsimp only at *
  exact walkG (code := Tryz.f4.body.getD .skip) [c K, c I1, c I2, c I3, c I4, cr L, eb e1, eb e2, Sy.L, x2 binOZ] fol Tryz.func4 (by kernel_rfl) (by kernel_rfl) (by kernel_rfl)
 ·have e1 : decide (b < 0) = false := decide_eq_false g1
  have e2 : decide (b > 128) = false := decide_eq_false g2
  obtain ⟨n, rfl⟩ : ∃ n : Nat, b = (n : Int) := ⟨b.toNat, by omega⟩
  have ln := len4 x1 x2 x3 x4 ox1 ox2 ox3 ox4 n (by omega)
  obtain ⟨L, M⟩ := ln
  have N := rSgn (lnS n [x1, x2, x3, x4] 0 0).1
  have e3 : decide (sgQ (lnS n [x1, x2, x3, x4] 0 0).1 < 0) = false := by rw [sgQ_neg5]; exact decide_eq_false (Rat.not_lt.2 (lnS_pos n _ 0 0 Rat.le_refl))
  have V := vSame (lnS n [x1, x2, x3, x4] 0 0).1 (lnS n [x1, x2, x3, x4] 0 0).2
  clear h1 ox1 h2 ox2 h3 ox3 h4 ox4
  generalize (lnS n [x1, x2, x3, x4] 0 0).1 = s at *
  generalize (lnS n [x1, x2, x3, x4] 0 0).2 = S at *
  unfold enI at I1
  obtain ⟨⟨p1, r1, w1⟩, ⟨u1, v1, y1⟩⟩ := x1
  obtain ⟨qa1, qb1, qc1, qd1, qm1, qe1, qf1, qg1, qh1, qn1⟩ := q1
  unfold enI at I2
  obtain ⟨⟨p2, r2, w2⟩, ⟨u2, v2, y2⟩⟩ := x2
  obtain ⟨qa2, qb2, qc2, qd2, qm2, qe2, qf2, qg2, qh2, qn2⟩ := q2
  unfold enI at I3
  obtain ⟨⟨p3, r3, w3⟩, ⟨u3, v3, y3⟩⟩ := x3
  obtain ⟨qa3, qb3, qc3, qd3, qm3, qe3, qf3, qg3, qh3, qn3⟩ := q3
  unfold enI at I4
  obtain ⟨⟨p4, r4, w4⟩, ⟨u4, v4, y4⟩⟩ := x4
  obtain ⟨qa4, qb4, qc4, qd4, qm4, qe4, qf4, qg4, qh4, qn4⟩ := q4
  dsimp only at *
  exact walkG (code := Tryz.f4.body.getD .skip) [c K, c I1, c I2, c I3, c I4, cr L, eb e1, eb e2, cr M, c V, c N, eb e3] fol Tryz.func4 (by kernel_rfl) (by kernel_rfl) (by kernel_rfl)
theorem ww4 (m : Nat) (hm : m < 256) (q1 q2 q3 q4 : En) (h1 : EnOk q1) (h2 : EnOk q2) (h3 : EnOk q3) (h4 : EnOk q4) : SpG Tryz.prog 3 [(4, enS [q1, q2, q3, q4])] [row 0 4, bV m] (.bool true) := by
 have K := vKnown5
 obtain ⟨x1, ox1, I1⟩ := vInterval q1 h1
 obtain ⟨x2, ox2, I2⟩ := vInterval q2 h2
 obtain ⟨x3, ox3, I3⟩ := vInterval q3 h3
 obtain ⟨x4, ox4, I4⟩ := vInterval q4 h4
 obtain ⟨t, z, B, wW, ht, ez, SH, FI, z1, z2⟩ := wd_facts m hm
 have L := (len4 x1 x2 x3 x4 ox1 ox2 ox3 ox4 t (by omega)).1
 obtain ⟨s1, s2⟩ := lnS_hs t (by omega) [x1, x2, x3, x4] (by simp only [List.mem_cons, List.not_mem_nil, or_false]; intro x hx; rcases hx with rfl | rfl | rfl | rfl <;> assumption) 0 0 1
 obtain ⟨O, D, C, e1⟩ := wd_end t z ez z1 z2 4 (by omega) (lnS t [x1, x2, x3, x4] 0 0).1 (lnS t [x1, x2, x3, x4] 0 0).2 8001 (by omega) (hs_mono s1 (by simp)) (hs_mono s2 (by simp)) (lnS_wide t [x1, x2, x3, x4] 0 0)
 have W := eWidth (lnS t [x1, x2, x3, x4] 0 0).1 (lnS t [x1, x2, x3, x4] 0 0).2 (f2 s1) (f2 s2)
 clear ez z1 z2 ht s1 s2 hm h1 ox1 h2 ox2 h3 ox3 h4 ox4
 generalize (lnS t [x1, x2, x3, x4] 0 0).1 = s at *
 generalize (lnS t [x1, x2, x3, x4] 0 0).2 = S at *
 generalize S - s = wd at *
 generalize (((2 * 4 : Nat) : Int) : Rat) = tw at *
 generalize tw / ((z : Int) : Rat) = mo at *
 unfold enI at I1
 obtain ⟨⟨p1, r1, w1⟩, ⟨u1, v1, y1⟩⟩ := x1
 obtain ⟨qa1, qb1, qc1, qd1, qm1, qe1, qf1, qg1, qh1, qn1⟩ := q1
 unfold enI at I2
 obtain ⟨⟨p2, r2, w2⟩, ⟨u2, v2, y2⟩⟩ := x2
 obtain ⟨qa2, qb2, qc2, qd2, qm2, qe2, qf2, qg2, qh2, qn2⟩ := q2
 unfold enI at I3
 obtain ⟨⟨p3, r3, w3⟩, ⟨u3, v3, y3⟩⟩ := x3
 obtain ⟨qa3, qb3, qc3, qd3, qm3, qe3, qf3, qg3, qh3, qn3⟩ := q3
 unfold enI at I4
 obtain ⟨⟨p4, r4, w4⟩, ⟨u4, v4, y4⟩⟩ := x4
 obtain ⟨qa4, qb4, qc4, qd4, qm4, qe4, qf4, qg4, qh4, qn4⟩ := q4
 dsimp only at *
 exact walkG (code := Tryz.f3.body.getD .skip) [c K, c I1, c I2, c I3, c I4, Sy.L, Sy.L, x2 B, Go.Sy.e (congrArg (Value.int IntKind.i64) wW), cr L, c O, x2 SH, c FI, c D, c W, c C, eb e1] fol Tryz.func3 (by kernel_rfl) (by kernel_rfl) (by kernel_rfl)
end Go.Proofs.YtlblfgbpogljoaaGreatDoor

end
section
/- Both laws for 5 elements. -/
namespace Go.Proofs.YtlblfgbpogljoaaGreatDoor
open Go Go.RowKit Go.Sy
open Vi
theorem lw5 (b : Int) (q1 q2 q3 q4 q5 : En) (h1 : EnOk q1) (h2 : EnOk q2) (h3 : EnOk q3) (h4 : EnOk q4) (h5 : EnOk q5) : SpG Tryz.prog 4 [(5, enS [q1, q2, q3, q4, q5])] [row 0 5, nV b] (.bool true) := by
 have K := vKnown5
 obtain ⟨x1, ox1, I1⟩ := vInterval q1 h1
 obtain ⟨x2, ox2, I2⟩ := vInterval q2 h2
 obtain ⟨x3, ox3, I3⟩ := vInterval q3 h3
 obtain ⟨x4, ox4, I4⟩ := vInterval q4 h4
 obtain ⟨x5, ox5, I5⟩ := vInterval q5 h5
 by_cases g1 : b < 0
 ·have e1 : decide (b < 0) = true := decide_eq_true g1
  have L := eLenA b e1 5 (its [x1, x2, x3, x4, x5])
  clear h1 ox1 h2 ox2 h3 ox3 h4 ox4 h5 ox5
  unfold enI at I1
  obtain ⟨⟨p1, r1, w1⟩, ⟨u1, v1, y1⟩⟩ := x1
  obtain ⟨qa1, qb1, qc1, qd1, qm1, qe1, qf1, qg1, qh1, qn1⟩ := q1
  unfold enI at I2
  obtain ⟨⟨p2, r2, w2⟩, ⟨u2, v2, y2⟩⟩ := x2
  obtain ⟨qa2, qb2, qc2, qd2, qm2, qe2, qf2, qg2, qh2, qn2⟩ := q2
  unfold enI at I3
  obtain ⟨⟨p3, r3, w3⟩, ⟨u3, v3, y3⟩⟩ := x3
  obtain ⟨qa3, qb3, qc3, qd3, qm3, qe3, qf3, qg3, qh3, qn3⟩ := q3
  unfold enI at I4
  obtain ⟨⟨p4, r4, w4⟩, ⟨u4, v4, y4⟩⟩ := x4
  obtain ⟨qa4, qb4, qc4, qd4, qm4, qe4, qf4, qg4, qh4, qn4⟩ := q4
  unfold enI at I5
  obtain ⟨⟨p5, r5, w5⟩, ⟨u5, v5, y5⟩⟩ := x5
  obtain ⟨qa5, qb5, qc5, qd5, qm5, qe5, qf5, qg5, qh5, qn5⟩ := q5
  dsimp only at *
  exact walkG (code := Tryz.f4.body.getD .skip) [c K, c I1, c I2, c I3, c I4, c I5, cr L, eb e1, Sy.L, x2 binOZ] fol Tryz.func4 (by kernel_rfl) (by kernel_rfl) (by kernel_rfl)
 by_cases g2 : b > 128
 ·have e1 : decide (b < 0) = false := decide_eq_false g1
  have e2 : decide (b > 128) = true := decide_eq_true g2
  have L := eLenB b e1 e2 5 (its [x1, x2, x3, x4, x5])
  clear h1 ox1 h2 ox2 h3 ox3 h4 ox4 h5 ox5
  unfold enI at I1
  obtain ⟨⟨p1, r1, w1⟩, ⟨u1, v1, y1⟩⟩ := x1
  obtain ⟨qa1, qb1, qc1, qd1, qm1, qe1, qf1, qg1, qh1, qn1⟩ := q1
  unfold enI at I2
  obtain ⟨⟨p2, r2, w2⟩, ⟨u2, v2, y2⟩⟩ := x2
  obtain ⟨qa2, qb2, qc2, qd2, qm2, qe2, qf2, qg2, qh2, qn2⟩ := q2
  unfold enI at I3
  obtain ⟨⟨p3, r3, w3⟩, ⟨u3, v3, y3⟩⟩ := x3
  obtain ⟨qa3, qb3, qc3, qd3, qm3, qe3, qf3, qg3, qh3, qn3⟩ := q3
  unfold enI at I4
  obtain ⟨⟨p4, r4, w4⟩, ⟨u4, v4, y4⟩⟩ := x4
  obtain ⟨qa4, qb4, qc4, qd4, qm4, qe4, qf4, qg4, qh4, qn4⟩ := q4
  unfold enI at I5
  obtain ⟨⟨p5, r5, w5⟩, ⟨u5, v5, y5⟩⟩ := x5
  obtain ⟨qa5, qb5, qc5, qd5, qm5, qe5, qf5, qg5, qh5, qn5⟩ := q5
  dsimp only at *
  exact walkG (code := Tryz.f4.body.getD .skip) [c K, c I1, c I2, c I3, c I4, c I5, cr L, eb e1, eb e2, Sy.L, x2 binOZ] fol Tryz.func4 (by kernel_rfl) (by kernel_rfl) (by kernel_rfl)
 ·have e1 : decide (b < 0) = false := decide_eq_false g1
  have e2 : decide (b > 128) = false := decide_eq_false g2
  obtain ⟨n, rfl⟩ : ∃ n : Nat, b = (n : Int) := ⟨b.toNat, by omega⟩
  have ln := len5 x1 x2 x3 x4 x5 ox1 ox2 ox3 ox4 ox5 n (by omega)
  obtain ⟨L, M⟩ := ln
  have N := rSgn (lnS n [x1, x2, x3, x4, x5] 0 0).1
  have e3 : decide (sgQ (lnS n [x1, x2, x3, x4, x5] 0 0).1 < 0) = false := by rw [sgQ_neg5]; exact decide_eq_false (Rat.not_lt.2 (lnS_pos n _ 0 0 Rat.le_refl))
  have V := vSame (lnS n [x1, x2, x3, x4, x5] 0 0).1 (lnS n [x1, x2, x3, x4, x5] 0 0).2
  clear h1 ox1 h2 ox2 h3 ox3 h4 ox4 h5 ox5
  generalize (lnS n [x1, x2, x3, x4, x5] 0 0).1 = s at *
  generalize (lnS n [x1, x2, x3, x4, x5] 0 0).2 = S at *
  unfold enI at I1
  obtain ⟨⟨p1, r1, w1⟩, ⟨u1, v1, y1⟩⟩ := x1
  obtain ⟨qa1, qb1, qc1, qd1, qm1, qe1, qf1, qg1, qh1, qn1⟩ := q1
  unfold enI at I2
  obtain ⟨⟨p2, r2, w2⟩, ⟨u2, v2, y2⟩⟩ := x2
  obtain ⟨qa2, qb2, qc2, qd2, qm2, qe2, qf2, qg2, qh2, qn2⟩ := q2
  unfold enI at I3
  obtain ⟨⟨p3, r3, w3⟩, ⟨u3, v3, y3⟩⟩ := x3
  obtain ⟨qa3, qb3, qc3, qd3, qm3, qe3, qf3, qg3, qh3, qn3⟩ := q3
  unfold enI at I4
  obtain ⟨⟨p4, r4, w4⟩, ⟨u4, v4, y4⟩⟩ := x4
  obtain ⟨qa4, qb4, qc4, qd4, qm4, qe4, qf4, qg4, qh4, qn4⟩ := q4
  unfold enI at I5
  obtain ⟨⟨p5, r5, w5⟩, ⟨u5, v5, y5⟩⟩ := x5
  obtain ⟨qa5, qb5, qc5, qd5, qm5, qe5, qf5, qg5, qh5, qn5⟩ := q5
  dsimp only at *
  exact walkG (code := Tryz.f4.body.getD .skip) [c K, c I1, c I2, c I3, c I4, c I5, cr L, eb e1, eb e2, cr M, c V, c N, eb e3] fol Tryz.func4 (by kernel_rfl) (by kernel_rfl) (by kernel_rfl)
theorem ww5 (m : Nat) (hm : m < 256) (q1 q2 q3 q4 q5 : En) (h1 : EnOk q1) (h2 : EnOk q2) (h3 : EnOk q3) (h4 : EnOk q4) (h5 : EnOk q5) : SpG Tryz.prog 3 [(5, enS [q1, q2, q3, q4, q5])] [row 0 5, bV m] (.bool true) := by
 have K := vKnown5
 obtain ⟨x1, ox1, I1⟩ := vInterval q1 h1
 obtain ⟨x2, ox2, I2⟩ := vInterval q2 h2
 obtain ⟨x3, ox3, I3⟩ := vInterval q3 h3
 obtain ⟨x4, ox4, I4⟩ := vInterval q4 h4
 obtain ⟨x5, ox5, I5⟩ := vInterval q5 h5
 obtain ⟨t, z, B, wW, ht, ez, SH, FI, z1, z2⟩ := wd_facts m hm
 have L := (len5 x1 x2 x3 x4 x5 ox1 ox2 ox3 ox4 ox5 t (by omega)).1
 obtain ⟨s1, s2⟩ := lnS_hs t (by omega) [x1, x2, x3, x4, x5] (by simp only [List.mem_cons, List.not_mem_nil, or_false]; intro x hx; rcases hx with rfl | rfl | rfl | rfl | rfl <;> assumption) 0 0 1
 obtain ⟨O, D, C, e1⟩ := wd_end t z ez z1 z2 5 (by omega) (lnS t [x1, x2, x3, x4, x5] 0 0).1 (lnS t [x1, x2, x3, x4, x5] 0 0).2 10001 (by omega) (hs_mono s1 (by simp)) (hs_mono s2 (by simp)) (lnS_wide t [x1, x2, x3, x4, x5] 0 0)
 have W := eWidth (lnS t [x1, x2, x3, x4, x5] 0 0).1 (lnS t [x1, x2, x3, x4, x5] 0 0).2 (f2 s1) (f2 s2)
 clear ez z1 z2 ht s1 s2 hm h1 ox1 h2 ox2 h3 ox3 h4 ox4 h5 ox5
 generalize (lnS t [x1, x2, x3, x4, x5] 0 0).1 = s at *
 generalize (lnS t [x1, x2, x3, x4, x5] 0 0).2 = S at *
 generalize S - s = wd at *
 generalize (((2 * 5 : Nat) : Int) : Rat) = tw at *
 generalize tw / ((z : Int) : Rat) = mo at *
 unfold enI at I1
 obtain ⟨⟨p1, r1, w1⟩, ⟨u1, v1, y1⟩⟩ := x1
 obtain ⟨qa1, qb1, qc1, qd1, qm1, qe1, qf1, qg1, qh1, qn1⟩ := q1
 unfold enI at I2
 obtain ⟨⟨p2, r2, w2⟩, ⟨u2, v2, y2⟩⟩ := x2
 obtain ⟨qa2, qb2, qc2, qd2, qm2, qe2, qf2, qg2, qh2, qn2⟩ := q2
 unfold enI at I3
 obtain ⟨⟨p3, r3, w3⟩, ⟨u3, v3, y3⟩⟩ := x3
 obtain ⟨qa3, qb3, qc3, qd3, qm3, qe3, qf3, qg3, qh3, qn3⟩ := q3
 unfold enI at I4
 obtain ⟨⟨p4, r4, w4⟩, ⟨u4, v4, y4⟩⟩ := x4
 obtain ⟨qa4, qb4, qc4, qd4, qm4, qe4, qf4, qg4, qh4, qn4⟩ := q4
 unfold enI at I5
 obtain ⟨⟨p5, r5, w5⟩, ⟨u5, v5, y5⟩⟩ := x5
 obtain ⟨qa5, qb5, qc5, qd5, qm5, qe5, qf5, qg5, qh5, qn5⟩ := q5
 dsimp only at *
 exact walkG (code := Tryz.f3.body.getD .skip) [c K, c I1, c I2, c I3, c I4, c I5, Sy.L, Sy.L, x2 B, Go.Sy.e (congrArg (Value.int IntKind.i64) wW), cr L, c O, x2 SH, c FI, c D, c W, c C, eb e1] fol Tryz.func3 (by kernel_rfl) (by kernel_rfl) (by kernel_rfl)
end Go.Proofs.YtlblfgbpogljoaaGreatDoor

end
section
/- Both laws for 6 elements. -/
namespace Go.Proofs.YtlblfgbpogljoaaGreatDoor
open Go Go.RowKit Go.Sy
open Vi
theorem lw6 (b : Int) (q1 q2 q3 q4 q5 q6 : En) (h1 : EnOk q1) (h2 : EnOk q2) (h3 : EnOk q3) (h4 : EnOk q4) (h5 : EnOk q5) (h6 : EnOk q6) : SpG Tryz.prog 4 [(6, enS [q1, q2, q3, q4, q5, q6])] [row 0 6, nV b] (.bool true) := by
 have K := vKnown5
 obtain ⟨x1, ox1, I1⟩ := vInterval q1 h1
 obtain ⟨x2, ox2, I2⟩ := vInterval q2 h2
 obtain ⟨x3, ox3, I3⟩ := vInterval q3 h3
 obtain ⟨x4, ox4, I4⟩ := vInterval q4 h4
 obtain ⟨x5, ox5, I5⟩ := vInterval q5 h5
 obtain ⟨x6, ox6, I6⟩ := vInterval q6 h6
 by_cases g1 : b < 0
 ·have e1 : decide (b < 0) = true := decide_eq_true g1
  have L := eLenA b e1 6 (its [x1, x2, x3, x4, x5, x6])
  clear h1 ox1 h2 ox2 h3 ox3 h4 ox4 h5 ox5 h6 ox6
  unfold enI at I1
  obtain ⟨⟨p1, r1, w1⟩, ⟨u1, v1, y1⟩⟩ := x1
  obtain ⟨qa1, qb1, qc1, qd1, qm1, qe1, qf1, qg1, qh1, qn1⟩ := q1
  unfold enI at I2
  obtain ⟨⟨p2, r2, w2⟩, ⟨u2, v2, y2⟩⟩ := x2
  obtain ⟨qa2, qb2, qc2, qd2, qm2, qe2, qf2, qg2, qh2, qn2⟩ := q2
  unfold enI at I3
  obtain ⟨⟨p3, r3, w3⟩, ⟨u3, v3, y3⟩⟩ := x3
  obtain ⟨qa3, qb3, qc3, qd3, qm3, qe3, qf3, qg3, qh3, qn3⟩ := q3
  unfold enI at I4
  obtain ⟨⟨p4, r4, w4⟩, ⟨u4, v4, y4⟩⟩ := x4
  obtain ⟨qa4, qb4, qc4, qd4, qm4, qe4, qf4, qg4, qh4, qn4⟩ := q4
  unfold enI at I5
  obtain ⟨⟨p5, r5, w5⟩, ⟨u5, v5, y5⟩⟩ := x5
  obtain ⟨qa5, qb5, qc5, qd5, qm5, qe5, qf5, qg5, qh5, qn5⟩ := q5
  unfold enI at I6
  obtain ⟨⟨p6, r6, w6⟩, ⟨u6, v6, y6⟩⟩ := x6
  obtain ⟨qa6, qb6, qc6, qd6, qm6, qe6, qf6, qg6, qh6, qn6⟩ := q6
  dsimp only at *
  exact walkG (code := Tryz.f4.body.getD .skip) [c K, c I1, c I2, c I3, c I4, c I5, c I6, cr L, eb e1, Sy.L, x2 binOZ] fol Tryz.func4 (by kernel_rfl) (by kernel_rfl) (by kernel_rfl)
 by_cases g2 : b > 128
 ·have e1 : decide (b < 0) = false := decide_eq_false g1
  have e2 : decide (b > 128) = true := decide_eq_true g2
  have L := eLenB b e1 e2 6 (its [x1, x2, x3, x4, x5, x6])
  clear h1 ox1 h2 ox2 h3 ox3 h4 ox4 h5 ox5 h6 ox6
  unfold enI at I1
  obtain ⟨⟨p1, r1, w1⟩, ⟨u1, v1, y1⟩⟩ := x1
  obtain ⟨qa1, qb1, qc1, qd1, qm1, qe1, qf1, qg1, qh1, qn1⟩ := q1
  unfold enI at I2
  obtain ⟨⟨p2, r2, w2⟩, ⟨u2, v2, y2⟩⟩ := x2
  obtain ⟨qa2, qb2, qc2, qd2, qm2, qe2, qf2, qg2, qh2, qn2⟩ := q2
  unfold enI at I3
  obtain ⟨⟨p3, r3, w3⟩, ⟨u3, v3, y3⟩⟩ := x3
  obtain ⟨qa3, qb3, qc3, qd3, qm3, qe3, qf3, qg3, qh3, qn3⟩ := q3
  unfold enI at I4
  obtain ⟨⟨p4, r4, w4⟩, ⟨u4, v4, y4⟩⟩ := x4
  obtain ⟨qa4, qb4, qc4, qd4, qm4, qe4, qf4, qg4, qh4, qn4⟩ := q4
  unfold enI at I5
  obtain ⟨⟨p5, r5, w5⟩, ⟨u5, v5, y5⟩⟩ := x5
  obtain ⟨qa5, qb5, qc5, qd5, qm5, qe5, qf5, qg5, qh5, qn5⟩ := q5
  unfold enI at I6
  obtain ⟨⟨p6, r6, w6⟩, ⟨u6, v6, y6⟩⟩ := x6
  obtain ⟨qa6, qb6, qc6, qd6, qm6, qe6, qf6, qg6, qh6, qn6⟩ := q6
  dsimp only at *
  exact walkG (code := Tryz.f4.body.getD .skip) [c K, c I1, c I2, c I3, c I4, c I5, c I6, cr L, eb e1, eb e2, Sy.L, x2 binOZ] fol Tryz.func4 (by kernel_rfl) (by kernel_rfl) (by kernel_rfl)
 ·have e1 : decide (b < 0) = false := decide_eq_false g1
  have e2 : decide (b > 128) = false := decide_eq_false g2
  obtain ⟨n, rfl⟩ : ∃ n : Nat, b = (n : Int) := ⟨b.toNat, by omega⟩
  have ln := len6 x1 x2 x3 x4 x5 x6 ox1 ox2 ox3 ox4 ox5 ox6 n (by omega)
  obtain ⟨L, M⟩ := ln
  have N := rSgn (lnS n [x1, x2, x3, x4, x5, x6] 0 0).1
  have e3 : decide (sgQ (lnS n [x1, x2, x3, x4, x5, x6] 0 0).1 < 0) = false := by rw [sgQ_neg5]; exact decide_eq_false (Rat.not_lt.2 (lnS_pos n _ 0 0 Rat.le_refl))
  have V := vSame (lnS n [x1, x2, x3, x4, x5, x6] 0 0).1 (lnS n [x1, x2, x3, x4, x5, x6] 0 0).2
  clear h1 ox1 h2 ox2 h3 ox3 h4 ox4 h5 ox5 h6 ox6
  generalize (lnS n [x1, x2, x3, x4, x5, x6] 0 0).1 = s at *
  generalize (lnS n [x1, x2, x3, x4, x5, x6] 0 0).2 = S at *
  unfold enI at I1
  obtain ⟨⟨p1, r1, w1⟩, ⟨u1, v1, y1⟩⟩ := x1
  obtain ⟨qa1, qb1, qc1, qd1, qm1, qe1, qf1, qg1, qh1, qn1⟩ := q1
  unfold enI at I2
  obtain ⟨⟨p2, r2, w2⟩, ⟨u2, v2, y2⟩⟩ := x2
  obtain ⟨qa2, qb2, qc2, qd2, qm2, qe2, qf2, qg2, qh2, qn2⟩ := q2
  unfold enI at I3
  obtain ⟨⟨p3, r3, w3⟩, ⟨u3, v3, y3⟩⟩ := x3
  obtain ⟨qa3, qb3, qc3, qd3, qm3, qe3, qf3, qg3, qh3, qn3⟩ := q3
  unfold enI at I4
  obtain ⟨⟨p4, r4, w4⟩, ⟨u4, v4, y4⟩⟩ := x4
  obtain ⟨qa4, qb4, qc4, qd4, qm4, qe4, qf4, qg4, qh4, qn4⟩ := q4
  unfold enI at I5
  obtain ⟨⟨p5, r5, w5⟩, ⟨u5, v5, y5⟩⟩ := x5
  obtain ⟨qa5, qb5, qc5, qd5, qm5, qe5, qf5, qg5, qh5, qn5⟩ := q5
  unfold enI at I6
  obtain ⟨⟨p6, r6, w6⟩, ⟨u6, v6, y6⟩⟩ := x6
  obtain ⟨qa6, qb6, qc6, qd6, qm6, qe6, qf6, qg6, qh6, qn6⟩ := q6
  dsimp only at *
  exact walkG (code := Tryz.f4.body.getD .skip) [c K, c I1, c I2, c I3, c I4, c I5, c I6, cr L, eb e1, eb e2, cr M, c V, c N, eb e3] fol Tryz.func4 (by kernel_rfl) (by kernel_rfl) (by kernel_rfl)
theorem ww6 (m : Nat) (hm : m < 256) (q1 q2 q3 q4 q5 q6 : En) (h1 : EnOk q1) (h2 : EnOk q2) (h3 : EnOk q3) (h4 : EnOk q4) (h5 : EnOk q5) (h6 : EnOk q6) : SpG Tryz.prog 3 [(6, enS [q1, q2, q3, q4, q5, q6])] [row 0 6, bV m] (.bool true) := by
 have K := vKnown5
 obtain ⟨x1, ox1, I1⟩ := vInterval q1 h1
 obtain ⟨x2, ox2, I2⟩ := vInterval q2 h2
 obtain ⟨x3, ox3, I3⟩ := vInterval q3 h3
 obtain ⟨x4, ox4, I4⟩ := vInterval q4 h4
 obtain ⟨x5, ox5, I5⟩ := vInterval q5 h5
 obtain ⟨x6, ox6, I6⟩ := vInterval q6 h6
 obtain ⟨t, z, B, wW, ht, ez, SH, FI, z1, z2⟩ := wd_facts m hm
 have L := (len6 x1 x2 x3 x4 x5 x6 ox1 ox2 ox3 ox4 ox5 ox6 t (by omega)).1
 obtain ⟨s1, s2⟩ := lnS_hs t (by omega) [x1, x2, x3, x4, x5, x6] (by simp only [List.mem_cons, List.not_mem_nil, or_false]; intro x hx; rcases hx with rfl | rfl | rfl | rfl | rfl | rfl <;> assumption) 0 0 1
 obtain ⟨O, D, C, e1⟩ := wd_end t z ez z1 z2 6 (by omega) (lnS t [x1, x2, x3, x4, x5, x6] 0 0).1 (lnS t [x1, x2, x3, x4, x5, x6] 0 0).2 12001 (by omega) (hs_mono s1 (by simp)) (hs_mono s2 (by simp)) (lnS_wide t [x1, x2, x3, x4, x5, x6] 0 0)
 have W := eWidth (lnS t [x1, x2, x3, x4, x5, x6] 0 0).1 (lnS t [x1, x2, x3, x4, x5, x6] 0 0).2 (f2 s1) (f2 s2)
 clear ez z1 z2 ht s1 s2 hm h1 ox1 h2 ox2 h3 ox3 h4 ox4 h5 ox5 h6 ox6
 generalize (lnS t [x1, x2, x3, x4, x5, x6] 0 0).1 = s at *
 generalize (lnS t [x1, x2, x3, x4, x5, x6] 0 0).2 = S at *
 generalize S - s = wd at *
 generalize (((2 * 6 : Nat) : Int) : Rat) = tw at *
 generalize tw / ((z : Int) : Rat) = mo at *
 unfold enI at I1
 obtain ⟨⟨p1, r1, w1⟩, ⟨u1, v1, y1⟩⟩ := x1
 obtain ⟨qa1, qb1, qc1, qd1, qm1, qe1, qf1, qg1, qh1, qn1⟩ := q1
 unfold enI at I2
 obtain ⟨⟨p2, r2, w2⟩, ⟨u2, v2, y2⟩⟩ := x2
 obtain ⟨qa2, qb2, qc2, qd2, qm2, qe2, qf2, qg2, qh2, qn2⟩ := q2
 unfold enI at I3
 obtain ⟨⟨p3, r3, w3⟩, ⟨u3, v3, y3⟩⟩ := x3
 obtain ⟨qa3, qb3, qc3, qd3, qm3, qe3, qf3, qg3, qh3, qn3⟩ := q3
 unfold enI at I4
 obtain ⟨⟨p4, r4, w4⟩, ⟨u4, v4, y4⟩⟩ := x4
 obtain ⟨qa4, qb4, qc4, qd4, qm4, qe4, qf4, qg4, qh4, qn4⟩ := q4
 unfold enI at I5
 obtain ⟨⟨p5, r5, w5⟩, ⟨u5, v5, y5⟩⟩ := x5
 obtain ⟨qa5, qb5, qc5, qd5, qm5, qe5, qf5, qg5, qh5, qn5⟩ := q5
 unfold enI at I6
 obtain ⟨⟨p6, r6, w6⟩, ⟨u6, v6, y6⟩⟩ := x6
 obtain ⟨qa6, qb6, qc6, qd6, qm6, qe6, qf6, qg6, qh6, qn6⟩ := q6
 dsimp only at *
 exact walkG (code := Tryz.f3.body.getD .skip) [c K, c I1, c I2, c I3, c I4, c I5, c I6, Sy.L, Sy.L, x2 B, Go.Sy.e (congrArg (Value.int IntKind.i64) wW), cr L, c O, x2 SH, c FI, c D, c W, c C, eb e1] fol Tryz.func3 (by kernel_rfl) (by kernel_rfl) (by kernel_rfl)
end Go.Proofs.YtlblfgbpogljoaaGreatDoor

end
section
/- Both laws for an argument of any length, wherever it lies. -/
namespace Go.Proofs.YtlblfgbpogljoaaGreatDoor
open Go Go.RowKit Go.Sy
open Vi
theorem enC_len (q : En) : (enC q).length = 10 := rfl
theorem enS_append (l m : List En) : enS (l ++ m) = enS l ++ enS m := by
 induction l with
 | nil => rfl
 | cons q l ih => show enC q ++ enS (l ++ m) = enC q ++ enS l ++ enS m; rw [ih, List.append_assoc]
theorem enS_len (l : List En) : (enS l).length = 10 * l.length := by
 induction l with
 | nil => rfl
 | cons q l ih => show (enC q ++ enS l).length = _; rw [List.length_append, ih, enC_len, List.length_cons]; omega
theorem enS_plain (l : List En) : ∀ x ∈ enS l, one x = true ∧ ref1 x = [] := by
 induction l with
 | nil => intro x hx; cases hx
 | cons q l ih =>
  intro x hx
  rcases List.mem_append.1 hx with h | h
  ·unfold enC at h
   simp only [List.mem_cons, List.not_mem_nil, or_false] at h
   rcases h with rfl | rfl | rfl | rfl | rfl | rfl | rfl | rfl | rfl | rfl <;> exact ⟨rfl, rfl⟩
  ·exact ih x h
def SlOk (w : World) (v : Value) : Prop :=
 v = .slice none 0 0 ∨ ∃ u o n c, v = .slice (some ⟨u, o, none⟩) n c ∧ n ≤ maxLen ∧ ∃ qs : List En, qs.length = n ∧ (∀ q ∈ qs, EnOk q) ∧ ∀ k, k < 10 * n → w.cell? ⟨u, o + k, none⟩ = (enS qs)[k]?
theorem cell_row {w : World} {u o : Nat} {l : List Value} (h0 : 0 < l.length) (h : ∀ k, k < l.length → w.cell? ⟨u, o + k, none⟩ = l[k]?) : ∃ cs ty fz, w.heap[u]? = some (.cells cs ty fz) ∧ (cs.toList.drop o).take l.length = l := by
 have h1 := h 0 h0
 unfold World.cell? at h1
 rw [List.getElem?_eq_getElem h0] at h1
 split at h1
 ·rename_i cs ty fz he
  refine ⟨cs, ty, fz, he, List.ext_getElem? fun k => ?_⟩
  by_cases hk : k < l.length
  ·have h2 := h k hk
   unfold World.cell? at h2
   simp only at he
   simp only [he, Option.isSome_none, Bool.false_eq_true, if_false] at h2
   rw [List.getElem?_take_of_lt hk, List.getElem?_drop, ← h2, Array.getElem?_toList]
  ·rw [List.getElem?_eq_none (Nat.le_trans (List.length_take_le _ _) (by omega)), List.getElem?_eq_none (by omega)]
 ·cases h1
theorem SlOk.row {w : World} {u o c : Nat} {qs : List En} (h0 : 0 < qs.length) (h : ∀ k, k < 10 * qs.length → w.cell? ⟨u, o + k, none⟩ = (enS qs)[k]?) : RowG w (.slice (some ⟨u, o, none⟩) qs.length c) qs.length (enS qs) := by
 obtain ⟨cs, ty, fz, h1, h2⟩ := cell_row (l := enS qs) (by rw [enS_len]; omega) (by rw [enS_len]; exact h)
 exact ⟨enS_plain qs, u, o, c, cs, ty, fz, rfl, h1, h2⟩
theorem row1 {P : Program} {f : FuncId} {n : Nat} {cells : List Value} {x y : Value} {w : World} {v : Value} (h : SpG P f [(n, cells)] [row 0 n, x] y) (hx : refs x = []) (hw : w.ShapedOpen P) (hr : RowG w v n cells) (hv : den (fun _ => v) (row 0 n) = v) :
    Calls P f #[v, x] w fun e w' => e = .returned y ∧ Below w.heap.size w w' := by
 have := h (fun _ => v) w hw (fun i q hq => by
  cases i with
  | zero => obtain rfl := Option.some.inj hq; exact hr
  | succ i => cases hq)
 have hd : den (fun _ : Nat => v) x = x := denD_plain 2 x hx
 rw [show ([row 0 n, x].map (den fun _ => v)) = [v, x] by rw [List.map_cons, List.map_cons, hv, List.map_nil, hd]] at this
 exact this
theorem lwAll (b : Int) (v : Value) (w : World) (hw : w.ShapedOpen Tryz.prog) (h : SlOk w v) : Calls Tryz.prog 4 #[v, nV b] w fun e w' => e = .returned (.bool true) ∧ Below w.heap.size w w' := by
 rcases h with rfl | ⟨u, o, n, c, rfl, hn, qs, hl, hq, hc⟩
 ·exact (lw0 b).calls rfl rfl w hw
 by_cases h7 : 6 < n
 ·exact (lw7 b u o n c h7 hn).calls rfl rfl w hw
 subst hl
 have R : 0 < qs.length → RowG w (.slice (some ⟨u, o, none⟩) qs.length c) qs.length (enS qs) := fun h0 => SlOk.row h0 hc
 match qs, hq, R, h7 with
 | [], _, _, _ => exact (lw0s b u o c).calls rfl rfl w hw
 | [q1], hq, R, _ => exact row1 (lw1 b q1 (hq _ (by simp))) rfl hw (R (by simp)) rfl
 | [q1, q2], hq, R, _ => exact row1 (lw2 b q1 q2 (hq _ (by simp)) (hq _ (by simp))) rfl hw (R (by simp)) rfl
 | [q1, q2, q3], hq, R, _ => exact row1 (lw3 b q1 q2 q3 (hq _ (by simp)) (hq _ (by simp)) (hq _ (by simp))) rfl hw (R (by simp)) rfl
 | [q1, q2, q3, q4], hq, R, _ => exact row1 (lw4 b q1 q2 q3 q4 (hq _ (by simp)) (hq _ (by simp)) (hq _ (by simp)) (hq _ (by simp))) rfl hw (R (by simp)) rfl
 | [q1, q2, q3, q4, q5], hq, R, _ => exact row1 (lw5 b q1 q2 q3 q4 q5 (hq _ (by simp)) (hq _ (by simp)) (hq _ (by simp)) (hq _ (by simp)) (hq _ (by simp))) rfl hw (R (by simp)) rfl
 | [q1, q2, q3, q4, q5, q6], hq, R, _ => exact row1 (lw6 b q1 q2 q3 q4 q5 q6 (hq _ (by simp)) (hq _ (by simp)) (hq _ (by simp)) (hq _ (by simp)) (hq _ (by simp)) (hq _ (by simp))) rfl hw (R (by simp)) rfl
 | _ :: _ :: _ :: _ :: _ :: _ :: _ :: _, _, _, h7 => exact absurd (by simp only [List.length_cons]; omega) h7
theorem wwAll (b : Int) (hb : 0 ≤ b) (hb2 : b ≤ 255) (v : Value) (w : World) (hw : w.ShapedOpen Tryz.prog) (h : SlOk w v) : Calls Tryz.prog 3 #[v, .int .u8 b] w fun e w' => e = .returned (.bool true) ∧ Below w.heap.size w w' := by
 obtain ⟨m, rfl⟩ : ∃ m : Nat, b = (m : Int) := ⟨b.toNat, by omega⟩
 have hm : m < 256 := by omega
 rcases h with rfl | ⟨u, o, n, c, rfl, hn, qs, hl, hq, hc⟩
 ·exact (ww0 m hm).calls rfl rfl w hw
 by_cases h7 : 6 < n
 ·exact (ww7 m u o n c h7 hn).calls rfl rfl w hw
 subst hl
 have R : 0 < qs.length → RowG w (.slice (some ⟨u, o, none⟩) qs.length c) qs.length (enS qs) := fun h0 => SlOk.row h0 hc
 match qs, hq, R, h7 with
 | [], _, _, _ => exact (ww0s m hm u o c).calls rfl rfl w hw
 | [q1], hq, R, _ => exact row1 (ww1 m hm q1 (hq _ (by simp))) rfl hw (R (by simp)) rfl
 | [q1, q2], hq, R, _ => exact row1 (ww2 m hm q1 q2 (hq _ (by simp)) (hq _ (by simp))) rfl hw (R (by simp)) rfl
 | [q1, q2, q3], hq, R, _ => exact row1 (ww3 m hm q1 q2 q3 (hq _ (by simp)) (hq _ (by simp)) (hq _ (by simp))) rfl hw (R (by simp)) rfl
 | [q1, q2, q3, q4], hq, R, _ => exact row1 (ww4 m hm q1 q2 q3 q4 (hq _ (by simp)) (hq _ (by simp)) (hq _ (by simp)) (hq _ (by simp))) rfl hw (R (by simp)) rfl
 | [q1, q2, q3, q4, q5], hq, R, _ => exact row1 (ww5 m hm q1 q2 q3 q4 q5 (hq _ (by simp)) (hq _ (by simp)) (hq _ (by simp)) (hq _ (by simp)) (hq _ (by simp))) rfl hw (R (by simp)) rfl
 | [q1, q2, q3, q4, q5, q6], hq, R, _ => exact row1 (ww6 m hm q1 q2 q3 q4 q5 q6 (hq _ (by simp)) (hq _ (by simp)) (hq _ (by simp)) (hq _ (by simp)) (hq _ (by simp)) (hq _ (by simp))) rfl hw (R (by simp)) rfl
 | _ :: _ :: _ :: _ :: _ :: _ :: _ :: _, _, _, h7 => exact absurd (by simp only [List.length_cons]; omega) h7
theorem SlOk.of {w : World} {u o : Nat} : ∀ n : Nat, (∀ i, i < n → ∃ q : En, EnOk q ∧ ∀ j, j < 10 → w.cell? ⟨u, o + (i * 10 + j), none⟩ = (enC q)[j]?) → ∃ qs : List En, qs.length = n ∧ (∀ q ∈ qs, EnOk q) ∧ ∀ k, k < 10 * n → w.cell? ⟨u, o + k, none⟩ = (enS qs)[k]?
 | 0, _ => ⟨[], rfl, (fun q hq => by cases hq), (fun k hk => by omega)⟩
 | n + 1, h => by
  obtain ⟨qs, h1, h2, h3⟩ := SlOk.of n fun i hi => h i (by omega)
  obtain ⟨q, h4, h5⟩ := h n (by omega)
  refine ⟨qs ++ [q], by rw [List.length_append, h1]; rfl, fun x hx => ?_, fun k hk => ?_⟩
  ·rcases List.mem_append.1 hx with hx | hx
   ·exact h2 x hx
   ·obtain rfl := List.mem_singleton.1 hx; exact h4
  ·rw [enS_append]
   have hl : (enS qs).length = 10 * n := by rw [enS_len, h1]
   by_cases hk2 : k < 10 * n
   ·rw [List.getElem?_append_left (by omega)]; exact h3 k hk2
   ·rw [List.getElem?_append_right (by omega), hl]
    have := h5 (k - 10 * n) (by omega)
    rw [show o + (n * 10 + (k - 10 * n)) = o + k by omega] at this
    rw [this]
    show _ = (enC q ++ [])[_]?
    rw [List.append_nil]
end Go.Proofs.YtlblfgbpogljoaaGreatDoor

end
section
/- The argument of both laws: a slice of structs, opened. -/
namespace Go.Proofs.YtlblfgbpogljoaaGreatDoor
open Go.ChangeShapes Go.WideShapes Go.ChangeAt Go.RowKit
open Go Go.Sy
open Vi
section
variable {H : Type} {enc : TypeId × Value → H} {P : Program}
theorem open_ends {W : World} {r : Reach} {base : Nat} {T E : TypeId} {v : Value} {d : DataW H} {p : List MemPlace} (hT : P.underlying T = some (.slice E))
    (hE : Go.Flat.leaves P 6 E = some [.i .i32, .i .u16, .i .i32, .i .u16, .b, .i .i32, .i .u16, .i .i32, .i .u16, .b]) (hC : P.cellsOf E = 10)
    (hv : Value.okWide P W r base T v) (h : DataW.Trod enc P W 0 (fun _ => true) true T v d p) : SlOk W v := by
 obtain ⟨a0, len0, cap0, rfl⟩ := okWide_slice hT hv
 obtain ⟨fuel, hf⟩ := h
 have hf' : DataW.trod enc P W 0 (fun _ => true) true fuel T [.slice a0 len0 cap0] = some (d, p) := by simpa [Value.cells] using hf
 rcases Go.Deep.open_slice hT hf' with ⟨h1, _⟩ | ⟨a, len, cap, m, n, D, Pl, h1, hb, hl, hm, hmm, hx, hi⟩
 ·left
  simpa using h1
 ·right
  simp only [List.cons.injEq, Value.slice.injEq, and_true] at h1
  obtain ⟨rfl, rfl, rfl⟩ := h1
  have hs : a.spot = none := by
   simp only [Value.okWide, hT, Cell.okWide, Cell.ok, World.has] at hv
   exact hv.2.2.2.1
  obtain ⟨u, o, s⟩ := a
  simp only at hs
  subst hs
  simp only [if_true] at hmm
  refine ⟨u, o, len0, cap0, rfl, Nat.le_trans hl hm, SlOk.of len0 fun i hi' => ?_⟩
  obtain ⟨cs, hc, ht⟩ := hi i (by omega)
  have f0 := (Go.Flat.flat _ 6 hE ht).1
  obtain ⟨_, _, hcell⟩ := World.cells?_some hc
  obtain ⟨_, e0, rfl, ⟨a0, rfl, y0⟩, f1⟩ := Go.Flat.fits_cons f0
  obtain ⟨_, e1, rfl, ⟨a1, rfl, y1⟩, f2⟩ := Go.Flat.fits_cons f1
  obtain ⟨_, e2, rfl, ⟨a2, rfl, y2⟩, f3⟩ := Go.Flat.fits_cons f2
  obtain ⟨_, e3, rfl, ⟨a3, rfl, y3⟩, f4⟩ := Go.Flat.fits_cons f3
  obtain ⟨_, e4, rfl, ⟨a4, rfl⟩, f5⟩ := Go.Flat.fits_cons f4
  obtain ⟨_, e5, rfl, ⟨a5, rfl, y5⟩, f6⟩ := Go.Flat.fits_cons f5
  obtain ⟨_, e6, rfl, ⟨a6, rfl, y6⟩, f7⟩ := Go.Flat.fits_cons f6
  obtain ⟨_, e7, rfl, ⟨a7, rfl, y7⟩, f8⟩ := Go.Flat.fits_cons f7
  obtain ⟨_, e8, rfl, ⟨a8, rfl, y8⟩, f9⟩ := Go.Flat.fits_cons f8
  obtain ⟨_, e9, rfl, ⟨a9, rfl⟩, f10⟩ := Go.Flat.fits_cons f9
  obtain rfl := Go.Flat.fits_nil f10
  refine ⟨⟨a0, a1, a2, a3, a4, a5, a6, a7, a8, a9⟩, ⟨⟨bounds_i32 y0, bounds_u16 y1, bounds_i32 y2, bounds_u16 y3⟩, ⟨bounds_i32 y5, bounds_u16 y6, bounds_i32 y7, bounds_u16 y8⟩⟩, fun j hj => ?_⟩
  rw [hC] at hcell
  have := hcell j hj
  rw [add_plain, add_plain, Nat.add_assoc] at this
  exact this
theorem post_places {f : Func} {s : ChangeSpec} {W W' : World} {args : Array Value} {v : Value} {ds gs : List (DataW H)} {before pa : List MemPlace}
    (hW : DataW.Whole enc P f.params.toList s.vars false W args.toList ds gs before)
    (hres : ∀ (b : Nat) (sp : Nat → Bool) (hd : Bool), DataW.TrodAll enc P W' b sp hd f.resultTypes.toList (v.resultList f.resultTypes.size) (s.fn H (ds ++ gs)).results [])
    (hargs : DataW.TrodAll enc P W' 0 (fun b => decide (b < W.heap.size)) true f.params.toList args.toList (s.fn H (ds ++ gs)).args pa)
    (hvars : ∀ sp : Nat → Bool, DataW.TrodVars enc P W' sp s.vars (s.fn H (ds ++ gs)).vars [])
    (hb : Below W.heap.size W W') : s.post enc P f false true false false W args v W' := by
 refine ⟨ds, gs, before, [], pa, [], hW, hres _ _ _, hargs, hvars _, hb.frame _, fun h => by cases h⟩
end
theorem EnclosureLengths_c (v : Value) (b : Int) (w : World) (hw : w.ShapedOpen Tryz.prog) (h : SlOk w v) (b1 : -9223372036854775808 ≤ b) (b2 : b ≤ 9223372036854775807) : Calls Tryz.prog 4 #[v, nV b] w fun e w' => e = .returned (.bool true) ∧ Below w.heap.size w w' := lwAll b v w hw h
theorem EnclosureWidths_c (v : Value) (b : Int) (w : World) (hw : w.ShapedOpen Tryz.prog) (h : SlOk w v) (b1 : 0 ≤ b) (b2 : b ≤ 255) : Calls Tryz.prog 3 #[v, .int .u8 b] w fun e w' => e = .returned (.bool true) ∧ Below w.heap.size w w' := wwAll b b1 b2 v w hw h
end Go.Proofs.YtlblfgbpogljoaaGreatDoor

end
