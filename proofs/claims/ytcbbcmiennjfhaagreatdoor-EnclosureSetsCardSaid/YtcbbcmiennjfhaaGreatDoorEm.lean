import Derived.Test.YtcbbcmiennjfhaaGreatDoorEB
/- Chapter 5's law about sets. -/
set_option linter.unusedSimpArgs false
set_option linter.unusedVariables false
namespace Go.Proofs.YtcbbcmiennjfhaaGreatDoor
open Go Go.RowKit Go.Sy
open Vi
theorem cmpO_out {a b x y : Rat} (hab : a ≤ b) (hxy : x ≤ y) (h : minQ b y < maxQ a x) : cmpO a b x y = -1 ∨ cmpO a b x y = 1 := by
 unfold cmpO
 by_cases h1 : b < x
 ·rw [if_pos h1]; exact .inl rfl
 ·rw [if_neg h1]
  by_cases h2 : y < a
  ·rw [if_pos h2]; exact .inr rfl
  ·exfalso
   have := maxQ_le (x := minQ b y) (p := a) (q := x)
   have h3 : maxQ a x ≤ minQ b y := this.2 ⟨le_minQ.2 ⟨hab, Rat.not_lt.1 h2⟩, le_minQ.2 ⟨Rat.not_lt.1 h1, hxy⟩⟩
   exact absurd h (Rat.not_lt.2 h3)
theorem hull_low {a b x y : Rat} (hab : a ≤ b) (hxy : x ≤ y) : minQ (minQ (minQ a b) x) y = minQ a x := by
 unfold minQ
 rw [if_pos hab]
 by_cases h : a ≤ x
 ·rw [if_pos h, if_pos (by grind)]
 ·rw [if_neg h, if_pos hxy]
theorem hull_high {a b x y : Rat} (hab : a ≤ b) (hxy : x ≤ y) : maxQ (maxQ (maxQ a b) x) y = maxQ b y := by
 unfold maxQ
 by_cases h : b ≤ a
 ·rw [if_pos h]
  have : a = b := by grind
  subst this
  split <;> split <;> (try split) <;> grind
 ·rw [if_neg h]
  split <;> split <;> (try split) <;> grind
theorem half_mul (s : Rat) : s * (1 / 2) = s / 2 := by rw [Rat.div_def, Rat.div_def, Rat.one_mul]
set_option maxHeartbeats 40000000 in
theorem EnclosureSets_s (n1 d1 n2 d2 n3 d3 n4 d4 n5 d5 : Int) (hp : PairOk n1 d1 n2 d2) (hq : PairOk n3 d3 n4 d4) (hr : PartOk n5 d5) : Sp Tryz.prog 10 [] [pairV n1 d1 n2 d2, pairV n3 d3 n4 d4, .agg #[.int .i32 n5, .int .u16 d5]] (.bool true) [] := by
 obtain ⟨l, h, sl, sh, hlh, kp⟩ := vPair n1 d1 n2 d2 hp.1 hp.2.1 hp.2.2.1 hp.2.2.2
 obtain ⟨m, k, sm, sk, hmk, kq⟩ := vPair n3 d3 n4 d4 hq.1 hq.2.1 hq.2.2.1 hq.2.2.2
 obtain ⟨x, sx, _, kx⟩ := vPart n5 d5 hr.1 hr.2
 have K := vKnown5
 unfold pairV
 have Hu := eHull l h m k 4 (by omega)
 rw [hull_low hlh hmk, hull_high hlh hmk] at Hu
 have A := eIn l h x fz fz fz
 have B := fIn l h x fz fz fz
 have W := eWithin l h m k fz fz fz fz
 have C1 := fIn m k l fz fz fz
 have C2 := fIn m k h fz fz fz
 have Wd := eWidth l h fz fz
 have S1 := rSub h l fz fz
 have Md := eMiddle l h 4 (by omega)
 have S2 := rAdd l h fz fz
 have O := rOf 2 1 (by omega) (by omega) (by omega) (by omega) (by omega)
 rw [divInt1, show ((2 : Int) : Rat) = 2 from rfl] at O
 have S3 := rDiv (l + h) 2 (by decide +kernel) fz fz
 rw [← half_mul] at S3
 have D := fIn m k x fz fz fz
 have W1 := eWithin l h (minQ l m) (maxQ h k) fz fz fz fz
 have W2 := eWithin m k (minQ l m) (maxQ h k) fz fz fz fz
 have g1 := minQ_le l m
 have g2 := maxQ_ge h k
 have i1 : inB (minQ l m) (maxQ h k) l = true := inB_iff.2 ⟨g1.1, by grind⟩
 have i2 : inB (minQ l m) (maxQ h k) h = true := inB_iff.2 ⟨by grind, g2.1⟩
 have i3 : inB (minQ l m) (maxQ h k) m = true := inB_iff.2 ⟨g1.2, by grind⟩
 have i4 : inB (minQ l m) (maxQ h k) k = true := inB_iff.2 ⟨by grind, g2.2⟩
 rw [i1, i2, Bool.and_true] at W1
 rw [i3, i4, Bool.and_true] at W2
 clear i1 i2 i3 i4 g1 g2
 have ee : ∀ b : Bool, (!(b == b)) = false := fun b => by cases b <;> rfl
 have both : maxQ l m ≤ minQ h k → inB (maxQ l m) (minQ h k) x = (inB l h x && inB m k x) := by
  intro hi
  have e1 : inB (maxQ l m) (minQ h k) x = true ↔ inB l h x = true ∧ inB m k x = true := by
   rw [inB_iff, inB_iff, inB_iff, maxQ_le, le_minQ]
   constructor
   ·rintro ⟨⟨a1, a2⟩, a3, a4⟩; exact ⟨⟨a1, a3⟩, a2, a4⟩
   ·rintro ⟨⟨a1, a3⟩, a2, a4⟩; exact ⟨⟨a1, a2⟩, a3, a4⟩
  rw [← Bool.and_eq_true] at e1
  exact Bool.eq_iff_iff.2 e1
 have none : minQ h k < maxQ l m → (inB l h x && inB m k x) = false := by
  intro hi
  apply Bool.eq_false_iff.2
  intro e
  rw [Bool.and_eq_true, inB_iff, inB_iff] at e
  exact absurd hi (Rat.not_lt.2 (maxQ_le.2 ⟨le_minQ.2 ⟨by grind, by grind⟩, le_minQ.2 ⟨by grind, by grind⟩⟩))
 by_cases hi : maxQ l m ≤ minQ h k
 ·have I := eInterYes l h m k 4 (by omega) hi
  have bo := both hi
  have V1 := eWithin (maxQ l m) (minQ h k) l h fz fz fz fz
  have V2 := eWithin (maxQ l m) (minQ h k) m k fz fz fz fz
  have g1 := maxQ_ge l m
  have g2 := minQ_le h k
  have i1 : inB l h (maxQ l m) = true := inB_iff.2 ⟨g1.1, by grind⟩
  have i2 : inB l h (minQ h k) = true := inB_iff.2 ⟨by grind, g2.1⟩
  have i3 : inB m k (maxQ l m) = true := inB_iff.2 ⟨g1.2, by grind⟩
  have i4 : inB m k (minQ h k) = true := inB_iff.2 ⟨by grind, g2.2⟩
  rw [i1, i2, Bool.and_true] at V1
  rw [i3, i4, Bool.and_true] at V2
  have F := fIn (maxQ l m) (minQ h k) x fz fz fz
  rw [bo] at F
  clear i1 i2 i3 i4 g1 g2 bo both none hi
  have hu := minQ_or l m
  have hv := maxQ_or h k
  generalize minQ l m = u at *
  generalize maxQ h k = v at *
  cases b2 : inB m k l
  ·rw [b2] at C1 W
   cases b1 : inB l h x
   ·rw [b1] at A B; (try rw [b1] at F); (try rw [b1] at nn)
    by_cases ql : u = l
    ·have Q1 := binR1 u l (b := true) (by simp [ql])
     clear ql hu
     by_cases qh : v = h
     ·have Q3 := binR1 v h (b := true) (by simp [qh])
      clear qh hv
      generalize (l + h) * (1 / 2) = s1 at *
      generalize l + h = s2 at *
      generalize h - l = s3 at *
      generalize (2 : Rat) = s4 at *
      generalize maxQ l m = u1 at *
      generalize minQ h k = u2 at *
      exact walk (code := Tryz.f10.body.getD .skip) [c kp, c kq, c kx, c Hu, c I, c (vLow l h), c B, c K, c A, c W, c (vLow m k), c C1, c Wd, c S1, x2 (same' s3), c Md, c S2, c O, c S3, x2 (same' s1), c V1, c V2, c (vLow u1 u2), c F, c W1, c W2, x2 Q1, x2 Q3] fol Tryz.func10 (by kernel_rfl) (fun xs w => Tryz.call10 xs w) (by kernel_rfl)
     ·have Q3 := binR1 v h (b := false) (by simp [qh])
      have Q4 := binR1 v k (b := true) (by simp [hv.resolve_left qh])
      clear qh hv
      generalize (l + h) * (1 / 2) = s1 at *
      generalize l + h = s2 at *
      generalize h - l = s3 at *
      generalize (2 : Rat) = s4 at *
      generalize maxQ l m = u1 at *
      generalize minQ h k = u2 at *
      exact walk (code := Tryz.f10.body.getD .skip) [c kp, c kq, c kx, c Hu, c I, c (vLow l h), c B, c K, c A, c W, c (vLow m k), c C1, c Wd, c S1, x2 (same' s3), c Md, c S2, c O, c S3, x2 (same' s1), c V1, c V2, c (vLow u1 u2), c F, c W1, c W2, x2 Q1, x2 Q3, x2 Q4] fol Tryz.func10 (by kernel_rfl) (fun xs w => Tryz.call10 xs w) (by kernel_rfl)
    ·have Q1 := binR1 u l (b := false) (by simp [ql])
     have Q2 := binR1 u m (b := true) (by simp [hu.resolve_left ql])
     clear ql hu
     by_cases qh : v = h
     ·have Q3 := binR1 v h (b := true) (by simp [qh])
      clear qh hv
      generalize (l + h) * (1 / 2) = s1 at *
      generalize l + h = s2 at *
      generalize h - l = s3 at *
      generalize (2 : Rat) = s4 at *
      generalize maxQ l m = u1 at *
      generalize minQ h k = u2 at *
      exact walk (code := Tryz.f10.body.getD .skip) [c kp, c kq, c kx, c Hu, c I, c (vLow l h), c B, c K, c A, c W, c (vLow m k), c C1, c Wd, c S1, x2 (same' s3), c Md, c S2, c O, c S3, x2 (same' s1), c V1, c V2, c (vLow u1 u2), c F, c W1, c W2, x2 Q1, x2 Q2, x2 Q3] fol Tryz.func10 (by kernel_rfl) (fun xs w => Tryz.call10 xs w) (by kernel_rfl)
     ·have Q3 := binR1 v h (b := false) (by simp [qh])
      have Q4 := binR1 v k (b := true) (by simp [hv.resolve_left qh])
      clear qh hv
      generalize (l + h) * (1 / 2) = s1 at *
      generalize l + h = s2 at *
      generalize h - l = s3 at *
      generalize (2 : Rat) = s4 at *
      generalize maxQ l m = u1 at *
      generalize minQ h k = u2 at *
      exact walk (code := Tryz.f10.body.getD .skip) [c kp, c kq, c kx, c Hu, c I, c (vLow l h), c B, c K, c A, c W, c (vLow m k), c C1, c Wd, c S1, x2 (same' s3), c Md, c S2, c O, c S3, x2 (same' s1), c V1, c V2, c (vLow u1 u2), c F, c W1, c W2, x2 Q1, x2 Q2, x2 Q3, x2 Q4] fol Tryz.func10 (by kernel_rfl) (fun xs w => Tryz.call10 xs w) (by kernel_rfl)
   ·rw [b1] at A B; (try rw [b1] at F); (try rw [b1] at nn)
    cases b4 : inB m k x
    ·rw [b4] at D; (try rw [b4] at F); (try rw [b4] at nn)
     by_cases ql : u = l
     ·have Q1 := binR1 u l (b := true) (by simp [ql])
      clear ql hu
      by_cases qh : v = h
      ·have Q3 := binR1 v h (b := true) (by simp [qh])
       clear qh hv
       generalize (l + h) * (1 / 2) = s1 at *
       generalize l + h = s2 at *
       generalize h - l = s3 at *
       generalize (2 : Rat) = s4 at *
       generalize maxQ l m = u1 at *
       generalize minQ h k = u2 at *
       exact walk (code := Tryz.f10.body.getD .skip) [c kp, c kq, c kx, c Hu, c I, c (vLow l h), c B, c K, c A, c W, c (vLow m k), c C1, c Wd, c S1, x2 (same' s3), c Md, c S2, c O, c S3, x2 (same' s1), c (vLow m k), c D, c V1, c V2, c (vLow u1 u2), c F, c W1, c W2, x2 Q1, x2 Q3] fol Tryz.func10 (by kernel_rfl) (fun xs w => Tryz.call10 xs w) (by kernel_rfl)
      ·have Q3 := binR1 v h (b := false) (by simp [qh])
       have Q4 := binR1 v k (b := true) (by simp [hv.resolve_left qh])
       clear qh hv
       generalize (l + h) * (1 / 2) = s1 at *
       generalize l + h = s2 at *
       generalize h - l = s3 at *
       generalize (2 : Rat) = s4 at *
       generalize maxQ l m = u1 at *
       generalize minQ h k = u2 at *
       exact walk (code := Tryz.f10.body.getD .skip) [c kp, c kq, c kx, c Hu, c I, c (vLow l h), c B, c K, c A, c W, c (vLow m k), c C1, c Wd, c S1, x2 (same' s3), c Md, c S2, c O, c S3, x2 (same' s1), c (vLow m k), c D, c V1, c V2, c (vLow u1 u2), c F, c W1, c W2, x2 Q1, x2 Q3, x2 Q4] fol Tryz.func10 (by kernel_rfl) (fun xs w => Tryz.call10 xs w) (by kernel_rfl)
     ·have Q1 := binR1 u l (b := false) (by simp [ql])
      have Q2 := binR1 u m (b := true) (by simp [hu.resolve_left ql])
      clear ql hu
      by_cases qh : v = h
      ·have Q3 := binR1 v h (b := true) (by simp [qh])
       clear qh hv
       generalize (l + h) * (1 / 2) = s1 at *
       generalize l + h = s2 at *
       generalize h - l = s3 at *
       generalize (2 : Rat) = s4 at *
       generalize maxQ l m = u1 at *
       generalize minQ h k = u2 at *
       exact walk (code := Tryz.f10.body.getD .skip) [c kp, c kq, c kx, c Hu, c I, c (vLow l h), c B, c K, c A, c W, c (vLow m k), c C1, c Wd, c S1, x2 (same' s3), c Md, c S2, c O, c S3, x2 (same' s1), c (vLow m k), c D, c V1, c V2, c (vLow u1 u2), c F, c W1, c W2, x2 Q1, x2 Q2, x2 Q3] fol Tryz.func10 (by kernel_rfl) (fun xs w => Tryz.call10 xs w) (by kernel_rfl)
      ·have Q3 := binR1 v h (b := false) (by simp [qh])
       have Q4 := binR1 v k (b := true) (by simp [hv.resolve_left qh])
       clear qh hv
       generalize (l + h) * (1 / 2) = s1 at *
       generalize l + h = s2 at *
       generalize h - l = s3 at *
       generalize (2 : Rat) = s4 at *
       generalize maxQ l m = u1 at *
       generalize minQ h k = u2 at *
       exact walk (code := Tryz.f10.body.getD .skip) [c kp, c kq, c kx, c Hu, c I, c (vLow l h), c B, c K, c A, c W, c (vLow m k), c C1, c Wd, c S1, x2 (same' s3), c Md, c S2, c O, c S3, x2 (same' s1), c (vLow m k), c D, c V1, c V2, c (vLow u1 u2), c F, c W1, c W2, x2 Q1, x2 Q2, x2 Q3, x2 Q4] fol Tryz.func10 (by kernel_rfl) (fun xs w => Tryz.call10 xs w) (by kernel_rfl)
    ·rw [b4] at D; (try rw [b4] at F); (try rw [b4] at nn)
     by_cases ql : u = l
     ·have Q1 := binR1 u l (b := true) (by simp [ql])
      clear ql hu
      by_cases qh : v = h
      ·have Q3 := binR1 v h (b := true) (by simp [qh])
       clear qh hv
       generalize (l + h) * (1 / 2) = s1 at *
       generalize l + h = s2 at *
       generalize h - l = s3 at *
       generalize (2 : Rat) = s4 at *
       generalize maxQ l m = u1 at *
       generalize minQ h k = u2 at *
       exact walk (code := Tryz.f10.body.getD .skip) [c kp, c kq, c kx, c Hu, c I, c (vLow l h), c B, c K, c A, c W, c (vLow m k), c C1, c Wd, c S1, x2 (same' s3), c Md, c S2, c O, c S3, x2 (same' s1), c (vLow m k), c D, c V1, c V2, c (vLow u1 u2), c F, c W1, c W2, x2 Q1, x2 Q3] fol Tryz.func10 (by kernel_rfl) (fun xs w => Tryz.call10 xs w) (by kernel_rfl)
      ·have Q3 := binR1 v h (b := false) (by simp [qh])
       have Q4 := binR1 v k (b := true) (by simp [hv.resolve_left qh])
       clear qh hv
       generalize (l + h) * (1 / 2) = s1 at *
       generalize l + h = s2 at *
       generalize h - l = s3 at *
       generalize (2 : Rat) = s4 at *
       generalize maxQ l m = u1 at *
       generalize minQ h k = u2 at *
       exact walk (code := Tryz.f10.body.getD .skip) [c kp, c kq, c kx, c Hu, c I, c (vLow l h), c B, c K, c A, c W, c (vLow m k), c C1, c Wd, c S1, x2 (same' s3), c Md, c S2, c O, c S3, x2 (same' s1), c (vLow m k), c D, c V1, c V2, c (vLow u1 u2), c F, c W1, c W2, x2 Q1, x2 Q3, x2 Q4] fol Tryz.func10 (by kernel_rfl) (fun xs w => Tryz.call10 xs w) (by kernel_rfl)
     ·have Q1 := binR1 u l (b := false) (by simp [ql])
      have Q2 := binR1 u m (b := true) (by simp [hu.resolve_left ql])
      clear ql hu
      by_cases qh : v = h
      ·have Q3 := binR1 v h (b := true) (by simp [qh])
       clear qh hv
       generalize (l + h) * (1 / 2) = s1 at *
       generalize l + h = s2 at *
       generalize h - l = s3 at *
       generalize (2 : Rat) = s4 at *
       generalize maxQ l m = u1 at *
       generalize minQ h k = u2 at *
       exact walk (code := Tryz.f10.body.getD .skip) [c kp, c kq, c kx, c Hu, c I, c (vLow l h), c B, c K, c A, c W, c (vLow m k), c C1, c Wd, c S1, x2 (same' s3), c Md, c S2, c O, c S3, x2 (same' s1), c (vLow m k), c D, c V1, c V2, c (vLow u1 u2), c F, c W1, c W2, x2 Q1, x2 Q2, x2 Q3] fol Tryz.func10 (by kernel_rfl) (fun xs w => Tryz.call10 xs w) (by kernel_rfl)
      ·have Q3 := binR1 v h (b := false) (by simp [qh])
       have Q4 := binR1 v k (b := true) (by simp [hv.resolve_left qh])
       clear qh hv
       generalize (l + h) * (1 / 2) = s1 at *
       generalize l + h = s2 at *
       generalize h - l = s3 at *
       generalize (2 : Rat) = s4 at *
       generalize maxQ l m = u1 at *
       generalize minQ h k = u2 at *
       exact walk (code := Tryz.f10.body.getD .skip) [c kp, c kq, c kx, c Hu, c I, c (vLow l h), c B, c K, c A, c W, c (vLow m k), c C1, c Wd, c S1, x2 (same' s3), c Md, c S2, c O, c S3, x2 (same' s1), c (vLow m k), c D, c V1, c V2, c (vLow u1 u2), c F, c W1, c W2, x2 Q1, x2 Q2, x2 Q3, x2 Q4] fol Tryz.func10 (by kernel_rfl) (fun xs w => Tryz.call10 xs w) (by kernel_rfl)
  ·rw [b2] at C1 W
   cases b3 : inB m k h
   ·rw [b3] at C2 W
    cases b1 : inB l h x
    ·rw [b1] at A B; (try rw [b1] at F); (try rw [b1] at nn)
     by_cases ql : u = l
     ·have Q1 := binR1 u l (b := true) (by simp [ql])
      clear ql hu
      by_cases qh : v = h
      ·have Q3 := binR1 v h (b := true) (by simp [qh])
       clear qh hv
       generalize (l + h) * (1 / 2) = s1 at *
       generalize l + h = s2 at *
       generalize h - l = s3 at *
       generalize (2 : Rat) = s4 at *
       generalize maxQ l m = u1 at *
       generalize minQ h k = u2 at *
       exact walk (code := Tryz.f10.body.getD .skip) [c kp, c kq, c kx, c Hu, c I, c (vLow l h), c B, c K, c A, c W, c (vLow m k), c C1, c (vLow m k), c C2, c Wd, c S1, x2 (same' s3), c Md, c S2, c O, c S3, x2 (same' s1), c V1, c V2, c (vLow u1 u2), c F, c W1, c W2, x2 Q1, x2 Q3] fol Tryz.func10 (by kernel_rfl) (fun xs w => Tryz.call10 xs w) (by kernel_rfl)
      ·have Q3 := binR1 v h (b := false) (by simp [qh])
       have Q4 := binR1 v k (b := true) (by simp [hv.resolve_left qh])
       clear qh hv
       generalize (l + h) * (1 / 2) = s1 at *
       generalize l + h = s2 at *
       generalize h - l = s3 at *
       generalize (2 : Rat) = s4 at *
       generalize maxQ l m = u1 at *
       generalize minQ h k = u2 at *
       exact walk (code := Tryz.f10.body.getD .skip) [c kp, c kq, c kx, c Hu, c I, c (vLow l h), c B, c K, c A, c W, c (vLow m k), c C1, c (vLow m k), c C2, c Wd, c S1, x2 (same' s3), c Md, c S2, c O, c S3, x2 (same' s1), c V1, c V2, c (vLow u1 u2), c F, c W1, c W2, x2 Q1, x2 Q3, x2 Q4] fol Tryz.func10 (by kernel_rfl) (fun xs w => Tryz.call10 xs w) (by kernel_rfl)
     ·have Q1 := binR1 u l (b := false) (by simp [ql])
      have Q2 := binR1 u m (b := true) (by simp [hu.resolve_left ql])
      clear ql hu
      by_cases qh : v = h
      ·have Q3 := binR1 v h (b := true) (by simp [qh])
       clear qh hv
       generalize (l + h) * (1 / 2) = s1 at *
       generalize l + h = s2 at *
       generalize h - l = s3 at *
       generalize (2 : Rat) = s4 at *
       generalize maxQ l m = u1 at *
       generalize minQ h k = u2 at *
       exact walk (code := Tryz.f10.body.getD .skip) [c kp, c kq, c kx, c Hu, c I, c (vLow l h), c B, c K, c A, c W, c (vLow m k), c C1, c (vLow m k), c C2, c Wd, c S1, x2 (same' s3), c Md, c S2, c O, c S3, x2 (same' s1), c V1, c V2, c (vLow u1 u2), c F, c W1, c W2, x2 Q1, x2 Q2, x2 Q3] fol Tryz.func10 (by kernel_rfl) (fun xs w => Tryz.call10 xs w) (by kernel_rfl)
      ·have Q3 := binR1 v h (b := false) (by simp [qh])
       have Q4 := binR1 v k (b := true) (by simp [hv.resolve_left qh])
       clear qh hv
       generalize (l + h) * (1 / 2) = s1 at *
       generalize l + h = s2 at *
       generalize h - l = s3 at *
       generalize (2 : Rat) = s4 at *
       generalize maxQ l m = u1 at *
       generalize minQ h k = u2 at *
       exact walk (code := Tryz.f10.body.getD .skip) [c kp, c kq, c kx, c Hu, c I, c (vLow l h), c B, c K, c A, c W, c (vLow m k), c C1, c (vLow m k), c C2, c Wd, c S1, x2 (same' s3), c Md, c S2, c O, c S3, x2 (same' s1), c V1, c V2, c (vLow u1 u2), c F, c W1, c W2, x2 Q1, x2 Q2, x2 Q3, x2 Q4] fol Tryz.func10 (by kernel_rfl) (fun xs w => Tryz.call10 xs w) (by kernel_rfl)
    ·rw [b1] at A B; (try rw [b1] at F); (try rw [b1] at nn)
     cases b4 : inB m k x
     ·rw [b4] at D; (try rw [b4] at F); (try rw [b4] at nn)
      by_cases ql : u = l
      ·have Q1 := binR1 u l (b := true) (by simp [ql])
       clear ql hu
       by_cases qh : v = h
       ·have Q3 := binR1 v h (b := true) (by simp [qh])
        clear qh hv
        generalize (l + h) * (1 / 2) = s1 at *
        generalize l + h = s2 at *
        generalize h - l = s3 at *
        generalize (2 : Rat) = s4 at *
        generalize maxQ l m = u1 at *
        generalize minQ h k = u2 at *
        exact walk (code := Tryz.f10.body.getD .skip) [c kp, c kq, c kx, c Hu, c I, c (vLow l h), c B, c K, c A, c W, c (vLow m k), c C1, c (vLow m k), c C2, c Wd, c S1, x2 (same' s3), c Md, c S2, c O, c S3, x2 (same' s1), c (vLow m k), c D, c V1, c V2, c (vLow u1 u2), c F, c W1, c W2, x2 Q1, x2 Q3] fol Tryz.func10 (by kernel_rfl) (fun xs w => Tryz.call10 xs w) (by kernel_rfl)
       ·have Q3 := binR1 v h (b := false) (by simp [qh])
        have Q4 := binR1 v k (b := true) (by simp [hv.resolve_left qh])
        clear qh hv
        generalize (l + h) * (1 / 2) = s1 at *
        generalize l + h = s2 at *
        generalize h - l = s3 at *
        generalize (2 : Rat) = s4 at *
        generalize maxQ l m = u1 at *
        generalize minQ h k = u2 at *
        exact walk (code := Tryz.f10.body.getD .skip) [c kp, c kq, c kx, c Hu, c I, c (vLow l h), c B, c K, c A, c W, c (vLow m k), c C1, c (vLow m k), c C2, c Wd, c S1, x2 (same' s3), c Md, c S2, c O, c S3, x2 (same' s1), c (vLow m k), c D, c V1, c V2, c (vLow u1 u2), c F, c W1, c W2, x2 Q1, x2 Q3, x2 Q4] fol Tryz.func10 (by kernel_rfl) (fun xs w => Tryz.call10 xs w) (by kernel_rfl)
      ·have Q1 := binR1 u l (b := false) (by simp [ql])
       have Q2 := binR1 u m (b := true) (by simp [hu.resolve_left ql])
       clear ql hu
       by_cases qh : v = h
       ·have Q3 := binR1 v h (b := true) (by simp [qh])
        clear qh hv
        generalize (l + h) * (1 / 2) = s1 at *
        generalize l + h = s2 at *
        generalize h - l = s3 at *
        generalize (2 : Rat) = s4 at *
        generalize maxQ l m = u1 at *
        generalize minQ h k = u2 at *
        exact walk (code := Tryz.f10.body.getD .skip) [c kp, c kq, c kx, c Hu, c I, c (vLow l h), c B, c K, c A, c W, c (vLow m k), c C1, c (vLow m k), c C2, c Wd, c S1, x2 (same' s3), c Md, c S2, c O, c S3, x2 (same' s1), c (vLow m k), c D, c V1, c V2, c (vLow u1 u2), c F, c W1, c W2, x2 Q1, x2 Q2, x2 Q3] fol Tryz.func10 (by kernel_rfl) (fun xs w => Tryz.call10 xs w) (by kernel_rfl)
       ·have Q3 := binR1 v h (b := false) (by simp [qh])
        have Q4 := binR1 v k (b := true) (by simp [hv.resolve_left qh])
        clear qh hv
        generalize (l + h) * (1 / 2) = s1 at *
        generalize l + h = s2 at *
        generalize h - l = s3 at *
        generalize (2 : Rat) = s4 at *
        generalize maxQ l m = u1 at *
        generalize minQ h k = u2 at *
        exact walk (code := Tryz.f10.body.getD .skip) [c kp, c kq, c kx, c Hu, c I, c (vLow l h), c B, c K, c A, c W, c (vLow m k), c C1, c (vLow m k), c C2, c Wd, c S1, x2 (same' s3), c Md, c S2, c O, c S3, x2 (same' s1), c (vLow m k), c D, c V1, c V2, c (vLow u1 u2), c F, c W1, c W2, x2 Q1, x2 Q2, x2 Q3, x2 Q4] fol Tryz.func10 (by kernel_rfl) (fun xs w => Tryz.call10 xs w) (by kernel_rfl)
     ·rw [b4] at D; (try rw [b4] at F); (try rw [b4] at nn)
      by_cases ql : u = l
      ·have Q1 := binR1 u l (b := true) (by simp [ql])
       clear ql hu
       by_cases qh : v = h
       ·have Q3 := binR1 v h (b := true) (by simp [qh])
        clear qh hv
        generalize (l + h) * (1 / 2) = s1 at *
        generalize l + h = s2 at *
        generalize h - l = s3 at *
        generalize (2 : Rat) = s4 at *
        generalize maxQ l m = u1 at *
        generalize minQ h k = u2 at *
        exact walk (code := Tryz.f10.body.getD .skip) [c kp, c kq, c kx, c Hu, c I, c (vLow l h), c B, c K, c A, c W, c (vLow m k), c C1, c (vLow m k), c C2, c Wd, c S1, x2 (same' s3), c Md, c S2, c O, c S3, x2 (same' s1), c (vLow m k), c D, c V1, c V2, c (vLow u1 u2), c F, c W1, c W2, x2 Q1, x2 Q3] fol Tryz.func10 (by kernel_rfl) (fun xs w => Tryz.call10 xs w) (by kernel_rfl)
       ·have Q3 := binR1 v h (b := false) (by simp [qh])
        have Q4 := binR1 v k (b := true) (by simp [hv.resolve_left qh])
        clear qh hv
        generalize (l + h) * (1 / 2) = s1 at *
        generalize l + h = s2 at *
        generalize h - l = s3 at *
        generalize (2 : Rat) = s4 at *
        generalize maxQ l m = u1 at *
        generalize minQ h k = u2 at *
        exact walk (code := Tryz.f10.body.getD .skip) [c kp, c kq, c kx, c Hu, c I, c (vLow l h), c B, c K, c A, c W, c (vLow m k), c C1, c (vLow m k), c C2, c Wd, c S1, x2 (same' s3), c Md, c S2, c O, c S3, x2 (same' s1), c (vLow m k), c D, c V1, c V2, c (vLow u1 u2), c F, c W1, c W2, x2 Q1, x2 Q3, x2 Q4] fol Tryz.func10 (by kernel_rfl) (fun xs w => Tryz.call10 xs w) (by kernel_rfl)
      ·have Q1 := binR1 u l (b := false) (by simp [ql])
       have Q2 := binR1 u m (b := true) (by simp [hu.resolve_left ql])
       clear ql hu
       by_cases qh : v = h
       ·have Q3 := binR1 v h (b := true) (by simp [qh])
        clear qh hv
        generalize (l + h) * (1 / 2) = s1 at *
        generalize l + h = s2 at *
        generalize h - l = s3 at *
        generalize (2 : Rat) = s4 at *
        generalize maxQ l m = u1 at *
        generalize minQ h k = u2 at *
        exact walk (code := Tryz.f10.body.getD .skip) [c kp, c kq, c kx, c Hu, c I, c (vLow l h), c B, c K, c A, c W, c (vLow m k), c C1, c (vLow m k), c C2, c Wd, c S1, x2 (same' s3), c Md, c S2, c O, c S3, x2 (same' s1), c (vLow m k), c D, c V1, c V2, c (vLow u1 u2), c F, c W1, c W2, x2 Q1, x2 Q2, x2 Q3] fol Tryz.func10 (by kernel_rfl) (fun xs w => Tryz.call10 xs w) (by kernel_rfl)
       ·have Q3 := binR1 v h (b := false) (by simp [qh])
        have Q4 := binR1 v k (b := true) (by simp [hv.resolve_left qh])
        clear qh hv
        generalize (l + h) * (1 / 2) = s1 at *
        generalize l + h = s2 at *
        generalize h - l = s3 at *
        generalize (2 : Rat) = s4 at *
        generalize maxQ l m = u1 at *
        generalize minQ h k = u2 at *
        exact walk (code := Tryz.f10.body.getD .skip) [c kp, c kq, c kx, c Hu, c I, c (vLow l h), c B, c K, c A, c W, c (vLow m k), c C1, c (vLow m k), c C2, c Wd, c S1, x2 (same' s3), c Md, c S2, c O, c S3, x2 (same' s1), c (vLow m k), c D, c V1, c V2, c (vLow u1 u2), c F, c W1, c W2, x2 Q1, x2 Q2, x2 Q3, x2 Q4] fol Tryz.func10 (by kernel_rfl) (fun xs w => Tryz.call10 xs w) (by kernel_rfl)
   ·rw [b3] at C2 W
    cases b1 : inB l h x
    ·rw [b1] at A B; (try rw [b1] at F); (try rw [b1] at nn)
     by_cases ql : u = l
     ·have Q1 := binR1 u l (b := true) (by simp [ql])
      clear ql hu
      by_cases qh : v = h
      ·have Q3 := binR1 v h (b := true) (by simp [qh])
       clear qh hv
       generalize (l + h) * (1 / 2) = s1 at *
       generalize l + h = s2 at *
       generalize h - l = s3 at *
       generalize (2 : Rat) = s4 at *
       generalize maxQ l m = u1 at *
       generalize minQ h k = u2 at *
       exact walk (code := Tryz.f10.body.getD .skip) [c kp, c kq, c kx, c Hu, c I, c (vLow l h), c B, c K, c A, c W, c (vLow m k), c C1, c (vLow m k), c C2, c Wd, c S1, x2 (same' s3), c Md, c S2, c O, c S3, x2 (same' s1), c V1, c V2, c (vLow u1 u2), c F, c W1, c W2, x2 Q1, x2 Q3] fol Tryz.func10 (by kernel_rfl) (fun xs w => Tryz.call10 xs w) (by kernel_rfl)
      ·have Q3 := binR1 v h (b := false) (by simp [qh])
       have Q4 := binR1 v k (b := true) (by simp [hv.resolve_left qh])
       clear qh hv
       generalize (l + h) * (1 / 2) = s1 at *
       generalize l + h = s2 at *
       generalize h - l = s3 at *
       generalize (2 : Rat) = s4 at *
       generalize maxQ l m = u1 at *
       generalize minQ h k = u2 at *
       exact walk (code := Tryz.f10.body.getD .skip) [c kp, c kq, c kx, c Hu, c I, c (vLow l h), c B, c K, c A, c W, c (vLow m k), c C1, c (vLow m k), c C2, c Wd, c S1, x2 (same' s3), c Md, c S2, c O, c S3, x2 (same' s1), c V1, c V2, c (vLow u1 u2), c F, c W1, c W2, x2 Q1, x2 Q3, x2 Q4] fol Tryz.func10 (by kernel_rfl) (fun xs w => Tryz.call10 xs w) (by kernel_rfl)
     ·have Q1 := binR1 u l (b := false) (by simp [ql])
      have Q2 := binR1 u m (b := true) (by simp [hu.resolve_left ql])
      clear ql hu
      by_cases qh : v = h
      ·have Q3 := binR1 v h (b := true) (by simp [qh])
       clear qh hv
       generalize (l + h) * (1 / 2) = s1 at *
       generalize l + h = s2 at *
       generalize h - l = s3 at *
       generalize (2 : Rat) = s4 at *
       generalize maxQ l m = u1 at *
       generalize minQ h k = u2 at *
       exact walk (code := Tryz.f10.body.getD .skip) [c kp, c kq, c kx, c Hu, c I, c (vLow l h), c B, c K, c A, c W, c (vLow m k), c C1, c (vLow m k), c C2, c Wd, c S1, x2 (same' s3), c Md, c S2, c O, c S3, x2 (same' s1), c V1, c V2, c (vLow u1 u2), c F, c W1, c W2, x2 Q1, x2 Q2, x2 Q3] fol Tryz.func10 (by kernel_rfl) (fun xs w => Tryz.call10 xs w) (by kernel_rfl)
      ·have Q3 := binR1 v h (b := false) (by simp [qh])
       have Q4 := binR1 v k (b := true) (by simp [hv.resolve_left qh])
       clear qh hv
       generalize (l + h) * (1 / 2) = s1 at *
       generalize l + h = s2 at *
       generalize h - l = s3 at *
       generalize (2 : Rat) = s4 at *
       generalize maxQ l m = u1 at *
       generalize minQ h k = u2 at *
       exact walk (code := Tryz.f10.body.getD .skip) [c kp, c kq, c kx, c Hu, c I, c (vLow l h), c B, c K, c A, c W, c (vLow m k), c C1, c (vLow m k), c C2, c Wd, c S1, x2 (same' s3), c Md, c S2, c O, c S3, x2 (same' s1), c V1, c V2, c (vLow u1 u2), c F, c W1, c W2, x2 Q1, x2 Q2, x2 Q3, x2 Q4] fol Tryz.func10 (by kernel_rfl) (fun xs w => Tryz.call10 xs w) (by kernel_rfl)
    ·rw [b1] at A B; (try rw [b1] at F); (try rw [b1] at nn)
     cases b4 : inB m k x
     ·rw [b4] at D; (try rw [b4] at F); (try rw [b4] at nn)
      by_cases ql : u = l
      ·have Q1 := binR1 u l (b := true) (by simp [ql])
       clear ql hu
       by_cases qh : v = h
       ·have Q3 := binR1 v h (b := true) (by simp [qh])
        clear qh hv
        generalize (l + h) * (1 / 2) = s1 at *
        generalize l + h = s2 at *
        generalize h - l = s3 at *
        generalize (2 : Rat) = s4 at *
        generalize maxQ l m = u1 at *
        generalize minQ h k = u2 at *
        exact walk (code := Tryz.f10.body.getD .skip) [c kp, c kq, c kx, c Hu, c I, c (vLow l h), c B, c K, c A, c W, c (vLow m k), c C1, c (vLow m k), c C2, c Wd, c S1, x2 (same' s3), c Md, c S2, c O, c S3, x2 (same' s1), c (vLow m k), c D, c V1, c V2, c (vLow u1 u2), c F, c W1, c W2, x2 Q1, x2 Q3] fol Tryz.func10 (by kernel_rfl) (fun xs w => Tryz.call10 xs w) (by kernel_rfl)
       ·have Q3 := binR1 v h (b := false) (by simp [qh])
        have Q4 := binR1 v k (b := true) (by simp [hv.resolve_left qh])
        clear qh hv
        generalize (l + h) * (1 / 2) = s1 at *
        generalize l + h = s2 at *
        generalize h - l = s3 at *
        generalize (2 : Rat) = s4 at *
        generalize maxQ l m = u1 at *
        generalize minQ h k = u2 at *
        exact walk (code := Tryz.f10.body.getD .skip) [c kp, c kq, c kx, c Hu, c I, c (vLow l h), c B, c K, c A, c W, c (vLow m k), c C1, c (vLow m k), c C2, c Wd, c S1, x2 (same' s3), c Md, c S2, c O, c S3, x2 (same' s1), c (vLow m k), c D, c V1, c V2, c (vLow u1 u2), c F, c W1, c W2, x2 Q1, x2 Q3, x2 Q4] fol Tryz.func10 (by kernel_rfl) (fun xs w => Tryz.call10 xs w) (by kernel_rfl)
      ·have Q1 := binR1 u l (b := false) (by simp [ql])
       have Q2 := binR1 u m (b := true) (by simp [hu.resolve_left ql])
       clear ql hu
       by_cases qh : v = h
       ·have Q3 := binR1 v h (b := true) (by simp [qh])
        clear qh hv
        generalize (l + h) * (1 / 2) = s1 at *
        generalize l + h = s2 at *
        generalize h - l = s3 at *
        generalize (2 : Rat) = s4 at *
        generalize maxQ l m = u1 at *
        generalize minQ h k = u2 at *
        exact walk (code := Tryz.f10.body.getD .skip) [c kp, c kq, c kx, c Hu, c I, c (vLow l h), c B, c K, c A, c W, c (vLow m k), c C1, c (vLow m k), c C2, c Wd, c S1, x2 (same' s3), c Md, c S2, c O, c S3, x2 (same' s1), c (vLow m k), c D, c V1, c V2, c (vLow u1 u2), c F, c W1, c W2, x2 Q1, x2 Q2, x2 Q3] fol Tryz.func10 (by kernel_rfl) (fun xs w => Tryz.call10 xs w) (by kernel_rfl)
       ·have Q3 := binR1 v h (b := false) (by simp [qh])
        have Q4 := binR1 v k (b := true) (by simp [hv.resolve_left qh])
        clear qh hv
        generalize (l + h) * (1 / 2) = s1 at *
        generalize l + h = s2 at *
        generalize h - l = s3 at *
        generalize (2 : Rat) = s4 at *
        generalize maxQ l m = u1 at *
        generalize minQ h k = u2 at *
        exact walk (code := Tryz.f10.body.getD .skip) [c kp, c kq, c kx, c Hu, c I, c (vLow l h), c B, c K, c A, c W, c (vLow m k), c C1, c (vLow m k), c C2, c Wd, c S1, x2 (same' s3), c Md, c S2, c O, c S3, x2 (same' s1), c (vLow m k), c D, c V1, c V2, c (vLow u1 u2), c F, c W1, c W2, x2 Q1, x2 Q2, x2 Q3, x2 Q4] fol Tryz.func10 (by kernel_rfl) (fun xs w => Tryz.call10 xs w) (by kernel_rfl)
     ·rw [b4] at D; (try rw [b4] at F); (try rw [b4] at nn)
      by_cases ql : u = l
      ·have Q1 := binR1 u l (b := true) (by simp [ql])
       clear ql hu
       by_cases qh : v = h
       ·have Q3 := binR1 v h (b := true) (by simp [qh])
        clear qh hv
        generalize (l + h) * (1 / 2) = s1 at *
        generalize l + h = s2 at *
        generalize h - l = s3 at *
        generalize (2 : Rat) = s4 at *
        generalize maxQ l m = u1 at *
        generalize minQ h k = u2 at *
        exact walk (code := Tryz.f10.body.getD .skip) [c kp, c kq, c kx, c Hu, c I, c (vLow l h), c B, c K, c A, c W, c (vLow m k), c C1, c (vLow m k), c C2, c Wd, c S1, x2 (same' s3), c Md, c S2, c O, c S3, x2 (same' s1), c (vLow m k), c D, c V1, c V2, c (vLow u1 u2), c F, c W1, c W2, x2 Q1, x2 Q3] fol Tryz.func10 (by kernel_rfl) (fun xs w => Tryz.call10 xs w) (by kernel_rfl)
       ·have Q3 := binR1 v h (b := false) (by simp [qh])
        have Q4 := binR1 v k (b := true) (by simp [hv.resolve_left qh])
        clear qh hv
        generalize (l + h) * (1 / 2) = s1 at *
        generalize l + h = s2 at *
        generalize h - l = s3 at *
        generalize (2 : Rat) = s4 at *
        generalize maxQ l m = u1 at *
        generalize minQ h k = u2 at *
        exact walk (code := Tryz.f10.body.getD .skip) [c kp, c kq, c kx, c Hu, c I, c (vLow l h), c B, c K, c A, c W, c (vLow m k), c C1, c (vLow m k), c C2, c Wd, c S1, x2 (same' s3), c Md, c S2, c O, c S3, x2 (same' s1), c (vLow m k), c D, c V1, c V2, c (vLow u1 u2), c F, c W1, c W2, x2 Q1, x2 Q3, x2 Q4] fol Tryz.func10 (by kernel_rfl) (fun xs w => Tryz.call10 xs w) (by kernel_rfl)
      ·have Q1 := binR1 u l (b := false) (by simp [ql])
       have Q2 := binR1 u m (b := true) (by simp [hu.resolve_left ql])
       clear ql hu
       by_cases qh : v = h
       ·have Q3 := binR1 v h (b := true) (by simp [qh])
        clear qh hv
        generalize (l + h) * (1 / 2) = s1 at *
        generalize l + h = s2 at *
        generalize h - l = s3 at *
        generalize (2 : Rat) = s4 at *
        generalize maxQ l m = u1 at *
        generalize minQ h k = u2 at *
        exact walk (code := Tryz.f10.body.getD .skip) [c kp, c kq, c kx, c Hu, c I, c (vLow l h), c B, c K, c A, c W, c (vLow m k), c C1, c (vLow m k), c C2, c Wd, c S1, x2 (same' s3), c Md, c S2, c O, c S3, x2 (same' s1), c (vLow m k), c D, c V1, c V2, c (vLow u1 u2), c F, c W1, c W2, x2 Q1, x2 Q2, x2 Q3] fol Tryz.func10 (by kernel_rfl) (fun xs w => Tryz.call10 xs w) (by kernel_rfl)
       ·have Q3 := binR1 v h (b := false) (by simp [qh])
        have Q4 := binR1 v k (b := true) (by simp [hv.resolve_left qh])
        clear qh hv
        generalize (l + h) * (1 / 2) = s1 at *
        generalize l + h = s2 at *
        generalize h - l = s3 at *
        generalize (2 : Rat) = s4 at *
        generalize maxQ l m = u1 at *
        generalize minQ h k = u2 at *
        exact walk (code := Tryz.f10.body.getD .skip) [c kp, c kq, c kx, c Hu, c I, c (vLow l h), c B, c K, c A, c W, c (vLow m k), c C1, c (vLow m k), c C2, c Wd, c S1, x2 (same' s3), c Md, c S2, c O, c S3, x2 (same' s1), c (vLow m k), c D, c V1, c V2, c (vLow u1 u2), c F, c W1, c W2, x2 Q1, x2 Q2, x2 Q3, x2 Q4] fol Tryz.func10 (by kernel_rfl) (fun xs w => Tryz.call10 xs w) (by kernel_rfl)
 ·have hi := Rat.not_le.1 hi
  have I := eInterNo l h m k 4 (by omega) hi
  have nn := none hi
  have Cm := fCompare l h m k fz fz fz fz
  have co := cmpO_out hlh hmk hi
  clear both none hi
  cases b2 : inB m k l
  ·rw [b2] at C1 W
   cases b1 : inB l h x
   ·rw [b1] at A B; (try rw [b1] at F); (try rw [b1] at nn)
    rcases co with co | co <;> rw [co] at Cm
    ·clear co nn
     generalize (l + h) * (1 / 2) = s1 at *
     generalize l + h = s2 at *
     generalize h - l = s3 at *
     generalize (2 : Rat) = s4 at *
     exact walk (code := Tryz.f10.body.getD .skip) [c kp, c kq, c kx, c Hu, c I, c (vLow l h), c B, c K, c A, c W, c (vLow m k), c C1, c Wd, c S1, x2 (same' s3), c Md, c S2, c O, c S3, x2 (same' s1), x2 binOZ, c (vLow l h), c (vLow m k), c Cm, c (vLow l h), c (vLow m k), c Cm] fol Tryz.func10 (by kernel_rfl) (fun xs w => Tryz.call10 xs w) (by kernel_rfl)
    ·clear co nn
     generalize (l + h) * (1 / 2) = s1 at *
     generalize l + h = s2 at *
     generalize h - l = s3 at *
     generalize (2 : Rat) = s4 at *
     exact walk (code := Tryz.f10.body.getD .skip) [c kp, c kq, c kx, c Hu, c I, c (vLow l h), c B, c K, c A, c W, c (vLow m k), c C1, c Wd, c S1, x2 (same' s3), c Md, c S2, c O, c S3, x2 (same' s1), x2 binOZ, c (vLow l h), c (vLow m k), c Cm, c (vLow l h), c (vLow m k), c Cm] fol Tryz.func10 (by kernel_rfl) (fun xs w => Tryz.call10 xs w) (by kernel_rfl)
   ·rw [b1] at A B; (try rw [b1] at F); (try rw [b1] at nn)
    cases b4 : inB m k x
    ·rw [b4] at D; (try rw [b4] at F); (try rw [b4] at nn)
     rcases co with co | co <;> rw [co] at Cm
     ·clear co nn
      generalize (l + h) * (1 / 2) = s1 at *
      generalize l + h = s2 at *
      generalize h - l = s3 at *
      generalize (2 : Rat) = s4 at *
      exact walk (code := Tryz.f10.body.getD .skip) [c kp, c kq, c kx, c Hu, c I, c (vLow l h), c B, c K, c A, c W, c (vLow m k), c C1, c Wd, c S1, x2 (same' s3), c Md, c S2, c O, c S3, x2 (same' s1), c (vLow m k), c D, x2 binOZ, c (vLow l h), c (vLow m k), c Cm, c (vLow l h), c (vLow m k), c Cm] fol Tryz.func10 (by kernel_rfl) (fun xs w => Tryz.call10 xs w) (by kernel_rfl)
     ·clear co nn
      generalize (l + h) * (1 / 2) = s1 at *
      generalize l + h = s2 at *
      generalize h - l = s3 at *
      generalize (2 : Rat) = s4 at *
      exact walk (code := Tryz.f10.body.getD .skip) [c kp, c kq, c kx, c Hu, c I, c (vLow l h), c B, c K, c A, c W, c (vLow m k), c C1, c Wd, c S1, x2 (same' s3), c Md, c S2, c O, c S3, x2 (same' s1), c (vLow m k), c D, x2 binOZ, c (vLow l h), c (vLow m k), c Cm, c (vLow l h), c (vLow m k), c Cm] fol Tryz.func10 (by kernel_rfl) (fun xs w => Tryz.call10 xs w) (by kernel_rfl)
    ·rw [b4] at D; (try rw [b4] at F); (try rw [b4] at nn)
     cases nn
  ·rw [b2] at C1 W
   cases b3 : inB m k h
   ·rw [b3] at C2 W
    cases b1 : inB l h x
    ·rw [b1] at A B; (try rw [b1] at F); (try rw [b1] at nn)
     rcases co with co | co <;> rw [co] at Cm
     ·clear co nn
      generalize (l + h) * (1 / 2) = s1 at *
      generalize l + h = s2 at *
      generalize h - l = s3 at *
      generalize (2 : Rat) = s4 at *
      exact walk (code := Tryz.f10.body.getD .skip) [c kp, c kq, c kx, c Hu, c I, c (vLow l h), c B, c K, c A, c W, c (vLow m k), c C1, c (vLow m k), c C2, c Wd, c S1, x2 (same' s3), c Md, c S2, c O, c S3, x2 (same' s1), x2 binOZ, c (vLow l h), c (vLow m k), c Cm, c (vLow l h), c (vLow m k), c Cm] fol Tryz.func10 (by kernel_rfl) (fun xs w => Tryz.call10 xs w) (by kernel_rfl)
     ·clear co nn
      generalize (l + h) * (1 / 2) = s1 at *
      generalize l + h = s2 at *
      generalize h - l = s3 at *
      generalize (2 : Rat) = s4 at *
      exact walk (code := Tryz.f10.body.getD .skip) [c kp, c kq, c kx, c Hu, c I, c (vLow l h), c B, c K, c A, c W, c (vLow m k), c C1, c (vLow m k), c C2, c Wd, c S1, x2 (same' s3), c Md, c S2, c O, c S3, x2 (same' s1), x2 binOZ, c (vLow l h), c (vLow m k), c Cm, c (vLow l h), c (vLow m k), c Cm] fol Tryz.func10 (by kernel_rfl) (fun xs w => Tryz.call10 xs w) (by kernel_rfl)
    ·rw [b1] at A B; (try rw [b1] at F); (try rw [b1] at nn)
     cases b4 : inB m k x
     ·rw [b4] at D; (try rw [b4] at F); (try rw [b4] at nn)
      rcases co with co | co <;> rw [co] at Cm
      ·clear co nn
       generalize (l + h) * (1 / 2) = s1 at *
       generalize l + h = s2 at *
       generalize h - l = s3 at *
       generalize (2 : Rat) = s4 at *
       exact walk (code := Tryz.f10.body.getD .skip) [c kp, c kq, c kx, c Hu, c I, c (vLow l h), c B, c K, c A, c W, c (vLow m k), c C1, c (vLow m k), c C2, c Wd, c S1, x2 (same' s3), c Md, c S2, c O, c S3, x2 (same' s1), c (vLow m k), c D, x2 binOZ, c (vLow l h), c (vLow m k), c Cm, c (vLow l h), c (vLow m k), c Cm] fol Tryz.func10 (by kernel_rfl) (fun xs w => Tryz.call10 xs w) (by kernel_rfl)
      ·clear co nn
       generalize (l + h) * (1 / 2) = s1 at *
       generalize l + h = s2 at *
       generalize h - l = s3 at *
       generalize (2 : Rat) = s4 at *
       exact walk (code := Tryz.f10.body.getD .skip) [c kp, c kq, c kx, c Hu, c I, c (vLow l h), c B, c K, c A, c W, c (vLow m k), c C1, c (vLow m k), c C2, c Wd, c S1, x2 (same' s3), c Md, c S2, c O, c S3, x2 (same' s1), c (vLow m k), c D, x2 binOZ, c (vLow l h), c (vLow m k), c Cm, c (vLow l h), c (vLow m k), c Cm] fol Tryz.func10 (by kernel_rfl) (fun xs w => Tryz.call10 xs w) (by kernel_rfl)
     ·rw [b4] at D; (try rw [b4] at F); (try rw [b4] at nn)
      cases nn
   ·rw [b3] at C2 W
    cases b1 : inB l h x
    ·rw [b1] at A B; (try rw [b1] at F); (try rw [b1] at nn)
     rcases co with co | co <;> rw [co] at Cm
     ·clear co nn
      generalize (l + h) * (1 / 2) = s1 at *
      generalize l + h = s2 at *
      generalize h - l = s3 at *
      generalize (2 : Rat) = s4 at *
      exact walk (code := Tryz.f10.body.getD .skip) [c kp, c kq, c kx, c Hu, c I, c (vLow l h), c B, c K, c A, c W, c (vLow m k), c C1, c (vLow m k), c C2, c Wd, c S1, x2 (same' s3), c Md, c S2, c O, c S3, x2 (same' s1), x2 binOZ, c (vLow l h), c (vLow m k), c Cm, c (vLow l h), c (vLow m k), c Cm] fol Tryz.func10 (by kernel_rfl) (fun xs w => Tryz.call10 xs w) (by kernel_rfl)
     ·clear co nn
      generalize (l + h) * (1 / 2) = s1 at *
      generalize l + h = s2 at *
      generalize h - l = s3 at *
      generalize (2 : Rat) = s4 at *
      exact walk (code := Tryz.f10.body.getD .skip) [c kp, c kq, c kx, c Hu, c I, c (vLow l h), c B, c K, c A, c W, c (vLow m k), c C1, c (vLow m k), c C2, c Wd, c S1, x2 (same' s3), c Md, c S2, c O, c S3, x2 (same' s1), x2 binOZ, c (vLow l h), c (vLow m k), c Cm, c (vLow l h), c (vLow m k), c Cm] fol Tryz.func10 (by kernel_rfl) (fun xs w => Tryz.call10 xs w) (by kernel_rfl)
    ·rw [b1] at A B; (try rw [b1] at F); (try rw [b1] at nn)
     cases b4 : inB m k x
     ·rw [b4] at D; (try rw [b4] at F); (try rw [b4] at nn)
      rcases co with co | co <;> rw [co] at Cm
      ·clear co nn
       generalize (l + h) * (1 / 2) = s1 at *
       generalize l + h = s2 at *
       generalize h - l = s3 at *
       generalize (2 : Rat) = s4 at *
       exact walk (code := Tryz.f10.body.getD .skip) [c kp, c kq, c kx, c Hu, c I, c (vLow l h), c B, c K, c A, c W, c (vLow m k), c C1, c (vLow m k), c C2, c Wd, c S1, x2 (same' s3), c Md, c S2, c O, c S3, x2 (same' s1), c (vLow m k), c D, x2 binOZ, c (vLow l h), c (vLow m k), c Cm, c (vLow l h), c (vLow m k), c Cm] fol Tryz.func10 (by kernel_rfl) (fun xs w => Tryz.call10 xs w) (by kernel_rfl)
      ·clear co nn
       generalize (l + h) * (1 / 2) = s1 at *
       generalize l + h = s2 at *
       generalize h - l = s3 at *
       generalize (2 : Rat) = s4 at *
       exact walk (code := Tryz.f10.body.getD .skip) [c kp, c kq, c kx, c Hu, c I, c (vLow l h), c B, c K, c A, c W, c (vLow m k), c C1, c (vLow m k), c C2, c Wd, c S1, x2 (same' s3), c Md, c S2, c O, c S3, x2 (same' s1), c (vLow m k), c D, x2 binOZ, c (vLow l h), c (vLow m k), c Cm, c (vLow l h), c (vLow m k), c Cm] fol Tryz.func10 (by kernel_rfl) (fun xs w => Tryz.call10 xs w) (by kernel_rfl)
     ·rw [b4] at D; (try rw [b4] at F); (try rw [b4] at nn)
      cases nn
theorem EnclosureSets_c (n1 d1 n2 d2 n3 d3 n4 d4 n5 d5 : Int) (w : World) (hp : PairOk n1 d1 n2 d2) (hq : PairOk n3 d3 n4 d4) (hr : PartOk n5 d5) : Calls Tryz.prog 10 #[pairV n1 d1 n2 d2, pairV n3 d3 n4 d4, .agg #[.int .i32 n5, .int .u16 d5]] w fun e w' => e = .returned (.bool true) ∧ Below w.heap.size w w' := (EnclosureSets_s n1 d1 n2 d2 n3 d3 n4 d4 n5 d5 hp hq hr).calls rfl rfl w
end Go.Proofs.YtcbbcmiennjfhaaGreatDoor
