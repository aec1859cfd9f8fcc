/- Part 1 of the proof; what it holds is said text by text. -/
import Derived.Test.YtlblfgbpogljoaaGreatDoorQbL
set_option linter.unusedSimpArgs false
set_option linter.unusedVariables false
section
/- The program's Check of fractions. -/
namespace Go.Proofs.YtlblfgbpogljoaaGreatDoor
open Go Go.RowKit Go.Sy
open Vi
end Go.Proofs.YtlblfgbpogljoaaGreatDoor
namespace Go.Proofs.YtlblfgbpogljoaaGreatDoor
open Go Go.RowKit Go.Sy
open Vi
end Go.Proofs.YtlblfgbpogljoaaGreatDoor
namespace Go.Proofs.YtlblfgbpogljoaaGreatDoor
open Go Go.RowKit Go.Sy
open Vi
def qZ : Value := .agg #[.bool false, .string ⟨#[]⟩, .bool false, .string ⟨#[]⟩, .bool false, .string ⟨#[]⟩, .bool false, .string ⟨#[]⟩, .bool false, .string ⟨#[]⟩, .bool false, .string ⟨#[]⟩]
theorem qV0 : qV 0 0 0 = qZ := by
 unfold qV qZ
 rw [show (0 : Rat).num = 0 from rfl, show dn 0 = 0 from rfl, sg0, mg0]
theorem binQ0 (a b c : Rat) {q : Bool} (e : (decide (a = 0) && (decide (b = 0) && (decide (c = 0) && true))) = q) : Bin .eql 67 (qV a b c) qZ (.bool q) := by rw [← qV0]; exact binQ a b c 0 0 0 e
end Go.Proofs.YtlblfgbpogljoaaGreatDoor
namespace Go.Proofs.YtlblfgbpogljoaaGreatDoor
open Go Go.RowKit Go.Sy
open Vi
end Go.Proofs.YtlblfgbpogljoaaGreatDoor
namespace Go.Proofs.YtlblfgbpogljoaaGreatDoor
open Go Go.RowKit Go.Sy
open Vi
end Go.Proofs.YtlblfgbpogljoaaGreatDoor
namespace Go.Proofs.YtlblfgbpogljoaaGreatDoor
open Go Go.RowKit Go.Sy
open Vi
end Go.Proofs.YtlblfgbpogljoaaGreatDoor
namespace Go.Proofs.YtlblfgbpogljoaaGreatDoor
open Go Go.RowKit Go.Sy
open Vi
end Go.Proofs.YtlblfgbpogljoaaGreatDoor

end
section
/- The package quadratic: functions and their values at instants. -/
namespace Go.Proofs.YtlblfgbpogljoaaGreatDoor
open Go Go.RowKit Go.Sy
open Vi
theorem uAdd (a b c d e f : Rat) {i j k l m n : Nat} [HasSz a i] [HasSz b j] [HasSz c k] [HasSz d l] [HasSz e m] [HasSz f n] (hs : i + j + k + l + m + n ≤ 900 := by first | omega | decide) :
    Sp Tryz.prog 69 [] [qV a b c, qV d e f] (qV (a + d) (b + e) (c + f)) [] := by
 have A := pAdd a d fz fz
 have B := pAdd b e fz fz
 have C := pAdd c f fz fz
 clear hs
 generalize a + d = t1 at *
 generalize b + e = t2 at *
 generalize c + f = t3 at *
 exact walk (code := Tryz.f69.body.getD .skip) [Sy.c A, Sy.c B, Sy.c C] fol Tryz.func69 (by kernel_rfl) (fun xs w => Tryz.call69 xs w) (by kernel_rfl)
theorem uSub (a b c d e f : Rat) {i j k l m n : Nat} [HasSz a i] [HasSz b j] [HasSz c k] [HasSz d l] [HasSz e m] [HasSz f n] (hs : i + j + k + l + m + n ≤ 900 := by first | omega | decide) :
    Sp Tryz.prog 70 [] [qV a b c, qV d e f] (qV (a - d) (b - e) (c - f)) [] := by
 have A := pSub a d fz fz
 have B := pSub b e fz fz
 have C := pSub c f fz fz
 clear hs
 generalize a - d = t1 at *
 generalize b - e = t2 at *
 generalize c - f = t3 at *
 exact walk (code := Tryz.f70.body.getD .skip) [Sy.c A, Sy.c B, Sy.c C] fol Tryz.func70 (by kernel_rfl) (fun xs w => Tryz.call70 xs w) (by kernel_rfl)
end Go.Proofs.YtlblfgbpogljoaaGreatDoor

end
section
/- No program in sight: a reduced function is zero exactly where the function is. -/
namespace Go.Proofs.YtlblfgbpogljoaaGreatDoor
open Go Go.RowKit Go.Sy
open Vi RR
theorem rat_eq0 {q : Rat} : ofRat q = 0 ↔ q = 0 := by
 constructor
 ·intro h
  exact rat_inj (p := q) (q := 0) (by rw [h]; rfl)
 ·rintro rfl; rfl
theorem red_r0 {a b c : Rat} {x : Rl} (hx : x.Ok) (h : x.r = 0) : qval a b c x.val = ofRat (evQ a b c x.p) := by
 have e := rat_of_r0 hx h
 have h2 := atQ_val (a := a) (b := b) (c := c) hx
 rw [← h2]
 rw [e, atQ_rat, Rl.rat_val]
 rfl
theorem red_r1 {a b c : Rat} {x : Rl} (hx : x.Ok) : qval a b c x.val = ofRat (rd0 a c x.p x.r) + ofRat (rd1 b c x.p) * x.val := by
 unfold qval rd0 rd1
 rw [val_mul_self hx]
 unfold Rl.val
 exact ring [a, b, c, x.p, x.s, sqrt x.r, x.r] (by decide +kernel)
theorem red_ind {u v : Rat} {x : Rl} (hx : x.Ok) (h : x.r ≠ 0) (e : ofRat u + ofRat v * x.val = 0) : u = 0 ∧ v = 0 := by
 by_cases hv : v = 0
 ·refine ⟨?_, hv⟩
  rw [hv] at e
  rw [← rat_eq0, ← e]
  exact ring [u, x.val] (by decide +kernel)
 ·exfalso
  have e2 : x.val = ofRat (-(u / v)) := by
   obtain ⟨t, ht⟩ : ∃ t, t = u / v := ⟨_, rfl⟩
   have eu : u = t * v := by rw [ht]; exact (Rat.div_mul_cancel hv).symm
   rw [← ht]
   rw [eu] at e
   have h0 : ofRat v * (x.val - ofRat (-t)) = 0 := by
    rw [← e]
    exact ring [t, v, x.val] (by decide +kernel)
   refine Classical.byContradiction fun hne => ?_
   refine mul_ne (fun h => hv (rat_eq0.1 h)) (fun h2 => hne ?_) h0
   exact ring1 [x.val, t] h2 1 (by decide +kernel)
  have e3 := Rl.inj hx (Rl.rat_ok (-(u / v))) (by rw [e2, Rl.rat_val])
  rw [e3] at h
  exact h rfl
def redB (a b c : Rat) (x : Rl) : Bool := if x.r = 0 then decide (evQ a b c x.p = 0) else decide (rd0 a c x.p x.r = 0) && decide (rd1 b c x.p = 0)
theorem redB_iff {a b c : Rat} {x : Rl} (hx : x.Ok) : redB a b c x = true ↔ qval a b c x.val = 0 := by
 unfold redB
 by_cases h : x.r = 0
 ·rw [if_pos h, red_r0 hx h, rat_eq0, decide_eq_true_iff]
 ·rw [if_neg h, Bool.and_eq_true, decide_eq_true_iff, decide_eq_true_iff, red_r1 hx]
  constructor
  ·rintro ⟨h1, h2⟩
   rw [h1, h2]
   exact ring [x.val] (by decide +kernel)
  ·exact red_ind hx h
theorem qval_sub (a b c d e f : Rat) (v : RR) : qval (a - d) (b - e) (c - f) v = qval a b c v - qval d e f v := by
 unfold qval
 exact ring [a, b, c, d, e, f, v] (by decide +kernel)
theorem sub_zero_iff {u v : RR} : u - v = 0 ↔ u = v := by
 constructor
 ·intro h; exact ring1 [u, v] h 1 (by decide +kernel)
 ·rintro rfl; exact ring [u] (by decide +kernel)
theorem redB_sub {a b c d e f : Rat} {x : Rl} (hx : x.Ok) : redB (a - d) (b - e) (c - f) x = true ↔ qval a b c x.val = qval d e f x.val := by
 rw [redB_iff hx, qval_sub, sub_zero_iff]
theorem red_same0 {a b c : Rat} {x : Rl} (hx : x.Ok) (h : x.r = 0) : qval (evQ a b c x.p) 0 0 x.val = qval a b c x.val := by
 have e := red_r0 (a := a) (b := b) (c := c) hx h
 rw [e]
 unfold qval
 exact ring [evQ a b c x.p, x.val] (by decide +kernel)
theorem red_same1 {a b c : Rat} {x : Rl} (hx : x.Ok) : qval (rd0 a c x.p x.r) (rd1 b c x.p) 0 x.val = qval a b c x.val := by
 have e := red_r1 (a := a) (b := b) (c := c) hx
 rw [e]
 unfold qval
 exact ring [rd0 a c x.p x.r, rd1 b c x.p, x.val] (by decide +kernel)
theorem red_eq0 {a b c d e f : Rat} {x : Rl} (hx : x.Ok) (h : x.r = 0) : evQ a b c x.p = evQ d e f x.p ↔ qval a b c x.val = qval d e f x.val := by
 rw [red_r0 hx h, red_r0 hx h]
 exact ⟨fun h => by rw [h], fun h => rat_inj h⟩
theorem red_eq1 {a b c d e f : Rat} {x : Rl} (hx : x.Ok) (h : x.r ≠ 0) : (rd0 a c x.p x.r = rd0 d f x.p x.r ∧ rd1 b c x.p = rd1 e f x.p) ↔ qval a b c x.val = qval d e f x.val := by
 constructor
 ·rintro ⟨h1, h2⟩
  rw [red_r1 hx, red_r1 hx, h1, h2]
 ·intro g
  rw [red_r1 hx, red_r1 hx] at g
  have := red_ind (u := rd0 a c x.p x.r - rd0 d f x.p x.r) (v := rd1 b c x.p - rd1 e f x.p) hx h (by
   generalize rd0 a c x.p x.r = a1 at *
   generalize rd1 b c x.p = a2 at *
   generalize rd0 d f x.p x.r = a3 at *
   generalize rd1 e f x.p = a4 at *
   exact ring1 [a1, a2, a3, a4, x.val] g 1 (by decide +kernel))
  constructor <;> grind
end Go.Proofs.YtlblfgbpogljoaaGreatDoor

end
section
/- Chapter 4's law about reduced functions. -/
namespace Go.Proofs.YtlblfgbpogljoaaGreatDoor
open Go Go.RowKit Go.Sy
open Vi
theorem binRed0 (a b c : Rat) (x : Rl) : Bin .eql 67 (redV a b c x) qZ (.bool (redB a b c x)) := by
 unfold redV redB
 by_cases h : x.r = 0
 ·rw [if_pos h, if_pos h]
  exact binQ0 _ _ _ (by simp)
 ·rw [if_neg h, if_neg h]
  exact binQ0 _ _ _ (by simp)
theorem redV_as (a b c : Rat) (x : Rl) (hx : x.Ok) {i j k l m : Nat} [HasSz a i] [HasSz b j] [HasSz c k] [HasSz x.p l] [HasSz x.r m] :
    ∃ u v : Rat, redV a b c x = qV u v 0 ∧ HasSz u (i + j + k + l + l + m + 2) ∧ HasSz v (j + k + l + 2) ∧ qval u v 0 x.val = qval a b c x.val := by
 unfold redV
 by_cases h : x.r = 0
 ·rw [if_pos h]
  exact ⟨_, 0, rfl, hs_mono (evQ_hs a b c x.p) (by omega), hs_mono (inferInstance : HasSz (0 : Rat) 1) (by omega), red_same0 hx h⟩
 ·rw [if_neg h]
  exact ⟨_, _, rfl, hs_mono (rd0_hs a c x.p x.r) (by omega), rd1_hs b c x.p, red_same1 hx⟩
theorem binRed (a b c d e f : Rat) (x : Rl) (hx : x.Ok) {s : Bool} (hs : s = true ↔ qval a b c x.val = qval d e f x.val) : Bin .eql 67 (redV a b c x) (redV d e f x) (.bool s) := by
 unfold redV
 by_cases h : x.r = 0
 ·rw [if_pos h, if_pos h]
  refine binQ _ _ _ _ _ _ ?_
  rw [Bool.eq_iff_iff, hs, ← red_eq0 hx h]
  simp
 ·rw [if_neg h, if_neg h]
  refine binQ _ _ _ _ _ _ ?_
  rw [Bool.eq_iff_iff, hs, ← red_eq1 hx h]
  simp
theorem redV_ex (a b c : Rat) (x : Rl) : ∃ u v : Rat, redV a b c x = qV u v 0 := by
 unfold redV
 by_cases h : x.r = 0
 ·rw [if_pos h]; exact ⟨_, _, rfl⟩
 ·rw [if_neg h]; exact ⟨_, _, rfl⟩
theorem uSame (a b c d e f : Rat) (x : Rl) {i j k l m n o p : Nat} [HasSz a i] [HasSz b j] [HasSz c k] [HasSz d l] [HasSz e m] [HasSz f n] [HasSz x.p o] [HasSz x.r p] (hs : i + j + k + l + m + n + o + p ≤ 450 := by first | omega | decide) :
    Sp Tryz.prog 55 [] [qV a b c, qV d e f, rlV x] (.bool (redB (a - d) (b - e) (c - f) x)) [] := by
 have S := uSub a b c d e f
 have R := uReduce (a - d) (b - e) (c - f) x
 have B := binRed0 (a - d) (b - e) (c - f) x
 obtain ⟨u, v, e0⟩ := redV_ex (a - d) (b - e) (c - f) x
 rw [e0] at R B
 clear hs e0
 generalize redB (a - d) (b - e) (c - f) x = s at *
 generalize (0 : Rat) = z at *
 generalize a - d = t1 at *
 generalize b - e = t2 at *
 generalize c - f = t3 at *
 exact walk (code := Tryz.f55.body.getD .skip) [Sy.c S, Sy.c R, x2 B] fol Tryz.func55 (by kernel_rfl) (fun xs w => Tryz.call55 xs w) (by kernel_rfl)
theorem QuadraticReduces_k (K : Sp Tryz.prog 32 [] [] (.bool true) []) (n1 d1 n2 d2 n3 d3 m1 e1 m2 e2 m3 e3 n5 d5 n6 d6 : Int) (neg eq : Bool) (h1 : Cn n1 d1) (h2 : Cn n2 d2) (h3 : Cn n3 d3) (h4 : Cn m1 e1) (h5 : Cn m2 e2) (h6 : Cn m3 e3) (h9 : Cn n5 d5) (h10 : Cn n6 d6) :
    Sp Tryz.prog 10 [] [.agg #[.int .i16 n1, .int .u8 d1, .int .i16 n2, .int .u8 d2, .int .i16 n3, .int .u8 d3, .int .i16 m1, .int .u8 e1, .int .i16 m2, .int .u8 e2, .int .i16 m3, .int .u8 e3], tmV n5 d5 n6 d6 neg, .bool eq] (.bool true) [] := by
 have Q1 := wQuad n1 d1 n2 d2 n3 d3 h1 h2 h3
 have Q2 := wQuad m1 e1 m2 e2 m3 e3 h4 h5 h6
 have X := wReal n5 d5 n6 d6 neg h9 h10
 have z1 := cf_hs h1
 have z2 := cf_hs h2
 have z3 := cf_hs h3
 have z4 := cf_hs h4
 have z5 := cf_hs h5
 have z6 := cf_hs h6
 have ok : (tmR n5 d5 n6 d6 neg).Ok := tmR_ok
 have z9 : HasSz (tmR n5 d5 n6 d6 neg).p 5 := tmR_hsp h9 h10
 have z10 : HasSz (tmR n5 d5 n6 d6 neg).r 2 := tmR_hsr h10
 clear h1 h2 h3 h4 h5 h6 h9 h10
 generalize cf n1 d1 = a at *
 generalize cf n2 d2 = b at *
 generalize cf n3 d3 = c at *
 generalize cf m1 e1 = d at *
 generalize cf m2 e2 = e at *
 generalize cf m3 e3 = f at *
 generalize tmR n5 d5 n6 d6 neg = x at *
 have R := uReduce a b c x
 have R2 := vReduce a b c x
 have x1 := binRed a b c a b c x ok (s := true) (by simp)
 obtain ⟨u, v, eR, y1, y2, vR⟩ := redV_as a b c x ok
 have key : ∀ d e f : Rat, HasSz d 20 → HasSz e 20 → HasSz f 20 → ∃ s : Bool, (s = true ↔ qval a b c x.val = qval d e f x.val) ∧ decide (Rl.cmp (atQ a b c x) (atQ d e f x) = 0) = s ∧
     Sp Tryz.prog 36 [] [qV a b c, rlV x] (rlV (atQ a b c x)) [] ∧ Sp Tryz.prog 36 [] [qV d e f, rlV x] (rlV (atQ d e f x)) [] ∧ Sp Tryz.prog 42 [] [rlV (atQ a b c x), rlV (atQ d e f x)] (nV (Rl.cmp (atQ a b c x) (atQ d e f x))) [] ∧
     Sp Tryz.prog 55 [] [qV a b c, qV d e f, rlV x] (.bool s) [] ∧ Sp Tryz.prog 55 [] [qV d e f, qV a b c, rlV x] (.bool s) [] := by
  intro d e f g1 g2 g3
  have T1 := vAt a b c x ok
  have T2 := vAt d e f x ok
  haveI := atQ_hsp a b c x
  haveI := atQ_hsr a b c x
  haveI := atQ_hsp d e f x
  haveI := atQ_hsr d e f x
  have T4 := vCompare (atQ a b c x) (atQ d e f x) (atQ_ok ok).nonneg (atQ_ok ok).nonneg (by omega)
  have S1 := uSame a b c d e f x
  have S2 := uSame d e f a b c x
  have q1 := redB_sub (a := a) (b := b) (c := c) (d := d) (e := e) (f := f) ok
  have q2 := redB_sub (a := d) (b := e) (c := f) (d := a) (e := b) (f := c) ok
  refine ⟨redB (a - d) (b - e) (c - f) x, q1, ?_, T1, T2, T4, S1, ?_⟩
  ·rw [Bool.eq_iff_iff, q1, decide_eq_true_iff, Rl.cmp_eq0 (atQ_ok ok) (atQ_ok ok), ← atQ_val (a := a) (b := b) (c := c) ok, ← atQ_val (a := d) (b := e) (c := f) ok]
   exact ⟨fun h => by rw [h], fun h => Rl.inj (atQ_ok ok) (atQ_ok ok) h⟩
  ·have e : redB (a - d) (b - e) (c - f) x = redB (d - a) (e - b) (f - c) x := by
     rw [Bool.eq_iff_iff, q1, q2]
     exact ⟨fun h => h.symm, fun h => h.symm⟩
   rw [e]; exact S2
 obtain ⟨sl, hl, g1, g2, g3, g4, Sl, g5⟩ := key u v 0 (hs_mono y1 (by omega)) (hs_mono y2 (by omega)) (hs_mono hz0 (by omega))
 have : sl = true := hl.2 vR.symm
 subst this
 cases eq
 ·obtain ⟨s, hs, cs, T1, T2, T4, S1, S2⟩ := key d e f (hs_mono z4 (by omega)) (hs_mono z5 (by omega)) (hs_mono z6 (by omega))
  have R3 := vReduce d e f x
  have x2 := binRed a b c d e f x ok hs
  obtain ⟨u2, v2, eR2⟩ := redV_ex d e f x
  rw [eR] at R R2 x1 x2
  rw [eR2] at R3 x2
  have e6 : (s == s) = true := by simp
  clear key hl ok z1 z2 z3 z4 z5 z6 z9 z10 y1 y2 vR eR eR2 hs
  generalize Rl.cmp (atQ a b c x) (atQ d e f x) = t at *
  generalize atQ a b c x = w1 at *
  generalize atQ d e f x = w2 at *
  generalize (0 : Rat) = zr at *
  cases s <;> exact walk (code := Tryz.f10.body.getD .skip) [Sy.c Q1, Sy.c Q2, Sy.c X, Sy.c R, Sy.c g2, Sy.c T2, Sy.c T4, eb cs, Sy.c K, Sy.c R2, Sy.x2 x1, Sy.c S1, Sy.c S2, Sy.c Sl, Sy.c R2, Sy.c R3, Sy.x2 x2] fol Tryz.func10 (by kernel_rfl) (fun xs w => Tryz.call10 xs w) (by kernel_rfl)
 ·obtain ⟨s, hs, cs, T1, T2, T4, S1, S2⟩ := key u v 0 (hs_mono y1 (by omega)) (hs_mono y2 (by omega)) (hs_mono hz0 (by omega))
  have : s = true := hs.2 vR.symm
  subst this
  have R3 := vReduce u v 0 x
  have x2 := binRed a b c u v 0 x ok hs
  obtain ⟨u2, v2, eR2⟩ := redV_ex u v 0 x
  rw [eR] at R R2 x1 x2
  rw [eR2] at R3 x2
  clear key hl ok z1 z2 z3 z4 z5 z6 z9 z10 y1 y2 vR eR eR2 hs
  generalize Rl.cmp (atQ a b c x) (atQ u v 0 x) = t at *
  generalize atQ a b c x = w1 at *
  generalize atQ u v 0 x = w2 at *
  generalize (0 : Rat) = zr at *
  exact walk (code := Tryz.f10.body.getD .skip) [Sy.c Q1, Sy.c Q2, Sy.c X, Sy.c R, Sy.c g2, Sy.c g3, Sy.c g4, eb g1, Sy.c K, Sy.c R2, Sy.x2 x1, Sy.c Sl, Sy.c g5, Sy.c Sl, Sy.c R2, Sy.c R3, Sy.x2 x2] fol Tryz.func10 (by kernel_rfl) (fun xs w => Tryz.call10 xs w) (by kernel_rfl)
end Go.Proofs.YtlblfgbpogljoaaGreatDoor

end
section
/- Chapter 4: its laws. -/
namespace Go.Proofs.YtlblfgbpogljoaaGreatDoor
open Go Go.RowKit Go.Sy
open Vi
theorem QuadraticValues_s (n1 d1 n2 d2 n3 d3 n4 d4 n5 d5 n6 d6 : Int) (neg : Bool) (h1 : Cn n1 d1) (h2 : Cn n2 d2) (h3 : Cn n3 d3) (h4 : Cn n4 d4) (h5 : Cn n5 d5) (h6 : Cn n6 d6) : Sp Tryz.prog 5 [] [fnV n1 d1 n2 d2 n3 d3, coV n4 d4, tmV n5 d5 n6 d6 neg] (.bool true) [] := by
 exact QuadraticValues_k vKnown4 n1 d1 n2 d2 n3 d3 n4 d4 n5 d5 n6 d6 neg h1 h2 h3 h4 h5 h6
theorem QuadraticReduces_s (n1 d1 n2 d2 n3 d3 m1 e1 m2 e2 m3 e3 n5 d5 n6 d6 : Int) (neg eq : Bool) (h1 : Cn n1 d1) (h2 : Cn n2 d2) (h3 : Cn n3 d3) (h4 : Cn m1 e1) (h5 : Cn m2 e2) (h6 : Cn m3 e3) (h9 : Cn n5 d5) (h10 : Cn n6 d6) : Sp Tryz.prog 10 [] [.agg #[.int .i16 n1, .int .u8 d1, .int .i16 n2, .int .u8 d2, .int .i16 n3, .int .u8 d3, .int .i16 m1, .int .u8 e1, .int .i16 m2, .int .u8 e2, .int .i16 m3, .int .u8 e3], tmV n5 d5 n6 d6 neg, .bool eq] (.bool true) [] := by
 exact QuadraticReduces_k vKnown4 n1 d1 n2 d2 n3 d3 m1 e1 m2 e2 m3 e3 n5 d5 n6 d6 neg eq h1 h2 h3 h4 h5 h6 h9 h10
theorem QuadraticValues_c (n1 d1 n2 d2 n3 d3 n4 d4 n5 d5 n6 d6 : Int) (neg : Bool) (w : World) (hw : w.ShapedOpen Tryz.prog) (h1 : Cn n1 d1) (h2 : Cn n2 d2) (h3 : Cn n3 d3) (h4 : Cn n4 d4) (h5 : Cn n5 d5) (h6 : Cn n6 d6) : Calls Tryz.prog 5 #[fnV n1 d1 n2 d2 n3 d3, coV n4 d4, tmV n5 d5 n6 d6 neg] w fun e w' => e = .returned (.bool true) ∧ Below w.heap.size w w' := (QuadraticValues_s n1 d1 n2 d2 n3 d3 n4 d4 n5 d5 n6 d6 neg h1 h2 h3 h4 h5 h6).calls rfl rfl w hw
theorem QuadraticReduces_c (n1 d1 n2 d2 n3 d3 m1 e1 m2 e2 m3 e3 n5 d5 n6 d6 : Int) (neg eq : Bool) (w : World) (hw : w.ShapedOpen Tryz.prog) (h1 : Cn n1 d1) (h2 : Cn n2 d2) (h3 : Cn n3 d3) (h4 : Cn m1 e1) (h5 : Cn m2 e2) (h6 : Cn m3 e3) (h9 : Cn n5 d5) (h10 : Cn n6 d6) : Calls Tryz.prog 10 #[.agg #[.int .i16 n1, .int .u8 d1, .int .i16 n2, .int .u8 d2, .int .i16 n3, .int .u8 d3, .int .i16 m1, .int .u8 e1, .int .i16 m2, .int .u8 e2, .int .i16 m3, .int .u8 e3], tmV n5 d5 n6 d6 neg, .bool eq] w fun e w' => e = .returned (.bool true) ∧ Below w.heap.size w w' := (QuadraticReduces_s n1 d1 n2 d2 n3 d3 m1 e1 m2 e2 m3 e3 n5 d5 n6 d6 neg eq h1 h2 h3 h4 h5 h6 h9 h10).calls rfl rfl w hw
end Go.Proofs.YtlblfgbpogljoaaGreatDoor

end
