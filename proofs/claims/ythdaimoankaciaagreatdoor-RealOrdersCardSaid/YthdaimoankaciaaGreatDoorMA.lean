import Derived.Test.YthdaimoankaciaaGreatDoorFz
import Derived.Test.YthdaimoankaciaaGreatDoorLA
import Derived.Test.YthdaimoankaciaaGreatDoorRm
import Derived.Test.YthdaimoankaciaaGreatDoorQr
/- The program's Check of fractions. -/
set_option linter.unusedSimpArgs false
set_option linter.unusedVariables false
namespace Go.Proofs.YthdaimoankaciaaGreatDoor
open Go Go.RowKit Go.Sy
open Vi
theorem iCheck (b : Bool) (s : ByteArray) (hs : s.size ≤ 4294967296) : Sp Tryz.prog 160 [] [.agg #[.bool b, .string s]] (nV (if okInt b s then 0 else 5)) [] := Sp.of (fun xs w => Tryz.call160 xs w) (by kernel_rfl) (by kernel_rfl) (fun w => Check_c b s w hs)
theorem pCheck (b1 : Bool) (s1 : ByteArray) (b2 : Bool) (s2 : ByteArray) (h1 : s1.size ≤ 131000) (h2 : s2.size ≤ 131000) : Sp Tryz.prog 121 [] [.agg #[.bool b1, .string s1, .bool b2, .string s2]] (nV (if okRat b1 s1 b2 s2 then 0 else 5)) [] := by
 have c1 := iCheck b1 s1 (by omega)
 have c2 := iCheck b2 s2 (by omega)
 unfold okRat
 cases k1 : okInt b1 s1 <;> rw [k1] at c1
 ·exact walk (code := Tryz.f121.body.getD .skip) [c c1] fol Tryz.func121 (by kernel_rfl) (fun xs w => Tryz.call121 xs w) (by kernel_rfl)
 cases k2 : okInt b2 s2 <;> rw [k2] at c2
 ·exact walk (code := Tryz.f121.body.getD .skip) [c c1, c c2] fol Tryz.func121 (by kernel_rfl) (fun xs w => Tryz.call121 xs w) (by kernel_rfl)
 obtain ⟨x, rfl, rfl⟩ := okInt_num b1 s1 k1
 obtain ⟨y, rfl, rfl⟩ := okInt_num b2 s2 k2
 rw [mg_isEmpty, num_mg, num_mg]
 by_cases h0 : y = 0
 ·subst h0
  rw [show (if (true && true && !sg 0 && ((0 : Int) == 0 || ((0 : Int).natAbs != 1 && Nat.gcd x.natAbs (0 : Int).natAbs == 1))) = true then (0 : Int) else 5) = 0 from rfl]
  have hx := binI0 0 (b := true) rfl
  rw [iV0] at hx
  rw [sg0, mg0] at c2 ⊢
  exact walk (code := Tryz.f121.body.getD .skip) [c c1, c c2, L, x2 hx] fol Tryz.func121 (by kernel_rfl) (fun xs w => Tryz.call121 xs w) (by kernel_rfl)
 ·have hx := binI0 y (b := false) (by simpa using h0)
  have hC := iCompare y 1 (by omega) (by rw [mg1]; show 1 ≤ _; omega)
  rw [show ((y == 0) : Bool) = false by simpa using h0, Bool.false_or]
  by_cases hy : y ≤ 1
  ·have e : (true && true && !sg y && (y.natAbs != 1 && Nat.gcd x.natAbs y.natAbs == 1)) = false := by
     unfold sg
     by_cases hn : y < 0
     ·simp [hn]
     ·have : y.natAbs = 1 := by omega
      simp [this]
   rw [e]
   have ec : decide (cmpI y 1 ≤ 0) = true := decide_eq_true (by unfold cmpI; split; omega; split <;> omega)
   exact walk (code := Tryz.f121.body.getD .skip) [c c1, c c2, L, x2 hx, c pOne, c hC, eb ec] fol Tryz.func121 (by kernel_rfl) (fun xs w => Tryz.call121 xs w) (by kernel_rfl)
  ·have ec : decide (cmpI y 1 ≤ 0) = false := decide_eq_false (by unfold cmpI; rw [if_neg (by omega), if_neg (by omega)]; omega)
   have hG := iGcd x y (by omega) (by omega)
   have e : (true && true && !sg y && (y.natAbs != 1 && Nat.gcd x.natAbs y.natAbs == 1)) = decide ((Nat.gcd x.natAbs y.natAbs : Nat) = 1) := by
    have : sg y = false := by unfold sg; simp; omega
    rw [this]
    have : (y.natAbs != 1) = true := by simp; omega
    rw [this, Bool.eq_iff_iff]
    simp
   rw [e]
   by_cases hg : Nat.gcd x.natAbs y.natAbs = 1
   ·rw [decide_eq_true hg]
    have hx2 := binI1' ((Nat.gcd x.natAbs y.natAbs : Nat) : Int) 1 (b := false) (by rw [hg]; rfl)
    generalize ((Nat.gcd x.natAbs y.natAbs : Nat) : Int) = G at *
    exact walk (code := Tryz.f121.body.getD .skip) [c c1, c c2, L, x2 hx, c pOne, c hC, eb ec, c hG, c pOne, x2 hx2] fol Tryz.func121 (by kernel_rfl) (fun xs w => Tryz.call121 xs w) (by kernel_rfl)
   ·rw [decide_eq_false hg]
    have hx2 := binI1' ((Nat.gcd x.natAbs y.natAbs : Nat) : Int) 1 (b := true) (by simp; omega)
    generalize ((Nat.gcd x.natAbs y.natAbs : Nat) : Int) = G at *
    exact walk (code := Tryz.f121.body.getD .skip) [c c1, c c2, L, x2 hx, c pOne, c hC, eb ec, c hG, c pOne, x2 hx2] fol Tryz.func121 (by kernel_rfl) (fun xs w => Tryz.call121 xs w) (by kernel_rfl)
theorem pCheckQ (q : Rat) (hq : Fits q) : Sp Tryz.prog 121 [] [rV q] (nV 0) [] := by
 have h := pCheck (sg q.num) (mg q.num) (sg (dn q)) (mg (dn q)) hq.mn hq.md
 rw [okRat_of q] at h
 exact h
end Go.Proofs.YthdaimoankaciaaGreatDoor
set_option linter.unusedSimpArgs false
set_option linter.unusedVariables false
namespace Go.Proofs.YthdaimoankaciaaGreatDoor
open Go Go.RowKit Go.Sy
open Vi
theorem rlV_rat (q : Rat) : rlV ⟨q, 0, false⟩ = .agg #[.bool (sg q.num), .string (mg q.num), .bool (sg (dn q)), .string (mg (dn q)), .bool false, .string ⟨#[]⟩, .bool false, .string ⟨#[]⟩, .bool false] := by
 unfold rlV
 rw [show (0 : Rat).num = 0 from rfl, show dn 0 = 0 from rfl, sg0, mg0]
theorem int1_hs {z : Int} (h : -255 ≤ z ∧ z ≤ 255) : HasSz (z : Rat) 1 := int_hs z 0 (by
 have : (256 : Nat) ^ (0 + 1) = 256 := by decide
 omega)
theorem gWhole (n : Int) (h1 : -9223372036854775808 ≤ n) (h2 : n ≤ 9223372036854775807) : Sp Tryz.prog 66 [] [nV n] (rV (n : Rat)) [] := by
 have I := rInt n h1 h2
 rw [rV_int]
 exact walk (code := Tryz.f66.body.getD .skip) [c I] fol Tryz.func66 (by kernel_rfl) (fun xs w => Tryz.call66 xs w) (by kernel_rfl)
theorem gZero : Sp Tryz.prog 40 [] [] (rV 0) [] := by
 rw [rV0]
 exact walk (code := Tryz.f40.body.getD .skip) [] fol Tryz.func40 (by kernel_rfl) (fun xs w => Tryz.call40 xs w) (by kernel_rfl)
theorem gOne : Sp Tryz.prog 90 [] [] (rV 1) [] := by
 have W := gWhole 1 (by omega) (by omega)
 rw [show ((1 : Int) : Rat) = 1 from rfl] at W
 exact walk (code := Tryz.f90.body.getD .skip) [c W] fol Tryz.func90 (by kernel_rfl) (fun xs w => Tryz.call90 xs w) (by kernel_rfl)
theorem gOf (q : Rat) : Sp Tryz.prog 50 [] [rV q] (rlV (Rl.rat q)) [] := by
 unfold Rl.rat
 rw [rlV_rat]
 exact walk (code := Tryz.f50.body.getD .skip) [] fol Tryz.func50 (by kernel_rfl) (fun xs w => Tryz.call50 xs w) (by kernel_rfl)
theorem sgQ_lt0 (q : Rat) : decide (sgQ q < 0) = decide (q < 0) := by
 rcases sgQ_cases q with ⟨h1, h2⟩ | ⟨h1, h2⟩ | ⟨h1, h2⟩ <;> rw [h1]
 ·rw [decide_eq_true h2]; rfl
 ·rw [show decide (q < 0) = false from decide_eq_false (by grind)]; rfl
 ·rw [show decide (q < 0) = false from decide_eq_false (by grind)]; rfl
theorem gMake (p q r : Rat) {i j k : Nat} [HasSz p i] [HasSz q j] [HasSz r k] (hs : i + j + j + k ≤ 20000 := by first | omega | decide) : Sp Tryz.prog 61 [] [rV p, rV q, rV r] (rlV (mkR p q r)) [] := by
 rcases rRoot r fz with ⟨w, h0, hw, R⟩ | ⟨h, R⟩
 ·rw [mkR_sq p q r w h0 hw]
  subst hw
  haveI : HasSz w k := sz_root
  have A := rMul q w fz fz
  have B := rAdd p (q * w) fz fz
  rw [rlV_rat]
  clear h0
  generalize p + q * w = s at *
  generalize q * w = t at *
  generalize w * w = u at *
  exact walk (code := Tryz.f61.body.getD .skip) [c R, c A, c B] fol Tryz.func61 (by kernel_rfl) (fun xs w => Tryz.call61 xs w) (by kernel_rfl)
 ·rw [mkR_irr p q r h]
  have Z := gZero
  by_cases hq : q = 0
  ·subst hq
   have B := binR1 0 0 (b := true) (by simp)
   rw [show (0 : Rat) * 0 * r = 0 by grind, show decide ((0 : Rat) < 0) = false by decide +kernel, rlV_rat]
   clear h
   generalize (0 : Rat) = z at *
   exact walk (code := Tryz.f61.body.getD .skip) [c R, c Z, x2 B] fol Tryz.func61 (by kernel_rfl) (fun xs w => Tryz.call61 xs w) (by kernel_rfl)
  ·have B := binR1 q 0 (b := false) (by simp [hq])
   have A := rMul q q fz fz
   have C := rMul (q * q) r fz fz
   have S := rSgn q
   have e := sgQ_lt0 q
   unfold rlV
   dsimp only
   clear h hq
   generalize q * q * r = s at *
   generalize q * q = t at *
   generalize sgQ q = z at *
   generalize decide (q < 0) = d at *
   generalize (0 : Rat) = z0 at *
   exact walk (code := Tryz.f61.body.getD .skip) [c R, c Z, x2 B, c A, c C, c S, eb e] fol Tryz.func61 (by kernel_rfl) (fun xs w => Tryz.call61 xs w) (by kernel_rfl)
theorem gSide (x : Rl) : Sp Tryz.prog 92 [] [rlV x] (nV x.si) [] := by
 obtain ⟨p, r, neg⟩ := x
 unfold Rl.si
 cases neg <;> exact walk (code := Tryz.f92.body.getD .skip) [] fol Tryz.func92 (by kernel_rfl) (fun xs w => Tryz.call92 xs w) (by kernel_rfl)
theorem gSigns (a b r : Rat) {i j k : Nat} [HasSz a i] [HasSz b j] [HasSz r k] (hs : i + i + j + j + k ≤ 20000 := by first | omega | decide) : Sp Tryz.prog 97 [] [rV a, rV b, rV r] (nV (signF a b r)) [] := by
 have S1 := rSgn a
 have S2 := rSgn b
 have S3 := rSgn r
 have A := rMul a a fz fz
 have B := rMul b b fz fz
 have C := rMul (b * b) r fz fz
 have D := rCmp (a * a) (b * b * r) fz fz
 have b1 := sgQ_in a
 have b2 := mul_in1 (sgQ_in b) (sgQ_in r)
 obtain ⟨n, hn⟩ : ∃ n, n = sgQ b * sgQ r := ⟨_, rfl⟩
 have w1 : IntKind.i64.wrap (sgQ b * sgQ r) = n := by rw [hn]; exact w64 (by omega) (by omega)
 unfold signF
 rw [← hn]
 rw [← hn] at b2
 clear hn
 have hf := sgQ_cases (a * a - b * b * r)
 generalize a * a - b * b * r = f at *
 generalize b * b * r = g at *
 generalize b * b = h at *
 generalize a * a = i at *
 generalize sgQ a = m at *
 generalize sgQ b = u1 at *
 generalize sgQ r = u2 at *
 by_cases h2 : m = n
 ·rw [if_pos (.inr h2)]
  have e2 : decide (m = n) = true := decide_eq_true h2
  clear h2 hf b1 b2
  exact walk (code := Tryz.f97.body.getD .skip) [c S1, c S2, c S3, Go.Sy.e (congrArg (Value.int IntKind.i64) w1), eb e2] fol Tryz.func97 (by kernel_rfl) (fun xs w => Tryz.call97 xs w) (by kernel_rfl)
 have e2 : decide (m = n) = false := decide_eq_false h2
 by_cases h1 : n = 0
 ·rw [if_pos (.inl h1)]
  have e1 : decide (n = 0) = true := decide_eq_true h1
  clear h1 h2 hf b1 b2
  exact walk (code := Tryz.f97.body.getD .skip) [c S1, c S2, c S3, Go.Sy.e (congrArg (Value.int IntKind.i64) w1), eb e2, eb e1] fol Tryz.func97 (by kernel_rfl) (fun xs w => Tryz.call97 xs w) (by kernel_rfl)
 have e1 : decide (n = 0) = false := decide_eq_false h1
 rw [if_neg (by rintro (h | h) <;> contradiction)]
 by_cases h3 : m = 0
 ·rw [if_pos h3]
  have e3 : decide (m = 0) = true := decide_eq_true h3
  clear h1 h2 h3 hf b1 b2
  exact walk (code := Tryz.f97.body.getD .skip) [c S1, c S2, c S3, Go.Sy.e (congrArg (Value.int IntKind.i64) w1), eb e2, eb e1, eb e3] fol Tryz.func97 (by kernel_rfl) (fun xs w => Tryz.call97 xs w) (by kernel_rfl)
 rw [if_neg h3]
 have e3 : decide (m = 0) = false := decide_eq_false h3
 rcases hf with ⟨hf, _⟩ | ⟨hf, _⟩ | ⟨hf, _⟩
 ·rw [hf] at D ⊢
  rw [show m * -1 = n by omega]
  clear h1 h2 h3 hf b1 b2
  exact walk (code := Tryz.f97.body.getD .skip) [c S1, c S2, c S3, Go.Sy.e (congrArg (Value.int IntKind.i64) w1), eb e2, eb e1, eb e3, c A, c B, c C, c D] fol Tryz.func97 (by kernel_rfl) (fun xs w => Tryz.call97 xs w) (by kernel_rfl)
 ·rw [hf] at D ⊢
  rw [Int.mul_zero]
  clear h1 h2 h3 hf b1 b2
  exact walk (code := Tryz.f97.body.getD .skip) [c S1, c S2, c S3, Go.Sy.e (congrArg (Value.int IntKind.i64) w1), eb e2, eb e1, eb e3, c A, c B, c C, c D] fol Tryz.func97 (by kernel_rfl) (fun xs w => Tryz.call97 xs w) (by kernel_rfl)
 ·rw [hf] at D ⊢
  rw [Int.mul_one]
  clear h1 h2 h3 hf b1 b2
  exact walk (code := Tryz.f97.body.getD .skip) [c S1, c S2, c S3, Go.Sy.e (congrArg (Value.int IntKind.i64) w1), eb e2, eb e1, eb e3, c A, c B, c C, c D] fol Tryz.func97 (by kernel_rfl) (fun xs w => Tryz.call97 xs w) (by kernel_rfl)
theorem si_in (x : Rl) : -1 ≤ x.si ∧ x.si ≤ 1 := by unfold Rl.si; split <;> omega
theorem gSign (x : Rl) {i j : Nat} [HasSz x.p i] [HasSz x.r j] (hr : 0 ≤ x.r) (hs : i + j ≤ 5000 := by first | omega | decide) : Sp Tryz.prog 52 [] [rlV x] (nV (sgR x.val)) [] := by
 have e := signF_eq x.p x.s x.r hr
 have e2 : sgR x.val = signF x.p x.s x.r := by rw [e]; rfl
 rw [e2]
 have b := si_in x
 have A := gSide x
 have W := gWhole x.si (by omega) (by omega)
 rw [Rl.si_rat] at W
 have S := gSigns x.p x.s x.r
 clear e e2 b
 generalize signF x.p x.s x.r = v at *
 generalize x.si = z at *
 generalize x.s = s at *
 obtain ⟨p, r, neg⟩ := x
 dsimp only at *
 exact walk (code := Tryz.f52.body.getD .skip) [c A, c W, c S] fol Tryz.func52 (by kernel_rfl) (fun xs w => Tryz.call52 xs w) (by kernel_rfl)
theorem gRoots (s : Int) (a : Rat) (t : Int) (b : Rat) (h1 : -1 ≤ s ∧ s ≤ 1) (h2 : -1 ≤ t ∧ t ≤ 1) {i j : Nat} [HasSz a i] [HasSz b j] (hs : i + j ≤ 5000 := by first | omega | decide) : Sp Tryz.prog 96 [] [nV s, rV a, nV t, rV b] (nV (Rl.rootsF s a t b)) [] := by
 have S1 := rSgn a
 have S2 := rSgn b
 have D := rCmp a b fz fz
 have b1 := mul_in1 h1 (sgQ_in a)
 have b2 := mul_in1 h2 (sgQ_in b)
 have b3 := mul_in1 b1 (sgQ_in (a - b))
 unfold Rl.rootsF
 obtain ⟨x, hx⟩ : ∃ x, x = s * sgQ a := ⟨_, rfl⟩
 obtain ⟨y, hy⟩ : ∃ y, y = t * sgQ b := ⟨_, rfl⟩
 have w1 : IntKind.i64.wrap (s * sgQ a) = x := by rw [hx]; exact w64 (by omega) (by omega)
 have w2 : IntKind.i64.wrap (t * sgQ b) = y := by rw [hy]; exact w64 (by omega) (by omega)
 obtain ⟨z, hz⟩ : ∃ z, z = x * sgQ (a - b) := ⟨_, rfl⟩
 have w3 : IntKind.i64.wrap (x * sgQ (a - b)) = z := by rw [hz, hx]; exact w64 (by omega) (by omega)
 rw [← hx, ← hy, ← hz]
 clear hx hy hz b1 b2 b3 h1 h2
 generalize sgQ (a - b) = d at *
 generalize sgQ a = u1 at *
 generalize sgQ b = u2 at *
 by_cases h1 : x = y
 ·rw [if_neg (by simp [h1])]
  have e : (x != y) = false := by simp [h1]
  clear h1
  exact walk (code := Tryz.f96.body.getD .skip) [c S1, Go.Sy.e (congrArg (Value.int IntKind.i64) w1), c S2, Go.Sy.e (congrArg (Value.int IntKind.i64) w2), eb e, c D, Go.Sy.e (congrArg (Value.int IntKind.i64) w3)] fol Tryz.func96 (by kernel_rfl) (fun xs w => Tryz.call96 xs w) (by kernel_rfl)
 ·rw [if_pos h1]
  have e : (x != y) = true := by simp [h1]
  by_cases h2 : x > y
  ·rw [if_pos h2]
   have e2 : decide (x > y) = true := decide_eq_true h2
   clear h1 h2
   exact walk (code := Tryz.f96.body.getD .skip) [c S1, Go.Sy.e (congrArg (Value.int IntKind.i64) w1), c S2, Go.Sy.e (congrArg (Value.int IntKind.i64) w2), eb e, eb e2] fol Tryz.func96 (by kernel_rfl) (fun xs w => Tryz.call96 xs w) (by kernel_rfl)
  ·rw [if_neg h2]
   have e2 : decide (x > y) = false := decide_eq_false h2
   clear h1 h2
   exact walk (code := Tryz.f96.body.getD .skip) [c S1, Go.Sy.e (congrArg (Value.int IntKind.i64) w1), c S2, Go.Sy.e (congrArg (Value.int IntKind.i64) w2), eb e, eb e2] fol Tryz.func96 (by kernel_rfl) (fun xs w => Tryz.call96 xs w) (by kernel_rfl)
theorem gCompare (x y : Rl) {i j k l : Nat} [HasSz x.p i] [HasSz x.r j] [HasSz y.p k] [HasSz y.r l] (hx : 0 ≤ x.r) (hy : 0 ≤ y.r) (hs : i + j + k + l ≤ 1000 := by first | omega | decide) : Sp Tryz.prog 38 [] [rlV x, rlV y] (nV (Rl.cmp x y)) [] := by
 rw [← Rl.cmpF3_eq x y hx hy]
 have sx := si_in x
 have sy := si_in y
 have D := rSub x.p y.p fz fz
 have S := rSgn (x.p - y.p)
 have A1 := gSide x
 have A2 := gSide y
 have R := gRoots x.si x.r y.si y.r sx sy
 have M := rMul (x.p - y.p) (x.p - y.p) fz fz
 have A := rAdd x.r y.r fz fz
 have U := rSub ((x.p - y.p) * (x.p - y.p)) (x.r + y.r) fz fz
 have N := rMul x.r y.r fz fz
 have b := mul_in1 sx sy
 have c2 : 2 * x.si * y.si = 2 * (x.si * y.si) := Int.mul_assoc _ _ _
 have W := gWhole (2 * x.si * y.si) (by omega) (by omega)
 haveI z1 : HasSz ((2 * x.si * y.si : Int) : Rat) 1 := int1_hs (by omega)
 have G := gSigns ((x.p - y.p) * (x.p - y.p) - (x.r + y.r)) ((2 * x.si * y.si : Int) : Rat) (x.r * y.r)
 obtain ⟨u, hu⟩ : ∃ u, u = 2 * x.si := ⟨_, rfl⟩
 obtain ⟨v, hv⟩ : ∃ v, v = 2 * x.si * y.si := ⟨_, rfl⟩
 have w1 : IntKind.i64.wrap (2 * x.si) = u := by rw [hu]; exact w64 (by omega) (by omega)
 have w2 : IntKind.i64.wrap (u * y.si) = v := by rw [hu, hv]; exact w64 (by omega) (by omega)
 unfold Rl.cmpF3
 rw [← hv]
 rw [← hv] at W G
 clear z1 hu hv b sx sy c2 hx hy
 generalize signF ((x.p - y.p) * (x.p - y.p) - (x.r + y.r)) ((v : Int) : Rat) (x.r * y.r) = f at *
 generalize Rl.rootsF x.si x.r y.si y.r = b at *
 generalize sgQ (x.p - y.p) = a at *
 generalize (x.p - y.p) * (x.p - y.p) - (x.r + y.r) = t1 at *
 generalize (x.p - y.p) * (x.p - y.p) = t2 at *
 generalize x.p - y.p = t3 at *
 generalize x.r + y.r = t4 at *
 generalize x.r * y.r = t5 at *
 generalize ((v : Int) : Rat) = t6 at *
 generalize x.si = x1 at *
 generalize y.si = y1 at *
 obtain ⟨xp, xr, xn⟩ := x
 obtain ⟨yp, yr, yn⟩ := y
 dsimp only at *
 by_cases h1 : a = b
 ·rw [if_pos (.inl h1)]
  have e1 : decide (a = b) = true := decide_eq_true h1
  clear h1
  exact walk (code := Tryz.f38.body.getD .skip) [c D, c S, c A1, c A2, c R, eb e1] fol Tryz.func38 (by kernel_rfl) (fun xs w => Tryz.call38 xs w) (by kernel_rfl)
 have e1 : decide (a = b) = false := decide_eq_false h1
 by_cases h2 : b = 0
 ·rw [if_pos (.inr h2)]
  have e2 : decide (b = 0) = true := decide_eq_true h2
  clear h1 h2
  exact walk (code := Tryz.f38.body.getD .skip) [c D, c S, c A1, c A2, c R, eb e1, eb e2] fol Tryz.func38 (by kernel_rfl) (fun xs w => Tryz.call38 xs w) (by kernel_rfl)
 have e2 : decide (b = 0) = false := decide_eq_false h2
 rw [if_neg (by rintro (h | h) <;> contradiction)]
 by_cases h3 : a = 0
 ·rw [if_pos h3]
  have e3 : decide (a = 0) = true := decide_eq_true h3
  clear h1 h2 h3
  exact walk (code := Tryz.f38.body.getD .skip) [c D, c S, c A1, c A2, c R, eb e1, eb e2, eb e3] fol Tryz.func38 (by kernel_rfl) (fun xs w => Tryz.call38 xs w) (by kernel_rfl)
 have e3 : decide (a = 0) = false := decide_eq_false h3
 rw [if_neg h3]
 by_cases h4 : f > 0
 ·rw [if_pos h4]
  have e4 : decide (f > 0) = true := decide_eq_true h4
  clear h1 h2 h3 h4
  exact walk (code := Tryz.f38.body.getD .skip) [c D, c S, c A1, c A2, c R, eb e1, eb e2, eb e3, c M, c A, c U, c A1, Go.Sy.e (congrArg (Value.int IntKind.i64) w1), c A2, Go.Sy.e (congrArg (Value.int IntKind.i64) w2), c W, c N, c G, eb e4] fol Tryz.func38 (by kernel_rfl) (fun xs w => Tryz.call38 xs w) (by kernel_rfl)
 have e4 : decide (f > 0) = false := decide_eq_false h4
 rw [if_neg h4]
 by_cases h5 : f < 0
 ·rw [if_pos h5]
  have e5 : decide (f < 0) = true := decide_eq_true h5
  clear h1 h2 h3 h4 h5
  exact walk (code := Tryz.f38.body.getD .skip) [c D, c S, c A1, c A2, c R, eb e1, eb e2, eb e3, c M, c A, c U, c A1, Go.Sy.e (congrArg (Value.int IntKind.i64) w1), c A2, Go.Sy.e (congrArg (Value.int IntKind.i64) w2), c W, c N, c G, eb e4, eb e5] fol Tryz.func38 (by kernel_rfl) (fun xs w => Tryz.call38 xs w) (by kernel_rfl)
 have e5 : decide (f < 0) = false := decide_eq_false h5
 rw [if_neg h5]
 clear h1 h2 h3 h4 h5
 exact walk (code := Tryz.f38.body.getD .skip) [c D, c S, c A1, c A2, c R, eb e1, eb e2, eb e3, c M, c A, c U, c A1, Go.Sy.e (congrArg (Value.int IntKind.i64) w1), c A2, Go.Sy.e (congrArg (Value.int IntKind.i64) w2), c W, c N, c G, eb e4, eb e5] fol Tryz.func38 (by kernel_rfl) (fun xs w => Tryz.call38 xs w) (by kernel_rfl)
theorem gScale (x : Rl) (q : Rat) {i j k : Nat} [HasSz x.p i] [HasSz x.r j] [HasSz q k] (hx : x.Ok) (hs : i + j + k ≤ 1000 := by first | omega | decide) : Sp Tryz.prog 34 [] [rlV x, rV q] (rlV (x.scR q)) [] := by
 rw [← scale_mk hx q]
 have b := si_in x
 have A := gSide x
 have W := gWhole x.si (by omega) (by omega)
 rw [Rl.si_rat] at W
 have M := rMul x.p q fz fz
 have N := rMul q x.s fz fz
 have K := gMake (x.p * q) (q * x.s) x.r
 clear b hx
 generalize mkR (x.p * q) (q * x.s) x.r = y at *
 generalize x.p * q = t1 at *
 generalize q * x.s = t2 at *
 generalize x.si = z at *
 generalize x.s = s at *
 obtain ⟨p, r, neg⟩ := x
 dsimp only at *
 exact walk (code := Tryz.f34.body.getD .skip) [c M, c A, c W, c N, c K] fol Tryz.func34 (by kernel_rfl) (fun xs w => Tryz.call34 xs w) (by kernel_rfl)
theorem gNeg (x : Rl) {i j : Nat} [HasSz x.p i] [HasSz x.r j] (hx : x.Ok) (hs : i + j ≤ 900 := by first | omega | decide) : Sp Tryz.prog 32 [] [rlV x] (rlV x.ngR) [] := by
 have e : x.scR (-1) = x.ngR := by rw [← scale_mk hx, neg_mk hx]
 have W := gWhole (-1) (by omega) (by omega)
 rw [show ((-1 : Int) : Rat) = -1 from rfl] at W
 have K := gScale x (-1) hx
 rw [e] at K
 clear e hx
 generalize x.ngR = y at *
 generalize (-1 : Rat) = z at *
 exact walk (code := Tryz.f32.body.getD .skip) [c W, c K] fol Tryz.func32 (by kernel_rfl) (fun xs w => Tryz.call32 xs w) (by kernel_rfl)
theorem gShift (x : Rl) (q : Rat) {i j k : Nat} [HasSz x.p i] [HasSz x.r j] [HasSz q k] (hx : x.Ok) (hs : i + j + k ≤ 1000 := by first | omega | decide) : Sp Tryz.prog 33 [] [rlV x, rV q] (rlV ⟨x.p + q, x.r, x.neg⟩) [] := by
 rw [← shift_mk hx q]
 have b := si_in x
 have A := gSide x
 have W := gWhole x.si (by omega) (by omega)
 rw [Rl.si_rat] at W
 have M := rAdd x.p q fz fz
 have K := gMake (x.p + q) x.s x.r
 clear b hx
 generalize mkR (x.p + q) x.s x.r = y at *
 generalize x.p + q = t1 at *
 generalize x.si = z at *
 generalize x.s = s at *
 obtain ⟨p, r, neg⟩ := x
 dsimp only at *
 exact walk (code := Tryz.f33.body.getD .skip) [c M, c A, c W, c K] fol Tryz.func33 (by kernel_rfl) (fun xs w => Tryz.call33 xs w) (by kernel_rfl)
theorem gInverse (x : Rl) {i j : Nat} [HasSz x.p i] [HasSz x.r j] (hx : x.Ok) (h0 : x ≠ Rl.rat 0) (hs : i + j ≤ 300 := by first | omega | decide) : Sp Tryz.prog 37 [] [rlV x] (rlV x.inv) [] := by
 rw [← inv_mk hx h0]
 have hn : x.nm ≠ 0 := nm_ne0 hx h0
 have b := si_in x
 have A := gSide x
 have W := gWhole (-x.si) (by omega) (by omega)
 have ew : (((-x.si : Int)) : Rat) = -x.s := by rw [Rat.intCast_neg, Rl.si_rat]
 rw [ew] at W
 have w1 : IntKind.i64.wrap (0 - x.si) = -x.si := by rw [w64 (by omega) (by omega)]; omega
 have M := rMul x.p x.p fz fz
 have S := rSub (x.p * x.p) x.r fz fz
 haveI z0 : HasSz x.nm (i + i + j + 1) := (inferInstance : HasSz (x.p * x.p - x.r) _)
 have D1 := rDiv x.p x.nm hn fz fz
 have D2 := rDiv (-x.s) x.nm hn fz fz
 haveI z1 := hs_div x.p x.nm _ _ hn
 haveI z2 := hs_div (-x.s) x.nm _ _ hn
 have K := gMake (x.p / x.nm) (-x.s / x.nm) x.r
 rw [show x.p * x.p - x.r = x.nm from rfl] at S
 clear b hx h0 hn z0 z1 z2 ew
 generalize mkR (x.p / x.nm) (-x.s / x.nm) x.r = y at *
 generalize x.p / x.nm = t1 at *
 generalize -x.s / x.nm = t2 at *
 generalize x.nm = t3 at *
 generalize x.p * x.p = t4 at *
 generalize -x.s = t5 at *
 generalize -x.si = t6 at *
 generalize x.si = z at *
 obtain ⟨p, r, neg⟩ := x
 dsimp only at *
 exact walk (code := Tryz.f37.body.getD .skip) [c M, c S, c D1, c A, Go.Sy.e (congrArg (Value.int IntKind.i64) w1), c W, c D2, c K] fol Tryz.func37 (by kernel_rfl) (fun xs w => Tryz.call37 xs w) (by kernel_rfl)
end Go.Proofs.YthdaimoankaciaaGreatDoor
set_option linter.unusedSimpArgs false
set_option linter.unusedVariables false
namespace Go.Proofs.YthdaimoankaciaaGreatDoor
open Go Go.RowKit Go.Sy
open Vi
theorem rlAnd (x y : Rl) : (decide (x.p = y.p) && (decide (x.r = y.r) && ((x.neg == y.neg) && true))) = (open Classical in decide (x = y)) := by
 obtain ⟨a, b, c⟩ := x
 obtain ⟨d, e, f⟩ := y
 rw [Bool.eq_iff_iff]
 simp
theorem eqL_run (d : Nat) (x y : Rl) (w : World) : (Op.equalIn (d + 4) 27 (rlV x) (rlV y)).run Tryz.prog w = .ok (open Classical in decide (x = y)) w := by
 rw [← rlAnd]
 exact eqStruct (l := [(25, 0), (25, 4), (4, 8)]) (by kernel_rfl) (by kernel_rfl) (by kernel_rfl)
  (.cons (a := rV x.p) (b := rV y.p) (by kernel_rfl) (by kernel_rfl) (eqR_run d x.p y.p) (.cons (a := rV x.r) (b := rV y.r) (by kernel_rfl) (by kernel_rfl) (eqR_run d x.r y.r)
   (.cons (a := .bool x.neg) (b := .bool y.neg) (by kernel_rfl) (by kernel_rfl) (fun w => run_equalIn_bool w (d + 2) 4 x.neg y.neg (by kernel_rfl)) .nil))) w
theorem binL (x y : Rl) {q : Bool} (e : (open Classical in decide (x = y)) = q) : Bin .eql 27 (rlV x) (rlV y) (.bool q) := by
 have h := binS (T := 27) (fun w => eqL_run 9996 x y w) (by kernel_rfl)
 rw [e] at h
 exact h
theorem binL' (x y : Rl) {q : Bool} (e : (!(open Classical in decide (x = y))) = q) : Bin .neq 27 (rlV x) (rlV y) (.bool q) := by
 have h := binS' (T := 27) (fun w => eqL_run 9996 x y w) (by kernel_rfl)
 rw [e] at h
 exact h
theorem sameL (x : Rl) : Bin .eql 27 (rlV x) (rlV x) (.bool true) := binL x x (by simp)
theorem sameL' (x : Rl) : Bin .neq 27 (rlV x) (rlV x) (.bool false) := binL' x x (by simp)
theorem diffL {x y : Rl} (h : x ≠ y) : Bin .eql 27 (rlV x) (rlV y) (.bool false) := binL x y (by simp [h])
theorem diffL' {x y : Rl} (h : x ≠ y) : Bin .neq 27 (rlV x) (rlV y) (.bool true) := binL' x y (by simp [h])
def lZ : Value := .agg #[.bool false, .string ⟨#[]⟩, .bool false, .string ⟨#[]⟩, .bool false, .string ⟨#[]⟩, .bool false, .string ⟨#[]⟩, .bool false]
theorem rlV0 : rlV (Rl.rat 0) = lZ := by
 unfold Rl.rat
 rw [rlV_rat, show (0 : Rat).num = 0 from rfl, show dn 0 = 0 from rfl, sg0, mg0]; rfl
theorem diffL0 {x : Rl} (h : x ≠ Rl.rat 0) : Bin .eql 27 (rlV x) lZ (.bool false) := by rw [← rlV0]; exact diffL h
theorem diffL0' {x : Rl} (h : x ≠ Rl.rat 0) : Bin .neq 27 (rlV x) lZ (.bool true) := by rw [← rlV0]; exact diffL' h
theorem sameLZ : Bin .eql 27 lZ lZ (.bool true) := by rw [← rlV0]; exact sameL _
theorem sameLZ' : Bin .neq 27 lZ lZ (.bool false) := by rw [← rlV0]; exact sameL' _
def qV (a b c : Rat) : Value := .agg #[.bool (sg a.num), .string (mg a.num), .bool (sg (dn a)), .string (mg (dn a)), .bool (sg b.num), .string (mg b.num), .bool (sg (dn b)), .string (mg (dn b)), .bool (sg c.num), .string (mg c.num), .bool (sg (dn c)), .string (mg (dn c))]
def qZ : Value := .agg #[.bool false, .string ⟨#[]⟩, .bool false, .string ⟨#[]⟩, .bool false, .string ⟨#[]⟩, .bool false, .string ⟨#[]⟩, .bool false, .string ⟨#[]⟩, .bool false, .string ⟨#[]⟩]
theorem qV0 : qV 0 0 0 = qZ := by
 unfold qV qZ
 rw [show (0 : Rat).num = 0 from rfl, show dn 0 = 0 from rfl, sg0, mg0]
theorem eqQ_run (d : Nat) (a b c x y z : Rat) (w : World) : (Op.equalIn (d + 4) 35 (qV a b c) (qV x y z)).run Tryz.prog w = .ok (decide (a = x) && (decide (b = y) && (decide (c = z) && true))) w :=
 eqStruct (l := [(25, 0), (25, 4), (25, 8)]) (by kernel_rfl) (by kernel_rfl) (by kernel_rfl)
  (.cons (a := rV a) (b := rV x) (by kernel_rfl) (by kernel_rfl) (eqR_run d a x) (.cons (a := rV b) (b := rV y) (by kernel_rfl) (by kernel_rfl) (eqR_run d b y)
   (.cons (a := rV c) (b := rV z) (by kernel_rfl) (by kernel_rfl) (eqR_run d c z) .nil))) w
theorem binQ (a b c x y z : Rat) {q : Bool} (e : (decide (a = x) && (decide (b = y) && (decide (c = z) && true))) = q) : Bin .eql 35 (qV a b c) (qV x y z) (.bool q) := by
 have h := binS (T := 35) (fun w => eqQ_run 9996 a b c x y z w) (by kernel_rfl)
 rw [e] at h
 exact h
theorem binQ' (a b c x y z : Rat) {q : Bool} (e : (!(decide (a = x) && (decide (b = y) && (decide (c = z) && true)))) = q) : Bin .neq 35 (qV a b c) (qV x y z) (.bool q) := by
 have h := binS' (T := 35) (fun w => eqQ_run 9996 a b c x y z w) (by kernel_rfl)
 rw [e] at h
 exact h
theorem sameQ' (a b c : Rat) : Bin .neq 35 (qV a b c) (qV a b c) (.bool false) := binQ' a b c a b c (by simp)
theorem binQ0 (a b c : Rat) {q : Bool} (e : (decide (a = 0) && (decide (b = 0) && (decide (c = 0) && true))) = q) : Bin .eql 35 (qV a b c) qZ (.bool q) := by rw [← qV0]; exact binQ a b c 0 0 0 e
theorem qFromInt (n : Int) (h1 : -9223372036854775808 ≤ n) (h2 : n ≤ 9223372036854775807) : Sp Tryz.prog 65 [] [nV n] (rlV (Rl.rat (n : Rat))) [] := by
 have I := pFromInt n h1 h2
 unfold Rl.rat
 rw [rlV_rat]
 generalize (n : Rat) = q at *
 exact walk (code := Tryz.f65.body.getD .skip) [c I] fol Tryz.func65 (by kernel_rfl) (fun xs w => Tryz.call65 xs w) (by kernel_rfl)
theorem qSgnR (x : Rl) {i j : Nat} [hi : HasSz x.p i] [hj : HasSz x.r j] (hr : 0 ≤ x.r) (hs : i + j ≤ 5000 := by first | omega | decide) : Sp Tryz.prog 51 [] [rlV x] (nV (sgR x.val)) [] := by
 have e := signF_eq x.p x.s x.r hr
 have e2 : sgR x.val = signF x.p x.s x.r := by rw [e]; rfl
 rw [e2]
 have F := qFactor x
 haveI i1 : HasSz x.p (i + j + 1) := hs_mono hi (by omega)
 haveI i2 : HasSz x.r (i + j + 1) := hs_mono hj (by omega)
 haveI i3 : HasSz x.s (i + j + 1) := hs_mono (inferInstance : HasSz x.s 1) (by omega)
 have S := qSign x.p x.s x.r (i + j + 1) (by omega)
 clear e e2 i1 i2 i3
 generalize signF x.p x.s x.r = v at *
 generalize x.s = s at *
 obtain ⟨p, r, neg⟩ := x
 dsimp only at *
 exact walk (code := Tryz.f51.body.getD .skip) [c F, c S] fol Tryz.func51 (by kernel_rfl) (fun xs w => Tryz.call51 xs w) (by kernel_rfl)
theorem sgQ_neg {q : Rat} (h : q < 0) : sgQ q = -1 := by unfold sgQ; rw [if_pos h]
theorem qMakeNo (p q r : Rat) (hr : r < 0) : Sp Tryz.prog 59 [] [rV p, rV q, rV r] (.tuple #[lZ, nV 2]) [] := by
 have S := pSgn r
 rw [sgQ_neg hr] at S
 clear hr
 exact walk (code := Tryz.f59.body.getD .skip) [c S] fol Tryz.func59 (by kernel_rfl) (fun xs w => Tryz.call59 xs w) (by kernel_rfl)
theorem sgQ_ge (q : Rat) (h : 0 ≤ q) : decide (sgQ q < 0) = false := by
 rw [sgQ_lt0]; exact decide_eq_false (by grind)
theorem qMake (p q r : Rat) {i j k : Nat} [HasSz p i] [HasSz q j] [HasSz r k] (hr : 0 ≤ r) (hs : i + j + j + k ≤ 20000 := by first | omega | decide) : Sp Tryz.prog 59 [] [rV p, rV q, rV r] (.tuple #[rlV (mkR p q r), nV 0]) [] := by
 have S0 := pSgn r
 have e0 := sgQ_ge r hr
 rcases pRoot r fz with ⟨w, h0, hw, R⟩ | ⟨h, R⟩
 ·rw [mkR_sq p q r w h0 hw]
  subst hw
  haveI : HasSz w k := sz_root
  have A := pMul q w fz fz
  have B := pAdd p (q * w) fz fz
  rw [rlV_rat]
  clear h0 hr
  generalize p + q * w = s at *
  generalize q * w = t at *
  generalize w * w = u at *
  generalize sgQ u = z at *
  exact walk (code := Tryz.f59.body.getD .skip) [c S0, eb e0, c R, c A, c B] fol Tryz.func59 (by kernel_rfl) (fun xs w => Tryz.call59 xs w) (by kernel_rfl)
 ·rw [mkR_irr p q r h]
  have A := pMul q q fz fz
  have C := pMul (q * q) r fz fz
  have S := pSgn q
  have e := sgQ_lt0 q
  unfold rlV
  dsimp only
  clear h hr
  generalize q * q * r = s at *
  generalize q * q = t at *
  generalize sgQ q = z at *
  generalize sgQ r = z0 at *
  generalize decide (q < 0) = d at *
  exact walk (code := Tryz.f59.body.getD .skip) [c S0, eb e0, c R, c A, c C, c S, eb e] fol Tryz.func59 (by kernel_rfl) (fun xs w => Tryz.call59 xs w) (by kernel_rfl)
theorem qQuot (a b : Rat) (h0 : b ≠ 0) (ha : Fits a) (hb : Fits b) : Sp Tryz.prog 82 [] [rV a, rV b] (rV (a / b)) [] := by
 have D := pDiv a b h0 ha hb
 generalize a / b = c at *
 exact walk (code := Tryz.f82.body.getD .skip) [Sy.c D] fol Tryz.func82 (by kernel_rfl) (fun xs w => Tryz.call82 xs w) (by kernel_rfl)
theorem qMin (x y : Rl) (k : Nat) (hk : k ≤ 3000) (hk1 : 1 ≤ k) [HasSz x.p k] [HasSz x.r k] [HasSz y.p k] [HasSz y.r k] (hx : 0 ≤ x.r) (hy : 0 ≤ y.r) : Sp Tryz.prog 53 [] [rlV x, rlV y] (rlV (if Rl.cmp y x < 0 then y else x)) [] := by
 have C := qCompare y x k hk hk1 hy hx
 generalize Rl.cmp y x = z at *
 by_cases h : z < 0
 ·rw [if_pos h]
  have e : decide (z < 0) = true := decide_eq_true h
  clear h
  exact walk (code := Tryz.f53.body.getD .skip) [c C, eb e] fol Tryz.func53 (by kernel_rfl) (fun xs w => Tryz.call53 xs w) (by kernel_rfl)
 ·rw [if_neg h]
  have e : decide (z < 0) = false := decide_eq_false h
  clear h
  exact walk (code := Tryz.f53.body.getD .skip) [c C, eb e] fol Tryz.func53 (by kernel_rfl) (fun xs w => Tryz.call53 xs w) (by kernel_rfl)
theorem qMax (x y : Rl) (k : Nat) (hk : k ≤ 3000) (hk1 : 1 ≤ k) [HasSz x.p k] [HasSz x.r k] [HasSz y.p k] [HasSz y.r k] (hx : 0 ≤ x.r) (hy : 0 ≤ y.r) : Sp Tryz.prog 54 [] [rlV x, rlV y] (rlV (if Rl.cmp y x > 0 then y else x)) [] := by
 have C := qCompare y x k hk hk1 hy hx
 generalize Rl.cmp y x = z at *
 by_cases h : z > 0
 ·rw [if_pos h]
  have e : decide (z > 0) = true := decide_eq_true h
  clear h
  exact walk (code := Tryz.f54.body.getD .skip) [c C, eb e] fol Tryz.func54 (by kernel_rfl) (fun xs w => Tryz.call54 xs w) (by kernel_rfl)
 ·rw [if_neg h]
  have e : decide (z > 0) = false := decide_eq_false h
  clear h
  exact walk (code := Tryz.f54.body.getD .skip) [c C, eb e] fol Tryz.func54 (by kernel_rfl) (fun xs w => Tryz.call54 xs w) (by kernel_rfl)
theorem sgR_ne {v : RR} (h : v ≠ 0) : decide (sgR v = 0) = false := decide_eq_false fun e => h (RR.sg_iff0.1 e)
theorem qInverse0 : Sp Tryz.prog 36 [] [lZ] (.tuple #[lZ, nV 6]) [] := by
 rw [← rlV0]
 haveI : HasSz (Rl.rat 0).p 1 := (inferInstance : HasSz (0 : Rat) 1)
 haveI : HasSz (Rl.rat 0).r 1 := (inferInstance : HasSz (0 : Rat) 1)
 have S := qSgnR (Rl.rat 0) Rat.le_refl
 rw [RR.sg_zero (by rw [Rl.rat_val]; rfl)] at S
 rw [rlV0] at *
 exact walk (code := Tryz.f36.body.getD .skip) [c S] fol Tryz.func36 (by kernel_rfl) (fun xs w => Tryz.call36 xs w) (by kernel_rfl)
theorem qInverse (x : Rl) {i j : Nat} [HasSz x.p i] [HasSz x.r j] (hx : x.Ok) (h0 : x ≠ Rl.rat 0) (hs : i + j ≤ 300 := by first | omega | decide) : Sp Tryz.prog 36 [] [rlV x] (.tuple #[rlV x.inv, nV 0]) [] := by
 have S := qSgnR x hx.nonneg
 have e0 := sgR_ne (val_ne0 hx h0)
 have I := pI 1 (by omega) (by omega)
 rw [show ((1 : Int) : Rat) = 1 from rfl] at I
 unfold Rl.inv
 by_cases h : x.r = 0
 ·rw [if_pos h]
  have hp : x.p ≠ 0 := fun e => val_ne0 hx h0 (by rw [val_rat0 h, e]; rfl)
  have Q := qQuot 1 x.p hp fz fz
  have F := qFromRat (1 / x.p)
  have B := binR0 x.r (b := true) (by simp [h])
  clear h h0 hp hx
  generalize Rl.rat (1 / x.p) = y at *
  generalize 1 / x.p = t at *
  generalize (1 : Rat) = one at *
  generalize sgR x.val = z at *
  obtain ⟨p, r, neg⟩ := x
  dsimp only at *
  exact walk (code := Tryz.f36.body.getD .skip) [c S, eb e0, x2 B, c I, c Q, c F] fol Tryz.func36 (by kernel_rfl) (fun xs w => Tryz.call36 xs w) (by kernel_rfl)
 ·rw [if_neg h]
  have hn := nm_ne hx h
  have B := binR0 x.r (b := false) (by simp [h])
  have M := pMul x.p x.p fz fz
  have U := pSub (x.p * x.p) x.r fz fz
  haveI z0 : HasSz x.nm (i + i + j + 1) := (inferInstance : HasSz (x.p * x.p - x.r) _)
  have Q := qQuot 1 x.nm hn fz fz
  haveI z1 : HasSz (1 / x.nm) (3 * (i + j) + 3) := hs_mono (hs_div 1 x.nm _ _ hn) (by omega)
  haveI z2 : HasSz x.cj.p (3 * (i + j) + 3) := hs_mono ‹HasSz x.p i› (by omega)
  haveI z3 : HasSz x.cj.r (3 * (i + j) + 3) := hs_mono ‹HasSz x.r j› (by omega)
  have C := qScale x.cj (1 / x.nm) (3 * (i + j) + 3) (by omega)
  rw [show x.p * x.p - x.r = x.nm from rfl] at U
  unfold Rl.cj at *
  clear h h0 hn hx z0 z1 z2 z3
  generalize 1 / x.nm = t at *
  generalize Rl.scR _ t = y at *
  generalize x.nm = n at *
  generalize x.p * x.p = t2 at *
  generalize (1 : Rat) = one at *
  generalize sgR x.val = z at *
  obtain ⟨p, r, neg⟩ := x
  dsimp only at *
  exact walk (code := Tryz.f36.body.getD .skip) [c S, eb e0, x2 B, c M, c U, c I, c Q, c C] fol Tryz.func36 (by kernel_rfl) (fun xs w => Tryz.call36 xs w) (by kernel_rfl)
theorem qMinimal (x : Rl) {i j : Nat} [HasSz x.p i] [HasSz x.r j] (hs : i + j ≤ 300 := by first | omega | decide) : Sp Tryz.prog 55 [] [rlV x] (if x.r = 0 then qV (-x.p) 1 0 else qV (x.p * x.p - x.r) (-2 * x.p) 1) [] := by
 have I := pI 1 (by omega) (by omega)
 rw [show ((1 : Int) : Rat) = 1 from rfl] at I
 have R := qRational x
 by_cases h : x.r = 0
 ·rw [if_pos h]
  rw [if_pos h, decide_eq_true h] at R
  have N := pNeg x.p
  have e : qV (-x.p) 1 0 = .agg #[.bool (sg (-x.p).num), .string (mg (-x.p).num), .bool (sg (dn (-x.p))), .string (mg (dn (-x.p))), .bool (sg (1 : Rat).num), .string (mg (1 : Rat).num), .bool (sg (dn 1)), .string (mg (dn 1)), .bool false, .string ⟨#[]⟩, .bool false, .string ⟨#[]⟩] := by
   unfold qV
   rw [show (0 : Rat).num = 0 from rfl, show dn 0 = 0 from rfl, sg0, mg0]
  rw [e]
  clear e h
  generalize -x.p = t at *
  generalize (1 : Rat) = one at *
  obtain ⟨p, r, neg⟩ := x
  dsimp only at *
  exact walk (code := Tryz.f55.body.getD .skip) [c I, c R, c N] fol Tryz.func55 (by kernel_rfl) (fun xs w => Tryz.call55 xs w) (by kernel_rfl)
 ·rw [if_neg h]
  rw [if_neg h, decide_eq_false h] at R
  have J := pI (-2) (by omega) (by omega)
  rw [show ((-2 : Int) : Rat) = -2 from rfl] at J
  have M := pMul x.p x.p fz fz
  have U := pSub (x.p * x.p) x.r fz fz
  have V := pMul (-2) x.p fz fz
  clear h
  generalize x.p * x.p - x.r = t at *
  generalize x.p * x.p = t2 at *
  generalize -2 * x.p = t3 at *
  generalize (1 : Rat) = one at *
  generalize (-2 : Rat) = two at *
  obtain ⟨p, r, neg⟩ := x
  dsimp only at *
  exact walk (code := Tryz.f55.body.getD .skip) [c I, c R, c M, c U, c J, c V] fol Tryz.func55 (by kernel_rfl) (fun xs w => Tryz.call55 xs w) (by kernel_rfl)
theorem gMinimal (x : Rl) {i j : Nat} [HasSz x.p i] [HasSz x.r j] (hs : i + j ≤ 300 := by first | omega | decide) : Sp Tryz.prog 56 [] [rlV x] (if x.r = 0 then qV (-x.p) 1 0 else qV (x.p * x.p - x.r) (-2 * x.p) 1) [] := by
 have I := gOne
 have Z := gZero
 by_cases h : x.r = 0
 ·rw [if_pos h]
  have B := binR1 x.r 0 (b := true) (by simp [h])
  have N := rNeg x.p
  have e : qV (-x.p) 1 0 = .agg #[.bool (sg (-x.p).num), .string (mg (-x.p).num), .bool (sg (dn (-x.p))), .string (mg (dn (-x.p))), .bool (sg (1 : Rat).num), .string (mg (1 : Rat).num), .bool (sg (dn 1)), .string (mg (dn 1)), .bool false, .string ⟨#[]⟩, .bool false, .string ⟨#[]⟩] := by
   unfold qV
   rw [show (0 : Rat).num = 0 from rfl, show dn 0 = 0 from rfl, sg0, mg0]
  rw [e]
  clear e h
  generalize -x.p = t at *
  generalize (1 : Rat) = one at *
  generalize (0 : Rat) = zero at *
  obtain ⟨p, r, neg⟩ := x
  dsimp only at *
  exact walk (code := Tryz.f56.body.getD .skip) [c Z, x2 B, c N, c I] fol Tryz.func56 (by kernel_rfl) (fun xs w => Tryz.call56 xs w) (by kernel_rfl)
 ·rw [if_neg h]
  have B := binR1 x.r 0 (b := false) (by simp [h])
  have J := gWhole (-2) (by omega) (by omega)
  rw [show ((-2 : Int) : Rat) = -2 from rfl] at J
  have M := rMul x.p x.p fz fz
  have U := rSub (x.p * x.p) x.r fz fz
  have V := rMul (-2) x.p fz fz
  clear h
  generalize x.p * x.p - x.r = t at *
  generalize x.p * x.p = t2 at *
  generalize -2 * x.p = t3 at *
  generalize (1 : Rat) = one at *
  generalize (-2 : Rat) = two at *
  generalize (0 : Rat) = zero at *
  obtain ⟨p, r, neg⟩ := x
  dsimp only at *
  exact walk (code := Tryz.f56.body.getD .skip) [c Z, x2 B, c M, c U, c J, c V, c I] fol Tryz.func56 (by kernel_rfl) (fun xs w => Tryz.call56 xs w) (by kernel_rfl)
end Go.Proofs.YthdaimoankaciaaGreatDoor
set_option linter.unusedSimpArgs false
set_option linter.unusedVariables false
namespace Go.Proofs.YthdaimoankaciaaGreatDoor
open Go Go.RowKit Go.Sy
open Vi
theorem rlC_rat (q : Rat) : rlC (Rl.rat q) = [.bool (sg q.num), .string (mg q.num), .bool (sg (dn q)), .string (mg (dn q)), .bool false, .string ⟨#[]⟩, .bool false, .string ⟨#[]⟩, .bool false] := by
 unfold rlC Rl.rat
 rw [show (0 : Rat).num = 0 from rfl, show dn 0 = 0 from rfl, sg0, mg0]
theorem m2_ne {c : Rat} (hc : c ≠ 0) : (-2 : Rat) * c ≠ 0 := by
 intro e; rcases Rat.mul_eq_zero.1 e with h | h; exact absurd h (by decide +kernel); exact hc h
theorem qRoots0 : Sp Tryz.prog 23 [] [qZ] (.tuple #[.slice none 0 0, nV 6]) [] := by
 have B := binR0 0 (b := true) (by simp)
 rw [rV0] at B
 exact walk (code := Tryz.f23.body.getD .skip) [x2 B, x2 B, x2 B] fol Tryz.func23 (by kernel_rfl) (fun xs w => Tryz.call23 xs w) (by kernel_rfl)
theorem qRootsNone (a : Rat) (ha : a ≠ 0) : Sp Tryz.prog 23 [] [qV a 0 0] (.tuple #[.slice none 0 0, nV 0]) [] := by
 have B := binR0 0 (b := true) (by simp)
 have A := binR0 a (b := false) (by simp [ha])
 rw [rV0] at B
 have e : qV a 0 0 = .agg #[.bool (sg a.num), .string (mg a.num), .bool (sg (dn a)), .string (mg (dn a)), .bool false, .string ⟨#[]⟩, .bool false, .string ⟨#[]⟩, .bool false, .string ⟨#[]⟩, .bool false, .string ⟨#[]⟩] := by
  unfold qV
  rw [show (0 : Rat).num = 0 from rfl, show dn 0 = 0 from rfl, sg0, mg0]
 rw [e]
 clear ha e
 exact walk (code := Tryz.f23.body.getD .skip) [x2 B, x2 B, x2 A, x2 B, x2 B] fol Tryz.func23 (by kernel_rfl) (fun xs w => Tryz.call23 xs w) (by kernel_rfl)
theorem qRootsLin (a b : Rat) (hb : b ≠ 0) {i j : Nat} [HasSz a i] [HasSz b j] (hs : i + j ≤ 300 := by first | omega | decide) : Sp Tryz.prog 23 [] [qV a b 0] (.tuple #[row 0 1, nV 0]) [(1, rlC (Rl.rat (-(a / b))))] := by
 have Z := binR0 0 (b := true) (by simp)
 have B := binR0 b (b := false) (by simp [hb])
 rw [rV0] at Z
 have e : qV a b 0 = .agg #[.bool (sg a.num), .string (mg a.num), .bool (sg (dn a)), .string (mg (dn a)), .bool (sg b.num), .string (mg b.num), .bool (sg (dn b)), .string (mg (dn b)), .bool false, .string ⟨#[]⟩, .bool false, .string ⟨#[]⟩] := by
  unfold qV
  rw [show (0 : Rat).num = 0 from rfl, show dn 0 = 0 from rfl, sg0, mg0]
 rw [e]
 have Q := qQuot a b hb fz fz
 have N := pNeg (a / b)
 have F := qFromRat (-(a / b))
 unfold rlC
 clear e hb
 generalize Rl.rat (-(a / b)) = y at *
 generalize -(a / b) = t at *
 generalize a / b = u at *
 exact walk (code := Tryz.f23.body.getD .skip) [x2 Z, x2 B, x2 Z, x2 B, x2 Z, c Q, c N, c F] fol Tryz.func23 (by kernel_rfl) (fun xs w => Tryz.call23 xs w) (by kernel_rfl)
theorem qRootsQ (a b c h d : Rat) (hc : c ≠ 0) (eh : h = b / (-2 * c)) (ed : d = h * h - a / c) {i j k : Nat} [HasSz a i] [HasSz b j] [HasSz c k] (hs : i + j + k ≤ 300 := by first | omega | decide) :
    (d < 0 → Sp Tryz.prog 23 [] [qV a b c] (.tuple #[.slice none 0 0, nV 0]) []) ∧
    (d = 0 → Sp Tryz.prog 23 [] [qV a b c] (.tuple #[row 0 1, nV 0]) [(1, rlC (Rl.rat h))]) ∧
    (0 < d → Sp Tryz.prog 23 [] [qV a b c] (.tuple #[row 0 2, nV 0]) [(2, rlC (mkR h (-1) d) ++ rlC (mkR h 1 d))]) := by
 have C := binR0 c (b := false) (by simp [hc])
 have I := pI (-2) (by omega) (by omega)
 rw [show ((-2 : Int) : Rat) = -2 from rfl] at I
 have J := pI 1 (by omega) (by omega)
 rw [show ((1 : Int) : Rat) = 1 from rfl] at J
 have M := pMul (-2) c fz fz
 have N := pNeg 1
 haveI z1 := hs_div b (-2 * c) _ _ (m2_ne hc)
 have Q := qQuot b (-2 * c) (m2_ne hc) fz fz
 rw [← eh] at z1 Q
 have S := pMul h h fz fz
 haveI z2 := hs_div a c _ _ hc
 have Q2 := qQuot a c hc fz fz
 have U := pSub (h * h) (a / c) fz fz
 haveI z3 : HasSz d _ := ed ▸ (inferInstance : HasSz (h * h - a / c) _)
 rw [← ed] at U
 have G := pSgn d
 refine ⟨fun h0 => ?_, fun h0 => ?_, fun h0 => ?_⟩
 ·rw [sgQ_neg h0] at G
  clear z1 z2 z3 hc eh ed h0
  generalize -2 * c = t1 at *
  generalize h * h = t2 at *
  generalize a / c = t3 at *
  generalize (-2 : Rat) = t4 at *
  generalize (1 : Rat) = t5 at *
  exact walk (code := Tryz.f23.body.getD .skip) [x2 C, x2 C, x2 C, Sy.c I, Sy.c M, Sy.c Q, Sy.c S, Sy.c Q2, Sy.c U, Sy.c J, Sy.c G] fol Tryz.func23 (by kernel_rfl) (fun xs w => Tryz.call23 xs w) (by kernel_rfl)
 ·subst h0
  rw [show sgQ 0 = 0 from rfl] at G
  have F := qFromRat h
  unfold rlC
  clear z1 z2 z3 hc eh ed
  generalize Rl.rat h = y at *
  generalize -2 * c = t1 at *
  generalize h * h = t2 at *
  generalize a / c = t3 at *
  generalize (-2 : Rat) = t4 at *
  generalize (1 : Rat) = t5 at *
  generalize (0 : Rat) = t6 at *
  exact walk (code := Tryz.f23.body.getD .skip) [x2 C, x2 C, x2 C, Sy.c I, Sy.c M, Sy.c Q, Sy.c S, Sy.c Q2, Sy.c U, Sy.c J, Sy.c G, Sy.c F] fol Tryz.func23 (by kernel_rfl) (fun xs w => Tryz.call23 xs w) (by kernel_rfl)
 ·rw [show sgQ d = 1 by unfold sgQ; rw [if_neg (by grind), if_neg (by grind)]] at G
  have K1 := qMake h (-1) d (Rat.le_of_lt h0)
  have K2 := qMake h 1 d (Rat.le_of_lt h0)
  unfold rlC
  clear z1 z2 z3 hc eh ed h0
  generalize mkR h (-1) d = y1 at *
  generalize mkR h 1 d = y2 at *
  generalize -2 * c = t1 at *
  generalize h * h = t2 at *
  generalize a / c = t3 at *
  generalize (-2 : Rat) = t4 at *
  generalize (-1 : Rat) = t6 at *
  generalize (1 : Rat) = t5 at *
  exact walk (code := Tryz.f23.body.getD .skip) [x2 C, x2 C, x2 C, Sy.c I, Sy.c M, Sy.c Q, Sy.c S, Sy.c Q2, Sy.c U, Sy.c J, Sy.c G, Sy.c N, Sy.c K1, Sy.c K2] fol Tryz.func23 (by kernel_rfl) (fun xs w => Tryz.call23 xs w) (by kernel_rfl)
theorem gRootsNone (a : Rat) : Sp Tryz.prog 24 [] [qV a 0 0] (.slice none 0 0) [] := by
 have B := binR1 0 0 (b := true) (by simp)
 have Z := gZero
 unfold qV
 generalize (0 : Rat) = z at *
 exact walk (code := Tryz.f24.body.getD .skip) [c Z, x2 B, c Z, x2 B] fol Tryz.func24 (by kernel_rfl) (fun xs w => Tryz.call24 xs w) (by kernel_rfl)
theorem gRootsLin (a b : Rat) (hb : b ≠ 0) {i j : Nat} [HasSz a i] [HasSz b j] (hs : i + j ≤ 300 := by first | omega | decide) : Sp Tryz.prog 24 [] [qV a b 0] (row 0 1) [(1, rlC (Rl.rat (-(a / b))))] := by
 have Z := gZero
 have B0 := binR1 0 0 (b := true) (by simp)
 have B := binR1 b 0 (b := false) (by simp [hb])
 have Q := rDiv a b hb fz fz
 have N := rNeg (a / b)
 rw [rlC_rat]
 unfold qV
 clear hb
 generalize -(a / b) = t at *
 generalize a / b = u at *
 generalize (0 : Rat) = z at *
 exact walk (code := Tryz.f24.body.getD .skip) [c Z, x2 B0, c Z, x2 B, c Q, c N] fol Tryz.func24 (by kernel_rfl) (fun xs w => Tryz.call24 xs w) (by kernel_rfl)
theorem gRootsQ (a b c h d : Rat) (hc : c ≠ 0) (eh : h = b / (-2 * c)) (ed : d = h * h - a / c) {i j k : Nat} [HasSz a i] [HasSz b j] [HasSz c k] (hs : i + j + k ≤ 300 := by first | omega | decide) :
    (d < 0 → Sp Tryz.prog 24 [] [qV a b c] (.slice none 0 0) []) ∧
    (d = 0 → Sp Tryz.prog 24 [] [qV a b c] (row 0 1) [(1, rlC (Rl.rat h))]) ∧
    (0 < d → Sp Tryz.prog 24 [] [qV a b c] (row 0 2) [(2, rlC (mkR h (-1) d) ++ rlC (mkR h 1 d))]) := by
 have Z := gZero
 have C := binR1 c 0 (b := false) (by simp [hc])
 have I := gWhole (-2) (by omega) (by omega)
 rw [show ((-2 : Int) : Rat) = -2 from rfl] at I
 have J := gWhole (-1) (by omega) (by omega)
 rw [show ((-1 : Int) : Rat) = -1 from rfl] at J
 have O := gOne
 have M := rMul (-2) c fz fz
 haveI z1 := hs_div b (-2 * c) _ _ (m2_ne hc)
 have Q := rDiv b (-2 * c) (m2_ne hc) fz fz
 rw [← eh] at z1 Q
 have S := rMul h h fz fz
 haveI z2 := hs_div a c _ _ hc
 have Q2 := rDiv a c hc fz fz
 have U := rSub (h * h) (a / c) fz fz
 haveI z3 : HasSz d _ := ed ▸ (inferInstance : HasSz (h * h - a / c) _)
 rw [← ed] at U
 have G := rSgn d
 refine ⟨fun h0 => ?_, fun h0 => ?_, fun h0 => ?_⟩
 ·rw [sgQ_neg h0] at G
  clear z1 z2 z3 hc eh ed h0
  generalize -2 * c = t1 at *
  generalize h * h = t2 at *
  generalize a / c = t3 at *
  generalize (-2 : Rat) = t4 at *
  generalize (-1 : Rat) = t6 at *
  generalize (1 : Rat) = t5 at *
  generalize (0 : Rat) = t7 at *
  exact walk (code := Tryz.f24.body.getD .skip) [Sy.c Z, x2 C, Sy.c I, Sy.c M, Sy.c Q, Sy.c S, Sy.c Q2, Sy.c U, Sy.c G] fol Tryz.func24 (by kernel_rfl) (fun xs w => Tryz.call24 xs w) (by kernel_rfl)
 ·subst h0
  rw [show sgQ 0 = 0 from rfl] at G
  have D := binR1 0 0 (b := true) (by simp)
  rw [rlC_rat]
  clear z1 z2 z3 hc eh ed
  generalize -2 * c = t1 at *
  generalize h * h = t2 at *
  generalize a / c = t3 at *
  generalize (-2 : Rat) = t4 at *
  generalize (-1 : Rat) = t6 at *
  generalize (1 : Rat) = t5 at *
  generalize (0 : Rat) = t7 at *
  exact walk (code := Tryz.f24.body.getD .skip) [Sy.c Z, x2 C, Sy.c I, Sy.c M, Sy.c Q, Sy.c S, Sy.c Q2, Sy.c U, Sy.c G, Sy.c Z, x2 D] fol Tryz.func24 (by kernel_rfl) (fun xs w => Tryz.call24 xs w) (by kernel_rfl)
 ·rw [show sgQ d = 1 by unfold sgQ; rw [if_neg (by grind), if_neg (by grind)]] at G
  have D := binR1 d 0 (b := false) (by simp; grind)
  have K1 := gMake h (-1) d
  have K2 := gMake h 1 d
  unfold rlC
  clear z1 z2 z3 hc eh ed h0
  generalize mkR h (-1) d = y1 at *
  generalize mkR h 1 d = y2 at *
  generalize -2 * c = t1 at *
  generalize h * h = t2 at *
  generalize a / c = t3 at *
  generalize (-2 : Rat) = t4 at *
  generalize (-1 : Rat) = t6 at *
  generalize (1 : Rat) = t5 at *
  generalize (0 : Rat) = t7 at *
  exact walk (code := Tryz.f24.body.getD .skip) [Sy.c Z, x2 C, Sy.c I, Sy.c M, Sy.c Q, Sy.c S, Sy.c Q2, Sy.c U, Sy.c G, Sy.c Z, x2 D, Sy.c J, Sy.c K1, Sy.c O, Sy.c K2] fol Tryz.func24 (by kernel_rfl) (fun xs w => Tryz.call24 xs w) (by kernel_rfl)
theorem gEval (a b c : Rat) (x : Rl) {i j k l m : Nat} [HasSz a i] [HasSz b j] [HasSz c k] [HasSz x.p l] [HasSz x.r m] (hs : i + j + k + l + m ≤ 1000 := by first | omega | decide) :
    Sp Tryz.prog 25 [] [qV a b c, rlV x] (rlV (mkR (a + (b * x.p + c * (x.p * x.p + x.r))) ((b + 2 * (c * x.p)) * x.s) x.r)) [] := by
 have sb := si_in x
 have M1 := rMul x.p x.p fz fz
 have A1 := rAdd (x.p * x.p) x.r fz fz
 have M2 := rMul c (x.p * x.p + x.r) fz fz
 have M3 := rMul b x.p fz fz
 have A2 := rAdd (b * x.p) (c * (x.p * x.p + x.r)) fz fz
 have A3 := rAdd a (b * x.p + c * (x.p * x.p + x.r)) fz fz
 have W := gWhole 2 (by omega) (by omega)
 rw [show ((2 : Int) : Rat) = 2 from rfl] at W
 have M4 := rMul c x.p fz fz
 have M5 := rMul 2 (c * x.p) fz fz
 have A4 := rAdd b (2 * (c * x.p)) fz fz
 have Sd := gSide x
 have V := gWhole x.si (by omega) (by omega)
 rw [Rl.si_rat] at V
 have M6 := rMul (b + 2 * (c * x.p)) x.s fz fz
 have K := gMake (a + (b * x.p + c * (x.p * x.p + x.r))) ((b + 2 * (c * x.p)) * x.s) x.r
 clear sb
 generalize mkR (a + (b * x.p + c * (x.p * x.p + x.r))) ((b + 2 * (c * x.p)) * x.s) x.r = y at *
 generalize (b + 2 * (c * x.p)) * x.s = t1 at *
 generalize b + 2 * (c * x.p) = t2 at *
 generalize 2 * (c * x.p) = t3 at *
 generalize a + (b * x.p + c * (x.p * x.p + x.r)) = t4 at *
 generalize b * x.p + c * (x.p * x.p + x.r) = t5 at *
 generalize c * (x.p * x.p + x.r) = t6 at *
 generalize x.p * x.p + x.r = t7 at *
 generalize x.p * x.p = t8 at *
 generalize c * x.p = t9 at *
 generalize b * x.p = t10 at *
 generalize (2 : Rat) = t11 at *
 generalize x.si = t12 at *
 generalize x.s = t13 at *
 obtain ⟨p, r, neg⟩ := x
 dsimp only at *
 exact walk (code := Tryz.f25.body.getD .skip) [Sy.c M3, Sy.c M1, Sy.c A1, Sy.c M2, Sy.c A2, Sy.c A3, Sy.c W, Sy.c M4, Sy.c M5, Sy.c A4, Sy.c Sd, Sy.c V, Sy.c M6, Sy.c K] fol Tryz.func25 (by kernel_rfl) (fun xs w => Tryz.call25 xs w) (by kernel_rfl)
end Go.Proofs.YthdaimoankaciaaGreatDoor
set_option linter.unusedSimpArgs false
set_option linter.unusedVariables false
namespace Go.Proofs.YthdaimoankaciaaGreatDoor
open Go Go.RowKit Go.Sy
open Vi
noncomputable def okL (x : Rl) : Bool := open Classical in decide x.Ok
theorem okL_yes {x : Rl} (h : x.Ok) : okL x = true := by unfold okL; simp [h]
theorem okL_no {x : Rl} (h : ¬ x.Ok) : okL x = false := by unfold okL; simp [h]
theorem notOk_neg {p r : Rat} {b : Bool} (h : r < 0) : ¬ (⟨p, r, b⟩ : Rl).Ok := by
 rintro (⟨h1, _⟩ | ⟨h1, _⟩)
 ·have h1 : r = 0 := h1
  subst h1; exact Rat.lt_irrefl h
 ·have h1 : 0 < r := h1
  grind
theorem notOk_z {p : Rat} : ¬ (⟨p, 0, true⟩ : Rl).Ok := by
 rintro (⟨_, h⟩ | ⟨h, _⟩)
 ·cases h
 ·exact Rat.lt_irrefl h
theorem notOk_sq {p r w : Rat} {b : Bool} (h : 0 < r) (hw : w * w = r) : ¬ (⟨p, r, b⟩ : Rl).Ok := by
 rintro (⟨h1, _⟩ | ⟨_, h1⟩)
 ·have h1 : r = 0 := h1
  subst h1; exact Rat.lt_irrefl h
 ·exact h1 w hw
theorem gCheckQ (x : Rl) (h1 : Fits x.p) (h2 : Fits x.r) : Sp Tryz.prog 64 [] [rlV x] (.bool (okL x)) [] := by
 obtain ⟨p, r, neg⟩ := x
 dsimp only at h1 h2
 have A := rCheckQ p h1
 have B := rCheckQ r h2
 have S := rSgn r
 have Z := gZero
 rcases sgQ_cases r with ⟨hs, hr⟩ | ⟨hs, hr⟩ | ⟨hs, hr⟩ <;> rw [hs] at S
 ·rw [okL_no (notOk_neg hr)]
  have E := binR1 r 0 (b := false) (by simp; grind)
  clear hr h1 h2
  generalize (0 : Rat) = z at *
  exact walk (code := Tryz.f64.body.getD .skip) [c A, c B, c S, c Z, x2 E] fol Tryz.func64 (by kernel_rfl) (fun xs w => Tryz.call64 xs w) (by kernel_rfl)
 ·subst hr
  have E := binR1 0 0 (b := true) (by simp)
  cases neg
  ·rw [okL_yes (.inl ⟨rfl, rfl⟩)]
   clear h1 h2
   generalize (0 : Rat) = z at *
   exact walk (code := Tryz.f64.body.getD .skip) [c A, c B, c S, c Z, x2 E] fol Tryz.func64 (by kernel_rfl) (fun xs w => Tryz.call64 xs w) (by kernel_rfl)
  ·rw [okL_no notOk_z]
   clear h1 h2
   generalize (0 : Rat) = z at *
   exact walk (code := Tryz.f64.body.getD .skip) [c A, c B, c S, c Z, x2 E] fol Tryz.func64 (by kernel_rfl) (fun xs w => Tryz.call64 xs w) (by kernel_rfl)
 ·rcases rRoot r h2 with ⟨w, _, hw, R⟩ | ⟨hw, R⟩
  ·rw [okL_no (notOk_sq hr hw)]
   clear hr hw h1 h2
   exact walk (code := Tryz.f64.body.getD .skip) [c A, c B, c S, c R] fol Tryz.func64 (by kernel_rfl) (fun xs w => Tryz.call64 xs w) (by kernel_rfl)
  ·rw [okL_yes (.inr ⟨hr, hw⟩)]
   clear hr hw h1 h2
   exact walk (code := Tryz.f64.body.getD .skip) [c A, c B, c S, c R] fol Tryz.func64 (by kernel_rfl) (fun xs w => Tryz.call64 xs w) (by kernel_rfl)
theorem qCheckQ (x : Rl) (h1 : Fits x.p) (h2 : Fits x.r) : Sp Tryz.prog 62 [] [rlV x] (nV (if okL x then 0 else 5)) [] := by
 obtain ⟨p, r, neg⟩ := x
 dsimp only at h1 h2
 have A := pCheck (sg p.num) (mg p.num) (sg (dn p)) (mg (dn p)) h1.mn h1.md
 have B := pCheck (sg r.num) (mg r.num) (sg (dn r)) (mg (dn r)) h2.mn h2.md
 rw [okRat_of, if_pos rfl] at A B
 have S := pSgn r
 rcases sgQ_cases r with ⟨hs, hr⟩ | ⟨hs, hr⟩ | ⟨hs, hr⟩ <;> rw [hs] at S
 ·rw [okL_no (notOk_neg hr), if_neg (by simp)]
  clear hr h1 h2
  exact walk (code := Tryz.f62.body.getD .skip) [c A, c B, c S] fol Tryz.func62 (by kernel_rfl) (fun xs w => Tryz.call62 xs w) (by kernel_rfl)
 ·subst hr
  cases neg
  ·rw [okL_yes (.inl ⟨rfl, rfl⟩), if_pos rfl]
   clear h1 h2
   generalize (0 : Rat) = z at *
   exact walk (code := Tryz.f62.body.getD .skip) [c A, c B, c S] fol Tryz.func62 (by kernel_rfl) (fun xs w => Tryz.call62 xs w) (by kernel_rfl)
  ·rw [okL_no notOk_z, if_neg (by simp)]
   clear h1 h2
   generalize (0 : Rat) = z at *
   exact walk (code := Tryz.f62.body.getD .skip) [c A, c B, c S] fol Tryz.func62 (by kernel_rfl) (fun xs w => Tryz.call62 xs w) (by kernel_rfl)
 ·rcases pRoot r h2 with ⟨w, _, hw, R⟩ | ⟨hw, R⟩
  ·rw [okL_no (notOk_sq hr hw), if_neg (by simp)]
   clear hr hw h1 h2
   exact walk (code := Tryz.f62.body.getD .skip) [c A, c B, c S, c R] fol Tryz.func62 (by kernel_rfl) (fun xs w => Tryz.call62 xs w) (by kernel_rfl)
  ·rw [okL_yes (.inr ⟨hr, hw⟩), if_pos rfl]
   clear hr hw h1 h2
   exact walk (code := Tryz.f62.body.getD .skip) [c A, c B, c S, c R] fol Tryz.func62 (by kernel_rfl) (fun xs w => Tryz.call62 xs w) (by kernel_rfl)
abbrev flV (b1 : Bool) (s1 : ByteArray) (b2 : Bool) (s2 : ByteArray) (b3 : Bool) (s3 : ByteArray) (b4 : Bool) (s4 : ByteArray) (n : Bool) : Value := .agg #[.bool b1, .string s1, .bool b2, .string s2, .bool b3, .string s3, .bool b4, .string s4, .bool n]
theorem checkNoP (b1 : Bool) (s1 : ByteArray) (b2 : Bool) (s2 : ByteArray) (b3 : Bool) (s3 : ByteArray) (b4 : Bool) (s4 : ByteArray) (n : Bool) (h1 : s1.size ≤ 131000) (h2 : s2.size ≤ 131000) (k : okRat b1 s1 b2 s2 = false) :
    Sp Tryz.prog 64 [] [flV b1 s1 b2 s2 b3 s3 b4 s4 n] (.bool false) [] ∧ Sp Tryz.prog 62 [] [flV b1 s1 b2 s2 b3 s3 b4 s4 n] (nV 5) [] := by
 have R := rCheck b1 s1 b2 s2 h1 h2
 have Q := pCheck b1 s1 b2 s2 h1 h2
 rw [k] at R Q
 rw [if_neg (by simp)] at Q
 clear k
 constructor
 ·exact walk (code := Tryz.f64.body.getD .skip) [c R] fol Tryz.func64 (by kernel_rfl) (fun xs w => Tryz.call64 xs w) (by kernel_rfl)
 ·exact walk (code := Tryz.f62.body.getD .skip) [c Q] fol Tryz.func62 (by kernel_rfl) (fun xs w => Tryz.call62 xs w) (by kernel_rfl)
theorem checkNoR (p : Rat) (hp : Fits p) (b3 : Bool) (s3 : ByteArray) (b4 : Bool) (s4 : ByteArray) (n : Bool) (h1 : s3.size ≤ 131000) (h2 : s4.size ≤ 131000) (k : okRat b3 s3 b4 s4 = false) :
    Sp Tryz.prog 64 [] [flV (sg p.num) (mg p.num) (sg (dn p)) (mg (dn p)) b3 s3 b4 s4 n] (.bool false) [] ∧ Sp Tryz.prog 62 [] [flV (sg p.num) (mg p.num) (sg (dn p)) (mg (dn p)) b3 s3 b4 s4 n] (nV 5) [] := by
 have R := rCheck b3 s3 b4 s4 h1 h2
 have Q := pCheck b3 s3 b4 s4 h1 h2
 rw [k] at R Q
 rw [if_neg (by simp)] at Q
 have A := rCheckQ p hp
 have B := pCheck (sg p.num) (mg p.num) (sg (dn p)) (mg (dn p)) hp.mn hp.md
 rw [okRat_of, if_pos rfl] at B
 clear k
 constructor
 ·exact walk (code := Tryz.f64.body.getD .skip) [c A, c R] fol Tryz.func64 (by kernel_rfl) (fun xs w => Tryz.call64 xs w) (by kernel_rfl)
 ·exact walk (code := Tryz.f62.body.getD .skip) [c B, c Q] fol Tryz.func62 (by kernel_rfl) (fun xs w => Tryz.call62 xs w) (by kernel_rfl)
theorem sz_of_mg {q : Rat} {k : Nat} (h1 : (mg q.num).size ≤ k) (h2 : (mg (dn q)).size ≤ k) (hk : 1 ≤ k) : HasSz q k := by
 rw [mg_nd] at h1 h2
 refine ⟨nd_of_x h1, ?_⟩
 unfold dn at h2
 split at h2
 ·next e => rw [e]; exact nd_of_x (Nat.le_trans (by decide) hk)
 ·exact nd_of_x (by simpa using h2)
theorem checkAll (b1 : Bool) (s1 : ByteArray) (b2 : Bool) (s2 : ByteArray) (b3 : Bool) (s3 : ByteArray) (b4 : Bool) (s4 : ByteArray) (n : Bool) (k : Nat) (hk1 : 1 ≤ k) (hk : k ≤ 131000) (h1 : s1.size ≤ k) (h2 : s2.size ≤ k) (h3 : s3.size ≤ k) (h4 : s4.size ≤ k) :
    (Sp Tryz.prog 64 [] [flV b1 s1 b2 s2 b3 s3 b4 s4 n] (.bool false) [] ∧ Sp Tryz.prog 62 [] [flV b1 s1 b2 s2 b3 s3 b4 s4 n] (nV 5) []) ∨
    ∃ x : Rl, x.Ok ∧ HasSz x.p k ∧ HasSz x.r k ∧ flV b1 s1 b2 s2 b3 s3 b4 s4 n = rlV x ∧ Sp Tryz.prog 64 [] [rlV x] (.bool true) [] ∧ Sp Tryz.prog 62 [] [rlV x] (nV 0) [] := by
 cases k1 : okRat b1 s1 b2 s2
 ·exact .inl (checkNoP b1 s1 b2 s2 b3 s3 b4 s4 n (by omega) (by omega) k1)
 obtain ⟨p, rfl, rfl, rfl, rfl⟩ := okRat_rat _ _ _ _ k1
 have hp := sz_of_mg h1 h2 hk1
 have fp : Fits p := fz
 cases k2 : okRat b3 s3 b4 s4
 ·exact .inl (checkNoR p fp b3 s3 b4 s4 n (by omega) (by omega) k2)
 obtain ⟨r, rfl, rfl, rfl, rfl⟩ := okRat_rat _ _ _ _ k2
 have hr := sz_of_mg h3 h4 hk1
 have fr : Fits r := fz
 have G := gCheckQ ⟨p, r, n⟩ fp fr
 have Q := qCheckQ ⟨p, r, n⟩ fp fr
 by_cases ho : (⟨p, r, n⟩ : Rl).Ok
 ·rw [okL_yes ho] at G Q
  exact .inr ⟨⟨p, r, n⟩, ho, hp, hr, rfl, G, Q⟩
 ·rw [okL_no ho] at G Q
  exact .inl ⟨G, Q⟩
theorem vBytes (b1 : Bool) (s1 : ByteArray) (b2 : Bool) (s2 : ByteArray) (h1 : s1.size ≤ 4611686018427387903) (h2 : s2.size ≤ 4611686018427387903) : Sp Tryz.prog 63 [] [.agg #[.bool b1, .string s1, .bool b2, .string s2]] (nV ((s1.size + s2.size : Nat) : Int)) [] := by
 have w1 : IntKind.i64.wrap ((s1.size : Int) + (s2.size : Int)) = ((s1.size + s2.size : Nat) : Int) := by rw [w64 (by omega) (by omega)]; omega
 exact walk (code := Tryz.f63.body.getD .skip) [L, L, Go.Sy.e (congrArg (Value.int IntKind.i64) w1)] fol Tryz.func63 (by kernel_rfl) (fun xs w => Tryz.call63 xs w) (by kernel_rfl)
theorem vSmall (b1 : Bool) (s1 : ByteArray) (b2 : Bool) (s2 : ByteArray) (b3 : Bool) (s3 : ByteArray) (b4 : Bool) (s4 : ByteArray) (n : Bool) (h1 : s1.size ≤ 4611686018427387903) (h2 : s2.size ≤ 4611686018427387903) (h3 : s3.size ≤ 4611686018427387903) (h4 : s4.size ≤ 4611686018427387903) :
    Sp Tryz.prog 18 [] [flV b1 s1 b2 s2 b3 s3 b4 s4 n] (.bool false) [] ∨ ∃ x : Rl, x.Ok ∧ HasSz x.p 8 ∧ HasSz x.r 8 ∧ flV b1 s1 b2 s2 b3 s3 b4 s4 n = rlV x ∧ Sp Tryz.prog 18 [] [rlV x] (.bool true) [] := by
 have A := vBytes b1 s1 b2 s2 h1 h2
 have B := vBytes b3 s3 b4 s4 h3 h4
 by_cases c1 : s1.size + s2.size ≤ 8
 ·have e1 : decide (((s1.size + s2.size : Nat) : Int) ≤ 8) = true := decide_eq_true (by omega)
  by_cases c2 : s3.size + s4.size ≤ 8
  ·have e2 : decide (((s3.size + s4.size : Nat) : Int) ≤ 8) = true := decide_eq_true (by omega)
   rcases checkAll b1 s1 b2 s2 b3 s3 b4 s4 n 8 (by omega) (by omega) (by omega) (by omega) (by omega) (by omega) with ⟨C, _⟩ | ⟨x, ok, z1, z2, e, C, _⟩
   ·left
    clear c1 c2 h1 h2 h3 h4
    generalize ((s1.size + s2.size : Nat) : Int) = n1 at *
    generalize ((s3.size + s4.size : Nat) : Int) = n2 at *
    exact walk (code := Tryz.f18.body.getD .skip) [c A, eb e1, c B, eb e2, c C] fol Tryz.func18 (by kernel_rfl) (fun xs w => Tryz.call18 xs w) (by kernel_rfl)
   ·right
    refine ⟨x, ok, z1, z2, e, ?_⟩
    rw [← e] at C ⊢
    clear c1 c2 h1 h2 h3 h4 e z1 z2 ok
    generalize ((s1.size + s2.size : Nat) : Int) = n1 at *
    generalize ((s3.size + s4.size : Nat) : Int) = n2 at *
    exact walk (code := Tryz.f18.body.getD .skip) [c A, eb e1, c B, eb e2, c C] fol Tryz.func18 (by kernel_rfl) (fun xs w => Tryz.call18 xs w) (by kernel_rfl)
  ·have e2 : decide (((s3.size + s4.size : Nat) : Int) ≤ 8) = false := decide_eq_false (by omega)
   left
   clear c1 c2 h1 h2 h3 h4
   generalize ((s1.size + s2.size : Nat) : Int) = n1 at *
   generalize ((s3.size + s4.size : Nat) : Int) = n2 at *
   exact walk (code := Tryz.f18.body.getD .skip) [c A, eb e1, c B, eb e2] fol Tryz.func18 (by kernel_rfl) (fun xs w => Tryz.call18 xs w) (by kernel_rfl)
 ·have e1 : decide (((s1.size + s2.size : Nat) : Int) ≤ 8) = false := decide_eq_false (by omega)
  left
  clear c1 h1 h2 h3 h4
  generalize ((s1.size + s2.size : Nat) : Int) = n1 at *
  exact walk (code := Tryz.f18.body.getD .skip) [c A, eb e1] fol Tryz.func18 (by kernel_rfl) (fun xs w => Tryz.call18 xs w) (by kernel_rfl)
theorem vFraction (b1 : Bool) (s1 : ByteArray) (b2 : Bool) (s2 : ByteArray) (h1 : s1.size ≤ 4611686018427387903) (h2 : s2.size ≤ 4611686018427387903) :
    Sp Tryz.prog 28 [] [.agg #[.bool b1, .string s1, .bool b2, .string s2]] (.bool false) [] ∨ ∃ q : Rat, HasSz q 8 ∧ (b1 = sg q.num ∧ s1 = mg q.num ∧ b2 = sg (dn q) ∧ s2 = mg (dn q)) ∧ Sp Tryz.prog 28 [] [rV q] (.bool true) [] := by
 have A := vBytes b1 s1 b2 s2 h1 h2
 by_cases c1 : s1.size + s2.size ≤ 8
 ·have e1 : decide (((s1.size + s2.size : Nat) : Int) ≤ 8) = true := decide_eq_true (by omega)
  have C := rCheck b1 s1 b2 s2 (by omega) (by omega)
  cases k1 : okRat b1 s1 b2 s2 <;> rw [k1] at C
  ·left
   clear c1 h1 h2
   generalize ((s1.size + s2.size : Nat) : Int) = n1 at *
   exact walk (code := Tryz.f28.body.getD .skip) [c A, eb e1, c C] fol Tryz.func28 (by kernel_rfl) (fun xs w => Tryz.call28 xs w) (by kernel_rfl)
  ·right
   obtain ⟨q, rfl, rfl, rfl, rfl⟩ := okRat_rat _ _ _ _ k1
   refine ⟨q, sz_of_mg (by omega) (by omega) (by omega), ⟨rfl, rfl, rfl, rfl⟩, ?_⟩
   clear c1 h1 h2
   generalize (((mg q.num).size + (mg (dn q)).size : Nat) : Int) = n1 at *
   exact walk (code := Tryz.f28.body.getD .skip) [c A, eb e1, c C] fol Tryz.func28 (by kernel_rfl) (fun xs w => Tryz.call28 xs w) (by kernel_rfl)
 ·have e1 : decide (((s1.size + s2.size : Nat) : Int) ≤ 8) = false := decide_eq_false (by omega)
  left
  clear c1 h1 h2
  generalize ((s1.size + s2.size : Nat) : Int) = n1 at *
  exact walk (code := Tryz.f28.body.getD .skip) [c A, eb e1] fol Tryz.func28 (by kernel_rfl) (fun xs w => Tryz.call28 xs w) (by kernel_rfl)
end Go.Proofs.YthdaimoankaciaaGreatDoor
set_option linter.unusedSimpArgs false
set_option linter.unusedVariables false
namespace Go.Proofs.YthdaimoankaciaaGreatDoor
open Go Go.RowKit Go.Sy
open Vi
theorem qCmp (x y : Rl) {i j k l : Nat} [h1 : HasSz x.p i] [h2 : HasSz x.r j] [h3 : HasSz y.p k] [h4 : HasSz y.r l] (hx : 0 ≤ x.r) (hy : 0 ≤ y.r) (hs : i + j + k + l ≤ 2000 := by first | omega | decide) : Sp Tryz.prog 26 [] [rlV x, rlV y] (nV (Rl.cmp x y)) [] := by
 haveI := hs_mono h1 (show i ≤ i + j + k + l + 1 by omega)
 haveI := hs_mono h2 (show j ≤ i + j + k + l + 1 by omega)
 haveI := hs_mono h3 (show k ≤ i + j + k + l + 1 by omega)
 haveI := hs_mono h4 (show l ≤ i + j + k + l + 1 by omega)
 exact qCompare x y (i + j + k + l + 1) (by omega) (by omega) hx hy
theorem qCmpR (x : Rl) (q : Rat) {i j k : Nat} [h1 : HasSz x.p i] [h2 : HasSz x.r j] [h3 : HasSz q k] (hx : 0 ≤ x.r) (hs : i + j + k ≤ 2000 := by first | omega | decide) : Sp Tryz.prog 49 [] [rlV x, rV q] (nV (Rl.cmp x (Rl.rat q))) [] := by
 haveI := hs_mono h1 (show i ≤ i + j + k + 1 by omega)
 haveI := hs_mono h2 (show j ≤ i + j + k + 1 by omega)
 haveI := hs_mono h3 (show k ≤ i + j + k + 1 by omega)
 exact qCompareRat x q (i + j + k + 1) (by omega) (by omega) hx
theorem qFlr (x : Rl) {i j : Nat} [h1 : HasSz x.p i] [h2 : HasSz x.r j] (hx : 0 ≤ x.r) (hs : i + j ≤ 5000 := by first | omega | decide) : Sp Tryz.prog 45 [] [rlV x] (iV (fl x)) [] := by
 haveI := hs_mono h1 (show i ≤ i + j by omega)
 haveI := hs_mono h2 (show j ≤ i + j by omega)
 exact qFloor x (i + j) (by omega) hx
theorem qCl (x : Rl) {i j : Nat} [h1 : HasSz x.p i] [h2 : HasSz x.r j] (hx : 0 ≤ x.r) (hs : i + j ≤ 5000 := by first | omega | decide) : Sp Tryz.prog 47 [] [rlV x] (iV (-fl x.ngR)) [] := by
 haveI := hs_mono h1 (show i ≤ i + j by omega)
 haveI := hs_mono h2 (show j ≤ i + j by omega)
 exact qCeil x (i + j) (by omega) hx
theorem qScl (x : Rl) (q : Rat) {i j k : Nat} [h1 : HasSz x.p i] [h2 : HasSz x.r j] [h3 : HasSz q k] (hs : i + j + k ≤ 2000 := by first | omega | decide) : Sp Tryz.prog 31 [] [rlV x, rV q] (rlV (x.scR q)) [] := by
 haveI := hs_mono h1 (show i ≤ i + j + k by omega)
 haveI := hs_mono h2 (show j ≤ i + j + k by omega)
 haveI := hs_mono h3 (show k ≤ i + j + k by omega)
 exact qScale x q (i + j + k) (by omega)
theorem simpLast (x y x' y' u : Rl) (q2 q3 q4 l t v one : Rat) (n m n2 m2 s1 s2 c : Int) (e1 : decide (s1 < 0) = false) (e2 : decide (s2 ≤ 0) = false) (ec : decide (c > 0) = false)
    (S1 : Sp Tryz.prog 51 [] [rlV x] (nV s1) []) (S2 : Sp Tryz.prog 51 [] [rlV y] (nV s2) []) (F : Sp Tryz.prog 45 [] [rlV x] (iV n) []) (J : Sp Tryz.prog 110 [] [nV 1] (iV 1) []) (A : Sp Tryz.prog 109 [] [iV n, iV 1] (iV m) [])
    (W : Sp Tryz.prog 117 [] [iV m] (rV q3) []) (C : Sp Tryz.prog 49 [] [rlV y, rV q3] (nV c) []) (W2 : Sp Tryz.prog 117 [] [iV n] (rV q2) []) (N : Sp Tryz.prog 81 [] [rV q2] (rV l) [])
    (H1 : Sp Tryz.prog 30 [] [rlV x, rV l] (rlV x') []) (H2 : Sp Tryz.prog 30 [] [rlV y, rV l] (rlV y') []) (V : Sp Tryz.prog 36 [] [rlV y'] (.tuple #[rlV u, nV 0]) []) (I : Sp Tryz.prog 84 [] [nV 1] (rV one) [])
    (F2 : Sp Tryz.prog 45 [] [rlV u] (iV n2) []) (A2 : Sp Tryz.prog 109 [] [iV n2, iV 1] (iV m2) []) (W3 : Sp Tryz.prog 117 [] [iV m2] (rV q4) []) (S3 : Sp Tryz.prog 51 [] [rlV x'] (nV 0) [])
    (Q : Sp Tryz.prog 82 [] [rV one, rV q4] (rV t) []) (U : Sp Tryz.prog 85 [] [rV t, rV l] (rV v) []) : Sp Tryz.prog 98 [] [rlV x, rlV y] (rV v) [] := by
 obtain ⟨xp, xr, xn⟩ := x
 obtain ⟨yp, yr, yn⟩ := y
 obtain ⟨xp', xr', xn'⟩ := x'
 obtain ⟨yp', yr', yn'⟩ := y'
 exact walk (code := Tryz.f98.body.getD .skip) [Sy.c S1, eb e1, Sy.c S2, eb e2, Sy.c F, Sy.c J, Sy.c A, Sy.c W, Sy.c C, eb ec, Sy.c W2, Sy.c N, Sy.c H1, Sy.c H2, Sy.c V, Sy.c I, Sy.c F2, Sy.c J, Sy.c A2, Sy.c W3, Sy.c S3, Sy.c Q, Sy.c U] fol Tryz.func98 (by kernel_rfl) (fun xs w => Tryz.call98 xs w) (by kernel_rfl)
theorem simpStep (x y x' y' u a : Rl) (q2 q3 q4 q5 l t v one : Rat) (n m n2 m2 s1 s2 s3 c : Int) (e1 : decide (s1 < 0) = false) (e2 : decide (s2 ≤ 0) = false) (ec : decide (c > 0) = false) (e3 : decide (s3 > 0) = true)
    (S1 : Sp Tryz.prog 51 [] [rlV x] (nV s1) []) (S2 : Sp Tryz.prog 51 [] [rlV y] (nV s2) []) (F : Sp Tryz.prog 45 [] [rlV x] (iV n) []) (J : Sp Tryz.prog 110 [] [nV 1] (iV 1) []) (A : Sp Tryz.prog 109 [] [iV n, iV 1] (iV m) [])
    (W : Sp Tryz.prog 117 [] [iV m] (rV q3) []) (C : Sp Tryz.prog 49 [] [rlV y, rV q3] (nV c) []) (W2 : Sp Tryz.prog 117 [] [iV n] (rV q2) []) (N : Sp Tryz.prog 81 [] [rV q2] (rV l) [])
    (H1 : Sp Tryz.prog 30 [] [rlV x, rV l] (rlV x') []) (H2 : Sp Tryz.prog 30 [] [rlV y, rV l] (rlV y') []) (V : Sp Tryz.prog 36 [] [rlV y'] (.tuple #[rlV u, nV 0]) []) (I : Sp Tryz.prog 84 [] [nV 1] (rV one) [])
    (F2 : Sp Tryz.prog 45 [] [rlV u] (iV n2) []) (A2 : Sp Tryz.prog 109 [] [iV n2, iV 1] (iV m2) []) (W3 : Sp Tryz.prog 117 [] [iV m2] (rV q4) []) (S3 : Sp Tryz.prog 51 [] [rlV x'] (nV s3) [])
    (V2 : Sp Tryz.prog 36 [] [rlV x'] (.tuple #[rlV a, nV 0]) []) (R : Sp Tryz.prog 98 [] [rlV u, rlV a] (rV q5) [])
    (Q : Sp Tryz.prog 82 [] [rV one, rV q5] (rV t) []) (U : Sp Tryz.prog 85 [] [rV t, rV l] (rV v) []) : Sp Tryz.prog 98 [] [rlV x, rlV y] (rV v) [] := by
 obtain ⟨xp, xr, xn⟩ := x
 obtain ⟨yp, yr, yn⟩ := y
 obtain ⟨xp', xr', xn'⟩ := x'
 obtain ⟨yp', yr', yn'⟩ := y'
 exact walk (code := Tryz.f98.body.getD .skip) [Sy.c S1, eb e1, Sy.c S2, eb e2, Sy.c F, Sy.c J, Sy.c A, Sy.c W, Sy.c C, eb ec, Sy.c W2, Sy.c N, Sy.c H1, Sy.c H2, Sy.c V, Sy.c I, Sy.c F2, Sy.c J, Sy.c A2, Sy.c W3, Sy.c S3, eb e3, Sy.c V2, Sy.c R, Sy.c Q, Sy.c U] fol Tryz.func98 (by kernel_rfl) (fun xs w => Tryz.call98 xs w) (by kernel_rfl)
theorem simpWhole (x y : Rl) (q3 : Rat) (n m s1 s2 c : Int) (e1 : decide (s1 < 0) = false) (e2 : decide (s2 ≤ 0) = false) (ec : decide (c > 0) = true)
    (S1 : Sp Tryz.prog 51 [] [rlV x] (nV s1) []) (S2 : Sp Tryz.prog 51 [] [rlV y] (nV s2) []) (F : Sp Tryz.prog 45 [] [rlV x] (iV n) []) (J : Sp Tryz.prog 110 [] [nV 1] (iV 1) []) (A : Sp Tryz.prog 109 [] [iV n, iV 1] (iV m) [])
    (W : Sp Tryz.prog 117 [] [iV m] (rV q3) []) (C : Sp Tryz.prog 49 [] [rlV y, rV q3] (nV c) []) : Sp Tryz.prog 98 [] [rlV x, rlV y] (rV q3) [] := by
 obtain ⟨xp, xr, xn⟩ := x
 obtain ⟨yp, yr, yn⟩ := y
 exact walk (code := Tryz.f98.body.getD .skip) [Sy.c S1, eb e1, Sy.c S2, eb e2, Sy.c F, Sy.c J, Sy.c A, Sy.c W, Sy.c C, eb ec] fol Tryz.func98 (by kernel_rfl) (fun xs w => Tryz.call98 xs w) (by kernel_rfl)
theorem sgn_dec {x : Rl} {v : Int} (hr : 0 ≤ x.r) (h : signF x.p x.s x.r = v) : sgR x.val = v := by rw [← h, signF_eq _ _ _ hr]; rfl
theorem cmp_dec {x y : Rl} {v : Int} (hx : 0 ≤ x.r) (hy : 0 ≤ y.r) (h : Rl.cmpF x y = v) : Rl.cmp x y = v := by rw [← h, Rl.cmpF_eq x y hx hy]
theorem isq_eq2 {n k : Nat} (h1 : k * k ≤ n) (h2 : n < (k + 1) * (k + 1)) : isq n = k := by
 obtain ⟨h3, h4⟩ := isq_spec n
 rcases Nat.lt_trichotomy (isq n) k with h | h | h
 ·have := Nat.mul_le_mul (show isq n + 1 ≤ k by omega) (show isq n + 1 ≤ k by omega); omega
 ·exact h
 ·have := Nat.mul_le_mul (show k + 1 ≤ isq n by omega) (show k + 1 ≤ isq n by omega); omega
theorem fl_eq {x : Rl} {n : Int} (hx : x.Ok) (h : RR.IsFl x.val n) : fl x = n := (fl_ok x hx).unique h
theorem isFl_rat (n : Int) : RR.IsFl (RR.ofRat (n : Rat)) n := ⟨RR.le_refl _, RR.rat_lt.2 (by rw [Rat.intCast_add]; have : ((1 : Int) : Rat) = 1 := rfl
                                                                                              grind)⟩
theorem fl_rat (n : Int) : fl (Rl.rat (n : Rat)) = n := fl_eq (Rl.rat_ok _) (by rw [Rl.rat_val]; exact isFl_rat n)
theorem ok2 (p : Rat) : (⟨p, 2, false⟩ : Rl).Ok := ok_nat p 2 1 false (by omega) (by omega) (by omega)
theorem fl_r2 : fl ⟨0, 2, false⟩ = 1 := by
 show (0 * 1 + ((isq 2 : Nat) : Int)) / (1 * 1) = 1
 rw [isq_eq2 (k := 1) (by omega) (by omega)]; rfl
theorem fl_r12 : fl ⟨1, 2, false⟩ = 2 := by
 show (1 * 1 + ((isq 2 : Nat) : Int)) / (1 * 1) = 2
 rw [isq_eq2 (k := 1) (by omega) (by omega)]; rfl
theorem two0 : (0 : Rat) ≤ 2 := by decide +kernel
instance (p q : Rat) (b : Bool) (k : Nat) [h : HasSz p k] : HasSz (⟨p, q, b⟩ : Rl).p k := h
instance (p q : Rat) (b : Bool) (k : Nat) [h : HasSz q k] : HasSz (⟨p, q, b⟩ : Rl).r k := h
instance (p : Rat) (k : Nat) [h : HasSz p k] : HasSz (Rl.rat p).p k := h
instance (p : Rat) : HasSz (Rl.rat p).r 1 := (inferInstance : HasSz (0 : Rat) 1)
instance : HasSz (3 : Rat) 1 := ⟨by unfold Sz; decide⟩
theorem hsc {q : Rat} (h : q.num.natAbs < 256 ∧ q.den < 256) : HasSz q 1 := ⟨by rw [Nat.pow_one]; exact h.1, by rw [Nat.pow_one]; exact h.2⟩
theorem size_small {x : Int} (h : x.natAbs < 256) : (mg x).size ≤ 1 := by rw [mg_nd]; exact nd_le 256 (by omega) _ 1 (by omega)
theorem simp2 : Sp Tryz.prog 98 [] [rlV (Rl.rat 2), rlV ⟨1, 2, false⟩] (rV (7 / 3)) [] := by
 haveI z1 : HasSz ((1 : Rat) / 3) 1 := hsc (by decide +kernel)
 have S1 := qSgnR (Rl.rat 2) Rat.le_refl
 rw [sgn_dec (v := 1) Rat.le_refl (by decide +kernel)] at S1
 have S2 := qSgnR ⟨1, 2, false⟩ two0
 rw [sgn_dec (v := 1) two0 (by decide +kernel)] at S2
 have F := qFlr (Rl.rat 2) Rat.le_refl
 rw [show fl (Rl.rat 2) = 2 from fl_rat 2] at F
 have A := iAdd 2 1 (Nat.le_trans (size_small (by decide)) (by omega)) (Nat.le_trans (size_small (by decide)) (by omega))
 have W := qWhole 3 (Nat.le_trans (size_small (by decide)) (by omega))
 have C := qCmpR ⟨1, 2, false⟩ 3 two0
 rw [cmp_dec (v := -1) two0 Rat.le_refl (by decide +kernel)] at C
 have W2 := qWhole 2 (Nat.le_trans (size_small (by decide)) (by omega))
 have N := pNeg 2
 have H1 := qShift (Rl.rat 2) (-2) fz fz
 rw [show (⟨(Rl.rat 2).p + -2, (Rl.rat 2).r, (Rl.rat 2).neg⟩ : Rl) = Rl.rat 0 by unfold Rl.rat; simp; decide +kernel] at H1
 have H2 := qShift ⟨1, 2, false⟩ (-2) fz fz
 rw [show (1 : Rat) + -2 = -1 by decide +kernel] at H2
 have V := qInverse ⟨-1, 2, false⟩ (ok2 _) (by intro e; have := congrArg Rl.r e; exact absurd this (by decide +kernel))
 rw [show Rl.inv ⟨-1, 2, false⟩ = ⟨1, 2, false⟩ by
  unfold Rl.inv Rl.cj Rl.scR Rl.nm
  rw [if_neg (by decide +kernel)]
  simp only [Rl.mk.injEq]
  refine ⟨by decide +kernel, by decide +kernel, by decide +kernel⟩] at V
 have F2 := qFlr ⟨1, 2, false⟩ two0
 rw [fl_r12] at F2
 have S3 := qSgnR (Rl.rat 0) Rat.le_refl
 rw [sgn_dec (v := 0) Rat.le_refl (by decide +kernel)] at S3
 have I := pI 1 (by omega) (by omega)
 have Q := qQuot 1 3 (by decide +kernel) fz fz
 have U := pSub (1 / 3) (-2) fz fz
 rw [show (1 : Rat) / 3 - -2 = 7 / 3 by decide +kernel] at U
 exact simpLast _ _ _ _ _ _ _ _ _ _ _ _ _ _ _ _ _ _ _ rfl rfl rfl S1 S2 F (iFromInt 1 (by omega) (by omega)) A W C W2 N H1 H2 V I F2 A W S3 Q U
theorem simp1 : Sp Tryz.prog 98 [] [rlV ⟨0, 2, false⟩, rlV (Rl.rat (3 / 2))] (rV (10 / 7)) [] := by
 haveI z0 : HasSz ((3 : Rat) / 2) 1 := hsc (by decide +kernel)
 haveI z1 : HasSz ((1 : Rat) / 2) 1 := hsc (by decide +kernel)
 haveI z2 : HasSz ((7 : Rat) / 3) 1 := hsc (by decide +kernel)
 haveI z3 : HasSz ((3 : Rat) / 7) 1 := hsc (by decide +kernel)
 have S1 := qSgnR ⟨0, 2, false⟩ two0
 rw [sgn_dec (v := 1) two0 (by decide +kernel)] at S1
 have S2 := qSgnR (Rl.rat (3 / 2)) Rat.le_refl
 rw [sgn_dec (v := 1) Rat.le_refl (by decide +kernel)] at S2
 have F := qFlr ⟨0, 2, false⟩ two0
 rw [fl_r2] at F
 have A := iAdd 1 1 (Nat.le_trans (size_small (by decide)) (by omega)) (Nat.le_trans (size_small (by decide)) (by omega))
 have W := qWhole 2 (Nat.le_trans (size_small (by decide)) (by omega))
 have C := qCmpR (Rl.rat (3 / 2)) 2 Rat.le_refl
 rw [cmp_dec (v := -1) Rat.le_refl Rat.le_refl (by decide +kernel)] at C
 have W2 := qWhole 1 (Nat.le_trans (size_small (by decide)) (by omega))
 have N := pNeg 1
 have H1 := qShift ⟨0, 2, false⟩ (-1) fz fz
 rw [show (0 : Rat) + -1 = -1 by decide +kernel] at H1
 have H2 := qShift (Rl.rat (3 / 2)) (-1) fz fz
 rw [show (⟨(Rl.rat (3 / 2)).p + -1, (Rl.rat (3 / 2)).r, (Rl.rat (3 / 2)).neg⟩ : Rl) = Rl.rat (1 / 2) by unfold Rl.rat; simp; decide +kernel] at H2
 have V := qInverse (Rl.rat (1 / 2)) (Rl.rat_ok _) (by intro e; have := congrArg Rl.p e; exact absurd this (by decide +kernel))
 rw [show Rl.inv (Rl.rat (1 / 2)) = Rl.rat 2 by unfold Rl.inv; rw [if_pos (show (Rl.rat (1 / 2)).r = 0 from rfl)]; unfold Rl.rat; simp only [Rl.mk.injEq]; exact ⟨by decide +kernel, trivial, trivial⟩] at V
 have F2 := qFlr (Rl.rat 2) Rat.le_refl
 rw [show fl (Rl.rat 2) = 2 from fl_rat 2] at F2
 have A2 := iAdd 2 1 (Nat.le_trans (size_small (by decide)) (by omega)) (Nat.le_trans (size_small (by decide)) (by omega))
 have W3 := qWhole 3 (Nat.le_trans (size_small (by decide)) (by omega))
 have S3 := qSgnR ⟨-1, 2, false⟩ two0
 rw [sgn_dec (v := 1) two0 (by decide +kernel)] at S3
 have V2 := qInverse ⟨-1, 2, false⟩ (ok2 _) (by intro e; have := congrArg Rl.r e; exact absurd this (by decide +kernel))
 rw [show Rl.inv ⟨-1, 2, false⟩ = ⟨1, 2, false⟩ by
  unfold Rl.inv Rl.cj Rl.scR Rl.nm
  rw [if_neg (by decide +kernel)]
  simp only [Rl.mk.injEq]
  refine ⟨by decide +kernel, by decide +kernel, by decide +kernel⟩] at V2
 have I := pI 1 (by omega) (by omega)
 have Q := qQuot 1 (7 / 3) (by decide +kernel) fz fz
 rw [show (1 : Rat) / (7 / 3) = 3 / 7 by decide +kernel] at Q
 have U := pSub (3 / 7) (-1) fz fz
 rw [show (3 : Rat) / 7 - -1 = 10 / 7 by decide +kernel] at U
 exact simpStep _ _ _ _ _ _ _ _ _ _ _ _ _ _ _ _ _ _ _ _ _ _ rfl rfl rfl rfl S1 S2 F (iFromInt 1 (by omega) (by omega)) A W C W2 N H1 H2 V I F2 A2 W3 S3 V2 simp2 Q U
theorem vRoot3 (p q r : Int) (hp : -255 ≤ p ∧ p ≤ 255) (hq : -255 ≤ q ∧ q ≤ 255) (hr : -255 ≤ r ∧ r ≤ 255) : Sp Tryz.prog 79 [] [nV p, nV q, nV r] (rlV (mkR (p : Rat) (q : Rat) (r : Rat))) [] := by
 have A := gWhole p (by omega) (by omega)
 have B := gWhole q (by omega) (by omega)
 have C := gWhole r (by omega) (by omega)
 haveI z1 : HasSz (p : Rat) 1 := int1_hs hp
 haveI z2 : HasSz (q : Rat) 1 := int1_hs hq
 haveI z3 : HasSz (r : Rat) 1 := int1_hs hr
 have K := gMake (p : Rat) (q : Rat) (r : Rat)
 clear z1 z2 z3 hp hq hr
 generalize mkR (p : Rat) (q : Rat) (r : Rat) = y at *
 generalize (p : Rat) = t1 at *
 generalize (q : Rat) = t2 at *
 generalize (r : Rat) = t3 at *
 exact walk (code := Tryz.f79.body.getD .skip) [c A, c B, c C, c K] fol Tryz.func79 (by kernel_rfl) (fun xs w => Tryz.call79 xs w) (by kernel_rfl)
theorem qBetween (x y : Rl) (v : Rat) (c : Int) (ec : decide (c ≥ 0) = false) (C : Sp Tryz.prog 26 [] [rlV x, rlV y] (nV c) []) (R : Sp Tryz.prog 98 [] [rlV x, rlV y] (rV v) []) : Sp Tryz.prog 39 [] [rlV x, rlV y] (.tuple #[rV v, nV 0]) [] := by
 exact walk (code := Tryz.f39.body.getD .skip) [Sy.c C, eb ec, Sy.c R] fol Tryz.func39 (by kernel_rfl) (fun xs w => Tryz.call39 xs w) (by kernel_rfl)
theorem vKnown3 : Sp Tryz.prog 17 [] [] (.bool true) [] := by
 have i2 : ∀ w : Rat, w * w ≠ 2 := irr_nat 2 1 (by omega) (by omega)
 have i8 : ∀ w : Rat, w * w ≠ 8 := irr_nat 8 2 (by omega) (by omega)
 have mA : mkR 1 (-1) 2 = ⟨1, 2, true⟩ := by rw [mkR_irr _ _ _ i2]; simp only [Rl.mk.injEq]; exact ⟨trivial, by decide +kernel, by decide +kernel⟩
 have mB : mkR 1 1 2 = ⟨1, 2, false⟩ := by rw [mkR_irr _ _ _ i2]; simp only [Rl.mk.injEq]; exact ⟨trivial, by decide +kernel, by decide +kernel⟩
 have mC : mkR 0 1 2 = ⟨0, 2, false⟩ := by rw [mkR_irr _ _ _ i2]; simp only [Rl.mk.injEq]; exact ⟨trivial, by decide +kernel, by decide +kernel⟩
 have mD : mkR 0 3 8 = ⟨0, 72, false⟩ := by rw [mkR_irr _ _ _ i8]; simp only [Rl.mk.injEq]; exact ⟨trivial, by decide +kernel, by decide +kernel⟩
 haveI z8 : HasSz (8 : Rat) 1 := hsc (by decide +kernel)
 haveI z0 : HasSz ((3 : Rat) / 2) 1 := hsc (by decide +kernel)
 have W1 := gWhole (-1) (by omega) (by omega)
 have W2 := gWhole (-2) (by omega) (by omega)
 have W3 := gWhole 1 (by omega) (by omega)
 have W4 := gWhole 72 (by omega) (by omega)
 have R := (qRootsQ (-1) (-2) 1 1 2 (by decide +kernel) (by decide +kernel) (by decide +kernel)).2.2 (by decide +kernel)
 have P0 := pI 0 (by omega) (by omega)
 have V0 := gWhole 0 (by omega) (by omega)
 have V3 := gWhole 3 (by omega) (by omega)
 have V8 := gWhole 8 (by omega) (by omega)
 have M := qMake 0 3 8 (by decide +kernel)
 have D := rOf 3 2 (by omega) (by omega) (by omega) (by omega) (by omega)
 have e32 : Rat.divInt 3 2 = 3 / 2 := by decide +kernel
 rw [e32] at D
 have D2 := rOf 10 7 (by omega) (by omega) (by omega) (by omega) (by omega)
 have e107 : Rat.divInt 10 7 = 10 / 7 := by decide +kernel
 rw [e107] at D2
 have G := gOf (3 / 2)
 have Q1 := vRoot3 0 1 2 (by omega) (by omega) (by omega)
 have Q2 := vRoot3 1 (-1) 2 (by omega) (by omega) (by omega)
 have Q3 := vRoot3 1 1 2 (by omega) (by omega) (by omega)
 rw [show mkR ((0 : Int) : Rat) ((1 : Int) : Rat) ((2 : Int) : Rat) = ⟨0, 2, false⟩ from mC] at Q1
 rw [show mkR ((1 : Int) : Rat) ((-1 : Int) : Rat) ((2 : Int) : Rat) = ⟨1, 2, true⟩ from mA] at Q2
 rw [show mkR ((1 : Int) : Rat) ((1 : Int) : Rat) ((2 : Int) : Rat) = ⟨1, 2, false⟩ from mB] at Q3
 rw [mA, mB] at R
 rw [mD] at M
 have C := qCmp ⟨0, 2, false⟩ (Rl.rat (3 / 2)) two0 Rat.le_refl
 rw [cmp_dec (v := -1) two0 Rat.le_refl (by decide +kernel)] at C
 have B := qBetween _ _ _ _ rfl C simp1
 have C2 := qCmp ⟨1, 2, true⟩ ⟨1, 2, false⟩ two0 two0
 rw [cmp_dec (v := -1) two0 two0 (by decide +kernel)] at C2
 have x1 := sameL ⟨1, 2, true⟩
 have x2 := sameL ⟨1, 2, false⟩
 have x3 := same (10 / 7)
 have e72 : rlV ⟨0, 72, false⟩ = .agg #[.bool false, .string ⟨#[]⟩, .bool false, .string ⟨#[]⟩, .bool (sg (72 : Rat).num), .string (mg (72 : Rat).num), .bool (sg (dn 72)), .string (mg (dn 72)), .bool false] := by
  unfold rlV
  rw [show (0 : Rat).num = 0 from rfl, show dn 0 = 0 from rfl, sg0, mg0]
 have x4 := sameL ⟨0, 72, false⟩
 rw [e72] at x4 M
 rw [show ((-1 : Int) : Rat) = -1 from rfl] at W1
 rw [show ((-2 : Int) : Rat) = -2 from rfl] at W2
 rw [show ((1 : Int) : Rat) = 1 from rfl] at W3
 rw [show ((72 : Int) : Rat) = 72 from rfl] at W4
 rw [show ((0 : Int) : Rat) = 0 from rfl] at V0
 rw [show ((3 : Int) : Rat) = 3 from rfl] at V3
 rw [show ((8 : Int) : Rat) = 8 from rfl] at V8
 clear C mA mB mC mD i2 i8 z8 z0 e32 e107 e72 P0
 generalize Rl.rat (3 / 2) = y1 at *
 generalize (⟨1, 2, true⟩ : Rl) = y2 at *
 generalize (⟨1, 2, false⟩ : Rl) = y3 at *
 generalize (⟨0, 2, false⟩ : Rl) = y4 at *
 generalize (10 / 7 : Rat) = t1 at *
 generalize (3 / 2 : Rat) = t2 at *
 generalize (-1 : Rat) = t3 at *
 generalize (-2 : Rat) = t4 at *
 generalize (72 : Rat) = t5 at *
 generalize (8 : Rat) = t6 at *
 generalize (3 : Rat) = t7 at *
 generalize (1 : Rat) = t8 at *
 generalize (0 : Rat) = t9 at *
 exact walk (code := Tryz.f17.body.getD .skip) [c W1, c W2, c W3, cr R, c V0, c V3, c V8, c M, c Q1, c D, c G, c B, c Q2, Sy.x2 x1, c Q3, Sy.x2 x2, c W4, Sy.x2 x4, c D2, Sy.x2 x3, c C2] fol Tryz.func17 (by kernel_rfl) (fun xs w => Tryz.call17 xs w) (by kernel_rfl)
end Go.Proofs.YthdaimoankaciaaGreatDoor
set_option linter.unusedSimpArgs false
set_option linter.unusedVariables false
namespace Go.Proofs.YthdaimoankaciaaGreatDoor
open Go Go.RowKit Go.Sy
open Vi
theorem jMul (x y : Int) (hx : (mg x).size ≤ 4294967290) (hy : (mg y).size ≤ 4294967290) : Sp Tryz.prog 114 [] [iV x, iV y] (iV (x * y)) [] := Sp.of (fun xs w => Tryz.call114 xs w) (by kernel_rfl) (by kernel_rfl) (fun w => rMul_c x y _ rfl w hx hy)
theorem gCmpN (n : Int) (x : Rl) {i j k : Nat} [HasSz (n : Rat) i] [HasSz x.p j] [HasSz x.r k] (hx : 0 ≤ x.r) (hs : i + j + k ≤ 900 := by first | omega | decide) : Sp Tryz.prog 38 [] [rlV (Rl.rat (n : Rat)), rlV x] (nV (Rl.cmp (Rl.rat (n : Rat)) x)) [] := by
 haveI : HasSz (Rl.rat (n : Rat)).p i := ‹HasSz (n : Rat) i›
 haveI : HasSz (Rl.rat (n : Rat)).r 1 := (inferInstance : HasSz (0 : Rat) 1)
 exact gCompare (Rl.rat (n : Rat)) x Rat.le_refl hx
theorem int_hs' (z : Int) (k : Nat) (h : (mg z).size ≤ k) (hk : 1 ≤ k) : HasSz (z : Rat) k := by
 refine sz_of_mg (by rw [Rat.num_intCast]; exact h) ?_ hk
 rw [dn_int, mg0]; exact Nat.zero_le _
theorem gFloor (x : Rl) (k : Nat) (hk : k ≤ 60) (hk1 : 1 ≤ k) (hx : x.Ok) [hp : HasSz x.p k] [hr : HasSz x.r k] : Sp Tryz.prog 46 [] [rlV x] (rV ((fl x : Int) : Rat)) [] := by
 have s3 := hr.sz.num
 have s4 := hr.sz.den
 have m3 := mg_mul x.r.num x.r.den
 have m5 := isq_mg (x.r.num * (x.r.den : Int))
 have d2 := den_pos' x.r
 have hn : 0 ≤ x.r.num * (x.r.den : Int) := Int.mul_nonneg (Rat.num_nonneg.2 hx.nonneg) (Int.le_of_lt d2)
 obtain ⟨h1, h2⟩ := root_near isq isq_all x.r hx.nonneg
 have fn := floor_near h1 h2 (fl_ok x hx)
 have M := jMul x.r.num (x.r.den : Int) (by omega) (by omega)
 have S := jSqrt _ hn (by omega)
 have F := jFromInt 1 (by omega) (by omega)
 have K := rMake ((isq (x.r.num * (x.r.den : Int)).toNat : Nat) : Int) (x.r.den : Int) (by omega) (by rw [← mg_nd]; omega) (by rw [← mg_nd]; omega)
 have sb := si_in x
 have Sd := gSide x
 have W := gWhole x.si (by omega) (by omega)
 rw [Rl.si_rat] at W
 obtain ⟨t, ht⟩ : ∃ t, t = Rat.divInt ((isq (x.r.num * (x.r.den : Int)).toNat : Nat) : Int) (x.r.den : Int) := ⟨_, rfl⟩
 haveI zt : HasSz t (2 * k) := by
  rw [ht]
  exact ⟨Sz.of _ _ (2 * k) (by omega) (nd_of_x (by rw [← mg_nd]; omega)) (nd_of_x (by rw [← mg_nd]; omega))⟩
 rw [← ht] at K fn
 have U := rMul x.s t fz fz
 have A := rAdd x.p (x.s * t) fz fz
 have L := rFloor (x.p + x.s * t) fz
 have z0 := fl_size x k
 obtain ⟨m, hm⟩ : ∃ m, m = fl x := ⟨_, rfl⟩
 have hf := fl_ok x hx
 have b1 := mg_add (fl x) 1
 have b2 := mg_sub (fl x) 1
 rw [mg_one] at b1 b2
 rw [← hm] at z0 hf fn b1 b2 ⊢
 haveI y0 : HasSz (m : Rat) (6 * k + 6) := int_hs' m _ (by omega) (by omega)
 haveI y1 : HasSz ((m + 1 : Int) : Rat) (6 * k + 6) := int_hs' _ _ (by omega) (by omega)
 haveI y2 : HasSz ((m - 1 : Int) : Rat) (6 * k + 6) := int_hs' _ _ (by omega) (by omega)
 have C0 := gCmpN m x hx.nonneg
 have C1 := gCmpN (m + 1) x hx.nonneg
 have C2 := gCmpN (m - 1) x hx.nonneg
 obtain ⟨q0, q1⟩ := cmp_fl hf
 have q2 := cmp_fl_low hf
 rw [q1] at C1
 rw [q2] at C2
 have O0 := gOf (m : Rat)
 have O1 := gOf ((m + 1 : Int) : Rat)
 have O2 := gOf ((m - 1 : Int) : Rat)
 have N := gOne
 have e1 : ((m + 1 : Int) : Rat) = (m : Rat) + 1 := by rw [Rat.intCast_add]; rfl
 have e2 : ((m - 1 : Int) : Rat) = (m : Rat) - 1 := by rw [Rat.intCast_sub]; rfl
 have P1 := rAdd (m : Rat) 1 fz fz
 have P2 := rSub ((m + 1 : Int) : Rat) 1 fz fz
 have P3 := rAdd ((m - 1 : Int) : Rat) 1 fz fz
 rw [← e1] at P1
 rw [show ((m + 1 : Int) : Rat) - 1 = (m : Rat) by rw [e1]; grind] at P2
 rw [show ((m - 1 : Int) : Rat) + 1 = (m : Rat) by rw [e2]; grind] at P3
 have g0 : decide (Rl.cmp (Rl.rat (m : Rat)) x > 0) = false := decide_eq_false (by omega)
 have g1 : decide (Rl.cmp (Rl.rat (m : Rat)) x ≤ 0) = true := decide_eq_true q0
 have bI : (x.r.num * (x.r.den : Int)) = (x.r.num * (x.r.den : Int)) := rfl
 have hden : ((x.r.den : Int) = 1 ∧ dn x.r = 0) ∨ dn x.r = (x.r.den : Int) := by
  unfold dn
  split
  ·next e => exact .inl ⟨by rw [e]; rfl, rfl⟩
  ·exact .inr rfl
 have Bz : dn x.r = 0 → Bin .eql 23 (iV (dn x.r)) iZ (.bool true) := fun e => binI0 _ (by rw [e]; rfl)
 have Bn : dn x.r = (x.r.den : Int) → Bin .eql 23 (iV (dn x.r)) iZ (.bool false) := fun e => binI0 _ (by rw [e]; simp; omega)
 clear zt y0 y1 y2 hf b1 b2 z0 q0 q1 q2 h1 h2 hm s3 s4 m3 m5 hn hk hk1 sb e1 e2 ht bI
 generalize Rl.cmp (Rl.rat (m : Rat)) x = c0 at *
 generalize ((isq (x.r.num * (x.r.den : Int)).toNat : Nat) : Int) = s1 at *
 generalize x.r.num * (x.r.den : Int) = s2 at *
 generalize (x.r.den : Int) = D at *
 generalize Rl.rat (m : Rat) = r0 at *
 generalize Rl.rat ((m + 1 : Int) : Rat) = r1 at *
 generalize Rl.rat ((m - 1 : Int) : Rat) = r2 at *
 rcases fn with fn | fn | fn
 ·rw [← fn] at L
  clear fn
  generalize ((m + 1 : Int) : Rat) = u1 at *
  generalize ((m - 1 : Int) : Rat) = u2 at *
  generalize (m : Rat) = u0 at *
  generalize x.p + x.s * t = v1 at *
  generalize x.s * t = v2 at *
  generalize x.s = v3 at *
  generalize x.si = v4 at *
  generalize (1 : Rat) = one at *
  rcases hden with ⟨d1, d0⟩ | d0
  ·have B := Bz d0
   subst d1
   clear Bz Bn d0 d2 hx hp hr
   obtain ⟨p, r, neg⟩ := x
   dsimp only at *
   exact walk (code := Tryz.f46.body.getD .skip) [x2 B, c F, c M, c S, c K, c Sd, c W, c U, c A, c L, c O0, c C0, eb g0, c N, c P1, c O1, c C1] fol Tryz.func46 (by kernel_rfl) (fun xs w => Tryz.call46 xs w) (by kernel_rfl)
  ·have B := Bn d0
   subst d0
   clear Bz Bn d2 hx hp hr
   obtain ⟨p, r, neg⟩ := x
   dsimp only at *
   exact walk (code := Tryz.f46.body.getD .skip) [x2 B, c M, c S, c K, c Sd, c W, c U, c A, c L, c O0, c C0, eb g0, c N, c P1, c O1, c C1] fol Tryz.func46 (by kernel_rfl) (fun xs w => Tryz.call46 xs w) (by kernel_rfl)
 ·rw [show (x.p + x.s * t).floor = m - 1 by omega] at L
  clear fn
  generalize ((m + 1 : Int) : Rat) = u1 at *
  generalize ((m - 1 : Int) : Rat) = u2 at *
  generalize (m : Rat) = u0 at *
  generalize x.p + x.s * t = v1 at *
  generalize x.s * t = v2 at *
  generalize x.s = v3 at *
  generalize x.si = v4 at *
  generalize (1 : Rat) = one at *
  rcases hden with ⟨d1, d0⟩ | d0
  ·have B := Bz d0
   subst d1
   clear Bz Bn d0 d2 hx hp hr
   obtain ⟨p, r, neg⟩ := x
   dsimp only at *
   exact walk (code := Tryz.f46.body.getD .skip) [x2 B, c F, c M, c S, c K, c Sd, c W, c U, c A, c L, c O2, c C2, c N, c P3, c O0, c C0, eb g1, c N, c P3, c N, c P1, c O1, c C1] fol Tryz.func46 (by kernel_rfl) (fun xs w => Tryz.call46 xs w) (by kernel_rfl)
  ·have B := Bn d0
   subst d0
   clear Bz Bn d2 hx hp hr
   obtain ⟨p, r, neg⟩ := x
   dsimp only at *
   exact walk (code := Tryz.f46.body.getD .skip) [x2 B, c M, c S, c K, c Sd, c W, c U, c A, c L, c O2, c C2, c N, c P3, c O0, c C0, eb g1, c N, c P3, c N, c P1, c O1, c C1] fol Tryz.func46 (by kernel_rfl) (fun xs w => Tryz.call46 xs w) (by kernel_rfl)
 ·rw [show (x.p + x.s * t).floor = m + 1 by omega] at L
  clear fn
  generalize ((m + 1 : Int) : Rat) = u1 at *
  generalize ((m - 1 : Int) : Rat) = u2 at *
  generalize (m : Rat) = u0 at *
  generalize x.p + x.s * t = v1 at *
  generalize x.s * t = v2 at *
  generalize x.s = v3 at *
  generalize x.si = v4 at *
  generalize (1 : Rat) = one at *
  rcases hden with ⟨d1, d0⟩ | d0
  ·have B := Bz d0
   subst d1
   clear Bz Bn d0 d2 hx hp hr
   obtain ⟨p, r, neg⟩ := x
   dsimp only at *
   exact walk (code := Tryz.f46.body.getD .skip) [x2 B, c F, c M, c S, c K, c Sd, c W, c U, c A, c L, c O1, c C1, c N, c P2, c O0, c C0, eb g0, c N, c P1, c O1, c C1] fol Tryz.func46 (by kernel_rfl) (fun xs w => Tryz.call46 xs w) (by kernel_rfl)
  ·have B := Bn d0
   subst d0
   clear Bz Bn d2 hx hp hr
   obtain ⟨p, r, neg⟩ := x
   dsimp only at *
   exact walk (code := Tryz.f46.body.getD .skip) [x2 B, c M, c S, c K, c Sd, c W, c U, c A, c L, c O1, c C1, c N, c P2, c O0, c C0, eb g0, c N, c P1, c O1, c C1] fol Tryz.func46 (by kernel_rfl) (fun xs w => Tryz.call46 xs w) (by kernel_rfl)
theorem gCeil (x : Rl) (k : Nat) (hk : k ≤ 60) (hk1 : 1 ≤ k) (hx : x.Ok) [hp : HasSz x.p k] [hr : HasSz x.r k] : Sp Tryz.prog 48 [] [rlV x] (rV ((-fl x.ngR : Int) : Rat)) [] := by
 haveI z1 : HasSz x.ngR.p k := ⟨hp.sz.neg⟩
 haveI z2 : HasSz x.ngR.r k := hr
 have N := gNeg x hx
 have F := gFloor x.ngR k hk hk1 (Rl.ngR_ok hx)
 have M := rNeg ((fl x.ngR : Int) : Rat)
 rw [show -((fl x.ngR : Int) : Rat) = ((-fl x.ngR : Int) : Rat) by rw [Rat.intCast_neg]] at M
 clear z1 z2
 generalize ((-fl x.ngR : Int) : Rat) = t1 at *
 generalize ((fl x.ngR : Int) : Rat) = t2 at *
 generalize x.ngR = y at *
 exact walk (code := Tryz.f48.body.getD .skip) [c N, c F, c M] fol Tryz.func48 (by kernel_rfl) (fun xs w => Tryz.call48 xs w) (by kernel_rfl)
def stE3 (n i : Nat) (x : Rl) : St := ⟨29, 0, [(1, nV n), (2, ptr 0 0), (4, ptr 1 0), (5, ptr 2 0), (6, ptr 3 0), (7, nV i)], junk, [(0, blk 27 [.bool (sg x.p.num), .string (mg x.p.num), .bool (sg (dn x.p)), .string (mg (dn x.p)), .bool (sg x.r.num), .string (mg x.r.num), .bool (sg (dn x.r)), .string (mg (dn x.r)), .bool x.neg]), (1, blk 25 [.bool false, .string ⟨#[]⟩, .bool false, .string ⟨#[]⟩]), (2, blk 25 [.bool false, .string ⟨#[]⟩, .bool false, .string ⟨#[]⟩]), (3, blk 25 (rC ((p2 i : Int) : Rat)))], 4⟩
theorem p2_two (i : Nat) : ((p2 i : Int) : Rat) * 2 = ((p2 (i + 1) : Int) : Rat) := by
 unfold p2
 rw [Int.pow_succ, Rat.intCast_mul]; rfl
theorem p2_hs (n : Nat) (h : n ≤ 64) : HasSz ((p2 n : Int) : Rat) 9 := int_hs' _ 9 (p2_size n 9 (by omega)) (by omega)
theorem e3_loop (x : Rl) (n : Nat) (hn : n ≤ 64) : ∀ m i, i + m = n → RoundsOk Tryz.prog (nthLoop 0 (Tryz.f58.body.getD .skip)) (stE3 n i x) (.exit 0) (stE3 n n x)
 | 0, i, hi => by
  obtain rfl : i = n := by omega
  have e : decide ((i : Int) < (i : Int)) = false := decide_eq_false (by omega)
  refine .out (by simp) ?_
  unfold stE3 rC
  generalize ((p2 i : Int) : Rat) = z at *
  exact piece [(0, 0), (1, 1), (2, 2), (3, 3)] [eb e] fol (by kernel_rfl)
 | m + 1, i, hi => by
  have e : decide ((i : Int) < (n : Int)) = true := decide_eq_true (by omega)
  have w1 : IntKind.i64.wrap ((i : Int) + 1) = ((i + 1 : Nat) : Int) := by rw [w64 (by omega) (by omega)]; omega
  haveI := p2_hs i (by omega)
  have W := gWhole 2 (by omega) (by omega)
  rw [show ((2 : Int) : Rat) = 2 from rfl] at W
  have M := rMul ((p2 i : Int) : Rat) 2 fz fz
  rw [p2_two] at M
  have ih := e3_loop x n hn m (i + 1) (by omega)
  refine .more ?_ ih
  unfold stE3 rC
  generalize ((p2 (i + 1) : Int) : Rat) = z2 at *
  generalize ((p2 i : Int) : Rat) = z at *
  generalize (2 : Rat) = two at *
  exact piece [(0, 0), (1, 1), (2, 2), (3, 3)] [eb e, c W, c M, Go.Sy.e (congrArg (Value.int IntKind.i64) w1)] fol (by kernel_rfl)
theorem gEnclose (x : Rl) (n : Nat) (hn : n ≤ 64) (hx : x.Ok) [hp : HasSz x.p 8] [hr : HasSz x.r 8] : Sp Tryz.prog 58 [] [rlV x, nV n] (.tuple #[rV (Rat.divInt (fl (x.scR ((p2 n : Int) : Rat))) (p2 n)), rV (Rat.divInt (-fl (x.scR ((p2 n : Int) : Rat)).ngR) (p2 n))]) [] := by
 have O := gOne
 rw [show (1 : Rat) = ((p2 0 : Int) : Rat) from rfl] at O
 have hl := (e3_loop x n hn n 0 (by omega)).loop
 haveI := p2_hs n hn
 have hP := p2_rat n
 have S := gScale x ((p2 n : Int) : Rat) hx
 have ok := Rl.scR_ok hx ((p2 n : Int) : Rat)
 have j1 : HasSz (x.scR ((p2 n : Int) : Rat)).p 40 := hs_mono (inferInstance : HasSz (x.p * ((p2 n : Int) : Rat)) _) (by omega)
 have j2 : HasSz (x.scR ((p2 n : Int) : Rat)).r 40 := hs_mono (inferInstance : HasSz (((p2 n : Int) : Rat) * ((p2 n : Int) : Rat) * x.r) _) (by omega)
 have F := gFloor (x.scR ((p2 n : Int) : Rat)) 40 (by omega) (by omega) ok
 have C := gCeil (x.scR ((p2 n : Int) : Rat)) 40 (by omega) (by omega) ok
 have z1 := fl_size (x.scR ((p2 n : Int) : Rat)) 40
 have j3 : HasSz (x.scR ((p2 n : Int) : Rat)).ngR.p 40 := ⟨j1.sz.neg⟩
 have j4 : HasSz (x.scR ((p2 n : Int) : Rat)).ngR.r 40 := j2
 have z2 := fl_size (x.scR ((p2 n : Int) : Rat)).ngR 40
 haveI y1 := int_hs' (fl (x.scR ((p2 n : Int) : Rat))) 300 (by omega) (by omega)
 haveI y2 := int_hs' (-fl (x.scR ((p2 n : Int) : Rat)).ngR) 300 (by rw [mg_neg]; omega) (by omega)
 have D1 := rDiv ((fl (x.scR ((p2 n : Int) : Rat)) : Int) : Rat) ((p2 n : Int) : Rat) (by grind) fz fz
 have D2 := rDiv ((-fl (x.scR ((p2 n : Int) : Rat)).ngR : Int) : Rat) ((p2 n : Int) : Rat) (by grind) fz fz
 rw [← Rat.divInt_eq_div] at D1 D2
 unfold stE3 rC at hl
 clear j1 j2 j3 j4 z1 z2 y1 y2 ok hP
 generalize Rat.divInt (fl (x.scR ((p2 n : Int) : Rat))) (p2 n) = y1 at *
 generalize Rat.divInt (-fl (x.scR ((p2 n : Int) : Rat)).ngR) (p2 n) = y2 at *
 generalize ((-fl (x.scR ((p2 n : Int) : Rat)).ngR : Int) : Rat) = y3 at *
 generalize ((fl (x.scR ((p2 n : Int) : Rat)) : Int) : Rat) = y4 at *
 generalize x.scR ((p2 n : Int) : Rat) = y5 at *
 generalize ((p2 n : Int) : Rat) = y6 at *
 generalize ((p2 0 : Int) : Rat) = y7 at *
 obtain ⟨p, r, neg⟩ := x
 dsimp only at *
 exact walk (code := Tryz.f58.body.getD .skip) [c O, lp [(0, 0), (1, 1), (2, 2), (3, 3)] hl, c S, c F, c D1, c S, c C, c D2] fol Tryz.func58 (by kernel_rfl) (fun xs w => Tryz.call58 xs w) (by kernel_rfl)
theorem qEncloseNo (x : Rl) (n : Int) (h : n < 0 ∨ n > 256) : Sp Tryz.prog 57 [] [rlV x, nV n] (.tuple #[rZ, rZ, nV 2]) [] := by
 obtain ⟨p, r, neg⟩ := x
 by_cases h1 : n < 0
 ·have e1 : decide (n < 0) = true := decide_eq_true h1
  exact walk (code := Tryz.f57.body.getD .skip) [eb e1] fol Tryz.func57 (by kernel_rfl) (fun xs w => Tryz.call57 xs w) (by kernel_rfl)
 ·have e1 : decide (n < 0) = false := decide_eq_false h1
  have e2 : decide (n > 256) = true := decide_eq_true (by omega)
  exact walk (code := Tryz.f57.body.getD .skip) [eb e1, eb e2] fol Tryz.func57 (by kernel_rfl) (fun xs w => Tryz.call57 xs w) (by kernel_rfl)
end Go.Proofs.YthdaimoankaciaaGreatDoor
