/- Part 10 of the proof; what it holds is said text by text. -/
import Derived.Test.YtlblfgbpogljoaaGreatDoorQbI
import Derived.Test.YtlblfgbpogljoaaGreatDoorQbH
set_option linter.unusedSimpArgs false
set_option linter.unusedVariables false
section
/- The package quadratic: functions and their values at instants. -/
namespace Go.Proofs.YtlblfgbpogljoaaGreatDoor
open Go Go.RowKit Go.Sy
open Vi
theorem qV_c (a : Rat) : qV a 0 0 = .agg #[.bool (sg a.num), .string (mg a.num), .bool (sg (dn a)), .string (mg (dn a)), .bool false, .string ⟨#[]⟩, .bool false, .string ⟨#[]⟩, .bool false, .string ⟨#[]⟩, .bool false, .string ⟨#[]⟩] := by
 unfold qV
 rw [show (0 : Rat).num = 0 from rfl, show dn 0 = 0 from rfl, sg0, mg0]
theorem qV_l (a b : Rat) : qV a b 0 = .agg #[.bool (sg a.num), .string (mg a.num), .bool (sg (dn a)), .string (mg (dn a)), .bool (sg b.num), .string (mg b.num), .bool (sg (dn b)), .string (mg (dn b)), .bool false, .string ⟨#[]⟩, .bool false, .string ⟨#[]⟩] := by
 unfold qV
 rw [show (0 : Rat).num = 0 from rfl, show dn 0 = 0 from rfl, sg0, mg0]
theorem uConstant (a : Rat) : Sp Tryz.prog 63 [] [rV a] (qV a 0 0) [] := by
 rw [qV_c]
 exact walk (code := Tryz.f63.body.getD .skip) [] fol Tryz.func63 (by kernel_rfl) (fun xs w => Tryz.call63 xs w) (by kernel_rfl)
theorem uLinear (a b : Rat) : Sp Tryz.prog 64 [] [rV a, rV b] (qV a b 0) [] := by
 rw [qV_l]
 exact walk (code := Tryz.f64.body.getD .skip) [] fol Tryz.func64 (by kernel_rfl) (fun xs w => Tryz.call64 xs w) (by kernel_rfl)
theorem uEval (a b c t : Rat) {i j k l : Nat} [HasSz a i] [HasSz b j] [HasSz c k] [HasSz t l] (hs : i + j + k + l ≤ 3000 := by first | omega | decide) : Sp Tryz.prog 33 [] [qV a b c, rV t] (rV (evQ a b c t)) [] := by
 have M1 := pMul t c fz fz
 have A1 := pAdd b (t * c) fz fz
 have M2 := pMul t (b + t * c) fz fz
 have A2 := pAdd a (t * (b + t * c)) fz fz
 unfold evQ
 clear hs
 generalize a + t * (b + t * c) = t1 at *
 generalize t * (b + t * c) = t2 at *
 generalize b + t * c = t3 at *
 generalize t * c = t4 at *
 exact walk (code := Tryz.f33.body.getD .skip) [Sy.c M1, Sy.c A1, Sy.c M2, Sy.c A2] fol Tryz.func33 (by kernel_rfl) (fun xs w => Tryz.call33 xs w) (by kernel_rfl)
theorem uslope (a b c t : Rat) {i j k l : Nat} [HasSz a i] [HasSz b j] [HasSz c k] [HasSz t l] (hs : i + j + k + l ≤ 3000 := by first | omega | decide) : Sp Tryz.prog 103 [] [qV a b c, rV t] (rV (slQ b c t)) [] := by
 have A := pAdd c c fz fz
 have M := pMul (c + c) t fz fz
 have B := pAdd b ((c + c) * t) fz fz
 unfold slQ
 clear hs
 generalize b + (c + c) * t = t1 at *
 generalize (c + c) * t = t2 at *
 generalize c + c = t3 at *
 exact walk (code := Tryz.f103.body.getD .skip) [Sy.c A, Sy.c M, Sy.c B] fol Tryz.func103 (by kernel_rfl) (fun xs w => Tryz.call103 xs w) (by kernel_rfl)
theorem evQ_hs (a b c t : Rat) {i j k l : Nat} [HasSz a i] [HasSz b j] [HasSz c k] [HasSz t l] : HasSz (evQ a b c t) (i + j + k + l + l + 2) := hs_mono (inferInstance : HasSz (a + t * (b + t * c)) _) (by omega)
theorem slQ_hs (b c t : Rat) {j k l : Nat} [HasSz b j] [HasSz c k] [HasSz t l] : HasSz (slQ b c t) (j + k + k + l + 2) := hs_mono (inferInstance : HasSz (b + (c + c) * t) _) (by omega)
theorem atQ_hsp (a b c : Rat) (x : Rl) {i j k l m : Nat} [HasSz a i] [HasSz b j] [HasSz c k] [HasSz x.p l] [HasSz x.r m] : HasSz (atQ a b c x).p (4 * (i + j + k + l + m) + 10) := by
 haveI := evQ_hs a b c x.p
 haveI := slQ_hs b c x.p
 exact hs_mono (inferInstance : HasSz (mkR (evQ a b c x.p + c * x.r) (slQ b c x.p * x.s) x.r).p _) (by omega)
theorem atQ_hsr (a b c : Rat) (x : Rl) {i j k l m : Nat} [HasSz a i] [HasSz b j] [HasSz c k] [HasSz x.p l] [HasSz x.r m] : HasSz (atQ a b c x).r (4 * (i + j + k + l + m) + 10) := by
 haveI := evQ_hs a b c x.p
 haveI := slQ_hs b c x.p
 exact hs_mono (inferInstance : HasSz (mkR (evQ a b c x.p + c * x.r) (slQ b c x.p * x.s) x.r).r _) (by omega)
theorem uAt (a b c : Rat) (x : Rl) {i j k l m : Nat} [HasSz a i] [HasSz b j] [HasSz c k] [HasSz x.p l] [HasSz x.r m] (hx : 0 ≤ x.r) (hs : i + j + k + l + m ≤ 700 := by first | omega | decide) :
    Sp Tryz.prog 35 [] [qV a b c, rlV x] (rlV (atQ a b c x)) [] := by
 haveI := evQ_hs a b c x.p
 haveI := slQ_hs b c x.p
 have E := uEval a b c x.p
 have M := pMul c x.r fz fz
 have A := pAdd (evQ a b c x.p) (c * x.r) fz fz
 have S := uslope a b c x.p
 have N := pNeg (slQ b c x.p)
 have K := qMake (evQ a b c x.p + c * x.r) (slQ b c x.p * x.s) x.r hx
 rw [show mkR (evQ a b c x.p + c * x.r) (slQ b c x.p * x.s) x.r = atQ a b c x from rfl] at K
 have hsx : x.s = if x.neg then -1 else 1 := rfl
 generalize atQ a b c x = y at *
 obtain ⟨p, r, neg⟩ := x
 dsimp only at *
 cases neg
 ·rw [hsx, show slQ b c p * (if false = true then -1 else 1) = slQ b c p by show slQ b c p * 1 = _; grind] at K
  clear hs hx hsx
  generalize evQ a b c p + c * r = t1 at *
  generalize evQ a b c p = t2 at *
  generalize slQ b c p = t3 at *
  generalize c * r = t4 at *
  exact walk (code := Tryz.f35.body.getD .skip) [Sy.c E, Sy.c M, Sy.c A, Sy.c S, Sy.c K] fol Tryz.func35 (by kernel_rfl) (fun xs w => Tryz.call35 xs w) (by kernel_rfl)
 ·rw [hsx, show slQ b c p * (if true = true then -1 else 1) = -slQ b c p by show slQ b c p * -1 = _; grind] at K
  clear hs hx hsx
  generalize evQ a b c p + c * r = t1 at *
  generalize evQ a b c p = t2 at *
  generalize -slQ b c p = t5 at *
  generalize slQ b c p = t3 at *
  generalize c * r = t4 at *
  exact walk (code := Tryz.f35.body.getD .skip) [Sy.c E, Sy.c M, Sy.c A, Sy.c S, Sy.c N, Sy.c K] fol Tryz.func35 (by kernel_rfl) (fun xs w => Tryz.call35 xs w) (by kernel_rfl)
theorem uSignAt (a b c : Rat) (x : Rl) {i j k l m : Nat} [HasSz a i] [HasSz b j] [HasSz c k] [HasSz x.p l] [HasSz x.r m] (hx : 0 ≤ x.r) (hs : i + j + k + l + m ≤ 500 := by first | omega | decide) :
    Sp Tryz.prog 37 [] [qV a b c, rlV x] (nV (sgR (atQ a b c x).val)) [] := by
 have A := uAt a b c x hx
 haveI := atQ_hsp a b c x
 haveI := atQ_hsr a b c x
 have S := qSgnR (atQ a b c x) (mkR_ok _ _ _ hx).nonneg
 generalize sgR (atQ a b c x).val = s at *
 generalize atQ a b c x = y at *
 exact walk (code := Tryz.f37.body.getD .skip) [Sy.c A, Sy.c S] fol Tryz.func37 (by kernel_rfl) (fun xs w => Tryz.call37 xs w) (by kernel_rfl)
theorem rd1_sl (b c p : Rat) : slQ b c p = rd1 b c p := by unfold slQ rd1; grind
def redV (a b c : Rat) (x : Rl) : Value := if x.r = 0 then qV (evQ a b c x.p) 0 0 else qV (rd0 a c x.p x.r) (rd1 b c x.p) 0
theorem uReduce (a b c : Rat) (x : Rl) {i j k l m : Nat} [HasSz a i] [HasSz b j] [HasSz c k] [HasSz x.p l] [HasSz x.r m] (hs : i + j + k + l + m ≤ 500 := by first | omega | decide) :
    Sp Tryz.prog 53 [] [qV a b c, rlV x] (redV a b c x) [] := by
 have Q := qRational x
 unfold redV
 by_cases h : x.r = 0
 ·rw [if_pos h]
  rw [if_pos h, decide_eq_true h] at Q
  have E := uEval a b c x.p
  have C := uConstant (evQ a b c x.p)
  clear h hs
  generalize evQ a b c x.p = t at *
  obtain ⟨p, r, neg⟩ := x
  dsimp only at *
  exact walk (code := Tryz.f53.body.getD .skip) [Sy.c Q, Sy.c E, Sy.c C] fol Tryz.func53 (by kernel_rfl) (fun xs w => Tryz.call53 xs w) (by kernel_rfl)
 ·rw [if_neg h]
  rw [if_neg h, decide_eq_false h] at Q
  have M := pMul x.p x.p fz fz
  have U := pSub x.r (x.p * x.p) fz fz
  have C := pMul c (x.r - x.p * x.p) fz fz
  have A := pAdd a (c * (x.r - x.p * x.p)) fz fz
  have S := uslope a b c x.p
  rw [rd1_sl] at S
  have L := uLinear (a + c * (x.r - x.p * x.p)) (rd1 b c x.p)
  unfold rd0
  clear h hs
  generalize rd1 b c x.p = t0 at *
  generalize a + c * (x.r - x.p * x.p) = t1 at *
  generalize c * (x.r - x.p * x.p) = t2 at *
  generalize x.r - x.p * x.p = t3 at *
  generalize x.p * x.p = t4 at *
  obtain ⟨p, r, neg⟩ := x
  dsimp only at *
  exact walk (code := Tryz.f53.body.getD .skip) [Sy.c Q, Sy.c M, Sy.c U, Sy.c C, Sy.c A, Sy.c S, Sy.c L] fol Tryz.func53 (by kernel_rfl) (fun xs w => Tryz.call53 xs w) (by kernel_rfl)
end Go.Proofs.YtlblfgbpogljoaaGreatDoor

end
section
/- The package quadratic: intervals. -/
namespace Go.Proofs.YtlblfgbpogljoaaGreatDoor
open Go Go.RowKit Go.Sy
open Vi
def ivV (F T : Rl) (oF oT : Bool) : Value := .agg #[.bool (sg F.p.num), .string (mg F.p.num), .bool (sg (dn F.p)), .string (mg (dn F.p)), .bool (sg F.r.num), .string (mg F.r.num), .bool (sg (dn F.r)), .string (mg (dn F.r)), .bool F.neg,
 .bool (sg T.p.num), .string (mg T.p.num), .bool (sg (dn T.p)), .string (mg (dn T.p)), .bool (sg T.r.num), .string (mg T.r.num), .bool (sg (dn T.r)), .string (mg (dn T.r)), .bool T.neg, .bool oF, .bool oT]
def inC (a b : Int) (oF oT : Bool) : Bool := (decide (a < 0) || (decide (a = 0) && !oF)) && (decide (b < 0) || (decide (b = 0) && !oT))
theorem ucontains (F T t : Rl) (oF oT : Bool) {i j k l m n : Nat} [HasSz F.p i] [HasSz F.r j] [HasSz T.p k] [HasSz T.r l] [HasSz t.p m] [HasSz t.r n] (hF : 0 ≤ F.r) (hT : 0 ≤ T.r) (ht : 0 ≤ t.r) (hs : i + j + k + l + m + n ≤ 1000 := by first | omega | decide) :
    Sp Tryz.prog 110 [] [ivV F T oF oT, rlV t] (.bool (inC (Rl.cmp F t) (Rl.cmp t T) oF oT)) [] := by
 have A := qCmp F t hF ht
 have B := qCmp t T ht hT
 obtain ⟨a1, a2⟩ : -1 ≤ Rl.cmp F t ∧ Rl.cmp F t ≤ 1 := sgR_in _
 obtain ⟨b1, b2⟩ : -1 ≤ Rl.cmp t T ∧ Rl.cmp t T ≤ 1 := sgR_in _
 generalize Rl.cmp F t = a at *
 generalize Rl.cmp t T = b at *
 clear hs hF hT ht
 obtain ⟨Fp, Fr, Fn⟩ := F
 obtain ⟨Tp, Tr, Tn⟩ := T
 obtain ⟨tp, tr, tn⟩ := t
 dsimp only at *
 rcases (by omega : a = -1 ∨ a = 0 ∨ a = 1) with rfl | rfl | rfl
 ·rcases (by omega : b = -1 ∨ b = 0 ∨ b = 1) with rfl | rfl | rfl
  ·clear a1 a2 b1 b2
   exact walk (code := Tryz.f110.body.getD .skip) [c A, c B] fol Tryz.func110 (by kernel_rfl) (fun xs w => Tryz.call110 xs w) (by kernel_rfl)
  ·clear a1 a2 b1 b2
   cases oT
   ·exact walk (code := Tryz.f110.body.getD .skip) [c A, c B] fol Tryz.func110 (by kernel_rfl) (fun xs w => Tryz.call110 xs w) (by kernel_rfl)
   ·exact walk (code := Tryz.f110.body.getD .skip) [c A, c B] fol Tryz.func110 (by kernel_rfl) (fun xs w => Tryz.call110 xs w) (by kernel_rfl)
  ·clear a1 a2 b1 b2
   exact walk (code := Tryz.f110.body.getD .skip) [c A, c B] fol Tryz.func110 (by kernel_rfl) (fun xs w => Tryz.call110 xs w) (by kernel_rfl)
 ·cases oF
  ·rcases (by omega : b = -1 ∨ b = 0 ∨ b = 1) with rfl | rfl | rfl
   ·clear a1 a2 b1 b2
    exact walk (code := Tryz.f110.body.getD .skip) [c A, c B] fol Tryz.func110 (by kernel_rfl) (fun xs w => Tryz.call110 xs w) (by kernel_rfl)
   ·clear a1 a2 b1 b2
    cases oT
    ·exact walk (code := Tryz.f110.body.getD .skip) [c A, c B] fol Tryz.func110 (by kernel_rfl) (fun xs w => Tryz.call110 xs w) (by kernel_rfl)
    ·exact walk (code := Tryz.f110.body.getD .skip) [c A, c B] fol Tryz.func110 (by kernel_rfl) (fun xs w => Tryz.call110 xs w) (by kernel_rfl)
   ·clear a1 a2 b1 b2
    exact walk (code := Tryz.f110.body.getD .skip) [c A, c B] fol Tryz.func110 (by kernel_rfl) (fun xs w => Tryz.call110 xs w) (by kernel_rfl)
  ·rcases (by omega : b = -1 ∨ b = 0 ∨ b = 1) with rfl | rfl | rfl
   ·clear a1 a2 b1 b2
    exact walk (code := Tryz.f110.body.getD .skip) [c A, c B] fol Tryz.func110 (by kernel_rfl) (fun xs w => Tryz.call110 xs w) (by kernel_rfl)
   ·clear a1 a2 b1 b2
    cases oT
    ·exact walk (code := Tryz.f110.body.getD .skip) [c A, c B] fol Tryz.func110 (by kernel_rfl) (fun xs w => Tryz.call110 xs w) (by kernel_rfl)
    ·exact walk (code := Tryz.f110.body.getD .skip) [c A, c B] fol Tryz.func110 (by kernel_rfl) (fun xs w => Tryz.call110 xs w) (by kernel_rfl)
   ·clear a1 a2 b1 b2
    exact walk (code := Tryz.f110.body.getD .skip) [c A, c B] fol Tryz.func110 (by kernel_rfl) (fun xs w => Tryz.call110 xs w) (by kernel_rfl)
 ·rcases (by omega : b = -1 ∨ b = 0 ∨ b = 1) with rfl | rfl | rfl
  ·clear a1 a2 b1 b2
   exact walk (code := Tryz.f110.body.getD .skip) [c A, c B] fol Tryz.func110 (by kernel_rfl) (fun xs w => Tryz.call110 xs w) (by kernel_rfl)
  ·clear a1 a2 b1 b2
   cases oT
   ·exact walk (code := Tryz.f110.body.getD .skip) [c A, c B] fol Tryz.func110 (by kernel_rfl) (fun xs w => Tryz.call110 xs w) (by kernel_rfl)
   ·exact walk (code := Tryz.f110.body.getD .skip) [c A, c B] fol Tryz.func110 (by kernel_rfl) (fun xs w => Tryz.call110 xs w) (by kernel_rfl)
  ·clear a1 a2 b1 b2
   exact walk (code := Tryz.f110.body.getD .skip) [c A, c B] fol Tryz.func110 (by kernel_rfl) (fun xs w => Tryz.call110 xs w) (by kernel_rfl)
theorem upart (a b c : Rat) (F T : Rl) (oF oT : Bool) (r : Rat) (s : Int) (B : Sp Tryz.prog 158 [] [rlV F, rlV T] (.tuple #[rV r, nV 0]) []) (S : Sp Tryz.prog 37 [] [qV a b c, rlV (Rl.rat r)] (nV s) []) :
    Sp Tryz.prog 111 [] [qV a b c, ivV F T oF oT] (.agg #[.bool (sg F.p.num), .string (mg F.p.num), .bool (sg (dn F.p)), .string (mg (dn F.p)), .bool (sg F.r.num), .string (mg F.r.num), .bool (sg (dn F.r)), .string (mg (dn F.r)), .bool F.neg,
 .bool (sg T.p.num), .string (mg T.p.num), .bool (sg (dn T.p)), .string (mg (dn T.p)), .bool (sg T.r.num), .string (mg T.r.num), .bool (sg (dn T.r)), .string (mg (dn T.r)), .bool T.neg, .bool oF, .bool oT, nV s]) [] := by
 have O := qFromRat r
 unfold ivV
 generalize Rl.rat r = y at *
 obtain ⟨Fp, Fr, Fn⟩ := F
 obtain ⟨Tp, Tr, Tn⟩ := T
 obtain ⟨yp, yr, yn⟩ := y
 dsimp only at *
 exact walk (code := Tryz.f111.body.getD .skip) [Sy.c B, Sy.c O, Sy.c S] fol Tryz.func111 (by kernel_rfl) (fun xs w => Tryz.call111 xs w) (by kernel_rfl)
theorem upart1 (a b c : Rat) (F T : Rl) (oF oT : Bool) (s : Int) (B : Sp Tryz.prog 158 [] [rlV F, rlV T] (.tuple #[rZ, nV 7]) []) (S : Sp Tryz.prog 37 [] [qV a b c, rlV F] (nV s) []) :
    Sp Tryz.prog 111 [] [qV a b c, ivV F T oF oT] (.agg #[.bool (sg F.p.num), .string (mg F.p.num), .bool (sg (dn F.p)), .string (mg (dn F.p)), .bool (sg F.r.num), .string (mg F.r.num), .bool (sg (dn F.r)), .string (mg (dn F.r)), .bool F.neg,
 .bool (sg T.p.num), .string (mg T.p.num), .bool (sg (dn T.p)), .string (mg (dn T.p)), .bool (sg T.r.num), .string (mg T.r.num), .bool (sg (dn T.r)), .string (mg (dn T.r)), .bool T.neg, .bool oF, .bool oT, nV s]) [] := by
 unfold ivV
 obtain ⟨Fp, Fr, Fn⟩ := F
 obtain ⟨Tp, Tr, Tn⟩ := T
 dsimp only at *
 exact walk (code := Tryz.f111.body.getD .skip) [Sy.c B, Sy.c S] fol Tryz.func111 (by kernel_rfl) (fun xs w => Tryz.call111 xs w) (by kernel_rfl)
def faC (a : Int) (oF oT : Bool) : Int := if a > 0 then 10 else if a = 0 then (if oF || oT then 10 else 0) else 0
theorem ucheck (F T : Rl) (oF oT : Bool) {i j k l : Nat} [HasSz F.p i] [HasSz F.r j] [HasSz T.p k] [HasSz T.r l] (hF : F.Ok) (hT : T.Ok) (hs : i + j + k + l ≤ 1000 := by first | omega | decide) :
    Sp Tryz.prog 109 [] [ivV F T oF oT] (nV (faC (Rl.cmp F T) oF oT)) [] := by
 have K1 := qCheckQ F fz fz
 have K2 := qCheckQ T fz fz
 rw [okL_yes hF, if_pos rfl] at K1
 rw [okL_yes hT, if_pos rfl] at K2
 have A := qCmp F T hF.nonneg hT.nonneg
 obtain ⟨a1, a2⟩ : -1 ≤ Rl.cmp F T ∧ Rl.cmp F T ≤ 1 := sgR_in _
 generalize Rl.cmp F T = a at *
 clear hs hF hT
 obtain ⟨Fp, Fr, Fn⟩ := F
 obtain ⟨Tp, Tr, Tn⟩ := T
 dsimp only at *
 rcases (by omega : a = -1 ∨ a = 0 ∨ a = 1) with rfl | rfl | rfl
 ·clear a1 a2
  exact walk (code := Tryz.f109.body.getD .skip) [c K1, c K2, c A] fol Tryz.func109 (by kernel_rfl) (fun xs w => Tryz.call109 xs w) (by kernel_rfl)
 ·clear a1 a2
  cases oF
  ·cases oT
   ·exact walk (code := Tryz.f109.body.getD .skip) [c K1, c K2, c A] fol Tryz.func109 (by kernel_rfl) (fun xs w => Tryz.call109 xs w) (by kernel_rfl)
   ·exact walk (code := Tryz.f109.body.getD .skip) [c K1, c K2, c A] fol Tryz.func109 (by kernel_rfl) (fun xs w => Tryz.call109 xs w) (by kernel_rfl)
  ·exact walk (code := Tryz.f109.body.getD .skip) [c K1, c K2, c A] fol Tryz.func109 (by kernel_rfl) (fun xs w => Tryz.call109 xs w) (by kernel_rfl)
 ·clear a1 a2
  exact walk (code := Tryz.f109.body.getD .skip) [c K1, c K2, c A] fol Tryz.func109 (by kernel_rfl) (fun xs w => Tryz.call109 xs w) (by kernel_rfl)
end Go.Proofs.YtlblfgbpogljoaaGreatDoor

end
section
/- No program in sight: products of quadratics; degrees. -/
namespace Go.Proofs.YtlblfgbpogljoaaGreatDoor
open Go Go.RowKit Go.Sy
open Vi
def dgQ (a b c : Rat) : Int := if c ≠ 0 then 2 else if b ≠ 0 then 1 else if a ≠ 0 then 0 else -1
end Go.Proofs.YtlblfgbpogljoaaGreatDoor

end
section
/- Reference 04: numbers with a root, functions and their values. -/
namespace Go.Proofs.YtlblfgbpogljoaaGreatDoor
open Go Go.RowKit Go.Sy
open Vi
theorem rdV (n d : Int) (q : Rat) (h : Rat.divInt n d = q) (h0 : d ≠ 0) (n1 : -9223372036854775808 ≤ n) (n2 : n ≤ 9223372036854775807) (d1 : -9223372036854775808 ≤ d) (d2 : d ≤ 9223372036854775807) : Sp Tryz.prog 20 [] [nV n, nV d] (rV q) [] := h ▸ rOf n d n1 n2 d1 d2 h0
theorem vOfR (p r : Rat) (neg : Bool) {i k : Nat} [HasSz p i] [HasSz r k] (hs : i + k ≤ 5000 := by first | omega | decide) : Sp Tryz.prog 102 [] [rV p, rV r, .bool neg] (rlV (ofR p r neg)) [] := by
 rcases rRoot r fz with ⟨w, h0, hw, R⟩ | ⟨h, R⟩
 ·subst hw
  haveI : HasSz w k := sz_root
  rw [ofR_sq p w h0 neg]
  unfold Rl.rat
  rw [rlV_rat]
  cases neg
  ·have A := rAdd p w fz fz
   show Sp Tryz.prog 102 [] [rV p, rV (w * w), .bool false] (.agg #[.bool (sg (p + w).num), .string (mg (p + w).num), .bool (sg (dn (p + w))), .string (mg (dn (p + w))), .bool false, .string ⟨#[]⟩, .bool false, .string ⟨#[]⟩, .bool false]) []
   clear h0 hs
   generalize p + w = s at *
   generalize w * w = u at *
   exact walk (code := Tryz.f102.body.getD .skip) [c R, c A] fol Tryz.func102 (by kernel_rfl) (fun xs w => Tryz.call102 xs w) (by kernel_rfl)
  ·have N := rNeg w
   have A := rAdd p (-w) fz fz
   show Sp Tryz.prog 102 [] [rV p, rV (w * w), .bool true] (.agg #[.bool (sg (p + -w).num), .string (mg (p + -w).num), .bool (sg (dn (p + -w))), .string (mg (dn (p + -w))), .bool false, .string ⟨#[]⟩, .bool false, .string ⟨#[]⟩, .bool false]) []
   clear h0 hs
   generalize p + -w = s at *
   generalize w * w = u at *
   generalize -w = t at *
   exact walk (code := Tryz.f102.body.getD .skip) [c R, c N, c A] fol Tryz.func102 (by kernel_rfl) (fun xs w => Tryz.call102 xs w) (by kernel_rfl)
 ·rw [ofR_irr p r neg h]
  clear h hs
  exact walk (code := Tryz.f102.body.getD .skip) [c R] fol Tryz.func102 (by kernel_rfl) (fun xs w => Tryz.call102 xs w) (by kernel_rfl)
theorem vfactor (x : Rl) : Sp Tryz.prog 107 [] [rlV x] (rV x.s) [] := by
 have A := rdV (-1) 1 (-1) (by decide +kernel) (by omega) (by omega) (by omega) (by omega) (by omega)
 have B := rdV 1 1 1 (by decide +kernel) (by omega) (by omega) (by omega) (by omega) (by omega)
 obtain ⟨p, r, neg⟩ := x
 cases neg
 ·show Sp Tryz.prog 107 [] [rlV ⟨p, r, false⟩] (rV 1) []
  clear A
  generalize (1 : Rat) = one at *
  exact walk (code := Tryz.f107.body.getD .skip) [c B] fol Tryz.func107 (by kernel_rfl) (fun xs w => Tryz.call107 xs w) (by kernel_rfl)
 ·show Sp Tryz.prog 107 [] [rlV ⟨p, r, true⟩] (rV (-1)) []
  clear B
  generalize (-1 : Rat) = one at *
  exact walk (code := Tryz.f107.body.getD .skip) [c A] fol Tryz.func107 (by kernel_rfl) (fun xs w => Tryz.call107 xs w) (by kernel_rfl)
theorem vsign (a b r : Rat) {i j k : Nat} [HasSz a i] [HasSz b j] [HasSz r k] (hs : i + i + j + j + k ≤ 20000 := by first | omega | decide) : Sp Tryz.prog 106 [] [rV a, rV b, rV r] (nV (signF a b r)) [] := by
 have S1 := rSgn a
 have S2 := rSgn b
 have S3 := rSgn r
 have A := rMul a a fz fz
 have B := rMul b b fz fz
 have C := rMul (b * b) r fz fz
 have D := rCmp (a * a) (b * b * r) fz fz
 have b1 := sgQ_in a
 have b2 := mul_in1 (sgQ_in b) (sgQ_in r)
 have b3 := mul_in1 (sgQ_in a) (sgQ_in (a * a - b * b * r))
 obtain ⟨n, hn⟩ : ∃ n, n = sgQ b * sgQ r := ⟨_, rfl⟩
 have w1 : IntKind.i64.wrap (sgQ b * sgQ r) = n := by rw [hn]; exact w64 (by omega) (by omega)
 obtain ⟨v, hv⟩ : ∃ v, v = sgQ a * sgQ (a * a - b * b * r) := ⟨_, rfl⟩
 have w2 : IntKind.i64.wrap (sgQ a * sgQ (a * a - b * b * r)) = v := by rw [hv]; exact w64 (by omega) (by omega)
 unfold signF
 rw [← hn, ← hv]
 clear hn hv hs b1 b2 b3
 generalize sgQ (a * a - b * b * r) = f at *
 generalize b * b * r = g at *
 generalize b * b = h at *
 generalize a * a = i at *
 generalize sgQ a = m at *
 generalize sgQ b = u1 at *
 generalize sgQ r = u2 at *
 by_cases h3 : m = 0
 ·subst h3
  by_cases h1 : n = 0
  ·subst h1
   rw [if_pos (.inl rfl)]
   exact walk (code := Tryz.f106.body.getD .skip) [c S1, c S2, c S3, Go.Sy.e (congrArg (Value.int IntKind.i64) w1)] fol Tryz.func106 (by kernel_rfl) (fun xs w => Tryz.call106 xs w) (by kernel_rfl)
  ·rw [if_neg (by rintro (h | h); exact h1 h; exact h1 h.symm), if_pos rfl]
   clear h1
   exact walk (code := Tryz.f106.body.getD .skip) [c S1, c S2, c S3, Go.Sy.e (congrArg (Value.int IntKind.i64) w1)] fol Tryz.func106 (by kernel_rfl) (fun xs w => Tryz.call106 xs w) (by kernel_rfl)
 have e3 : decide (m = 0) = false := decide_eq_false h3
 by_cases h1 : n = 0
 ·rw [if_pos (.inl h1)]
  have e1 : decide (n = 0) = true := decide_eq_true h1
  clear h1 h3
  exact walk (code := Tryz.f106.body.getD .skip) [c S1, c S2, c S3, Go.Sy.e (congrArg (Value.int IntKind.i64) w1), eb e3, eb e1, eb e3] fol Tryz.func106 (by kernel_rfl) (fun xs w => Tryz.call106 xs w) (by kernel_rfl)
 have e1 : decide (n = 0) = false := decide_eq_false h1
 by_cases h2 : m = n
 ·rw [if_pos (.inr h2)]
  have e2 : decide (m = n) = true := decide_eq_true h2
  clear h1 h2 h3
  exact walk (code := Tryz.f106.body.getD .skip) [c S1, c S2, c S3, Go.Sy.e (congrArg (Value.int IntKind.i64) w1), eb e3, eb e1, eb e2, eb e3] fol Tryz.func106 (by kernel_rfl) (fun xs w => Tryz.call106 xs w) (by kernel_rfl)
 have e2 : decide (m = n) = false := decide_eq_false h2
 rw [if_neg (by rintro (h | h) <;> contradiction), if_neg h3]
 clear h1 h2 h3
 exact walk (code := Tryz.f106.body.getD .skip) [c S1, c S2, c S3, Go.Sy.e (congrArg (Value.int IntKind.i64) w1), eb e3, eb e1, eb e2, c A, c B, c C, c D, Go.Sy.e (congrArg (Value.int IntKind.i64) w2)] fol Tryz.func106 (by kernel_rfl) (fun xs w => Tryz.call106 xs w) (by kernel_rfl)
theorem vCompare (x y : Rl) {i j k l : Nat} [HasSz x.p i] [HasSz x.r j] [HasSz y.p k] [HasSz y.r l] (hx : 0 ≤ x.r) (hy : 0 ≤ y.r) (hs : i + j + k + l ≤ 1000 := by first | omega | decide) : Sp Tryz.prog 42 [] [rlV x, rlV y] (nV (Rl.cmp x y)) [] := by
 rw [← Rl.cmpF_eq x y hx hy]
 have D := rSub x.p y.p fz fz
 have F1 := vfactor x
 have F2 := vfactor y
 have N := rNeg y.s
 have S1 := vsign (x.p - y.p) x.s x.r
 have S2 := rSgn (-y.s)
 have S3 := rSgn y.r
 have A := rMul (x.p - y.p) (x.p - y.p) fz fz
 have B := rAdd ((x.p - y.p) * (x.p - y.p)) x.r fz fz
 have C := rSub ((x.p - y.p) * (x.p - y.p) + x.r) y.r fz fz
 have T := rdV 2 1 2 (by decide +kernel) (by omega) (by omega) (by omega) (by omega) (by omega)
 have E := rMul (x.p - y.p) x.s fz fz
 have G := rMul 2 ((x.p - y.p) * x.s) fz fz
 have S4 := vsign ((x.p - y.p) * (x.p - y.p) + x.r - y.r) (2 * ((x.p - y.p) * x.s)) x.r
 have b1 : -1 ≤ signF (x.p - y.p) x.s x.r ∧ signF (x.p - y.p) x.s x.r ≤ 1 := by rw [signF_eq _ _ _ hx]; exact sgR_in _
 have b2 := mul_in1 (sgQ_in (-y.s)) (sgQ_in y.r)
 have b3 : -1 ≤ signF ((x.p - y.p) * (x.p - y.p) + x.r - y.r) (2 * ((x.p - y.p) * x.s)) x.r ∧ signF ((x.p - y.p) * (x.p - y.p) + x.r - y.r) (2 * ((x.p - y.p) * x.s)) x.r ≤ 1 := by rw [signF_eq _ _ _ hx]; exact sgR_in _
 have b4 := mul_in1 b1 b3
 obtain ⟨n, hn⟩ : ∃ n, n = sgQ (-y.s) * sgQ y.r := ⟨_, rfl⟩
 obtain ⟨v, hv⟩ : ∃ v, v = signF (x.p - y.p) x.s x.r * signF ((x.p - y.p) * (x.p - y.p) + x.r - y.r) (2 * ((x.p - y.p) * x.s)) x.r := ⟨_, rfl⟩
 have w1 : IntKind.i64.wrap (sgQ (-y.s) * sgQ y.r) = n := by rw [hn]; exact w64 (by omega) (by omega)
 have w2 : IntKind.i64.wrap (signF (x.p - y.p) x.s x.r * signF ((x.p - y.p) * (x.p - y.p) + x.r - y.r) (2 * ((x.p - y.p) * x.s)) x.r) = v := by rw [hv]; exact w64 (by omega) (by omega)
 unfold Rl.cmpF
 rw [← hn, ← hv]
 clear hn hv b1 b2 b3 b4 hs hx hy
 generalize signF ((x.p - y.p) * (x.p - y.p) + x.r - y.r) (2 * ((x.p - y.p) * x.s)) x.r = s4 at *
 generalize signF (x.p - y.p) x.s x.r = m at *
 generalize sgQ (-y.s) = u1 at *
 generalize sgQ y.r = u2 at *
 generalize 2 * ((x.p - y.p) * x.s) = t1 at *
 generalize (x.p - y.p) * x.s = t2 at *
 generalize (x.p - y.p) * (x.p - y.p) + x.r - y.r = t3 at *
 generalize (x.p - y.p) * (x.p - y.p) + x.r = t4 at *
 generalize (x.p - y.p) * (x.p - y.p) = t5 at *
 generalize x.p - y.p = t6 at *
 generalize -y.s = t7 at *
 generalize x.s = t8 at *
 generalize y.s = t9 at *
 generalize (2 : Rat) = t10 at *
 obtain ⟨xp, xr, xn⟩ := x
 obtain ⟨yp, yr, yn⟩ := y
 dsimp only at *
 by_cases h3 : m = 0
 ·subst h3
  by_cases h1 : n = 0
  ·subst h1
   rw [if_pos (.inl rfl)]
   exact walk (code := Tryz.f42.body.getD .skip) [c D, c F1, c F2, c N, c S1, c S2, c S3, Go.Sy.e (congrArg (Value.int IntKind.i64) w1)] fol Tryz.func42 (by kernel_rfl) (fun xs w => Tryz.call42 xs w) (by kernel_rfl)
  ·rw [if_neg (by rintro (h | h); exact h1 h; exact h1 h.symm), if_pos rfl]
   clear h1
   exact walk (code := Tryz.f42.body.getD .skip) [c D, c F1, c F2, c N, c S1, c S2, c S3, Go.Sy.e (congrArg (Value.int IntKind.i64) w1)] fol Tryz.func42 (by kernel_rfl) (fun xs w => Tryz.call42 xs w) (by kernel_rfl)
 have e3 : decide (m = 0) = false := decide_eq_false h3
 by_cases h1 : n = 0
 ·rw [if_pos (.inl h1)]
  have e1 : decide (n = 0) = true := decide_eq_true h1
  clear h1 h3
  exact walk (code := Tryz.f42.body.getD .skip) [c D, c F1, c F2, c N, c S1, c S2, c S3, Go.Sy.e (congrArg (Value.int IntKind.i64) w1), eb e3, eb e1, eb e3] fol Tryz.func42 (by kernel_rfl) (fun xs w => Tryz.call42 xs w) (by kernel_rfl)
 have e1 : decide (n = 0) = false := decide_eq_false h1
 by_cases h2 : m = n
 ·rw [if_pos (.inr h2)]
  have e2 : decide (m = n) = true := decide_eq_true h2
  clear h1 h2 h3
  exact walk (code := Tryz.f42.body.getD .skip) [c D, c F1, c F2, c N, c S1, c S2, c S3, Go.Sy.e (congrArg (Value.int IntKind.i64) w1), eb e3, eb e1, eb e2, eb e3] fol Tryz.func42 (by kernel_rfl) (fun xs w => Tryz.call42 xs w) (by kernel_rfl)
 have e2 : decide (m = n) = false := decide_eq_false h2
 rw [if_neg (by rintro (h | h) <;> contradiction), if_neg h3]
 clear h1 h2 h3
 exact walk (code := Tryz.f42.body.getD .skip) [c D, c F1, c F2, c N, c S1, c S2, c S3, Go.Sy.e (congrArg (Value.int IntKind.i64) w1), eb e3, eb e1, eb e2, c A, c B, c C, c T, c E, c G, c S4, Go.Sy.e (congrArg (Value.int IntKind.i64) w2)] fol Tryz.func42 (by kernel_rfl) (fun xs w => Tryz.call42 xs w) (by kernel_rfl)
theorem vEval (a b c t : Rat) {i j k l : Nat} [HasSz a i] [HasSz b j] [HasSz c k] [HasSz t l] (hs : i + j + k + l ≤ 900 := by first | omega | decide) : Sp Tryz.prog 34 [] [qV a b c, rV t] (rV (evQ a b c t)) [] := by
 have M1 := rMul t c fz fz
 have A1 := rAdd b (t * c) fz fz
 have M2 := rMul t (b + t * c) fz fz
 have A2 := rAdd a (t * (b + t * c)) fz fz
 unfold evQ
 clear hs
 generalize a + t * (b + t * c) = t1 at *
 generalize t * (b + t * c) = t2 at *
 generalize b + t * c = t3 at *
 generalize t * c = t4 at *
 exact walk (code := Tryz.f34.body.getD .skip) [Sy.c M1, Sy.c A1, Sy.c M2, Sy.c A2] fol Tryz.func34 (by kernel_rfl) (fun xs w => Tryz.call34 xs w) (by kernel_rfl)
theorem sgQ_eq0 (q : Rat) : decide (sgQ q = 0) = decide (q = 0) := by
 rcases sgQ_cases q with ⟨h1, h2⟩ | ⟨h1, h2⟩ | ⟨h1, h2⟩ <;> rw [h1]
 ·rw [show decide (q = 0) = false from decide_eq_false (by grind)]; rfl
 ·rw [decide_eq_true h2]; rfl
 ·rw [show decide (q = 0) = false from decide_eq_false (by grind)]; rfl
theorem vReduce (a b c : Rat) (x : Rl) {i j k l m : Nat} [HasSz a i] [HasSz b j] [HasSz c k] [HasSz x.p l] [HasSz x.r m] (hs : i + j + k + l + m ≤ 500 := by first | omega | decide) :
    Sp Tryz.prog 54 [] [qV a b c, rlV x] (redV a b c x) [] := by
 have S := rSgn x.r
 have e0 := sgQ_eq0 x.r
 unfold redV
 by_cases h : x.r = 0
 ·rw [if_pos h, qV_c]
  rw [decide_eq_true h] at e0
  have E := vEval a b c x.p
  clear h hs
  generalize evQ a b c x.p = t at *
  generalize sgQ x.r = z at *
  obtain ⟨p, r, neg⟩ := x
  dsimp only at *
  exact walk (code := Tryz.f54.body.getD .skip) [Sy.c S, eb e0, Sy.c E] fol Tryz.func54 (by kernel_rfl) (fun xs w => Tryz.call54 xs w) (by kernel_rfl)
 ·rw [if_neg h, qV_l]
  rw [decide_eq_false h] at e0
  have T := rdV 2 1 2 (by decide +kernel) (by omega) (by omega) (by omega) (by omega) (by omega)
  have M := rMul x.p x.p fz fz
  have U := rSub x.r (x.p * x.p) fz fz
  have C := rMul c (x.r - x.p * x.p) fz fz
  have A := rAdd a (c * (x.r - x.p * x.p)) fz fz
  have M2 := rMul x.p c fz fz
  have M3 := rMul 2 (x.p * c) fz fz
  have A2 := rAdd b (2 * (x.p * c)) fz fz
  unfold rd0 rd1
  clear h hs
  generalize b + 2 * (x.p * c) = t0 at *
  generalize 2 * (x.p * c) = t5 at *
  generalize x.p * c = t6 at *
  generalize a + c * (x.r - x.p * x.p) = t1 at *
  generalize c * (x.r - x.p * x.p) = t2 at *
  generalize x.r - x.p * x.p = t3 at *
  generalize x.p * x.p = t4 at *
  generalize (2 : Rat) = two at *
  generalize sgQ x.r = z at *
  obtain ⟨p, r, neg⟩ := x
  dsimp only at *
  exact walk (code := Tryz.f54.body.getD .skip) [Sy.c S, eb e0, Sy.c T, Sy.c M, Sy.c U, Sy.c C, Sy.c A, Sy.c M2, Sy.c M3, Sy.c A2] fol Tryz.func54 (by kernel_rfl) (fun xs w => Tryz.call54 xs w) (by kernel_rfl)
theorem rd0_hs (a c p r : Rat) {i k l m : Nat} [HasSz a i] [HasSz c k] [HasSz p l] [HasSz r m] : HasSz (rd0 a c p r) (i + k + l + l + m + 2) := hs_mono (inferInstance : HasSz (a + c * (r - p * p)) _) (by omega)
theorem rd1_hs (b c p : Rat) {j k l : Nat} [HasSz b j] [HasSz c k] [HasSz p l] : HasSz (rd1 b c p) (j + k + l + 2) := hs_mono (inferInstance : HasSz (b + 2 * (p * c)) _) (by omega)
theorem vAt (a b c : Rat) (x : Rl) {i j k l m : Nat} [HasSz a i] [HasSz b j] [HasSz c k] [HasSz x.p l] [HasSz x.r m] (hx : x.Ok) (hs : i + j + k + l + m ≤ 300 := by first | omega | decide) :
    Sp Tryz.prog 36 [] [qV a b c, rlV x] (rlV (atQ a b c x)) [] := by
 have R := vReduce a b c x
 unfold redV at R
 by_cases h : x.r = 0
 ·obtain ⟨p, rfl⟩ : ∃ p, x = Rl.rat p := ⟨_, rat_of_r0 hx h⟩
  rw [if_pos h] at R
  have hp : HasSz p l := ‹HasSz (Rl.rat p).p l›
  haveI := evQ_hs a b c p
  have M := rMul 0 p fz fz
  have A := rAdd (evQ a b c p) (0 * p) fz fz
  have M2 := rMul 0 0 fz fz
  have M3 := rMul (0 * 0) 0 fz fz
  have S := rSgn 0
  have O := vOfR (evQ a b c p + 0 * p) (0 * 0 * 0) false
  rw [refAt0] at O
  generalize atQ a b c (Rl.rat p) = y at *
  rw [show (Rl.rat p).p = p from rfl] at R
  rw [show rlV (Rl.rat p) = rlV ⟨p, 0, false⟩ from rfl] at *
  have e : ((false : Bool) != decide (sgQ 0 < 0)) = false := by decide
  clear hs hx h this hp
  generalize evQ a b c p = t1 at *
  generalize t1 + 0 * p = t2 at *
  generalize (0 : Rat) * p = t3 at *
  generalize (0 : Rat) * 0 * 0 = t4 at *
  generalize (0 : Rat) * 0 = t5 at *
  generalize sgQ 0 = z at *
  generalize (0 : Rat) = zr at *
  exact walk (code := Tryz.f36.body.getD .skip) [Sy.c R, Sy.c M, Sy.c A, Sy.c M2, Sy.c M3, Sy.c S, L, eb e, Sy.c O] fol Tryz.func36 (by kernel_rfl) (fun xs w => Tryz.call36 xs w) (by kernel_rfl)
 ·rw [if_neg h] at R
  haveI := rd0_hs a c x.p x.r
  haveI := rd1_hs b c x.p
  have M := rMul (rd1 b c x.p) x.p fz fz
  have A := rAdd (rd0 a c x.p x.r) (rd1 b c x.p * x.p) fz fz
  have M2 := rMul (rd1 b c x.p) (rd1 b c x.p) fz fz
  have M3 := rMul (rd1 b c x.p * rd1 b c x.p) x.r fz fz
  have S := rSgn (rd1 b c x.p)
  have e := sgQ_lt0 (rd1 b c x.p)
  have O := vOfR (rd0 a c x.p x.r + rd1 b c x.p * x.p) (rd1 b c x.p * rd1 b c x.p * x.r) (x.neg != decide (rd1 b c x.p < 0))
  rw [refAt hx] at O
  generalize atQ a b c x = y at *
  generalize hd : decide (rd1 b c x.p < 0) = d at *
  clear hs hx h hd
  generalize rd1 b c x.p * rd1 b c x.p * x.r = t1 at *
  generalize rd1 b c x.p * rd1 b c x.p = t2 at *
  generalize rd0 a c x.p x.r + rd1 b c x.p * x.p = t3 at *
  generalize rd1 b c x.p * x.p = t4 at *
  generalize sgQ (rd1 b c x.p) = z at *
  obtain ⟨p, r, neg⟩ := x
  dsimp only at *
  generalize rd1 b c p = t5 at *
  generalize rd0 a c p r = t6 at *
  generalize (0 : Rat) = zr at *
  cases neg <;> cases d
  ·have e2 : ((false : Bool) != false) = false := rfl
   rw [e2] at O
   exact walk (code := Tryz.f36.body.getD .skip) [Sy.c R, Sy.c M, Sy.c A, Sy.c M2, Sy.c M3, Sy.c S, eb e, Sy.c O] fol Tryz.func36 (by kernel_rfl) (fun xs w => Tryz.call36 xs w) (by kernel_rfl)
  ·have e2 : ((false : Bool) != true) = true := rfl
   rw [e2] at O
   exact walk (code := Tryz.f36.body.getD .skip) [Sy.c R, Sy.c M, Sy.c A, Sy.c M2, Sy.c M3, Sy.c S, eb e, Sy.c O] fol Tryz.func36 (by kernel_rfl) (fun xs w => Tryz.call36 xs w) (by kernel_rfl)
  ·have e2 : ((true : Bool) != false) = true := rfl
   rw [e2] at O
   exact walk (code := Tryz.f36.body.getD .skip) [Sy.c R, Sy.c M, Sy.c A, Sy.c M2, Sy.c M3, Sy.c S, eb e, Sy.c O] fol Tryz.func36 (by kernel_rfl) (fun xs w => Tryz.call36 xs w) (by kernel_rfl)
  ·have e2 : ((true : Bool) != true) = false := rfl
   rw [e2] at O
   exact walk (code := Tryz.f36.body.getD .skip) [Sy.c R, Sy.c M, Sy.c A, Sy.c M2, Sy.c M3, Sy.c S, eb e, Sy.c O] fol Tryz.func36 (by kernel_rfl) (fun xs w => Tryz.call36 xs w) (by kernel_rfl)
theorem vSignAt (a b c : Rat) (x : Rl) {i j k l m : Nat} [HasSz a i] [HasSz b j] [HasSz c k] [HasSz x.p l] [HasSz x.r m] (hx : x.Ok) (hs : i + j + k + l + m ≤ 300 := by first | omega | decide) :
    Sp Tryz.prog 38 [] [qV a b c, rlV x] (nV (sgR (atQ a b c x).val)) [] := by
 have R := vReduce a b c x
 have F := vfactor x
 unfold redV at R
 by_cases h : x.r = 0
 ·obtain ⟨p, rfl⟩ : ∃ p, x = Rl.rat p := ⟨_, rat_of_r0 hx h⟩
  rw [if_pos h] at R
  have hp : HasSz p l := ‹HasSz (Rl.rat p).p l›
  haveI := evQ_hs a b c p
  have M := rMul 0 p fz fz
  have A := rAdd (evQ a b c p) (0 * p) fz fz
  have M2 := rMul 0 (Rl.rat p).s fz fz
  have S := vsign (evQ a b c p + 0 * p) (0 * (Rl.rat p).s) 0
  rw [refSgn0] at S
  generalize sgR (atQ a b c (Rl.rat p)).val = y at *
  generalize (Rl.rat p).s = s at *
  rw [show (Rl.rat p).p = p from rfl] at R
  rw [show rlV (Rl.rat p) = rlV ⟨p, 0, false⟩ from rfl] at *
  clear hs hx h this hp
  generalize evQ a b c p = t1 at *
  generalize t1 + 0 * p = t2 at *
  generalize (0 : Rat) * p = t3 at *
  generalize (0 : Rat) * s = t5 at *
  generalize (0 : Rat) = zr at *
  exact walk (code := Tryz.f38.body.getD .skip) [Sy.c R, Sy.c M, Sy.c A, Sy.c F, Sy.c M2, Sy.c S] fol Tryz.func38 (by kernel_rfl) (fun xs w => Tryz.call38 xs w) (by kernel_rfl)
 ·rw [if_neg h] at R
  haveI := rd0_hs a c x.p x.r
  haveI := rd1_hs b c x.p
  have M := rMul (rd1 b c x.p) x.p fz fz
  have A := rAdd (rd0 a c x.p x.r) (rd1 b c x.p * x.p) fz fz
  have M2 := rMul (rd1 b c x.p) x.s fz fz
  have S := vsign (rd0 a c x.p x.r + rd1 b c x.p * x.p) (rd1 b c x.p * x.s) x.r
  rw [refSgn hx] at S
  generalize sgR (atQ a b c x).val = y at *
  clear hs hx h
  generalize rd1 b c x.p * x.s = t1 at *
  generalize x.s = s at *
  generalize rd0 a c x.p x.r + rd1 b c x.p * x.p = t3 at *
  generalize rd1 b c x.p * x.p = t4 at *
  obtain ⟨p, r, neg⟩ := x
  dsimp only at *
  generalize rd1 b c p = t5 at *
  generalize rd0 a c p r = t6 at *
  generalize (0 : Rat) = zr at *
  exact walk (code := Tryz.f38.body.getD .skip) [Sy.c R, Sy.c M, Sy.c A, Sy.c F, Sy.c M2, Sy.c S] fol Tryz.func38 (by kernel_rfl) (fun xs w => Tryz.call38 xs w) (by kernel_rfl)
theorem sgQ_ne0 (q : Rat) : (sgQ q != 0) = decide (q ≠ 0) := by
 rcases sgQ_cases q with ⟨h1, h2⟩ | ⟨h1, h2⟩ | ⟨h1, h2⟩ <;> rw [h1]
 ·rw [show decide (q ≠ 0) = true from decide_eq_true (by grind)]; rfl
 ·rw [show decide (q ≠ 0) = false from decide_eq_false (by simp [h2])]; rfl
 ·rw [show decide (q ≠ 0) = true from decide_eq_true (by grind)]; rfl
end Go.Proofs.YtlblfgbpogljoaaGreatDoor

end
section
/- What chapter 4's laws make of their numbers. -/
namespace Go.Proofs.YtlblfgbpogljoaaGreatDoor
open Go Go.RowKit Go.Sy
open Vi
def cf (n d : Int) : Rat := Rat.divInt n (1 + d)
abbrev Cn (n d : Int) : Prop := (-32768 ≤ n ∧ n ≤ 32767) ∧ 0 ≤ d ∧ d ≤ 255
theorem cf_small {n d : Int} (h : Cn n d) : (cf n d).den ≤ 256 ∧ (cf n d).num.natAbs ≤ 32768 := by
 obtain ⟨⟨h1, h2⟩, h3, h4⟩ := h
 have := divInt_small n (1 + d).toNat (by omega)
 rw [show (((1 + d).toNat : Nat) : Int) = 1 + d by omega] at this
 unfold cf
 omega
theorem cf_hs {n d : Int} (h : Cn n d) : HasSz (cf n d) 2 := by
 have := cf_small h
 have e : (256 : Nat) ^ 2 = 65536 := by decide
 exact ⟨by omega, by omega⟩
theorem wRat (n d : Int) (h : Cn n d) : Sp Tryz.prog 30 [] [.agg #[.int .i16 n, .int .u8 d]] (rV (cf n d)) [] := by
 obtain ⟨⟨h1, h2⟩, h3, h4⟩ := h
 have a1 : IntKind.i64.wrap n = n := w64 (by omega) (by omega)
 have a2 : IntKind.i64.wrap d = d := w64 (by omega) (by omega)
 have a3 : IntKind.i64.wrap (1 + d) = 1 + d := w64 (by omega) (by omega)
 have O := rOf n (1 + d) (by omega) (by omega) (by omega) (by omega) (by omega)
 unfold cf
 clear h1 h2 h3 h4
 generalize Rat.divInt n (1 + d) = q at *
 exact walk (code := Tryz.f30.body.getD .skip) [Go.Sy.e (congrArg (Value.int IntKind.i64) a1), Go.Sy.e (congrArg (Value.int IntKind.i64) a2), Go.Sy.e (congrArg (Value.int IntKind.i64) a3), c O] fol Tryz.func30 (by kernel_rfl) (fun xs w => Tryz.call30 xs w) (by kernel_rfl)
theorem wQuad (n1 d1 n2 d2 n3 d3 : Int) (h1 : Cn n1 d1) (h2 : Cn n2 d2) (h3 : Cn n3 d3) : Sp Tryz.prog 29 [] [.agg #[.int .i16 n1, .int .u8 d1, .int .i16 n2, .int .u8 d2, .int .i16 n3, .int .u8 d3]] (qV (cf n1 d1) (cf n2 d2) (cf n3 d3)) [] := by
 have A := wRat n1 d1 h1
 have B := wRat n2 d2 h2
 have C := wRat n3 d3 h3
 clear h1 h2 h3
 generalize cf n1 d1 = q1 at *
 generalize cf n2 d2 = q2 at *
 generalize cf n3 d3 = q3 at *
 exact walk (code := Tryz.f29.body.getD .skip) [c A, c B, c C] fol Tryz.func29 (by kernel_rfl) (fun xs w => Tryz.call29 xs w) (by kernel_rfl)
def abQ (q : Rat) : Rat := if q < 0 then -q else q
theorem abQ_nonneg (q : Rat) : 0 ≤ abQ q := by unfold abQ; split <;> grind
theorem abQ_hs {q : Rat} {k : Nat} [h : HasSz q k] : HasSz (abQ q) k := by
 unfold abQ
 split
 ·exact ⟨h.sz.neg⟩
 ·exact h
noncomputable def tmR (n1 d1 n2 d2 : Int) (neg : Bool) : Rl := ofR (cf n1 d1) (abQ (cf n2 d2)) neg
theorem tmR_ok {n1 d1 n2 d2 : Int} {neg : Bool} : (tmR n1 d1 n2 d2 neg).Ok := ofR_ok (abQ_nonneg _)
theorem tmR_hsp {n1 d1 n2 d2 : Int} {neg : Bool} (h1 : Cn n1 d1) (h2 : Cn n2 d2) : HasSz (tmR n1 d1 n2 d2 neg).p 5 := by
 haveI := cf_hs h1
 haveI := cf_hs h2
 haveI : HasSz (abQ (cf n2 d2)) 2 := abQ_hs
 exact ofR_hsp (p := cf n1 d1) (r := abQ (cf n2 d2)) (i := 2) (k := 2)
theorem tmR_hsr {n1 d1 n2 d2 : Int} {neg : Bool} (h2 : Cn n2 d2) : HasSz (tmR n1 d1 n2 d2 neg).r 2 := by
 haveI := cf_hs h2
 haveI : HasSz (abQ (cf n2 d2)) 2 := abQ_hs
 exact ofR_hsr (p := cf n1 d1) (r := abQ (cf n2 d2)) (k := 2) (by omega)
theorem wReal (n1 d1 n2 d2 : Int) (neg : Bool) (h1 : Cn n1 d1) (h2 : Cn n2 d2) : Sp Tryz.prog 31 [] [.agg #[.int .i16 n1, .int .u8 d1, .int .i16 n2, .int .u8 d2, .bool neg]] (rlV (tmR n1 d1 n2 d2 neg)) [] := by
 have A := wRat n1 d1 h1
 have B := wRat n2 d2 h2
 haveI := cf_hs h1
 haveI := cf_hs h2
 have S := rSgn (cf n2 d2)
 have e := sgQ_lt0 (cf n2 d2)
 have N := rNeg (cf n2 d2)
 haveI : HasSz (abQ (cf n2 d2)) 2 := abQ_hs
 have O := vOfR (cf n1 d1) (abQ (cf n2 d2)) neg
 rw [show ofR (cf n1 d1) (abQ (cf n2 d2)) neg = tmR n1 d1 n2 d2 neg from rfl] at O
 generalize tmR n1 d1 n2 d2 neg = y at *
 by_cases h : cf n2 d2 < 0
 ·rw [show abQ (cf n2 d2) = -cf n2 d2 from if_pos h] at O
  rw [decide_eq_true h] at e
  clear h h1 h2
  generalize -cf n2 d2 = q3 at *
  generalize sgQ (cf n2 d2) = z at *
  generalize cf n2 d2 = q2 at *
  generalize cf n1 d1 = q1 at *
  exact walk (code := Tryz.f31.body.getD .skip) [c B, c S, eb e, c N, c A, c O] fol Tryz.func31 (by kernel_rfl) (fun xs w => Tryz.call31 xs w) (by kernel_rfl)
 ·rw [show abQ (cf n2 d2) = cf n2 d2 from if_neg h] at O
  rw [decide_eq_false h] at e
  clear h h1 h2
  generalize sgQ (cf n2 d2) = z at *
  generalize cf n2 d2 = q2 at *
  generalize cf n1 d1 = q1 at *
  exact walk (code := Tryz.f31.body.getD .skip) [c B, c S, eb e, c A, c O] fol Tryz.func31 (by kernel_rfl) (fun xs w => Tryz.call31 xs w) (by kernel_rfl)
theorem wnumber (n : Int) (h1 : -9223372036854775808 ≤ n) (h2 : n ≤ 9223372036854775807) : Sp Tryz.prog 62 [] [nV n] (rV (n : Rat)) [] := by
 have O := rOf n 1 h1 h2 (by omega) (by omega) (by omega)
 rw [show Rat.divInt n 1 = (n : Rat) by rw [Rat.divInt_eq_div]; show (n : Rat) / 1 = n; grind] at O
 clear h1 h2
 generalize (n : Rat) = q at *
 exact walk (code := Tryz.f62.body.getD .skip) [c O] fol Tryz.func62 (by kernel_rfl) (fun xs w => Tryz.call62 xs w) (by kernel_rfl)
end Go.Proofs.YtlblfgbpogljoaaGreatDoor

end
section
/- Reference 04: intervals, roots. -/
namespace Go.Proofs.YtlblfgbpogljoaaGreatDoor
open Go Go.RowKit Go.Sy
open Vi
end Go.Proofs.YtlblfgbpogljoaaGreatDoor

end
section
/- Reference 04: what is valid; an interval's fault. -/
namespace Go.Proofs.YtlblfgbpogljoaaGreatDoor
open Go Go.RowKit Go.Sy
open Vi
end Go.Proofs.YtlblfgbpogljoaaGreatDoor

end
section
/- No program in sight: the parts' shapes; parts joined. -/
namespace Go.Proofs.YtlblfgbpogljoaaGreatDoor
open Go Go.RowKit Go.Sy
open Vi RR
def Gd (x : Rl) : Prop := x.Ok ∧ HasSz x.p 8 ∧ HasSz x.r 8
theorem parts_n {inn : Iv} {s : Rl → Rl → Int} {r : Rl} {rs : List Rl} {f : Rl} {o : Bool} (h : ¬ inn.has r.val) : parts inn s (r :: rs) f o = parts inn s rs f o := by rw [parts, if_neg h]
theorem parts_l {inn : Iv} {s : Rl → Rl → Int} {r : Rl} {rs : List Rl} {f : Rl} {o : Bool} (h : inn.has r.val) (g : f.val < r.val) : parts inn s (r :: rs) f o = (⟨f, r, o, true⟩, s f r) :: (⟨r, r, false, false⟩, 0) :: parts inn s rs r true := by rw [parts, if_pos h, if_pos g]; rfl
theorem parts_e {inn : Iv} {s : Rl → Rl → Int} {r : Rl} {rs : List Rl} {f : Rl} {o : Bool} (h : inn.has r.val) (g : ¬ f.val < r.val) : parts inn s (r :: rs) f o = (⟨r, r, false, false⟩, 0) :: parts inn s rs r true := by rw [parts, if_pos h, if_neg g]; rfl
theorem parts_f {inn : Iv} {s : Rl → Rl → Int} {f : Rl} {o : Bool} (h : Iv.full ⟨f, inn.T, o, inn.oT⟩) : parts inn s [] f o = [(⟨f, inn.T, o, inn.oT⟩, s f inn.T)] := by rw [parts, if_pos h]
theorem parts_x {inn : Iv} {s : Rl → Rl → Int} {f : Rl} {o : Bool} (h : ¬ Iv.full ⟨f, inn.T, o, inn.oT⟩) : parts inn s [] f o = [] := by rw [parts, if_neg h]
theorem pm_of {s : Int} (h : -1 ≤ s ∧ s ≤ 1) (h0 : s ≠ 0) : s = 1 ∨ s = -1 := by omega
theorem btwS_in {a b c : Int} (ha : -1 ≤ a ∧ a ≤ 1) (hb : -1 ≤ b ∧ b ≤ 1) (hc : -1 ≤ c ∧ c ≤ 1) : -1 ≤ btwS a b c ∧ btwS a b c ≤ 1 := by
 unfold btwS
 split
 ·exact ha
 ·split
  ·exact hb
  ·omega
theorem mid_pm {a b c : Rat} {l : List Rl} (hl : IsRoots a b c l) {f r : Rl} (hlt : f.val < r.val) (hn : ∀ x ∈ l, x.val ≤ f.val ∨ r.val ≤ x.val) : sBt (qval a b c) (sgQ c) f r = 1 ∨ sBt (qval a b c) (sgQ c) f r = -1 := by
 refine pm_of (btwS_in (sgR_in _) (sgR_in _) (sgQ_in c)) fun e => ?_
 obtain ⟨q, h1, h2⟩ := dense hlt
 have h3 := hl.sgs.mid _ _ _ h1 h2 hn
 have e : btwS (sgR (qval a b c f.val)) (sgR (qval a b c r.val)) (sgQ c) = 0 := e
 rw [e] at h3
 obtain ⟨x, hx, hxv⟩ := hl.sgs.only _ h3
 rcases hn x hx with k | k
 ·rw [hxv] at k; exact k h1
 ·rw [hxv] at k; exact k h2
theorem last_pm {a b c : Rat} {l : List Rl} (hl : IsRoots a b c l) {inn : Iv} {f : Rl} {o : Bool} (h : Rest inn l [] f o) (hi : Iv.full ⟨f, inn.T, o, inn.oT⟩) : sBt (qval a b c) (sgQ c) f inn.T = 1 ∨ sBt (qval a b c) (sgQ c) f inn.T = -1 := by
 rcases hi with hlt | ⟨he, ho, ht⟩
 ·exact mid_pm hl hlt h.none_end
 ·have he : f.val = inn.T.val := he
  have ho : o = false := ho
  have ht : inn.oT = false := ht
  have n0 : sgR (qval a b c f.val) ≠ 0 := fun e => by
   obtain ⟨x, hx, hxv⟩ := hl.sgs.only _ e
   rcases h.seen x hx with k | k | ⟨_, k⟩ | k | ⟨_, k⟩
   ·cases k
   ·rw [hxv] at k; exact RR.lt_irrefl _ k
   ·rw [ho] at k; cases k
   ·rw [hxv, he] at k; exact RR.lt_irrefl _ k
   ·rw [ht] at k; cases k
  have e : sBt (qval a b c) (sgQ c) f inn.T = sgR (qval a b c f.val) := btwS_left n0
  rw [e]
  exact pm_of (sgR_in _) n0
theorem IsRoots.len {a b c : Rat} {l : List Rl} (h : IsRoots a b c l) : l.length ≤ 2 := by cases h <;> simp
theorem parts_cases {a b c : Rat} {l : List Rl} (hl : IsRoots a b c l) (inn : Iv) (hi : inn.full) {Φ : List (Iv × Int) → Prop}
    (m : ∀ p s, s = 1 ∨ s = -1 → Φ [(p, s)]) (r : ∀ p, Φ [(p, 0)])
    (mr : ∀ p s q, s = 1 ∨ s = -1 → Φ [(p, s), (q, 0)]) (rm : ∀ q p s, s = 1 ∨ s = -1 → Φ [(q, 0), (p, s)])
    (mrm : ∀ p s q p' s', s = 1 ∨ s = -1 → s' = 1 ∨ s' = -1 → Φ [(p, s), (q, 0), (p', s')]) (rmr : ∀ q p s q', s = 1 ∨ s = -1 → Φ [(q, 0), (p, s), (q', 0)])
    (mrmr : ∀ p s q p' s' q', s = 1 ∨ s = -1 → s' = 1 ∨ s' = -1 → Φ [(p, s), (q, 0), (p', s'), (q', 0)]) (rmrm : ∀ q p s q' p' s', s = 1 ∨ s = -1 → s' = 1 ∨ s' = -1 → Φ [(q, 0), (p, s), (q', 0), (p', s')])
    (mrmrm : ∀ p s q p' s' q' p'' s'', s = 1 ∨ s = -1 → s' = 1 ∨ s' = -1 → s'' = 1 ∨ s'' = -1 → Φ [(p, s), (q, 0), (p', s'), (q', 0), (p'', s'')]) :
    Φ (parts inn (sBt (qval a b c) (sgQ c)) l inn.F inn.oF) := by
 have so := hl.sorted
 have R0 := Rest.start inn l
 have hlen := hl.len
 have first : ∀ x : Rl, inn.has x.val → inn.F.val < x.val ∨ inn.oF = false ∧ inn.F.val = x.val := fun x h => h.1
 have one : ∀ x : Rl, Rest inn l [x] inn.F inn.oF → [x].Pairwise (fun x y => x.val < y.val) → Φ (parts inn (sBt (qval a b c) (sgQ c)) [x] inn.F inn.oF) := fun x Rx sx => by
  by_cases g : inn.has x.val
  ·have R1 := Rx.take g (first x g)
   by_cases k : inn.F.val < x.val
   ·have P1 := mid_pm hl k (Rx.none_before sx g)
    rw [parts_l g k]
    by_cases hx : Iv.full ⟨x, inn.T, true, inn.oT⟩
    ·rw [parts_f hx]; exact mrm _ _ _ _ _ P1 (last_pm hl R1 hx)
    ·rw [parts_x hx]; exact mr _ _ _ P1
   ·rw [parts_e g k]
    by_cases hx : Iv.full ⟨x, inn.T, true, inn.oT⟩
    ·rw [parts_f hx]; exact rm _ _ _ (last_pm hl R1 hx)
    ·rw [parts_x hx]; exact r _
  ·have R1 := Rx.skip g
   rw [parts_n g, parts_f hi]
   exact m _ _ (last_pm hl R1 hi)
 rcases l with _ | ⟨r1, _ | ⟨r2, _ | ⟨r3, l⟩⟩⟩
 ·rw [parts_f hi]
  exact m _ _ (last_pm hl R0 hi)
 ·exact one r1 R0 so
 ·by_cases g : inn.has r1.val
  ·have R1 := R0.take g (first r1 g)
   have k2 : r1.val < r2.val := (List.pairwise_cons.1 so).1 r2 (by simp)
   have so2 := (List.pairwise_cons.1 so).2
   by_cases k : inn.F.val < r1.val
   ·have P1 := mid_pm hl k (R0.none_before so g)
    rw [parts_l g k]
    by_cases g2 : inn.has r2.val
    ·have R2 := R1.take g2 (.inl k2)
     have P2 := mid_pm hl k2 (R1.none_before so2 g2)
     rw [parts_l g2 k2]
     by_cases hx : Iv.full ⟨r2, inn.T, true, inn.oT⟩
     ·rw [parts_f hx]; exact mrmrm _ _ _ _ _ _ _ _ P1 P2 (last_pm hl R2 hx)
     ·rw [parts_x hx]; exact mrmr _ _ _ _ _ _ P1 P2
    ·have R2 := R1.skip g2
     rw [parts_n g2]
     by_cases hx : Iv.full ⟨r1, inn.T, true, inn.oT⟩
     ·rw [parts_f hx]; exact mrm _ _ _ _ _ P1 (last_pm hl R2 hx)
     ·rw [parts_x hx]; exact mr _ _ _ P1
   ·rw [parts_e g k]
    by_cases g2 : inn.has r2.val
    ·have R2 := R1.take g2 (.inl k2)
     have P2 := mid_pm hl k2 (R1.none_before so2 g2)
     rw [parts_l g2 k2]
     by_cases hx : Iv.full ⟨r2, inn.T, true, inn.oT⟩
     ·rw [parts_f hx]; exact rmrm _ _ _ _ _ _ P2 (last_pm hl R2 hx)
     ·rw [parts_x hx]; exact rmr _ _ _ _ P2
    ·have R2 := R1.skip g2
     rw [parts_n g2]
     by_cases hx : Iv.full ⟨r1, inn.T, true, inn.oT⟩
     ·rw [parts_f hx]; exact rm _ _ _ (last_pm hl R2 hx)
     ·rw [parts_x hx]; exact r _
  ·rw [parts_n g]
   exact one r2 (R0.skip g) (List.pairwise_cons.1 so).2
 ·simp only [List.length_cons] at hlen
  omega
def setLast : List Iv → Rl → Bool → List Iv
 | [], _, _ => []
 | [x], T, o => [⟨x.F, T, x.oF, o⟩]
 | x :: y :: l, T, o => x :: setLast (y :: l) T o
def wB (n z p : Bool) (s : Int) : Bool := if s = -1 then n else if s = 0 then z else p
def wstep (w : Int → Bool) (st : List Iv × Bool) (p : Iv × Int) : List Iv × Bool :=
 match w p.2, st.2 with
 | true, true => (setLast st.1 p.1.T p.1.oT, true)
 | true, false => (st.1 ++ [p.1], true)
 | false, _ => (st.1, false)
def whr (w : Int → Bool) (L : List (Iv × Int)) : List Iv := (L.foldl (wstep w) ([], false)).1
end Go.Proofs.YtlblfgbpogljoaaGreatDoor

end
section
/- No program in sight: the simplest fraction between two numbers, one whole part after the other. -/
namespace Go.Proofs.YtlblfgbpogljoaaGreatDoor
open Go Go.RowKit Go.Sy
open Vi RR
def Btw (X Y : RR) (t : Rat) : Prop := X < ofRat t ∧ ofRat t < Y
def BestP (P : Rat → Prop) (q : Rat) : Prop := P q ∧ ∀ r, P r → q.den ≤ r.den ∧ q.num.natAbs ≤ r.num.natAbs
theorem best_nextP {P : Rat → Prop} (n : Int) (h0 : 0 ≤ n) (hgt : ∀ r, P r → (n : Rat) < r) (hin : P ((n + 1 : Int) : Rat)) : BestP P ((n + 1 : Int) : Rat) := by
 refine ⟨hin, fun r hr => ⟨?_, ?_⟩⟩
 ·rw [Rat.den_intCast]; exact Nat.pos_of_ne_zero r.den_nz
 ·rw [Rat.num_intCast]
  have h1 := int_lt_num (hgt r hr)
  have h2 : 0 < r.den := Nat.pos_of_ne_zero r.den_nz
  have h3 : n * 1 ≤ n * r.den := Int.mul_le_mul_of_nonneg_left (by omega) h0
  omega
theorem best_stepP {P : Rat → Prop} (n : Int) (h0 : 0 ≤ n) (s : Rat) (hs : 0 < s) (hin : P ((n : Rat) + s⁻¹)) (hall : ∀ r, P r → (n : Rat) < r ∧ s.den ≤ ((r - (n : Rat))⁻¹).den ∧ s.num ≤ ((r - (n : Rat))⁻¹).num) : BestP P ((n : Rat) + s⁻¹) := by
 refine ⟨hin, fun r hr => ?_⟩
 obtain ⟨h1, h2, h3⟩ := hall r hr
 obtain ⟨e1, e2⟩ := add_int n s⁻¹
 obtain ⟨i1, i2⟩ := inv_pos_parts s hs
 have hp : 0 < r - (n : Rat) := (Rat.lt_iff_sub_pos _ _).1 h1
 obtain ⟨j1, j2⟩ := inv_pos_parts _ hp
 obtain ⟨k1, k2⟩ := sub_int n r
 rw [j2] at h2
 rw [j1, k2] at h3
 have hsn := num_pos_of s hs
 have hrn := num_pos_of _ hp
 rw [k1] at h2 hrn
 rw [e1, e2, i1, i2]
 have hm : n * (s.num.natAbs : Int) ≤ n * r.den := Int.mul_le_mul_of_nonneg_left (by omega) h0
 have hm0 : 0 ≤ n * (s.num.natAbs : Int) := Int.mul_nonneg h0 (by omega)
 constructor
 ·omega
 ·omega
theorem rinv {z : Rat} (h : 0 < z) : 0 < z⁻¹ ∧ z * z⁻¹ = 1 := ⟨Rat.inv_pos.2 h, Rat.mul_inv_cancel _ (by grind)⟩
theorem inv_up {Y U : RR} {z : Rat} (hz : 0 < z) (hU : 0 < U) (h : U * Y = 1) : ofRat z⁻¹ < Y ↔ U < ofRat z := by
 obtain ⟨_, h2⟩ := rinv hz
 have h3 : ofRat z * ofRat z⁻¹ = 1 := by rw [← rat_mul, h2]; rfl
 generalize z⁻¹ = y at *
 have hd : 0 < U * ofRat z := mul_pos hU (rat_lt.2 hz)
 rw [← mul_lt_iff hd]
 have e1 : U * ofRat z * ofRat y = U := ring1 [U, z, y] h3 U (by decide +kernel)
 have e2 : U * ofRat z * Y = ofRat z := ring1 [U, z, Y] h (ofRat z) (by decide +kernel)
 rw [e1, e2]
theorem inv_dn {X V : RR} {z : Rat} (hz : 0 < z) (hV : 0 < V) (h : V * X = 1) : X < ofRat z⁻¹ ↔ ofRat z < V := by
 obtain ⟨_, h2⟩ := rinv hz
 have h3 : ofRat z * ofRat z⁻¹ = 1 := by rw [← rat_mul, h2]; rfl
 generalize z⁻¹ = y at *
 have hd : 0 < V * ofRat z := mul_pos hV (rat_lt.2 hz)
 rw [← mul_lt_iff hd]
 have e1 : V * ofRat z * ofRat y = V := ring1 [V, z, y] h3 V (by decide +kernel)
 have e2 : V * ofRat z * X = ofRat z := ring1 [V, z, X] h (ofRat z) (by decide +kernel)
 rw [e1, e2]
theorem shift_lt {X : RR} {n : Int} {t : Rat} : X < ofRat ((n : Rat) + t) ↔ X - ofRat (n : Rat) < ofRat t := by
 rw [rat_add]
 constructor
 ·intro h; exact lt_of_pos (ofRat (n : Rat) + ofRat t - X) (sub_pos.2 h) (ring [X, (n : Rat), t] (by decide +kernel))
 ·intro h; exact lt_of_pos (ofRat t - (X - ofRat (n : Rat))) (sub_pos.2 h) (ring [X, (n : Rat), t] (by decide +kernel))
theorem lt_shift {Y : RR} {n : Int} {t : Rat} : ofRat ((n : Rat) + t) < Y ↔ ofRat t < Y - ofRat (n : Rat) := by
 rw [rat_add]
 constructor
 ·intro h; exact lt_of_pos (Y - (ofRat (n : Rat) + ofRat t)) (sub_pos.2 h) (ring [Y, (n : Rat), t] (by decide +kernel))
 ·intro h; exact lt_of_pos (Y - ofRat (n : Rat) - ofRat t) (sub_pos.2 h) (ring [Y, (n : Rat), t] (by decide +kernel))
theorem pos_of_mul {U Y : RR} (hY : 0 < Y) (h : U * Y = 1) : 0 < U := by
 rcases tri 0 U with h1 | h1 | h1
 ·exact h1
 ·rw [← h1] at h
  have : (0 : RR) = 1 := by rw [← h]; exact ring [Y] (by decide +kernel)
  exact absurd (rat_inj (p := 0) (q := 1) this) (by decide +kernel)
 ·have := mul_neg hY h1
  rw [RR.mul_comm, h] at this
  exact absurd (rat_lt (p := 1) (q := 0) |>.1 this) (by decide +kernel)
section
variable {X Y U : RR} {n : Int}
theorem btw_inv {V : RR} (hX : ofRat (n : Rat) < X) (hXY : X < Y) (hU : U * (Y - ofRat (n : Rat)) = 1) (hV : V * (X - ofRat (n : Rat)) = 1) {z : Rat} (hz : 0 < z) : Btw X Y ((n : Rat) + z⁻¹) ↔ Btw U V z := by
 have pX : 0 < X - ofRat (n : Rat) := sub_pos.2 hX
 have pY : 0 < Y - ofRat (n : Rat) := sub_pos.2 (lt_trans hX hXY)
 unfold Btw
 rw [shift_lt, lt_shift, inv_dn hz (pos_of_mul pX hV) hV, inv_up hz (pos_of_mul pY hU) hU]
 exact And.comm
theorem btw_inv0 (hX : X = ofRat (n : Rat)) (hXY : X < Y) (hU : U * (Y - ofRat (n : Rat)) = 1) {z : Rat} (hz : 0 < z) : Btw X Y ((n : Rat) + z⁻¹) ↔ U < ofRat z := by
 have pY : 0 < Y - ofRat (n : Rat) := sub_pos.2 (by rw [← hX]; exact hXY)
 unfold Btw
 rw [lt_shift, inv_up hz (pos_of_mul pY hU) hU]
 constructor
 ·exact fun h => h.2
 ·refine fun h => ⟨?_, h⟩
  rw [hX]
  refine rat_lt.2 ?_
  have := (rinv hz).1
  grind
theorem gt_floor (hX : ofRat (n : Rat) ≤ X) {t : Rat} (h : Btw X Y t) : (n : Rat) < t := rat_lt.1 (lt_of_le_of_lt hX h.1)
theorem back (t : Rat) : (n : Rat) + ((t - (n : Rat))⁻¹)⁻¹ = t := by rw [Rat.inv_inv]; grind
theorem best_rec {V : RR} (h0 : 0 ≤ n) (hX : ofRat (n : Rat) < X) (hXY : X < Y) (hU : U * (Y - ofRat (n : Rat)) = 1) (hV : V * (X - ofRat (n : Rat)) = 1) {s : Rat} (hs : 0 < s) (hb : BestP (Btw U V) s) : BestP (Btw X Y) ((n : Rat) + s⁻¹) := by
 refine best_stepP n h0 s hs ((btw_inv hX hXY hU hV hs).2 hb.1) fun r hr => ?_
 have h1 := gt_floor (le_of_lt hX) hr
 have hp : 0 < (r - (n : Rat))⁻¹ := (rinv (by grind)).1
 have h2 : Btw U V (r - (n : Rat))⁻¹ := by
  rw [← btw_inv hX hXY hU hV hp, back]; exact hr
 have h3 := hb.2 _ h2
 have h4 := num_pos_of s hs
 have h5 := num_pos_of _ hp
 exact ⟨h1, h3.1, by omega⟩
theorem best_last (h0 : 0 ≤ n) (hX : X = ofRat (n : Rat)) (hXY : X < Y) (hU : U * (Y - ofRat (n : Rat)) = 1) {m : Int} (hm : IsFl U m) (hm0 : 0 ≤ m) : BestP (Btw X Y) ((n : Rat) + (((m + 1 : Int) : Rat))⁻¹) := by
 have hs : (0 : Rat) < ((m + 1 : Int) : Rat) := by
  have : (0 : Int) < m + 1 := by omega
  exact_mod_cast this
 refine best_stepP n h0 _ hs ((btw_inv0 hX hXY hU hs).2 hm.2) fun r hr => ?_
 have h1 := gt_floor (le_of_eq hX.symm) hr
 have hp : 0 < (r - (n : Rat))⁻¹ := (rinv (by grind)).1
 have h2 : U < ofRat (r - (n : Rat))⁻¹ := by
  rw [← btw_inv0 hX hXY hU hp, back]; exact hr
 generalize (r - (n : Rat))⁻¹ = w at *
 have h3 : (m : Rat) < w := rat_lt.1 (lt_of_le_of_lt hm.1 h2)
 have h4 := int_lt_num h3
 have h5 : 0 < w.den := Nat.pos_of_ne_zero w.den_nz
 have h6 : m * 1 ≤ m * w.den := Int.mul_le_mul_of_nonneg_left (by omega) hm0
 refine ⟨h1, ?_, ?_⟩
 ·rw [Rat.den_intCast]; exact h5
 ·rw [Rat.num_intCast]; omega
theorem best_whole (h0 : 0 ≤ n) (hX : IsFl X n) (hY : ofRat ((n + 1 : Int) : Rat) < Y) : BestP (Btw X Y) ((n + 1 : Int) : Rat) :=
 best_nextP n h0 (fun r hr => gt_floor hX.1 hr) ⟨hX.2, hY⟩
theorem best_zeroR (hX : X < 0) (hY : 0 < Y) : BestP (Btw X Y) 0 := ⟨⟨hX, hY⟩, fun r _ => ⟨Nat.pos_of_ne_zero r.den_nz, Nat.zero_le _⟩⟩
theorem neg_lt_neg {a b : RR} : -a < -b ↔ b < a := by
 constructor
 ·intro h; exact lt_of_pos (-b - -a) (sub_pos.2 h) (ring [a, b] (by decide +kernel))
 ·intro h; exact lt_of_pos (a - b) (sub_pos.2 h) (ring [a, b] (by decide +kernel))
theorem best_negR {r : Rat} (h : BestP (Btw (-Y) (-X)) r) : BestP (Btw X Y) (-r) := by
 have flip : ∀ t : Rat, Btw (-Y) (-X) t ↔ Btw X Y (-t) := fun t => by
  unfold Btw
  rw [rat_neg, ← neg_lt_neg (a := -ofRat t) (b := X), ← neg_lt_neg (a := Y) (b := -ofRat t), RR.neg_neg]
  exact And.comm
 refine ⟨(flip r).1 h.1, fun t ht => ?_⟩
 have := h.2 (-t) ((flip (-t)).2 (by rw [Rat.neg_neg]; exact ht))
 rw [Rat.neg_den, Rat.neg_num, Int.natAbs_neg]
 rw [Rat.neg_den, Rat.neg_num, Int.natAbs_neg] at this
 exact this
end
end Go.Proofs.YtlblfgbpogljoaaGreatDoor

end
section
/- No program in sight: sizes of the numbers that come up on the way to the simplest fraction. -/
namespace Go.Proofs.YtlblfgbpogljoaaGreatDoor
open Go Go.RowKit Go.Sy
open Vi RR
def Rm (z0 z : Rl) (a b c d : Int) : Prop := z0.val * (ofRat (c : Rat) * z.val + ofRat (d : Rat)) = ofRat (a : Rat) * z.val + ofRat (b : Rat)
theorem Rm.start (z : Rl) : Rm z z 1 0 0 1 := by
 unfold Rm
 show z.val * (ofRat 0 * z.val + ofRat 1) = ofRat 1 * z.val + ofRat 0
 exact ring [z.val] (by decide +kernel)
theorem Rm.next {z0 z z' : Rl} {a b c d n : Int} (h : Rm z0 z a b c d) (hz : z'.val * (z.val - ofRat (n : Rat)) = 1) : Rm z0 z' (a * n + b) a (c * n + d) c := by
 unfold Rm at h ⊢
 rw [Rat.intCast_add, Rat.intCast_add, Rat.intCast_mul, Rat.intCast_mul]
 exact ring2 [z0.val, z.val, z'.val, (a : Rat), (b : Rat), (c : Rat), (d : Rat), (n : Rat)] h z'.val hz (ofRat (a : Rat) - z0.val * ofRat (c : Rat)) (by decide +kernel)
theorem lift {x : Int} {i j : Nat} (h : x.natAbs < 256 ^ i) (hij : i ≤ j) : x.natAbs < 256 ^ j := Nat.lt_of_lt_of_le h (Nat.pow_le_pow_right (by omega) hij)
theorem sub_lt' {x y : Int} {i : Nat} (hx : x.natAbs < 256 ^ i) (hy : y.natAbs < 256 ^ i) : (x - y).natAbs < 256 ^ (i + 1) := by
 rw [Int.sub_eq_add_neg]
 exact natAbs_add_lt' hx (by rw [Int.natAbs_neg]; exact hy)
theorem size_of {z0 z : Rl} (h0 : z0.Ok) (hz : z.Ok) [hp : HasSz z0.p 8] [hr : HasSz z0.r 8] {a b c d : Int} {m : Nat} (ha : a.natAbs < 256 ^ m) (hb : b.natAbs < 256 ^ m) (hc : c.natAbs < 256 ^ m) (hd : d.natAbs < 256 ^ m)
    (det : a * d - b * c = 1 ∨ a * d - b * c = -1) (h : Rm z0 z a b c d) : HasSz z.p (2 * m + 27) ∧ HasSz z.r (4 * m + 62) := by
 obtain ⟨n, hn⟩ : ∃ n : Int, n = z0.p.num := ⟨_, rfl⟩
 obtain ⟨e, he⟩ : ∃ e : Int, e = (z0.p.den : Int) := ⟨_, rfl⟩
 obtain ⟨u, hu⟩ : ∃ u : Int, u = z0.r.num := ⟨_, rfl⟩
 obtain ⟨v, hv⟩ : ∃ v : Int, v = (z0.r.den : Int) := ⟨_, rfl⟩
 have pe : z0.p * (e : Rat) = (n : Rat) := by rw [he, hn]; exact rat_mul_den z0.p
 have rv : z0.r * (v : Rat) = (u : Rat) := by rw [hv, hu]; exact rat_mul_den z0.r
 have zn : n.natAbs < 256 ^ 8 := by rw [hn]; exact hp.sz.1
 have ze : e.natAbs < 256 ^ 8 := by rw [he, Int.natAbs_natCast]; exact hp.sz.2
 have zu : u.natAbs < 256 ^ 8 := by rw [hu]; exact hr.sz.1
 have zv : v.natAbs < 256 ^ 8 := by rw [hv, Int.natAbs_natCast]; exact hr.sz.2
 have e0 : (e : Rat) ≠ 0 := by
  have : e ≠ 0 := by rw [he]; have := z0.p.den_nz; omega
  exact_mod_cast this
 have v0 : (v : Rat) ≠ 0 := by
  have : v ≠ 0 := by rw [hv]; have := z0.r.den_nz; omega
  exact_mod_cast this
 clear hn he hu hv
 have detR : (a : Rat) * (d : Rat) - (b : Rat) * (c : Rat) = 1 ∨ (a : Rat) * (d : Rat) - (b : Rat) * (c : Rat) = -1 := by
  rcases det with h | h
  ·left; rw [← Rat.intCast_mul, ← Rat.intCast_mul, ← Rat.intCast_sub, h]; rfl
  ·right; rw [← Rat.intCast_mul, ← Rat.intCast_mul, ← Rat.intCast_sub, h]; rfl
 obtain ⟨ε, hε⟩ : ∃ ε : Int, ε = a * d - b * c := ⟨_, rfl⟩
 have hεR : (ε : Rat) = (a : Rat) * (d : Rat) - (b : Rat) * (c : Rat) := by rw [hε, Rat.intCast_sub, Rat.intCast_mul, Rat.intCast_mul]
 have sq := Rl.sr_sq z0 h0.nonneg
 obtain ⟨N, hN⟩ : ∃ N : Rat, N = (a : Rat) * a - 2 * a * c * z0.p + c * c * (z0.p * z0.p - z0.r) := ⟨_, rfl⟩
 have N0 : N ≠ 0 := by
  intro hz0
  have f : ((a : Rat) - c * z0.p) * ((a : Rat) - c * z0.p) = c * c * z0.r := by grind
  by_cases c0 : (c : Rat) = 0
  ·have a0 : (a : Rat) = 0 := by
     rw [c0] at f
     have f2 : (a : Rat) * a = 0 := by grind
     rcases Rat.mul_eq_zero.1 f2 with g | g <;> exact g
   rcases detR with g | g <;> (rw [c0, a0] at g; grind)
  ·rcases h0 with ⟨r0, _⟩ | ⟨_, irr⟩
   ·
    have g1 : (a : Rat) - c * z0.p = 0 := by
     rw [r0] at f
     have f2 : ((a : Rat) - c * z0.p) * ((a : Rat) - c * z0.p) = 0 := by grind
     rcases Rat.mul_eq_zero.1 f2 with g | g <;> exact g
    have hv0 := val_rat0 r0
    unfold Rm at h
    rw [hv0] at h
    have g2 : ofRat (d * z0.p - b) = 0 := by
     have g3 : (a : Rat) = c * z0.p := by grind
     rw [g3] at h
     have : ofRat (d * z0.p - b) = ofRat z0.p * (ofRat (c : Rat) * z.val + ofRat (d : Rat)) - (ofRat ((c : Rat) * z0.p) * z.val + ofRat (b : Rat)) := ring [(c : Rat), (d : Rat), (b : Rat), z0.p, z.val] (by decide +kernel)
     rw [this, h]
     exact ring [(c : Rat), z0.p, z.val, (b : Rat)] (by decide +kernel)
    have g4 := rat_inj (q := 0) g2
    have g5 : (a : Rat) * d - b * c = 0 := by
     have g3 : (a : Rat) = c * z0.p := by grind
     have g6 : (b : Rat) = d * z0.p := by grind
     rw [g3, g6]; grind
    rcases detR with g | g <;> (rw [g5] at g; exact absurd g (by decide +kernel))
   ·refine irr (((a : Rat) - c * z0.p) / c) ?_
    have ee : ((a : Rat) - c * z0.p) / c * c = (a : Rat) - c * z0.p := Rat.div_mul_cancel c0
    generalize ((a : Rat) - c * z0.p) / c = q at *
    have f2 : (c * c) * (q * q - z0.r) = 0 := by rw [← ee] at f; grind
    rcases Rat.mul_eq_zero.1 f2 with g | g
    ·rcases Rat.mul_eq_zero.1 g with g | g <;> exact absurd g c0
    ·grind
 obtain ⟨I, hI⟩ : ∃ I : Rat, I = 1 / N := ⟨_, rfl⟩
 have hIN : I * N = 1 := by rw [hI]; exact div_mul1 N0
 obtain ⟨T, hT⟩ : ∃ T : Rat, T = ((a : Rat) * d + b * c) * z0.p - d * c * (z0.p * z0.p - z0.r) - a * b := ⟨_, rfl⟩
 have key : ofRat N * z.val = ofRat T + ofRat (ε : Rat) * (ofRat z0.s * sqrt z0.r) := by
  unfold Rm Rl.val at h
  rw [hN, hT, hεR]
  have k1 : ofRat ((a : Rat) - c * z0.p) + ofRat (c : Rat) * (ofRat z0.s * sqrt z0.r) = ofRat ((a : Rat) - c * z0.p) + ofRat (c : Rat) * (ofRat z0.s * sqrt z0.r) := rfl
  show _ = _
  have hv : z.val = ofRat z.p + ofRat z.s * sqrt z.r := rfl
  rw [← hv] at h
  generalize z.val = Z at *
  exact ring2 [Z, z0.p, z0.r, (a : Rat), (b : Rat), (c : Rat), (d : Rat), z0.s, sqrt z0.r] h (-(ofRat ((a : Rat) - c * z0.p) + ofRat (c : Rat) * (ofRat z0.s * sqrt z0.r))) sq (ofRat (c : Rat) * ofRat (c : Rat) * Z + ofRat (d : Rat) * ofRat (c : Rat)) (by decide +kernel)
 have val : z.val = ofRat (T * I) + ofRat ((ε : Rat) * z0.s * I) * sqrt z0.r := by
  have h1 : ofRat I * ofRat N = 1 := by rw [← rat_mul, hIN]; rfl
  exact ring2 [z.val, T, I, N, (ε : Rat), z0.s, sqrt z0.r] key (ofRat I) h1 (-z.val) (by decide +kernel)
 have mk := mkR_eq h0.nonneg hz val
 obtain ⟨A, hA⟩ : ∃ A : Int, A = (a * d + b * c) * (n * e * v) - d * c * (n * n * v - u * (e * e)) - a * b * (e * e * v) := ⟨_, rfl⟩
 obtain ⟨B, hB⟩ : ∃ B : Int, B = a * a * (e * e * v) - 2 * (a * c) * (n * e * v) + c * c * (n * n * v - u * (e * e)) := ⟨_, rfl⟩
 obtain ⟨F, hF⟩ : ∃ F : Rat, F = (e : Rat) * e * v := ⟨_, rfl⟩
 have F0 : F ≠ 0 := by
  rw [hF]
  intro g
  rcases Rat.mul_eq_zero.1 g with g | g
  ·rcases Rat.mul_eq_zero.1 g with g | g <;> exact e0 g
  ·exact v0 g
 have eA : (A : Rat) = T * F := by
  rw [hA, hT, hF]
  push_cast
  rw [← pe, ← rv]
  grind
 have eB : (B : Rat) = N * F := by
  rw [hB, hN, hF]
  push_cast
  rw [← pe, ← rv]
  grind
 have B0 : (B : Rat) ≠ 0 := by
  rw [eB]
  intro g
  rcases Rat.mul_eq_zero.1 g with g | g
  ·exact N0 g
  ·exact F0 g
 have B0' : B ≠ 0 := fun g => B0 (by rw [g]; rfl)
 have eP : T * I = Rat.divInt A B := by
  rw [Rat.divInt_eq_div]
  have g1 : T * I * (B : Rat) = (A : Rat) := by rw [eA, eB]; grind
  have g2 : (A : Rat) / (B : Rat) * (B : Rat) = (A : Rat) := Rat.div_mul_cancel B0
  have g3 : (T * I - (A : Rat) / (B : Rat)) * (B : Rat) = 0 := by grind
  rcases Rat.mul_eq_zero.1 g3 with g | g
  ·grind
  ·exact absurd g B0
 have eQ : (ε : Rat) * I = Rat.divInt (ε * (e * e * v)) B := by
  rw [Rat.divInt_eq_div]
  have g1 : (ε : Rat) * I * (B : Rat) = ((ε * (e * e * v) : Int) : Rat) := by
   rw [eB]; push_cast; rw [hF]; grind
  have g2 : ((ε * (e * e * v) : Int) : Rat) / (B : Rat) * (B : Rat) = ((ε * (e * e * v) : Int) : Rat) := Rat.div_mul_cancel B0
  have g3 : ((ε : Rat) * I - ((ε * (e * e * v) : Int) : Rat) / (B : Rat)) * (B : Rat) = 0 := by grind
  rcases Rat.mul_eq_zero.1 g3 with g | g
  ·grind
  ·exact absurd g B0
 have znev := natAbs_mul_lt' (natAbs_mul_lt' zn ze) zv
 have zeev := natAbs_mul_lt' (natAbs_mul_lt' ze ze) zv
 have zdif := sub_lt' (natAbs_mul_lt' (natAbs_mul_lt' zn zn) zv) (lift (natAbs_mul_lt' zu (natAbs_mul_lt' ze ze)) (show 8 + (8 + 8) ≤ 8 + 8 + 8 by omega))
 have sA : A.natAbs < 256 ^ (2 * m + 27) := by
  rw [hA]
  have t1 := natAbs_mul_lt' (natAbs_add_lt' (natAbs_mul_lt' ha hd) (natAbs_mul_lt' hb hc)) znev
  have t2 := natAbs_mul_lt' (natAbs_mul_lt' hd hc) zdif
  have t3 := natAbs_mul_lt' (natAbs_mul_lt' ha hb) zeev
  have t4 := sub_lt' (lift t1 (show _ ≤ 2 * m + 25 by omega)) (lift t2 (show _ ≤ 2 * m + 25 by omega))
  exact lift (sub_lt' (lift t4 (show _ ≤ 2 * m + 26 by omega)) (lift t3 (show _ ≤ 2 * m + 26 by omega))) (by omega)
 have sB : B.natAbs < 256 ^ (2 * m + 27) := by
  rw [hB]
  have two : (2 : Int).natAbs < 256 ^ 1 := by decide
  have t1 := natAbs_mul_lt' (natAbs_mul_lt' ha ha) zeev
  have t2 := natAbs_mul_lt' (natAbs_mul_lt' two (natAbs_mul_lt' ha hc)) znev
  have t3 := natAbs_mul_lt' (natAbs_mul_lt' hc hc) zdif
  have t4 := sub_lt' (lift t1 (show _ ≤ 2 * m + 25 by omega)) (lift t2 (show _ ≤ 2 * m + 25 by omega))
  exact lift (natAbs_add_lt' (lift t4 (show _ ≤ 2 * m + 26 by omega)) (lift t3 (show _ ≤ 2 * m + 26 by omega))) (by omega)
 have sE : (ε * (e * e * v)).natAbs < 256 ^ (2 * m + 27) := by
  have t0 : ε.natAbs < 256 ^ 1 := by rw [hε]; rcases det with g | g <;> rw [g] <;> decide
  exact lift (natAbs_mul_lt' t0 zeev) (by omega)
 haveI zP : HasSz (T * I) (2 * m + 27) := by rw [eP]; exact ⟨Sz.of A B _ B0' sA sB⟩
 haveI zQ : HasSz ((ε : Rat) * I) (2 * m + 27) := by rw [eQ]; exact ⟨Sz.of _ B _ B0' sE sB⟩
 have ss : (ε : Rat) * z0.s * I * ((ε : Rat) * z0.s * I) = (ε : Rat) * I * ((ε : Rat) * I) := by have := Rl.s_sq z0; grind
 have zQQ : HasSz ((ε : Rat) * z0.s * I * ((ε : Rat) * z0.s * I) * z0.r) (4 * m + 62) := by
  rw [ss]
  exact hs_mono (inferInstance : HasSz ((ε : Rat) * I * ((ε : Rat) * I) * z0.r) _) (by omega)
 rcases h0 with ⟨r0, _⟩ | ⟨_, irr⟩
 ·rw [r0, mkR_zero] at mk
  rw [← mk]
  exact ⟨zP, hs_mono hz0 (by omega)⟩
 ·rw [mkR_irr _ _ _ irr] at mk
  rw [← mk]
  exact ⟨zP, zQQ⟩
end Go.Proofs.YtlblfgbpogljoaaGreatDoor

end
section
/- No program in sight: different numbers lie apart, so a fraction of bounded size lies between them. -/
namespace Go.Proofs.YtlblfgbpogljoaaGreatDoor
open Go Go.RowKit Go.Sy
open Vi RR
theorem sq_ge (a : Rat) : -(a * a + 1) ≤ a ∧ a ≤ a * a + 1 := by
 rcases (by grind : a < 0 ∨ 0 ≤ a) with h | h
 ·have h1 := Rat.mul_pos (show 0 < -a by grind) (show 0 < -a by grind)
  refine ⟨?_, by grind⟩
  rcases (by grind : -1 ≤ a ∨ a < -1) with g | g
  ·grind
  ·have := Rat.mul_pos (show 0 < -a by grind) (show 0 < -a - 1 by grind)
   grind
 ·have h1 := Rat.mul_nonneg h h
  refine ⟨by grind, ?_⟩
  rcases (by grind : a ≤ 1 ∨ 1 < a) with g | g
  ·grind
  ·have := Rat.mul_pos (show 0 < a by grind) (show 0 < a - 1 by grind)
   grind
theorem sqrt_le1 {r : Rat} (hr : 0 ≤ r) : sqrt r ≤ ofRat (r + 1) := by
 refine sq_le (sqrt_nonneg r) (rat_le.2 (by grind)) ?_
 rw [sqrt_sq r hr, ← rat_mul]
 refine rat_le.2 ?_
 have := Rat.mul_nonneg hr hr
 grind
theorem le_add {a b c d : RR} (h1 : a ≤ b) (h2 : c ≤ d) : a + c ≤ b + d := by
 refine le_of_nonneg ((b - a) + (d - c)) (add_nonneg (sub_nonneg.2 h1) (sub_nonneg.2 h2)) ?_
 exact ring [a, b, c, d] (by decide +kernel)
theorem neg_le {a b : RR} (h : a ≤ b) : -b ≤ -a := by
 refine le_of_nonneg (b - a) (sub_nonneg.2 h) ?_
 exact ring [a, b] (by decide +kernel)
def Abs (w : RR) (M : Rat) : Prop := -ofRat M ≤ w ∧ w ≤ ofRat M
theorem Abs.rat (a : Rat) : Abs (ofRat a) (a * a + 1) := ⟨by rw [← rat_neg]; exact rat_le.2 (sq_ge a).1, rat_le.2 (sq_ge a).2⟩
theorem Abs.add {v w : RR} {M K : Rat} (h : Abs v M) (g : Abs w K) : Abs (v + w) (M + K) := by
 refine ⟨?_, by rw [rat_add]; exact le_add h.2 g.2⟩
 rw [show -ofRat (M + K) = -ofRat M + -ofRat K from ring [M, K] (by decide +kernel)]
 exact le_add h.1 g.1
theorem Abs.neg {v : RR} {M : Rat} (h : Abs v M) : Abs (-v) M := ⟨neg_le h.2, by have := neg_le h.1; rwa [RR.neg_neg] at this⟩
theorem Abs.nonneg {v : RR} {M : Rat} (h : Abs v M) : 0 ≤ M := by
 have h1 := le_trans h.1 h.2
 rw [← rat_neg] at h1
 have := rat_le.1 h1
 grind
theorem mul_le_of {v w : RR} {M K : Rat} (hv : 0 ≤ v) (hvM : v ≤ ofRat M) (hw : w ≤ ofRat K) (hK : 0 ≤ K) : v * w ≤ ofRat (M * K) := by
 rw [rat_mul]
 have h1 := mul_nonneg hv (sub_nonneg.2 hw)
 have h2 := mul_nonneg (sub_nonneg.2 hvM) (show (0 : RR) ≤ ofRat K from rat_le.2 hK)
 refine le_of_nonneg (v * (ofRat K - w) + (ofRat M - v) * ofRat K) (add_nonneg h1 h2) ?_
 exact ring [v, w, M, K] (by decide +kernel)
theorem Abs.mul {v w : RR} {M K : Rat} (h : Abs v M) (g : Abs w K) : Abs (v * w) (M * K) := by
 have pos : ∀ v w : RR, 0 ≤ v → Abs v M → Abs w K → Abs (v * w) (M * K) := fun v w hv h g => by
  refine ⟨?_, mul_le_of hv h.2 g.2 g.nonneg⟩
  have := neg_le (mul_le_of hv h.2 g.neg.2 g.nonneg)
  rwa [show -(v * -w) = v * w from ring [v, w] (by decide +kernel)] at this
 rcases le_total 0 v with hv | hv
 ·exact pos v w hv h g
 ·have hv2 : 0 ≤ -v := by
    have := neg_le hv
    rwa [show -(0 : RR) = 0 from ring [] (by decide +kernel)] at this
  have := (pos (-v) w hv2 h.neg g).neg
  rwa [show -(-v * w) = v * w from ring [v, w] (by decide +kernel)] at this
theorem Abs.root (x : Rl) (hx : 0 ≤ x.r) : Abs (ofRat x.s * sqrt x.r) (x.r + 1) := by
 have h1 := sqrt_le1 hx
 have h2 := sqrt_nonneg x.r
 have h : Abs (sqrt x.r) (x.r + 1) := ⟨le_trans (by rw [← rat_neg]; exact rat_le.2 (by grind)) h2, h1⟩
 rcases Rl.s_cases x with ⟨_, e⟩ | ⟨_, e⟩ <;> rw [e]
 ·have := h.neg
  rwa [show -sqrt x.r = ofRat (-1) * sqrt x.r from ring [sqrt x.r] (by decide +kernel)] at this
 ·rwa [show sqrt x.r = ofRat 1 * sqrt x.r from ring [sqrt x.r] (by decide +kernel)] at h
theorem Abs.mono {v : RR} {M K : Rat} (h : Abs v M) (hMK : M ≤ K) : Abs v K :=
 ⟨le_trans (by rw [← rat_neg, ← rat_neg]; exact rat_le.2 (by grind)) h.1, le_trans h.2 (rat_le.2 hMK)⟩
theorem ge_den (e : Rat) (h : 0 < e) : 1 ≤ e * (e.den : Rat) := by
 rw [rat_mul_den]
 have := num_pos_of e h
 have h2 : (1 : Int) ≤ e.num := by omega
 exact_mod_cast h2
theorem apart {δ w : RR} {e M : Rat} (hδ : 0 < δ) (h : δ * w = ofRat e) (he : e ≠ 0) (hw : Abs w M) : 1 ≤ δ * ofRat (M * (e.den : Rat)) := by
 have hM := hw.nonneg
 have main : ∀ (e : Rat) (w : RR), 0 < e → δ * w = ofRat e → w ≤ ofRat M → 1 ≤ δ * ofRat (M * (e.den : Rat)) := fun e w he h hw => by
  have h1 : ofRat (e * (e.den : Rat)) ≤ δ * ofRat (M * (e.den : Rat)) := by
   have h3 : (0 : RR) ≤ ofRat (e.den : Rat) := rat_le.2 (by exact_mod_cast Nat.zero_le e.den)
   have h4 := mul_nonneg (mul_nonneg (le_of_lt hδ) (sub_nonneg.2 hw)) h3
   refine le_of_nonneg _ h4 ?_
   rw [rat_mul, rat_mul, ← h]
   generalize (e.den : Rat) = D
   exact ring [δ, w, M, D] (by decide +kernel)
  exact le_trans (rat_le.2 (ge_den e he)) h1
 rcases (by grind : 0 < e ∨ e < 0) with g | g
 ·exact main e w g h hw.2
 ·have := main (-e) (-w) (by grind) (by rw [rat_neg, ← h]; exact ring [δ, w] (by decide +kernel)) hw.neg.2
  rwa [Rat.neg_den] at this
theorem rat_le_pow {q : Rat} {k : Nat} [h : HasSz q k] : q ≤ ((256 ^ k : Nat) : Rat) := by
 have h1 := h.sz.1
 obtain ⟨Q, hQ⟩ : ∃ Q : Nat, Q = 256 ^ k := ⟨_, rfl⟩
 rw [← hQ] at h1 ⊢
 have hd : (1 : Rat) ≤ (q.den : Rat) := by have := q.den_nz; exact_mod_cast (show 1 ≤ q.den by omega)
 have hn : (q.num : Rat) ≤ (Q : Rat) := by
  have : q.num ≤ (Q : Int) := by omega
  exact_mod_cast this
 have he := rat_mul_den q
 have hp : (0 : Rat) ≤ (Q : Rat) := by exact_mod_cast Nat.zero_le _
 generalize (Q : Rat) = P at *
 generalize (q.den : Rat) = d at *
 rcases (by grind : q ≤ 0 ∨ 0 < q) with g | g
 ·exact Rat.le_trans g hp
 ·have := Rat.mul_le_mul_of_nonneg_left hd (Rat.le_of_lt g)
  grind
theorem sep_num {x y : Rl} (hx : x.Ok) (hy : y.Ok) [h1 : HasSz x.p 8] [h2 : HasSz x.r 8] [h3 : HasSz y.p 8] [h4 : HasSz y.r 8] (hlt : x.val < y.val) :
    ∃ G : Rat, HasSz G 600 ∧ 1 ≤ (y.val - x.val) * ofRat G := by
 obtain ⟨d, hd⟩ : ∃ d : Rat, d = y.p - x.p := ⟨_, rfl⟩
 haveI zd : HasSz d 17 := by rw [hd]; exact (inferInstance : HasSz (y.p - x.p) (8 + 8 + 1))
 obtain ⟨σ, hσ⟩ : ∃ σ, σ = ofRat x.s * sqrt x.r := ⟨_, rfl⟩
 obtain ⟨τ, hτ⟩ : ∃ τ, τ = ofRat y.s * sqrt y.r := ⟨_, rfl⟩
 have qσ : σ * σ = x.r := by rw [hσ]; exact Rl.sr_sq x hx.nonneg
 have qτ : τ * τ = y.r := by rw [hτ]; exact Rl.sr_sq y hy.nonneg
 have aσ : Abs σ (x.r + 1) := by rw [hσ]; exact Abs.root x hx.nonneg
 have aτ : Abs τ (y.r + 1) := by rw [hτ]; exact Abs.root y hy.nonneg
 obtain ⟨δ, hδ⟩ : ∃ δ, δ = y.val - x.val := ⟨_, rfl⟩
 have eδ : δ = ofRat d - σ + τ := by
  rw [hδ, hd, hσ, hτ]
  unfold Rl.val
  exact ring [y.p, x.p, y.s, x.s, sqrt y.r, sqrt x.r] (by decide +kernel)
 have pδ : 0 < δ := by rw [hδ]; exact sub_pos.2 hlt
 rw [← hδ]
 obtain ⟨g, hg⟩ : ∃ g : Rat, g = d * d + x.r - y.r := ⟨_, rfl⟩
 obtain ⟨h, hh⟩ : ∃ h : Rat, h = -2 * d := ⟨_, rfl⟩
 have f1 : δ * (ofRat d - σ - τ) = ofRat g + ofRat h * σ := by
  rw [eδ, hg, hh]
  exact ring2 [d, σ, τ, x.r, y.r] qσ 1 qτ (-1) (by decide +kernel)
 have f2 : (ofRat g + ofRat h * σ) * (ofRat g - ofRat h * σ) = ofRat (g * g - h * h * x.r) := ring1 [g, h, σ, x.r] qσ (-(ofRat h * ofRat h)) (by decide +kernel)
 have b1 : Abs (ofRat d - σ - τ) (d * d + 1 + (x.r + 1) + (y.r + 1)) := by
  have := ((Abs.rat d).add aσ.neg).add aτ.neg
  rwa [show ofRat d + -σ + -τ = ofRat d - σ - τ from ring [d, σ, τ] (by decide +kernel)] at this
 have b2 : Abs (ofRat g - ofRat h * σ) (g * g + 1 + (h * h + 1) * (x.r + 1)) := by
  have := (Abs.rat g).add ((Abs.rat h).mul aσ).neg
  rwa [show ofRat g + -(ofRat h * σ) = ofRat g - ofRat h * σ from ring [g, h, σ] (by decide +kernel)] at this
 haveI zg : HasSz g 52 := by rw [hg]; exact (inferInstance : HasSz (d * d + x.r - y.r) (17 + 17 + 8 + 1 + 8 + 1))
 haveI zh : HasSz h 18 := by rw [hh]; exact (inferInstance : HasSz (-2 * d) (1 + 17))
 by_cases he : g * g - h * h * x.r = 0
 ·
  have g0 : g = 0 ∧ ofRat h * σ = 0 := by
   rcases hx with ⟨r0, _⟩ | ⟨_, irr⟩
   ·rw [r0] at he
    have : g * g = 0 := by grind
    refine ⟨by rcases Rat.mul_eq_zero.1 this with h | h <;> exact h, ?_⟩
    rw [hσ, r0, sqrt_zero]
    exact ring [h, x.s] (by decide +kernel)
   ·by_cases h0 : h = 0
    ·rw [h0] at he
     have : g * g = 0 := by grind
     refine ⟨by rcases Rat.mul_eq_zero.1 this with h | h <;> exact h, ?_⟩
     rw [h0]
     exact ring [σ] (by decide +kernel)
    ·exfalso
     refine irr (g / h) ?_
     have ee : g / h * h = g := Rat.div_mul_cancel h0
     generalize g / h = q at *
     have f3 : (h * h) * (q * q - x.r) = 0 := by rw [← ee] at he; grind
     rcases Rat.mul_eq_zero.1 f3 with k | k
     ·rcases Rat.mul_eq_zero.1 k with k | k <;> exact absurd k h0
     ·grind
  have f4 : δ * (ofRat d - σ - τ) = 0 := by
   rw [f1, g0.1, g0.2]
   exact ring [] (by decide +kernel)
  have f5 : ofRat d - σ - τ = 0 := Classical.byContradiction fun hne => mul_ne (ne_of_lt pδ).symm hne f4
  have f6 : δ * τ = ofRat (2 * y.r) := by
   have f7 : δ = τ + τ := by rw [eδ]; exact ring1 [d, σ, τ] f5 1 (by decide +kernel)
   rw [f7]
   exact ring1 [τ, y.r] qτ 2 (by decide +kernel)
  have hr : 2 * y.r ≠ 0 := by
   intro hr
   rw [hr] at f6
   have h7 : τ = 0 := Classical.byContradiction fun hne => mul_ne (ne_of_lt pδ).symm hne f6
   have h8 : δ = 0 := by rw [eδ]; exact ring2 [d, σ, τ] f5 1 h7 2 (by decide +kernel)
   rw [h8] at pδ
   exact lt_irrefl _ pδ
  have h9 := apart pδ f6 hr aτ
  have hz : (2 * y.r).den < 256 ^ 9 := (inferInstance : HasSz (2 * y.r) (1 + 8)).sz.2
  haveI : HasSz (((2 * y.r).den : Rat)) 9 := ⟨by rw [show (((2 * y.r).den : Rat)).num = ((2 * y.r).den : Int) from Rat.num_natCast _, Int.natAbs_natCast]; exact hz, by rw [Rat.den_natCast]; decide⟩
  exact ⟨_, hs_mono (inferInstance : HasSz ((y.r + 1) * ((2 * y.r).den : Rat)) _) (by omega), h9⟩
 ·have f3 : δ * ((ofRat d - σ - τ) * (ofRat g - ofRat h * σ)) = ofRat (g * g - h * h * x.r) := by
    rw [← f2, ← f1]
    exact ring [δ, d, σ, τ, g, h] (by decide +kernel)
  have h9 := apart pδ f3 he (b1.mul b2)
  have hz : (g * g - h * h * x.r).den < 256 ^ 149 := (inferInstance : HasSz (g * g - h * h * x.r) (52 + 52 + (18 + 18 + 8) + 1)).sz.2
  generalize (g * g - h * h * x.r).den = D at *
  haveI : HasSz ((D : Nat) : Rat) 149 := ⟨by rw [Rat.num_natCast, Int.natAbs_natCast]; exact hz, by rw [Rat.den_natCast]; exact Nat.one_lt_pow (by decide) (by decide)⟩
  exact ⟨_, hs_mono (inferInstance : HasSz ((d * d + 1 + (x.r + 1) + (y.r + 1)) * (g * g + 1 + (h * h + 1) * (x.r + 1)) * ((D : Nat) : Rat)) _) (by decide), h9⟩
end Go.Proofs.YtlblfgbpogljoaaGreatDoor

end
section
/- No program in sight: a fraction of bounded size between two numbers; what is kept from one whole part to the next. -/
namespace Go.Proofs.YtlblfgbpogljoaaGreatDoor
open Go Go.RowKit Go.Sy
open Vi RR
theorem fl_is (x : Rl) (hx : x.Ok) : IsFl x.val (fl x) := fl_ok x hx
theorem between_ex {x y : Rl} (hx : x.Ok) [h1 : HasSz x.p 8] [h2 : HasSz x.r 8] {G : Rat} {k : Nat} [hG : HasSz G k] (hlt : x.val < y.val) (h : 1 ≤ (y.val - x.val) * ofRat G) :
    ∃ t : Rat, Btw x.val y.val t ∧ HasSz t (k + 40) := by
 obtain ⟨N, hN⟩ : ∃ N : Nat, N = 256 ^ (k + 1) := ⟨_, rfl⟩
 have hN1 : ((256 ^ k : Nat) : Rat) < (N : Rat) := by
  have : 256 ^ k < N := by rw [hN, Nat.pow_succ]; have := Nat.pow_pos (a := 256) (n := k) (by omega); omega
  exact_mod_cast this
 have hGN := lt_of_le_of_lt' (rat_le_pow (q := G) (k := k)) hN1
 have hNp : (0 : Rat) < (N : Rat) := by
  have : 0 < N := by rw [hN]; exact Nat.pow_pos (by omega)
  exact_mod_cast this
 have hδ := sub_pos.2 hlt
 obtain ⟨m, hm⟩ : ∃ m, m = fl (x.scR (N : Rat)) := ⟨_, rfl⟩
 have f := fl_is (x.scR (N : Rat)) (Rl.scR_ok hx _)
 rw [Rl.scR_val hx, ← hm] at f
 obtain ⟨f1, f2⟩ := f
 have hB : Abs x.val (x.p * x.p + 1 + (x.r + 1)) := by
  have := (Abs.rat x.p).add (Abs.root x hx.nonneg)
  exact this
 have zB : HasSz (x.p * x.p + 1 + (x.r + 1)) 30 := hs_mono (inferInstance : HasSz (x.p * x.p + 1 + (x.r + 1)) (8 + 8 + 1 + 1 + (8 + 1 + 1) + 1)) (by omega)
 generalize x.p * x.p + 1 + (x.r + 1) = B at *
 have hB2 := rat_le_pow (q := B) (k := 30)
 obtain ⟨Q, hQ⟩ : ∃ Q : Nat, Q = N * 256 ^ 30 := ⟨_, rfl⟩
 have hNB : (N : Rat) * B ≤ (Q : Rat) := by
  rw [hQ]
  have := Rat.mul_le_mul_of_nonneg_left hB2 (Rat.le_of_lt hNp)
  rw [Rat.natCast_mul]
  exact this
 have u1 : (m : Rat) ≤ (Q : Rat) := by
  refine Rat.le_trans (rat_le.1 (le_trans f1 ?_)) hNB
  rw [rat_mul]
  refine le_of_nonneg (ofRat (N : Rat) * (ofRat B - x.val)) (mul_nonneg (rat_le.2 (Rat.le_of_lt hNp)) (sub_nonneg.2 hB.2)) ?_
  generalize (N : Rat) = M
  exact ring [M, B, x.val] (by decide +kernel)
 have u2 : -(Q : Rat) < ((m + 1 : Int) : Rat) := by
  have h5 : -((N : Rat) * B) < ((m + 1 : Int) : Rat) := by
   refine rat_lt.1 (lt_of_le_of_lt ?_ f2)
   rw [rat_neg, rat_mul]
   refine le_of_nonneg (ofRat (N : Rat) * (x.val - -ofRat B)) (mul_nonneg (rat_le.2 (Rat.le_of_lt hNp)) (sub_nonneg.2 hB.1)) ?_
   generalize (N : Rat) = M
   exact ring [M, B, x.val] (by decide +kernel)
  grind
 have v1 : m ≤ (Q : Int) := by exact_mod_cast u1
 have v2 : -(Q : Int) < m + 1 := by
  have : (((-(Q : Int)) : Int) : Rat) < ((m + 1 : Int) : Rat) := by rw [Rat.intCast_neg]; exact u2
  exact_mod_cast this
 have eT : Rat.divInt (m + 1) (N : Int) * (N : Rat) = ((m + 1 : Int) : Rat) := by
  rw [Rat.divInt_eq_div]
  exact Rat.div_mul_cancel (by have : ((N : Int) : Rat) = (N : Rat) := rfl
                               rw [this]; grind)
 have hn0 : (N : Int) ≠ 0 := by
  intro e
  have : (N : Rat) = 0 := by exact_mod_cast e
  grind
 refine ⟨Rat.divInt (m + 1) (N : Int), ⟨?_, ?_⟩, ⟨Sz.of _ _ (k + 40) hn0 ?_ ?_⟩⟩
 ·have hd : (0 : RR) < ofRat (N : Rat) := rat_lt.2 hNp
  rw [← mul_lt_iff hd, ← rat_mul, Rat.mul_comm, eT]
  exact f2
 ·have hd : (0 : RR) < ofRat (N : Rat) := rat_lt.2 hNp
  rw [← mul_lt_iff hd, ← rat_mul, Rat.mul_comm, eT]
  have h6 : (1 : RR) < (y.val - x.val) * ofRat (N : Rat) := by
   refine lt_of_le_of_lt h ?_
   rw [mul_lt_iff hδ]
   exact rat_lt.2 hGN
  have h7 : ofRat ((m + 1 : Int) : Rat) ≤ ofRat (N : Rat) * x.val + 1 := by
   rw [Rat.intCast_add, rat_add]
   exact le_add f1 (le_refl _)
  refine lt_of_le_of_lt h7 ?_
  refine lt_of_pos ((y.val - x.val) * ofRat (N : Rat) - 1) (sub_pos.2 h6) ?_
  generalize (N : Rat) = M
  exact ring [y.val, x.val, M] (by decide +kernel)
 ·have hQ2 : Q = 256 ^ (k + 31) := by rw [hQ, hN, ← Nat.pow_add]
  have : 2 * 256 ^ (k + 31) ≤ 256 ^ (k + 40) := by
   rw [show k + 40 = k + 31 + 9 by omega, Nat.pow_add 256 (k + 31) 9]
   have : 2 ≤ 256 ^ 9 := by decide
   rw [Nat.mul_comm]
   exact Nat.mul_le_mul_left _ this
  have hp := Nat.pow_pos (a := 256) (n := k + 31) (by omega)
  rw [← hQ2] at this hp
  omega
 ·rw [Int.natAbs_natCast, hN]
  exact Nat.pow_lt_pow_right (by omega) (by omega)
theorem btw_ex {x y : Rl} (hx : x.Ok) (hy : y.Ok) [h1 : HasSz x.p 8] [h2 : HasSz x.r 8] [h3 : HasSz y.p 8] [h4 : HasSz y.r 8] (hlt : x.val < y.val) : ∃ t : Rat, Btw x.val y.val t ∧ HasSz t 640 := by
 obtain ⟨G, hG, h⟩ := sep_num hx hy hlt
 exact between_ex hx hlt h
structure Jn (z1 z2 : Rl) (t0 : Rat) (x y : Rl) (t : Rat) (a b c d : Int) : Prop where
 rel : (Rm z1 x a b c d ∧ Rm z2 y a b c d) ∨ (Rm z2 x a b c d ∧ Rm z1 y a b c d)
 det : a * d - b * c = 1 ∨ a * d - b * c = -1
 a0 : 0 ≤ a
 b0 : 0 ≤ b
 c0 : 0 ≤ c
 d0 : 0 ≤ d
 num : t0.num = a * t.num + b * t.den
 den : (t0.den : Int) = c * t.num + d * t.den
theorem Jn.start (x y : Rl) (t : Rat) : Jn x y t x y t 1 0 0 1 :=
 ⟨.inl ⟨Rm.start x, Rm.start y⟩, .inl (by omega), by omega, by omega, by omega, by omega, by omega, by omega⟩
theorem Jn.next {z1 z2 x y x' y' : Rl} {t0 t : Rat} {a b c d n : Int} (h : Jn z1 z2 t0 x y t a b c d) (hn : 0 ≤ n) (ht : (n : Rat) < t) (hy : y'.val * (y.val - ofRat (n : Rat)) = 1) (hx : x'.val * (x.val - ofRat (n : Rat)) = 1) :
    Jn z1 z2 t0 y' x' (t - (n : Rat))⁻¹ (a * n + b) a (c * n + d) c := by
 have hp : 0 < t - (n : Rat) := (Rat.lt_iff_sub_pos _ _).1 ht
 obtain ⟨j1, j2⟩ := inv_pos_parts _ hp
 obtain ⟨k1, k2⟩ := sub_int n t
 have hn2 := num_pos_of _ hp
 have e1 : ((t - (n : Rat))⁻¹).num = (t.den : Int) := by rw [j1, k2]
 have e2 : (((t - (n : Rat))⁻¹).den : Int) = t.num - n * t.den := by rw [j2]; omega
 refine ⟨?_, ?_, Int.add_nonneg (Int.mul_nonneg h.a0 hn) h.b0, h.a0, Int.add_nonneg (Int.mul_nonneg h.c0 hn) h.d0, h.c0, ?_, ?_⟩
 ·rcases h.rel with ⟨r1, r2⟩ | ⟨r1, r2⟩
  ·exact .inr ⟨r2.next hy, r1.next hx⟩
  ·exact .inl ⟨r2.next hy, r1.next hx⟩
 ·have : (a * n + b) * c - a * (c * n + d) = -(a * d - b * c) := by grind
  rw [this]
  rcases h.det with g | g <;> rw [g] <;> omega
 ·rw [h.num, e1, e2]; grind
 ·rw [h.den, e1, e2]; grind
theorem Jn.small {z1 z2 x y : Rl} {t0 t : Rat} {a b c d : Int} (h : Jn z1 z2 t0 x y t a b c d) (ht : 0 < t) {m : Nat} (hs : Sz m t0) : a.natAbs < 256 ^ m ∧ b.natAbs < 256 ^ m ∧ c.natAbs < 256 ^ m ∧ d.natAbs < 256 ^ m := by
 have h1 := hs.1
 have h2 := hs.2
 have hn := num_pos_of t ht
 have hd : (0 : Int) < t.den := by have := t.den_nz; omega
 have e1 := h.num
 have e2 := h.den
 have a1 : a * 1 ≤ a * t.num := Int.mul_le_mul_of_nonneg_left (by omega) h.a0
 have b1 : b * 1 ≤ b * t.den := Int.mul_le_mul_of_nonneg_left (by omega) h.b0
 have c1 : c * 1 ≤ c * t.num := Int.mul_le_mul_of_nonneg_left (by omega) h.c0
 have d1 : d * 1 ≤ d * t.den := Int.mul_le_mul_of_nonneg_left (by omega) h.d0
 have a0 := h.a0
 have b0 := h.b0
 have c0 := h.c0
 have d0 := h.d0
 generalize 256 ^ m = M at *
 refine ⟨by omega, by omega, by omega, by omega⟩
theorem Jn.sizes {z1 z2 x y : Rl} {t0 t : Rat} {a b c d : Int} (h : Jn z1 z2 t0 x y t a b c d) (ht : 0 < t) {m : Nat} (hs : Sz m t0) (o1 : z1.Ok) (o2 : z2.Ok) (ox : x.Ok) (oy : y.Ok) [HasSz z1.p 8] [HasSz z1.r 8] [HasSz z2.p 8] [HasSz z2.r 8] :
    (HasSz x.p (2 * m + 27) ∧ HasSz x.r (4 * m + 62)) ∧ HasSz y.p (2 * m + 27) ∧ HasSz y.r (4 * m + 62) := by
 obtain ⟨sa, sb, sc, sd⟩ := h.small ht hs
 rcases h.rel with ⟨r1, r2⟩ | ⟨r1, r2⟩
 ·exact ⟨size_of o1 ox sa sb sc sd h.det r1, size_of o2 oy sa sb sc sd h.det r2⟩
 ·exact ⟨size_of o2 ox sa sb sc sd h.det r1, size_of o1 oy sa sb sc sd h.det r2⟩
end Go.Proofs.YtlblfgbpogljoaaGreatDoor

end
section
/- The program's simplest fraction between two numbers with a root. -/
namespace Go.Proofs.YtlblfgbpogljoaaGreatDoor
open Go Go.RowKit Go.Sy
open Vi
theorem qScaleB (x : Rl) (q : Rat) (k : Nat) (hk : k ≤ 40000) [HasSz x.p k] [HasSz x.r k] [HasSz q k] : Sp Tryz.prog 171 [] [rlV x, rV q] (rlV (x.scR q)) [] := by
 have A := pMul q q fz fz
 have B := pMul (q * q) x.r fz fz
 have C := pMul x.p q fz fz
 have D := pSgn q
 have e0 : decide (sgQ q < 0) = decide (q < 0) := by
  rcases sgQ_cases q with ⟨h1, h2⟩ | ⟨h1, h2⟩ | ⟨h1, h2⟩ <;> rw [h1]
  ·rw [decide_eq_true h2]; rfl
  ·rw [show decide (q < 0) = false from decide_eq_false (by grind)]; rfl
  ·rw [show decide (q < 0) = false from decide_eq_false (by grind)]; rfl
 obtain ⟨p, r, neg⟩ := x
 unfold Rl.scR
 dsimp only at *
 by_cases h : q * q * r = 0
 ·have E := binR0' (q * q * r) (b := false) (by simp [h])
  rw [decide_eq_true h]
  clear h
  generalize q * q * r = s at *
  generalize q * q = t at *
  generalize p * q = u at *
  generalize (neg != decide (q < 0)) = v at *
  exact walk (code := Tryz.f171.body.getD .skip) [c A, c B, c C, x2 E] fol Tryz.func171 (by kernel_rfl) (fun xs w => Tryz.call171 xs w) (by kernel_rfl)
 ·have E := binR0' (q * q * r) (b := true) (by simp [h])
  rw [decide_eq_false h]
  clear h
  generalize q * q * r = s at *
  generalize q * q = t at *
  generalize p * q = u at *
  generalize decide (q < 0) = d at *
  generalize sgQ q = z at *
  cases d <;> cases neg <;> exact walk (code := Tryz.f171.body.getD .skip) [c A, c B, c C, x2 E, c D, eb e0] fol Tryz.func171 (by kernel_rfl) (fun xs w => Tryz.call171 xs w) (by kernel_rfl)
theorem qInverseB (x : Rl) {i j : Nat} [HasSz x.p i] [HasSz x.r j] (hx : x.Ok) (h0 : x ≠ Rl.rat 0) (hs : i + j ≤ 4900 := by first | omega | decide) : Sp Tryz.prog 209 [] [rlV x] (.tuple #[rlV x.inv, nV 0]) [] := by
 have S := qSgnR x hx.nonneg
 have e0 := sgR_ne (val_ne0 hx h0)
 have I := pI 1 (by omega) (by omega)
 rw [show ((1 : Int) : Rat) = 1 from rfl] at I
 unfold Rl.inv
 by_cases h : x.r = 0
 ·rw [if_pos h]
  have hp : x.p ≠ 0 := fun e => val_ne0 hx h0 (by rw [val_rat0 h, e]; rfl)
  have Q := qQuot 1 x.p hp fz fz
  have F := qFromRat (1 / x.p)
  have B := binR0 x.r (b := true) (by simp [h])
  clear h h0 hp hx
  generalize Rl.rat (1 / x.p) = y at *
  generalize 1 / x.p = t at *
  generalize (1 : Rat) = one at *
  generalize sgR x.val = z at *
  obtain ⟨p, r, neg⟩ := x
  dsimp only at *
  exact walk (code := Tryz.f209.body.getD .skip) [c S, eb e0, x2 B, c I, c Q, c F] fol Tryz.func209 (by kernel_rfl) (fun xs w => Tryz.call209 xs w) (by kernel_rfl)
 ·rw [if_neg h]
  have hn := nm_ne hx h
  have B := binR0 x.r (b := false) (by simp [h])
  have M := pMul x.p x.p fz fz
  have U := pSub (x.p * x.p) x.r fz fz
  haveI z0 : HasSz x.nm (i + i + j + 1) := (inferInstance : HasSz (x.p * x.p - x.r) _)
  have Q := qQuot 1 x.nm hn fz fz
  haveI z1 : HasSz (1 / x.nm) (3 * (i + j) + 3) := hs_mono (hs_div 1 x.nm _ _ hn) (by omega)
  haveI z2 : HasSz x.cj.p (3 * (i + j) + 3) := hs_mono ‹HasSz x.p i› (by omega)
  haveI z3 : HasSz x.cj.r (3 * (i + j) + 3) := hs_mono ‹HasSz x.r j› (by omega)
  have C := qScaleB x.cj (1 / x.nm) (3 * (i + j) + 3) (by omega)
  rw [show x.p * x.p - x.r = x.nm from rfl] at U
  unfold Rl.cj at *
  clear h h0 hn hx z0 z1 z2 z3
  generalize 1 / x.nm = t at *
  generalize Rl.scR _ t = y at *
  generalize x.nm = n at *
  generalize x.p * x.p = t2 at *
  generalize (1 : Rat) = one at *
  generalize sgR x.val = z at *
  obtain ⟨p, r, neg⟩ := x
  dsimp only at *
  exact walk (code := Tryz.f209.body.getD .skip) [c S, eb e0, x2 B, c M, c U, c I, c Q, c C] fol Tryz.func209 (by kernel_rfl) (fun xs w => Tryz.call209 xs w) (by kernel_rfl)
theorem inv_eq {y : Rl} (hy : y.Ok) (h0 : y ≠ Rl.rat 0) : y.inv.val * y.val = 1 := inv_val hy h0
theorem ne_rat0 {y : Rl} (h : 0 < y.val) : y ≠ Rl.rat 0 := fun e => by
 rw [e, Rl.rat_val] at h
 exact RR.lt_irrefl _ h
theorem sgR_pos {v : RR} (h : 0 < v) : sgR v = 1 := RR.sg_pos h
theorem sg_nn {v : RR} (h : 0 ≤ v) : decide (sgR v < 0) = false := by
 rcases RR.sg_cases v with ⟨e, g⟩ | ⟨e, _⟩ | ⟨e, _⟩
 ·exact absurd g h
 ·rw [e]; rfl
 ·rw [e]; rfl
theorem int_szB {n : Int} {k : Nat} (h : n.natAbs < 256 ^ k) (hk : 1 ≤ k) : HasSz (n : Rat) k := ⟨by rw [Rat.num_intCast]; exact h, by rw [Rat.den_intCast]; exact Nat.one_lt_pow (by omega) (by decide)⟩
theorem mg_powB {n : Int} {k : Nat} (h : n.natAbs < 256 ^ k) : (mg n).size ≤ k := size_mag_le _ k h
theorem Jn.tsz {z1 z2 x y : Rl} {t0 t : Rat} {a b c d : Int} (h : Jn z1 z2 t0 x y t a b c d) (ht : 0 < t) {m : Nat} (hs : Sz m t0) : t.num.natAbs < 256 ^ m ∧ t.den < 256 ^ m := by
 have h1 := hs.1
 have h2 := hs.2
 have hn := num_pos_of t ht
 have hd : (0 : Int) < t.den := by have := t.den_nz; omega
 have e1 := h.num
 have e2 := h.den
 have a0 := h.a0
 have b0 := h.b0
 have c0 := h.c0
 have d0 := h.d0
 have m1 : 0 ≤ a * t.num := Int.mul_nonneg a0 (by omega)
 have m2 : 0 ≤ b * t.den := Int.mul_nonneg b0 (by omega)
 have m3 : 0 ≤ c * t.num := Int.mul_nonneg c0 (by omega)
 have m4 : 0 ≤ d * t.den := Int.mul_nonneg d0 (by omega)
 have det := h.det
 generalize 256 ^ m = M at *
 constructor
 ·rcases (by omega : a = 0 ∨ 1 ≤ a) with g | g
  ·rcases (by omega : c = 0 ∨ 1 ≤ c) with g2 | g2
   ·rw [g, g2] at det; simp at det
   ·have := Int.mul_le_mul_of_nonneg_right g2 (show 0 ≤ t.num by omega); omega
  ·have := Int.mul_le_mul_of_nonneg_right g (show 0 ≤ t.num by omega); omega
 ·rcases (by omega : b = 0 ∨ 1 ≤ b) with g | g
  ·rcases (by omega : d = 0 ∨ 1 ≤ d) with g2 | g2
   ·rw [g, g2] at det; simp at det
   ·have := Int.mul_le_mul_of_nonneg_right g2 (show 0 ≤ (t.den : Int) by omega); omega
  ·have := Int.mul_le_mul_of_nonneg_right g (show 0 ≤ (t.den : Int) by omega); omega
theorem Jn.sizeU {z1 z2 x y u : Rl} {t0 t : Rat} {a b c d n : Int} (h : Jn z1 z2 t0 x y t a b c d) (hn : 0 ≤ n) (ht : (n : Rat) < t) (hu : u.val * (y.val - RR.ofRat (n : Rat)) = 1) (ou : u.Ok) {e : Nat} (he : e ≤ 640) (hs : Sz e t0) (o1 : z1.Ok) (o2 : z2.Ok) [HasSz z1.p 8] [HasSz z1.r 8] [HasSz z2.p 8] [HasSz z2.r 8] :
    HasSz u.p 1307 ∧ HasSz u.r 2622 := by
 have hp : 0 < (t - (n : Rat))⁻¹ := (rinv (by grind)).1
 have main : ∀ z : Rl, z.Ok → HasSz z.p 8 → HasSz z.r 8 → Rm z y a b c d → HasSz u.p 1307 ∧ HasSz u.r 2622 := fun z oz s1 s2 r => by
  have J : Jn z z t0 y y t a b c d := ⟨.inl ⟨r, r⟩, h.det, h.a0, h.b0, h.c0, h.d0, h.num, h.den⟩
  have h := ((J.next hn ht hu hu).sizes hp hs oz oz ou ou).1
  exact ⟨hs_mono h.1 (by omega), hs_mono h.2 (by omega)⟩
 rcases h.rel with ⟨_, r⟩ | ⟨_, r⟩
 ·exact main z2 o2 inferInstance inferInstance r
 ·exact main z1 o1 inferInstance inferInstance r
theorem simp_main {z1 z2 : Rl} (o1 : z1.Ok) (o2 : z2.Ok) [HasSz z1.p 8] [HasSz z1.r 8] [HasSz z2.p 8] [HasSz z2.r 8] {t0 : Rat} {e : Nat} (he : e ≤ 640) (he1 : 1 ≤ e) (hs : Sz e t0) :
    ∀ (M : Nat) (x y : Rl) (t : Rat) (a b c d : Int), t.den ≤ M → x.Ok → y.Ok → Jn z1 z2 t0 x y t a b c d → 0 ≤ x.val → Btw x.val y.val t →
     ∃ r, 0 < r ∧ BestP (Btw x.val y.val) r ∧ HasSz r e ∧ Sp Tryz.prog 186 [] [rlV x, rlV y] (rV r) [] := by
 intro M
 induction M with
 | zero => intro x y t a b c d hM; have := t.den_nz; omega
 | succ M ih =>
  intro x y t a b c d hM ox oy hJ hx0 ht
  have hxy : x.val < y.val := RR.lt_trans ht.1 ht.2
  have hy0 : 0 < y.val := RR.lt_of_le_of_lt hx0 hxy
  have ht0 : 0 < t := RR.rat_lt.1 (RR.lt_of_le_of_lt hx0 ht.1)
  obtain ⟨⟨sx1, sx2⟩, sy1, sy2⟩ := hJ.sizes ht0 hs o1 o2 ox oy
  have sx1 : HasSz x.p 1307 := hs_mono sx1 (by omega)
  have sx2 : HasSz x.r 2622 := hs_mono sx2 (by omega)
  have sy1 : HasSz y.p 1307 := hs_mono sy1 (by omega)
  have sy2 : HasSz y.r 2622 := hs_mono sy2 (by omega)
  obtain ⟨tn, td⟩ := hJ.tsz ht0 hs
  have szr : ∀ r, BestP (Btw x.val y.val) r → HasSz r e := fun r hr => by
   have h := hr.2 t ht
   exact ⟨by omega, by omega⟩
  obtain ⟨n, hn⟩ : ∃ n, n = fl x := ⟨_, rfl⟩
  have fx := fl_is x ox
  rw [← hn] at fx
  have hn0 : 0 ≤ n := by
   have := RR.rat_lt.1 (RR.lt_of_le_of_lt hx0 fx.2)
   have h2 : (0 : Int) < n + 1 := by exact_mod_cast this
   omega
  have hnt : (n : Rat) < t := gt_floor fx.1 ht
  have hnz : n.natAbs < 256 ^ e := by
   have h1 := int_lt_num hnt
   have hd : 0 < t.den := Nat.pos_of_ne_zero t.den_nz
   have h2 : n * 1 ≤ n * t.den := Int.mul_le_mul_of_nonneg_left (by omega) hn0
   omega
  have zn : HasSz (n : Rat) 640 := hs_mono (int_szB hnz he1) he
  have mn : (mg n).size ≤ 640 := Nat.le_trans (mg_powB hnz) he
  have mn1 := mg_add n 1
  rw [mg_one] at mn1
  have zn1 : HasSz ((n + 1 : Int) : Rat) 2622 := by
   have e : ((n + 1 : Int) : Rat) = (n : Rat) + 1 := by rw [Rat.intCast_add]; rfl
   rw [e]
   exact hs_mono (⟨zn.sz.add (inferInstance : HasSz (1 : Rat) 1).sz⟩ : HasSz ((n : Rat) + 1) (640 + 1 + 1)) (by omega)
  have S1 := qSgnR x ox.nonneg
  have S2 := qSgnR y oy.nonneg
  rw [sgR_pos hy0] at S2
  have F := qFlr x ox.nonneg
  rw [← hn] at F
  have J := iFromInt 1 (by omega) (by omega)
  have A := iAdd n 1 (by omega) (by rw [mg_one]; omega)
  have W := qWhole (n + 1) (by omega)
  have C : Sp Tryz.prog 208 [] [rlV y, rV ((n + 1 : Int) : Rat)] (nV (Rl.cmp y (Rl.rat ((n + 1 : Int) : Rat)))) [] := by
   haveI : HasSz y.p 2622 := hs_mono sy1 (by omega)
   clear sy1
   exact qCompareRat y _ 2622 (by omega) (by omega) oy.nonneg
  have e1 := sg_nn hx0
  by_cases hc : RR.ofRat ((n + 1 : Int) : Rat) < y.val
  ·have hb := best_whole hn0 fx hc
   refine ⟨_, ?_, hb, szr _ hb, simpWhole x y _ n (n + 1) _ _ _ e1 (by decide) ?_ S1 S2 F J A W C⟩
   ·have : (0 : Int) < n + 1 := by omega
    exact_mod_cast this
   ·unfold Rl.cmp
    rw [Rl.rat_val, RR.sg_pos (RR.sub_pos.2 hc)]; rfl
  have hc2 : y.val ≤ RR.ofRat ((n + 1 : Int) : Rat) := RR.not_lt.1 hc
  have ec : decide (Rl.cmp y (Rl.rat ((n + 1 : Int) : Rat)) > 0) = false := by
   unfold Rl.cmp
   rw [Rl.rat_val]
   rcases RR.sg_cases (y.val - RR.ofRat ((n + 1 : Int) : Rat)) with ⟨e, _⟩ | ⟨e, _⟩ | ⟨_, g⟩
   ·rw [e]; rfl
   ·rw [e]; rfl
   ·exact absurd (RR.sub_pos.1 g) hc
  have W2 := qWhole n (by omega)
  have Ng := pNeg (n : Rat)
  haveI zl : HasSz (-(n : Rat)) 640 := ⟨zn.sz.neg⟩
  obtain ⟨x', hx'⟩ : ∃ x' : Rl, x' = ⟨x.p + -(n : Rat), x.r, x.neg⟩ := ⟨_, rfl⟩
  obtain ⟨y', hy'⟩ : ∃ y' : Rl, y' = ⟨y.p + -(n : Rat), y.r, y.neg⟩ := ⟨_, rfl⟩
  have H1 := qShift x (-(n : Rat)) fz fz
  have H2 := qShift y (-(n : Rat)) fz fz
  rw [← hx'] at H1
  rw [← hy'] at H2
  have vx : x'.val = x.val - RR.ofRat (n : Rat) := by
   rw [hx', Rl.shift_val]
   exact RR.ring [x.val, (n : Rat)] (by decide +kernel)
  have vy : y'.val = y.val - RR.ofRat (n : Rat) := by
   rw [hy', Rl.shift_val]
   exact RR.ring [y.val, (n : Rat)] (by decide +kernel)
  have ox' : x'.Ok := by rw [hx']; exact Rl.shift_ok ox _
  have oy' : y'.Ok := by rw [hy']; exact Rl.shift_ok oy _
  haveI s1 : HasSz x'.p 1948 := by rw [hx']; exact ⟨(sx1.sz.add zl.sz).mono (by omega)⟩
  haveI s2 : HasSz x'.r 2622 := by rw [hx']; exact sx2
  haveI s3 : HasSz y'.p 1948 := by rw [hy']; exact ⟨(sy1.sz.add zl.sz).mono (by omega)⟩
  haveI s4 : HasSz y'.r 2622 := by rw [hy']; exact sy2
  have py' : 0 < y'.val := by rw [vy]; exact RR.sub_pos.2 (RR.lt_of_le_of_lt fx.1 hxy)
  have V := qInverseB y' oy' (ne_rat0 py')
  have iy := inv_eq oy' (ne_rat0 py')
  rw [vy] at iy
  have ou := inv_ok oy'
  obtain ⟨u1, u2⟩ := hJ.sizeU hn0 hnt iy ou he hs o1 o2
  generalize y'.inv = u at *
  obtain ⟨m, hm⟩ : ∃ m, m = fl u := ⟨_, rfl⟩
  have fu := fl_is u ou
  rw [← hm] at fu
  have F2 := qFlr u ou.nonneg
  rw [← hm] at F2
  have mz : (mg m).size ≤ 20000 := by
   haveI : HasSz u.p 2622 := hs_mono u1 (by omega)
   clear u1
   have := fl_size u 2622
   rw [← hm] at this
   omega
  have pu : 0 < u.val := pos_of_mul (by rw [← vy]; exact py') iy
  have hm0 : 0 ≤ m := by
   have := RR.rat_lt.1 (RR.lt_trans pu fu.2)
   have h2 : (0 : Int) < m + 1 := by exact_mod_cast this
   omega
  have A2 := iAdd m 1 (by omega) (by rw [mg_one]; omega)
  have mm1 := mg_add m 1
  rw [mg_one] at mm1
  have W3 := qWhole (m + 1) (by omega)
  have I := pI 1 (by omega) (by omega)
  rw [show ((1 : Int) : Rat) = 1 from rfl] at I
  have S3 := qSgnR x' ox'.nonneg
  by_cases hz : x.val = RR.ofRat (n : Rat)
  ·have z0 : x'.val = 0 := by rw [vx, hz]; exact RR.ring [(n : Rat)] (by decide +kernel)
   rw [RR.sg_zero z0] at S3
   have hb := best_last hn0 hz hxy iy fu hm0
   have hp : (0 : Rat) < ((m + 1 : Int) : Rat) := by
    have : (0 : Int) < m + 1 := by omega
    exact_mod_cast this
   haveI zm : HasSz ((m + 1 : Int) : Rat) 20002 := int_hs' _ _ (by omega) (by omega)
   have Q := qQuot 1 ((m + 1 : Int) : Rat) (by grind) fz fz
   haveI := hs_div 1 ((m + 1 : Int) : Rat) _ _ (by grind)
   have U := pSub (1 / ((m + 1 : Int) : Rat)) (-(n : Rat)) fz fz
   have eq : 1 / ((m + 1 : Int) : Rat) - -(n : Rat) = (n : Rat) + ((m + 1 : Int) : Rat)⁻¹ := by rw [Rat.div_def]; grind
   refine ⟨_, ?_, hb, szr _ hb, eq1 (simpLast x y x' y' u _ _ _ _ _ _ _ n (n + 1) m (m + 1) _ _ _ e1 (by decide) ec S1 S2 F J A W C W2 Ng H1 H2 V I F2 A2 W3 S3 Q U) eq⟩
   have := (rinv hp).1
   have h2 : (0 : Rat) ≤ (n : Rat) := by exact_mod_cast hn0
   grind
  ·have hlt : RR.ofRat (n : Rat) < x.val := by
     rcases RR.lt_or_eq fx.1 with h | h
     ·exact h
     ·exact absurd h.symm hz
   have px' : 0 < x'.val := by rw [vx]; exact RR.sub_pos.2 hlt
   rw [sgR_pos px'] at S3
   have V2 := qInverseB x' ox' (ne_rat0 px')
   have ix := inv_eq ox' (ne_rat0 px')
   rw [vx] at ix
   have oa := inv_ok ox'
   generalize x'.inv = w at *
   have hp : 0 < t - (n : Rat) := (Rat.lt_iff_sub_pos _ _).1 hnt
   have hq : 0 < (t - (n : Rat))⁻¹ := (rinv hp).1
   have hb' : Btw u.val w.val (t - (n : Rat))⁻¹ := by
    rw [← btw_inv hlt hxy iy ix hq, back]; exact ht
   have hden : ((t - (n : Rat))⁻¹).den ≤ M := by
    have e2 := (inv_pos_parts _ hp).2
    have e3 := (sub_int n t).1
    rw [e2, e3]
    have h5 : t < ((n + 1 : Int) : Rat) := RR.rat_lt.1 (RR.lt_of_lt_of_le ht.2 hc2)
    have h6 := (Rat.lt_iff _ _).1 h5
    rw [Rat.num_intCast, Rat.den_intCast] at h6
    have h7 : (n + 1) * (t.den : Int) = n * t.den + t.den := by grind
    have h8 := int_lt_num hnt
    omega
   obtain ⟨s, s0, sb, ss, R⟩ := ih u w (t - (n : Rat))⁻¹ _ _ _ _ hden ou oa (hJ.next hn0 hnt iy ix) (RR.le_of_lt pu) hb'
   have hb := best_rec hn0 hlt hxy iy ix s0 sb
   have Q := qQuot 1 s (by grind) fz fz
   haveI := hs_div 1 s _ _ (by grind)
   have U := pSub (1 / s) (-(n : Rat)) fz fz
   have eq : 1 / s - -(n : Rat) = (n : Rat) + s⁻¹ := by rw [Rat.div_def]; grind
   refine ⟨_, ?_, hb, szr _ hb, eq1 (simpStep x y x' y' u w _ _ _ _ _ _ _ _ n (n + 1) m (m + 1) _ _ _ _ e1 (by decide) ec (by decide) S1 S2 F J A W C W2 Ng H1 H2 V I F2 A2 W3 S3 V2 R Q U) eq⟩
   have := (rinv s0).1
   have h2 : (0 : Rat) ≤ (n : Rat) := by exact_mod_cast hn0
   grind
end Go.Proofs.YtlblfgbpogljoaaGreatDoor

end
section
/- Chapter 3's laws about Floor, Compare, moves and Make. -/
namespace Go.Proofs.YtlblfgbpogljoaaGreatDoor
open Go Go.RowKit Go.Sy
open Vi
theorem cmp_sym (x y : Rl) : Rl.cmp y x = -Rl.cmp x y := by
 unfold Rl.cmp
 rw [← RR.sg_opp, show -(x.val - y.val) = y.val - x.val from RR.ring [x.val, y.val] (by decide +kernel)]
end Go.Proofs.YtlblfgbpogljoaaGreatDoor
namespace Go.Proofs.YtlblfgbpogljoaaGreatDoor
open Go Go.RowKit Go.Sy
open Vi
theorem cmp_cases (x y : Rl) : (Rl.cmp x y = -1 ∧ x.val < y.val) ∨ (Rl.cmp x y = 0 ∧ x.val = y.val) ∨ (Rl.cmp x y = 1 ∧ y.val < x.val) := by
 unfold Rl.cmp
 rcases RR.sg_cases (x.val - y.val) with ⟨h, g⟩ | ⟨h, g⟩ | ⟨h, g⟩
 ·refine .inl ⟨h, RR.sub_pos.1 ?_⟩
  rw [RR.lt_zero, show -(x.val - y.val) = y.val - x.val from RR.ring [x.val, y.val] (by decide +kernel)] at g
  exact g
 ·exact .inr (.inl ⟨h, RR.ring1 [x.val, y.val] g 1 (by decide +kernel)⟩)
 ·exact .inr (.inr ⟨h, RR.sub_pos.1 g⟩)
end Go.Proofs.YtlblfgbpogljoaaGreatDoor
namespace Go.Proofs.YtlblfgbpogljoaaGreatDoor
open Go Go.RowKit Go.Sy
open Vi
instance (q : Rat) (k : Nat) [h : HasSz q k] : HasSz (Rl.rat q).p k := h
end Go.Proofs.YtlblfgbpogljoaaGreatDoor
namespace Go.Proofs.YtlblfgbpogljoaaGreatDoor
open Go Go.RowKit Go.Sy
open Vi
end Go.Proofs.YtlblfgbpogljoaaGreatDoor

end
section
/- The simplest fraction between any two numbers of bounded size; whether a fraction lies between two numbers. -/
namespace Go.Proofs.YtlblfgbpogljoaaGreatDoor
open Go Go.RowKit Go.Sy
open Vi
theorem simpZero (x y : Rl) (s1 s2 : Int) (e1 : decide (s1 < 0) = true) (e2 : decide (s2 > 0) = true) (S1 : Sp Tryz.prog 105 [] [rlV x] (nV s1) []) (S2 : Sp Tryz.prog 105 [] [rlV y] (nV s2) []) : Sp Tryz.prog 186 [] [rlV x, rlV y] rZ [] := by
 obtain ⟨xp, xr, xn⟩ := x
 obtain ⟨yp, yr, yn⟩ := y
 exact walk (code := Tryz.f186.body.getD .skip) [c S1, eb e1, c S2, eb e2] fol Tryz.func186 (by kernel_rfl) (fun xs w => Tryz.call186 xs w) (by kernel_rfl)
theorem simpNeg (x y x' y' : Rl) (v q : Rat) (s1 s2 : Int) (b : Bool) (e0 : decide (s1 < 0) = b) (e1 : decide (s2 > 0) = false) (e2 : decide (s2 ≤ 0) = true) (S1 : Sp Tryz.prog 105 [] [rlV x] (nV s1) []) (S2 : Sp Tryz.prog 105 [] [rlV y] (nV s2) [])
    (N1 : Sp Tryz.prog 199 [] [rlV y] (rlV y') []) (N2 : Sp Tryz.prog 199 [] [rlV x] (rlV x') []) (R : Sp Tryz.prog 186 [] [rlV y', rlV x'] (rV q) []) (N3 : Sp Tryz.prog 96 [] [rV q] (rV v) []) : Sp Tryz.prog 186 [] [rlV x, rlV y] (rV v) [] := by
 obtain ⟨xp, xr, xn⟩ := x
 obtain ⟨yp, yr, yn⟩ := y
 obtain ⟨xp', xr', xn'⟩ := x'
 obtain ⟨yp', yr', yn'⟩ := y'
 cases b
 ·exact walk (code := Tryz.f186.body.getD .skip) [c S1, eb e0, c S2, eb e2, c N1, c N2, c R, c N3] fol Tryz.func186 (by kernel_rfl) (fun xs w => Tryz.call186 xs w) (by kernel_rfl)
 ·exact walk (code := Tryz.f186.body.getD .skip) [c S1, eb e0, c S2, eb e1, c S2, eb e2, c N1, c N2, c R, c N3] fol Tryz.func186 (by kernel_rfl) (fun xs w => Tryz.call186 xs w) (by kernel_rfl)
theorem qSimpAll (x y : Rl) (hx : x.Ok) (hy : y.Ok) [h1 : HasSz x.p 8] [h2 : HasSz x.r 8] [h3 : HasSz y.p 8] [h4 : HasSz y.r 8] (hlt : x.val < y.val) :
    ∃ r, BestP (Btw x.val y.val) r ∧ HasSz r 640 ∧ Sp Tryz.prog 186 [] [rlV x, rlV y] (rV r) [] := by
 have S1 := qSgnR x hx.nonneg
 have S2 := qSgnR y hy.nonneg
 have main : ∀ x y : Rl, x.Ok → y.Ok → HasSz x.p 8 → HasSz x.r 8 → HasSz y.p 8 → HasSz y.r 8 → x.val < y.val → 0 ≤ x.val → ∃ r, BestP (Btw x.val y.val) r ∧ HasSz r 640 ∧ Sp Tryz.prog 186 [] [rlV x, rlV y] (rV r) [] := by
  intro x y hx hy h1 h2 h3 h4 hlt h0
  obtain ⟨t, ht, hs⟩ := btw_ex hx hy hlt
  obtain ⟨e, he⟩ : ∃ e, e = 640 := ⟨_, rfl⟩
  rw [← he] at hs
  obtain ⟨r, _, hb, hz, R⟩ := simp_main hx hy (Nat.le_of_eq he) (by omega) hs.sz t.den x y t 1 0 0 1 (Nat.le_refl _) hx hy (Jn.start x y t) h0 ht
  rw [he] at hz
  exact ⟨r, hb, hz, R⟩
 rcases RR.sg_cases y.val with ⟨e2, g2⟩ | ⟨e2, g2⟩ | ⟨e2, g2⟩
 ·have hle : y.val ≤ 0 := RR.le_of_lt g2
  have n1 := Rl.ngR_val hy
  have n2 := Rl.ngR_val hx
  obtain ⟨q, hb, hz, R⟩ := main y.ngR x.ngR (Rl.ngR_ok hy) (Rl.ngR_ok hx) ⟨h3.sz.neg⟩ h4 ⟨h1.sz.neg⟩ h2 (by rw [n1, n2]; exact neg_lt_neg.2 hlt) (by rw [n1]; have := neg_le hle; rwa [show -(0 : RR) = 0 from RR.ring [] (by decide +kernel)] at this)
  rw [n1, n2] at hb
  rw [e2] at S2
  exact ⟨_, best_negR hb, ⟨hz.sz.neg⟩, simpNeg x y _ _ _ q _ _ _ rfl (by decide) (by decide) S1 S2 (qNeg y) (qNeg x) R (pNeg q)⟩
 ·have n1 := Rl.ngR_val hy
  have n2 := Rl.ngR_val hx
  obtain ⟨q, hb, hz, R⟩ := main y.ngR x.ngR (Rl.ngR_ok hy) (Rl.ngR_ok hx) ⟨h3.sz.neg⟩ h4 ⟨h1.sz.neg⟩ h2 (by rw [n1, n2]; exact neg_lt_neg.2 hlt) (by rw [n1, g2, show -(0 : RR) = 0 from RR.ring [] (by decide +kernel)]; exact RR.le_refl 0)
  rw [n1, n2] at hb
  rw [e2] at S2
  exact ⟨_, best_negR hb, ⟨hz.sz.neg⟩, simpNeg x y _ _ _ q _ _ _ rfl (by decide) (by decide) S1 S2 (qNeg y) (qNeg x) R (pNeg q)⟩
 ·rcases RR.sg_cases x.val with ⟨e1, g1⟩ | ⟨e1, g1⟩ | ⟨e1, g1⟩
  ·rw [e1] at S1
   rw [e2] at S2
   refine ⟨0, best_zeroR g1 g2, hs_mono (inferInstance : HasSz (0 : Rat) 1) (by omega), ?_⟩
   rw [rV0]
   exact simpZero x y _ _ (by decide) (by decide) S1 S2
  ·exact main x y hx hy h1 h2 h3 h4 hlt (by rw [g1]; exact RR.le_refl 0)
  ·exact main x y hx hy h1 h2 h3 h4 hlt (RR.le_of_lt g1)
theorem qBetweenNo (x y : Rl) (c : Int) (ec : decide (c ≥ 0) = true) (C : Sp Tryz.prog 27 [] [rlV x, rlV y] (nV c) []) : Sp Tryz.prog 158 [] [rlV x, rlV y] (.tuple #[rZ, nV 7]) [] := by
 obtain ⟨xp, xr, xn⟩ := x
 obtain ⟨yp, yr, yn⟩ := y
 exact walk (code := Tryz.f158.body.getD .skip) [Sy.c C, eb ec] fol Tryz.func158 (by kernel_rfl) (fun xs w => Tryz.call158 xs w) (by kernel_rfl)
theorem cmp_lss (x y : Rl) : decide (Rl.cmp x y < 0) = true ↔ x.val < y.val := by
 rcases cmp_cases x y with ⟨e, h⟩ | ⟨e, h⟩ | ⟨e, h⟩ <;> rw [e]
 ·exact ⟨fun _ => h, fun _ => by decide⟩
 ·exact ⟨fun k => absurd k (by decide), fun k => absurd (h ▸ k) (RR.lt_irrefl _)⟩
 ·exact ⟨fun k => absurd k (by decide), fun k => absurd (RR.lt_trans h k) (RR.lt_irrefl _)⟩
end Go.Proofs.YtlblfgbpogljoaaGreatDoor

end
