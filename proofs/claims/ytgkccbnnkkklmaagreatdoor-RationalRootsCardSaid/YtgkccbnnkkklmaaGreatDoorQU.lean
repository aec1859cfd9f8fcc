/- Chapter 2's laws about sums and products. -/
import Derived.Test.YtgkccbnnkkklmaaGreatDoorQb
set_option linter.unusedSimpArgs false
set_option linter.unusedVariables false
namespace Go.Proofs.YtgkccbnnkkklmaaGreatDoor
open Go Go.RowKit Go.Sy
open Vi
theorem same (q : Rat) : Bin .eql 27 (rV q) (rV q) (.bool true) := binR1 q q (by simp)
theorem same' (q : Rat) : Bin .neq 27 (rV q) (rV q) (.bool false) := binR1' q q (by simp)
theorem eq1 {f : FuncId} {args : List Value} {p q : Rat} (h : Sp Tryz.prog f [] args (rV p) []) (e : p = q) : Sp Tryz.prog f [] args (rV q) [] := e ▸ h
theorem eq2 {f : FuncId} {args : List Value} {p q : Rat} {v : Value} (h : Sp Tryz.prog f [] args (.tuple #[rV p, v]) []) (e : p = q) : Sp Tryz.prog f [] args (.tuple #[rV q, v]) [] := e ▸ h
theorem RationalField_s (a1 a2 a3 a4 b1 b2 b3 b4 c1 c2 c3 c4 : Int) (ha : FracOk a1 a2 a3 a4) (hb : FracOk b1 b2 b3 b4) (hc : FracOk c1 c2 c3 c4) : Sp Tryz.prog 11 [] [.agg #[.int .i64 a1, .int .i64 a2, .int .u8 a3, .int .u8 a4], .agg #[.int .i64 b1, .int .i64 b2, .int .u8 b3, .int .u8 b4], .agg #[.int .i64 c1, .int .i64 c2, .int .u8 c3, .int .u8 c4]] (.bool true) [] := by
  obtain ⟨p, sp, kp⟩ := vFrac a1 a2 a3 a4 ha
  obtain ⟨q, sq, kq⟩ := vFrac b1 b2 b3 b4 hb
  obtain ⟨r, sr, kr⟩ := vFrac c1 c2 c3 c4 hc
  have fp := sp.fits (by omega)
  have fq := sq.fits (by omega)
  have fr := sr.fits (by omega)
  have fqr := (sq.add sr).fits (by omega)
  have fpq := (sp.add sq).fits (by omega)
  have gqr := (sq.mul sr).fits (by omega)
  have gpq := (sp.mul sq).fits (by omega)
  have gpr := (sp.mul sr).fits (by omega)
  have A1 := pAdd q r fq fr
  have M1 := pMul q r fq fr
  have A2 := pAdd p (q + r) fp fqr
  have A3 := pAdd p q fp fq
  have A4 := eq1 (pAdd (p + q) r fpq fr) (Rat.add_assoc p q r)
  have M2 := pMul p (q * r) fp gqr
  have M3 := pMul p q fp fq
  have M4 := eq1 (pMul (p * q) r gpq fr) (Rat.mul_assoc p q r)
  have M5 := pMul p (q + r) fp fqr
  have M6 := pMul p r fp fr
  have A5 := eq1 (pAdd (p * q) (p * r) gpq gpr) (Rat.mul_add p q r).symm
  have hk := vKnown
  generalize q + r = s at *
  generalize p + s = t at *
  generalize p + q = u at *
  generalize q * r = v at *
  generalize p * v = x at *
  generalize p * q = y at *
  generalize p * s = z at *
  generalize p * r = k at *
  exact walk (code := Tryz.f11.body.getD .skip) [c kp, c kq, c kr, c A1, c M1, c hk, c A2, c A3, c A4, x2 (same t), c M2, c M3, c M4, x2 (same x), c M5, c M3, c M6, c A5, x2 (same z)] fol Tryz.func11 (by kernel_rfl) (fun xs w => Tryz.call11 xs w) (by kernel_rfl)
theorem add_sub (p q : Rat) : p + q - q = p := by rw [Rat.sub_eq_add_neg, Rat.add_assoc, Rat.add_neg_cancel, Rat.add_zero]
theorem sub_add (p q : Rat) : p - q + q = p := by rw [Rat.sub_eq_add_neg, Rat.add_assoc, Rat.neg_add_cancel, Rat.add_zero]
theorem RationalAdds_s (a1 a2 a3 a4 b1 b2 b3 b4 : Int) (ha : FracOk a1 a2 a3 a4) (hb : FracOk b1 b2 b3 b4) : Sp Tryz.prog 4 [] [.agg #[.int .i64 a1, .int .i64 a2, .int .u8 a3, .int .u8 a4], .agg #[.int .i64 b1, .int .i64 b2, .int .u8 b3, .int .u8 b4]] (.bool true) [] := by
  obtain ⟨p, sp, kp⟩ := vFrac a1 a2 a3 a4 ha
  obtain ⟨q, sq, kq⟩ := vFrac b1 b2 b3 b4 hb
  have fp := sp.fits (by omega)
  have fq := sq.fits (by omega)
  have fs := (sp.add sq).fits (by omega)
  have fd := (sp.sub sq).fits (by omega)
  have A1 := pAdd p q fp fq
  have D1 := pSub p q fp fq
  have A2 := rAdd p q fp fq
  have D2 := rSub p q fp fq
  have A3 := eq1 (pAdd q p fq fp) (Rat.add_comm q p)
  have D3 := eq1 (pSub (p + q) q fs fq) (add_sub p q)
  have A4 := eq1 (pAdd (p - q) q fd fq) (sub_add p q)
  have V := vValid (p + q) (p - q) fs fd
  have hk := vKnown
  generalize p + q = s at *
  generalize p - q = t at *
  exact walk (code := Tryz.f4.body.getD .skip) [c kp, c kq, c A1, c D1, c hk, c A2, x2 (same s), c D2, x2 (same t), c A3, x2 (same s), c D3, x2 (same p), c A4, x2 (same p), cr V] fol Tryz.func4 (by kernel_rfl) (fun xs w => Tryz.call4 xs w) (by kernel_rfl)
theorem mul_div (p q : Rat) (h : q ≠ 0) : p * q / q = p := by rw [Rat.div_def, Rat.mul_assoc, Rat.mul_inv_cancel q h, Rat.mul_one]
theorem div_mul (p q : Rat) (h : q ≠ 0) : p / q * q = p := by rw [Rat.div_def, Rat.mul_assoc, Rat.inv_mul_cancel q h, Rat.mul_one]
theorem RationalMultiplies_s (a1 a2 a3 a4 b1 b2 b3 b4 : Int) (ha : FracOk a1 a2 a3 a4) (hb : FracOk b1 b2 b3 b4) : Sp Tryz.prog 10 [] [.agg #[.int .i64 a1, .int .i64 a2, .int .u8 a3, .int .u8 a4], .agg #[.int .i64 b1, .int .i64 b2, .int .u8 b3, .int .u8 b4]] (.bool true) [] := by
  obtain ⟨p, sp, kp⟩ := vFrac a1 a2 a3 a4 ha
  obtain ⟨q, sq, kq⟩ := vFrac b1 b2 b3 b4 hb
  have fp := sp.fits (by omega)
  have fq := sq.fits (by omega)
  have fm := (sp.mul sq).fits (by omega)
  have M1 := pMul p q fp fq
  have M2 := rMul p q fp fq
  have M3 := eq1 (pMul q p fq fp) (Rat.mul_comm q p)
  have G := rSign q
  have hk := vKnown
  by_cases h0 : q = 0
  · subst h0
    have D := pDiv0 p fp
    have V := vValid (p * 0) 0 fm fq
    rw [show cmpI (0 : Rat).num 0 = 0 from rfl] at G
    have hz := binR0 0 (b := true) (by simp)
    generalize p * 0 = m at *
    have hr : rV 0 = rZ := rV0
    have hc : rC 0 = [.bool false, .string ⟨#[]⟩, .bool false, .string ⟨#[]⟩] := by
      have := hr
      unfold rV rZ at this
      unfold rC
      injection this with this
      injection this
    rw [hc] at V
    rw [hr] at kq G M1 M2 M3 hz D
    exact walk (code := Tryz.f10.body.getD .skip) [c kp, c kq, c M1, c D, c hk, c M2, x2 (same' m), c M3, x2 (same' m), cr V, c G, L, x2 hz] fol Tryz.func10 (by kernel_rfl) (fun xs w => Tryz.call10 xs w) (by kernel_rfl)
  · have hqn : q.num ≠ 0 := fun h => h0 (Rat.num_eq_zero.1 h)
    have sd := sp.div sq hqn
    have fd := sd.fits (by omega)
    have D := pDiv p q h0 fp fq
    have D2 := rDiv p q h0 fp fq
    have B := eq2 (pDiv (p * q) q h0 fm fq) (mul_div p q h0)
    have M4 := eq1 (pMul (p / q) q fd fq) (div_mul p q h0)
    have V := vValid (p * q) (p / q) fm fd
    generalize p * q = m at *
    generalize p / q = d at *
    rcases Int.lt_or_gt_of_ne hqn with h | h
    · rw [cmpI_neg h] at G
      exact walk (code := Tryz.f10.body.getD .skip) [c kp, c kq, c M1, c D, c hk, c M2, x2 (same' m), c M3, x2 (same' m), cr V, c G, c B, c D2, x2 (same d), L, x2 (same p), c M4, x2 (same p)] fol Tryz.func10 (by kernel_rfl) (fun xs w => Tryz.call10 xs w) (by kernel_rfl)
    · rw [cmpI_pos h] at G
      exact walk (code := Tryz.f10.body.getD .skip) [c kp, c kq, c M1, c D, c hk, c M2, x2 (same' m), c M3, x2 (same' m), cr V, c G, c B, c D2, x2 (same d), L, x2 (same p), c M4, x2 (same p)] fol Tryz.func10 (by kernel_rfl) (fun xs w => Tryz.call10 xs w) (by kernel_rfl)
theorem RationalField_c (a1 a2 a3 a4 b1 b2 b3 b4 c1 c2 c3 c4 : Int) (w : World) (ha : FracOk a1 a2 a3 a4) (hb : FracOk b1 b2 b3 b4) (hc : FracOk c1 c2 c3 c4) : Calls Tryz.prog 11 #[.agg #[.int .i64 a1, .int .i64 a2, .int .u8 a3, .int .u8 a4], .agg #[.int .i64 b1, .int .i64 b2, .int .u8 b3, .int .u8 b4], .agg #[.int .i64 c1, .int .i64 c2, .int .u8 c3, .int .u8 c4]] w fun e w' => e = .returned (.bool true) ∧ Below w.heap.size w w' := (RationalField_s a1 a2 a3 a4 b1 b2 b3 b4 c1 c2 c3 c4 ha hb hc).calls rfl rfl w
theorem RationalAdds_c (a1 a2 a3 a4 b1 b2 b3 b4 : Int) (w : World) (ha : FracOk a1 a2 a3 a4) (hb : FracOk b1 b2 b3 b4) : Calls Tryz.prog 4 #[.agg #[.int .i64 a1, .int .i64 a2, .int .u8 a3, .int .u8 a4], .agg #[.int .i64 b1, .int .i64 b2, .int .u8 b3, .int .u8 b4]] w fun e w' => e = .returned (.bool true) ∧ Below w.heap.size w w' := (RationalAdds_s a1 a2 a3 a4 b1 b2 b3 b4 ha hb).calls rfl rfl w
theorem RationalMultiplies_c (a1 a2 a3 a4 b1 b2 b3 b4 : Int) (w : World) (ha : FracOk a1 a2 a3 a4) (hb : FracOk b1 b2 b3 b4) : Calls Tryz.prog 10 #[.agg #[.int .i64 a1, .int .i64 a2, .int .u8 a3, .int .u8 a4], .agg #[.int .i64 b1, .int .i64 b2, .int .u8 b3, .int .u8 b4]] w fun e w' => e = .returned (.bool true) ∧ Below w.heap.size w w' := (RationalMultiplies_s a1 a2 a3 a4 b1 b2 b3 b4 ha hb).calls rfl rfl w
end Go.Proofs.YtgkccbnnkkklmaaGreatDoor
