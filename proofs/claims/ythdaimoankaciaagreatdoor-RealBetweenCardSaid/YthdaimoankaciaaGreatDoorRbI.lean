/- Part 9 of the proof; what it holds is said text by text. -/
import Derived.Test.YthdaimoankaciaaGreatDoorRbH
section
/- Chapter 3's law about Between. -/
set_option linter.unusedSimpArgs false
set_option linter.unusedVariables false
namespace Go.Proofs.YthdaimoankaciaaGreatDoor
open Go Go.RowKit Go.Sy
open Vi
theorem RealBetween_s (b1 : Bool) (s1 : ByteArray) (b2 : Bool) (s2 : ByteArray) (b3 : Bool) (s3 : ByteArray) (b4 : Bool) (s4 : ByteArray) (n : Bool) (b5 : Bool) (s5 : ByteArray) (b6 : Bool) (s6 : ByteArray) (b7 : Bool) (s7 : ByteArray) (b8 : Bool) (s8 : ByteArray) (n2 : Bool) (h1 : Lim s1) (h2 : Lim s2) (h3 : Lim s3) (h4 : Lim s4) (h5 : Lim s5) (h6 : Lim s6) (h7 : Lim s7) (h8 : Lim s8) : Sp Tryz.prog 8 [] [flV b1 s1 b2 s2 b3 s3 b4 s4 n, flV b5 s5 b6 s6 b7 s7 b8 s8 n2] (.bool true) [] := by
 have K := vKnown3
 rcases vSmall b1 s1 b2 s2 b3 s3 b4 s4 n h1 h2 h3 h4 with S | ⟨x, ok, z1, z2, e, S⟩
 ·exact walk (code := Tryz.f8.body.getD .skip) [c K, c S, c K] fol Tryz.func8 (by kernel_rfl) (fun xs w => Tryz.call8 xs w) (by kernel_rfl)
 rcases vSmall b5 s5 b6 s6 b7 s7 b8 s8 n2 h5 h6 h7 h8 with T | ⟨y, ok2, z3, z4, e2, T⟩
 ·rw [e]
  clear e ok z1 z2
  exact walk (code := Tryz.f8.body.getD .skip) [c K, c S, c T, c K] fol Tryz.func8 (by kernel_rfl) (fun xs w => Tryz.call8 xs w) (by kernel_rfl)
 rw [e, e2]
 clear e e2 h1 h2 h3 h4 h5 h6 h7 h8
 have C := gCompare x y ok.nonneg ok2.nonneg
 have C2 := qCmp x y ok.nonneg ok2.nonneg
 have Z := gZero
 by_cases hc : decide (Rl.cmp x y ≥ 0) = true
 ·have B := qBetweenNo x y _ hc C2
  have x0 := same 0
  rw [rV0] at Z x0
  clear ok ok2 z1 z2 z3 z4 C2
  generalize Rl.cmp x y = c at *
  obtain ⟨xp, xr, xn⟩ := x
  obtain ⟨yp, yr, yn⟩ := y
  exact walk (code := Tryz.f8.body.getD .skip) [Sy.c K, Sy.c S, Sy.c T, Sy.c C, eb hc, Sy.c B, Sy.c Z, x2 x0] fol Tryz.func8 (by kernel_rfl) (fun xs w => Tryz.call8 xs w) (by kernel_rfl)
 have hc : decide (Rl.cmp x y ≥ 0) = false := by simpa using hc
 have hlt : x.val < y.val := by
  refine (cmp_lss x y).1 ?_
  have := of_decide_eq_false hc
  exact decide_eq_true (by omega)
 obtain ⟨q, hb, hz, R⟩ := qSimpAll x y ok ok2 hlt
 have B := qBetween x y q _ hc C2 R
 have Q := rCheckQ q fz
 have I := gInside x y q ok.nonneg ok2.nonneg
 rw [inL_iff.2 hb.1] at I
 have O := rOf 1 200 (by omega) (by omega) (by omega) (by omega) (by omega)
 haveI z5 : HasSz (Rat.divInt 1 200) 1 := ⟨by decide +kernel, by decide +kernel⟩
 generalize Rat.divInt 1 200 = t at *
 have H := gShift x t ok
 have ok3 := Rl.shift_ok ok t
 obtain ⟨x', hx'⟩ : ∃ x' : Rl, x' = ⟨x.p + t, x.r, x.neg⟩ := ⟨_, rfl⟩
 rw [← hx'] at H ok3
 haveI z6 : HasSz x'.p 10 := by rw [hx']; exact (inferInstance : HasSz (x.p + t) (8 + 1 + 1))
 haveI z7 : HasSz x'.r 8 := by rw [hx']; exact z2
 have C3 := gCompare x' y ok3.nonneg ok2.nonneg
 obtain ⟨r, f, G, hr⟩ := gBetween x y ok ok2 q hb
 have xq := same q
 cases hd : decide (Rl.cmp x' y > 0)
 ·cases f
  ·clear hb hlt ok ok2 ok3 z1 z2 z3 z4 z5 z6 z7 hz hr hx' C2 R
   generalize Rl.cmp x y = c at *
   generalize Rl.cmp x' y = c2 at *
   obtain ⟨xp, xr, xn⟩ := x
   obtain ⟨yp, yr, yn⟩ := y
   obtain ⟨xp', xr', xn'⟩ := x'
   exact walk (code := Tryz.f8.body.getD .skip) [Sy.c K, Sy.c S, Sy.c T, Sy.c C, eb hc, Sy.c B, Sy.c Q, Sy.c I, Sy.c O, Sy.c H, Sy.c C3, eb hd, Sy.c G] fol Tryz.func8 (by kernel_rfl) (fun xs w => Tryz.call8 xs w) (by kernel_rfl)
  ·obtain rfl := hr rfl
   clear hb hlt ok ok2 ok3 z1 z2 z3 z4 z5 z6 z7 hz hr hx' C2 R
   generalize Rl.cmp x y = c at *
   generalize Rl.cmp x' y = c2 at *
   obtain ⟨xp, xr, xn⟩ := x
   obtain ⟨yp, yr, yn⟩ := y
   obtain ⟨xp', xr', xn'⟩ := x'
   exact walk (code := Tryz.f8.body.getD .skip) [Sy.c K, Sy.c S, Sy.c T, Sy.c C, eb hc, Sy.c B, Sy.c Q, Sy.c I, Sy.c O, Sy.c H, Sy.c C3, eb hd, Sy.c G, x2 xq] fol Tryz.func8 (by kernel_rfl) (fun xs w => Tryz.call8 xs w) (by kernel_rfl)
 ·clear hb hlt ok ok2 ok3 z1 z2 z3 z4 z5 z6 z7 hz hr hx' C2 R G
  generalize Rl.cmp x y = c at *
  generalize Rl.cmp x' y = c2 at *
  obtain ⟨xp, xr, xn⟩ := x
  obtain ⟨yp, yr, yn⟩ := y
  obtain ⟨xp', xr', xn'⟩ := x'
  exact walk (code := Tryz.f8.body.getD .skip) [Sy.c K, Sy.c S, Sy.c T, Sy.c C, eb hc, Sy.c B, Sy.c Q, Sy.c I, Sy.c O, Sy.c H, Sy.c C3, eb hd] fol Tryz.func8 (by kernel_rfl) (fun xs w => Tryz.call8 xs w) (by kernel_rfl)
theorem RealBetween_c (b1 : Bool) (s1 : ByteArray) (b2 : Bool) (s2 : ByteArray) (b3 : Bool) (s3 : ByteArray) (b4 : Bool) (s4 : ByteArray) (n : Bool) (b5 : Bool) (s5 : ByteArray) (b6 : Bool) (s6 : ByteArray) (b7 : Bool) (s7 : ByteArray) (b8 : Bool) (s8 : ByteArray) (n2 : Bool) (w : World) (hw : w.ShapedOpen Tryz.prog) (h1 : Lim s1) (h2 : Lim s2) (h3 : Lim s3) (h4 : Lim s4) (h5 : Lim s5) (h6 : Lim s6) (h7 : Lim s7) (h8 : Lim s8) : Calls Tryz.prog 8 #[flV b1 s1 b2 s2 b3 s3 b4 s4 n, flV b5 s5 b6 s6 b7 s7 b8 s8 n2] w fun e w' => e = .returned (.bool true) ∧ Below w.heap.size w w' := (RealBetween_s b1 s1 b2 s2 b3 s3 b4 s4 n b5 s5 b6 s6 b7 s7 b8 s8 n2 h1 h2 h3 h4 h5 h6 h7 h8).calls rfl rfl w hw
end Go.Proofs.YthdaimoankaciaaGreatDoor

end
