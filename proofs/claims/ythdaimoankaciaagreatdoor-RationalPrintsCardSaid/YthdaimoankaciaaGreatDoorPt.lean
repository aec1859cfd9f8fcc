import Derived.Test.YthdaimoankaciaaGreatDoorPs
/- Chapter 2's law about strings. -/
set_option linter.unusedSimpArgs false
set_option linter.unusedVariables false
namespace Go.Proofs.YthdaimoankaciaaGreatDoor
open Go Go.RowKit Go.Sy
open Vi
theorem dqL_len (X k : Nat) (h : nd 256 X ≤ k) (hk : 1 ≤ k) : (dqL X).length ≤ 3 * k := by
 unfold dqL; split
 ·show 1 ≤ _; omega
 ·exact decS_len X k (by rw [size_mag]; exact h)
theorem printQ_len (p : Rat) (k : Nat) (hp : Sz k p) (hk : 1 ≤ k) : (printQ p).size ≤ 6 * k + 2 := by
 have h1 := dqL_len p.num.natAbs k (by rw [← mg_nd]; exact hp.num) hk
 have h2 := dqL_len (dn p).natAbs k (by rw [← mg_nd]; exact hp.dn) hk
 rw [printQ_list]
 show (prL p).length ≤ _
 unfold prL
 rw [List.length_append, List.length_append]
 split <;> split <;> simp only [List.length_cons, List.length_nil] <;> omega
theorem RationalPrints_s (a1 a2 a3 a4 : Int) (s : ByteArray) (ha : FracOk a1 a2 a3 a4) (hs : s.size ≤ 9223372036854775807) : Sp Tryz.prog 16 [] [.agg #[.int .i64 a1, .int .i64 a2, .int .u8 a3, .int .u8 a4], .string s] (.bool true) [] := by
 obtain ⟨p, sp, kp⟩ := vFrac a1 a2 a3 a4 ha
 have fp := sp.fits (by omega)
 have hk := vKnown
 have P1 := pPrint p fp
 have P2 := rPrint p fp
 have hl := printQ_len p 16 sp (by omega)
 have Q := pParse (printQ p)
 rw [parse_print p (by omega)] at Q
 have cut : ∃ k : Int, (if (60 : Int) < (s.size : Int) then (60 : Int) else (s.size : Int)) = k ∧ 0 ≤ k ∧ k ≤ s.size := ⟨_, rfl, by split <;> omega, by split <;> omega⟩
 obtain ⟨k, c1, c2, c3⟩ := cut
 have g := @slH2 s k (.tmp 15) (.tmp 18) c2 c3
 generalize s.extract 0 k.toNat = u at *
 have Q2 := pParse u
 have Q3 := rParse u
 have x1 := same p
 have x2 := same (parseQ u).1
 clear hl ha fp sp hs c2 c3
 generalize (parseQ u).1 = q at *
 generalize (parseQ u).2 = z at *
 generalize printQ p = t at *
 have e1 : (t.toList == t.toList) = true := beq_self_eq_true _
 have e2 : decide (z = z) = true := decide_eq_true rfl
 dsimp only at Q
 exact walk (code := Tryz.f16.body.getD .skip) [c kp, L, Go.Sy.e (congrArg (Value.int IntKind.i64) c1), gx _ 9 _ _ g, c P1, c Q, c Q2, c Q3, c hk, c P2, eb e1, L, Sy.x2 x1, Sy.x2 x2, eb e2] fol Tryz.func16 (by kernel_rfl) (fun xs w => Tryz.call16 xs w) (by kernel_rfl)
theorem RationalPrints_c (a1 a2 a3 a4 : Int) (s : ByteArray) (w : World) (hw : w.ShapedOpen Tryz.prog) (ha : FracOk a1 a2 a3 a4) (hs : s.size ≤ 9223372036854775807) : Calls Tryz.prog 16 #[.agg #[.int .i64 a1, .int .i64 a2, .int .u8 a3, .int .u8 a4], .string s] w fun e w' => e = .returned (.bool true) ∧ Below w.heap.size w w' := (RationalPrints_s a1 a2 a3 a4 s ha hs).calls rfl rfl w hw
end Go.Proofs.YthdaimoankaciaaGreatDoor
