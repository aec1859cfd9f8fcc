/- Part 1 of the proof; what it holds is said text by text. -/
import Derived.OwnWalk
import Derived.Deep.DeepCutAuto
import Derived.Deep.CutBlock
import Derived.Test.YtlblfgbpogljoaaGreatDoorQbL
set_option linter.unusedSimpArgs false
set_option linter.unusedVariables false
section
namespace Go.Proofs.YtlblfgbpogljoaaGreatDoor
open Go Go.RowKit
open Vi
theorem DT.num_lt {w : World} {v : Value} {x : Nat} (h : DT w v x) : x < 256 ^ nd 256 x := h.1
end Go.Proofs.YtlblfgbpogljoaaGreatDoor

end
section
/- Contracts for the reckoner: integers; digits as rows. -/
namespace Go.Proofs.YtlblfgbpogljoaaGreatDoor
open Go Go.RowKit Go.Sy
open Vi
section
variable {f : FuncId}
end
end Go.Proofs.YtlblfgbpogljoaaGreatDoor
namespace Go.Proofs.YtlblfgbpogljoaaGreatDoor
open Go Go.RowKit Go.Sy
open Vi
end Go.Proofs.YtlblfgbpogljoaaGreatDoor
namespace Go.Proofs.YtlblfgbpogljoaaGreatDoor
open Go Go.RowKit Go.Sy
open Vi
end Go.Proofs.YtlblfgbpogljoaaGreatDoor
namespace Go.Proofs.YtlblfgbpogljoaaGreatDoor
open Go Go.RowKit
open Vi
set_option maxHeartbeats 400000 in
theorem sIsInt_c (b : Bool) (s : ByteArray) (w : World) (hs : s.size ≤ 9223372036854775807) : Calls Tryz.prog 159 #[.agg #[.bool b, .string s]] w fun e w' => e = .returned (.bool (okInt b s)) ∧ Below w.heap.size w w' := by
 cases he : s.toList.isEmpty
 ·have hp : 0 < s.size := by
    rcases Nat.eq_zero_or_pos s.size with h | h
    ·rw [toList_data] at he
     have : s.data.toList.length = 0 := h
     rw [List.eq_nil_of_length_eq_zero this] at he; simp at he
    ·exact h
  have hc := can_first s hp
  by_cases h0 : (s[0]'hp).toNat = 0
  ·have e : okInt b s = false := by
     unfold okInt; rw [he]
     have h1 : ¬ Vi.Can s := fun h => (hc.1 h) h0
     unfold Vi.Can at h1
     have h2 : s.data.toList.head? = some 0 := Decidable.byContradiction h1
     rw [h2]; rfl
   rw [e]
   clear hc
   go_enter Tryz.func159, Tryz.ntmps159
   go_wp2
   go_ret
   exact ⟨rfl, by (exact belA)⟩
  ·have e : okInt b s = true := by
     unfold okInt; rw [he]
     have h1 : Vi.Can s := hc.2 h0
     unfold Vi.Can at h1
     simp [h1]
   rw [e]
   have hb : ((s[0].toNat : Int) != 0) = true := by simpa using h0
   clear hc
   go_enter Tryz.func159, Tryz.ntmps159
   go_wp2
   go_ret
   exact ⟨by simp [h0], by (exact belA)⟩
 ·have e : okInt b s = !b := by unfold okInt; rw [he]; rfl
  rw [e]
  have hz : s.size = 0 := by
   rw [toList_data] at he
   have h2 : s.data.toList = [] := by simpa using he
   have : s.data.toList.length = 0 := by rw [h2]; rfl
   exact this
  cases b
  all_goals
   go_enter Tryz.func159, Tryz.ntmps159
   go_wp2
   go_ret
   exact ⟨rfl, by (exact belA)⟩
end Go.Proofs.YtlblfgbpogljoaaGreatDoor
namespace Go.Proofs.YtlblfgbpogljoaaGreatDoor
open Go Go.RowKit Go.Sy
open Vi
theorem rIsInt (b : Bool) (s : ByteArray) (hs : s.size ≤ 9223372036854775807) : Sp Tryz.prog 159 [] [.agg #[.bool b, .string s]] (.bool (okInt b s)) [] := Sp.of (fun xs w => Tryz.call159 xs w) (by kernel_rfl) (by kernel_rfl) (fun w => sIsInt_c b s w hs)
end Go.Proofs.YtlblfgbpogljoaaGreatDoor
namespace Go.Proofs.YtlblfgbpogljoaaGreatDoor
open Go Go.RowKit Go.Sy
open Vi
end Go.Proofs.YtlblfgbpogljoaaGreatDoor
namespace Go.Proofs.YtlblfgbpogljoaaGreatDoor
open Go Go.RowKit Go.Sy
open Vi
end Go.Proofs.YtlblfgbpogljoaaGreatDoor
namespace Go.Proofs.YtlblfgbpogljoaaGreatDoor
open Go Go.RowKit Go.Sy
open Vi
theorem isOne {s : ByteArray} (h : okInt false s = true) : (s.toList == (⟨#[1]⟩ : ByteArray).toList) = (num s == 1) := by
 obtain ⟨z, h1, rfl⟩ := okInt_num false s h
 rw [num_mg, ← mg1]
 have := int_beq z 1
 rw [← h1, show sg 1 = false by decide] at this
 simp only [BEq.rfl, Bool.true_and] at this
 rw [this]
 have : 0 ≤ z := by
  have h1 := h1.symm
  unfold sg at h1
  have : ¬ z < 0 := by simpa using h1
  omega
 rw [Bool.eq_iff_iff]
 simp
 omega
theorem rCheck (b1 : Bool) (s1 : ByteArray) (b2 : Bool) (s2 : ByteArray) (h1 : s1.size ≤ 131000) (h2 : s2.size ≤ 131000) : Sp Tryz.prog 121 [] [.agg #[.bool b1, .string s1, .bool b2, .string s2]] (.bool (okRat b1 s1 b2 s2)) [] := by
 have c1 := rIsInt b1 s1 (by omega)
 have c2 := rIsInt b2 s2 (by omega)
 unfold okRat
 cases k1 : okInt b1 s1 <;> rw [k1] at c1
 ·exact walk (code := Tryz.f121.body.getD .skip) [c c1] fol Tryz.func121 (by kernel_rfl) (fun xs w => Tryz.call121 xs w) (by kernel_rfl)
 cases k2 : okInt b2 s2 <;> rw [k2] at c2
 ·exact walk (code := Tryz.f121.body.getD .skip) [c c1, c c2] fol Tryz.func121 (by kernel_rfl) (fun xs w => Tryz.call121 xs w) (by kernel_rfl)
 cases b2
 case true => exact walk (code := Tryz.f121.body.getD .skip) [c c1, c c2] fol Tryz.func121 (by kernel_rfl) (fun xs w => Tryz.call121 xs w) (by kernel_rfl)
 cases k3 : (s2.toList == [])
 ·have n1 : nd 256 (num s1) ≤ 131000 := Nat.le_trans (nd_le 256 (by omega) _ s1.size (num_lt s1)) h1
  have n2 : nd 256 (num s2) ≤ 131000 := Nat.le_trans (nd_le 256 (by omega) _ s2.size (num_lt s2)) h2
  have k4 : s2.toList.isEmpty = false := by rw [← k3]; cases s2.toList <;> rfl
  have hi := isOne k2
  have hC := dCommon (num s1) (num s2) (by omega) (by omega)
  rw [k4, Nat.gcd_comm (num s1) (num s2)]
  obtain ⟨G, hG⟩ : ∃ G, G = Nat.gcd (num s2) (num s1) := ⟨_, rfl⟩
  rw [← hG] at hC ⊢
  have hd1 := dDigits b1 s1 (by omega)
  have hd2 := dDigits false s2 (by omega)
  cases k5 : (num s2 == 1)
  ·rw [show (num s2 != 1) = true by show (!(num s2 == 1)) = true; rw [k5]; rfl]
   have e5 : (!(s2.toList == (⟨#[1]⟩ : ByteArray).toList)) = true := by rw [hi, k5]; rfl
   by_cases k6 : nd 256 G = 1
   ·have g0 : 0 < G := by
      rcases Nat.eq_zero_or_pos G with h | h
      ·rw [h, nd_zero] at k6; omega
      ·exact h
    have g1 : G < 256 := by have := lt_pow_nd 256 (by omega) G; rw [k6] at this; simpa using this
    rw [k6, rD_small G g0 g1] at hC
    have e7 : ((true && true && !false && (false || true && G == 1)) : Bool) = decide ((G : Int) = 1) := by
     rw [Bool.eq_iff_iff]; simp; omega
    show Sp _ _ _ _ (.bool (true && true && !false && (false || true && G == 1))) _
    rw [e7]
    exact walk (code := Tryz.f121.body.getD .skip) [c c1, c c2, L, eb k3, cr hd1, cr hd2, cr hC, eb e5] fol Tryz.func121 (by kernel_rfl) (fun xs w => Tryz.call121 xs w) (by kernel_rfl)
   ·have e6 : decide ((nd 256 G : Int) = 1) = false := decide_eq_false (by omega)
    have e7 : (G == 1) = false := by
     have : G ≠ 1 := fun h => k6 (by rw [h]; exact nd_small 1 (by omega) (by omega))
     simpa using this
    rw [e7]
    exact walk (code := Tryz.f121.body.getD .skip) [c c1, c c2, L, eb k3, cr hd1, cr hd2, cr hC, eb e5, eb e6] fol Tryz.func121 (by kernel_rfl) (fun xs w => Tryz.call121 xs w) (by kernel_rfl)
  ·rw [show (num s2 != 1) = false by show (!(num s2 == 1)) = false; rw [k5]; rfl]
   have e5 : (!(s2.toList == (⟨#[1]⟩ : ByteArray).toList)) = false := by rw [hi, k5]; rfl
   exact walk (code := Tryz.f121.body.getD .skip) [c c1, c c2, L, eb k3, cr hd1, cr hd2, cr hC, eb e5] fol Tryz.func121 (by kernel_rfl) (fun xs w => Tryz.call121 xs w) (by kernel_rfl)
 ·have k4 : s2.toList.isEmpty = true := by rw [← k3]; cases s2.toList <;> rfl
  rw [k4]
  exact walk (code := Tryz.f121.body.getD .skip) [c c1, c c2, L, eb k3] fol Tryz.func121 (by kernel_rfl) (fun xs w => Tryz.call121 xs w) (by kernel_rfl)
theorem rCheckQ (q : Rat) (hq : Fits q) : Sp Tryz.prog 121 [] [rV q] (.bool true) [] := by
 have := rCheck (sg q.num) (mg q.num) (sg (dn q)) (mg (dn q)) hq.mn hq.md
 rw [okRat_of] at this
 exact this
end Go.Proofs.YtlblfgbpogljoaaGreatDoor
namespace Go.Proofs.YtlblfgbpogljoaaGreatDoor
open Go Go.RowKit Go.Sy
open Vi
end Go.Proofs.YtlblfgbpogljoaaGreatDoor
namespace Go.Proofs.YtlblfgbpogljoaaGreatDoor
open Go Go.RowKit Go.Sy
open Vi
end Go.Proofs.YtlblfgbpogljoaaGreatDoor

end
section
/- The program's Simplest and Root. -/
namespace Go.Proofs.YtlblfgbpogljoaaGreatDoor
open Go Go.RowKit Go.Sy
open Vi
theorem same' (q : Rat) : Bin .neq 28 (rV q) (rV q) (.bool false) := binR1' q q (by simp)
end Go.Proofs.YtlblfgbpogljoaaGreatDoor

end
section
/- No program in sight: the value of a quadratic at a number with a root. -/
namespace Go.Proofs.YtlblfgbpogljoaaGreatDoor
open Go Go.RowKit Go.Sy
open Vi RR
theorem atQ_inj {a b c : Rat} {x y : Rl} (hx : x.Ok) (hy : y.Ok) (h : y.val = qval a b c x.val) : atQ a b c x = y := Rl.inj (atQ_ok hx) hy ((atQ_val hx).trans h.symm)
end Go.Proofs.YtlblfgbpogljoaaGreatDoor

end
section
/- Equality of structs, field by field; of bounds. -/
namespace Go.Sy
open Go Go.RowKit
section
variable {P : Program}
end
end Go.Sy
namespace Go.Proofs.YtlblfgbpogljoaaGreatDoor
open Go Go.RowKit Go.Sy
open Vi
theorem binS' {T : TypeId} {xs ys : Array Value} {q : Bool} (h : ∀ w, (Op.equalIn 10000 T (.agg xs) (.agg ys)).run Tryz.prog w = .ok q w) (hg : Tryz.prog.eqGuardType Tryz.prog.depth T = false) : Bin .neq T (.agg xs) (.agg ys) (.bool (!q)) := fun ox oy w => by
 rw [Sem.run_bind, run_eqGuard_agg _ _ _ _ _ _ _ hg, Result.andThen_ok, run_neq_struct, h]
 rfl
end Go.Proofs.YtlblfgbpogljoaaGreatDoor
namespace Go.Proofs.YtlblfgbpogljoaaGreatDoor
open Go Go.RowKit Go.Sy
open Vi
end Go.Proofs.YtlblfgbpogljoaaGreatDoor
namespace Go.Proofs.YtlblfgbpogljoaaGreatDoor
open Go Go.RowKit Go.Sy
open Vi
end Go.Proofs.YtlblfgbpogljoaaGreatDoor
namespace Go.Proofs.YtlblfgbpogljoaaGreatDoor
open Go Go.RowKit Go.Sy
open Vi
end Go.Proofs.YtlblfgbpogljoaaGreatDoor
namespace Go.Proofs.YtlblfgbpogljoaaGreatDoor
open Go Go.RowKit Go.Sy
open Vi
end Go.Proofs.YtlblfgbpogljoaaGreatDoor
namespace Go.Proofs.YtlblfgbpogljoaaGreatDoor
open Go Go.RowKit Go.Sy
open Vi
end Go.Proofs.YtlblfgbpogljoaaGreatDoor
namespace Go.Proofs.YtlblfgbpogljoaaGreatDoor
open Go Go.RowKit Go.Sy
open Vi
end Go.Proofs.YtlblfgbpogljoaaGreatDoor
namespace Go.Proofs.YtlblfgbpogljoaaGreatDoor
open Go Go.RowKit Go.Sy
open Vi
end Go.Proofs.YtlblfgbpogljoaaGreatDoor
namespace Go.Proofs.YtlblfgbpogljoaaGreatDoor
open Go Go.RowKit Go.Sy
open Vi
end Go.Proofs.YtlblfgbpogljoaaGreatDoor

end
section
/- The program's Check of fractions. -/
namespace Go.Proofs.YtlblfgbpogljoaaGreatDoor
open Go Go.RowKit Go.Sy
open Vi
end Go.Proofs.YtlblfgbpogljoaaGreatDoor
namespace Go.Proofs.YtlblfgbpogljoaaGreatDoor
open Go Go.RowKit Go.Sy
open Vi
end Go.Proofs.YtlblfgbpogljoaaGreatDoor
namespace Go.Proofs.YtlblfgbpogljoaaGreatDoor
open Go Go.RowKit Go.Sy
open Vi
theorem binQ' (a b c x y z : Rat) {q : Bool} (e : (!(decide (a = x) && (decide (b = y) && (decide (c = z) && true)))) = q) : Bin .neq 67 (qV a b c) (qV x y z) (.bool q) := by
 have h := binS' (T := 67) (fun w => eqQ_run 9996 a b c x y z w) (by kernel_rfl)
 rw [e] at h
 exact h
theorem sameQ' (a b c : Rat) : Bin .neq 67 (qV a b c) (qV a b c) (.bool false) := binQ' a b c a b c (by simp)
end Go.Proofs.YtlblfgbpogljoaaGreatDoor
namespace Go.Proofs.YtlblfgbpogljoaaGreatDoor
open Go Go.RowKit Go.Sy
open Vi
end Go.Proofs.YtlblfgbpogljoaaGreatDoor
namespace Go.Proofs.YtlblfgbpogljoaaGreatDoor
open Go Go.RowKit Go.Sy
open Vi
end Go.Proofs.YtlblfgbpogljoaaGreatDoor
namespace Go.Proofs.YtlblfgbpogljoaaGreatDoor
open Go Go.RowKit Go.Sy
open Vi
end Go.Proofs.YtlblfgbpogljoaaGreatDoor
namespace Go.Proofs.YtlblfgbpogljoaaGreatDoor
open Go Go.RowKit Go.Sy
open Vi
end Go.Proofs.YtlblfgbpogljoaaGreatDoor

end
section
/- The package quadratic: functions and their values at instants. -/
namespace Go.Proofs.YtlblfgbpogljoaaGreatDoor
open Go Go.RowKit Go.Sy
open Vi
theorem uAdd (a b c d e f : Rat) {i j k l m n : Nat} [HasSz a i] [HasSz b j] [HasSz c k] [HasSz d l] [HasSz e m] [HasSz f n] (hs : i + j + k + l + m + n ≤ 900 := by first | omega | decide) :
    Sp Tryz.prog 69 [] [qV a b c, qV d e f] (qV (a + d) (b + e) (c + f)) [] := by
 have A := pAdd a d fz fz
 have B := pAdd b e fz fz
 have C := pAdd c f fz fz
 clear hs
 generalize a + d = t1 at *
 generalize b + e = t2 at *
 generalize c + f = t3 at *
 exact walk (code := Tryz.f69.body.getD .skip) [Sy.c A, Sy.c B, Sy.c C] fol Tryz.func69 (by kernel_rfl) (fun xs w => Tryz.call69 xs w) (by kernel_rfl)
theorem uSub (a b c d e f : Rat) {i j k l m n : Nat} [HasSz a i] [HasSz b j] [HasSz c k] [HasSz d l] [HasSz e m] [HasSz f n] (hs : i + j + k + l + m + n ≤ 900 := by first | omega | decide) :
    Sp Tryz.prog 70 [] [qV a b c, qV d e f] (qV (a - d) (b - e) (c - f)) [] := by
 have A := pSub a d fz fz
 have B := pSub b e fz fz
 have C := pSub c f fz fz
 clear hs
 generalize a - d = t1 at *
 generalize b - e = t2 at *
 generalize c - f = t3 at *
 exact walk (code := Tryz.f70.body.getD .skip) [Sy.c A, Sy.c B, Sy.c C] fol Tryz.func70 (by kernel_rfl) (fun xs w => Tryz.call70 xs w) (by kernel_rfl)
theorem uScale (a b c t : Rat) {i j k l : Nat} [HasSz a i] [HasSz b j] [HasSz c k] [HasSz t l] (hs : i + j + k + l ≤ 900 := by first | omega | decide) :
    Sp Tryz.prog 71 [] [qV a b c, rV t] (qV (a * t) (b * t) (c * t)) [] := by
 have A := pMul a t fz fz
 have B := pMul b t fz fz
 have C := pMul c t fz fz
 clear hs
 generalize a * t = t1 at *
 generalize b * t = t2 at *
 generalize c * t = t3 at *
 exact walk (code := Tryz.f71.body.getD .skip) [Sy.c A, Sy.c B, Sy.c C] fol Tryz.func71 (by kernel_rfl) (fun xs w => Tryz.call71 xs w) (by kernel_rfl)
theorem uDerivative (a b c : Rat) {i j k : Nat} [HasSz a i] [HasSz b j] [HasSz c k] (hs : i + j + k ≤ 900 := by first | omega | decide) : Sp Tryz.prog 57 [] [qV a b c] (qV b (c + c) 0) [] := by
 have A := pAdd c c fz fz
 have L := uLinear b (c + c)
 clear hs
 generalize c + c = t1 at *
 exact walk (code := Tryz.f57.body.getD .skip) [Sy.c A, Sy.c L] fol Tryz.func57 (by kernel_rfl) (fun xs w => Tryz.call57 xs w) (by kernel_rfl)
theorem uShift (a b c t : Rat) {i j k l : Nat} [HasSz a i] [HasSz b j] [HasSz c k] [HasSz t l] (hs : i + j + k + l ≤ 300 := by first | omega | decide) :
    Sp Tryz.prog 56 [] [qV a b c, rV t] (qV (evQ a b c (-t)) (b + (c + c) * -t) c) [] := by
 have N := pNeg t
 have A := pAdd c c fz fz
 have E := uEval a b c (-t)
 have M := pMul (c + c) (-t) fz fz
 have B := pAdd b ((c + c) * -t) fz fz
 clear hs
 generalize evQ a b c (-t) = t0 at *
 generalize b + (c + c) * -t = t1 at *
 generalize (c + c) * -t = t2 at *
 generalize c + c = t3 at *
 generalize -t = t4 at *
 exact walk (code := Tryz.f56.body.getD .skip) [Sy.c N, Sy.c A, Sy.c E, Sy.c M, Sy.c B] fol Tryz.func56 (by kernel_rfl) (fun xs w => Tryz.call56 xs w) (by kernel_rfl)
end Go.Proofs.YtlblfgbpogljoaaGreatDoor

end
section
/- Reference 04: numbers with a root, functions and their values. -/
namespace Go.Proofs.YtlblfgbpogljoaaGreatDoor
open Go Go.RowKit Go.Sy
open Vi
theorem vSub (a b c d e f : Rat) {i j k l m n : Nat} [HasSz a i] [HasSz b j] [HasSz c k] [HasSz d l] [HasSz e m] [HasSz f n] (hs : i + j + k + l + m + n ≤ 900 := by first | omega | decide) :
    Sp Tryz.prog 72 [] [qV a b c, qV d e f] (qV (a - d) (b - e) (c - f)) [] := by
 have A := rSub a d fz fz
 have B := rSub b e fz fz
 have C := rSub c f fz fz
 clear hs
 generalize a - d = t1 at *
 generalize b - e = t2 at *
 generalize c - f = t3 at *
 exact walk (code := Tryz.f72.body.getD .skip) [Sy.c A, Sy.c B, Sy.c C] fol Tryz.func72 (by kernel_rfl) (fun xs w => Tryz.call72 xs w) (by kernel_rfl)
theorem vCheck (a b c : Rat) (ha : Fits a) (hb : Fits b) (hc : Fits c) : Sp Tryz.prog 59 [] [qV a b c] (.bool true) [] := by
 have A := rCheckQ a ha
 have B := rCheckQ b hb
 have C := rCheckQ c hc
 clear ha hb hc
 exact walk (code := Tryz.f59.body.getD .skip) [Sy.c A, Sy.c B, Sy.c C] fol Tryz.func59 (by kernel_rfl) (fun xs w => Tryz.call59 xs w) (by kernel_rfl)
end Go.Proofs.YtlblfgbpogljoaaGreatDoor

end
section
/- Chapter 4's laws about values, shifts, sums, and functions by their values. -/
namespace Go.Proofs.YtlblfgbpogljoaaGreatDoor
open Go Go.RowKit Go.Sy
open Vi
theorem QuadraticShifts_k (K : Sp Tryz.prog 32 [] [] (.bool true) []) (n1 d1 n2 d2 n3 d3 n4 d4 n5 d5 n6 d6 : Int) (neg : Bool) (h1 : Cn n1 d1) (h2 : Cn n2 d2) (h3 : Cn n3 d3) (h4 : Cn n4 d4) (h5 : Cn n5 d5) (h6 : Cn n6 d6) :
    Sp Tryz.prog 11 [] [fnV n1 d1 n2 d2 n3 d3, coV n4 d4, tmV n5 d5 n6 d6 neg] (.bool true) [] := by
 have Q := wQuad n1 d1 n2 d2 n3 d3 h1 h2 h3
 have W := wRat n4 d4 h4
 have X := wReal n5 d5 n6 d6 neg h5 h6
 have z1 := cf_hs h1
 have z2 := cf_hs h2
 have z3 := cf_hs h3
 have z4 := cf_hs h4
 have ok : (tmR n5 d5 n6 d6 neg).Ok := tmR_ok
 have z5 : HasSz (tmR n5 d5 n6 d6 neg).p 5 := tmR_hsp h5 h6
 have z6 : HasSz (tmR n5 d5 n6 d6 neg).r 2 := tmR_hsr h6
 clear h1 h2 h3 h4 h5 h6
 generalize cf n1 d1 = a at *
 generalize cf n2 d2 = b at *
 generalize cf n3 d3 = c at *
 generalize cf n4 d4 = t at *
 generalize tmR n5 d5 n6 d6 neg = x at *
 have S := uShift a b c t
 have D := uDerivative a b c
 have A := rAdd x.p t fz fz
 have okl := Rl.shift_ok ok t
 have lv : (⟨x.p + t, x.r, x.neg⟩ : Rl).val = x.val + RR.ofRat t := by
  rw [Rl.shift_val]
 obtain ⟨l, hl⟩ : ∃ l : Rl, l = ⟨x.p + t, x.r, x.neg⟩ := ⟨_, rfl⟩
 haveI y1 : HasSz l.p 8 := by rw [hl]; exact (inferInstance : HasSz (x.p + t) (5 + 2 + 1))
 haveI y2 : HasSz l.r 2 := by rw [hl]; exact z6
 rw [← hl] at okl lv
 obtain ⟨s0, hs0⟩ : ∃ s0, s0 = evQ a b c (-t) := ⟨_, rfl⟩
 obtain ⟨s1, hs1⟩ : ∃ s1, s1 = b + (c + c) * -t := ⟨_, rfl⟩
 haveI y3 : HasSz s0 12 := by rw [hs0]; exact evQ_hs a b c (-t)
 haveI y4 : HasSz s1 10 := by rw [hs1]; exact hs_mono (inferInstance : HasSz (b + (c + c) * -t) (2 + (2 + 2 + 1 + 2) + 1)) (by omega)
 rw [← hs0, ← hs1] at S
 have C := vCheck s0 s1 c fz fz fz
 have A2 := vAt s0 s1 c l okl
 have A3 := vAt a b c x ok
 have ea : atQ s0 s1 c l = atQ a b c x := by
  refine atQ_inj okl (atQ_ok ok) ?_
  rw [atQ_val ok, lv, hs0, hs1]
  unfold qval evQ
  exact RR.ring [a, b, c, t, x.val] (by decide +kernel)
 rw [ea] at A2
 have x1 := sameL (atQ a b c x)
 have N := rNeg t
 have S2 := uShift s0 s1 c (-t)
 have e1 : evQ s0 s1 c (- -t) = a := by rw [hs0, hs1]; unfold evQ; grind
 have e2 : s1 + (c + c) * - -t = b := by rw [hs1]; grind
 rw [e1, e2] at S2
 have x2 := binQ a b c a b c (q := true) (by simp)
 have T := wnumber 2 (by omega) (by omega)
 rw [show ((2 : Int) : Rat) = 2 from rfl] at T
 have M := rMul 2 c fz fz
 rw [show 2 * c = c + c by grind] at M
 have x3 := binQ b (c + c) 0 b (c + c) 0 (q := true) (by simp)
 rw [qV_l] at D x3
 clear ok okl lv z1 z2 z3 z4 z5 z6 y1 y2 y3 y4 ea e1 e2 hs0 hs1
 subst hl
 generalize atQ a b c x = y at *
 generalize x.p + t = xt at *
 generalize -t = tn at *
 generalize c + c = cc at *
 generalize (2 : Rat) = two at *
 obtain ⟨xp, xr, xn⟩ := x
 dsimp only at *
 exact walk (code := Tryz.f11.body.getD .skip) [Sy.c Q, Sy.c W, Sy.c X, Sy.c S, Sy.c D, Sy.c A, Sy.c K, Sy.c C, Sy.c A2, Sy.c A3, Sy.x2 x1, Sy.c N, Sy.c S2, Sy.x2 x2, Sy.c T, Sy.c M, Sy.x2 x3] fol Tryz.func11 (by kernel_rfl) (fun xs w => Tryz.call11 xs w) (by kernel_rfl)
theorem QuadraticSums_k (K : Sp Tryz.prog 32 [] [] (.bool true) []) (n1 d1 n2 d2 n3 d3 m1 e1 m2 e2 m3 e3 n4 d4 m4 e4 n5 d5 n6 d6 : Int) (neg : Bool) (h1 : Cn n1 d1) (h2 : Cn n2 d2) (h3 : Cn n3 d3) (h4 : Cn m1 e1) (h5 : Cn m2 e2) (h6 : Cn m3 e3) (h7 : Cn n4 d4) (h8 : Cn m4 e4) (h9 : Cn n5 d5) (h10 : Cn n6 d6) :
    Sp Tryz.prog 14 [] [.agg #[.int .i16 n1, .int .u8 d1, .int .i16 n2, .int .u8 d2, .int .i16 n3, .int .u8 d3, .int .i16 m1, .int .u8 e1, .int .i16 m2, .int .u8 e2, .int .i16 m3, .int .u8 e3], .agg #[.int .i16 n4, .int .u8 d4, .int .i16 m4, .int .u8 e4], tmV n5 d5 n6 d6 neg] (.bool true) [] := by
 have Q1 := wQuad n1 d1 n2 d2 n3 d3 h1 h2 h3
 have Q2 := wQuad m1 e1 m2 e2 m3 e3 h4 h5 h6
 have W1 := wRat n4 d4 h7
 have W2 := wRat m4 e4 h8
 have X := wReal n5 d5 n6 d6 neg h9 h10
 have z1 := cf_hs h1
 have z2 := cf_hs h2
 have z3 := cf_hs h3
 have z4 := cf_hs h4
 have z5 := cf_hs h5
 have z6 := cf_hs h6
 have z7 := cf_hs h7
 have z8 := cf_hs h8
 have ok : (tmR n5 d5 n6 d6 neg).Ok := tmR_ok
 have z9 : HasSz (tmR n5 d5 n6 d6 neg).p 5 := tmR_hsp h9 h10
 have z10 : HasSz (tmR n5 d5 n6 d6 neg).r 2 := tmR_hsr h10
 clear h1 h2 h3 h4 h5 h6 h7 h8 h9 h10
 generalize cf n1 d1 = a at *
 generalize cf n2 d2 = b at *
 generalize cf n3 d3 = c at *
 generalize cf m1 e1 = d at *
 generalize cf m2 e2 = e at *
 generalize cf m3 e3 = f at *
 generalize cf n4 d4 = k at *
 generalize cf m4 e4 = r at *
 generalize tmR n5 d5 n6 d6 neg = x at *
 have A := uAdd a b c d e f
 have B := uSub a b c d e f
 have S := uScale a b c k
 have C1 := vCheck (a + d) (b + e) (c + f) fz fz fz
 have C2 := vCheck (a - d) (b - e) (c - f) fz fz fz
 have C3 := vCheck (a * k) (b * k) (c * k) fz fz fz
 have A2 := uAdd d e f a b c
 rw [show d + a = a + d by grind, show e + b = b + e by grind, show f + c = c + f by grind] at A2
 have B2 := vSub a b c d e f
 have x1 := sameQ' (a + d) (b + e) (c + f)
 have x2 := sameQ' (a - d) (b - e) (c - f)
 have V := vEval a b c r
 have U := vEval d e f r
 haveI y1 := evQ_hs a b c r
 haveI y2 := evQ_hs d e f r
 have E1 := uEval (a + d) (b + e) (c + f) r
 have E2 := uEval (a - d) (b - e) (c - f) r
 have E3 := uEval (a * k) (b * k) (c * k) r
 rw [show evQ (a + d) (b + e) (c + f) r = evQ a b c r + evQ d e f r by unfold evQ; grind] at E1
 rw [show evQ (a - d) (b - e) (c - f) r = evQ a b c r - evQ d e f r by unfold evQ; grind] at E2
 rw [show evQ (a * k) (b * k) (c * k) r = k * evQ a b c r by unfold evQ; grind] at E3
 have R1 := rAdd (evQ a b c r) (evQ d e f r) fz fz
 have R2 := rSub (evQ a b c r) (evQ d e f r) fz fz
 have R3 := rMul k (evQ a b c r) fz fz
 have x3 := same' (evQ a b c r + evQ d e f r)
 have x4 := same' (evQ a b c r - evQ d e f r)
 have x5 := same' (k * evQ a b c r)
 have T1 := vAt a b c x ok
 have T2 := vAt d e f x ok
 have T3 := uSignAt (a - d) (b - e) (c - f) x ok.nonneg
 haveI := atQ_hsp a b c x
 haveI := atQ_hsr a b c x
 haveI := atQ_hsp d e f x
 haveI := atQ_hsr d e f x
 have T4 := vCompare (atQ a b c x) (atQ d e f x) (atQ_ok ok).nonneg (atQ_ok ok).nonneg
 have es : sgR (atQ (a - d) (b - e) (c - f) x).val = Rl.cmp (atQ a b c x) (atQ d e f x) := by
  unfold Rl.cmp
  rw [atQ_val ok, atQ_val ok, atQ_val ok]
  congr 1
  unfold qval
  exact RR.ring [a, b, c, d, e, f, x.val] (by decide +kernel)
 rw [es] at T3
 clear es ok z1 z2 z3 z4 z5 z6 z7 z8 z9 z10 y1 y2
 clear this
 generalize Rl.cmp (atQ a b c x) (atQ d e f x) = s at *
 have e5 : decide (s = s) = true := decide_eq_true rfl
 generalize atQ a b c x = v1 at *
 generalize atQ d e f x = v2 at *
 generalize evQ a b c r + evQ d e f r = t1 at *
 generalize evQ a b c r - evQ d e f r = t2 at *
 generalize k * evQ a b c r = t3 at *
 generalize evQ a b c r = t4 at *
 generalize evQ d e f r = t5 at *
 generalize a + d = u1 at *
 generalize b + e = u2 at *
 generalize c + f = u3 at *
 generalize a - d = u4 at *
 generalize b - e = u5 at *
 generalize c - f = u6 at *
 generalize a * k = u7 at *
 generalize b * k = u8 at *
 generalize c * k = u9 at *
 exact walk (code := Tryz.f14.body.getD .skip) [Sy.c Q1, Sy.c Q2, Sy.c W1, Sy.c W2, Sy.c X, Sy.c A, Sy.c B, Sy.c S, Sy.c K, Sy.c C1, Sy.c C2, Sy.c C3, Sy.c A2, Sy.x2 x1, Sy.c B2, Sy.x2 x2, Sy.c V, Sy.c U, Sy.c E1, Sy.c R1, Sy.x2 x3, Sy.c E2, Sy.c R2, Sy.x2 x4, Sy.c E3, Sy.c R3, Sy.x2 x5, Sy.c T3, Sy.c T1, Sy.c T2, Sy.c T4, eb e5] fol Tryz.func14 (by kernel_rfl) (fun xs w => Tryz.call14 xs w) (by kernel_rfl)
end Go.Proofs.YtlblfgbpogljoaaGreatDoor

end
section
/- Chapter 4: its laws. -/
namespace Go.Proofs.YtlblfgbpogljoaaGreatDoor
open Go Go.RowKit Go.Sy
open Vi
theorem QuadraticValues_s (n1 d1 n2 d2 n3 d3 n4 d4 n5 d5 n6 d6 : Int) (neg : Bool) (h1 : Cn n1 d1) (h2 : Cn n2 d2) (h3 : Cn n3 d3) (h4 : Cn n4 d4) (h5 : Cn n5 d5) (h6 : Cn n6 d6) : Sp Tryz.prog 5 [] [fnV n1 d1 n2 d2 n3 d3, coV n4 d4, tmV n5 d5 n6 d6 neg] (.bool true) [] := by
 exact QuadraticValues_k vKnown4 n1 d1 n2 d2 n3 d3 n4 d4 n5 d5 n6 d6 neg h1 h2 h3 h4 h5 h6
theorem QuadraticSums_s (n1 d1 n2 d2 n3 d3 m1 e1 m2 e2 m3 e3 n4 d4 m4 e4 n5 d5 n6 d6 : Int) (neg : Bool) (h1 : Cn n1 d1) (h2 : Cn n2 d2) (h3 : Cn n3 d3) (h4 : Cn m1 e1) (h5 : Cn m2 e2) (h6 : Cn m3 e3) (h7 : Cn n4 d4) (h8 : Cn m4 e4) (h9 : Cn n5 d5) (h10 : Cn n6 d6) : Sp Tryz.prog 14 [] [.agg #[.int .i16 n1, .int .u8 d1, .int .i16 n2, .int .u8 d2, .int .i16 n3, .int .u8 d3, .int .i16 m1, .int .u8 e1, .int .i16 m2, .int .u8 e2, .int .i16 m3, .int .u8 e3], .agg #[.int .i16 n4, .int .u8 d4, .int .i16 m4, .int .u8 e4], tmV n5 d5 n6 d6 neg] (.bool true) [] := by
 exact QuadraticSums_k vKnown4 n1 d1 n2 d2 n3 d3 m1 e1 m2 e2 m3 e3 n4 d4 m4 e4 n5 d5 n6 d6 neg h1 h2 h3 h4 h5 h6 h7 h8 h9 h10
theorem QuadraticValues_c (n1 d1 n2 d2 n3 d3 n4 d4 n5 d5 n6 d6 : Int) (neg : Bool) (w : World) (hw : w.ShapedOpen Tryz.prog) (h1 : Cn n1 d1) (h2 : Cn n2 d2) (h3 : Cn n3 d3) (h4 : Cn n4 d4) (h5 : Cn n5 d5) (h6 : Cn n6 d6) : Calls Tryz.prog 5 #[fnV n1 d1 n2 d2 n3 d3, coV n4 d4, tmV n5 d5 n6 d6 neg] w fun e w' => e = .returned (.bool true) ∧ Below w.heap.size w w' := (QuadraticValues_s n1 d1 n2 d2 n3 d3 n4 d4 n5 d5 n6 d6 neg h1 h2 h3 h4 h5 h6).calls rfl rfl w hw
theorem QuadraticSums_c (n1 d1 n2 d2 n3 d3 m1 e1 m2 e2 m3 e3 n4 d4 m4 e4 n5 d5 n6 d6 : Int) (neg : Bool) (w : World) (hw : w.ShapedOpen Tryz.prog) (h1 : Cn n1 d1) (h2 : Cn n2 d2) (h3 : Cn n3 d3) (h4 : Cn m1 e1) (h5 : Cn m2 e2) (h6 : Cn m3 e3) (h7 : Cn n4 d4) (h8 : Cn m4 e4) (h9 : Cn n5 d5) (h10 : Cn n6 d6) : Calls Tryz.prog 14 #[.agg #[.int .i16 n1, .int .u8 d1, .int .i16 n2, .int .u8 d2, .int .i16 n3, .int .u8 d3, .int .i16 m1, .int .u8 e1, .int .i16 m2, .int .u8 e2, .int .i16 m3, .int .u8 e3], .agg #[.int .i16 n4, .int .u8 d4, .int .i16 m4, .int .u8 e4], tmV n5 d5 n6 d6 neg] w fun e w' => e = .returned (.bool true) ∧ Below w.heap.size w w' := (QuadraticSums_s n1 d1 n2 d2 n3 d3 m1 e1 m2 e2 m3 e3 n4 d4 m4 e4 n5 d5 n6 d6 neg h1 h2 h3 h4 h5 h6 h7 h8 h9 h10).calls rfl rfl w hw
end Go.Proofs.YtlblfgbpogljoaaGreatDoor

end
