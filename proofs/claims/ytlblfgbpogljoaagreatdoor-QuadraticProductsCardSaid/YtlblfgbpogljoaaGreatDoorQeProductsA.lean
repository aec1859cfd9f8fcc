/- Part 1 of the proof; what it holds is said text by text. -/
import Derived.OwnWalk
import Derived.Deep.DeepCutAuto
import Derived.Deep.CutBlock
import Derived.Test.YtlblfgbpogljoaaGreatDoorQbL
set_option linter.unusedSimpArgs false
set_option linter.unusedVariables false
section
namespace Go.Proofs.YtlblfgbpogljoaaGreatDoor
open Go Go.RowKit
open Vi
theorem DT.num_lt {w : World} {v : Value} {x : Nat} (h : DT w v x) : x < 256 ^ nd 256 x := h.1
end Go.Proofs.YtlblfgbpogljoaaGreatDoor

end
section
/- Contracts for the reckoner: integers; digits as rows. -/
namespace Go.Proofs.YtlblfgbpogljoaaGreatDoor
open Go Go.RowKit Go.Sy
open Vi
section
variable {f : FuncId}
end
end Go.Proofs.YtlblfgbpogljoaaGreatDoor
namespace Go.Proofs.YtlblfgbpogljoaaGreatDoor
open Go Go.RowKit Go.Sy
open Vi
end Go.Proofs.YtlblfgbpogljoaaGreatDoor
namespace Go.Proofs.YtlblfgbpogljoaaGreatDoor
open Go Go.RowKit Go.Sy
open Vi
end Go.Proofs.YtlblfgbpogljoaaGreatDoor
namespace Go.Proofs.YtlblfgbpogljoaaGreatDoor
open Go Go.RowKit
open Vi
set_option maxHeartbeats 400000 in
theorem sIsInt_c (b : Bool) (s : ByteArray) (w : World) (hs : s.size ≤ 9223372036854775807) : Calls Tryz.prog 159 #[.agg #[.bool b, .string s]] w fun e w' => e = .returned (.bool (okInt b s)) ∧ Below w.heap.size w w' := by
 cases he : s.toList.isEmpty
 ·have hp : 0 < s.size := by
    rcases Nat.eq_zero_or_pos s.size with h | h
    ·rw [toList_data] at he
     have : s.data.toList.length = 0 := h
     rw [List.eq_nil_of_length_eq_zero this] at he; simp at he
    ·exact h
  have hc := can_first s hp
  by_cases h0 : (s[0]'hp).toNat = 0
  ·have e : okInt b s = false := by
     unfold okInt; rw [he]
     have h1 : ¬ Vi.Can s := fun h => (hc.1 h) h0
     unfold Vi.Can at h1
     have h2 : s.data.toList.head? = some 0 := Decidable.byContradiction h1
     rw [h2]; rfl
   rw [e]
   clear hc
   go_enter Tryz.func159, Tryz.ntmps159
   go_wp2
   go_ret
   exact ⟨rfl, by (exact belA)⟩
  ·have e : okInt b s = true := by
     unfold okInt; rw [he]
     have h1 : Vi.Can s := hc.2 h0
     unfold Vi.Can at h1
     simp [h1]
   rw [e]
   have hb : ((s[0].toNat : Int) != 0) = true := by simpa using h0
   clear hc
   go_enter Tryz.func159, Tryz.ntmps159
   go_wp2
   go_ret
   exact ⟨by simp [h0], by (exact belA)⟩
 ·have e : okInt b s = !b := by unfold okInt; rw [he]; rfl
  rw [e]
  have hz : s.size = 0 := by
   rw [toList_data] at he
   have h2 : s.data.toList = [] := by simpa using he
   have : s.data.toList.length = 0 := by rw [h2]; rfl
   exact this
  cases b
  all_goals
   go_enter Tryz.func159, Tryz.ntmps159
   go_wp2
   go_ret
   exact ⟨rfl, by (exact belA)⟩
end Go.Proofs.YtlblfgbpogljoaaGreatDoor
namespace Go.Proofs.YtlblfgbpogljoaaGreatDoor
open Go Go.RowKit Go.Sy
open Vi
theorem rIsInt (b : Bool) (s : ByteArray) (hs : s.size ≤ 9223372036854775807) : Sp Tryz.prog 159 [] [.agg #[.bool b, .string s]] (.bool (okInt b s)) [] := Sp.of (fun xs w => Tryz.call159 xs w) (by kernel_rfl) (by kernel_rfl) (fun w => sIsInt_c b s w hs)
end Go.Proofs.YtlblfgbpogljoaaGreatDoor
namespace Go.Proofs.YtlblfgbpogljoaaGreatDoor
open Go Go.RowKit Go.Sy
open Vi
end Go.Proofs.YtlblfgbpogljoaaGreatDoor
namespace Go.Proofs.YtlblfgbpogljoaaGreatDoor
open Go Go.RowKit Go.Sy
open Vi
end Go.Proofs.YtlblfgbpogljoaaGreatDoor
namespace Go.Proofs.YtlblfgbpogljoaaGreatDoor
open Go Go.RowKit Go.Sy
open Vi
theorem isOne {s : ByteArray} (h : okInt false s = true) : (s.toList == (⟨#[1]⟩ : ByteArray).toList) = (num s == 1) := by
 obtain ⟨z, h1, rfl⟩ := okInt_num false s h
 rw [num_mg, ← mg1]
 have := int_beq z 1
 rw [← h1, show sg 1 = false by decide] at this
 simp only [BEq.rfl, Bool.true_and] at this
 rw [this]
 have : 0 ≤ z := by
  have h1 := h1.symm
  unfold sg at h1
  have : ¬ z < 0 := by simpa using h1
  omega
 rw [Bool.eq_iff_iff]
 simp
 omega
theorem rCheck (b1 : Bool) (s1 : ByteArray) (b2 : Bool) (s2 : ByteArray) (h1 : s1.size ≤ 131000) (h2 : s2.size ≤ 131000) : Sp Tryz.prog 121 [] [.agg #[.bool b1, .string s1, .bool b2, .string s2]] (.bool (okRat b1 s1 b2 s2)) [] := by
 have c1 := rIsInt b1 s1 (by omega)
 have c2 := rIsInt b2 s2 (by omega)
 unfold okRat
 cases k1 : okInt b1 s1 <;> rw [k1] at c1
 ·exact walk (code := Tryz.f121.body.getD .skip) [c c1] fol Tryz.func121 (by kernel_rfl) (fun xs w => Tryz.call121 xs w) (by kernel_rfl)
 cases k2 : okInt b2 s2 <;> rw [k2] at c2
 ·exact walk (code := Tryz.f121.body.getD .skip) [c c1, c c2] fol Tryz.func121 (by kernel_rfl) (fun xs w => Tryz.call121 xs w) (by kernel_rfl)
 cases b2
 case true => exact walk (code := Tryz.f121.body.getD .skip) [c c1, c c2] fol Tryz.func121 (by kernel_rfl) (fun xs w => Tryz.call121 xs w) (by kernel_rfl)
 cases k3 : (s2.toList == [])
 ·have n1 : nd 256 (num s1) ≤ 131000 := Nat.le_trans (nd_le 256 (by omega) _ s1.size (num_lt s1)) h1
  have n2 : nd 256 (num s2) ≤ 131000 := Nat.le_trans (nd_le 256 (by omega) _ s2.size (num_lt s2)) h2
  have k4 : s2.toList.isEmpty = false := by rw [← k3]; cases s2.toList <;> rfl
  have hi := isOne k2
  have hC := dCommon (num s1) (num s2) (by omega) (by omega)
  rw [k4, Nat.gcd_comm (num s1) (num s2)]
  obtain ⟨G, hG⟩ : ∃ G, G = Nat.gcd (num s2) (num s1) := ⟨_, rfl⟩
  rw [← hG] at hC ⊢
  have hd1 := dDigits b1 s1 (by omega)
  have hd2 := dDigits false s2 (by omega)
  cases k5 : (num s2 == 1)
  ·rw [show (num s2 != 1) = true by show (!(num s2 == 1)) = true; rw [k5]; rfl]
   have e5 : (!(s2.toList == (⟨#[1]⟩ : ByteArray).toList)) = true := by rw [hi, k5]; rfl
   by_cases k6 : nd 256 G = 1
   ·have g0 : 0 < G := by
      rcases Nat.eq_zero_or_pos G with h | h
      ·rw [h, nd_zero] at k6; omega
      ·exact h
    have g1 : G < 256 := by have := lt_pow_nd 256 (by omega) G; rw [k6] at this; simpa using this
    rw [k6, rD_small G g0 g1] at hC
    have e7 : ((true && true && !false && (false || true && G == 1)) : Bool) = decide ((G : Int) = 1) := by
     rw [Bool.eq_iff_iff]; simp; omega
    show Sp _ _ _ _ (.bool (true && true && !false && (false || true && G == 1))) _
    rw [e7]
    exact walk (code := Tryz.f121.body.getD .skip) [c c1, c c2, L, eb k3, cr hd1, cr hd2, cr hC, eb e5] fol Tryz.func121 (by kernel_rfl) (fun xs w => Tryz.call121 xs w) (by kernel_rfl)
   ·have e6 : decide ((nd 256 G : Int) = 1) = false := decide_eq_false (by omega)
    have e7 : (G == 1) = false := by
     have : G ≠ 1 := fun h => k6 (by rw [h]; exact nd_small 1 (by omega) (by omega))
     simpa using this
    rw [e7]
    exact walk (code := Tryz.f121.body.getD .skip) [c c1, c c2, L, eb k3, cr hd1, cr hd2, cr hC, eb e5, eb e6] fol Tryz.func121 (by kernel_rfl) (fun xs w => Tryz.call121 xs w) (by kernel_rfl)
  ·rw [show (num s2 != 1) = false by show (!(num s2 == 1)) = false; rw [k5]; rfl]
   have e5 : (!(s2.toList == (⟨#[1]⟩ : ByteArray).toList)) = false := by rw [hi, k5]; rfl
   exact walk (code := Tryz.f121.body.getD .skip) [c c1, c c2, L, eb k3, cr hd1, cr hd2, cr hC, eb e5] fol Tryz.func121 (by kernel_rfl) (fun xs w => Tryz.call121 xs w) (by kernel_rfl)
 ·have k4 : s2.toList.isEmpty = true := by rw [← k3]; cases s2.toList <;> rfl
  rw [k4]
  exact walk (code := Tryz.f121.body.getD .skip) [c c1, c c2, L, eb k3] fol Tryz.func121 (by kernel_rfl) (fun xs w => Tryz.call121 xs w) (by kernel_rfl)
theorem rCheckQ (q : Rat) (hq : Fits q) : Sp Tryz.prog 121 [] [rV q] (.bool true) [] := by
 have := rCheck (sg q.num) (mg q.num) (sg (dn q)) (mg (dn q)) hq.mn hq.md
 rw [okRat_of] at this
 exact this
end Go.Proofs.YtlblfgbpogljoaaGreatDoor
namespace Go.Proofs.YtlblfgbpogljoaaGreatDoor
open Go Go.RowKit Go.Sy
open Vi
def bV (n : Nat) : Value := .int .u8 n
theorem bin_rem8 (x y : Nat) (hx : x < 256) (hy : 0 < y) : Bin .rem 5 (bV x) (bV y) (bV (x % y)) := by
 intro ox oy w
 have e : (y : Int) ≠ 0 := by omega
 show (Op.intDiv .rem .u8 (x : Int) (y : Int)).run Tryz.prog w = _
 unfold Op.intDiv
 rw [if_neg e]
 show Result.ok (Value.int .u8 ((x : Int).tmod (y : Int))) w = _
 rw [Int.tmod_eq_emod_of_nonneg (by omega), ← Int.natCast_emod]
 rfl
end Go.Proofs.YtlblfgbpogljoaaGreatDoor
namespace Go.Proofs.YtlblfgbpogljoaaGreatDoor
open Go Go.RowKit Go.Sy
open Vi
end Go.Proofs.YtlblfgbpogljoaaGreatDoor

end
section
/- The program's Check of fractions. -/
namespace Go.Proofs.YtlblfgbpogljoaaGreatDoor
open Go Go.RowKit Go.Sy
open Vi
end Go.Proofs.YtlblfgbpogljoaaGreatDoor
namespace Go.Proofs.YtlblfgbpogljoaaGreatDoor
open Go Go.RowKit Go.Sy
open Vi
end Go.Proofs.YtlblfgbpogljoaaGreatDoor
namespace Go.Proofs.YtlblfgbpogljoaaGreatDoor
open Go Go.RowKit Go.Sy
open Vi
def qZ : Value := .agg #[.bool false, .string ⟨#[]⟩, .bool false, .string ⟨#[]⟩, .bool false, .string ⟨#[]⟩, .bool false, .string ⟨#[]⟩, .bool false, .string ⟨#[]⟩, .bool false, .string ⟨#[]⟩]
theorem qV0 : qV 0 0 0 = qZ := by
 unfold qV qZ
 rw [show (0 : Rat).num = 0 from rfl, show dn 0 = 0 from rfl, sg0, mg0]
end Go.Proofs.YtlblfgbpogljoaaGreatDoor
namespace Go.Proofs.YtlblfgbpogljoaaGreatDoor
open Go Go.RowKit Go.Sy
open Vi
end Go.Proofs.YtlblfgbpogljoaaGreatDoor
namespace Go.Proofs.YtlblfgbpogljoaaGreatDoor
open Go Go.RowKit Go.Sy
open Vi
end Go.Proofs.YtlblfgbpogljoaaGreatDoor
namespace Go.Proofs.YtlblfgbpogljoaaGreatDoor
open Go Go.RowKit Go.Sy
open Vi
end Go.Proofs.YtlblfgbpogljoaaGreatDoor
namespace Go.Proofs.YtlblfgbpogljoaaGreatDoor
open Go Go.RowKit Go.Sy
open Vi
end Go.Proofs.YtlblfgbpogljoaaGreatDoor

end
section
/- The package quadratic: functions and their values at instants. -/
namespace Go.Proofs.YtlblfgbpogljoaaGreatDoor
open Go Go.RowKit Go.Sy
open Vi
theorem uDerivative (a b c : Rat) {i j k : Nat} [HasSz a i] [HasSz b j] [HasSz c k] (hs : i + j + k ≤ 900 := by first | omega | decide) : Sp Tryz.prog 57 [] [qV a b c] (qV b (c + c) 0) [] := by
 have A := pAdd c c fz fz
 have L := uLinear b (c + c)
 clear hs
 generalize c + c = t1 at *
 exact walk (code := Tryz.f57.body.getD .skip) [Sy.c A, Sy.c L] fol Tryz.func57 (by kernel_rfl) (fun xs w => Tryz.call57 xs w) (by kernel_rfl)
end Go.Proofs.YtlblfgbpogljoaaGreatDoor

end
section
/- No program in sight: products of quadratics; degrees. -/
namespace Go.Proofs.YtlblfgbpogljoaaGreatDoor
open Go Go.RowKit Go.Sy
open Vi
theorem dgQ_in (a b c : Rat) : -1 ≤ dgQ a b c ∧ dgQ a b c ≤ 2 := by unfold dgQ; split; omega; split; omega; split <;> omega
def hiQ (a b c d e f : Rat) : Prop := 0 ≤ dgQ a b c ∧ 0 ≤ dgQ d e f ∧ 2 < dgQ a b c + dgQ d e f
theorem low_zero {a b c d e f : Rat} (h : ¬ hiQ a b c d e f) : c * f = 0 ∧ b * f = 0 ∧ c * e = 0 := by
 unfold hiQ dgQ at h
 by_cases hc : c = 0
 ·by_cases hb : b = 0
  ·subst hc hb; refine ⟨?_, ?_, ?_⟩ <;> grind
  ·by_cases hf : f = 0
   ·subst hc hf; refine ⟨?_, ?_, ?_⟩ <;> grind
   ·exfalso; simp [hc, hb, hf] at h
 ·by_cases hf : f = 0
  ·by_cases he : e = 0
   ·subst hf he; refine ⟨?_, ?_, ?_⟩ <;> grind
   ·exfalso; simp [hc, he, hf] at h
  ·exfalso; simp [hc, hf] at h
theorem ev_mul {a b c d e f : Rat} (h : ¬ hiQ a b c d e f) (r : Rat) : evQ (a * d) (a * e + b * d) (a * f + c * d + b * e) r = evQ a b c r * evQ d e f r := by
 obtain ⟨h1, h2, h3⟩ := low_zero h
 unfold evQ
 grind
theorem ev_rule {a b c d e f : Rat} (h : ¬ hiQ a b c d e f) (r : Rat) :
    evQ (a * e + b * d) (a * f + c * d + b * e + (a * f + c * d + b * e)) 0 r = evQ b (c + c) 0 r * evQ d e f r + evQ a b c r * evQ e (f + f) 0 r := by
 obtain ⟨h1, h2, h3⟩ := low_zero h
 unfold evQ
 grind
end Go.Proofs.YtlblfgbpogljoaaGreatDoor

end
section
/- Reference 04: numbers with a root, functions and their values. -/
namespace Go.Proofs.YtlblfgbpogljoaaGreatDoor
open Go Go.RowKit Go.Sy
open Vi
theorem vDegree (a b c : Rat) : Sp Tryz.prog 40 [] [qV a b c] (nV (dgQ a b c)) [] := by
 unfold dgQ
 have S1 := rSgn c
 have S2 := rSgn b
 have S3 := rSgn a
 have e1 := sgQ_ne0 c
 have e2 := sgQ_ne0 b
 have e3 := sgQ_ne0 a
 generalize sgQ c = z1 at *
 generalize sgQ b = z2 at *
 generalize sgQ a = z3 at *
 by_cases h1 : c = 0
 ·rw [decide_eq_false (by simp [h1])] at e1
  rw [if_neg (by simp [h1])]
  by_cases h2 : b = 0
  ·rw [decide_eq_false (by simp [h2])] at e2
   rw [if_neg (by simp [h2])]
   by_cases h3 : a = 0
   ·rw [decide_eq_false (by simp [h3])] at e3
    rw [if_neg (by simp [h3])]
    clear h1 h2 h3
    exact walk (code := Tryz.f40.body.getD .skip) [Sy.c S1, eb e1, Sy.c S2, eb e2, Sy.c S3, eb e3] fol Tryz.func40 (by kernel_rfl) (fun xs w => Tryz.call40 xs w) (by kernel_rfl)
   ·rw [decide_eq_true h3] at e3
    rw [if_pos h3]
    clear h1 h2 h3
    exact walk (code := Tryz.f40.body.getD .skip) [Sy.c S1, eb e1, Sy.c S2, eb e2, Sy.c S3, eb e3] fol Tryz.func40 (by kernel_rfl) (fun xs w => Tryz.call40 xs w) (by kernel_rfl)
  ·rw [decide_eq_true h2] at e2
   rw [if_pos h2]
   clear h1 h2
   exact walk (code := Tryz.f40.body.getD .skip) [Sy.c S1, eb e1, Sy.c S2, eb e2] fol Tryz.func40 (by kernel_rfl) (fun xs w => Tryz.call40 xs w) (by kernel_rfl)
 ·rw [decide_eq_true h1] at e1
  rw [if_pos h1]
  clear h1
  exact walk (code := Tryz.f40.body.getD .skip) [Sy.c S1, eb e1] fol Tryz.func40 (by kernel_rfl) (fun xs w => Tryz.call40 xs w) (by kernel_rfl)
theorem vCheck (a b c : Rat) (ha : Fits a) (hb : Fits b) (hc : Fits c) : Sp Tryz.prog 59 [] [qV a b c] (.bool true) [] := by
 have A := rCheckQ a ha
 have B := rCheckQ b hb
 have C := rCheckQ c hc
 clear ha hb hc
 exact walk (code := Tryz.f59.body.getD .skip) [Sy.c A, Sy.c B, Sy.c C] fol Tryz.func59 (by kernel_rfl) (fun xs w => Tryz.call59 xs w) (by kernel_rfl)
end Go.Proofs.YtlblfgbpogljoaaGreatDoor

end
section
/- Chapter 4's law about products. -/
namespace Go.Proofs.YtlblfgbpogljoaaGreatDoor
open Go Go.RowKit Go.Sy
open Vi
theorem uMul0 (a b c d e f : Rat) (h : hiQ a b c d e f) : Sp Tryz.prog 74 [] [qV a b c, qV d e f] (.tuple #[qZ, nV 2]) [] := by
 have D1 := uDegree a b c
 have D2 := uDegree d e f
 have b1 := dgQ_in a b c
 have b2 := dgQ_in d e f
 obtain ⟨h1, h2, h3⟩ := h
 generalize dgQ a b c = m at *
 generalize dgQ d e f = n at *
 obtain ⟨s, hs0⟩ : ∃ s, s = m + n := ⟨_, rfl⟩
 have w1 : IntKind.i64.wrap (m + n) = s := by rw [hs0]; exact w64 (by omega) (by omega)
 have e1 : decide (m ≥ 0) = true := decide_eq_true h1
 have e2 : decide (n ≥ 0) = true := decide_eq_true h2
 have e3 : decide (s > 2) = true := decide_eq_true (by omega)
 clear h1 h2 h3 b1 b2 hs0
 exact walk (code := Tryz.f74.body.getD .skip) [Sy.c D1, Sy.c D2, eb e1, eb e2, Go.Sy.e (congrArg (Value.int IntKind.i64) w1), eb e3] fol Tryz.func74 (by kernel_rfl) (fun xs w => Tryz.call74 xs w) (by kernel_rfl)
theorem uMul (a b c d e f : Rat) (h : ¬ hiQ a b c d e f) {i j k l m n : Nat} [HasSz a i] [HasSz b j] [HasSz c k] [HasSz d l] [HasSz e m] [HasSz f n] (hs : i + j + k + l + m + n ≤ 900 := by first | omega | decide) :
    Sp Tryz.prog 74 [] [qV a b c, qV d e f] (.tuple #[qV (a * d) (a * e + b * d) (a * f + c * d + b * e), nV 0]) [] := by
 have D1 := uDegree a b c
 have D2 := uDegree d e f
 have b1 := dgQ_in a b c
 have b2 := dgQ_in d e f
 have M1 := pMul a d fz fz
 have M2 := pMul a e fz fz
 have M3 := pMul b d fz fz
 have A1 := pAdd (a * e) (b * d) fz fz
 have M4 := pMul a f fz fz
 have M5 := pMul c d fz fz
 have M6 := pMul b e fz fz
 have A2 := pAdd (a * f) (c * d) fz fz
 have A3 := pAdd (a * f + c * d) (b * e) fz fz
 unfold hiQ at h
 generalize dgQ a b c = m at *
 generalize dgQ d e f = n at *
 obtain ⟨s, hs0⟩ : ∃ s, s = m + n := ⟨_, rfl⟩
 have w1 : IntKind.i64.wrap (m + n) = s := by rw [hs0]; exact w64 (by omega) (by omega)
 clear hs
 generalize a * f + c * d + b * e = t1 at *
 generalize a * f + c * d = t2 at *
 generalize a * e + b * d = t3 at *
 generalize a * f = t4 at *
 generalize c * d = t5 at *
 generalize b * e = t6 at *
 generalize a * e = t7 at *
 generalize b * d = t8 at *
 generalize a * d = t9 at *
 by_cases h1 : 0 ≤ m
 ·have e1 : decide (m ≥ 0) = true := decide_eq_true h1
  by_cases h2 : 0 ≤ n
  ·have e2 : decide (n ≥ 0) = true := decide_eq_true h2
   have e3 : decide (s > 2) = false := decide_eq_false (by omega)
   clear h h1 h2 b1 b2 hs0
   exact walk (code := Tryz.f74.body.getD .skip) [Sy.c D1, Sy.c D2, eb e1, eb e2, Go.Sy.e (congrArg (Value.int IntKind.i64) w1), eb e3, Sy.c M1, Sy.c M2, Sy.c M3, Sy.c A1, Sy.c M4, Sy.c M5, Sy.c A2, Sy.c M6, Sy.c A3] fol Tryz.func74 (by kernel_rfl) (fun xs w => Tryz.call74 xs w) (by kernel_rfl)
  ·have e2 : decide (n ≥ 0) = false := decide_eq_false (by omega)
   clear h h1 h2 b1 b2 w1 hs0
   exact walk (code := Tryz.f74.body.getD .skip) [Sy.c D1, Sy.c D2, eb e1, eb e2, Sy.c M1, Sy.c M2, Sy.c M3, Sy.c A1, Sy.c M4, Sy.c M5, Sy.c A2, Sy.c M6, Sy.c A3] fol Tryz.func74 (by kernel_rfl) (fun xs w => Tryz.call74 xs w) (by kernel_rfl)
 ·have e1 : decide (m ≥ 0) = false := decide_eq_false (by omega)
  clear h h1 b1 b2 w1 hs0
  exact walk (code := Tryz.f74.body.getD .skip) [Sy.c D1, Sy.c D2, eb e1, Sy.c M1, Sy.c M2, Sy.c M3, Sy.c A1, Sy.c M4, Sy.c M5, Sy.c A2, Sy.c M6, Sy.c A3] fol Tryz.func74 (by kernel_rfl) (fun xs w => Tryz.call74 xs w) (by kernel_rfl)
end Go.Proofs.YtlblfgbpogljoaaGreatDoor

end
section
/- Chapter 4: the walks of the law Products. -/
namespace Go.Proofs.YtlblfgbpogljoaaGreatDoor
open Go Go.RowKit Go.Sy
open Vi
def qV2 (a b : Rat) : Value := .agg #[.bool (sg a.num), .string (mg a.num), .bool (sg (dn a)), .string (mg (dn a)), .bool (sg b.num), .string (mg b.num), .bool (sg (dn b)), .string (mg (dn b)), .bool false, .string ⟨#[]⟩, .bool false, .string ⟨#[]⟩]
def qV1 (a : Rat) : Value := .agg #[.bool (sg a.num), .string (mg a.num), .bool (sg (dn a)), .string (mg (dn a)), .bool false, .string ⟨#[]⟩, .bool false, .string ⟨#[]⟩, .bool false, .string ⟨#[]⟩, .bool false, .string ⟨#[]⟩]
theorem qV2_eq (a b : Rat) : qV a b 0 = qV2 a b := by unfold qV qV2; rw [show (0 : Rat).num = 0 from rfl, show dn 0 = 0 from rfl, sg0, mg0]
theorem qV1_eq (a : Rat) : qV a 0 0 = qV1 a := by unfold qV qV1; rw [show (0 : Rat).num = 0 from rfl, show dn 0 = 0 from rfl, sg0, mg0]
structure PrOk (U X : Value) (r V W V1 W1 t1 t2 t3 t4 m0 m1 m2 x0 x1 y0 y1 z0 z1 : Rat) : Prop where
 M : Sp Tryz.prog 74 [] [U, X] (.tuple #[qV m0 m1 m2, nV 0]) []
 Vp : Sp Tryz.prog 34 [] [U, rV r] (rV V) []
 Vq : Sp Tryz.prog 34 [] [X, rV r] (rV W) []
 DP : Sp Tryz.prog 57 [] [U] (qV2 x0 x1) []
 EP : Sp Tryz.prog 34 [] [qV2 x0 x1, rV r] (rV V1) []
 R1 : Sp Tryz.prog 61 [] [rV V1, rV W] (rV t1) []
 DQ : Sp Tryz.prog 57 [] [X] (qV2 y0 y1) []
 EQ : Sp Tryz.prog 34 [] [qV2 y0 y1, rV r] (rV W1) []
 R2 : Sp Tryz.prog 61 [] [rV V, rV W1] (rV t2) []
 R3 : Sp Tryz.prog 58 [] [rV t1, rV t2] (rV t3) []
 Ck : Sp Tryz.prog 59 [] [qV m0 m1 m2] (.bool true) []
 Em : Sp Tryz.prog 34 [] [qV m0 m1 m2, rV r] (rV t4) []
 R4 : Sp Tryz.prog 61 [] [rV V, rV W] (rV t4) []
 DM : Sp Tryz.prog 57 [] [qV m0 m1 m2] (qV2 z0 z1) []
 Ez : Sp Tryz.prog 34 [] [qV2 z0 z1, rV r] (rV t3) []
section
variable (n1 d1 n2 d2 n3 d3 n4 d4 n5 d5 n6 d6 n7 d7 k0 k1 i j : Int) (a b c d e f r : Rat) (dp dq : Int) (K : Sp Tryz.prog 32 [] [] (.bool true) [])
 (Q1 : Sp Tryz.prog 29 [] [fnV n1 d1 n2 d2 n3 d3] (qV a b c) []) (Q2 : Sp Tryz.prog 29 [] [fnV n4 d4 n5 d5 n6 d6] (qV d e f) []) (C : Sp Tryz.prog 30 [] [coV n7 d7] (rV r) [])
 (B1 : Bin .rem 5 (.int .u8 k0) (.int .u8 4) (.int .u8 i)) (B2 : Bin .rem 5 (.int .u8 k1) (.int .u8 4) (.int .u8 j))
include K Q1 Q2 C B1 B2
theorem lp_00a (g0 : decide (i > 0) = false) (g1 : decide (i > 1) = false) (g2 : decide (i > 2) = false) (h0 : decide (j > 0) = false) (h1 : decide (j > 1) = false) (Dp : Sp Tryz.prog 40 [] [qV a b c] (nV dp) []) (Dq : Sp Tryz.prog 40 [] [qV d e f] (nV dq) []) (e1 : decide (dp ≥ 0) = false) (V W V1 W1 t1 t2 t3 t4 m0 m1 m2 x0 x1 y0 y1 z0 z1 : Rat) (H : PrOk (qV a b c) (qV d e f) r V W V1 W1 t1 t2 t3 t4 m0 m1 m2 x0 x1 y0 y1 z0 z1) :
    Sp Tryz.prog 15 [] [.agg #[.int .i16 n1, .int .u8 d1, .int .i16 n2, .int .u8 d2, .int .i16 n3, .int .u8 d3, .int .i16 n4, .int .u8 d4, .int .i16 n5, .int .u8 d5, .int .i16 n6, .int .u8 d6], .agg #[.int .u8 k0, .int .u8 k1], coV n7 d7] (.bool true) [] := by
 obtain ⟨M, Vp, Vq, DP, EP, R1, DQ, EQ, R2, R3, Ck, Em, R4, DM, Ez⟩ := H
 have b1 := same t3
 have b2 := same t4
 exact walk (code := Tryz.f15.body.getD .skip) [Sy.c Q1, Sy.c Q2, Sy.c C, x2 B1, eb g0, x2 B1, eb g1, x2 B1, eb g2, x2 B2, eb h0, x2 B2, eb h1, Sy.c M, Sy.c Dp, Sy.c Dq, Sy.c K, L, eb e1, Sy.c Vp, Sy.c Vq, Sy.c DP, Sy.c EP, Sy.c R1, Sy.c DQ, Sy.c EQ, Sy.c R2, Sy.c R3, Sy.c Ck, Sy.c Em, Sy.c R4, x2 b2, Sy.c DM, Sy.c Ez, x2 b1] fol Tryz.func15 (by kernel_rfl) (fun xs w => Tryz.call15 xs w) (by kernel_rfl)
theorem lp_00b (g0 : decide (i > 0) = false) (g1 : decide (i > 1) = false) (g2 : decide (i > 2) = false) (h0 : decide (j > 0) = false) (h1 : decide (j > 1) = false) (Dp : Sp Tryz.prog 40 [] [qV a b c] (nV dp) []) (Dq : Sp Tryz.prog 40 [] [qV d e f] (nV dq) []) (e1 : decide (dp ≥ 0) = true) (e2 : decide (dq ≥ 0) = false) (V W V1 W1 t1 t2 t3 t4 m0 m1 m2 x0 x1 y0 y1 z0 z1 : Rat) (H : PrOk (qV a b c) (qV d e f) r V W V1 W1 t1 t2 t3 t4 m0 m1 m2 x0 x1 y0 y1 z0 z1) :
    Sp Tryz.prog 15 [] [.agg #[.int .i16 n1, .int .u8 d1, .int .i16 n2, .int .u8 d2, .int .i16 n3, .int .u8 d3, .int .i16 n4, .int .u8 d4, .int .i16 n5, .int .u8 d5, .int .i16 n6, .int .u8 d6], .agg #[.int .u8 k0, .int .u8 k1], coV n7 d7] (.bool true) [] := by
 obtain ⟨M, Vp, Vq, DP, EP, R1, DQ, EQ, R2, R3, Ck, Em, R4, DM, Ez⟩ := H
 have b1 := same t3
 have b2 := same t4
 exact walk (code := Tryz.f15.body.getD .skip) [Sy.c Q1, Sy.c Q2, Sy.c C, x2 B1, eb g0, x2 B1, eb g1, x2 B1, eb g2, x2 B2, eb h0, x2 B2, eb h1, Sy.c M, Sy.c Dp, Sy.c Dq, Sy.c K, L, eb e1, eb e2, Sy.c Vp, Sy.c Vq, Sy.c DP, Sy.c EP, Sy.c R1, Sy.c DQ, Sy.c EQ, Sy.c R2, Sy.c R3, Sy.c Ck, Sy.c Em, Sy.c R4, x2 b2, Sy.c DM, Sy.c Ez, x2 b1] fol Tryz.func15 (by kernel_rfl) (fun xs w => Tryz.call15 xs w) (by kernel_rfl)
theorem lp_00c (g0 : decide (i > 0) = false) (g1 : decide (i > 1) = false) (g2 : decide (i > 2) = false) (h0 : decide (j > 0) = false) (h1 : decide (j > 1) = false) (Dp : Sp Tryz.prog 40 [] [qV a b c] (nV dp) []) (Dq : Sp Tryz.prog 40 [] [qV d e f] (nV dq) []) (e1 : decide (dp ≥ 0) = true) (e2 : decide (dq ≥ 0) = true) (s : Int) (w1 : IntKind.i64.wrap (dp + dq) = s) (e3 : decide (s > 2) = false) (V W V1 W1 t1 t2 t3 t4 m0 m1 m2 x0 x1 y0 y1 z0 z1 : Rat) (H : PrOk (qV a b c) (qV d e f) r V W V1 W1 t1 t2 t3 t4 m0 m1 m2 x0 x1 y0 y1 z0 z1) :
    Sp Tryz.prog 15 [] [.agg #[.int .i16 n1, .int .u8 d1, .int .i16 n2, .int .u8 d2, .int .i16 n3, .int .u8 d3, .int .i16 n4, .int .u8 d4, .int .i16 n5, .int .u8 d5, .int .i16 n6, .int .u8 d6], .agg #[.int .u8 k0, .int .u8 k1], coV n7 d7] (.bool true) [] := by
 obtain ⟨M, Vp, Vq, DP, EP, R1, DQ, EQ, R2, R3, Ck, Em, R4, DM, Ez⟩ := H
 have b1 := same t3
 have b2 := same t4
 exact walk (code := Tryz.f15.body.getD .skip) [Sy.c Q1, Sy.c Q2, Sy.c C, x2 B1, eb g0, x2 B1, eb g1, x2 B1, eb g2, x2 B2, eb h0, x2 B2, eb h1, Sy.c M, Sy.c Dp, Sy.c Dq, Sy.c K, L, eb e1, eb e2, Go.Sy.e (congrArg (Value.int IntKind.i64) w1), eb e3, Sy.c Vp, Sy.c Vq, Sy.c DP, Sy.c EP, Sy.c R1, Sy.c DQ, Sy.c EQ, Sy.c R2, Sy.c R3, Sy.c Ck, Sy.c Em, Sy.c R4, x2 b2, Sy.c DM, Sy.c Ez, x2 b1] fol Tryz.func15 (by kernel_rfl) (fun xs w => Tryz.call15 xs w) (by kernel_rfl)
theorem lp_00h (g0 : decide (i > 0) = false) (g1 : decide (i > 1) = false) (g2 : decide (i > 2) = false) (h0 : decide (j > 0) = false) (h1 : decide (j > 1) = false) (Dp : Sp Tryz.prog 40 [] [qV a b c] (nV dp) []) (Dq : Sp Tryz.prog 40 [] [qV d e f] (nV dq) []) (e1 : decide (dp ≥ 0) = true) (e2 : decide (dq ≥ 0) = true) (s : Int) (w1 : IntKind.i64.wrap (dp + dq) = s) (e3 : decide (s > 2) = true) (M : Sp Tryz.prog 74 [] [qV a b c, qV d e f] (.tuple #[qZ, nV 2]) []) :
    Sp Tryz.prog 15 [] [.agg #[.int .i16 n1, .int .u8 d1, .int .i16 n2, .int .u8 d2, .int .i16 n3, .int .u8 d3, .int .i16 n4, .int .u8 d4, .int .i16 n5, .int .u8 d5, .int .i16 n6, .int .u8 d6], .agg #[.int .u8 k0, .int .u8 k1], coV n7 d7] (.bool true) [] := by
 have b1 : Bin .eql 67 qZ qZ (.bool true) := by
  have := binQ 0 0 0 0 0 0 (q := true) (by simp)
  rw [qV0] at this
  exact this
 exact walk (code := Tryz.f15.body.getD .skip) [Sy.c Q1, Sy.c Q2, Sy.c C, x2 B1, eb g0, x2 B1, eb g1, x2 B1, eb g2, x2 B2, eb h0, x2 B2, eb h1, Sy.c M, Sy.c Dp, Sy.c Dq, Sy.c K, L, eb e1, eb e2, Go.Sy.e (congrArg (Value.int IntKind.i64) w1), eb e3, L, x2 b1] fol Tryz.func15 (by kernel_rfl) (fun xs w => Tryz.call15 xs w) (by kernel_rfl)
theorem lp_01a (g0 : decide (i > 0) = false) (g1 : decide (i > 1) = false) (g2 : decide (i > 2) = false) (h0 : decide (j > 0) = true) (h1 : decide (j > 1) = false) (Dp : Sp Tryz.prog 40 [] [qV a b c] (nV dp) []) (Dq : Sp Tryz.prog 40 [] [qV2 d e] (nV dq) []) (e1 : decide (dp ≥ 0) = false) (V W V1 W1 t1 t2 t3 t4 m0 m1 m2 x0 x1 y0 y1 z0 z1 : Rat) (H : PrOk (qV a b c) (qV2 d e) r V W V1 W1 t1 t2 t3 t4 m0 m1 m2 x0 x1 y0 y1 z0 z1) :
    Sp Tryz.prog 15 [] [.agg #[.int .i16 n1, .int .u8 d1, .int .i16 n2, .int .u8 d2, .int .i16 n3, .int .u8 d3, .int .i16 n4, .int .u8 d4, .int .i16 n5, .int .u8 d5, .int .i16 n6, .int .u8 d6], .agg #[.int .u8 k0, .int .u8 k1], coV n7 d7] (.bool true) [] := by
 obtain ⟨M, Vp, Vq, DP, EP, R1, DQ, EQ, R2, R3, Ck, Em, R4, DM, Ez⟩ := H
 have b1 := same t3
 have b2 := same t4
 exact walk (code := Tryz.f15.body.getD .skip) [Sy.c Q1, Sy.c Q2, Sy.c C, x2 B1, eb g0, x2 B1, eb g1, x2 B1, eb g2, x2 B2, eb h0, x2 B2, eb h1, Sy.c M, Sy.c Dp, Sy.c Dq, Sy.c K, L, eb e1, Sy.c Vp, Sy.c Vq, Sy.c DP, Sy.c EP, Sy.c R1, Sy.c DQ, Sy.c EQ, Sy.c R2, Sy.c R3, Sy.c Ck, Sy.c Em, Sy.c R4, x2 b2, Sy.c DM, Sy.c Ez, x2 b1] fol Tryz.func15 (by kernel_rfl) (fun xs w => Tryz.call15 xs w) (by kernel_rfl)
theorem lp_01b (g0 : decide (i > 0) = false) (g1 : decide (i > 1) = false) (g2 : decide (i > 2) = false) (h0 : decide (j > 0) = true) (h1 : decide (j > 1) = false) (Dp : Sp Tryz.prog 40 [] [qV a b c] (nV dp) []) (Dq : Sp Tryz.prog 40 [] [qV2 d e] (nV dq) []) (e1 : decide (dp ≥ 0) = true) (e2 : decide (dq ≥ 0) = false) (V W V1 W1 t1 t2 t3 t4 m0 m1 m2 x0 x1 y0 y1 z0 z1 : Rat) (H : PrOk (qV a b c) (qV2 d e) r V W V1 W1 t1 t2 t3 t4 m0 m1 m2 x0 x1 y0 y1 z0 z1) :
    Sp Tryz.prog 15 [] [.agg #[.int .i16 n1, .int .u8 d1, .int .i16 n2, .int .u8 d2, .int .i16 n3, .int .u8 d3, .int .i16 n4, .int .u8 d4, .int .i16 n5, .int .u8 d5, .int .i16 n6, .int .u8 d6], .agg #[.int .u8 k0, .int .u8 k1], coV n7 d7] (.bool true) [] := by
 obtain ⟨M, Vp, Vq, DP, EP, R1, DQ, EQ, R2, R3, Ck, Em, R4, DM, Ez⟩ := H
 have b1 := same t3
 have b2 := same t4
 exact walk (code := Tryz.f15.body.getD .skip) [Sy.c Q1, Sy.c Q2, Sy.c C, x2 B1, eb g0, x2 B1, eb g1, x2 B1, eb g2, x2 B2, eb h0, x2 B2, eb h1, Sy.c M, Sy.c Dp, Sy.c Dq, Sy.c K, L, eb e1, eb e2, Sy.c Vp, Sy.c Vq, Sy.c DP, Sy.c EP, Sy.c R1, Sy.c DQ, Sy.c EQ, Sy.c R2, Sy.c R3, Sy.c Ck, Sy.c Em, Sy.c R4, x2 b2, Sy.c DM, Sy.c Ez, x2 b1] fol Tryz.func15 (by kernel_rfl) (fun xs w => Tryz.call15 xs w) (by kernel_rfl)
theorem lp_01c (g0 : decide (i > 0) = false) (g1 : decide (i > 1) = false) (g2 : decide (i > 2) = false) (h0 : decide (j > 0) = true) (h1 : decide (j > 1) = false) (Dp : Sp Tryz.prog 40 [] [qV a b c] (nV dp) []) (Dq : Sp Tryz.prog 40 [] [qV2 d e] (nV dq) []) (e1 : decide (dp ≥ 0) = true) (e2 : decide (dq ≥ 0) = true) (s : Int) (w1 : IntKind.i64.wrap (dp + dq) = s) (e3 : decide (s > 2) = false) (V W V1 W1 t1 t2 t3 t4 m0 m1 m2 x0 x1 y0 y1 z0 z1 : Rat) (H : PrOk (qV a b c) (qV2 d e) r V W V1 W1 t1 t2 t3 t4 m0 m1 m2 x0 x1 y0 y1 z0 z1) :
    Sp Tryz.prog 15 [] [.agg #[.int .i16 n1, .int .u8 d1, .int .i16 n2, .int .u8 d2, .int .i16 n3, .int .u8 d3, .int .i16 n4, .int .u8 d4, .int .i16 n5, .int .u8 d5, .int .i16 n6, .int .u8 d6], .agg #[.int .u8 k0, .int .u8 k1], coV n7 d7] (.bool true) [] := by
 obtain ⟨M, Vp, Vq, DP, EP, R1, DQ, EQ, R2, R3, Ck, Em, R4, DM, Ez⟩ := H
 have b1 := same t3
 have b2 := same t4
 exact walk (code := Tryz.f15.body.getD .skip) [Sy.c Q1, Sy.c Q2, Sy.c C, x2 B1, eb g0, x2 B1, eb g1, x2 B1, eb g2, x2 B2, eb h0, x2 B2, eb h1, Sy.c M, Sy.c Dp, Sy.c Dq, Sy.c K, L, eb e1, eb e2, Go.Sy.e (congrArg (Value.int IntKind.i64) w1), eb e3, Sy.c Vp, Sy.c Vq, Sy.c DP, Sy.c EP, Sy.c R1, Sy.c DQ, Sy.c EQ, Sy.c R2, Sy.c R3, Sy.c Ck, Sy.c Em, Sy.c R4, x2 b2, Sy.c DM, Sy.c Ez, x2 b1] fol Tryz.func15 (by kernel_rfl) (fun xs w => Tryz.call15 xs w) (by kernel_rfl)
theorem lp_01h (g0 : decide (i > 0) = false) (g1 : decide (i > 1) = false) (g2 : decide (i > 2) = false) (h0 : decide (j > 0) = true) (h1 : decide (j > 1) = false) (Dp : Sp Tryz.prog 40 [] [qV a b c] (nV dp) []) (Dq : Sp Tryz.prog 40 [] [qV2 d e] (nV dq) []) (e1 : decide (dp ≥ 0) = true) (e2 : decide (dq ≥ 0) = true) (s : Int) (w1 : IntKind.i64.wrap (dp + dq) = s) (e3 : decide (s > 2) = true) (M : Sp Tryz.prog 74 [] [qV a b c, qV2 d e] (.tuple #[qZ, nV 2]) []) :
    Sp Tryz.prog 15 [] [.agg #[.int .i16 n1, .int .u8 d1, .int .i16 n2, .int .u8 d2, .int .i16 n3, .int .u8 d3, .int .i16 n4, .int .u8 d4, .int .i16 n5, .int .u8 d5, .int .i16 n6, .int .u8 d6], .agg #[.int .u8 k0, .int .u8 k1], coV n7 d7] (.bool true) [] := by
 have b1 : Bin .eql 67 qZ qZ (.bool true) := by
  have := binQ 0 0 0 0 0 0 (q := true) (by simp)
  rw [qV0] at this
  exact this
 exact walk (code := Tryz.f15.body.getD .skip) [Sy.c Q1, Sy.c Q2, Sy.c C, x2 B1, eb g0, x2 B1, eb g1, x2 B1, eb g2, x2 B2, eb h0, x2 B2, eb h1, Sy.c M, Sy.c Dp, Sy.c Dq, Sy.c K, L, eb e1, eb e2, Go.Sy.e (congrArg (Value.int IntKind.i64) w1), eb e3, L, x2 b1] fol Tryz.func15 (by kernel_rfl) (fun xs w => Tryz.call15 xs w) (by kernel_rfl)
theorem lp_02a (g0 : decide (i > 0) = false) (g1 : decide (i > 1) = false) (g2 : decide (i > 2) = false) (h0 : decide (j > 0) = true) (h1 : decide (j > 1) = true) (Dp : Sp Tryz.prog 40 [] [qV a b c] (nV dp) []) (Dq : Sp Tryz.prog 40 [] [qV1 d] (nV dq) []) (e1 : decide (dp ≥ 0) = false) (V W V1 W1 t1 t2 t3 t4 m0 m1 m2 x0 x1 y0 y1 z0 z1 : Rat) (H : PrOk (qV a b c) (qV1 d) r V W V1 W1 t1 t2 t3 t4 m0 m1 m2 x0 x1 y0 y1 z0 z1) :
    Sp Tryz.prog 15 [] [.agg #[.int .i16 n1, .int .u8 d1, .int .i16 n2, .int .u8 d2, .int .i16 n3, .int .u8 d3, .int .i16 n4, .int .u8 d4, .int .i16 n5, .int .u8 d5, .int .i16 n6, .int .u8 d6], .agg #[.int .u8 k0, .int .u8 k1], coV n7 d7] (.bool true) [] := by
 obtain ⟨M, Vp, Vq, DP, EP, R1, DQ, EQ, R2, R3, Ck, Em, R4, DM, Ez⟩ := H
 have b1 := same t3
 have b2 := same t4
 exact walk (code := Tryz.f15.body.getD .skip) [Sy.c Q1, Sy.c Q2, Sy.c C, x2 B1, eb g0, x2 B1, eb g1, x2 B1, eb g2, x2 B2, eb h0, x2 B2, eb h1, Sy.c M, Sy.c Dp, Sy.c Dq, Sy.c K, L, eb e1, Sy.c Vp, Sy.c Vq, Sy.c DP, Sy.c EP, Sy.c R1, Sy.c DQ, Sy.c EQ, Sy.c R2, Sy.c R3, Sy.c Ck, Sy.c Em, Sy.c R4, x2 b2, Sy.c DM, Sy.c Ez, x2 b1] fol Tryz.func15 (by kernel_rfl) (fun xs w => Tryz.call15 xs w) (by kernel_rfl)
theorem lp_02b (g0 : decide (i > 0) = false) (g1 : decide (i > 1) = false) (g2 : decide (i > 2) = false) (h0 : decide (j > 0) = true) (h1 : decide (j > 1) = true) (Dp : Sp Tryz.prog 40 [] [qV a b c] (nV dp) []) (Dq : Sp Tryz.prog 40 [] [qV1 d] (nV dq) []) (e1 : decide (dp ≥ 0) = true) (e2 : decide (dq ≥ 0) = false) (V W V1 W1 t1 t2 t3 t4 m0 m1 m2 x0 x1 y0 y1 z0 z1 : Rat) (H : PrOk (qV a b c) (qV1 d) r V W V1 W1 t1 t2 t3 t4 m0 m1 m2 x0 x1 y0 y1 z0 z1) :
    Sp Tryz.prog 15 [] [.agg #[.int .i16 n1, .int .u8 d1, .int .i16 n2, .int .u8 d2, .int .i16 n3, .int .u8 d3, .int .i16 n4, .int .u8 d4, .int .i16 n5, .int .u8 d5, .int .i16 n6, .int .u8 d6], .agg #[.int .u8 k0, .int .u8 k1], coV n7 d7] (.bool true) [] := by
 obtain ⟨M, Vp, Vq, DP, EP, R1, DQ, EQ, R2, R3, Ck, Em, R4, DM, Ez⟩ := H
 have b1 := same t3
 have b2 := same t4
 exact walk (code := Tryz.f15.body.getD .skip) [Sy.c Q1, Sy.c Q2, Sy.c C, x2 B1, eb g0, x2 B1, eb g1, x2 B1, eb g2, x2 B2, eb h0, x2 B2, eb h1, Sy.c M, Sy.c Dp, Sy.c Dq, Sy.c K, L, eb e1, eb e2, Sy.c Vp, Sy.c Vq, Sy.c DP, Sy.c EP, Sy.c R1, Sy.c DQ, Sy.c EQ, Sy.c R2, Sy.c R3, Sy.c Ck, Sy.c Em, Sy.c R4, x2 b2, Sy.c DM, Sy.c Ez, x2 b1] fol Tryz.func15 (by kernel_rfl) (fun xs w => Tryz.call15 xs w) (by kernel_rfl)
theorem lp_02c (g0 : decide (i > 0) = false) (g1 : decide (i > 1) = false) (g2 : decide (i > 2) = false) (h0 : decide (j > 0) = true) (h1 : decide (j > 1) = true) (Dp : Sp Tryz.prog 40 [] [qV a b c] (nV dp) []) (Dq : Sp Tryz.prog 40 [] [qV1 d] (nV dq) []) (e1 : decide (dp ≥ 0) = true) (e2 : decide (dq ≥ 0) = true) (s : Int) (w1 : IntKind.i64.wrap (dp + dq) = s) (e3 : decide (s > 2) = false) (V W V1 W1 t1 t2 t3 t4 m0 m1 m2 x0 x1 y0 y1 z0 z1 : Rat) (H : PrOk (qV a b c) (qV1 d) r V W V1 W1 t1 t2 t3 t4 m0 m1 m2 x0 x1 y0 y1 z0 z1) :
    Sp Tryz.prog 15 [] [.agg #[.int .i16 n1, .int .u8 d1, .int .i16 n2, .int .u8 d2, .int .i16 n3, .int .u8 d3, .int .i16 n4, .int .u8 d4, .int .i16 n5, .int .u8 d5, .int .i16 n6, .int .u8 d6], .agg #[.int .u8 k0, .int .u8 k1], coV n7 d7] (.bool true) [] := by
 obtain ⟨M, Vp, Vq, DP, EP, R1, DQ, EQ, R2, R3, Ck, Em, R4, DM, Ez⟩ := H
 have b1 := same t3
 have b2 := same t4
 exact walk (code := Tryz.f15.body.getD .skip) [Sy.c Q1, Sy.c Q2, Sy.c C, x2 B1, eb g0, x2 B1, eb g1, x2 B1, eb g2, x2 B2, eb h0, x2 B2, eb h1, Sy.c M, Sy.c Dp, Sy.c Dq, Sy.c K, L, eb e1, eb e2, Go.Sy.e (congrArg (Value.int IntKind.i64) w1), eb e3, Sy.c Vp, Sy.c Vq, Sy.c DP, Sy.c EP, Sy.c R1, Sy.c DQ, Sy.c EQ, Sy.c R2, Sy.c R3, Sy.c Ck, Sy.c Em, Sy.c R4, x2 b2, Sy.c DM, Sy.c Ez, x2 b1] fol Tryz.func15 (by kernel_rfl) (fun xs w => Tryz.call15 xs w) (by kernel_rfl)
theorem lp_02h (g0 : decide (i > 0) = false) (g1 : decide (i > 1) = false) (g2 : decide (i > 2) = false) (h0 : decide (j > 0) = true) (h1 : decide (j > 1) = true) (Dp : Sp Tryz.prog 40 [] [qV a b c] (nV dp) []) (Dq : Sp Tryz.prog 40 [] [qV1 d] (nV dq) []) (e1 : decide (dp ≥ 0) = true) (e2 : decide (dq ≥ 0) = true) (s : Int) (w1 : IntKind.i64.wrap (dp + dq) = s) (e3 : decide (s > 2) = true) (M : Sp Tryz.prog 74 [] [qV a b c, qV1 d] (.tuple #[qZ, nV 2]) []) :
    Sp Tryz.prog 15 [] [.agg #[.int .i16 n1, .int .u8 d1, .int .i16 n2, .int .u8 d2, .int .i16 n3, .int .u8 d3, .int .i16 n4, .int .u8 d4, .int .i16 n5, .int .u8 d5, .int .i16 n6, .int .u8 d6], .agg #[.int .u8 k0, .int .u8 k1], coV n7 d7] (.bool true) [] := by
 have b1 : Bin .eql 67 qZ qZ (.bool true) := by
  have := binQ 0 0 0 0 0 0 (q := true) (by simp)
  rw [qV0] at this
  exact this
 exact walk (code := Tryz.f15.body.getD .skip) [Sy.c Q1, Sy.c Q2, Sy.c C, x2 B1, eb g0, x2 B1, eb g1, x2 B1, eb g2, x2 B2, eb h0, x2 B2, eb h1, Sy.c M, Sy.c Dp, Sy.c Dq, Sy.c K, L, eb e1, eb e2, Go.Sy.e (congrArg (Value.int IntKind.i64) w1), eb e3, L, x2 b1] fol Tryz.func15 (by kernel_rfl) (fun xs w => Tryz.call15 xs w) (by kernel_rfl)
theorem lp_10a (g0 : decide (i > 0) = true) (g1 : decide (i > 1) = false) (g2 : decide (i > 2) = false) (h0 : decide (j > 0) = false) (h1 : decide (j > 1) = false) (Dp : Sp Tryz.prog 40 [] [qV2 a b] (nV dp) []) (Dq : Sp Tryz.prog 40 [] [qV d e f] (nV dq) []) (e1 : decide (dp ≥ 0) = false) (V W V1 W1 t1 t2 t3 t4 m0 m1 m2 x0 x1 y0 y1 z0 z1 : Rat) (H : PrOk (qV2 a b) (qV d e f) r V W V1 W1 t1 t2 t3 t4 m0 m1 m2 x0 x1 y0 y1 z0 z1) :
    Sp Tryz.prog 15 [] [.agg #[.int .i16 n1, .int .u8 d1, .int .i16 n2, .int .u8 d2, .int .i16 n3, .int .u8 d3, .int .i16 n4, .int .u8 d4, .int .i16 n5, .int .u8 d5, .int .i16 n6, .int .u8 d6], .agg #[.int .u8 k0, .int .u8 k1], coV n7 d7] (.bool true) [] := by
 obtain ⟨M, Vp, Vq, DP, EP, R1, DQ, EQ, R2, R3, Ck, Em, R4, DM, Ez⟩ := H
 have b1 := same t3
 have b2 := same t4
 exact walk (code := Tryz.f15.body.getD .skip) [Sy.c Q1, Sy.c Q2, Sy.c C, x2 B1, eb g0, x2 B1, eb g1, x2 B1, eb g2, x2 B2, eb h0, x2 B2, eb h1, Sy.c M, Sy.c Dp, Sy.c Dq, Sy.c K, L, eb e1, Sy.c Vp, Sy.c Vq, Sy.c DP, Sy.c EP, Sy.c R1, Sy.c DQ, Sy.c EQ, Sy.c R2, Sy.c R3, Sy.c Ck, Sy.c Em, Sy.c R4, x2 b2, Sy.c DM, Sy.c Ez, x2 b1] fol Tryz.func15 (by kernel_rfl) (fun xs w => Tryz.call15 xs w) (by kernel_rfl)
theorem lp_10b (g0 : decide (i > 0) = true) (g1 : decide (i > 1) = false) (g2 : decide (i > 2) = false) (h0 : decide (j > 0) = false) (h1 : decide (j > 1) = false) (Dp : Sp Tryz.prog 40 [] [qV2 a b] (nV dp) []) (Dq : Sp Tryz.prog 40 [] [qV d e f] (nV dq) []) (e1 : decide (dp ≥ 0) = true) (e2 : decide (dq ≥ 0) = false) (V W V1 W1 t1 t2 t3 t4 m0 m1 m2 x0 x1 y0 y1 z0 z1 : Rat) (H : PrOk (qV2 a b) (qV d e f) r V W V1 W1 t1 t2 t3 t4 m0 m1 m2 x0 x1 y0 y1 z0 z1) :
    Sp Tryz.prog 15 [] [.agg #[.int .i16 n1, .int .u8 d1, .int .i16 n2, .int .u8 d2, .int .i16 n3, .int .u8 d3, .int .i16 n4, .int .u8 d4, .int .i16 n5, .int .u8 d5, .int .i16 n6, .int .u8 d6], .agg #[.int .u8 k0, .int .u8 k1], coV n7 d7] (.bool true) [] := by
 obtain ⟨M, Vp, Vq, DP, EP, R1, DQ, EQ, R2, R3, Ck, Em, R4, DM, Ez⟩ := H
 have b1 := same t3
 have b2 := same t4
 exact walk (code := Tryz.f15.body.getD .skip) [Sy.c Q1, Sy.c Q2, Sy.c C, x2 B1, eb g0, x2 B1, eb g1, x2 B1, eb g2, x2 B2, eb h0, x2 B2, eb h1, Sy.c M, Sy.c Dp, Sy.c Dq, Sy.c K, L, eb e1, eb e2, Sy.c Vp, Sy.c Vq, Sy.c DP, Sy.c EP, Sy.c R1, Sy.c DQ, Sy.c EQ, Sy.c R2, Sy.c R3, Sy.c Ck, Sy.c Em, Sy.c R4, x2 b2, Sy.c DM, Sy.c Ez, x2 b1] fol Tryz.func15 (by kernel_rfl) (fun xs w => Tryz.call15 xs w) (by kernel_rfl)
theorem lp_10c (g0 : decide (i > 0) = true) (g1 : decide (i > 1) = false) (g2 : decide (i > 2) = false) (h0 : decide (j > 0) = false) (h1 : decide (j > 1) = false) (Dp : Sp Tryz.prog 40 [] [qV2 a b] (nV dp) []) (Dq : Sp Tryz.prog 40 [] [qV d e f] (nV dq) []) (e1 : decide (dp ≥ 0) = true) (e2 : decide (dq ≥ 0) = true) (s : Int) (w1 : IntKind.i64.wrap (dp + dq) = s) (e3 : decide (s > 2) = false) (V W V1 W1 t1 t2 t3 t4 m0 m1 m2 x0 x1 y0 y1 z0 z1 : Rat) (H : PrOk (qV2 a b) (qV d e f) r V W V1 W1 t1 t2 t3 t4 m0 m1 m2 x0 x1 y0 y1 z0 z1) :
    Sp Tryz.prog 15 [] [.agg #[.int .i16 n1, .int .u8 d1, .int .i16 n2, .int .u8 d2, .int .i16 n3, .int .u8 d3, .int .i16 n4, .int .u8 d4, .int .i16 n5, .int .u8 d5, .int .i16 n6, .int .u8 d6], .agg #[.int .u8 k0, .int .u8 k1], coV n7 d7] (.bool true) [] := by
 obtain ⟨M, Vp, Vq, DP, EP, R1, DQ, EQ, R2, R3, Ck, Em, R4, DM, Ez⟩ := H
 have b1 := same t3
 have b2 := same t4
 exact walk (code := Tryz.f15.body.getD .skip) [Sy.c Q1, Sy.c Q2, Sy.c C, x2 B1, eb g0, x2 B1, eb g1, x2 B1, eb g2, x2 B2, eb h0, x2 B2, eb h1, Sy.c M, Sy.c Dp, Sy.c Dq, Sy.c K, L, eb e1, eb e2, Go.Sy.e (congrArg (Value.int IntKind.i64) w1), eb e3, Sy.c Vp, Sy.c Vq, Sy.c DP, Sy.c EP, Sy.c R1, Sy.c DQ, Sy.c EQ, Sy.c R2, Sy.c R3, Sy.c Ck, Sy.c Em, Sy.c R4, x2 b2, Sy.c DM, Sy.c Ez, x2 b1] fol Tryz.func15 (by kernel_rfl) (fun xs w => Tryz.call15 xs w) (by kernel_rfl)
theorem lp_10h (g0 : decide (i > 0) = true) (g1 : decide (i > 1) = false) (g2 : decide (i > 2) = false) (h0 : decide (j > 0) = false) (h1 : decide (j > 1) = false) (Dp : Sp Tryz.prog 40 [] [qV2 a b] (nV dp) []) (Dq : Sp Tryz.prog 40 [] [qV d e f] (nV dq) []) (e1 : decide (dp ≥ 0) = true) (e2 : decide (dq ≥ 0) = true) (s : Int) (w1 : IntKind.i64.wrap (dp + dq) = s) (e3 : decide (s > 2) = true) (M : Sp Tryz.prog 74 [] [qV2 a b, qV d e f] (.tuple #[qZ, nV 2]) []) :
    Sp Tryz.prog 15 [] [.agg #[.int .i16 n1, .int .u8 d1, .int .i16 n2, .int .u8 d2, .int .i16 n3, .int .u8 d3, .int .i16 n4, .int .u8 d4, .int .i16 n5, .int .u8 d5, .int .i16 n6, .int .u8 d6], .agg #[.int .u8 k0, .int .u8 k1], coV n7 d7] (.bool true) [] := by
 have b1 : Bin .eql 67 qZ qZ (.bool true) := by
  have := binQ 0 0 0 0 0 0 (q := true) (by simp)
  rw [qV0] at this
  exact this
 exact walk (code := Tryz.f15.body.getD .skip) [Sy.c Q1, Sy.c Q2, Sy.c C, x2 B1, eb g0, x2 B1, eb g1, x2 B1, eb g2, x2 B2, eb h0, x2 B2, eb h1, Sy.c M, Sy.c Dp, Sy.c Dq, Sy.c K, L, eb e1, eb e2, Go.Sy.e (congrArg (Value.int IntKind.i64) w1), eb e3, L, x2 b1] fol Tryz.func15 (by kernel_rfl) (fun xs w => Tryz.call15 xs w) (by kernel_rfl)
theorem lp_11a (g0 : decide (i > 0) = true) (g1 : decide (i > 1) = false) (g2 : decide (i > 2) = false) (h0 : decide (j > 0) = true) (h1 : decide (j > 1) = false) (Dp : Sp Tryz.prog 40 [] [qV2 a b] (nV dp) []) (Dq : Sp Tryz.prog 40 [] [qV2 d e] (nV dq) []) (e1 : decide (dp ≥ 0) = false) (V W V1 W1 t1 t2 t3 t4 m0 m1 m2 x0 x1 y0 y1 z0 z1 : Rat) (H : PrOk (qV2 a b) (qV2 d e) r V W V1 W1 t1 t2 t3 t4 m0 m1 m2 x0 x1 y0 y1 z0 z1) :
    Sp Tryz.prog 15 [] [.agg #[.int .i16 n1, .int .u8 d1, .int .i16 n2, .int .u8 d2, .int .i16 n3, .int .u8 d3, .int .i16 n4, .int .u8 d4, .int .i16 n5, .int .u8 d5, .int .i16 n6, .int .u8 d6], .agg #[.int .u8 k0, .int .u8 k1], coV n7 d7] (.bool true) [] := by
 obtain ⟨M, Vp, Vq, DP, EP, R1, DQ, EQ, R2, R3, Ck, Em, R4, DM, Ez⟩ := H
 have b1 := same t3
 have b2 := same t4
 exact walk (code := Tryz.f15.body.getD .skip) [Sy.c Q1, Sy.c Q2, Sy.c C, x2 B1, eb g0, x2 B1, eb g1, x2 B1, eb g2, x2 B2, eb h0, x2 B2, eb h1, Sy.c M, Sy.c Dp, Sy.c Dq, Sy.c K, L, eb e1, Sy.c Vp, Sy.c Vq, Sy.c DP, Sy.c EP, Sy.c R1, Sy.c DQ, Sy.c EQ, Sy.c R2, Sy.c R3, Sy.c Ck, Sy.c Em, Sy.c R4, x2 b2, Sy.c DM, Sy.c Ez, x2 b1] fol Tryz.func15 (by kernel_rfl) (fun xs w => Tryz.call15 xs w) (by kernel_rfl)
theorem lp_11b (g0 : decide (i > 0) = true) (g1 : decide (i > 1) = false) (g2 : decide (i > 2) = false) (h0 : decide (j > 0) = true) (h1 : decide (j > 1) = false) (Dp : Sp Tryz.prog 40 [] [qV2 a b] (nV dp) []) (Dq : Sp Tryz.prog 40 [] [qV2 d e] (nV dq) []) (e1 : decide (dp ≥ 0) = true) (e2 : decide (dq ≥ 0) = false) (V W V1 W1 t1 t2 t3 t4 m0 m1 m2 x0 x1 y0 y1 z0 z1 : Rat) (H : PrOk (qV2 a b) (qV2 d e) r V W V1 W1 t1 t2 t3 t4 m0 m1 m2 x0 x1 y0 y1 z0 z1) :
    Sp Tryz.prog 15 [] [.agg #[.int .i16 n1, .int .u8 d1, .int .i16 n2, .int .u8 d2, .int .i16 n3, .int .u8 d3, .int .i16 n4, .int .u8 d4, .int .i16 n5, .int .u8 d5, .int .i16 n6, .int .u8 d6], .agg #[.int .u8 k0, .int .u8 k1], coV n7 d7] (.bool true) [] := by
 obtain ⟨M, Vp, Vq, DP, EP, R1, DQ, EQ, R2, R3, Ck, Em, R4, DM, Ez⟩ := H
 have b1 := same t3
 have b2 := same t4
 exact walk (code := Tryz.f15.body.getD .skip) [Sy.c Q1, Sy.c Q2, Sy.c C, x2 B1, eb g0, x2 B1, eb g1, x2 B1, eb g2, x2 B2, eb h0, x2 B2, eb h1, Sy.c M, Sy.c Dp, Sy.c Dq, Sy.c K, L, eb e1, eb e2, Sy.c Vp, Sy.c Vq, Sy.c DP, Sy.c EP, Sy.c R1, Sy.c DQ, Sy.c EQ, Sy.c R2, Sy.c R3, Sy.c Ck, Sy.c Em, Sy.c R4, x2 b2, Sy.c DM, Sy.c Ez, x2 b1] fol Tryz.func15 (by kernel_rfl) (fun xs w => Tryz.call15 xs w) (by kernel_rfl)
theorem lp_11c (g0 : decide (i > 0) = true) (g1 : decide (i > 1) = false) (g2 : decide (i > 2) = false) (h0 : decide (j > 0) = true) (h1 : decide (j > 1) = false) (Dp : Sp Tryz.prog 40 [] [qV2 a b] (nV dp) []) (Dq : Sp Tryz.prog 40 [] [qV2 d e] (nV dq) []) (e1 : decide (dp ≥ 0) = true) (e2 : decide (dq ≥ 0) = true) (s : Int) (w1 : IntKind.i64.wrap (dp + dq) = s) (e3 : decide (s > 2) = false) (V W V1 W1 t1 t2 t3 t4 m0 m1 m2 x0 x1 y0 y1 z0 z1 : Rat) (H : PrOk (qV2 a b) (qV2 d e) r V W V1 W1 t1 t2 t3 t4 m0 m1 m2 x0 x1 y0 y1 z0 z1) :
    Sp Tryz.prog 15 [] [.agg #[.int .i16 n1, .int .u8 d1, .int .i16 n2, .int .u8 d2, .int .i16 n3, .int .u8 d3, .int .i16 n4, .int .u8 d4, .int .i16 n5, .int .u8 d5, .int .i16 n6, .int .u8 d6], .agg #[.int .u8 k0, .int .u8 k1], coV n7 d7] (.bool true) [] := by
 obtain ⟨M, Vp, Vq, DP, EP, R1, DQ, EQ, R2, R3, Ck, Em, R4, DM, Ez⟩ := H
 have b1 := same t3
 have b2 := same t4
 exact walk (code := Tryz.f15.body.getD .skip) [Sy.c Q1, Sy.c Q2, Sy.c C, x2 B1, eb g0, x2 B1, eb g1, x2 B1, eb g2, x2 B2, eb h0, x2 B2, eb h1, Sy.c M, Sy.c Dp, Sy.c Dq, Sy.c K, L, eb e1, eb e2, Go.Sy.e (congrArg (Value.int IntKind.i64) w1), eb e3, Sy.c Vp, Sy.c Vq, Sy.c DP, Sy.c EP, Sy.c R1, Sy.c DQ, Sy.c EQ, Sy.c R2, Sy.c R3, Sy.c Ck, Sy.c Em, Sy.c R4, x2 b2, Sy.c DM, Sy.c Ez, x2 b1] fol Tryz.func15 (by kernel_rfl) (fun xs w => Tryz.call15 xs w) (by kernel_rfl)
theorem lp_11h (g0 : decide (i > 0) = true) (g1 : decide (i > 1) = false) (g2 : decide (i > 2) = false) (h0 : decide (j > 0) = true) (h1 : decide (j > 1) = false) (Dp : Sp Tryz.prog 40 [] [qV2 a b] (nV dp) []) (Dq : Sp Tryz.prog 40 [] [qV2 d e] (nV dq) []) (e1 : decide (dp ≥ 0) = true) (e2 : decide (dq ≥ 0) = true) (s : Int) (w1 : IntKind.i64.wrap (dp + dq) = s) (e3 : decide (s > 2) = true) (M : Sp Tryz.prog 74 [] [qV2 a b, qV2 d e] (.tuple #[qZ, nV 2]) []) :
    Sp Tryz.prog 15 [] [.agg #[.int .i16 n1, .int .u8 d1, .int .i16 n2, .int .u8 d2, .int .i16 n3, .int .u8 d3, .int .i16 n4, .int .u8 d4, .int .i16 n5, .int .u8 d5, .int .i16 n6, .int .u8 d6], .agg #[.int .u8 k0, .int .u8 k1], coV n7 d7] (.bool true) [] := by
 have b1 : Bin .eql 67 qZ qZ (.bool true) := by
  have := binQ 0 0 0 0 0 0 (q := true) (by simp)
  rw [qV0] at this
  exact this
 exact walk (code := Tryz.f15.body.getD .skip) [Sy.c Q1, Sy.c Q2, Sy.c C, x2 B1, eb g0, x2 B1, eb g1, x2 B1, eb g2, x2 B2, eb h0, x2 B2, eb h1, Sy.c M, Sy.c Dp, Sy.c Dq, Sy.c K, L, eb e1, eb e2, Go.Sy.e (congrArg (Value.int IntKind.i64) w1), eb e3, L, x2 b1] fol Tryz.func15 (by kernel_rfl) (fun xs w => Tryz.call15 xs w) (by kernel_rfl)
theorem lp_12a (g0 : decide (i > 0) = true) (g1 : decide (i > 1) = false) (g2 : decide (i > 2) = false) (h0 : decide (j > 0) = true) (h1 : decide (j > 1) = true) (Dp : Sp Tryz.prog 40 [] [qV2 a b] (nV dp) []) (Dq : Sp Tryz.prog 40 [] [qV1 d] (nV dq) []) (e1 : decide (dp ≥ 0) = false) (V W V1 W1 t1 t2 t3 t4 m0 m1 m2 x0 x1 y0 y1 z0 z1 : Rat) (H : PrOk (qV2 a b) (qV1 d) r V W V1 W1 t1 t2 t3 t4 m0 m1 m2 x0 x1 y0 y1 z0 z1) :
    Sp Tryz.prog 15 [] [.agg #[.int .i16 n1, .int .u8 d1, .int .i16 n2, .int .u8 d2, .int .i16 n3, .int .u8 d3, .int .i16 n4, .int .u8 d4, .int .i16 n5, .int .u8 d5, .int .i16 n6, .int .u8 d6], .agg #[.int .u8 k0, .int .u8 k1], coV n7 d7] (.bool true) [] := by
 obtain ⟨M, Vp, Vq, DP, EP, R1, DQ, EQ, R2, R3, Ck, Em, R4, DM, Ez⟩ := H
 have b1 := same t3
 have b2 := same t4
 exact walk (code := Tryz.f15.body.getD .skip) [Sy.c Q1, Sy.c Q2, Sy.c C, x2 B1, eb g0, x2 B1, eb g1, x2 B1, eb g2, x2 B2, eb h0, x2 B2, eb h1, Sy.c M, Sy.c Dp, Sy.c Dq, Sy.c K, L, eb e1, Sy.c Vp, Sy.c Vq, Sy.c DP, Sy.c EP, Sy.c R1, Sy.c DQ, Sy.c EQ, Sy.c R2, Sy.c R3, Sy.c Ck, Sy.c Em, Sy.c R4, x2 b2, Sy.c DM, Sy.c Ez, x2 b1] fol Tryz.func15 (by kernel_rfl) (fun xs w => Tryz.call15 xs w) (by kernel_rfl)
theorem lp_12b (g0 : decide (i > 0) = true) (g1 : decide (i > 1) = false) (g2 : decide (i > 2) = false) (h0 : decide (j > 0) = true) (h1 : decide (j > 1) = true) (Dp : Sp Tryz.prog 40 [] [qV2 a b] (nV dp) []) (Dq : Sp Tryz.prog 40 [] [qV1 d] (nV dq) []) (e1 : decide (dp ≥ 0) = true) (e2 : decide (dq ≥ 0) = false) (V W V1 W1 t1 t2 t3 t4 m0 m1 m2 x0 x1 y0 y1 z0 z1 : Rat) (H : PrOk (qV2 a b) (qV1 d) r V W V1 W1 t1 t2 t3 t4 m0 m1 m2 x0 x1 y0 y1 z0 z1) :
    Sp Tryz.prog 15 [] [.agg #[.int .i16 n1, .int .u8 d1, .int .i16 n2, .int .u8 d2, .int .i16 n3, .int .u8 d3, .int .i16 n4, .int .u8 d4, .int .i16 n5, .int .u8 d5, .int .i16 n6, .int .u8 d6], .agg #[.int .u8 k0, .int .u8 k1], coV n7 d7] (.bool true) [] := by
 obtain ⟨M, Vp, Vq, DP, EP, R1, DQ, EQ, R2, R3, Ck, Em, R4, DM, Ez⟩ := H
 have b1 := same t3
 have b2 := same t4
 exact walk (code := Tryz.f15.body.getD .skip) [Sy.c Q1, Sy.c Q2, Sy.c C, x2 B1, eb g0, x2 B1, eb g1, x2 B1, eb g2, x2 B2, eb h0, x2 B2, eb h1, Sy.c M, Sy.c Dp, Sy.c Dq, Sy.c K, L, eb e1, eb e2, Sy.c Vp, Sy.c Vq, Sy.c DP, Sy.c EP, Sy.c R1, Sy.c DQ, Sy.c EQ, Sy.c R2, Sy.c R3, Sy.c Ck, Sy.c Em, Sy.c R4, x2 b2, Sy.c DM, Sy.c Ez, x2 b1] fol Tryz.func15 (by kernel_rfl) (fun xs w => Tryz.call15 xs w) (by kernel_rfl)
theorem lp_12c (g0 : decide (i > 0) = true) (g1 : decide (i > 1) = false) (g2 : decide (i > 2) = false) (h0 : decide (j > 0) = true) (h1 : decide (j > 1) = true) (Dp : Sp Tryz.prog 40 [] [qV2 a b] (nV dp) []) (Dq : Sp Tryz.prog 40 [] [qV1 d] (nV dq) []) (e1 : decide (dp ≥ 0) = true) (e2 : decide (dq ≥ 0) = true) (s : Int) (w1 : IntKind.i64.wrap (dp + dq) = s) (e3 : decide (s > 2) = false) (V W V1 W1 t1 t2 t3 t4 m0 m1 m2 x0 x1 y0 y1 z0 z1 : Rat) (H : PrOk (qV2 a b) (qV1 d) r V W V1 W1 t1 t2 t3 t4 m0 m1 m2 x0 x1 y0 y1 z0 z1) :
    Sp Tryz.prog 15 [] [.agg #[.int .i16 n1, .int .u8 d1, .int .i16 n2, .int .u8 d2, .int .i16 n3, .int .u8 d3, .int .i16 n4, .int .u8 d4, .int .i16 n5, .int .u8 d5, .int .i16 n6, .int .u8 d6], .agg #[.int .u8 k0, .int .u8 k1], coV n7 d7] (.bool true) [] := by
 obtain ⟨M, Vp, Vq, DP, EP, R1, DQ, EQ, R2, R3, Ck, Em, R4, DM, Ez⟩ := H
 have b1 := same t3
 have b2 := same t4
 exact walk (code := Tryz.f15.body.getD .skip) [Sy.c Q1, Sy.c Q2, Sy.c C, x2 B1, eb g0, x2 B1, eb g1, x2 B1, eb g2, x2 B2, eb h0, x2 B2, eb h1, Sy.c M, Sy.c Dp, Sy.c Dq, Sy.c K, L, eb e1, eb e2, Go.Sy.e (congrArg (Value.int IntKind.i64) w1), eb e3, Sy.c Vp, Sy.c Vq, Sy.c DP, Sy.c EP, Sy.c R1, Sy.c DQ, Sy.c EQ, Sy.c R2, Sy.c R3, Sy.c Ck, Sy.c Em, Sy.c R4, x2 b2, Sy.c DM, Sy.c Ez, x2 b1] fol Tryz.func15 (by kernel_rfl) (fun xs w => Tryz.call15 xs w) (by kernel_rfl)
theorem lp_12h (g0 : decide (i > 0) = true) (g1 : decide (i > 1) = false) (g2 : decide (i > 2) = false) (h0 : decide (j > 0) = true) (h1 : decide (j > 1) = true) (Dp : Sp Tryz.prog 40 [] [qV2 a b] (nV dp) []) (Dq : Sp Tryz.prog 40 [] [qV1 d] (nV dq) []) (e1 : decide (dp ≥ 0) = true) (e2 : decide (dq ≥ 0) = true) (s : Int) (w1 : IntKind.i64.wrap (dp + dq) = s) (e3 : decide (s > 2) = true) (M : Sp Tryz.prog 74 [] [qV2 a b, qV1 d] (.tuple #[qZ, nV 2]) []) :
    Sp Tryz.prog 15 [] [.agg #[.int .i16 n1, .int .u8 d1, .int .i16 n2, .int .u8 d2, .int .i16 n3, .int .u8 d3, .int .i16 n4, .int .u8 d4, .int .i16 n5, .int .u8 d5, .int .i16 n6, .int .u8 d6], .agg #[.int .u8 k0, .int .u8 k1], coV n7 d7] (.bool true) [] := by
 have b1 : Bin .eql 67 qZ qZ (.bool true) := by
  have := binQ 0 0 0 0 0 0 (q := true) (by simp)
  rw [qV0] at this
  exact this
 exact walk (code := Tryz.f15.body.getD .skip) [Sy.c Q1, Sy.c Q2, Sy.c C, x2 B1, eb g0, x2 B1, eb g1, x2 B1, eb g2, x2 B2, eb h0, x2 B2, eb h1, Sy.c M, Sy.c Dp, Sy.c Dq, Sy.c K, L, eb e1, eb e2, Go.Sy.e (congrArg (Value.int IntKind.i64) w1), eb e3, L, x2 b1] fol Tryz.func15 (by kernel_rfl) (fun xs w => Tryz.call15 xs w) (by kernel_rfl)
theorem lp_20a (g0 : decide (i > 0) = true) (g1 : decide (i > 1) = true) (g2 : decide (i > 2) = false) (h0 : decide (j > 0) = false) (h1 : decide (j > 1) = false) (Dp : Sp Tryz.prog 40 [] [qV1 a] (nV dp) []) (Dq : Sp Tryz.prog 40 [] [qV d e f] (nV dq) []) (e1 : decide (dp ≥ 0) = false) (V W V1 W1 t1 t2 t3 t4 m0 m1 m2 x0 x1 y0 y1 z0 z1 : Rat) (H : PrOk (qV1 a) (qV d e f) r V W V1 W1 t1 t2 t3 t4 m0 m1 m2 x0 x1 y0 y1 z0 z1) :
    Sp Tryz.prog 15 [] [.agg #[.int .i16 n1, .int .u8 d1, .int .i16 n2, .int .u8 d2, .int .i16 n3, .int .u8 d3, .int .i16 n4, .int .u8 d4, .int .i16 n5, .int .u8 d5, .int .i16 n6, .int .u8 d6], .agg #[.int .u8 k0, .int .u8 k1], coV n7 d7] (.bool true) [] := by
 obtain ⟨M, Vp, Vq, DP, EP, R1, DQ, EQ, R2, R3, Ck, Em, R4, DM, Ez⟩ := H
 have b1 := same t3
 have b2 := same t4
 exact walk (code := Tryz.f15.body.getD .skip) [Sy.c Q1, Sy.c Q2, Sy.c C, x2 B1, eb g0, x2 B1, eb g1, x2 B1, eb g2, x2 B2, eb h0, x2 B2, eb h1, Sy.c M, Sy.c Dp, Sy.c Dq, Sy.c K, L, eb e1, Sy.c Vp, Sy.c Vq, Sy.c DP, Sy.c EP, Sy.c R1, Sy.c DQ, Sy.c EQ, Sy.c R2, Sy.c R3, Sy.c Ck, Sy.c Em, Sy.c R4, x2 b2, Sy.c DM, Sy.c Ez, x2 b1] fol Tryz.func15 (by kernel_rfl) (fun xs w => Tryz.call15 xs w) (by kernel_rfl)
theorem lp_20b (g0 : decide (i > 0) = true) (g1 : decide (i > 1) = true) (g2 : decide (i > 2) = false) (h0 : decide (j > 0) = false) (h1 : decide (j > 1) = false) (Dp : Sp Tryz.prog 40 [] [qV1 a] (nV dp) []) (Dq : Sp Tryz.prog 40 [] [qV d e f] (nV dq) []) (e1 : decide (dp ≥ 0) = true) (e2 : decide (dq ≥ 0) = false) (V W V1 W1 t1 t2 t3 t4 m0 m1 m2 x0 x1 y0 y1 z0 z1 : Rat) (H : PrOk (qV1 a) (qV d e f) r V W V1 W1 t1 t2 t3 t4 m0 m1 m2 x0 x1 y0 y1 z0 z1) :
    Sp Tryz.prog 15 [] [.agg #[.int .i16 n1, .int .u8 d1, .int .i16 n2, .int .u8 d2, .int .i16 n3, .int .u8 d3, .int .i16 n4, .int .u8 d4, .int .i16 n5, .int .u8 d5, .int .i16 n6, .int .u8 d6], .agg #[.int .u8 k0, .int .u8 k1], coV n7 d7] (.bool true) [] := by
 obtain ⟨M, Vp, Vq, DP, EP, R1, DQ, EQ, R2, R3, Ck, Em, R4, DM, Ez⟩ := H
 have b1 := same t3
 have b2 := same t4
 exact walk (code := Tryz.f15.body.getD .skip) [Sy.c Q1, Sy.c Q2, Sy.c C, x2 B1, eb g0, x2 B1, eb g1, x2 B1, eb g2, x2 B2, eb h0, x2 B2, eb h1, Sy.c M, Sy.c Dp, Sy.c Dq, Sy.c K, L, eb e1, eb e2, Sy.c Vp, Sy.c Vq, Sy.c DP, Sy.c EP, Sy.c R1, Sy.c DQ, Sy.c EQ, Sy.c R2, Sy.c R3, Sy.c Ck, Sy.c Em, Sy.c R4, x2 b2, Sy.c DM, Sy.c Ez, x2 b1] fol Tryz.func15 (by kernel_rfl) (fun xs w => Tryz.call15 xs w) (by kernel_rfl)
theorem lp_20c (g0 : decide (i > 0) = true) (g1 : decide (i > 1) = true) (g2 : decide (i > 2) = false) (h0 : decide (j > 0) = false) (h1 : decide (j > 1) = false) (Dp : Sp Tryz.prog 40 [] [qV1 a] (nV dp) []) (Dq : Sp Tryz.prog 40 [] [qV d e f] (nV dq) []) (e1 : decide (dp ≥ 0) = true) (e2 : decide (dq ≥ 0) = true) (s : Int) (w1 : IntKind.i64.wrap (dp + dq) = s) (e3 : decide (s > 2) = false) (V W V1 W1 t1 t2 t3 t4 m0 m1 m2 x0 x1 y0 y1 z0 z1 : Rat) (H : PrOk (qV1 a) (qV d e f) r V W V1 W1 t1 t2 t3 t4 m0 m1 m2 x0 x1 y0 y1 z0 z1) :
    Sp Tryz.prog 15 [] [.agg #[.int .i16 n1, .int .u8 d1, .int .i16 n2, .int .u8 d2, .int .i16 n3, .int .u8 d3, .int .i16 n4, .int .u8 d4, .int .i16 n5, .int .u8 d5, .int .i16 n6, .int .u8 d6], .agg #[.int .u8 k0, .int .u8 k1], coV n7 d7] (.bool true) [] := by
 obtain ⟨M, Vp, Vq, DP, EP, R1, DQ, EQ, R2, R3, Ck, Em, R4, DM, Ez⟩ := H
 have b1 := same t3
 have b2 := same t4
 exact walk (code := Tryz.f15.body.getD .skip) [Sy.c Q1, Sy.c Q2, Sy.c C, x2 B1, eb g0, x2 B1, eb g1, x2 B1, eb g2, x2 B2, eb h0, x2 B2, eb h1, Sy.c M, Sy.c Dp, Sy.c Dq, Sy.c K, L, eb e1, eb e2, Go.Sy.e (congrArg (Value.int IntKind.i64) w1), eb e3, Sy.c Vp, Sy.c Vq, Sy.c DP, Sy.c EP, Sy.c R1, Sy.c DQ, Sy.c EQ, Sy.c R2, Sy.c R3, Sy.c Ck, Sy.c Em, Sy.c R4, x2 b2, Sy.c DM, Sy.c Ez, x2 b1] fol Tryz.func15 (by kernel_rfl) (fun xs w => Tryz.call15 xs w) (by kernel_rfl)
theorem lp_20h (g0 : decide (i > 0) = true) (g1 : decide (i > 1) = true) (g2 : decide (i > 2) = false) (h0 : decide (j > 0) = false) (h1 : decide (j > 1) = false) (Dp : Sp Tryz.prog 40 [] [qV1 a] (nV dp) []) (Dq : Sp Tryz.prog 40 [] [qV d e f] (nV dq) []) (e1 : decide (dp ≥ 0) = true) (e2 : decide (dq ≥ 0) = true) (s : Int) (w1 : IntKind.i64.wrap (dp + dq) = s) (e3 : decide (s > 2) = true) (M : Sp Tryz.prog 74 [] [qV1 a, qV d e f] (.tuple #[qZ, nV 2]) []) :
    Sp Tryz.prog 15 [] [.agg #[.int .i16 n1, .int .u8 d1, .int .i16 n2, .int .u8 d2, .int .i16 n3, .int .u8 d3, .int .i16 n4, .int .u8 d4, .int .i16 n5, .int .u8 d5, .int .i16 n6, .int .u8 d6], .agg #[.int .u8 k0, .int .u8 k1], coV n7 d7] (.bool true) [] := by
 have b1 : Bin .eql 67 qZ qZ (.bool true) := by
  have := binQ 0 0 0 0 0 0 (q := true) (by simp)
  rw [qV0] at this
  exact this
 exact walk (code := Tryz.f15.body.getD .skip) [Sy.c Q1, Sy.c Q2, Sy.c C, x2 B1, eb g0, x2 B1, eb g1, x2 B1, eb g2, x2 B2, eb h0, x2 B2, eb h1, Sy.c M, Sy.c Dp, Sy.c Dq, Sy.c K, L, eb e1, eb e2, Go.Sy.e (congrArg (Value.int IntKind.i64) w1), eb e3, L, x2 b1] fol Tryz.func15 (by kernel_rfl) (fun xs w => Tryz.call15 xs w) (by kernel_rfl)
theorem lp_21a (g0 : decide (i > 0) = true) (g1 : decide (i > 1) = true) (g2 : decide (i > 2) = false) (h0 : decide (j > 0) = true) (h1 : decide (j > 1) = false) (Dp : Sp Tryz.prog 40 [] [qV1 a] (nV dp) []) (Dq : Sp Tryz.prog 40 [] [qV2 d e] (nV dq) []) (e1 : decide (dp ≥ 0) = false) (V W V1 W1 t1 t2 t3 t4 m0 m1 m2 x0 x1 y0 y1 z0 z1 : Rat) (H : PrOk (qV1 a) (qV2 d e) r V W V1 W1 t1 t2 t3 t4 m0 m1 m2 x0 x1 y0 y1 z0 z1) :
    Sp Tryz.prog 15 [] [.agg #[.int .i16 n1, .int .u8 d1, .int .i16 n2, .int .u8 d2, .int .i16 n3, .int .u8 d3, .int .i16 n4, .int .u8 d4, .int .i16 n5, .int .u8 d5, .int .i16 n6, .int .u8 d6], .agg #[.int .u8 k0, .int .u8 k1], coV n7 d7] (.bool true) [] := by
 obtain ⟨M, Vp, Vq, DP, EP, R1, DQ, EQ, R2, R3, Ck, Em, R4, DM, Ez⟩ := H
 have b1 := same t3
 have b2 := same t4
 exact walk (code := Tryz.f15.body.getD .skip) [Sy.c Q1, Sy.c Q2, Sy.c C, x2 B1, eb g0, x2 B1, eb g1, x2 B1, eb g2, x2 B2, eb h0, x2 B2, eb h1, Sy.c M, Sy.c Dp, Sy.c Dq, Sy.c K, L, eb e1, Sy.c Vp, Sy.c Vq, Sy.c DP, Sy.c EP, Sy.c R1, Sy.c DQ, Sy.c EQ, Sy.c R2, Sy.c R3, Sy.c Ck, Sy.c Em, Sy.c R4, x2 b2, Sy.c DM, Sy.c Ez, x2 b1] fol Tryz.func15 (by kernel_rfl) (fun xs w => Tryz.call15 xs w) (by kernel_rfl)
theorem lp_21b (g0 : decide (i > 0) = true) (g1 : decide (i > 1) = true) (g2 : decide (i > 2) = false) (h0 : decide (j > 0) = true) (h1 : decide (j > 1) = false) (Dp : Sp Tryz.prog 40 [] [qV1 a] (nV dp) []) (Dq : Sp Tryz.prog 40 [] [qV2 d e] (nV dq) []) (e1 : decide (dp ≥ 0) = true) (e2 : decide (dq ≥ 0) = false) (V W V1 W1 t1 t2 t3 t4 m0 m1 m2 x0 x1 y0 y1 z0 z1 : Rat) (H : PrOk (qV1 a) (qV2 d e) r V W V1 W1 t1 t2 t3 t4 m0 m1 m2 x0 x1 y0 y1 z0 z1) :
    Sp Tryz.prog 15 [] [.agg #[.int .i16 n1, .int .u8 d1, .int .i16 n2, .int .u8 d2, .int .i16 n3, .int .u8 d3, .int .i16 n4, .int .u8 d4, .int .i16 n5, .int .u8 d5, .int .i16 n6, .int .u8 d6], .agg #[.int .u8 k0, .int .u8 k1], coV n7 d7] (.bool true) [] := by
 obtain ⟨M, Vp, Vq, DP, EP, R1, DQ, EQ, R2, R3, Ck, Em, R4, DM, Ez⟩ := H
 have b1 := same t3
 have b2 := same t4
 exact walk (code := Tryz.f15.body.getD .skip) [Sy.c Q1, Sy.c Q2, Sy.c C, x2 B1, eb g0, x2 B1, eb g1, x2 B1, eb g2, x2 B2, eb h0, x2 B2, eb h1, Sy.c M, Sy.c Dp, Sy.c Dq, Sy.c K, L, eb e1, eb e2, Sy.c Vp, Sy.c Vq, Sy.c DP, Sy.c EP, Sy.c R1, Sy.c DQ, Sy.c EQ, Sy.c R2, Sy.c R3, Sy.c Ck, Sy.c Em, Sy.c R4, x2 b2, Sy.c DM, Sy.c Ez, x2 b1] fol Tryz.func15 (by kernel_rfl) (fun xs w => Tryz.call15 xs w) (by kernel_rfl)
theorem lp_21c (g0 : decide (i > 0) = true) (g1 : decide (i > 1) = true) (g2 : decide (i > 2) = false) (h0 : decide (j > 0) = true) (h1 : decide (j > 1) = false) (Dp : Sp Tryz.prog 40 [] [qV1 a] (nV dp) []) (Dq : Sp Tryz.prog 40 [] [qV2 d e] (nV dq) []) (e1 : decide (dp ≥ 0) = true) (e2 : decide (dq ≥ 0) = true) (s : Int) (w1 : IntKind.i64.wrap (dp + dq) = s) (e3 : decide (s > 2) = false) (V W V1 W1 t1 t2 t3 t4 m0 m1 m2 x0 x1 y0 y1 z0 z1 : Rat) (H : PrOk (qV1 a) (qV2 d e) r V W V1 W1 t1 t2 t3 t4 m0 m1 m2 x0 x1 y0 y1 z0 z1) :
    Sp Tryz.prog 15 [] [.agg #[.int .i16 n1, .int .u8 d1, .int .i16 n2, .int .u8 d2, .int .i16 n3, .int .u8 d3, .int .i16 n4, .int .u8 d4, .int .i16 n5, .int .u8 d5, .int .i16 n6, .int .u8 d6], .agg #[.int .u8 k0, .int .u8 k1], coV n7 d7] (.bool true) [] := by
 obtain ⟨M, Vp, Vq, DP, EP, R1, DQ, EQ, R2, R3, Ck, Em, R4, DM, Ez⟩ := H
 have b1 := same t3
 have b2 := same t4
 exact walk (code := Tryz.f15.body.getD .skip) [Sy.c Q1, Sy.c Q2, Sy.c C, x2 B1, eb g0, x2 B1, eb g1, x2 B1, eb g2, x2 B2, eb h0, x2 B2, eb h1, Sy.c M, Sy.c Dp, Sy.c Dq, Sy.c K, L, eb e1, eb e2, Go.Sy.e (congrArg (Value.int IntKind.i64) w1), eb e3, Sy.c Vp, Sy.c Vq, Sy.c DP, Sy.c EP, Sy.c R1, Sy.c DQ, Sy.c EQ, Sy.c R2, Sy.c R3, Sy.c Ck, Sy.c Em, Sy.c R4, x2 b2, Sy.c DM, Sy.c Ez, x2 b1] fol Tryz.func15 (by kernel_rfl) (fun xs w => Tryz.call15 xs w) (by kernel_rfl)
theorem lp_21h (g0 : decide (i > 0) = true) (g1 : decide (i > 1) = true) (g2 : decide (i > 2) = false) (h0 : decide (j > 0) = true) (h1 : decide (j > 1) = false) (Dp : Sp Tryz.prog 40 [] [qV1 a] (nV dp) []) (Dq : Sp Tryz.prog 40 [] [qV2 d e] (nV dq) []) (e1 : decide (dp ≥ 0) = true) (e2 : decide (dq ≥ 0) = true) (s : Int) (w1 : IntKind.i64.wrap (dp + dq) = s) (e3 : decide (s > 2) = true) (M : Sp Tryz.prog 74 [] [qV1 a, qV2 d e] (.tuple #[qZ, nV 2]) []) :
    Sp Tryz.prog 15 [] [.agg #[.int .i16 n1, .int .u8 d1, .int .i16 n2, .int .u8 d2, .int .i16 n3, .int .u8 d3, .int .i16 n4, .int .u8 d4, .int .i16 n5, .int .u8 d5, .int .i16 n6, .int .u8 d6], .agg #[.int .u8 k0, .int .u8 k1], coV n7 d7] (.bool true) [] := by
 have b1 : Bin .eql 67 qZ qZ (.bool true) := by
  have := binQ 0 0 0 0 0 0 (q := true) (by simp)
  rw [qV0] at this
  exact this
 exact walk (code := Tryz.f15.body.getD .skip) [Sy.c Q1, Sy.c Q2, Sy.c C, x2 B1, eb g0, x2 B1, eb g1, x2 B1, eb g2, x2 B2, eb h0, x2 B2, eb h1, Sy.c M, Sy.c Dp, Sy.c Dq, Sy.c K, L, eb e1, eb e2, Go.Sy.e (congrArg (Value.int IntKind.i64) w1), eb e3, L, x2 b1] fol Tryz.func15 (by kernel_rfl) (fun xs w => Tryz.call15 xs w) (by kernel_rfl)
theorem lp_22a (g0 : decide (i > 0) = true) (g1 : decide (i > 1) = true) (g2 : decide (i > 2) = false) (h0 : decide (j > 0) = true) (h1 : decide (j > 1) = true) (Dp : Sp Tryz.prog 40 [] [qV1 a] (nV dp) []) (Dq : Sp Tryz.prog 40 [] [qV1 d] (nV dq) []) (e1 : decide (dp ≥ 0) = false) (V W V1 W1 t1 t2 t3 t4 m0 m1 m2 x0 x1 y0 y1 z0 z1 : Rat) (H : PrOk (qV1 a) (qV1 d) r V W V1 W1 t1 t2 t3 t4 m0 m1 m2 x0 x1 y0 y1 z0 z1) :
    Sp Tryz.prog 15 [] [.agg #[.int .i16 n1, .int .u8 d1, .int .i16 n2, .int .u8 d2, .int .i16 n3, .int .u8 d3, .int .i16 n4, .int .u8 d4, .int .i16 n5, .int .u8 d5, .int .i16 n6, .int .u8 d6], .agg #[.int .u8 k0, .int .u8 k1], coV n7 d7] (.bool true) [] := by
 obtain ⟨M, Vp, Vq, DP, EP, R1, DQ, EQ, R2, R3, Ck, Em, R4, DM, Ez⟩ := H
 have b1 := same t3
 have b2 := same t4
 exact walk (code := Tryz.f15.body.getD .skip) [Sy.c Q1, Sy.c Q2, Sy.c C, x2 B1, eb g0, x2 B1, eb g1, x2 B1, eb g2, x2 B2, eb h0, x2 B2, eb h1, Sy.c M, Sy.c Dp, Sy.c Dq, Sy.c K, L, eb e1, Sy.c Vp, Sy.c Vq, Sy.c DP, Sy.c EP, Sy.c R1, Sy.c DQ, Sy.c EQ, Sy.c R2, Sy.c R3, Sy.c Ck, Sy.c Em, Sy.c R4, x2 b2, Sy.c DM, Sy.c Ez, x2 b1] fol Tryz.func15 (by kernel_rfl) (fun xs w => Tryz.call15 xs w) (by kernel_rfl)
theorem lp_22b (g0 : decide (i > 0) = true) (g1 : decide (i > 1) = true) (g2 : decide (i > 2) = false) (h0 : decide (j > 0) = true) (h1 : decide (j > 1) = true) (Dp : Sp Tryz.prog 40 [] [qV1 a] (nV dp) []) (Dq : Sp Tryz.prog 40 [] [qV1 d] (nV dq) []) (e1 : decide (dp ≥ 0) = true) (e2 : decide (dq ≥ 0) = false) (V W V1 W1 t1 t2 t3 t4 m0 m1 m2 x0 x1 y0 y1 z0 z1 : Rat) (H : PrOk (qV1 a) (qV1 d) r V W V1 W1 t1 t2 t3 t4 m0 m1 m2 x0 x1 y0 y1 z0 z1) :
    Sp Tryz.prog 15 [] [.agg #[.int .i16 n1, .int .u8 d1, .int .i16 n2, .int .u8 d2, .int .i16 n3, .int .u8 d3, .int .i16 n4, .int .u8 d4, .int .i16 n5, .int .u8 d5, .int .i16 n6, .int .u8 d6], .agg #[.int .u8 k0, .int .u8 k1], coV n7 d7] (.bool true) [] := by
 obtain ⟨M, Vp, Vq, DP, EP, R1, DQ, EQ, R2, R3, Ck, Em, R4, DM, Ez⟩ := H
 have b1 := same t3
 have b2 := same t4
 exact walk (code := Tryz.f15.body.getD .skip) [Sy.c Q1, Sy.c Q2, Sy.c C, x2 B1, eb g0, x2 B1, eb g1, x2 B1, eb g2, x2 B2, eb h0, x2 B2, eb h1, Sy.c M, Sy.c Dp, Sy.c Dq, Sy.c K, L, eb e1, eb e2, Sy.c Vp, Sy.c Vq, Sy.c DP, Sy.c EP, Sy.c R1, Sy.c DQ, Sy.c EQ, Sy.c R2, Sy.c R3, Sy.c Ck, Sy.c Em, Sy.c R4, x2 b2, Sy.c DM, Sy.c Ez, x2 b1] fol Tryz.func15 (by kernel_rfl) (fun xs w => Tryz.call15 xs w) (by kernel_rfl)
theorem lp_22c (g0 : decide (i > 0) = true) (g1 : decide (i > 1) = true) (g2 : decide (i > 2) = false) (h0 : decide (j > 0) = true) (h1 : decide (j > 1) = true) (Dp : Sp Tryz.prog 40 [] [qV1 a] (nV dp) []) (Dq : Sp Tryz.prog 40 [] [qV1 d] (nV dq) []) (e1 : decide (dp ≥ 0) = true) (e2 : decide (dq ≥ 0) = true) (s : Int) (w1 : IntKind.i64.wrap (dp + dq) = s) (e3 : decide (s > 2) = false) (V W V1 W1 t1 t2 t3 t4 m0 m1 m2 x0 x1 y0 y1 z0 z1 : Rat) (H : PrOk (qV1 a) (qV1 d) r V W V1 W1 t1 t2 t3 t4 m0 m1 m2 x0 x1 y0 y1 z0 z1) :
    Sp Tryz.prog 15 [] [.agg #[.int .i16 n1, .int .u8 d1, .int .i16 n2, .int .u8 d2, .int .i16 n3, .int .u8 d3, .int .i16 n4, .int .u8 d4, .int .i16 n5, .int .u8 d5, .int .i16 n6, .int .u8 d6], .agg #[.int .u8 k0, .int .u8 k1], coV n7 d7] (.bool true) [] := by
 obtain ⟨M, Vp, Vq, DP, EP, R1, DQ, EQ, R2, R3, Ck, Em, R4, DM, Ez⟩ := H
 have b1 := same t3
 have b2 := same t4
 exact walk (code := Tryz.f15.body.getD .skip) [Sy.c Q1, Sy.c Q2, Sy.c C, x2 B1, eb g0, x2 B1, eb g1, x2 B1, eb g2, x2 B2, eb h0, x2 B2, eb h1, Sy.c M, Sy.c Dp, Sy.c Dq, Sy.c K, L, eb e1, eb e2, Go.Sy.e (congrArg (Value.int IntKind.i64) w1), eb e3, Sy.c Vp, Sy.c Vq, Sy.c DP, Sy.c EP, Sy.c R1, Sy.c DQ, Sy.c EQ, Sy.c R2, Sy.c R3, Sy.c Ck, Sy.c Em, Sy.c R4, x2 b2, Sy.c DM, Sy.c Ez, x2 b1] fol Tryz.func15 (by kernel_rfl) (fun xs w => Tryz.call15 xs w) (by kernel_rfl)
theorem lp_22h (g0 : decide (i > 0) = true) (g1 : decide (i > 1) = true) (g2 : decide (i > 2) = false) (h0 : decide (j > 0) = true) (h1 : decide (j > 1) = true) (Dp : Sp Tryz.prog 40 [] [qV1 a] (nV dp) []) (Dq : Sp Tryz.prog 40 [] [qV1 d] (nV dq) []) (e1 : decide (dp ≥ 0) = true) (e2 : decide (dq ≥ 0) = true) (s : Int) (w1 : IntKind.i64.wrap (dp + dq) = s) (e3 : decide (s > 2) = true) (M : Sp Tryz.prog 74 [] [qV1 a, qV1 d] (.tuple #[qZ, nV 2]) []) :
    Sp Tryz.prog 15 [] [.agg #[.int .i16 n1, .int .u8 d1, .int .i16 n2, .int .u8 d2, .int .i16 n3, .int .u8 d3, .int .i16 n4, .int .u8 d4, .int .i16 n5, .int .u8 d5, .int .i16 n6, .int .u8 d6], .agg #[.int .u8 k0, .int .u8 k1], coV n7 d7] (.bool true) [] := by
 have b1 : Bin .eql 67 qZ qZ (.bool true) := by
  have := binQ 0 0 0 0 0 0 (q := true) (by simp)
  rw [qV0] at this
  exact this
 exact walk (code := Tryz.f15.body.getD .skip) [Sy.c Q1, Sy.c Q2, Sy.c C, x2 B1, eb g0, x2 B1, eb g1, x2 B1, eb g2, x2 B2, eb h0, x2 B2, eb h1, Sy.c M, Sy.c Dp, Sy.c Dq, Sy.c K, L, eb e1, eb e2, Go.Sy.e (congrArg (Value.int IntKind.i64) w1), eb e3, L, x2 b1] fol Tryz.func15 (by kernel_rfl) (fun xs w => Tryz.call15 xs w) (by kernel_rfl)
theorem lp_30a (g0 : decide (i > 0) = true) (g1 : decide (i > 1) = true) (g2 : decide (i > 2) = true) (h0 : decide (j > 0) = false) (h1 : decide (j > 1) = false) (Dp : Sp Tryz.prog 40 [] [qZ] (nV dp) []) (Dq : Sp Tryz.prog 40 [] [qV d e f] (nV dq) []) (e1 : decide (dp ≥ 0) = false) (V W V1 W1 t1 t2 t3 t4 m0 m1 m2 x0 x1 y0 y1 z0 z1 : Rat) (H : PrOk (qZ) (qV d e f) r V W V1 W1 t1 t2 t3 t4 m0 m1 m2 x0 x1 y0 y1 z0 z1) :
    Sp Tryz.prog 15 [] [.agg #[.int .i16 n1, .int .u8 d1, .int .i16 n2, .int .u8 d2, .int .i16 n3, .int .u8 d3, .int .i16 n4, .int .u8 d4, .int .i16 n5, .int .u8 d5, .int .i16 n6, .int .u8 d6], .agg #[.int .u8 k0, .int .u8 k1], coV n7 d7] (.bool true) [] := by
 obtain ⟨M, Vp, Vq, DP, EP, R1, DQ, EQ, R2, R3, Ck, Em, R4, DM, Ez⟩ := H
 have b1 := same t3
 have b2 := same t4
 exact walk (code := Tryz.f15.body.getD .skip) [Sy.c Q1, Sy.c Q2, Sy.c C, x2 B1, eb g0, x2 B1, eb g1, x2 B1, eb g2, x2 B2, eb h0, x2 B2, eb h1, Sy.c M, Sy.c Dp, Sy.c Dq, Sy.c K, L, eb e1, Sy.c Vp, Sy.c Vq, Sy.c DP, Sy.c EP, Sy.c R1, Sy.c DQ, Sy.c EQ, Sy.c R2, Sy.c R3, Sy.c Ck, Sy.c Em, Sy.c R4, x2 b2, Sy.c DM, Sy.c Ez, x2 b1] fol Tryz.func15 (by kernel_rfl) (fun xs w => Tryz.call15 xs w) (by kernel_rfl)
theorem lp_30b (g0 : decide (i > 0) = true) (g1 : decide (i > 1) = true) (g2 : decide (i > 2) = true) (h0 : decide (j > 0) = false) (h1 : decide (j > 1) = false) (Dp : Sp Tryz.prog 40 [] [qZ] (nV dp) []) (Dq : Sp Tryz.prog 40 [] [qV d e f] (nV dq) []) (e1 : decide (dp ≥ 0) = true) (e2 : decide (dq ≥ 0) = false) (V W V1 W1 t1 t2 t3 t4 m0 m1 m2 x0 x1 y0 y1 z0 z1 : Rat) (H : PrOk (qZ) (qV d e f) r V W V1 W1 t1 t2 t3 t4 m0 m1 m2 x0 x1 y0 y1 z0 z1) :
    Sp Tryz.prog 15 [] [.agg #[.int .i16 n1, .int .u8 d1, .int .i16 n2, .int .u8 d2, .int .i16 n3, .int .u8 d3, .int .i16 n4, .int .u8 d4, .int .i16 n5, .int .u8 d5, .int .i16 n6, .int .u8 d6], .agg #[.int .u8 k0, .int .u8 k1], coV n7 d7] (.bool true) [] := by
 obtain ⟨M, Vp, Vq, DP, EP, R1, DQ, EQ, R2, R3, Ck, Em, R4, DM, Ez⟩ := H
 have b1 := same t3
 have b2 := same t4
 exact walk (code := Tryz.f15.body.getD .skip) [Sy.c Q1, Sy.c Q2, Sy.c C, x2 B1, eb g0, x2 B1, eb g1, x2 B1, eb g2, x2 B2, eb h0, x2 B2, eb h1, Sy.c M, Sy.c Dp, Sy.c Dq, Sy.c K, L, eb e1, eb e2, Sy.c Vp, Sy.c Vq, Sy.c DP, Sy.c EP, Sy.c R1, Sy.c DQ, Sy.c EQ, Sy.c R2, Sy.c R3, Sy.c Ck, Sy.c Em, Sy.c R4, x2 b2, Sy.c DM, Sy.c Ez, x2 b1] fol Tryz.func15 (by kernel_rfl) (fun xs w => Tryz.call15 xs w) (by kernel_rfl)
theorem lp_30c (g0 : decide (i > 0) = true) (g1 : decide (i > 1) = true) (g2 : decide (i > 2) = true) (h0 : decide (j > 0) = false) (h1 : decide (j > 1) = false) (Dp : Sp Tryz.prog 40 [] [qZ] (nV dp) []) (Dq : Sp Tryz.prog 40 [] [qV d e f] (nV dq) []) (e1 : decide (dp ≥ 0) = true) (e2 : decide (dq ≥ 0) = true) (s : Int) (w1 : IntKind.i64.wrap (dp + dq) = s) (e3 : decide (s > 2) = false) (V W V1 W1 t1 t2 t3 t4 m0 m1 m2 x0 x1 y0 y1 z0 z1 : Rat) (H : PrOk (qZ) (qV d e f) r V W V1 W1 t1 t2 t3 t4 m0 m1 m2 x0 x1 y0 y1 z0 z1) :
    Sp Tryz.prog 15 [] [.agg #[.int .i16 n1, .int .u8 d1, .int .i16 n2, .int .u8 d2, .int .i16 n3, .int .u8 d3, .int .i16 n4, .int .u8 d4, .int .i16 n5, .int .u8 d5, .int .i16 n6, .int .u8 d6], .agg #[.int .u8 k0, .int .u8 k1], coV n7 d7] (.bool true) [] := by
 obtain ⟨M, Vp, Vq, DP, EP, R1, DQ, EQ, R2, R3, Ck, Em, R4, DM, Ez⟩ := H
 have b1 := same t3
 have b2 := same t4
 exact walk (code := Tryz.f15.body.getD .skip) [Sy.c Q1, Sy.c Q2, Sy.c C, x2 B1, eb g0, x2 B1, eb g1, x2 B1, eb g2, x2 B2, eb h0, x2 B2, eb h1, Sy.c M, Sy.c Dp, Sy.c Dq, Sy.c K, L, eb e1, eb e2, Go.Sy.e (congrArg (Value.int IntKind.i64) w1), eb e3, Sy.c Vp, Sy.c Vq, Sy.c DP, Sy.c EP, Sy.c R1, Sy.c DQ, Sy.c EQ, Sy.c R2, Sy.c R3, Sy.c Ck, Sy.c Em, Sy.c R4, x2 b2, Sy.c DM, Sy.c Ez, x2 b1] fol Tryz.func15 (by kernel_rfl) (fun xs w => Tryz.call15 xs w) (by kernel_rfl)
theorem lp_30h (g0 : decide (i > 0) = true) (g1 : decide (i > 1) = true) (g2 : decide (i > 2) = true) (h0 : decide (j > 0) = false) (h1 : decide (j > 1) = false) (Dp : Sp Tryz.prog 40 [] [qZ] (nV dp) []) (Dq : Sp Tryz.prog 40 [] [qV d e f] (nV dq) []) (e1 : decide (dp ≥ 0) = true) (e2 : decide (dq ≥ 0) = true) (s : Int) (w1 : IntKind.i64.wrap (dp + dq) = s) (e3 : decide (s > 2) = true) (M : Sp Tryz.prog 74 [] [qZ, qV d e f] (.tuple #[qZ, nV 2]) []) :
    Sp Tryz.prog 15 [] [.agg #[.int .i16 n1, .int .u8 d1, .int .i16 n2, .int .u8 d2, .int .i16 n3, .int .u8 d3, .int .i16 n4, .int .u8 d4, .int .i16 n5, .int .u8 d5, .int .i16 n6, .int .u8 d6], .agg #[.int .u8 k0, .int .u8 k1], coV n7 d7] (.bool true) [] := by
 have b1 : Bin .eql 67 qZ qZ (.bool true) := by
  have := binQ 0 0 0 0 0 0 (q := true) (by simp)
  rw [qV0] at this
  exact this
 exact walk (code := Tryz.f15.body.getD .skip) [Sy.c Q1, Sy.c Q2, Sy.c C, x2 B1, eb g0, x2 B1, eb g1, x2 B1, eb g2, x2 B2, eb h0, x2 B2, eb h1, Sy.c M, Sy.c Dp, Sy.c Dq, Sy.c K, L, eb e1, eb e2, Go.Sy.e (congrArg (Value.int IntKind.i64) w1), eb e3, L, x2 b1] fol Tryz.func15 (by kernel_rfl) (fun xs w => Tryz.call15 xs w) (by kernel_rfl)
theorem lp_31a (g0 : decide (i > 0) = true) (g1 : decide (i > 1) = true) (g2 : decide (i > 2) = true) (h0 : decide (j > 0) = true) (h1 : decide (j > 1) = false) (Dp : Sp Tryz.prog 40 [] [qZ] (nV dp) []) (Dq : Sp Tryz.prog 40 [] [qV2 d e] (nV dq) []) (e1 : decide (dp ≥ 0) = false) (V W V1 W1 t1 t2 t3 t4 m0 m1 m2 x0 x1 y0 y1 z0 z1 : Rat) (H : PrOk (qZ) (qV2 d e) r V W V1 W1 t1 t2 t3 t4 m0 m1 m2 x0 x1 y0 y1 z0 z1) :
    Sp Tryz.prog 15 [] [.agg #[.int .i16 n1, .int .u8 d1, .int .i16 n2, .int .u8 d2, .int .i16 n3, .int .u8 d3, .int .i16 n4, .int .u8 d4, .int .i16 n5, .int .u8 d5, .int .i16 n6, .int .u8 d6], .agg #[.int .u8 k0, .int .u8 k1], coV n7 d7] (.bool true) [] := by
 obtain ⟨M, Vp, Vq, DP, EP, R1, DQ, EQ, R2, R3, Ck, Em, R4, DM, Ez⟩ := H
 have b1 := same t3
 have b2 := same t4
 exact walk (code := Tryz.f15.body.getD .skip) [Sy.c Q1, Sy.c Q2, Sy.c C, x2 B1, eb g0, x2 B1, eb g1, x2 B1, eb g2, x2 B2, eb h0, x2 B2, eb h1, Sy.c M, Sy.c Dp, Sy.c Dq, Sy.c K, L, eb e1, Sy.c Vp, Sy.c Vq, Sy.c DP, Sy.c EP, Sy.c R1, Sy.c DQ, Sy.c EQ, Sy.c R2, Sy.c R3, Sy.c Ck, Sy.c Em, Sy.c R4, x2 b2, Sy.c DM, Sy.c Ez, x2 b1] fol Tryz.func15 (by kernel_rfl) (fun xs w => Tryz.call15 xs w) (by kernel_rfl)
theorem lp_31b (g0 : decide (i > 0) = true) (g1 : decide (i > 1) = true) (g2 : decide (i > 2) = true) (h0 : decide (j > 0) = true) (h1 : decide (j > 1) = false) (Dp : Sp Tryz.prog 40 [] [qZ] (nV dp) []) (Dq : Sp Tryz.prog 40 [] [qV2 d e] (nV dq) []) (e1 : decide (dp ≥ 0) = true) (e2 : decide (dq ≥ 0) = false) (V W V1 W1 t1 t2 t3 t4 m0 m1 m2 x0 x1 y0 y1 z0 z1 : Rat) (H : PrOk (qZ) (qV2 d e) r V W V1 W1 t1 t2 t3 t4 m0 m1 m2 x0 x1 y0 y1 z0 z1) :
    Sp Tryz.prog 15 [] [.agg #[.int .i16 n1, .int .u8 d1, .int .i16 n2, .int .u8 d2, .int .i16 n3, .int .u8 d3, .int .i16 n4, .int .u8 d4, .int .i16 n5, .int .u8 d5, .int .i16 n6, .int .u8 d6], .agg #[.int .u8 k0, .int .u8 k1], coV n7 d7] (.bool true) [] := by
 obtain ⟨M, Vp, Vq, DP, EP, R1, DQ, EQ, R2, R3, Ck, Em, R4, DM, Ez⟩ := H
 have b1 := same t3
 have b2 := same t4
 exact walk (code := Tryz.f15.body.getD .skip) [Sy.c Q1, Sy.c Q2, Sy.c C, x2 B1, eb g0, x2 B1, eb g1, x2 B1, eb g2, x2 B2, eb h0, x2 B2, eb h1, Sy.c M, Sy.c Dp, Sy.c Dq, Sy.c K, L, eb e1, eb e2, Sy.c Vp, Sy.c Vq, Sy.c DP, Sy.c EP, Sy.c R1, Sy.c DQ, Sy.c EQ, Sy.c R2, Sy.c R3, Sy.c Ck, Sy.c Em, Sy.c R4, x2 b2, Sy.c DM, Sy.c Ez, x2 b1] fol Tryz.func15 (by kernel_rfl) (fun xs w => Tryz.call15 xs w) (by kernel_rfl)
theorem lp_31c (g0 : decide (i > 0) = true) (g1 : decide (i > 1) = true) (g2 : decide (i > 2) = true) (h0 : decide (j > 0) = true) (h1 : decide (j > 1) = false) (Dp : Sp Tryz.prog 40 [] [qZ] (nV dp) []) (Dq : Sp Tryz.prog 40 [] [qV2 d e] (nV dq) []) (e1 : decide (dp ≥ 0) = true) (e2 : decide (dq ≥ 0) = true) (s : Int) (w1 : IntKind.i64.wrap (dp + dq) = s) (e3 : decide (s > 2) = false) (V W V1 W1 t1 t2 t3 t4 m0 m1 m2 x0 x1 y0 y1 z0 z1 : Rat) (H : PrOk (qZ) (qV2 d e) r V W V1 W1 t1 t2 t3 t4 m0 m1 m2 x0 x1 y0 y1 z0 z1) :
    Sp Tryz.prog 15 [] [.agg #[.int .i16 n1, .int .u8 d1, .int .i16 n2, .int .u8 d2, .int .i16 n3, .int .u8 d3, .int .i16 n4, .int .u8 d4, .int .i16 n5, .int .u8 d5, .int .i16 n6, .int .u8 d6], .agg #[.int .u8 k0, .int .u8 k1], coV n7 d7] (.bool true) [] := by
 obtain ⟨M, Vp, Vq, DP, EP, R1, DQ, EQ, R2, R3, Ck, Em, R4, DM, Ez⟩ := H
 have b1 := same t3
 have b2 := same t4
 exact walk (code := Tryz.f15.body.getD .skip) [Sy.c Q1, Sy.c Q2, Sy.c C, x2 B1, eb g0, x2 B1, eb g1, x2 B1, eb g2, x2 B2, eb h0, x2 B2, eb h1, Sy.c M, Sy.c Dp, Sy.c Dq, Sy.c K, L, eb e1, eb e2, Go.Sy.e (congrArg (Value.int IntKind.i64) w1), eb e3, Sy.c Vp, Sy.c Vq, Sy.c DP, Sy.c EP, Sy.c R1, Sy.c DQ, Sy.c EQ, Sy.c R2, Sy.c R3, Sy.c Ck, Sy.c Em, Sy.c R4, x2 b2, Sy.c DM, Sy.c Ez, x2 b1] fol Tryz.func15 (by kernel_rfl) (fun xs w => Tryz.call15 xs w) (by kernel_rfl)
theorem lp_31h (g0 : decide (i > 0) = true) (g1 : decide (i > 1) = true) (g2 : decide (i > 2) = true) (h0 : decide (j > 0) = true) (h1 : decide (j > 1) = false) (Dp : Sp Tryz.prog 40 [] [qZ] (nV dp) []) (Dq : Sp Tryz.prog 40 [] [qV2 d e] (nV dq) []) (e1 : decide (dp ≥ 0) = true) (e2 : decide (dq ≥ 0) = true) (s : Int) (w1 : IntKind.i64.wrap (dp + dq) = s) (e3 : decide (s > 2) = true) (M : Sp Tryz.prog 74 [] [qZ, qV2 d e] (.tuple #[qZ, nV 2]) []) :
    Sp Tryz.prog 15 [] [.agg #[.int .i16 n1, .int .u8 d1, .int .i16 n2, .int .u8 d2, .int .i16 n3, .int .u8 d3, .int .i16 n4, .int .u8 d4, .int .i16 n5, .int .u8 d5, .int .i16 n6, .int .u8 d6], .agg #[.int .u8 k0, .int .u8 k1], coV n7 d7] (.bool true) [] := by
 have b1 : Bin .eql 67 qZ qZ (.bool true) := by
  have := binQ 0 0 0 0 0 0 (q := true) (by simp)
  rw [qV0] at this
  exact this
 exact walk (code := Tryz.f15.body.getD .skip) [Sy.c Q1, Sy.c Q2, Sy.c C, x2 B1, eb g0, x2 B1, eb g1, x2 B1, eb g2, x2 B2, eb h0, x2 B2, eb h1, Sy.c M, Sy.c Dp, Sy.c Dq, Sy.c K, L, eb e1, eb e2, Go.Sy.e (congrArg (Value.int IntKind.i64) w1), eb e3, L, x2 b1] fol Tryz.func15 (by kernel_rfl) (fun xs w => Tryz.call15 xs w) (by kernel_rfl)
theorem lp_32a (g0 : decide (i > 0) = true) (g1 : decide (i > 1) = true) (g2 : decide (i > 2) = true) (h0 : decide (j > 0) = true) (h1 : decide (j > 1) = true) (Dp : Sp Tryz.prog 40 [] [qZ] (nV dp) []) (Dq : Sp Tryz.prog 40 [] [qV1 d] (nV dq) []) (e1 : decide (dp ≥ 0) = false) (V W V1 W1 t1 t2 t3 t4 m0 m1 m2 x0 x1 y0 y1 z0 z1 : Rat) (H : PrOk (qZ) (qV1 d) r V W V1 W1 t1 t2 t3 t4 m0 m1 m2 x0 x1 y0 y1 z0 z1) :
    Sp Tryz.prog 15 [] [.agg #[.int .i16 n1, .int .u8 d1, .int .i16 n2, .int .u8 d2, .int .i16 n3, .int .u8 d3, .int .i16 n4, .int .u8 d4, .int .i16 n5, .int .u8 d5, .int .i16 n6, .int .u8 d6], .agg #[.int .u8 k0, .int .u8 k1], coV n7 d7] (.bool true) [] := by
 obtain ⟨M, Vp, Vq, DP, EP, R1, DQ, EQ, R2, R3, Ck, Em, R4, DM, Ez⟩ := H
 have b1 := same t3
 have b2 := same t4
 exact walk (code := Tryz.f15.body.getD .skip) [Sy.c Q1, Sy.c Q2, Sy.c C, x2 B1, eb g0, x2 B1, eb g1, x2 B1, eb g2, x2 B2, eb h0, x2 B2, eb h1, Sy.c M, Sy.c Dp, Sy.c Dq, Sy.c K, L, eb e1, Sy.c Vp, Sy.c Vq, Sy.c DP, Sy.c EP, Sy.c R1, Sy.c DQ, Sy.c EQ, Sy.c R2, Sy.c R3, Sy.c Ck, Sy.c Em, Sy.c R4, x2 b2, Sy.c DM, Sy.c Ez, x2 b1] fol Tryz.func15 (by kernel_rfl) (fun xs w => Tryz.call15 xs w) (by kernel_rfl)
theorem lp_32b (g0 : decide (i > 0) = true) (g1 : decide (i > 1) = true) (g2 : decide (i > 2) = true) (h0 : decide (j > 0) = true) (h1 : decide (j > 1) = true) (Dp : Sp Tryz.prog 40 [] [qZ] (nV dp) []) (Dq : Sp Tryz.prog 40 [] [qV1 d] (nV dq) []) (e1 : decide (dp ≥ 0) = true) (e2 : decide (dq ≥ 0) = false) (V W V1 W1 t1 t2 t3 t4 m0 m1 m2 x0 x1 y0 y1 z0 z1 : Rat) (H : PrOk (qZ) (qV1 d) r V W V1 W1 t1 t2 t3 t4 m0 m1 m2 x0 x1 y0 y1 z0 z1) :
    Sp Tryz.prog 15 [] [.agg #[.int .i16 n1, .int .u8 d1, .int .i16 n2, .int .u8 d2, .int .i16 n3, .int .u8 d3, .int .i16 n4, .int .u8 d4, .int .i16 n5, .int .u8 d5, .int .i16 n6, .int .u8 d6], .agg #[.int .u8 k0, .int .u8 k1], coV n7 d7] (.bool true) [] := by
 obtain ⟨M, Vp, Vq, DP, EP, R1, DQ, EQ, R2, R3, Ck, Em, R4, DM, Ez⟩ := H
 have b1 := same t3
 have b2 := same t4
 exact walk (code := Tryz.f15.body.getD .skip) [Sy.c Q1, Sy.c Q2, Sy.c C, x2 B1, eb g0, x2 B1, eb g1, x2 B1, eb g2, x2 B2, eb h0, x2 B2, eb h1, Sy.c M, Sy.c Dp, Sy.c Dq, Sy.c K, L, eb e1, eb e2, Sy.c Vp, Sy.c Vq, Sy.c DP, Sy.c EP, Sy.c R1, Sy.c DQ, Sy.c EQ, Sy.c R2, Sy.c R3, Sy.c Ck, Sy.c Em, Sy.c R4, x2 b2, Sy.c DM, Sy.c Ez, x2 b1] fol Tryz.func15 (by kernel_rfl) (fun xs w => Tryz.call15 xs w) (by kernel_rfl)
theorem lp_32c (g0 : decide (i > 0) = true) (g1 : decide (i > 1) = true) (g2 : decide (i > 2) = true) (h0 : decide (j > 0) = true) (h1 : decide (j > 1) = true) (Dp : Sp Tryz.prog 40 [] [qZ] (nV dp) []) (Dq : Sp Tryz.prog 40 [] [qV1 d] (nV dq) []) (e1 : decide (dp ≥ 0) = true) (e2 : decide (dq ≥ 0) = true) (s : Int) (w1 : IntKind.i64.wrap (dp + dq) = s) (e3 : decide (s > 2) = false) (V W V1 W1 t1 t2 t3 t4 m0 m1 m2 x0 x1 y0 y1 z0 z1 : Rat) (H : PrOk (qZ) (qV1 d) r V W V1 W1 t1 t2 t3 t4 m0 m1 m2 x0 x1 y0 y1 z0 z1) :
    Sp Tryz.prog 15 [] [.agg #[.int .i16 n1, .int .u8 d1, .int .i16 n2, .int .u8 d2, .int .i16 n3, .int .u8 d3, .int .i16 n4, .int .u8 d4, .int .i16 n5, .int .u8 d5, .int .i16 n6, .int .u8 d6], .agg #[.int .u8 k0, .int .u8 k1], coV n7 d7] (.bool true) [] := by
 obtain ⟨M, Vp, Vq, DP, EP, R1, DQ, EQ, R2, R3, Ck, Em, R4, DM, Ez⟩ := H
 have b1 := same t3
 have b2 := same t4
 exact walk (code := Tryz.f15.body.getD .skip) [Sy.c Q1, Sy.c Q2, Sy.c C, x2 B1, eb g0, x2 B1, eb g1, x2 B1, eb g2, x2 B2, eb h0, x2 B2, eb h1, Sy.c M, Sy.c Dp, Sy.c Dq, Sy.c K, L, eb e1, eb e2, Go.Sy.e (congrArg (Value.int IntKind.i64) w1), eb e3, Sy.c Vp, Sy.c Vq, Sy.c DP, Sy.c EP, Sy.c R1, Sy.c DQ, Sy.c EQ, Sy.c R2, Sy.c R3, Sy.c Ck, Sy.c Em, Sy.c R4, x2 b2, Sy.c DM, Sy.c Ez, x2 b1] fol Tryz.func15 (by kernel_rfl) (fun xs w => Tryz.call15 xs w) (by kernel_rfl)
theorem lp_32h (g0 : decide (i > 0) = true) (g1 : decide (i > 1) = true) (g2 : decide (i > 2) = true) (h0 : decide (j > 0) = true) (h1 : decide (j > 1) = true) (Dp : Sp Tryz.prog 40 [] [qZ] (nV dp) []) (Dq : Sp Tryz.prog 40 [] [qV1 d] (nV dq) []) (e1 : decide (dp ≥ 0) = true) (e2 : decide (dq ≥ 0) = true) (s : Int) (w1 : IntKind.i64.wrap (dp + dq) = s) (e3 : decide (s > 2) = true) (M : Sp Tryz.prog 74 [] [qZ, qV1 d] (.tuple #[qZ, nV 2]) []) :
    Sp Tryz.prog 15 [] [.agg #[.int .i16 n1, .int .u8 d1, .int .i16 n2, .int .u8 d2, .int .i16 n3, .int .u8 d3, .int .i16 n4, .int .u8 d4, .int .i16 n5, .int .u8 d5, .int .i16 n6, .int .u8 d6], .agg #[.int .u8 k0, .int .u8 k1], coV n7 d7] (.bool true) [] := by
 have b1 : Bin .eql 67 qZ qZ (.bool true) := by
  have := binQ 0 0 0 0 0 0 (q := true) (by simp)
  rw [qV0] at this
  exact this
 exact walk (code := Tryz.f15.body.getD .skip) [Sy.c Q1, Sy.c Q2, Sy.c C, x2 B1, eb g0, x2 B1, eb g1, x2 B1, eb g2, x2 B2, eb h0, x2 B2, eb h1, Sy.c M, Sy.c Dp, Sy.c Dq, Sy.c K, L, eb e1, eb e2, Go.Sy.e (congrArg (Value.int IntKind.i64) w1), eb e3, L, x2 b1] fol Tryz.func15 (by kernel_rfl) (fun xs w => Tryz.call15 xs w) (by kernel_rfl)
end
end Go.Proofs.YtlblfgbpogljoaaGreatDoor

end
section
/- Chapter 4's law about products. -/
namespace Go.Proofs.YtlblfgbpogljoaaGreatDoor
open Go Go.RowKit Go.Sy
open Vi
theorem prOk (a b c d e f r : Rat) [z1 : HasSz a 2] [z2 : HasSz b 2] [z3 : HasSz c 2] [z4 : HasSz d 2] [z5 : HasSz e 2] [z6 : HasSz f 2] [z7 : HasSz r 2] (h : ¬ hiQ a b c d e f) :
    PrOk (qV a b c) (qV d e f) r (evQ a b c r) (evQ d e f r) (evQ b (c + c) 0 r) (evQ e (f + f) 0 r) (evQ b (c + c) 0 r * evQ d e f r) (evQ a b c r * evQ e (f + f) 0 r) (evQ b (c + c) 0 r * evQ d e f r + evQ a b c r * evQ e (f + f) 0 r) (evQ a b c r * evQ d e f r)
     (a * d) (a * e + b * d) (a * f + c * d + b * e) b (c + c) e (f + f) (a * e + b * d) (a * f + c * d + b * e + (a * f + c * d + b * e)) := by
 haveI y1 := evQ_hs a b c r
 haveI y2 := evQ_hs d e f r
 haveI y3 := evQ_hs b (c + c) 0 r
 haveI y4 := evQ_hs e (f + f) 0 r
 have Em := vEval (a * d) (a * e + b * d) (a * f + c * d + b * e) r
 rw [ev_mul h] at Em
 have Ez := vEval (a * e + b * d) (a * f + c * d + b * e + (a * f + c * d + b * e)) 0 r
 rw [ev_rule h, qV2_eq] at Ez
 have DP := uDerivative a b c
 have DQ := uDerivative d e f
 have DM := uDerivative (a * d) (a * e + b * d) (a * f + c * d + b * e)
 have EP := vEval b (c + c) 0 r
 have EQ := vEval e (f + f) 0 r
 rw [qV2_eq] at DP DQ DM EP EQ
 exact ⟨uMul a b c d e f h, vEval a b c r, vEval d e f r, DP, EP, rMul _ _ fz fz, DQ, EQ, rMul _ _ fz fz, rAdd _ _ fz fz, vCheck _ _ _ fz fz fz, Em, rMul _ _ fz fz, DM, Ez⟩
theorem sum_in (a b c d e f : Rat) : IntKind.i64.wrap (dgQ a b c + dgQ d e f) = dgQ a b c + dgQ d e f := by
 have h1 := dgQ_in a b c
 have h2 := dgQ_in d e f
 exact w64 (by omega) (by omega)
theorem lp_all (n1 d1 n2 d2 n3 d3 n4 d4 n5 d5 n6 d6 n7 d7 k0 k1 i j : Int) (a b c d e f r : Rat) [z1 : HasSz a 2] [z2 : HasSz b 2] [z3 : HasSz c 2] [z4 : HasSz d 2] [z5 : HasSz e 2] [z6 : HasSz f 2] [z7 : HasSz r 2] (Q1 : Sp Tryz.prog 29 [] [fnV n1 d1 n2 d2 n3 d3] (qV a b c) []) (Q2 : Sp Tryz.prog 29 [] [fnV n4 d4 n5 d5 n6 d6] (qV d e f) []) (C : Sp Tryz.prog 30 [] [coV n7 d7] (rV r) [])
 (B1 : Bin .rem 5 (.int .u8 k0) (.int .u8 4) (.int .u8 i)) (B2 : Bin .rem 5 (.int .u8 k1) (.int .u8 4) (.int .u8 j)) (hi : 0 ≤ i ∧ i < 4) (hj : 0 ≤ j ∧ j < 4) :
 Sp Tryz.prog 15 [] [.agg #[.int .i16 n1, .int .u8 d1, .int .i16 n2, .int .u8 d2, .int .i16 n3, .int .u8 d3, .int .i16 n4, .int .u8 d4, .int .i16 n5, .int .u8 d5, .int .i16 n6, .int .u8 d6], .agg #[.int .u8 k0, .int .u8 k1], coV n7 d7] (.bool true) [] := by
 have K := vKnown4
 haveI z0 : HasSz (0 : Rat) 2 := hs_mono hz0 (by omega)
 rcases (by omega : i = 0 ∨ i = 1 ∨ i = 2 ∨ i = 3) with hi | hi | hi | hi <;> rcases (by omega : j = 0 ∨ j = 1 ∨ (j = 2 ∨ j = 3)) with hj | hj | hj
 ·have Dp := vDegree a b c
  have Dq := vDegree d e f
  have bp := dgQ_in a b c
  have bq := dgQ_in d e f
  have ws := sum_in a b c d e f
  have ep := (by rfl : qV a b c = qV a b c)
  have eq := (by rfl : qV d e f = qV d e f)
  by_cases hh : hiQ a b c d e f
  ·have M := uMul0 a b c d e f hh
   obtain ⟨q1, q2, q3⟩ := hh
   rw [ep] at Dp M
   rw [eq] at Dq M
   exact lp_00h (K := K) (Q1 := Q1) (Q2 := Q2) (C := C) (B1 := B1) (B2 := B2) (g0 := decide_eq_false (by omega)) (g1 := decide_eq_false (by omega)) (g2 := decide_eq_false (by omega)) (h0 := decide_eq_false (by omega)) (h1 := decide_eq_false (by omega)) (Dp := Dp) (Dq := Dq) (e1 := decide_eq_true q1) (e2 := decide_eq_true q2) (w1 := ws) (e3 := decide_eq_true q3) (M := M)
  ·have H := prOk a b c d e f r hh
   unfold hiQ at hh
   rw [ep] at Dp H
   rw [eq] at Dq H
   by_cases q1 : 0 ≤ dgQ a b c
   ·by_cases q2 : 0 ≤ dgQ d e f
    ·exact lp_00c (K := K) (Q1 := Q1) (Q2 := Q2) (C := C) (B1 := B1) (B2 := B2) (g0 := decide_eq_false (by omega)) (g1 := decide_eq_false (by omega)) (g2 := decide_eq_false (by omega)) (h0 := decide_eq_false (by omega)) (h1 := decide_eq_false (by omega)) (Dp := Dp) (Dq := Dq) (e1 := decide_eq_true q1) (e2 := decide_eq_true q2) (w1 := ws) (e3 := decide_eq_false (by omega)) (H := H)
    ·exact lp_00b (K := K) (Q1 := Q1) (Q2 := Q2) (C := C) (B1 := B1) (B2 := B2) (g0 := decide_eq_false (by omega)) (g1 := decide_eq_false (by omega)) (g2 := decide_eq_false (by omega)) (h0 := decide_eq_false (by omega)) (h1 := decide_eq_false (by omega)) (Dp := Dp) (Dq := Dq) (e1 := decide_eq_true q1) (e2 := decide_eq_false (by omega)) (H := H)
   ·exact lp_00a (K := K) (Q1 := Q1) (Q2 := Q2) (C := C) (B1 := B1) (B2 := B2) (g0 := decide_eq_false (by omega)) (g1 := decide_eq_false (by omega)) (g2 := decide_eq_false (by omega)) (h0 := decide_eq_false (by omega)) (h1 := decide_eq_false (by omega)) (Dp := Dp) (Dq := Dq) (e1 := decide_eq_false (by omega)) (H := H)
 ·have Dp := vDegree a b c
  have Dq := vDegree d e 0
  have bp := dgQ_in a b c
  have bq := dgQ_in d e 0
  have ws := sum_in a b c d e 0
  have ep := (by rfl : qV a b c = qV a b c)
  have eq := (by exact qV2_eq _ _ : qV d e 0 = qV2 d e)
  by_cases hh : hiQ a b c d e 0
  ·have M := uMul0 a b c d e 0 hh
   obtain ⟨q1, q2, q3⟩ := hh
   rw [ep] at Dp M
   rw [eq] at Dq M
   exact lp_01h (K := K) (Q1 := Q1) (Q2 := Q2) (C := C) (B1 := B1) (B2 := B2) (g0 := decide_eq_false (by omega)) (g1 := decide_eq_false (by omega)) (g2 := decide_eq_false (by omega)) (h0 := decide_eq_true (by omega)) (h1 := decide_eq_false (by omega)) (Dp := Dp) (Dq := Dq) (e1 := decide_eq_true q1) (e2 := decide_eq_true q2) (w1 := ws) (e3 := decide_eq_true q3) (M := M)
  ·have H := prOk a b c d e 0 r hh
   unfold hiQ at hh
   rw [ep] at Dp H
   rw [eq] at Dq H
   by_cases q1 : 0 ≤ dgQ a b c
   ·by_cases q2 : 0 ≤ dgQ d e 0
    ·exact lp_01c (K := K) (Q1 := Q1) (Q2 := Q2) (C := C) (B1 := B1) (B2 := B2) (g0 := decide_eq_false (by omega)) (g1 := decide_eq_false (by omega)) (g2 := decide_eq_false (by omega)) (h0 := decide_eq_true (by omega)) (h1 := decide_eq_false (by omega)) (Dp := Dp) (Dq := Dq) (e1 := decide_eq_true q1) (e2 := decide_eq_true q2) (w1 := ws) (e3 := decide_eq_false (by omega)) (H := H)
    ·exact lp_01b (K := K) (Q1 := Q1) (Q2 := Q2) (C := C) (B1 := B1) (B2 := B2) (g0 := decide_eq_false (by omega)) (g1 := decide_eq_false (by omega)) (g2 := decide_eq_false (by omega)) (h0 := decide_eq_true (by omega)) (h1 := decide_eq_false (by omega)) (Dp := Dp) (Dq := Dq) (e1 := decide_eq_true q1) (e2 := decide_eq_false (by omega)) (H := H)
   ·exact lp_01a (K := K) (Q1 := Q1) (Q2 := Q2) (C := C) (B1 := B1) (B2 := B2) (g0 := decide_eq_false (by omega)) (g1 := decide_eq_false (by omega)) (g2 := decide_eq_false (by omega)) (h0 := decide_eq_true (by omega)) (h1 := decide_eq_false (by omega)) (Dp := Dp) (Dq := Dq) (e1 := decide_eq_false (by omega)) (H := H)
 ·have Dp := vDegree a b c
  have Dq := vDegree d 0 0
  have bp := dgQ_in a b c
  have bq := dgQ_in d 0 0
  have ws := sum_in a b c d 0 0
  have ep := (by rfl : qV a b c = qV a b c)
  have eq := (by exact qV1_eq _ : qV d 0 0 = qV1 d)
  by_cases hh : hiQ a b c d 0 0
  ·have M := uMul0 a b c d 0 0 hh
   obtain ⟨q1, q2, q3⟩ := hh
   rw [ep] at Dp M
   rw [eq] at Dq M
   exact lp_02h (K := K) (Q1 := Q1) (Q2 := Q2) (C := C) (B1 := B1) (B2 := B2) (g0 := decide_eq_false (by omega)) (g1 := decide_eq_false (by omega)) (g2 := decide_eq_false (by omega)) (h0 := decide_eq_true (by omega)) (h1 := decide_eq_true (by omega)) (Dp := Dp) (Dq := Dq) (e1 := decide_eq_true q1) (e2 := decide_eq_true q2) (w1 := ws) (e3 := decide_eq_true q3) (M := M)
  ·have H := prOk a b c d 0 0 r hh
   unfold hiQ at hh
   rw [ep] at Dp H
   rw [eq] at Dq H
   by_cases q1 : 0 ≤ dgQ a b c
   ·by_cases q2 : 0 ≤ dgQ d 0 0
    ·exact lp_02c (K := K) (Q1 := Q1) (Q2 := Q2) (C := C) (B1 := B1) (B2 := B2) (g0 := decide_eq_false (by omega)) (g1 := decide_eq_false (by omega)) (g2 := decide_eq_false (by omega)) (h0 := decide_eq_true (by omega)) (h1 := decide_eq_true (by omega)) (Dp := Dp) (Dq := Dq) (e1 := decide_eq_true q1) (e2 := decide_eq_true q2) (w1 := ws) (e3 := decide_eq_false (by omega)) (H := H)
    ·exact lp_02b (K := K) (Q1 := Q1) (Q2 := Q2) (C := C) (B1 := B1) (B2 := B2) (g0 := decide_eq_false (by omega)) (g1 := decide_eq_false (by omega)) (g2 := decide_eq_false (by omega)) (h0 := decide_eq_true (by omega)) (h1 := decide_eq_true (by omega)) (Dp := Dp) (Dq := Dq) (e1 := decide_eq_true q1) (e2 := decide_eq_false (by omega)) (H := H)
   ·exact lp_02a (K := K) (Q1 := Q1) (Q2 := Q2) (C := C) (B1 := B1) (B2 := B2) (g0 := decide_eq_false (by omega)) (g1 := decide_eq_false (by omega)) (g2 := decide_eq_false (by omega)) (h0 := decide_eq_true (by omega)) (h1 := decide_eq_true (by omega)) (Dp := Dp) (Dq := Dq) (e1 := decide_eq_false (by omega)) (H := H)
 ·have Dp := vDegree a b 0
  have Dq := vDegree d e f
  have bp := dgQ_in a b 0
  have bq := dgQ_in d e f
  have ws := sum_in a b 0 d e f
  have ep := (by exact qV2_eq _ _ : qV a b 0 = qV2 a b)
  have eq := (by rfl : qV d e f = qV d e f)
  by_cases hh : hiQ a b 0 d e f
  ·have M := uMul0 a b 0 d e f hh
   obtain ⟨q1, q2, q3⟩ := hh
   rw [ep] at Dp M
   rw [eq] at Dq M
   exact lp_10h (K := K) (Q1 := Q1) (Q2 := Q2) (C := C) (B1 := B1) (B2 := B2) (g0 := decide_eq_true (by omega)) (g1 := decide_eq_false (by omega)) (g2 := decide_eq_false (by omega)) (h0 := decide_eq_false (by omega)) (h1 := decide_eq_false (by omega)) (Dp := Dp) (Dq := Dq) (e1 := decide_eq_true q1) (e2 := decide_eq_true q2) (w1 := ws) (e3 := decide_eq_true q3) (M := M)
  ·have H := prOk a b 0 d e f r hh
   unfold hiQ at hh
   rw [ep] at Dp H
   rw [eq] at Dq H
   by_cases q1 : 0 ≤ dgQ a b 0
   ·by_cases q2 : 0 ≤ dgQ d e f
    ·exact lp_10c (K := K) (Q1 := Q1) (Q2 := Q2) (C := C) (B1 := B1) (B2 := B2) (g0 := decide_eq_true (by omega)) (g1 := decide_eq_false (by omega)) (g2 := decide_eq_false (by omega)) (h0 := decide_eq_false (by omega)) (h1 := decide_eq_false (by omega)) (Dp := Dp) (Dq := Dq) (e1 := decide_eq_true q1) (e2 := decide_eq_true q2) (w1 := ws) (e3 := decide_eq_false (by omega)) (H := H)
    ·exact lp_10b (K := K) (Q1 := Q1) (Q2 := Q2) (C := C) (B1 := B1) (B2 := B2) (g0 := decide_eq_true (by omega)) (g1 := decide_eq_false (by omega)) (g2 := decide_eq_false (by omega)) (h0 := decide_eq_false (by omega)) (h1 := decide_eq_false (by omega)) (Dp := Dp) (Dq := Dq) (e1 := decide_eq_true q1) (e2 := decide_eq_false (by omega)) (H := H)
   ·exact lp_10a (K := K) (Q1 := Q1) (Q2 := Q2) (C := C) (B1 := B1) (B2 := B2) (g0 := decide_eq_true (by omega)) (g1 := decide_eq_false (by omega)) (g2 := decide_eq_false (by omega)) (h0 := decide_eq_false (by omega)) (h1 := decide_eq_false (by omega)) (Dp := Dp) (Dq := Dq) (e1 := decide_eq_false (by omega)) (H := H)
 ·have Dp := vDegree a b 0
  have Dq := vDegree d e 0
  have bp := dgQ_in a b 0
  have bq := dgQ_in d e 0
  have ws := sum_in a b 0 d e 0
  have ep := (by exact qV2_eq _ _ : qV a b 0 = qV2 a b)
  have eq := (by exact qV2_eq _ _ : qV d e 0 = qV2 d e)
  by_cases hh : hiQ a b 0 d e 0
  ·have M := uMul0 a b 0 d e 0 hh
   obtain ⟨q1, q2, q3⟩ := hh
   rw [ep] at Dp M
   rw [eq] at Dq M
   exact lp_11h (K := K) (Q1 := Q1) (Q2 := Q2) (C := C) (B1 := B1) (B2 := B2) (g0 := decide_eq_true (by omega)) (g1 := decide_eq_false (by omega)) (g2 := decide_eq_false (by omega)) (h0 := decide_eq_true (by omega)) (h1 := decide_eq_false (by omega)) (Dp := Dp) (Dq := Dq) (e1 := decide_eq_true q1) (e2 := decide_eq_true q2) (w1 := ws) (e3 := decide_eq_true q3) (M := M)
  ·have H := prOk a b 0 d e 0 r hh
   unfold hiQ at hh
   rw [ep] at Dp H
   rw [eq] at Dq H
   by_cases q1 : 0 ≤ dgQ a b 0
   ·by_cases q2 : 0 ≤ dgQ d e 0
    ·exact lp_11c (K := K) (Q1 := Q1) (Q2 := Q2) (C := C) (B1 := B1) (B2 := B2) (g0 := decide_eq_true (by omega)) (g1 := decide_eq_false (by omega)) (g2 := decide_eq_false (by omega)) (h0 := decide_eq_true (by omega)) (h1 := decide_eq_false (by omega)) (Dp := Dp) (Dq := Dq) (e1 := decide_eq_true q1) (e2 := decide_eq_true q2) (w1 := ws) (e3 := decide_eq_false (by omega)) (H := H)
    ·exact lp_11b (K := K) (Q1 := Q1) (Q2 := Q2) (C := C) (B1 := B1) (B2 := B2) (g0 := decide_eq_true (by omega)) (g1 := decide_eq_false (by omega)) (g2 := decide_eq_false (by omega)) (h0 := decide_eq_true (by omega)) (h1 := decide_eq_false (by omega)) (Dp := Dp) (Dq := Dq) (e1 := decide_eq_true q1) (e2 := decide_eq_false (by omega)) (H := H)
   ·exact lp_11a (K := K) (Q1 := Q1) (Q2 := Q2) (C := C) (B1 := B1) (B2 := B2) (g0 := decide_eq_true (by omega)) (g1 := decide_eq_false (by omega)) (g2 := decide_eq_false (by omega)) (h0 := decide_eq_true (by omega)) (h1 := decide_eq_false (by omega)) (Dp := Dp) (Dq := Dq) (e1 := decide_eq_false (by omega)) (H := H)
 ·have Dp := vDegree a b 0
  have Dq := vDegree d 0 0
  have bp := dgQ_in a b 0
  have bq := dgQ_in d 0 0
  have ws := sum_in a b 0 d 0 0
  have ep := (by exact qV2_eq _ _ : qV a b 0 = qV2 a b)
  have eq := (by exact qV1_eq _ : qV d 0 0 = qV1 d)
  by_cases hh : hiQ a b 0 d 0 0
  ·have M := uMul0 a b 0 d 0 0 hh
   obtain ⟨q1, q2, q3⟩ := hh
   rw [ep] at Dp M
   rw [eq] at Dq M
   exact lp_12h (K := K) (Q1 := Q1) (Q2 := Q2) (C := C) (B1 := B1) (B2 := B2) (g0 := decide_eq_true (by omega)) (g1 := decide_eq_false (by omega)) (g2 := decide_eq_false (by omega)) (h0 := decide_eq_true (by omega)) (h1 := decide_eq_true (by omega)) (Dp := Dp) (Dq := Dq) (e1 := decide_eq_true q1) (e2 := decide_eq_true q2) (w1 := ws) (e3 := decide_eq_true q3) (M := M)
  ·have H := prOk a b 0 d 0 0 r hh
   unfold hiQ at hh
   rw [ep] at Dp H
   rw [eq] at Dq H
   by_cases q1 : 0 ≤ dgQ a b 0
   ·by_cases q2 : 0 ≤ dgQ d 0 0
    ·exact lp_12c (K := K) (Q1 := Q1) (Q2 := Q2) (C := C) (B1 := B1) (B2 := B2) (g0 := decide_eq_true (by omega)) (g1 := decide_eq_false (by omega)) (g2 := decide_eq_false (by omega)) (h0 := decide_eq_true (by omega)) (h1 := decide_eq_true (by omega)) (Dp := Dp) (Dq := Dq) (e1 := decide_eq_true q1) (e2 := decide_eq_true q2) (w1 := ws) (e3 := decide_eq_false (by omega)) (H := H)
    ·exact lp_12b (K := K) (Q1 := Q1) (Q2 := Q2) (C := C) (B1 := B1) (B2 := B2) (g0 := decide_eq_true (by omega)) (g1 := decide_eq_false (by omega)) (g2 := decide_eq_false (by omega)) (h0 := decide_eq_true (by omega)) (h1 := decide_eq_true (by omega)) (Dp := Dp) (Dq := Dq) (e1 := decide_eq_true q1) (e2 := decide_eq_false (by omega)) (H := H)
   ·exact lp_12a (K := K) (Q1 := Q1) (Q2 := Q2) (C := C) (B1 := B1) (B2 := B2) (g0 := decide_eq_true (by omega)) (g1 := decide_eq_false (by omega)) (g2 := decide_eq_false (by omega)) (h0 := decide_eq_true (by omega)) (h1 := decide_eq_true (by omega)) (Dp := Dp) (Dq := Dq) (e1 := decide_eq_false (by omega)) (H := H)
 ·have Dp := vDegree a 0 0
  have Dq := vDegree d e f
  have bp := dgQ_in a 0 0
  have bq := dgQ_in d e f
  have ws := sum_in a 0 0 d e f
  have ep := (by exact qV1_eq _ : qV a 0 0 = qV1 a)
  have eq := (by rfl : qV d e f = qV d e f)
  by_cases hh : hiQ a 0 0 d e f
  ·have M := uMul0 a 0 0 d e f hh
   obtain ⟨q1, q2, q3⟩ := hh
   rw [ep] at Dp M
   rw [eq] at Dq M
   exact lp_20h (K := K) (Q1 := Q1) (Q2 := Q2) (C := C) (B1 := B1) (B2 := B2) (g0 := decide_eq_true (by omega)) (g1 := decide_eq_true (by omega)) (g2 := decide_eq_false (by omega)) (h0 := decide_eq_false (by omega)) (h1 := decide_eq_false (by omega)) (Dp := Dp) (Dq := Dq) (e1 := decide_eq_true q1) (e2 := decide_eq_true q2) (w1 := ws) (e3 := decide_eq_true q3) (M := M)
  ·have H := prOk a 0 0 d e f r hh
   unfold hiQ at hh
   rw [ep] at Dp H
   rw [eq] at Dq H
   by_cases q1 : 0 ≤ dgQ a 0 0
   ·by_cases q2 : 0 ≤ dgQ d e f
    ·exact lp_20c (K := K) (Q1 := Q1) (Q2 := Q2) (C := C) (B1 := B1) (B2 := B2) (g0 := decide_eq_true (by omega)) (g1 := decide_eq_true (by omega)) (g2 := decide_eq_false (by omega)) (h0 := decide_eq_false (by omega)) (h1 := decide_eq_false (by omega)) (Dp := Dp) (Dq := Dq) (e1 := decide_eq_true q1) (e2 := decide_eq_true q2) (w1 := ws) (e3 := decide_eq_false (by omega)) (H := H)
    ·exact lp_20b (K := K) (Q1 := Q1) (Q2 := Q2) (C := C) (B1 := B1) (B2 := B2) (g0 := decide_eq_true (by omega)) (g1 := decide_eq_true (by omega)) (g2 := decide_eq_false (by omega)) (h0 := decide_eq_false (by omega)) (h1 := decide_eq_false (by omega)) (Dp := Dp) (Dq := Dq) (e1 := decide_eq_true q1) (e2 := decide_eq_false (by omega)) (H := H)
   ·exact lp_20a (K := K) (Q1 := Q1) (Q2 := Q2) (C := C) (B1 := B1) (B2 := B2) (g0 := decide_eq_true (by omega)) (g1 := decide_eq_true (by omega)) (g2 := decide_eq_false (by omega)) (h0 := decide_eq_false (by omega)) (h1 := decide_eq_false (by omega)) (Dp := Dp) (Dq := Dq) (e1 := decide_eq_false (by omega)) (H := H)
 ·have Dp := vDegree a 0 0
  have Dq := vDegree d e 0
  have bp := dgQ_in a 0 0
  have bq := dgQ_in d e 0
  have ws := sum_in a 0 0 d e 0
  have ep := (by exact qV1_eq _ : qV a 0 0 = qV1 a)
  have eq := (by exact qV2_eq _ _ : qV d e 0 = qV2 d e)
  by_cases hh : hiQ a 0 0 d e 0
  ·have M := uMul0 a 0 0 d e 0 hh
   obtain ⟨q1, q2, q3⟩ := hh
   rw [ep] at Dp M
   rw [eq] at Dq M
   exact lp_21h (K := K) (Q1 := Q1) (Q2 := Q2) (C := C) (B1 := B1) (B2 := B2) (g0 := decide_eq_true (by omega)) (g1 := decide_eq_true (by omega)) (g2 := decide_eq_false (by omega)) (h0 := decide_eq_true (by omega)) (h1 := decide_eq_false (by omega)) (Dp := Dp) (Dq := Dq) (e1 := decide_eq_true q1) (e2 := decide_eq_true q2) (w1 := ws) (e3 := decide_eq_true q3) (M := M)
  ·have H := prOk a 0 0 d e 0 r hh
   unfold hiQ at hh
   rw [ep] at Dp H
   rw [eq] at Dq H
   by_cases q1 : 0 ≤ dgQ a 0 0
   ·by_cases q2 : 0 ≤ dgQ d e 0
    ·exact lp_21c (K := K) (Q1 := Q1) (Q2 := Q2) (C := C) (B1 := B1) (B2 := B2) (g0 := decide_eq_true (by omega)) (g1 := decide_eq_true (by omega)) (g2 := decide_eq_false (by omega)) (h0 := decide_eq_true (by omega)) (h1 := decide_eq_false (by omega)) (Dp := Dp) (Dq := Dq) (e1 := decide_eq_true q1) (e2 := decide_eq_true q2) (w1 := ws) (e3 := decide_eq_false (by omega)) (H := H)
    ·exact lp_21b (K := K) (Q1 := Q1) (Q2 := Q2) (C := C) (B1 := B1) (B2 := B2) (g0 := decide_eq_true (by omega)) (g1 := decide_eq_true (by omega)) (g2 := decide_eq_false (by omega)) (h0 := decide_eq_true (by omega)) (h1 := decide_eq_false (by omega)) (Dp := Dp) (Dq := Dq) (e1 := decide_eq_true q1) (e2 := decide_eq_false (by omega)) (H := H)
   ·exact lp_21a (K := K) (Q1 := Q1) (Q2 := Q2) (C := C) (B1 := B1) (B2 := B2) (g0 := decide_eq_true (by omega)) (g1 := decide_eq_true (by omega)) (g2 := decide_eq_false (by omega)) (h0 := decide_eq_true (by omega)) (h1 := decide_eq_false (by omega)) (Dp := Dp) (Dq := Dq) (e1 := decide_eq_false (by omega)) (H := H)
 ·have Dp := vDegree a 0 0
  have Dq := vDegree d 0 0
  have bp := dgQ_in a 0 0
  have bq := dgQ_in d 0 0
  have ws := sum_in a 0 0 d 0 0
  have ep := (by exact qV1_eq _ : qV a 0 0 = qV1 a)
  have eq := (by exact qV1_eq _ : qV d 0 0 = qV1 d)
  by_cases hh : hiQ a 0 0 d 0 0
  ·have M := uMul0 a 0 0 d 0 0 hh
   obtain ⟨q1, q2, q3⟩ := hh
   rw [ep] at Dp M
   rw [eq] at Dq M
   exact lp_22h (K := K) (Q1 := Q1) (Q2 := Q2) (C := C) (B1 := B1) (B2 := B2) (g0 := decide_eq_true (by omega)) (g1 := decide_eq_true (by omega)) (g2 := decide_eq_false (by omega)) (h0 := decide_eq_true (by omega)) (h1 := decide_eq_true (by omega)) (Dp := Dp) (Dq := Dq) (e1 := decide_eq_true q1) (e2 := decide_eq_true q2) (w1 := ws) (e3 := decide_eq_true q3) (M := M)
  ·have H := prOk a 0 0 d 0 0 r hh
   unfold hiQ at hh
   rw [ep] at Dp H
   rw [eq] at Dq H
   by_cases q1 : 0 ≤ dgQ a 0 0
   ·by_cases q2 : 0 ≤ dgQ d 0 0
    ·exact lp_22c (K := K) (Q1 := Q1) (Q2 := Q2) (C := C) (B1 := B1) (B2 := B2) (g0 := decide_eq_true (by omega)) (g1 := decide_eq_true (by omega)) (g2 := decide_eq_false (by omega)) (h0 := decide_eq_true (by omega)) (h1 := decide_eq_true (by omega)) (Dp := Dp) (Dq := Dq) (e1 := decide_eq_true q1) (e2 := decide_eq_true q2) (w1 := ws) (e3 := decide_eq_false (by omega)) (H := H)
    ·exact lp_22b (K := K) (Q1 := Q1) (Q2 := Q2) (C := C) (B1 := B1) (B2 := B2) (g0 := decide_eq_true (by omega)) (g1 := decide_eq_true (by omega)) (g2 := decide_eq_false (by omega)) (h0 := decide_eq_true (by omega)) (h1 := decide_eq_true (by omega)) (Dp := Dp) (Dq := Dq) (e1 := decide_eq_true q1) (e2 := decide_eq_false (by omega)) (H := H)
   ·exact lp_22a (K := K) (Q1 := Q1) (Q2 := Q2) (C := C) (B1 := B1) (B2 := B2) (g0 := decide_eq_true (by omega)) (g1 := decide_eq_true (by omega)) (g2 := decide_eq_false (by omega)) (h0 := decide_eq_true (by omega)) (h1 := decide_eq_true (by omega)) (Dp := Dp) (Dq := Dq) (e1 := decide_eq_false (by omega)) (H := H)
 ·have Dp := vDegree 0 0 0
  have Dq := vDegree d e f
  have bp := dgQ_in 0 0 0
  have bq := dgQ_in d e f
  have ws := sum_in 0 0 0 d e f
  have ep := (by exact qV0 : qV 0 0 0 = qZ)
  have eq := (by rfl : qV d e f = qV d e f)
  by_cases hh : hiQ 0 0 0 d e f
  ·have M := uMul0 0 0 0 d e f hh
   obtain ⟨q1, q2, q3⟩ := hh
   rw [ep] at Dp M
   rw [eq] at Dq M
   exact lp_30h (K := K) (Q1 := Q1) (Q2 := Q2) (C := C) (B1 := B1) (B2 := B2) (g0 := decide_eq_true (by omega)) (g1 := decide_eq_true (by omega)) (g2 := decide_eq_true (by omega)) (h0 := decide_eq_false (by omega)) (h1 := decide_eq_false (by omega)) (Dp := Dp) (Dq := Dq) (e1 := decide_eq_true q1) (e2 := decide_eq_true q2) (w1 := ws) (e3 := decide_eq_true q3) (M := M)
  ·have H := prOk 0 0 0 d e f r hh
   unfold hiQ at hh
   rw [ep] at Dp H
   rw [eq] at Dq H
   by_cases q1 : 0 ≤ dgQ 0 0 0
   ·by_cases q2 : 0 ≤ dgQ d e f
    ·exact lp_30c (K := K) (Q1 := Q1) (Q2 := Q2) (C := C) (B1 := B1) (B2 := B2) (g0 := decide_eq_true (by omega)) (g1 := decide_eq_true (by omega)) (g2 := decide_eq_true (by omega)) (h0 := decide_eq_false (by omega)) (h1 := decide_eq_false (by omega)) (Dp := Dp) (Dq := Dq) (e1 := decide_eq_true q1) (e2 := decide_eq_true q2) (w1 := ws) (e3 := decide_eq_false (by omega)) (H := H)
    ·exact lp_30b (K := K) (Q1 := Q1) (Q2 := Q2) (C := C) (B1 := B1) (B2 := B2) (g0 := decide_eq_true (by omega)) (g1 := decide_eq_true (by omega)) (g2 := decide_eq_true (by omega)) (h0 := decide_eq_false (by omega)) (h1 := decide_eq_false (by omega)) (Dp := Dp) (Dq := Dq) (e1 := decide_eq_true q1) (e2 := decide_eq_false (by omega)) (H := H)
   ·exact lp_30a (K := K) (Q1 := Q1) (Q2 := Q2) (C := C) (B1 := B1) (B2 := B2) (g0 := decide_eq_true (by omega)) (g1 := decide_eq_true (by omega)) (g2 := decide_eq_true (by omega)) (h0 := decide_eq_false (by omega)) (h1 := decide_eq_false (by omega)) (Dp := Dp) (Dq := Dq) (e1 := decide_eq_false (by omega)) (H := H)
 ·have Dp := vDegree 0 0 0
  have Dq := vDegree d e 0
  have bp := dgQ_in 0 0 0
  have bq := dgQ_in d e 0
  have ws := sum_in 0 0 0 d e 0
  have ep := (by exact qV0 : qV 0 0 0 = qZ)
  have eq := (by exact qV2_eq _ _ : qV d e 0 = qV2 d e)
  by_cases hh : hiQ 0 0 0 d e 0
  ·have M := uMul0 0 0 0 d e 0 hh
   obtain ⟨q1, q2, q3⟩ := hh
   rw [ep] at Dp M
   rw [eq] at Dq M
   exact lp_31h (K := K) (Q1 := Q1) (Q2 := Q2) (C := C) (B1 := B1) (B2 := B2) (g0 := decide_eq_true (by omega)) (g1 := decide_eq_true (by omega)) (g2 := decide_eq_true (by omega)) (h0 := decide_eq_true (by omega)) (h1 := decide_eq_false (by omega)) (Dp := Dp) (Dq := Dq) (e1 := decide_eq_true q1) (e2 := decide_eq_true q2) (w1 := ws) (e3 := decide_eq_true q3) (M := M)
  ·have H := prOk 0 0 0 d e 0 r hh
   unfold hiQ at hh
   rw [ep] at Dp H
   rw [eq] at Dq H
   by_cases q1 : 0 ≤ dgQ 0 0 0
   ·by_cases q2 : 0 ≤ dgQ d e 0
    ·exact lp_31c (K := K) (Q1 := Q1) (Q2 := Q2) (C := C) (B1 := B1) (B2 := B2) (g0 := decide_eq_true (by omega)) (g1 := decide_eq_true (by omega)) (g2 := decide_eq_true (by omega)) (h0 := decide_eq_true (by omega)) (h1 := decide_eq_false (by omega)) (Dp := Dp) (Dq := Dq) (e1 := decide_eq_true q1) (e2 := decide_eq_true q2) (w1 := ws) (e3 := decide_eq_false (by omega)) (H := H)
    ·exact lp_31b (K := K) (Q1 := Q1) (Q2 := Q2) (C := C) (B1 := B1) (B2 := B2) (g0 := decide_eq_true (by omega)) (g1 := decide_eq_true (by omega)) (g2 := decide_eq_true (by omega)) (h0 := decide_eq_true (by omega)) (h1 := decide_eq_false (by omega)) (Dp := Dp) (Dq := Dq) (e1 := decide_eq_true q1) (e2 := decide_eq_false (by omega)) (H := H)
   ·exact lp_31a (K := K) (Q1 := Q1) (Q2 := Q2) (C := C) (B1 := B1) (B2 := B2) (g0 := decide_eq_true (by omega)) (g1 := decide_eq_true (by omega)) (g2 := decide_eq_true (by omega)) (h0 := decide_eq_true (by omega)) (h1 := decide_eq_false (by omega)) (Dp := Dp) (Dq := Dq) (e1 := decide_eq_false (by omega)) (H := H)
 ·have Dp := vDegree 0 0 0
  have Dq := vDegree d 0 0
  have bp := dgQ_in 0 0 0
  have bq := dgQ_in d 0 0
  have ws := sum_in 0 0 0 d 0 0
  have ep := (by exact qV0 : qV 0 0 0 = qZ)
  have eq := (by exact qV1_eq _ : qV d 0 0 = qV1 d)
  by_cases hh : hiQ 0 0 0 d 0 0
  ·have M := uMul0 0 0 0 d 0 0 hh
   obtain ⟨q1, q2, q3⟩ := hh
   rw [ep] at Dp M
   rw [eq] at Dq M
   exact lp_32h (K := K) (Q1 := Q1) (Q2 := Q2) (C := C) (B1 := B1) (B2 := B2) (g0 := decide_eq_true (by omega)) (g1 := decide_eq_true (by omega)) (g2 := decide_eq_true (by omega)) (h0 := decide_eq_true (by omega)) (h1 := decide_eq_true (by omega)) (Dp := Dp) (Dq := Dq) (e1 := decide_eq_true q1) (e2 := decide_eq_true q2) (w1 := ws) (e3 := decide_eq_true q3) (M := M)
  ·have H := prOk 0 0 0 d 0 0 r hh
   unfold hiQ at hh
   rw [ep] at Dp H
   rw [eq] at Dq H
   by_cases q1 : 0 ≤ dgQ 0 0 0
   ·by_cases q2 : 0 ≤ dgQ d 0 0
    ·exact lp_32c (K := K) (Q1 := Q1) (Q2 := Q2) (C := C) (B1 := B1) (B2 := B2) (g0 := decide_eq_true (by omega)) (g1 := decide_eq_true (by omega)) (g2 := decide_eq_true (by omega)) (h0 := decide_eq_true (by omega)) (h1 := decide_eq_true (by omega)) (Dp := Dp) (Dq := Dq) (e1 := decide_eq_true q1) (e2 := decide_eq_true q2) (w1 := ws) (e3 := decide_eq_false (by omega)) (H := H)
    ·exact lp_32b (K := K) (Q1 := Q1) (Q2 := Q2) (C := C) (B1 := B1) (B2 := B2) (g0 := decide_eq_true (by omega)) (g1 := decide_eq_true (by omega)) (g2 := decide_eq_true (by omega)) (h0 := decide_eq_true (by omega)) (h1 := decide_eq_true (by omega)) (Dp := Dp) (Dq := Dq) (e1 := decide_eq_true q1) (e2 := decide_eq_false (by omega)) (H := H)
   ·exact lp_32a (K := K) (Q1 := Q1) (Q2 := Q2) (C := C) (B1 := B1) (B2 := B2) (g0 := decide_eq_true (by omega)) (g1 := decide_eq_true (by omega)) (g2 := decide_eq_true (by omega)) (h0 := decide_eq_true (by omega)) (h1 := decide_eq_true (by omega)) (Dp := Dp) (Dq := Dq) (e1 := decide_eq_false (by omega)) (H := H)
theorem rem4 (k : Int) (h : 0 ≤ k ∧ k ≤ 255) : ∃ i, Bin .rem 5 (.int .u8 k) (.int .u8 4) (.int .u8 i) ∧ 0 ≤ i ∧ i < 4 := by
 have B : Bin .rem 5 (bV k.toNat) (bV 4) (bV (k.toNat % 4)) := bin_rem8 k.toNat 4 (by omega) (by omega)
 refine ⟨((k.toNat % 4 : Nat) : Int), ?_, by omega, by omega⟩
 have e : bV k.toNat = .int .u8 k := by unfold bV; rw [show ((k.toNat : Nat) : Int) = k by omega]
 rw [e] at B
 exact B
theorem QuadraticProducts_s (n1 d1 n2 d2 n3 d3 n4 d4 n5 d5 n6 d6 k0 k1 n7 d7 : Int) (h1 : Cn n1 d1) (h2 : Cn n2 d2) (h3 : Cn n3 d3) (h4 : Cn n4 d4) (h5 : Cn n5 d5) (h6 : Cn n6 d6) (h7 : 0 ≤ k0 ∧ k0 ≤ 255) (h8 : 0 ≤ k1 ∧ k1 ≤ 255) (h9 : Cn n7 d7) : Sp Tryz.prog 15 [] [.agg #[.int .i16 n1, .int .u8 d1, .int .i16 n2, .int .u8 d2, .int .i16 n3, .int .u8 d3, .int .i16 n4, .int .u8 d4, .int .i16 n5, .int .u8 d5, .int .i16 n6, .int .u8 d6], .agg #[.int .u8 k0, .int .u8 k1], coV n7 d7] (.bool true) [] := by
 have Q1 := wQuad n1 d1 n2 d2 n3 d3 h1 h2 h3
 have Q2 := wQuad n4 d4 n5 d5 n6 d6 h4 h5 h6
 have C := wRat n7 d7 h9
 have z1 := cf_hs h1
 have z2 := cf_hs h2
 have z3 := cf_hs h3
 have z4 := cf_hs h4
 have z5 := cf_hs h5
 have z6 := cf_hs h6
 have z7 := cf_hs h9
 obtain ⟨i, B1, hi⟩ := rem4 k0 h7
 obtain ⟨j, B2, hj⟩ := rem4 k1 h8
 exact lp_all n1 d1 n2 d2 n3 d3 n4 d4 n5 d5 n6 d6 n7 d7 k0 k1 i j _ _ _ _ _ _ _ Q1 Q2 C B1 B2 hi hj
theorem QuadraticProducts_c (n1 d1 n2 d2 n3 d3 n4 d4 n5 d5 n6 d6 k0 k1 n7 d7 : Int) (w : World) (hw : w.ShapedOpen Tryz.prog) (h1 : Cn n1 d1) (h2 : Cn n2 d2) (h3 : Cn n3 d3) (h4 : Cn n4 d4) (h5 : Cn n5 d5) (h6 : Cn n6 d6) (h7 : 0 ≤ k0 ∧ k0 ≤ 255) (h8 : 0 ≤ k1 ∧ k1 ≤ 255) (h9 : Cn n7 d7) : Calls Tryz.prog 15 #[.agg #[.int .i16 n1, .int .u8 d1, .int .i16 n2, .int .u8 d2, .int .i16 n3, .int .u8 d3, .int .i16 n4, .int .u8 d4, .int .i16 n5, .int .u8 d5, .int .i16 n6, .int .u8 d6], .agg #[.int .u8 k0, .int .u8 k1], coV n7 d7] w fun e w' => e = .returned (.bool true) ∧ Below w.heap.size w w' := (QuadraticProducts_s n1 d1 n2 d2 n3 d3 n4 d4 n5 d5 n6 d6 k0 k1 n7 d7 h1 h2 h3 h4 h5 h6 h7 h8 h9).calls rfl rfl w hw
end Go.Proofs.YtlblfgbpogljoaaGreatDoor

end
