import Derived.Test.YthdaimoankaciaaGreatDoorQs
import Derived.Test.YthdaimoankaciaaGreatDoorRl
/- Sizes of fractions, found by instances; the least and the greatest of fractions; the sign of a fraction. -/
set_option linter.unusedSimpArgs false
set_option linter.unusedVariables false
namespace Vi
class HasSz (q : Rat) (k : outParam Nat) : Prop where
 sz : Sz k q
instance (p q : Rat) (i j : Nat) [h : HasSz p i] [g : HasSz q j] : HasSz (p + q) (i + j + 1) := ⟨h.sz.add g.sz⟩
instance (p q : Rat) (i j : Nat) [h : HasSz p i] [g : HasSz q j] : HasSz (p - q) (i + j + 1) := ⟨h.sz.sub g.sz⟩
instance (p q : Rat) (i j : Nat) [h : HasSz p i] [g : HasSz q j] : HasSz (p * q) (i + j) := ⟨h.sz.mul g.sz⟩
instance (p : Rat) (i : Nat) [h : HasSz p i] : HasSz (-p) i := ⟨h.sz.neg⟩
theorem lt_pow_self (n : Nat) : n < 256 ^ (n + 1) := by
 induction n with
 | zero => decide
 | succ n ih => rw [Nat.pow_succ]; omega
theorem int_hs (z : Int) (k : Nat) (h : z.natAbs < 256 ^ (k + 1)) : HasSz (z : Rat) (k + 1) :=
 ⟨by rw [Rat.num_intCast]; exact h, by rw [Rat.den_intCast, Nat.pow_succ]; have := Nat.pow_pos (a := 256) (n := k) (by omega); omega⟩
instance (n : Nat) : HasSz (no_index (OfNat.ofNat n : Rat)) (n + 1) := by
 have := int_hs (n : Int) n (by simpa using lt_pow_self n)
 exact this
instance : HasSz (0 : Rat) 1 := ⟨by unfold Sz; decide⟩
instance : HasSz (1 : Rat) 1 := ⟨by unfold Sz; decide⟩
instance : HasSz (2 : Rat) 1 := ⟨by unfold Sz; decide⟩
instance : HasSz (4 : Rat) 1 := ⟨by unfold Sz; decide⟩
theorem hs_div (p q : Rat) (i j : Nat) [h : HasSz p i] [g : HasSz q j] (h0 : q ≠ 0) : HasSz (p / q) (i + j) := ⟨h.sz.div g.sz (fun e => h0 (Rat.num_eq_zero.1 e))⟩
theorem hs_mono {p : Rat} {i j : Nat} (h : HasSz p i) (hij : i ≤ j) : HasSz p j := ⟨h.sz.mono hij⟩
def minQ (p q : Rat) : Rat := if p ≤ q then p else q
def maxQ (p q : Rat) : Rat := if q ≤ p then p else q
instance (p q : Rat) (i j : Nat) [h : HasSz p i] [g : HasSz q j] : HasSz (minQ p q) (i + j) := by
 unfold minQ; split
 ·exact hs_mono h (by omega)
 ·exact hs_mono g (by omega)
instance (p q : Rat) (i j : Nat) [h : HasSz p i] [g : HasSz q j] : HasSz (maxQ p q) (i + j) := by
 unfold maxQ; split
 ·exact hs_mono h (by omega)
 ·exact hs_mono g (by omega)
theorem minQ_self (p : Rat) : minQ p p = p := by unfold minQ; split <;> rfl
theorem maxQ_self (p : Rat) : maxQ p p = p := by unfold maxQ; split <;> rfl
end Vi
namespace Go.Proofs.YthdaimoankaciaaGreatDoor
open Go Go.RowKit Go.Sy
open Vi
theorem fz {q : Rat} {k : Nat} [h : HasSz q k] (hk : k ≤ 131000 := by first | omega | decide) : Fits q := h.sz.fits hk
theorem cmpI_sg (p : Rat) : cmpI p.num 0 = sgQ p := by
 rcases sgn_cases p with ⟨h1, h2⟩ | ⟨h1, h2⟩ | ⟨h1, h2⟩ <;> rcases sgQ_cases p with ⟨g1, g2⟩ | ⟨g1, g2⟩ | ⟨g1, g2⟩ <;> rw [h1, g1] <;> grind
theorem cmpQ_sg (p q : Rat) : cmpQ p q = sgQ (p - q) := by
 rcases cmpQ_cases p q with ⟨h1, h2⟩ | ⟨h1, h2⟩ | ⟨h1, h2⟩ <;> rcases sgQ_cases (p - q) with ⟨g1, g2⟩ | ⟨g1, g2⟩ | ⟨g1, g2⟩ <;> rw [h1, g1] <;> grind
theorem cmpQ_lss {p q : Rat} {b : Bool} (h : decide (p < q) = b) : decide (cmpQ p q < 0) = b := by
 rw [← h]
 rcases cmpQ_cases p q with ⟨h1, h2⟩ | ⟨h1, h2⟩ | ⟨h1, h2⟩ <;> rw [h1]
 ·rw [show decide (p < q) = true from decide_eq_true (by grind)]; rfl
 ·rw [show decide (p < q) = false from decide_eq_false (by grind)]; rfl
 ·rw [show decide (p < q) = false from decide_eq_false (by grind)]; rfl
theorem cmpQ_gtr {p q : Rat} {b : Bool} (h : decide (q < p) = b) : decide (cmpQ p q > 0) = b := by
 rw [← h]
 rcases cmpQ_cases p q with ⟨h1, h2⟩ | ⟨h1, h2⟩ | ⟨h1, h2⟩ <;> rw [h1]
 ·rw [show decide (q < p) = false from decide_eq_false (by grind)]; rfl
 ·rw [show decide (q < p) = false from decide_eq_false (by grind)]; rfl
 ·rw [show decide (q < p) = true from decide_eq_true (by grind)]; rfl
theorem cmpQ_leq {p q : Rat} {b : Bool} (h : decide (p ≤ q) = b) : decide (cmpQ p q ≤ 0) = b := by
 rw [← h]
 rcases cmpQ_cases p q with ⟨h1, h2⟩ | ⟨h1, h2⟩ | ⟨h1, h2⟩ <;> rw [h1]
 ·rw [show decide (p ≤ q) = true from decide_eq_true (by grind)]; rfl
 ·rw [show decide (p ≤ q) = true from decide_eq_true (by grind)]; rfl
 ·rw [show decide (p ≤ q) = false from decide_eq_false (by grind)]; rfl
theorem cmpQ_geq {p q : Rat} {b : Bool} (h : decide (q ≤ p) = b) : decide (cmpQ p q ≥ 0) = b := by
 rw [← h]
 rcases cmpQ_cases p q with ⟨h1, h2⟩ | ⟨h1, h2⟩ | ⟨h1, h2⟩ <;> rw [h1]
 ·rw [show decide (q ≤ p) = false from decide_eq_false (by grind)]; rfl
 ·rw [show decide (q ≤ p) = true from decide_eq_true (by grind)]; rfl
 ·rw [show decide (q ≤ p) = true from decide_eq_true (by grind)]; rfl
theorem cmpQ_self (p : Rat) : cmpQ p p = 0 := by
 rcases cmpQ_cases p p with ⟨h1, h2⟩ | ⟨h1, h2⟩ | ⟨h1, h2⟩
 ·exact absurd h2 Rat.lt_irrefl
 ·exact h1
 ·exact absurd h2 Rat.lt_irrefl
def oV (l h : Rat) : Value := .agg #[.bool (sg l.num), .string (mg l.num), .bool (sg (dn l)), .string (mg (dn l)), .bool (sg h.num), .string (mg h.num), .bool (sg (dn h)), .string (mg (dn h))]
def oZ : Value := .agg #[.bool false, .string ⟨#[]⟩, .bool false, .string ⟨#[]⟩, .bool false, .string ⟨#[]⟩, .bool false, .string ⟨#[]⟩]
end Go.Proofs.YthdaimoankaciaaGreatDoor
