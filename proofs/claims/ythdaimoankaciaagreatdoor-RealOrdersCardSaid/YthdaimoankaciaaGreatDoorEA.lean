import Derived.Test.YthdaimoankaciaaGreatDoorFz
import Derived.Test.YthdaimoankaciaaGreatDoorIntL
import Derived.Test.YthdaimoankaciaaGreatDoorRefM
/- Equality of structs, field by field; of bounds. -/
set_option linter.unusedSimpArgs false
set_option linter.unusedVariables false
namespace Go.Sy
open Go Go.RowKit
section
variable {P : Program}
inductive FE (P : Program) (d : Nat) (xs ys : Array Value) : List (TypeId × Nat) → Bool → Prop where
 | nil : FE P d xs ys [] true
 | cons {t : TypeId} {off : Nat} {l : List (TypeId × Nat)} {a b : Value} {r q : Bool} (ha : pureRun P (part t xs off) = some a) (hb : pureRun P (part t ys off) = some b)
     (hr : ∀ w, (Op.equalIn d t a b).run P w = .ok r w) (h : FE P d xs ys l q) : FE P d xs ys ((t, off) :: l) (r && q)
theorem FE.run {d : Nat} {xs ys : Array Value} : ∀ {fs : List Field} {l : List (TypeId × Nat)} {q : Bool}, fs.map (fun f => (f.name == "_", f.type, f.offset)) = l.map (fun p => (false, p.1, p.2)) → FE P d xs ys l q →
    ∀ w, (Op.eqFields d xs ys fs).run P w = .ok q w
 | [], [], _, _, h, w => by cases h; rfl
 | f :: fs, [], _, hm, _, _ => by simp at hm
 | [], _ :: _, _, hm, _, _ => by simp at hm
 | f :: fs, _ :: l, _, hm, h, w => by
  cases h with
  | cons ha hb hr h =>
   rename_i t off a b r q
   simp only [List.map_cons, List.cons.injEq, Prod.mk.injEq] at hm
   obtain ⟨⟨h1, h2, h3⟩, hm⟩ := hm
   have hn : f.name ≠ "_" := by simpa using h1
   have ih := FE.run hm h w
   simp only [Op.eqFields, if_pos hn, Sem.run_bind, h2, h3, pureRun_run ha, pureRun_run hb, Result.andThen_ok, hr]
   cases r
   ·simp
   ·simp [ih]
theorem eqStruct {d : Nat} {t : TypeId} {xs ys : Array Value} {l : List (TypeId × Nat)} {q : Bool} (ht : P.underlying t = some (.struct (P.fieldsOf t))) (hp : P.stoodInHeld t = false)
    (hm : (P.fieldsOf t).toList.map (fun f => (f.name == "_", f.type, f.offset)) = l.map (fun p => (false, p.1, p.2))) (h : FE P d xs ys l q) (w : World) : (Op.equalIn (d + 1) t (.agg xs) (.agg ys)).run P w = .ok q w := by
 rw [run_equalIn_agg _ _ _ _ _ ht hp]
 exact h.run hm w
end
end Go.Sy
namespace Go.Proofs.YthdaimoankaciaaGreatDoor
open Go Go.RowKit Go.Sy
open Vi
theorem binS {T : TypeId} {xs ys : Array Value} {q : Bool} (h : ∀ w, (Op.equalIn 10000 T (.agg xs) (.agg ys)).run Tryz.prog w = .ok q w) (hg : Tryz.prog.eqGuardType Tryz.prog.depth T = false) : Bin .eql T (.agg xs) (.agg ys) (.bool q) := fun ox oy w => by
 rw [Sem.run_bind, run_eqGuard_agg _ _ _ _ _ _ _ hg, Result.andThen_ok, run_eql_struct, h]
 rfl
theorem binS' {T : TypeId} {xs ys : Array Value} {q : Bool} (h : ∀ w, (Op.equalIn 10000 T (.agg xs) (.agg ys)).run Tryz.prog w = .ok q w) (hg : Tryz.prog.eqGuardType Tryz.prog.depth T = false) : Bin .neq T (.agg xs) (.agg ys) (.bool (!q)) := fun ox oy w => by
 rw [Sem.run_bind, run_eqGuard_agg _ _ _ _ _ _ _ hg, Result.andThen_ok, run_neq_struct, h]
 rfl
theorem oV0 : oV 0 0 = oZ := by
 have := rV0
 unfold rV rZ at this
 unfold oV oZ
 simp only [Value.agg.injEq, Array.mk.injEq, List.cons.injEq, and_true] at this
 obtain ⟨h1, h2, h3, h4⟩ := this
 rw [h1, h2, h3, h4]
end Go.Proofs.YthdaimoankaciaaGreatDoor
set_option linter.unusedSimpArgs false
set_option linter.unusedVariables false
namespace Go.Proofs.YthdaimoankaciaaGreatDoor
open Go Go.RowKit Go.Sy
open Vi
end Go.Proofs.YthdaimoankaciaaGreatDoor
set_option linter.unusedSimpArgs false
set_option linter.unusedVariables false
namespace Go.Proofs.YthdaimoankaciaaGreatDoor
open Go Go.RowKit Go.Sy
open Vi
def lsQ (x y : Rat) : Rat := if y < x then y else x
def grQ (x y : Rat) : Rat := if x < y then y else x
theorem lsQ_cases (x y : Rat) : (decide (y < x) = true ∧ lsQ x y = y) ∨ (decide (y < x) = false ∧ lsQ x y = x) := by
 unfold lsQ
 by_cases h : y < x
 ·exact .inl ⟨decide_eq_true h, if_pos h⟩
 ·exact .inr ⟨decide_eq_false h, if_neg h⟩
theorem grQ_cases (x y : Rat) : (decide (x < y) = true ∧ grQ x y = y) ∨ (decide (x < y) = false ∧ grQ x y = x) := by
 unfold grQ
 by_cases h : x < y
 ·exact .inl ⟨decide_eq_true h, if_pos h⟩
 ·exact .inr ⟨decide_eq_false h, if_neg h⟩
instance (p q : Rat) (i j : Nat) [h : HasSz p i] [g : HasSz q j] : HasSz (lsQ p q) (i + j) := by
 unfold lsQ; split
 ·exact hs_mono g (by omega)
 ·exact hs_mono h (by omega)
instance (p q : Rat) (i j : Nat) [h : HasSz p i] [g : HasSz q j] : HasSz (grQ p q) (i + j) := by
 unfold grQ; split
 ·exact hs_mono g (by omega)
 ·exact hs_mono h (by omega)
theorem rCmp0 (p : Rat) (hp : Fits p) : Sp Tryz.prog 71 [] [rV p, rV p] (nV 0) [] := by
 have := rCompare p p hp hp
 rwa [cmpQ_self] at this
end Go.Proofs.YthdaimoankaciaaGreatDoor
set_option linter.unusedSimpArgs false
set_option linter.unusedVariables false
namespace Go.Proofs.YthdaimoankaciaaGreatDoor
open Go Go.RowKit Go.Sy
open Vi
theorem part_sz (n d : Int) (hn : -2147483648 ≤ n ∧ n ≤ 2147483647) (hd : 0 ≤ d ∧ d ≤ 65535) : HasSz (Rat.divInt n (d + 1)) 4 := by
 have e : (256 : Nat) ^ 4 = 4294967296 := by decide
 exact ⟨Sz.of n (d + 1) 4 (by omega) (by omega) (by omega)⟩
theorem divInt1 (n : Int) : Rat.divInt n 1 = (n : Rat) := by rw [Rat.divInt_eq_div]; show (n : Rat) / 1 = n; grind
end Go.Proofs.YthdaimoankaciaaGreatDoor
set_option linter.unusedSimpArgs false
set_option linter.unusedVariables false
namespace Go.Proofs.YthdaimoankaciaaGreatDoor
open Go Go.RowKit Go.Sy
open Vi
theorem minmax2 (a b : Rat) : minQ a b = lsQ a b ∧ maxQ a b = grQ a b := by
 unfold minQ maxQ lsQ grQ
 constructor <;> split <;> split <;> grind
def sqLow (l h : Rat) : Rat := if l ≤ 0 ∧ 0 ≤ h then 0 else minQ (l * l) (h * h)
theorem inv1 (x : Rat) (h0 : x ≠ 0) (hx : Fits x) : Sp Tryz.prog 134 [] [rV 1, rV x] (.tuple #[rV (1 / x), nV 0]) [] := pDiv 1 x h0 Fits.one hx
end Go.Proofs.YthdaimoankaciaaGreatDoor
set_option linter.unusedSimpArgs false
set_option linter.unusedVariables false
namespace Go.Proofs.YthdaimoankaciaaGreatDoor
open Go Go.RowKit Go.Sy
open Vi
def stP (a z : Int) (n i : Nat) : St := ⟨23, 0, [(4, ptr 1 0), (6, ptr 2 0), (2, ptr 0 0), (15, nV n), (16, nV i)], junk, [(0, blk 23 [.bool (sg a), .string (mg a)]), (1, blk 23 [.bool false, .string ⟨#[]⟩]), (2, blk 23 [.bool (sg z), .string (mg z)])], 3⟩
end Go.Proofs.YthdaimoankaciaaGreatDoor
set_option linter.unusedSimpArgs false
set_option linter.unusedVariables false
namespace Go.Proofs.YthdaimoankaciaaGreatDoor
open Go Go.RowKit Go.Sy
open Vi
noncomputable def isq (X : Nat) : Nat := Classical.choose (isRt_ex X)
theorem isq_spec (X : Nat) : IsRt X (isq X) := Classical.choose_spec (isRt_ex X)
theorem iSqrt (x : Int) (h0 : 0 ≤ x) (hx : (mg x).size ≤ 1048576) : Sp Tryz.prog 106 [] [iV x] (.tuple #[iV ((isq x.toNat : Nat) : Int), nV 0]) [] := by
 have h := isq_spec x.toNat
 have e : x.natAbs = x.toNat := by omega
 exact Sp.of (fun xs w => Tryz.call106 xs w) (by kernel_rfl) (by kernel_rfl) (fun w => Sqrt_c x (isq x.toNat) h0 (by rw [e]; exact h.1) (by rw [e]; exact h.2) w hx)
theorem jSqrt (x : Int) (h0 : 0 ≤ x) (hx : (mg x).size ≤ 1048576) : Sp Tryz.prog 113 [] [iV x] (iV ((isq x.toNat : Nat) : Int)) [] := by
 have h := isq_spec x.toNat
 have e : x.natAbs = x.toNat := by omega
 exact Sp.of (fun xs w => Tryz.call113 xs w) (by kernel_rfl) (by kernel_rfl) (fun w => rSqrt_c x (isq x.toNat) h0 (by rw [e]; exact h.1) (by rw [e]; exact h.2) w hx)
def p2 (n : Nat) : Int := 2 ^ n
theorem p2_pos (n : Nat) : 0 < p2 n := Int.pow_pos (by omega)
theorem p2_abs (n k : Nat) (h : n < 8 * k) : (p2 n).natAbs < 256 ^ k := by
 unfold p2
 rw [Int.natAbs_pow, pow8]
 exact Nat.pow_lt_pow_right (by decide) h
theorem p2_size (n k : Nat) (h : n < 8 * k) : (mg (p2 n)).size ≤ k := size_mag_le _ k (p2_abs n k h)
theorem p2_even (n : Nat) (h : n % 2 = 0) : (4 : Int) ^ (n / 2) = p2 n := by
 unfold p2
 rw [show (4 : Int) = 2 ^ 2 from rfl, ← Int.pow_mul]
 congr 1; omega
theorem p2_odd (n : Nat) (h : n % 2 = 1) : (4 : Int) ^ (n / 2) * 2 = p2 n := by
 unfold p2
 rw [show (4 : Int) = 2 ^ 2 from rfl, ← Int.pow_mul, ← Int.pow_succ]
 congr 1; omega
theorem p2_four (k : Nat) : (4 : Int) ^ k = p2 (2 * k) := by unfold p2; rw [Int.pow_mul]; rfl
noncomputable def rtI (a : Rat) (n : Nat) : Int := ((isq (a * ((p2 n * p2 n : Int) : Rat)).floor.toNat : Nat) : Int)
noncomputable def gridQ (a : Rat) (n : Nat) : Rat := Rat.divInt (rtI a n) (p2 n)
noncomputable def highQ (a : Rat) (n : Nat) : Rat := if gridQ a n * gridQ a n = a then gridQ a n else gridQ a n + Rat.divInt 1 (p2 n)
theorem rtI_le (a : Rat) (n : Nat) (h0 : 0 ≤ a) : 0 ≤ rtI a n ∧ ((rtI a n * rtI a n : Int) : Rat) ≤ a * ((p2 n * p2 n : Int) : Rat) ∧ a * ((p2 n * p2 n : Int) : Rat) < (((rtI a n + 1) * (rtI a n + 1) : Int) : Rat) := by
 have hP : 0 < p2 n * p2 n := Int.mul_pos (p2_pos n) (p2_pos n)
 have hs : 0 ≤ a * ((p2 n * p2 n : Int) : Rat) := Rat.mul_nonneg h0 (by exact_mod_cast Int.le_of_lt hP)
 unfold rtI
 generalize a * ((p2 n * p2 n : Int) : Rat) = x at *
 have hf : 0 ≤ x.floor := Rat.le_floor_iff.2 hs
 obtain ⟨h1, h2⟩ := isq_spec x.floor.toNat
 generalize isq x.floor.toNat = r at *
 refine ⟨by omega, ?_, ?_⟩
 ·refine Rat.le_floor_iff.1 ?_
  have : ((r * r : Nat) : Int) ≤ x.floor := by omega
  rwa [Int.natCast_mul] at this
 ·refine Rat.floor_lt_iff.1 ?_
  have : x.floor < (((r + 1) * (r + 1) : Nat) : Int) := by omega
  rwa [Int.natCast_mul, Int.natCast_add] at this
theorem rtI_nd (a : Rat) (n : Nat) (h0 : 0 ≤ a) (hn : n ≤ 256) [ha : HasSz a 40] : (rtI a n).natAbs < 256 ^ 110 := by
 have hP := p2_pos n
 have h1 := rtI_le a n h0
 have hs : Sz 108 (a * ((p2 n * p2 n : Int) : Rat)) := by
  have hp : (p2 n).natAbs < 256 ^ 33 := p2_abs n 33 (by omega)
  have hpp : (p2 n * p2 n).natAbs < 256 ^ (65 + 1) := by
   have := natAbs_mul_lt' hp hp
   exact this
  have := ha.sz.mul (int_hs (p2 n * p2 n) 65 hpp).sz
  exact this.mono (by omega)
 have hf : (a * ((p2 n * p2 n : Int) : Rat)).floor.natAbs < 256 ^ 109 := by
  rw [floor_of]
  have h2 := hs.1
  have h3 : (a * ((p2 n * p2 n : Int) : Rat)).num / ((a * ((p2 n * p2 n : Int) : Rat)).den : Int) ≤ _ := Int.le_refl _
  have h4 := Int.natAbs_ediv_le_natAbs (a * ((p2 n * p2 n : Int) : Rat)).num ((a * ((p2 n * p2 n : Int) : Rat)).den : Int)
  have h5 : (256 : Nat) ^ 109 = 256 ^ 108 * 256 := Nat.pow_succ ..
  omega
 have h6 := isq_spec (a * ((p2 n * p2 n : Int) : Rat)).floor.toNat
 unfold rtI
 have h7 := Nat.le_mul_self (isq (a * ((p2 n * p2 n : Int) : Rat)).floor.toNat)
 have h8 : (256 : Nat) ^ 110 = 256 ^ 109 * 256 := Nat.pow_succ ..
 have h9 := h6.1
 omega
theorem gridQ_nonneg (a : Rat) (n : Nat) (h0 : 0 ≤ a) : 0 ≤ gridQ a n := Rat.divInt_nonneg (rtI_le a n h0).1 (Int.le_of_lt (p2_pos n))
theorem gridQ_sz (a : Rat) (n : Nat) (h0 : 0 ≤ a) (hn : n ≤ 256) [ha : HasSz a 40] : HasSz (gridQ a n) 110 := by
 have h1 := rtI_nd a n h0 hn
 have h2 := Nat.lt_of_lt_of_le (p2_abs n 33 (by omega)) (Nat.pow_le_pow_right (by omega) (show 33 ≤ 110 by omega))
 exact ⟨Sz.of _ _ 110 (by have := p2_pos n; omega) h1 h2⟩
theorem step_sz (n : Nat) (hn : n ≤ 256) : HasSz (Rat.divInt 1 (p2 n)) 33 :=
 ⟨Sz.of _ _ 33 (by have := p2_pos n; omega) (Nat.lt_of_lt_of_le (show (1 : Int).natAbs < 256 ^ 1 by decide) (Nat.pow_le_pow_right (by omega) (by omega))) (p2_abs n 33 (by omega))⟩
theorem highQ_sz (a : Rat) (n : Nat) (h0 : 0 ≤ a) (hn : n ≤ 256) [ha : HasSz a 40] : HasSz (highQ a n) 144 := by
 haveI := gridQ_sz a n h0 hn
 haveI := step_sz n hn
 unfold highQ
 split
 ·exact hs_mono ‹HasSz (gridQ a n) 110› (by omega)
 ·exact inferInstance
end Go.Proofs.YthdaimoankaciaaGreatDoor
set_option linter.unusedSimpArgs false
set_option linter.unusedVariables false
namespace Go.Proofs.YthdaimoankaciaaGreatDoor
open Go Go.RowKit Go.Sy
open Vi
theorem jFromInt (n : Int) (h1 : -9223372036854775808 ≤ n) (h2 : n ≤ 9223372036854775807) : Sp Tryz.prog 112 [] [nV n] (iV n) [] := Sp.of (fun xs w => Tryz.call112 xs w) (by kernel_rfl) (by kernel_rfl) (fun w => rFromInt_c n w h1 h2)
theorem p2_succ (n : Nat) : p2 n + p2 n = p2 (n + 1) := by unfold p2; rw [Int.pow_succ]; omega
def stPw (n i : Nat) : St := ⟨16, 0, [(0, nV n), (2, ptr 0 0), (3, ptr 1 0), (4, nV i)], junk, [(0, blk 25 [.bool false, .string ⟨#[]⟩, .bool false, .string ⟨#[]⟩]), (1, blk 23 [.bool (sg (p2 i)), .string (mg (p2 i))])], 2⟩
theorem grid_div (a : Rat) (n : Nat) : ((rtI a n : Int) : Rat) / ((p2 n : Int) : Rat) = gridQ a n := (Rat.divInt_eq_div ..).symm
theorem p2_rat (n : Nat) : 0 < ((p2 n : Int) : Rat) := by exact_mod_cast p2_pos n
theorem high_eq (a : Rat) (n : Nat) (h0 : 0 ≤ a) : (decide (((rtI a n : Int) : Rat) * ((rtI a n : Int) : Rat) < a * ((p2 n * p2 n : Int) : Rat)) = true ∧ highQ a n = (((rtI a n : Int) : Rat) + 1) / ((p2 n : Int) : Rat)) ∨
    (decide (((rtI a n : Int) : Rat) * ((rtI a n : Int) : Rat) < a * ((p2 n * p2 n : Int) : Rat)) = false ∧ highQ a n = ((rtI a n : Int) : Rat) / ((p2 n : Int) : Rat)) := by
 obtain ⟨h1, h2, h3⟩ := rtI_le a n h0
 have hp := p2_rat n
 have hg := grid_div a n
 rw [Rat.intCast_mul] at h2
 have hpp : ((p2 n * p2 n : Int) : Rat) = ((p2 n : Int) : Rat) * ((p2 n : Int) : Rat) := Rat.intCast_mul ..
 have hst : Rat.divInt 1 (p2 n) = 1 / ((p2 n : Int) : Rat) := Rat.divInt_eq_div ..
 rw [hpp] at h2 ⊢
 unfold highQ
 rw [hst, ← hg]
 clear hst hg h3 hpp
 generalize ((rtI a n : Int) : Rat) = r at *
 generalize ((p2 n : Int) : Rat) = p at *
 have hpi : p * p⁻¹ = 1 := Rat.mul_inv_cancel _ (by grind)
 by_cases hx : r / p * (r / p) = a
 ·right
  rw [if_pos hx]
  refine ⟨decide_eq_false ?_, rfl⟩
  have : a * (p * p) = r * r := by rw [← hx, Rat.div_def]; grind
  grind
 ·left
  rw [if_neg hx]
  refine ⟨decide_eq_true ?_, ?_⟩
  ·by_cases h : r * r < a * (p * p)
   ·exact h
   ·have h := Rat.le_antisymm h2 (Rat.not_lt.1 h)
    exfalso; apply hx
    have e : r / p * (r / p) = r * r * (p⁻¹ * p⁻¹) := by rw [Rat.div_def]; grind
    rw [e, h]; grind
  ·rw [Rat.div_def, Rat.div_def, Rat.div_def]; grind
end Go.Proofs.YthdaimoankaciaaGreatDoor
set_option linter.unusedSimpArgs false
set_option linter.unusedVariables false
namespace Go.Proofs.YthdaimoankaciaaGreatDoor
open Go Go.RowKit Go.Sy
open Vi
theorem isq_eq {X r : Nat} (h : IsRt X r) : isq X = r := sqrt_unique (isq_spec X).1 (isq_spec X).2 h.1 h.2
theorem k5a : minQ (minQ (minQ (((-2 : Int) : Rat) * ((-1 : Int) : Rat)) (((-2 : Int) : Rat) * ((4 : Int) : Rat))) (((3 : Int) : Rat) * ((-1 : Int) : Rat))) (((3 : Int) : Rat) * ((4 : Int) : Rat)) = ((-8 : Int) : Rat) := by decide +kernel
theorem k5b : maxQ (maxQ (maxQ (((-2 : Int) : Rat) * ((-1 : Int) : Rat)) (((-2 : Int) : Rat) * ((4 : Int) : Rat))) (((3 : Int) : Rat) * ((-1 : Int) : Rat))) (((3 : Int) : Rat) * ((4 : Int) : Rat)) = ((12 : Int) : Rat) := by decide +kernel
theorem k5c : sqLow ((-2 : Int) : Rat) ((3 : Int) : Rat) = ((0 : Int) : Rat) := by decide +kernel
theorem k5d : maxQ (((-2 : Int) : Rat) * ((-2 : Int) : Rat)) (((3 : Int) : Rat) * ((3 : Int) : Rat)) = ((9 : Int) : Rat) := by decide +kernel
theorem k5e : minQ (minQ (minQ (((1 : Int) : Rat) * (1 / ((-2 : Int) : Rat))) (((1 : Int) : Rat) * (1 / ((-4 : Int) : Rat)))) (((2 : Int) : Rat) * (1 / ((-2 : Int) : Rat)))) (((2 : Int) : Rat) * (1 / ((-4 : Int) : Rat))) = Rat.divInt (-1) 1 := by decide +kernel
theorem k5f : maxQ (maxQ (maxQ (((1 : Int) : Rat) * (1 / ((-2 : Int) : Rat))) (((1 : Int) : Rat) * (1 / ((-4 : Int) : Rat)))) (((2 : Int) : Rat) * (1 / ((-2 : Int) : Rat)))) (((2 : Int) : Rat) * (1 / ((-4 : Int) : Rat))) = Rat.divInt (-1) 4 := by decide +kernel
theorem k5g : gridQ ((2 : Int) : Rat) 3 = Rat.divInt 11 8 := by
 unfold gridQ rtI
 rw [show (((2 : Int) : Rat) * ((p2 3 * p2 3 : Int) : Rat)).floor.toNat = 128 by decide +kernel, isq_eq (X := 128) (r := 11) ⟨by decide, by decide⟩]
 decide +kernel
theorem k5h : highQ ((2 : Int) : Rat) 3 = Rat.divInt 3 2 := by
 unfold highQ
 rw [k5g, if_neg (by decide +kernel)]
 decide +kernel
def PairOk (n1 d1 n2 d2 : Int) : Prop := (-2147483648 ≤ n1 ∧ n1 ≤ 2147483647) ∧ (0 ≤ d1 ∧ d1 ≤ 65535) ∧ (-2147483648 ≤ n2 ∧ n2 ≤ 2147483647) ∧ (0 ≤ d2 ∧ d2 ≤ 65535)
def pairV (n1 d1 n2 d2 : Int) : Value := .agg #[.int .i32 n1, .int .u16 d1, .int .i32 n2, .int .u16 d2]
end Go.Proofs.YthdaimoankaciaaGreatDoor
